/- Plain arithmetic of the sum of thirty-two bits, of no program. -/
namespace Go.Proofs.Ytoihfamiclbffaa.Crc

/-- A word of thirty-two bitN as a number of the model. -/
def num (c : BitVec 32) : Int := (c.toNat : Int)
def poly : BitVec 32 := 0xEDB88320#32
/-- One bit. -/
def bit1 (c : BitVec 32) : BitVec 32 := (c >>> 1) ^^^ (if c.getLsbD 0 then poly else 0#32)
def bitN (n : Nat) (c : BitVec 32) : BitVec 32 := Nat.repeat bit1 n c
def tab (i : Nat) : BitVec 32 :=
  [0x00000000#32, 0x1DB71064#32, 0x3B6E20C8#32, 0x26D930AC#32, 0x76DC4190#32, 0x6B6B51F4#32, 0x4DB26158#32, 0x5005713C#32,
   0xEDB88320#32, 0xF00F9344#32, 0xD6D6A3E8#32, 0xCB61B38C#32, 0x9B64C2B0#32, 0x86D3D2D4#32, 0xA00AE278#32, 0xBDBDF21C#32].getD i 0#32
def ix (c : BitVec 32) : Nat := (c &&& 15#32).toNat
def nib (c : BitVec 32) : BitVec 32 := (c >>> 4) ^^^ tab (ix c)
def w32 (x : UInt8) : BitVec 32 := BitVec.ofNat 32 x.toNat
def byteT (c : BitVec 32) (x : UInt8) : BitVec 32 := nib (nib (c ^^^ w32 x))
def run (c : BitVec 32) (l : List UInt8) : BitVec 32 := l.foldl byteT c
def more (s : BitVec 32) (l : List UInt8) : BitVec 32 := ~~~ (run (~~~ s) l)

theorem xlc (a b c : BitVec 32) : a ^^^ (b ^^^ c) = b ^^^ (a ^^^ c) := by rw [← BitVec.xor_assoc, BitVec.xor_comm a b, BitVec.xor_assoc]
theorem xself (a b : BitVec 32) : a ^^^ (a ^^^ b) = b := by rw [← BitVec.xor_assoc, BitVec.xor_self, BitVec.zero_xor]

theorem ix_lt (c : BitVec 32) : ix c < 16 := by
  unfold ix
  rw [BitVec.toNat_and]
  exact Nat.lt_of_le_of_lt Nat.and_le_right (by decide)

theorem bit1_xor (a b : BitVec 32) : bit1 (a ^^^ b) = bit1 a ^^^ bit1 b := by
  unfold bit1
  have h : (a ^^^ b).getLsbD 0 = (a.getLsbD 0 ^^ b.getLsbD 0) := by simp
  rw [h, BitVec.ushiftRight_xor_distrib]
  cases a.getLsbD 0 <;> cases b.getLsbD 0
  · simp
  · simp [BitVec.xor_assoc]
  · simp only [Bool.xor_false, if_true, Bool.false_eq_true, if_false, BitVec.xor_zero]
    rw [BitVec.xor_assoc, BitVec.xor_assoc, BitVec.xor_comm poly]
  · simp only [Bool.xor_self, if_true, Bool.false_eq_true, if_false, BitVec.xor_zero]
    rw [BitVec.xor_assoc, xlc poly, BitVec.xor_self, BitVec.xor_zero]
theorem bit1_zero : bit1 0#32 = 0#32 := by decide
theorem bitN_zero (n : Nat) : bitN n 0#32 = 0#32 := by
  induction n with
  | zero => rfl
  | succ n ih => show bit1 (bitN n 0#32) = _; rw [ih, bit1_zero]
theorem bitN_succ (n : Nat) (c : BitVec 32) : bitN (n + 1) c = bit1 (bitN n c) := rfl
theorem bitN_succ' (n : Nat) (c : BitVec 32) : bitN (n + 1) c = bitN n (bit1 c) := by
  induction n with
  | zero => rfl
  | succ n ih => rw [bitN_succ, ih, bitN_succ]
theorem bitN_add (m n : Nat) (c : BitVec 32) : bitN (m + n) c = bitN m (bitN n c) := by
  induction m with
  | zero => rw [Nat.zero_add]; rfl
  | succ m ih => rw [Nat.succ_add, bitN_succ, ih, bitN_succ]
theorem bitN_xor (n : Nat) (a b : BitVec 32) : bitN n (a ^^^ b) = bitN n a ^^^ bitN n b := by
  induction n with
  | zero => rfl
  | succ n ih => rw [bitN_succ, ih, bit1_xor, bitN_succ, bitN_succ]

/-- One bit can be undone. -/
def unbit (c : BitVec 32) : BitVec 32 := if c.getLsbD 31 then ((c ^^^ poly) <<< 1) ||| 1#32 else c <<< 1
theorem unbit_bit1 (c : BitVec 32) : unbit (bit1 c) = c := by
  unfold unbit bit1
  have p31 : poly.getLsbD 31 = true := by decide
  cases h : c.getLsbD 0 with
  | true =>
    have h31 : ((c >>> 1) ^^^ poly).getLsbD 31 = true := by
      rw [BitVec.getLsbD_xor, p31, BitVec.getLsbD_ushiftRight, BitVec.getLsbD_of_ge c (1 + 31) (by omega)]; rfl
    simp only [if_true, h31]
    rw [BitVec.xor_assoc, BitVec.xor_self, BitVec.xor_zero]
    apply BitVec.eq_of_getLsbD_eq
    intro i hi
    rw [BitVec.getLsbD_or, BitVec.getLsbD_shiftLeft]
    cases i with
    | zero => simp [h]
    | succ i => simp [BitVec.getLsbD_ushiftRight, hi, Nat.add_comm]
  | false =>
    have h31 : ((c >>> 1) ^^^ 0#32).getLsbD 31 = false := by
      rw [BitVec.getLsbD_xor, BitVec.getLsbD_ushiftRight, BitVec.getLsbD_of_ge c (1 + 31) (by omega)]; simp
    simp only [Bool.false_eq_true, if_false, h31]
    rw [BitVec.xor_zero]
    apply BitVec.eq_of_getLsbD_eq
    intro i hi
    rw [BitVec.getLsbD_shiftLeft]
    cases i with
    | zero => rw [h]; simp
    | succ i => simp [BitVec.getLsbD_ushiftRight, hi, Nat.add_comm]
theorem bit1_inj {a b : BitVec 32} (h : bit1 a = bit1 b) : a = b := by
  have := congrArg unbit h
  rwa [unbit_bit1, unbit_bit1] at this
theorem bitN_inj {n : Nat} {a b : BitVec 32} (h : bitN n a = bitN n b) : a = b := by
  induction n with
  | zero => exact h
  | succ n ih => exact ih (bit1_inj h)

/-- Four bitN are a row of the table. -/
theorem bits4_low : ∀ i, i < 16 → bitN 4 (BitVec.ofNat 32 i) = tab i := by decide
theorem bit1_shift (c : BitVec 32) (h : c.getLsbD 0 = false) : bit1 c = c >>> 1 := by
  unfold bit1; rw [h]; simp
theorem nib_bits (c : BitVec 32) : nib c = bitN 4 c := by
  have hs : c = (c &&& ~~~ 15#32) ^^^ (c &&& 15#32) := by
    apply BitVec.eq_of_getLsbD_eq
    intro i hi
    simp only [BitVec.getLsbD_xor, BitVec.getLsbD_and, BitVec.getLsbD_not, hi, decide_true, Bool.true_and]
    cases c.getLsbD i <;> cases (15#32).getLsbD i <;> rfl
  have hlo : bitN 4 (c &&& 15#32) = tab (ix c) := by
    rw [← bits4_low (ix c) (ix_lt c)]
    congr 1
    unfold ix
    rw [BitVec.ofNat_toNat, BitVec.setWidth_eq]
  have hz : ∀ i, i < 4 → (c &&& ~~~ 15#32).getLsbD i = false := by
    intro i hi
    rw [BitVec.getLsbD_and, BitVec.getLsbD_not]
    have : (15#32).getLsbD i = true := by
      match i, hi with
      | 0, _ => decide
      | 1, _ => decide
      | 2, _ => decide
      | 3, _ => decide
    rw [this]; simp
  have hhi : bitN 4 (c &&& ~~~ 15#32) = c >>> 4 := by
    have e1 : bitN 1 (c &&& ~~~ 15#32) = (c &&& ~~~ 15#32) >>> 1 := bit1_shift _ (hz 0 (by omega))
    have e2 : bitN 2 (c &&& ~~~ 15#32) = (c &&& ~~~ 15#32) >>> 2 := by
      rw [bitN_succ, e1, bit1_shift _ (by rw [BitVec.getLsbD_ushiftRight]; exact hz 1 (by omega)), ← BitVec.shiftRight_add]
    have e3 : bitN 3 (c &&& ~~~ 15#32) = (c &&& ~~~ 15#32) >>> 3 := by
      rw [bitN_succ, e2, bit1_shift _ (by rw [BitVec.getLsbD_ushiftRight]; exact hz 2 (by omega)), ← BitVec.shiftRight_add]
    have e4 : bitN 4 (c &&& ~~~ 15#32) = (c &&& ~~~ 15#32) >>> 4 := by
      rw [bitN_succ, e3, bit1_shift _ (by rw [BitVec.getLsbD_ushiftRight]; exact hz 3 (by omega)), ← BitVec.shiftRight_add]
    rw [e4]
    apply BitVec.eq_of_getLsbD_eq
    intro i hi
    rw [BitVec.getLsbD_ushiftRight, BitVec.getLsbD_ushiftRight, BitVec.getLsbD_and, BitVec.getLsbD_not]
    by_cases h : 4 + i < 32
    · have : (15#32).getLsbD (4 + i) = false := by
        rw [BitVec.getLsbD_ofNat]
        have : (15 : Nat).testBit (4 + i) = false := Nat.testBit_lt_two_pow (Nat.lt_of_lt_of_le (by decide : 15 < 2 ^ 4) (Nat.pow_le_pow_right (by decide) (by omega)))
        rw [this]; simp
      rw [this]; simp [h]
    · rw [BitVec.getLsbD_of_ge c (4 + i) (by omega)]; simp
  show (c >>> 4) ^^^ tab (ix c) = _
  conv => rhs; rw [hs]
  rw [bitN_xor, hlo, hhi]

theorem byteT_bits (c : BitVec 32) (x : UInt8) : byteT c x = bitN 8 (c ^^^ w32 x) := by
  unfold byteT
  rw [nib_bits, nib_bits, ← bitN_add]

theorem run_nil (c : BitVec 32) : run c [] = c := rfl
theorem run_cons (c : BitVec 32) (x : UInt8) (l : List UInt8) : run c (x :: l) = run (byteT c x) l := rfl
theorem run_append (c : BitVec 32) (a b : List UInt8) : run c (a ++ b) = run (run c a) b := List.foldl_append
theorem run_snoc (c : BitVec 32) (a : List UInt8) (x : UInt8) : run c (a ++ [x]) = byteT (run c a) x := by rw [run_append]; rfl
theorem not_not (c : BitVec 32) : ~~~ (~~~ c) = c := BitVec.not_not
theorem more_append (s : BitVec 32) (a b : List UInt8) : more (more s a) b = more s (a ++ b) := by
  unfold more; rw [not_not, run_append]
theorem more_nil (s : BitVec 32) : more s [] = s := by unfold more; rw [run_nil, not_not]
theorem not_inj {a b : BitVec 32} (h : ~~~ a = ~~~ b) : a = b := by have := congrArg (~~~ ·) h; simpa using this
theorem num_inj {a b : BitVec 32} (h : num a = num b) : a = b := by
  unfold num at h; exact BitVec.eq_of_toNat_eq (by exact_mod_cast h)
theorem num_nonneg (c : BitVec 32) : 0 ≤ num c := by unfold num; omega
theorem num_lt (c : BitVec 32) : num c < 4294967296 := by unfold num; have := c.isLt; omega

/-- The same bytes behind unlike ones. -/
theorem byteT_inj {a b : BitVec 32} {x : UInt8} (h : byteT a x = byteT b x) : a = b := by
  rw [byteT_bits, byteT_bits] at h
  have h' := bitN_inj h
  have e : a ^^^ w32 x ^^^ w32 x = b ^^^ w32 x ^^^ w32 x := by rw [h']
  simpa [BitVec.xor_assoc] using e
theorem run_inj {a b : BitVec 32} (l : List UInt8) (h : run a l = run b l) : a = b := by
  induction l generalizing a b with
  | nil => exact h
  | cons x l ih => exact byteT_inj (ih h)

theorem w32_xor (x y : UInt8) : w32 (x ^^^ y) = w32 x ^^^ w32 y := by
  unfold w32
  apply BitVec.eq_of_toNat_eq
  rw [BitVec.toNat_xor, BitVec.toNat_ofNat, BitVec.toNat_ofNat, BitVec.toNat_ofNat, UInt8.toNat_xor]
  have hx := x.toNat_lt; have hy := y.toNat_lt
  have hxy : x.toNat ^^^ y.toNat < 2 ^ 8 := Nat.xor_lt_two_pow hx hy
  rw [Nat.mod_eq_of_lt (by omega), Nat.mod_eq_of_lt (by omega), Nat.mod_eq_of_lt (by omega)]
/-- Of what is xored. -/
theorem run_xor (a b : BitVec 32) : ∀ (k l : List UInt8), k.length = l.length → run (a ^^^ b) (List.zipWith (· ^^^ ·) k l) = run a k ^^^ run b l := by
  intro k
  induction k generalizing a b with
  | nil => intro l hl; cases l with | nil => rfl | cons y l => simp at hl
  | cons x k ih =>
    intro l hl
    cases l with
    | nil => simp at hl
    | cons y l =>
      simp only [List.zipWith_cons_cons, run_cons]
      rw [← ih (byteT a x) (byteT b y) l (by simpa using hl)]
      congr 1
      rw [byteT_bits, byteT_bits, byteT_bits, ← bitN_xor]
      congr 1
      rw [w32_xor]
      rw [BitVec.xor_assoc, BitVec.xor_assoc, xlc b]
/-- Three rows, xored. -/
theorem more_mix (x a b c : List UInt8) (e : x = List.zipWith (· ^^^ ·) (List.zipWith (· ^^^ ·) a b) c) (hab : a.length = b.length) (hbc : b.length = c.length) :
    more 0#32 x = more 0#32 a ^^^ more 0#32 b ^^^ more 0#32 c := by
  unfold more
  have h3 : ~~~ 0#32 = (~~~ 0#32 ^^^ ~~~ 0#32) ^^^ ~~~ 0#32 := by decide
  rw [e]
  conv => lhs; rw [h3]
  rw [run_xor _ _ _ _ (by simp; omega), run_xor _ _ _ _ hab]
  apply BitVec.eq_of_getLsbD_eq
  intro i hi
  simp only [BitVec.getLsbD_not, BitVec.getLsbD_xor, hi, decide_true, Bool.true_and]
  cases (run (~~~ 0#32) a).getLsbD i <;> cases (run (~~~ 0#32) b).getLsbD i <;> cases (run (~~~ 0#32) c).getLsbD i <;> rfl

/-! ### Bits turned -/
theorem bitN_shift (c : BitVec 32) (n : Nat) (h : ∀ i, i < n → c.getLsbD i = false) : bitN n c = c >>> n := by
  induction n with
  | zero => simp [bitN]; rfl
  | succ n ih =>
    rw [bitN_succ, ih (fun i hi => h i (by omega)), bit1_shift _ (by rw [BitVec.getLsbD_ushiftRight]; exact h n (by omega)), ← BitVec.shiftRight_add]
theorem shl_low (t i : Nat) (hi : i < t) : ((1#32) <<< t).getLsbD i = false := by
  rw [BitVec.getLsbD_shiftLeft]; simp [hi]
theorem bitN_shl (t : Nat) (ht : t < 32) : bitN t (1#32 <<< t) = 1#32 := by
  rw [bitN_shift _ _ (shl_low t)]
  apply BitVec.eq_of_getLsbD_eq
  intro i hi
  rw [BitVec.getLsbD_ushiftRight, BitVec.getLsbD_shiftLeft]
  by_cases h : t + i < 32
  · simp [h]
  · have : i ≠ 0 := by omega
    simp [h, this]
/-- A bit turned, so many bits ahead of the end. -/
theorem bitN_at (n t : Nat) (ht : t < 32) (htn : t ≤ n) : bitN n (1#32 <<< t) = bitN (n - t) 1#32 := by
  obtain ⟨m, rfl⟩ : ∃ m, n = m + t := ⟨n - t, by omega⟩
  rw [bitN_add, bitN_shl t ht, Nat.add_sub_cancel]
theorem w32_zero : w32 0 = 0#32 := by decide
theorem byteT_add (c d : BitVec 32) (x : UInt8) : byteT (c ^^^ d) x = byteT c x ^^^ bitN 8 d := by
  rw [byteT_bits, byteT_bits, ← bitN_xor, BitVec.xor_assoc, BitVec.xor_assoc, BitVec.xor_comm d]
theorem byteT_zero (c : BitVec 32) : byteT c 0 = bitN 8 c := by rw [byteT_bits, w32_zero, BitVec.xor_zero]
theorem run_add (l : List UInt8) : ∀ c d : BitVec 32, run (c ^^^ d) l = run c l ^^^ bitN (8 * l.length) d := by
  induction l with
  | nil => intro c d; rfl
  | cons x l ih =>
    intro c d
    rw [run_cons, byteT_add, ih, run_cons, ← bitN_add]
    rfl
/-- Turned bits of one byte. -/
theorem run_set (l : List UInt8) : ∀ (c : BitVec 32) (j : Nat) (hj : j < l.length) (x : UInt8),
    run c (l.set j (l[j] ^^^ x)) = run c l ^^^ bitN (8 * (l.length - j)) (w32 x) := by
  induction l with
  | nil => intro c j hj; exact absurd hj (Nat.not_lt_zero j)
  | cons y l ih =>
    intro c j hj x
    cases j with
    | zero =>
      show run (byteT c (y ^^^ x)) l = run (byteT c y) l ^^^ _
      have e : byteT c (y ^^^ x) = byteT c y ^^^ bitN 8 (w32 x) := by
        rw [byteT_bits, byteT_bits, ← bitN_xor, w32_xor, BitVec.xor_assoc]
      rw [e, run_add, ← bitN_add]
      rfl
    | succ j =>
      have hj' : j < l.length := by simpa using hj
      show run (byteT c y) (l.set j (l[j] ^^^ x)) = run (byteT c y) l ^^^ _
      rw [ih _ j hj']
      congr 2
      simp
theorem w32_shl : ∀ t, t < 8 → w32 (UInt8.ofNat (2 ^ t)) = 1#32 <<< t := by decide
/-- One bit turned. -/
theorem run_flip (c : BitVec 32) (l : List UInt8) (k : Nat) (hk : k / 8 < l.length) :
    run c (l.set (k / 8) (l[k / 8] ^^^ UInt8.ofNat (2 ^ (k % 8)))) = run c l ^^^ bitN (8 * l.length - k) 1#32 := by
  rw [run_set, w32_shl _ (Nat.mod_lt _ (by decide)), bitN_at _ _ (by omega) (by omega)]
  congr 2
  omega
theorem one_ne (n : Nat) : bitN n 1#32 ≠ 0#32 := by
  intro h
  rw [← bitN_zero n] at h
  exact absurd (bitN_inj h) (by decide)

/-! ### A row of bits -/
def lowB (d : BitVec 32) (i : Nat) : BitVec 32 := (List.range i).foldl (fun acc j => if d.getLsbD j then acc ^^^ (1#32 <<< j) else acc) 0#32
theorem lowB_zero (d : BitVec 32) : lowB d 0 = 0#32 := rfl
theorem lowB_succ (d : BitVec 32) (i : Nat) : lowB d (i + 1) = if d.getLsbD i then lowB d i ^^^ (1#32 <<< i) else lowB d i := by
  unfold lowB
  rw [List.range_succ, List.foldl_append]
  rfl
theorem lowB_get (d : BitVec 32) (i k : Nat) (hk : k < 32) : (lowB d i).getLsbD k = (d.getLsbD k && decide (k < i)) := by
  induction i with
  | zero => simp [lowB_zero]
  | succ i ih =>
    rw [lowB_succ]
    have h1 : (1#32 <<< i).getLsbD k = decide (k = i) := by
      rw [BitVec.getLsbD_shiftLeft]
      by_cases h : k = i
      · subst h; simp [hk]
      · by_cases h2 : k < i
        · simp [h2, h]
        · have : k - i ≠ 0 := by omega
          simp [h, h2, this]
    cases hd : d.getLsbD i with
    | true =>
      simp only [if_true]
      rw [BitVec.getLsbD_xor, ih, h1]
      by_cases h : k = i
      · subst h; simp [hd]
      · have : (k < i + 1) ↔ (k < i) := by omega
        simp [h, this]
    | false =>
      simp only [Bool.false_eq_true, if_false]
      rw [ih]
      by_cases h : k = i
      · subst h; simp [hd]
      · have : (k < i + 1) ↔ (k < i) := by omega
        simp [this]
theorem lowB_all (d : BitVec 32) : lowB d 32 = d := by
  apply BitVec.eq_of_getLsbD_eq
  intro i hi
  rw [lowB_get d 32 i hi]
  simp [hi]
/-- A step of the burst. -/
theorem burst_step (d : BitVec 32) (n at_ i : Nat) (hi : i < 32) (h : at_ + 32 ≤ n) (c r : BitVec 32) (hb : d.getLsbD i = true)
    (hr : r = c ^^^ bitN (n - at_) (lowB d i)) : r ^^^ bitN (n - (at_ + i)) 1#32 = c ^^^ bitN (n - at_) (lowB d (i + 1)) := by
  rw [lowB_succ, if_pos hb, bitN_xor, bitN_at (n - at_) i hi (by omega), hr, BitVec.xor_assoc, Nat.sub_add_eq]

/-! ### The sum itself behind -/
def byte (c : BitVec 32) (k : Nat) : UInt8 := UInt8.ofNat ((c >>> k).toNat % 256)
def le4 (c : BitVec 32) : List UInt8 := [byte c 0, byte c 8, byte c 16, byte c 24]
theorem byte_bits (c : BitVec 32) (k i : Nat) (hi : i < 32) : (w32 (byte c k)).getLsbD i = (decide (i < 8) && c.getLsbD (k + i)) := by
  unfold w32 byte
  have e : (UInt8.ofNat ((c >>> k).toNat % 256)).toNat = (c >>> k).toNat % 2 ^ 8 := by
    rw [UInt8.toNat_ofNat']; omega
  rw [e, BitVec.getLsbD_ofNat, Nat.testBit_mod_two_pow]
  have : (c >>> k).toNat.testBit i = (c >>> k).getLsbD i := rfl
  rw [this, BitVec.getLsbD_ushiftRight]
  simp [hi]
theorem byteT_le (c d : BitVec 32) (k : Nat) : bitN 8 (c ^^^ (d >>> k)) = byteT c (byte d k) ^^^ (d >>> (k + 8)) := by
  have hs : d >>> k = w32 (byte d k) ^^^ ((d >>> (k + 8)) <<< 8) := by
    apply BitVec.eq_of_getLsbD_eq
    intro i hi
    rw [BitVec.getLsbD_xor, byte_bits d k i hi, BitVec.getLsbD_shiftLeft, BitVec.getLsbD_ushiftRight, BitVec.getLsbD_ushiftRight]
    by_cases h : i < 8
    · simp [h]
    · have : k + 8 + (i - 8) = k + i := by omega
      simp [h, hi, this]
  have hh : bitN 8 ((d >>> (k + 8)) <<< 8) = d >>> (k + 8) := by
    rw [bitN_shift _ _ (fun i hi => by rw [BitVec.getLsbD_shiftLeft]; simp [hi])]
    apply BitVec.eq_of_getLsbD_eq
    intro i hi
    simp only [BitVec.getLsbD_ushiftRight, BitVec.getLsbD_shiftLeft]
    by_cases h : 8 + i < 32
    · simp [h]
    · rw [BitVec.getLsbD_of_ge d (k + 8 + i) (by omega)]; simp [h]
  rw [hs, ← BitVec.xor_assoc, bitN_xor, hh, byteT_bits]
theorem run_le4 (c d : BitVec 32) : run c (le4 d) = bitN 32 (c ^^^ d) := by
  have h0 := byteT_le c d 0
  have h1 := byteT_le (byteT c (byte d 0)) d 8
  have h2 := byteT_le (byteT (byteT c (byte d 0)) (byte d 8)) d 16
  have h3 := byteT_le (byteT (byteT (byteT c (byte d 0)) (byte d 8)) (byte d 16)) d 24
  simp only [Nat.zero_add, Nat.reduceAdd, BitVec.ushiftRight_zero] at h0 h1 h2 h3
  have hz : d >>> 32 = 0#32 := by
    apply BitVec.eq_of_getLsbD_eq
    intro i hi
    rw [BitVec.getLsbD_ushiftRight, BitVec.getLsbD_of_ge d (32 + i) (by omega)]; simp
  rw [hz, BitVec.xor_zero] at h3
  show byteT (byteT (byteT (byteT c (byte d 0)) (byte d 8)) (byte d 16)) (byte d 24) = _
  have e : bitN 32 (c ^^^ d) = bitN 8 (bitN 8 (bitN 8 (bitN 8 (c ^^^ d)))) := by
    rw [← bitN_add, ← bitN_add, ← bitN_add]
  rw [e, h0, h1, h2, h3]
/-- Bytes with their own sum behind. -/
theorem more_own (l : List UInt8) : more 0#32 (l ++ le4 (more 0#32 l)) = 0x2144DF1C#32 := by
  unfold more
  rw [run_append, run_le4]
  have e : run (~~~ 0#32) l ^^^ ~~~ run (~~~ 0#32) l = BitVec.allOnes 32 := by
    apply BitVec.eq_of_getLsbD_eq
    intro i hi
    rw [BitVec.getLsbD_xor, BitVec.getLsbD_not, BitVec.getLsbD_allOnes]
    simp [hi]
  rw [e]
  decide
theorem num_eq (c : BitVec 32) : num c = (c.toNat : Int) := rfl
theorem num_of (a : Int) (h0 : 0 ≤ a) (h1 : a ≤ 4294967295) : ∃ c : BitVec 32, a = num c :=
  ⟨BitVec.ofNat 32 a.toNat, by rw [num_eq, BitVec.toNat_ofNat]; omega⟩
attribute [irreducible] num
end Go.Proofs.Ytoihfamiclbffaa.Crc
