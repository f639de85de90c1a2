/- Plain arithmetic of the sum of thirty-two bits, of no program. Journals, as plain data: numbers as bytes, pictures. What low comes to. Bytes, from the last on: what slices.Backward hands out. What number comes to. append of so many noughts (gc's append-of-make). How many noughts a picture wants. What the functions of package crc come to. Journals, as plain data: what their functions do to a disk. -/
import Derived.Test.YtnekelndcpmonaaMg1
import Derived.RangeFuncNested
import Derived.RangeFuncBound
import Derived.RangeFuncCalls
import Derived.RangeFuncLeaves
import Derived.Shelf.Abstract
import Derived.WalkKit
import Derived.OwnWalkIn
import Derived.TacticsInMore
import Derived.LoopNIn
import Derived.LoopIn
import Derived.Laws.CopyOwn
import Derived.RangeFuncBox
import Derived.Lib.AppendZerosOnto
import Derived.Test.YtnekelndcpmonaaProg
import Derived.KernelRfl
import Derived.Below
import Derived.Lib.Hide
import Derived.Test.YtnekelndcpmonaaMg3
set_option linter.all false
namespace Go.Proofs.Ytnekelndcpmonaa.Crc

/-- A word of thirty-two bitN as a number of the model. -/
def num (c : BitVec 32) : Int := (c.toNat : Int)
def poly : BitVec 32 := 0xEDB88320#32
/-- One bit. -/
def bit1 (c : BitVec 32) : BitVec 32 := (c >>> 1) ^^^ (if c.getLsbD 0 then poly else 0#32)
def bitN (n : Nat) (c : BitVec 32) : BitVec 32 := Nat.repeat bit1 n c
def tab (i : Nat) : BitVec 32 :=
  [0x00000000#32, 0x1DB71064#32, 0x3B6E20C8#32, 0x26D930AC#32, 0x76DC4190#32, 0x6B6B51F4#32, 0x4DB26158#32, 0x5005713C#32,
   0xEDB88320#32, 0xF00F9344#32, 0xD6D6A3E8#32, 0xCB61B38C#32, 0x9B64C2B0#32, 0x86D3D2D4#32, 0xA00AE278#32, 0xBDBDF21C#32].getD i 0#32
def ix (c : BitVec 32) : Nat := (c &&& 15#32).toNat
def nib (c : BitVec 32) : BitVec 32 := (c >>> 4) ^^^ tab (ix c)
def w32 (x : UInt8) : BitVec 32 := BitVec.ofNat 32 x.toNat
def byteT (c : BitVec 32) (x : UInt8) : BitVec 32 := nib (nib (c ^^^ w32 x))
def run (c : BitVec 32) (l : List UInt8) : BitVec 32 := l.foldl byteT c
def more (s : BitVec 32) (l : List UInt8) : BitVec 32 := ~~~ (run (~~~ s) l)

theorem xlc (a b c : BitVec 32) : a ^^^ (b ^^^ c) = b ^^^ (a ^^^ c) := by rw [← BitVec.xor_assoc, BitVec.xor_comm a b, BitVec.xor_assoc]
theorem xself (a b : BitVec 32) : a ^^^ (a ^^^ b) = b := by rw [← BitVec.xor_assoc, BitVec.xor_self, BitVec.zero_xor]

theorem ix_lt (c : BitVec 32) : ix c < 16 := by
  unfold ix
  rw [BitVec.toNat_and]
  exact Nat.lt_of_le_of_lt Nat.and_le_right (by decide)

theorem bit1_xor (a b : BitVec 32) : bit1 (a ^^^ b) = bit1 a ^^^ bit1 b := by
  unfold bit1
  have h : (a ^^^ b).getLsbD 0 = (a.getLsbD 0 ^^ b.getLsbD 0) := by simp
  rw [h, BitVec.ushiftRight_xor_distrib]
  cases a.getLsbD 0 <;> cases b.getLsbD 0
  · simp
  · simp [BitVec.xor_assoc]
  · simp only [Bool.xor_false, if_true, Bool.false_eq_true, if_false, BitVec.xor_zero]
    rw [BitVec.xor_assoc, BitVec.xor_assoc, BitVec.xor_comm poly]
  · simp only [Bool.xor_self, if_true, Bool.false_eq_true, if_false, BitVec.xor_zero]
    rw [BitVec.xor_assoc, xlc poly, BitVec.xor_self, BitVec.xor_zero]
theorem bit1_zero : bit1 0#32 = 0#32 := by decide
theorem bitN_zero (n : Nat) : bitN n 0#32 = 0#32 := by
  induction n with
  | zero => rfl
  | succ n ih => show bit1 (bitN n 0#32) = _; rw [ih, bit1_zero]
theorem bitN_succ (n : Nat) (c : BitVec 32) : bitN (n + 1) c = bit1 (bitN n c) := rfl
theorem bitN_succ' (n : Nat) (c : BitVec 32) : bitN (n + 1) c = bitN n (bit1 c) := by
  induction n with
  | zero => rfl
  | succ n ih => rw [bitN_succ, ih, bitN_succ]
theorem bitN_add (m n : Nat) (c : BitVec 32) : bitN (m + n) c = bitN m (bitN n c) := by
  induction m with
  | zero => rw [Nat.zero_add]; rfl
  | succ m ih => rw [Nat.succ_add, bitN_succ, ih, bitN_succ]
theorem bitN_xor (n : Nat) (a b : BitVec 32) : bitN n (a ^^^ b) = bitN n a ^^^ bitN n b := by
  induction n with
  | zero => rfl
  | succ n ih => rw [bitN_succ, ih, bit1_xor, bitN_succ, bitN_succ]

/-- One bit can be undone. -/
def unbit (c : BitVec 32) : BitVec 32 := if c.getLsbD 31 then ((c ^^^ poly) <<< 1) ||| 1#32 else c <<< 1
theorem unbit_bit1 (c : BitVec 32) : unbit (bit1 c) = c := by
  unfold unbit bit1
  have p31 : poly.getLsbD 31 = true := by decide
  cases h : c.getLsbD 0 with
  | true =>
    have h31 : ((c >>> 1) ^^^ poly).getLsbD 31 = true := by
      rw [BitVec.getLsbD_xor, p31, BitVec.getLsbD_ushiftRight, BitVec.getLsbD_of_ge c (1 + 31) (by omega)]; rfl
    simp only [if_true, h31]
    rw [BitVec.xor_assoc, BitVec.xor_self, BitVec.xor_zero]
    apply BitVec.eq_of_getLsbD_eq
    intro i hi
    rw [BitVec.getLsbD_or, BitVec.getLsbD_shiftLeft]
    cases i with
    | zero => simp [h]
    | succ i => simp [BitVec.getLsbD_ushiftRight, hi, Nat.add_comm]
  | false =>
    have h31 : ((c >>> 1) ^^^ 0#32).getLsbD 31 = false := by
      rw [BitVec.getLsbD_xor, BitVec.getLsbD_ushiftRight, BitVec.getLsbD_of_ge c (1 + 31) (by omega)]; simp
    simp only [Bool.false_eq_true, if_false, h31]
    rw [BitVec.xor_zero]
    apply BitVec.eq_of_getLsbD_eq
    intro i hi
    rw [BitVec.getLsbD_shiftLeft]
    cases i with
    | zero => rw [h]; simp
    | succ i => simp [BitVec.getLsbD_ushiftRight, hi, Nat.add_comm]
theorem bit1_inj {a b : BitVec 32} (h : bit1 a = bit1 b) : a = b := by
  have := congrArg unbit h
  rwa [unbit_bit1, unbit_bit1] at this
theorem bitN_inj {n : Nat} {a b : BitVec 32} (h : bitN n a = bitN n b) : a = b := by
  induction n with
  | zero => exact h
  | succ n ih => exact ih (bit1_inj h)

/-- Four bitN are a row of the table. -/
theorem bits4_low : ∀ i, i < 16 → bitN 4 (BitVec.ofNat 32 i) = tab i := by decide
theorem bit1_shift (c : BitVec 32) (h : c.getLsbD 0 = false) : bit1 c = c >>> 1 := by
  unfold bit1; rw [h]; simp
theorem nib_bits (c : BitVec 32) : nib c = bitN 4 c := by
  have hs : c = (c &&& ~~~ 15#32) ^^^ (c &&& 15#32) := by
    apply BitVec.eq_of_getLsbD_eq
    intro i hi
    simp only [BitVec.getLsbD_xor, BitVec.getLsbD_and, BitVec.getLsbD_not, hi, decide_true, Bool.true_and]
    cases c.getLsbD i <;> cases (15#32).getLsbD i <;> rfl
  have hlo : bitN 4 (c &&& 15#32) = tab (ix c) := by
    rw [← bits4_low (ix c) (ix_lt c)]
    congr 1
    unfold ix
    rw [BitVec.ofNat_toNat, BitVec.setWidth_eq]
  have hz : ∀ i, i < 4 → (c &&& ~~~ 15#32).getLsbD i = false := by
    intro i hi
    rw [BitVec.getLsbD_and, BitVec.getLsbD_not]
    have : (15#32).getLsbD i = true := by
      match i, hi with
      | 0, _ => decide
      | 1, _ => decide
      | 2, _ => decide
      | 3, _ => decide
    rw [this]; simp
  have hhi : bitN 4 (c &&& ~~~ 15#32) = c >>> 4 := by
    have e1 : bitN 1 (c &&& ~~~ 15#32) = (c &&& ~~~ 15#32) >>> 1 := bit1_shift _ (hz 0 (by omega))
    have e2 : bitN 2 (c &&& ~~~ 15#32) = (c &&& ~~~ 15#32) >>> 2 := by
      rw [bitN_succ, e1, bit1_shift _ (by rw [BitVec.getLsbD_ushiftRight]; exact hz 1 (by omega)), ← BitVec.shiftRight_add]
    have e3 : bitN 3 (c &&& ~~~ 15#32) = (c &&& ~~~ 15#32) >>> 3 := by
      rw [bitN_succ, e2, bit1_shift _ (by rw [BitVec.getLsbD_ushiftRight]; exact hz 2 (by omega)), ← BitVec.shiftRight_add]
    have e4 : bitN 4 (c &&& ~~~ 15#32) = (c &&& ~~~ 15#32) >>> 4 := by
      rw [bitN_succ, e3, bit1_shift _ (by rw [BitVec.getLsbD_ushiftRight]; exact hz 3 (by omega)), ← BitVec.shiftRight_add]
    rw [e4]
    apply BitVec.eq_of_getLsbD_eq
    intro i hi
    rw [BitVec.getLsbD_ushiftRight, BitVec.getLsbD_ushiftRight, BitVec.getLsbD_and, BitVec.getLsbD_not]
    by_cases h : 4 + i < 32
    · have : (15#32).getLsbD (4 + i) = false := by
        rw [BitVec.getLsbD_ofNat]
        have : (15 : Nat).testBit (4 + i) = false := Nat.testBit_lt_two_pow (Nat.lt_of_lt_of_le (by decide : 15 < 2 ^ 4) (Nat.pow_le_pow_right (by decide) (by omega)))
        rw [this]; simp
      rw [this]; simp [h]
    · rw [BitVec.getLsbD_of_ge c (4 + i) (by omega)]; simp
  show (c >>> 4) ^^^ tab (ix c) = _
  conv => rhs; rw [hs]
  rw [bitN_xor, hlo, hhi]

theorem byteT_bits (c : BitVec 32) (x : UInt8) : byteT c x = bitN 8 (c ^^^ w32 x) := by
  unfold byteT
  rw [nib_bits, nib_bits, ← bitN_add]

theorem run_nil (c : BitVec 32) : run c [] = c := rfl
theorem run_cons (c : BitVec 32) (x : UInt8) (l : List UInt8) : run c (x :: l) = run (byteT c x) l := rfl
theorem run_append (c : BitVec 32) (a b : List UInt8) : run c (a ++ b) = run (run c a) b := List.foldl_append
theorem run_snoc (c : BitVec 32) (a : List UInt8) (x : UInt8) : run c (a ++ [x]) = byteT (run c a) x := by rw [run_append]; rfl
theorem not_not (c : BitVec 32) : ~~~ (~~~ c) = c := BitVec.not_not
theorem more_append (s : BitVec 32) (a b : List UInt8) : more (more s a) b = more s (a ++ b) := by
  unfold more; rw [not_not, run_append]
theorem more_nil (s : BitVec 32) : more s [] = s := by unfold more; rw [run_nil, not_not]
theorem not_inj {a b : BitVec 32} (h : ~~~ a = ~~~ b) : a = b := by have := congrArg (~~~ ·) h; simpa using this
theorem num_inj {a b : BitVec 32} (h : num a = num b) : a = b := by
  unfold num at h; exact BitVec.eq_of_toNat_eq (by exact_mod_cast h)
theorem num_nonneg (c : BitVec 32) : 0 ≤ num c := by unfold num; omega
theorem num_lt (c : BitVec 32) : num c < 4294967296 := by unfold num; have := c.isLt; omega

/-- The same bytes behind unlike ones. -/
theorem byteT_inj {a b : BitVec 32} {x : UInt8} (h : byteT a x = byteT b x) : a = b := by
  rw [byteT_bits, byteT_bits] at h
  have h' := bitN_inj h
  have e : a ^^^ w32 x ^^^ w32 x = b ^^^ w32 x ^^^ w32 x := by rw [h']
  simpa [BitVec.xor_assoc] using e
theorem run_inj {a b : BitVec 32} (l : List UInt8) (h : run a l = run b l) : a = b := by
  induction l generalizing a b with
  | nil => exact h
  | cons x l ih => exact byteT_inj (ih h)

theorem w32_xor (x y : UInt8) : w32 (x ^^^ y) = w32 x ^^^ w32 y := by
  unfold w32
  apply BitVec.eq_of_toNat_eq
  rw [BitVec.toNat_xor, BitVec.toNat_ofNat, BitVec.toNat_ofNat, BitVec.toNat_ofNat, UInt8.toNat_xor]
  have hx := x.toNat_lt; have hy := y.toNat_lt
  have hxy : x.toNat ^^^ y.toNat < 2 ^ 8 := Nat.xor_lt_two_pow hx hy
  rw [Nat.mod_eq_of_lt (by omega), Nat.mod_eq_of_lt (by omega), Nat.mod_eq_of_lt (by omega)]
/-- Of what is xored. -/
theorem run_xor (a b : BitVec 32) : ∀ (k l : List UInt8), k.length = l.length → run (a ^^^ b) (List.zipWith (· ^^^ ·) k l) = run a k ^^^ run b l := by
  intro k
  induction k generalizing a b with
  | nil => intro l hl; cases l with | nil => rfl | cons y l => simp at hl
  | cons x k ih =>
    intro l hl
    cases l with
    | nil => simp at hl
    | cons y l =>
      simp only [List.zipWith_cons_cons, run_cons]
      rw [← ih (byteT a x) (byteT b y) l (by simpa using hl)]
      congr 1
      rw [byteT_bits, byteT_bits, byteT_bits, ← bitN_xor]
      congr 1
      rw [w32_xor]
      rw [BitVec.xor_assoc, BitVec.xor_assoc, xlc b]
/-- Three rows, xored. -/
theorem more_mix (x a b c : List UInt8) (e : x = List.zipWith (· ^^^ ·) (List.zipWith (· ^^^ ·) a b) c) (hab : a.length = b.length) (hbc : b.length = c.length) :
    more 0#32 x = more 0#32 a ^^^ more 0#32 b ^^^ more 0#32 c := by
  unfold more
  have h3 : ~~~ 0#32 = (~~~ 0#32 ^^^ ~~~ 0#32) ^^^ ~~~ 0#32 := by decide
  rw [e]
  conv => lhs; rw [h3]
  rw [run_xor _ _ _ _ (by simp; omega), run_xor _ _ _ _ hab]
  apply BitVec.eq_of_getLsbD_eq
  intro i hi
  simp only [BitVec.getLsbD_not, BitVec.getLsbD_xor, hi, decide_true, Bool.true_and]
  cases (run (~~~ 0#32) a).getLsbD i <;> cases (run (~~~ 0#32) b).getLsbD i <;> cases (run (~~~ 0#32) c).getLsbD i <;> rfl

/-! ### Bits turned -/
theorem bitN_shift (c : BitVec 32) (n : Nat) (h : ∀ i, i < n → c.getLsbD i = false) : bitN n c = c >>> n := by
  induction n with
  | zero => simp [bitN]; rfl
  | succ n ih =>
    rw [bitN_succ, ih (fun i hi => h i (by omega)), bit1_shift _ (by rw [BitVec.getLsbD_ushiftRight]; exact h n (by omega)), ← BitVec.shiftRight_add]
theorem shl_low (t i : Nat) (hi : i < t) : ((1#32) <<< t).getLsbD i = false := by
  rw [BitVec.getLsbD_shiftLeft]; simp [hi]
theorem bitN_shl (t : Nat) (ht : t < 32) : bitN t (1#32 <<< t) = 1#32 := by
  rw [bitN_shift _ _ (shl_low t)]
  apply BitVec.eq_of_getLsbD_eq
  intro i hi
  rw [BitVec.getLsbD_ushiftRight, BitVec.getLsbD_shiftLeft]
  by_cases h : t + i < 32
  · simp [h]
  · have : i ≠ 0 := by omega
    simp [h, this]
/-- A bit turned, so many bits ahead of the end. -/
theorem bitN_at (n t : Nat) (ht : t < 32) (htn : t ≤ n) : bitN n (1#32 <<< t) = bitN (n - t) 1#32 := by
  obtain ⟨m, rfl⟩ : ∃ m, n = m + t := ⟨n - t, by omega⟩
  rw [bitN_add, bitN_shl t ht, Nat.add_sub_cancel]
theorem w32_zero : w32 0 = 0#32 := by decide
theorem byteT_add (c d : BitVec 32) (x : UInt8) : byteT (c ^^^ d) x = byteT c x ^^^ bitN 8 d := by
  rw [byteT_bits, byteT_bits, ← bitN_xor, BitVec.xor_assoc, BitVec.xor_assoc, BitVec.xor_comm d]
theorem byteT_zero (c : BitVec 32) : byteT c 0 = bitN 8 c := by rw [byteT_bits, w32_zero, BitVec.xor_zero]
theorem run_add (l : List UInt8) : ∀ c d : BitVec 32, run (c ^^^ d) l = run c l ^^^ bitN (8 * l.length) d := by
  induction l with
  | nil => intro c d; rfl
  | cons x l ih =>
    intro c d
    rw [run_cons, byteT_add, ih, run_cons, ← bitN_add]
    rfl
/-- Turned bits of one byte. -/
theorem run_set (l : List UInt8) : ∀ (c : BitVec 32) (j : Nat) (hj : j < l.length) (x : UInt8),
    run c (l.set j (l[j] ^^^ x)) = run c l ^^^ bitN (8 * (l.length - j)) (w32 x) := by
  induction l with
  | nil => intro c j hj; exact absurd hj (Nat.not_lt_zero j)
  | cons y l ih =>
    intro c j hj x
    cases j with
    | zero =>
      show run (byteT c (y ^^^ x)) l = run (byteT c y) l ^^^ _
      have e : byteT c (y ^^^ x) = byteT c y ^^^ bitN 8 (w32 x) := by
        rw [byteT_bits, byteT_bits, ← bitN_xor, w32_xor, BitVec.xor_assoc]
      rw [e, run_add, ← bitN_add]
      rfl
    | succ j =>
      have hj' : j < l.length := by simpa using hj
      show run (byteT c y) (l.set j (l[j] ^^^ x)) = run (byteT c y) l ^^^ _
      rw [ih _ j hj']
      congr 2
      simp
theorem w32_shl : ∀ t, t < 8 → w32 (UInt8.ofNat (2 ^ t)) = 1#32 <<< t := by decide
/-- One bit turned. -/
theorem run_flip (c : BitVec 32) (l : List UInt8) (k : Nat) (hk : k / 8 < l.length) :
    run c (l.set (k / 8) (l[k / 8] ^^^ UInt8.ofNat (2 ^ (k % 8)))) = run c l ^^^ bitN (8 * l.length - k) 1#32 := by
  rw [run_set, w32_shl _ (Nat.mod_lt _ (by decide)), bitN_at _ _ (by omega) (by omega)]
  congr 2
  omega
theorem one_ne (n : Nat) : bitN n 1#32 ≠ 0#32 := by
  intro h
  rw [← bitN_zero n] at h
  exact absurd (bitN_inj h) (by decide)

/-! ### A row of bits -/
def lowB (d : BitVec 32) (i : Nat) : BitVec 32 := (List.range i).foldl (fun acc j => if d.getLsbD j then acc ^^^ (1#32 <<< j) else acc) 0#32
theorem lowB_zero (d : BitVec 32) : lowB d 0 = 0#32 := rfl
theorem lowB_succ (d : BitVec 32) (i : Nat) : lowB d (i + 1) = if d.getLsbD i then lowB d i ^^^ (1#32 <<< i) else lowB d i := by
  unfold lowB
  rw [List.range_succ, List.foldl_append]
  rfl
theorem lowB_get (d : BitVec 32) (i k : Nat) (hk : k < 32) : (lowB d i).getLsbD k = (d.getLsbD k && decide (k < i)) := by
  induction i with
  | zero => simp [lowB_zero]
  | succ i ih =>
    rw [lowB_succ]
    have h1 : (1#32 <<< i).getLsbD k = decide (k = i) := by
      rw [BitVec.getLsbD_shiftLeft]
      by_cases h : k = i
      · subst h; simp [hk]
      · by_cases h2 : k < i
        · simp [h2, h]
        · have : k - i ≠ 0 := by omega
          simp [h, h2, this]
    cases hd : d.getLsbD i with
    | true =>
      simp only [if_true]
      rw [BitVec.getLsbD_xor, ih, h1]
      by_cases h : k = i
      · subst h; simp [hd]
      · have : (k < i + 1) ↔ (k < i) := by omega
        simp [h, this]
    | false =>
      simp only [Bool.false_eq_true, if_false]
      rw [ih]
      by_cases h : k = i
      · subst h; simp [hd]
      · have : (k < i + 1) ↔ (k < i) := by omega
        simp [this]
theorem lowB_all (d : BitVec 32) : lowB d 32 = d := by
  apply BitVec.eq_of_getLsbD_eq
  intro i hi
  rw [lowB_get d 32 i hi]
  simp [hi]
/-- A step of the burst. -/
theorem burst_step (d : BitVec 32) (n at_ i : Nat) (hi : i < 32) (h : at_ + 32 ≤ n) (c r : BitVec 32) (hb : d.getLsbD i = true)
    (hr : r = c ^^^ bitN (n - at_) (lowB d i)) : r ^^^ bitN (n - (at_ + i)) 1#32 = c ^^^ bitN (n - at_) (lowB d (i + 1)) := by
  rw [lowB_succ, if_pos hb, bitN_xor, bitN_at (n - at_) i hi (by omega), hr, BitVec.xor_assoc, Nat.sub_add_eq]

/-! ### The sum itself behind -/
def byte (c : BitVec 32) (k : Nat) : UInt8 := UInt8.ofNat ((c >>> k).toNat % 256)
def le4 (c : BitVec 32) : List UInt8 := [byte c 0, byte c 8, byte c 16, byte c 24]
theorem byte_bits (c : BitVec 32) (k i : Nat) (hi : i < 32) : (w32 (byte c k)).getLsbD i = (decide (i < 8) && c.getLsbD (k + i)) := by
  unfold w32 byte
  have e : (UInt8.ofNat ((c >>> k).toNat % 256)).toNat = (c >>> k).toNat % 2 ^ 8 := by
    rw [UInt8.toNat_ofNat']; omega
  rw [e, BitVec.getLsbD_ofNat, Nat.testBit_mod_two_pow]
  have : (c >>> k).toNat.testBit i = (c >>> k).getLsbD i := rfl
  rw [this, BitVec.getLsbD_ushiftRight]
  simp [hi]
theorem byteT_le (c d : BitVec 32) (k : Nat) : bitN 8 (c ^^^ (d >>> k)) = byteT c (byte d k) ^^^ (d >>> (k + 8)) := by
  have hs : d >>> k = w32 (byte d k) ^^^ ((d >>> (k + 8)) <<< 8) := by
    apply BitVec.eq_of_getLsbD_eq
    intro i hi
    rw [BitVec.getLsbD_xor, byte_bits d k i hi, BitVec.getLsbD_shiftLeft, BitVec.getLsbD_ushiftRight, BitVec.getLsbD_ushiftRight]
    by_cases h : i < 8
    · simp [h]
    · have : k + 8 + (i - 8) = k + i := by omega
      simp [h, hi, this]
  have hh : bitN 8 ((d >>> (k + 8)) <<< 8) = d >>> (k + 8) := by
    rw [bitN_shift _ _ (fun i hi => by rw [BitVec.getLsbD_shiftLeft]; simp [hi])]
    apply BitVec.eq_of_getLsbD_eq
    intro i hi
    simp only [BitVec.getLsbD_ushiftRight, BitVec.getLsbD_shiftLeft]
    by_cases h : 8 + i < 32
    · simp [h]
    · rw [BitVec.getLsbD_of_ge d (k + 8 + i) (by omega)]; simp [h]
  rw [hs, ← BitVec.xor_assoc, bitN_xor, hh, byteT_bits]
theorem run_le4 (c d : BitVec 32) : run c (le4 d) = bitN 32 (c ^^^ d) := by
  have h0 := byteT_le c d 0
  have h1 := byteT_le (byteT c (byte d 0)) d 8
  have h2 := byteT_le (byteT (byteT c (byte d 0)) (byte d 8)) d 16
  have h3 := byteT_le (byteT (byteT (byteT c (byte d 0)) (byte d 8)) (byte d 16)) d 24
  simp only [Nat.zero_add, Nat.reduceAdd, BitVec.ushiftRight_zero] at h0 h1 h2 h3
  have hz : d >>> 32 = 0#32 := by
    apply BitVec.eq_of_getLsbD_eq
    intro i hi
    rw [BitVec.getLsbD_ushiftRight, BitVec.getLsbD_of_ge d (32 + i) (by omega)]; simp
  rw [hz, BitVec.xor_zero] at h3
  show byteT (byteT (byteT (byteT c (byte d 0)) (byte d 8)) (byte d 16)) (byte d 24) = _
  have e : bitN 32 (c ^^^ d) = bitN 8 (bitN 8 (bitN 8 (bitN 8 (c ^^^ d)))) := by
    rw [← bitN_add, ← bitN_add, ← bitN_add]
  rw [e, h0, h1, h2, h3]
/-- Bytes with their own sum behind. -/
theorem more_own (l : List UInt8) : more 0#32 (l ++ le4 (more 0#32 l)) = 0x2144DF1C#32 := by
  unfold more
  rw [run_append, run_le4]
  have e : run (~~~ 0#32) l ^^^ ~~~ run (~~~ 0#32) l = BitVec.allOnes 32 := by
    apply BitVec.eq_of_getLsbD_eq
    intro i hi
    rw [BitVec.getLsbD_xor, BitVec.getLsbD_not, BitVec.getLsbD_allOnes]
    simp [hi]
  rw [e]
  decide
theorem num_eq (c : BitVec 32) : num c = (c.toNat : Int) := rfl
theorem num_of (a : Int) (h0 : 0 ≤ a) (h1 : a ≤ 4294967295) : ∃ c : BitVec 32, a = num c :=
  ⟨BitVec.ofNat 32 a.toNat, by rw [num_eq, BitVec.toNat_ofNat]; omega⟩
attribute [irreducible] num
end Go.Proofs.Ytnekelndcpmonaa.Crc
namespace Go.Proofs.Ytnekelndcpmonaa

/-- A number as so many bytes, the lowest first. -/
def lowL (n k : Nat) : List UInt8 := (List.range k).map fun i => UInt8.ofNat (n / 256 ^ i)
theorem lowL_len (n k : Nat) : (lowL n k).length = k := by simp [lowL]
theorem lowL_succ (n k : Nat) : lowL n (k + 1) = lowL n k ++ [UInt8.ofNat (n / 256 ^ k)] := by simp [lowL, List.range_succ]
theorem lowL_zero (n : Nat) : lowL n 0 = [] := rfl
/-- The number that bytes tell. -/
def numL : List UInt8 → Nat
  | [] => 0
  | c :: l => c.toNat + 256 * numL l
theorem numL_lt : ∀ l : List UInt8, numL l < 256 ^ l.length
  | [] => by simp [numL]
  | c :: l => by
    have := numL_lt l
    have hc := c.toNat_lt
    rw [numL, List.length_cons, Nat.pow_succ]
    omega
theorem lowL_cons (n k : Nat) : lowL n (k + 1) = UInt8.ofNat n :: lowL (n / 256) k := by
  unfold lowL
  rw [List.range_succ_eq_map, List.map_cons, List.map_map]
  simp only [Nat.pow_zero, Nat.div_one, List.cons.injEq, true_and]
  apply List.map_congr_left
  intro i _
  show UInt8.ofNat (n / 256 ^ (i + 1)) = UInt8.ofNat (n / 256 / 256 ^ i)
  rw [Nat.div_div_eq_div_mul, Nat.pow_succ, Nat.mul_comm]
theorem numL_lowL (k : Nat) : ∀ n, n < 256 ^ k → numL (lowL n k) = n := by
  induction k with
  | zero => intro n h; simp at h; subst h; rfl
  | succ k ih =>
    intro n h
    rw [lowL_cons, numL, ih (n / 256) (by rw [Nat.pow_succ] at h; omega), UInt8.toNat_ofNat']
    omega
/-- Noughts to the sector's end. -/
def padTo (p : List UInt8) : List UInt8 := p ++ List.replicate ((512 - p.length % 512) % 512) 0
theorem padTo_len (p : List UInt8) : (padTo p).length = (p.length + 511) / 512 * 512 := by
  unfold padTo
  rw [List.length_append, List.length_replicate]
  omega
end Go.Proofs.Ytnekelndcpmonaa
namespace Go.Proofs.Ytnekelndcpmonaa
open Go.RowKit

set_option maxHeartbeats 1600000 in
theorem low_calls (w : World) (n size : Nat) (S : Int) (hS : S = (size : Int)) (hn : n < 18446744073709551616) (hs : size ≤ 1000) :
    Calls Try.prog 65 #[.int .u64 (n : Int), .int .i64 S] w fun e w' => ∃ g cap, e = .returned (.slice g size cap) ∧ OwnsB w' w.heap.size (.slice g size cap) size (lowL n size) ∧ Below w.heap.size w w' := by
  subst hS
  go_enter Try.func65, Try.ntmps65
  go_wp2
  go_loopw [7, 0, 5] (fun i nv bv wr => ∃ (k X : Nat) (g : Option Addr) (cap : Nat), k ≤ size ∧ i = .int .i64 k ∧ X = n / 256 ^ k ∧ nv = .int .u64 X ∧ bv = .slice g k cap ∧ OwnsB wr w.heap.size (.slice g k cap) k (lowL n k) ∧ Below w.heap.size w wr) (fun i _ _ _ => size - (intOf i).toNat)
  case atStart => exact ⟨0, n, none, 0, Nat.zero_le _, rfl, by simp, rfl, rfl, OwnsB.nil _ _, Below.refl _ _⟩
  case round =>
    obtain ⟨k, X, g, cap, hk, rfl, hX, rfl, rfl, hown, hbel⟩ := hrel
    by_cases hlt : k < size
    · have hXn : X < 18446744073709551616 := by
        have : X ≤ n := by rw [hX]; exact Nat.div_le_self _ _
        omega
      obtain ⟨c, hc⟩ : ∃ c, c = UInt8.ofNat X := ⟨_, rfl⟩
      have hcv : (X : Int) % 256 = (c.toNat : Int) := by rw [hc, UInt8.toNat_ofNat']; omega
      obtain ⟨X2, hX2⟩ : ∃ X2, X2 = X / 256 := ⟨_, rfl⟩
      have hdv : (X : Int) / 256 = (X2 : Int) := by rw [hX2]; omega
      have hX3 : X2 = n / 256 ^ (k + 1) := by rw [hX2, hX, Nat.div_div_eq_div_mul, Nat.pow_succ]
      have hl2 : lowL n (k + 1) = lowL n k ++ [c] := by rw [lowL_succ, hc, hX]
      have HX3 := Lib.hid hX3
      have Hl2 := Lib.hid hl2
      have hbs := hbel.size
      clear hX hc hX2 hX3 hl2
      go_wp2_with (at_builtin; refine wpList_append_bytes rfl (.tmp 9) (.tmp 12) rfl w.heap.size _ k (lowL n k) rfl (hown.alloc _) (some ⟨wr.heap.size, 0, none⟩) 1 1 [c] rfl (by simp) (BytesAt.made [c] rfl) rfl (by omega) (by simp; omega) ?next)
      case next =>
        intro g' cap' w2 hown2 hgrow _ _
        rw [← Hl2.out] at hown2
        have hb2 : Below w.heap.size w w2 := (hbel.alloc hbs _).grown hgrow (by simp; omega) (fun j e => by have := World.ownsRow.lt hown j e; omega)
        clear hown hbel hgrow
        go_wp2
        go_roundw
        case rel => exact ⟨k + 1, X2, _, _, by omega, by go_num, HX3.out, rfl, rfl, hown2, hb2⟩
        case measure => simp [intOf]; omega
    · obtain rfl : k = size := by omega
      clear hX
      go_wp2
      go_ret
      exact ⟨_, _, rfl, hown, hbel⟩
end Go.Proofs.Ytnekelndcpmonaa
namespace Go.Proofs.Ytnekelndcpmonaa
open Go.RowKit Go.Shelf
attribute [local go_sem] Oper.semAt_some

/-- What has come when k rounds are over. -/
def bcame (m k : Nat) : List (Fin m) := (List.finRange m).reverse.take k
/-- What lay below n₀ stands, and the iterator's own box. -/
def KeepsBox (n₀ Bs : Nat) (W W' : World) : Prop := Below n₀ W W' ∧ W'.heap[Bs]? = W.heap[Bs]?
theorem KeepsBox.refl (n₀ Bs : Nat) (W : World) : KeepsBox n₀ Bs W W := ⟨Below.refl _ _, rfl⟩
theorem KeepsBox.trans {n₀ Bs : Nat} {A B C : World} (h : KeepsBox n₀ Bs A B) (k : KeepsBox n₀ Bs B C) : KeepsBox n₀ Bs A C := ⟨h.1.trans k.1, k.2.trans h.2⟩
theorem keepsBox_b {n₀ Bs : Nat} {w : World} (hn : n₀ ≤ w.heap.size) (hB : Bs < w.heap.size) (W : World) (l : Nat) (o o' : Obj) (hl : w.heap.size ≤ l) (h : W.heap[l]? = some o) (h1 : o.isCells = false) (h2 : o.isWalk = false) : KeepsBox n₀ Bs W (W.putObj l o') :=
  ⟨belowK_b hn W l o o' hl h h1 h2, (grownBy_putObj' W l o').block Bs (by have := (Array.getElem?_eq_some_iff.1 h).1; omega) (fun e => by cases e; omega)⟩
theorem bcame_len {m k : Nat} (h : k ≤ m) : (bcame m k).length = k := by simp [bcame]; omega
theorem bcame_succ {m k : Nat} (h : k < m) (r : Nat) (hrm : r < m) (hr : r = m - 1 - k) : bcame m (k + 1) = bcame m k ++ [⟨r, hrm⟩] := by
  unfold bcame
  rw [List.take_succ_eq_append_getElem (by simpa using h)]
  congr 1
  simp [hr]

set_option maxRecDepth 100000 in
set_option maxHeartbeats 2000000 in
theorem bbackward1_in (F : Fence) (n : Nat) (h7 : F.fn 74) (hro : F.round = none) (hn : 1 ≤ n) (l Bs n₀ m cap : Nat) (a : Option Addr) (dv : Fin m → UInt8)
    (J Jx : List (Fin m) → World → Prop) (hm : m ≤ 9223372036854775807)
    (hY : ∀ pre x W, J pre W → pre.length < m → YieldAt F (n - 1) Try.prog l #[.int .i64 ((x.1 : Nat) : Int), .int .u8 ((dv x).toNat : Int)] W fun e W' =>
      (e = .returned (.bool true) ∧ J (pre ++ [x]) W' ∧ KeepsBox n₀ Bs W W') ∨ (e = .returned (.bool false) ∧ Jx (pre ++ [x]) W'))
    (W : World) (hBs : W.cell? ⟨Bs, 0, none⟩ = some (.slice a m cap))
    (hc : ∀ x : Fin m, ∃ g o, a = some ⟨g, o, none⟩ ∧ g < n₀ ∧ W.cell? ⟨g, o + x.1, none⟩ = some (.int .u8 ((dv x).toNat : Int))) (h0 : J [] W) :
    CallsIn F n Try.prog 74 #[.func (.yield l) #[] #[], .pointer (some ⟨Bs, 0, none⟩)] W fun e W' => (∃ v, e = .returned v) ∧
      ((∃ ys, ys = bcame m m ∧ J ys W') ∨ (∃ pre, (∃ k, k ≤ m ∧ pre = bcame m k) ∧ Jx pre W')) := by
  refine callsIn_of_wp Try.func74 rfl h7 ?_ hro
  simp only [Try.ntmps74, List.size_toArray, List.length_cons, List.length_nil, Nat.reduceAdd, Nat.reduceSub, Array.replicate_succ, Array.replicate_zero, List.push_toArray, List.append_toArray, List.nil_append, List.cons_append]
  gi_wp2
  gi_loopw [3] (fun i wr => ∃ (k : Nat) (i0 : Int), k ≤ m ∧ i0 = (m : Int) - 1 - k ∧ i = .int .i64 i0 ∧ J (bcame m k) wr ∧ KeepsBox n₀ Bs W wr)
    (fun i _ => (intOf i + 1).toNat)
  case atStart => exact ⟨0, _, Nat.zero_le _, rfl, by go_num, h0, KeepsBox.refl _ _ _⟩
  case round =>
    obtain ⟨k, i0, hk, hi0, rfl, hJs, hnx⟩ := hrel
    have hBr : wr.cell? ⟨Bs, 0, none⟩ = some (.slice a m cap) := (World.cell?_of_block (w := W) hnx.2).trans hBs
    by_cases hlt : k < m
    · obtain ⟨r, hr⟩ : ∃ r : Nat, r = m - 1 - k := ⟨_, rfl⟩
      have hi1 : i0 = (r : Int) := by omega
      subst hi1
      have hrm : r < m := by omega
      have hrk : (r : Int) - 1 = (m : Int) - 1 - ((k + 1 : Nat) : Int) := by omega
      have Hrk := Lib.hid hrk
      clear hrk
      obtain ⟨g, o, rfl, hg, c1⟩ := hc ⟨r, hrm⟩
      have c1' := (hnx.1.cell (p := ⟨g, o + r, none⟩) hg).trans c1
      obtain ⟨fn, tmps, assign, body, hy, hR⟩ := hY _ ⟨r, hrm⟩ wr hJs (by rw [bcame_len hk]; exact hlt)
      have hcs := bcame_succ hlt r hrm hr
      dsimp only at hy
      obtain ⟨v, hv⟩ : ∃ v, v = dv ⟨r, hrm⟩ := ⟨_, rfl⟩
      rw [← hv] at hy c1'
      have hge : (0 : Int) ≤ (r : Int) := by omega
      have hrl : (r : Int) < (m : Int) := by omega
      clear hc c1 hv hr hi0
      gi_wp2
      refine hR.mono ?_
      rintro e W3 (⟨rfl, hJ3, hk3⟩ | ⟨rfl, hJx3⟩)
      · gi_wp2
        go_roundw
        case rel => exact ⟨k + 1, (r : Int) - 1, by omega, Hrk.out, by go_num, by rw [hcs]; exact hJ3, hnx.trans hk3⟩
        case measure => simp [intOf]
      · gi_wp2
        refine bodyPost_ret (results_none rfl _ _ _) rfl ?_
        exact ⟨⟨_, rfl⟩, .inr ⟨_, ⟨k + 1, by omega, hcs.symm⟩, hJx3⟩⟩
    · obtain rfl : k = m := by omega
      obtain rfl : i0 = -1 := by omega
      gi_wp2
      go_end0
      exact ⟨⟨_, rfl⟩, .inl ⟨_, rfl, hJs⟩⟩

set_option maxHeartbeats 1000000 in
theorem bbackward_in (F : Fence) (n : Nat) (h5 : F.fn 68) (hro : F.round = none) (a : Option Addr) (len cap : Nat) (w : World) :
    CallsIn F n Try.prog 68 #[.slice a len cap] w fun e w' => e = .returned (.func (.func 74) #[] #[.pointer (some ⟨w.heap.size, 0, none⟩)]) ∧ w' = w.alloc (.cells #[.slice a len cap] 31) := by
  refine callsIn_of_wp Try.func68 rfl h5 ?_ hro
  simp only [Try.ntmps68, List.size_toArray, List.length_cons, List.length_nil, Nat.reduceAdd, Nat.reduceSub, Array.replicate_succ, Array.replicate_zero, List.push_toArray, List.append_toArray, List.nil_append, List.cons_append]
  gi_wp2
  go_ret
  exact ⟨rfl, rfl⟩

theorem bbackward_stops (F : Fence) (n : Nat) (h7 : F.fn 74) (hro : F.round = none) (hn : 1 ≤ n) (Bs n₀ m cap : Nat) (a : Option Addr) (dv : Fin m → UInt8) (w : World) (hBs0 : Bs < w.heap.size) (hn₀ : n₀ ≤ w.heap.size) (hm : m ≤ 9223372036854775807)
    (hBs : w.cell? ⟨Bs, 0, none⟩ = some (.slice a m cap))
    (hc : ∀ x : Fin m, ∃ g o, a = some ⟨g, o, none⟩ ∧ g < n₀ ∧ w.cell? ⟨g, o + x.1, none⟩ = some (.int .u8 ((dv x).toNat : Int))) :
    SeqStopsK F n Try.prog 74 #[.pointer (some ⟨Bs, 0, none⟩)] (fun x : Fin m => #[Value.int .i64 ((x.1 : Nat) : Int), .int .u8 ((dv x).toNat : Int)]) (KeepsBox n₀ Bs)
      (fun ys => ys = bcame m m) (fun pre => ∃ k, k ≤ m ∧ pre = bcame m k) m w := fun l J Jx W hW _ _ hY h0 =>
  bbackward1_in F n h7 hro hn l Bs n₀ m cap a dv J Jx hm hY W ((hW.cell (p := ⟨Bs, 0, none⟩) hBs0).trans hBs)
    (fun x => by
      obtain ⟨g, o, e, hg, c1⟩ := hc x
      exact ⟨g, o, e, hg, (hW.cell (p := ⟨g, o + x.1, none⟩) (Nat.lt_of_lt_of_le hg hn₀)).trans c1⟩) h0
end Go.Proofs.Ytnekelndcpmonaa
namespace Go.Proofs.Ytnekelndcpmonaa
open Go.RowKit Go.Shelf
attribute [local go_sem] Oper.semAt_some

/-- What has come, as a number. -/
def valOf {m : Nat} (dv : Fin m → UInt8) (pre : List (Fin m)) : Nat := pre.foldl (fun n x => n * 256 + (dv x).toNat) 0
theorem valOf_snoc {m : Nat} (dv : Fin m → UInt8) (pre : List (Fin m)) (x : Fin m) : valOf dv (pre ++ [x]) = valOf dv pre * 256 + (dv x).toNat := by simp [valOf]
theorem valOf_lt {m : Nat} (dv : Fin m → UInt8) : ∀ (k : Nat) (pre : List (Fin m)), pre.length = k → valOf dv pre < 256 ^ k
  | 0, pre, h => by rw [List.eq_nil_of_length_eq_zero h]; simp [valOf]
  | k + 1, pre, h => by
    have hne : pre ≠ [] := fun e => by subst e; simp at h
    rw [← List.dropLast_concat_getLast hne, valOf_snoc, Nat.pow_succ]
    have := valOf_lt dv k pre.dropLast (by simp; omega)
    have := (dv (pre.getLast hne)).toNat_lt
    omega

theorem or_low (v : Nat) (c : UInt8) (hv : v < 72057594037927936) : Go.bits .or .u64 ((v : Int) * 256) (c.toNat : Int) = ((v * 256 + c.toNat : Nat) : Int) := by
  have hc := c.toNat_lt
  have e : v * 256 + c.toNat = v * 256 ||| c.toNat := by
    have := Nat.shiftLeft_add_eq_or_of_lt (b := c.toNat) (i := 8) (by omega) v
    rw [Nat.shiftLeft_eq] at this
    exact this
  unfold Go.bits
  have e1 : (v : Int) * 256 = ((v * 256 : Nat) : Int) := by simp
  rw [IntKind.wrap_u64, e1, BitVec.ofInt_natCast, BitVec.ofInt_natCast]
  show ((((BitVec.ofNat 64 (v * 256)) ||| (BitVec.ofNat 64 c.toNat)).toNat : Int)) % _ = _
  rw [BitVec.toNat_or, BitVec.toNat_ofNat, BitVec.toNat_ofNat, Nat.mod_eq_of_lt (by omega), Nat.mod_eq_of_lt (by omega), ← e]
  omega

set_option maxRecDepth 100000 in
set_option maxHeartbeats 2000000 in
theorem number_raw (w : World) (a : Option Addr) (m cap : Nat) (l : List UInt8) (hA : BytesAt w a l) (hl : l.length = m) (hm : m ≤ 8) :
    Calls Try.prog 57 #[.slice a m cap] w fun e w' => e = .returned (.int .u64 (valOf (fun x : Fin m => l.getD x.1 0) (bcame m m) : Nat)) ∧ Below w.heap.size w w' := by
  obtain ⟨dv, hdv⟩ : ∃ dv : Fin m → UInt8, dv = fun x => l.getD x.1 0 := ⟨_, rfl⟩
  rw [← hdv]
  have Hdv := Lib.hid hdv
  clear hdv
  refine (callsIn_wide (n := 9)).1 ?_
  refine callsIn_of_wp_marks Try.func57 rfl trivial ?_ rfl
  simp only [Try.ntmps57, List.size_toArray, List.length_cons, List.length_nil, Nat.reduceAdd, Nat.reduceSub, Array.replicate_succ, Array.replicate_zero, List.push_toArray, List.append_toArray, List.nil_append, List.cons_append]
  gi_wp2_with fail
  refine ⟨trivial, ?_⟩
  gi_at_call 68
  refine (bbackward_in Fence.wide _ trivial rfl _ _ _ _).mono ?_
  rintro e w' ⟨rfl, rfl⟩
  gi_wp2_with fail
  have bN := Boxed.new w 33 (.int .u64 0)
  have bS := Boxed.new (w.alloc (.cells #[.int .u64 0] 33)) 31 (.slice a m cap)
  rw [World.size_alloc] at bS
  have hB0 : Below w.heap.size w ((w.alloc (.cells #[.int .u64 0] 33)).alloc (.cells #[.slice a m cap] 31)) := ((Below.refl _ w).alloc (Nat.le_refl _) _).alloc (by simp) _
  refine wpIn_rangeFunc_ownG rfl (by omega) (gf := 74) (lb := #[.pointer (some ⟨w.heap.size + 1, 0, none⟩)]) rfl trivial (enters_of Try.func74 (by kernel_rfl) rfl)
    (bbackward_stops Fence.wide _ trivial rfl (by omega) (w.heap.size + 1) w.heap.size m cap a dv _ (by simp) (by simp; omega) (by omega) bS.cell (fun x => by
      obtain ⟨b, o, e, hc⟩ := hA x.1 (by rw [hl]; exact x.2)
      refine ⟨b, o, e, ?_, ?_⟩
      · exact World.block_lt_of_cell? _ _ hc
      · rw [Hdv.out]; exact (hB0.cell (p := ⟨b, o + x.1, none⟩) (World.block_lt_of_cell? _ _ hc)).trans hc)) (fun h k => KeepsBox.trans h k) (keepsBox_b (by simp; omega) (by simp)) (Below.refl _ _) (fun _ => rfl)
    (fun pre W => (W.cell? ⟨w.heap.size, 0, none⟩ = some (.int .u64 (valOf dv pre : Nat)) ∧ W.frozen? ⟨w.heap.size, 0, none⟩ = false) ∧ Below w.heap.size w W)
    (fun _ _ _ => False)
    (OwnFrom.and (Own.from (fun s A B row hs hg hr => ⟨cell_kept hs.1 hg hr, (frozen_kept hs.1 hg hr).trans hs.2⟩) _) (ownFrom_below (Nat.le_refl _) (by simp; omega)))
    (fun _ _ _ _ _ hs _ _ => hs)
    ⟨⟨(bN.alloc _).cell, (bN.alloc _).frozen⟩, hB0⟩
    (fun x => { tmps := #[.slice a m cap, undef, .pointer (some ⟨w.heap.size, 0, none⟩), undef, .int .u8 ((dv x).toNat : Int), .slice a m cap, .func (.func 74) #[] #[.pointer (some ⟨w.heap.size + 1, 0, none⟩)], .int .i64 ((x.1 : Nat) : Int), .int .u8 ((dv x).toNat : Int), undef, undef, undef, undef, undef, undef], defers := [] }) ?assign ?body ?done ?stop
  case assign =>
    intro l x W K hK
    gi_wp2
    exact hK
  case body =>
    rintro l' pre x W ⟨⟨hc, hf⟩, hB⟩ hlt
    obtain ⟨v, hv⟩ : ∃ v, v = valOf dv pre := ⟨_, rfl⟩
    obtain ⟨c, hcc⟩ : ∃ c, c = dv x := ⟨_, rfl⟩
    have hv2 : valOf dv (pre ++ [x]) = v * 256 + c.toNat := by rw [valOf_snoc, hv, hcc]
    have hvl : v < 72057594037927936 := by
      have h1 := valOf_lt dv pre.length pre rfl
      have h2 : 256 ^ pre.length ≤ 256 ^ 7 := Nat.pow_le_pow_right (by omega) (by omega)
      rw [hv]
      exact Nat.lt_of_lt_of_le h1 h2
    rw [← hv] at hc
    have Hv2 := Lib.hid hv2
    rw [← hcc]
    have hc256 := c.toNat_lt
    clear hv hcc hv2
    gi_wp2
    rw [or_low v c (by omega)]
    refine ⟨(KeepsOthers.setCell _ _ _).from _, ⟨(Below.refl w.heap.size W).setCell (p := ⟨w.heap.size, 0, none⟩) (Nat.le_refl _) _, Below.heap_setCell W _ _ _ (by simp)⟩, ⟨by rw [Hv2.out]; exact World.cell?_setCell_same' _ _ _ (by rw [hc]; rfl), by rw [World.frozen?_setCell]; exact hf⟩, hB.setCell (p := ⟨w.heap.size, 0, none⟩) (Nat.le_refl _) _⟩
  case done =>
    rintro D ys W hD rfl ⟨⟨hc, hf⟩, hB⟩ hK
    obtain ⟨v, hv⟩ : ∃ v, v = valOf dv (bcame m m) := ⟨_, rfl⟩
    rw [← hv] at hc
    have Hv := Lib.hid hv
    clear hv
    gi_wp2
    have hK' := (KeepsOthers.setCell W ⟨w.heap.size, 0, none⟩ (.int .u64 (v : Int))).same D _ hK rfl
    refine ⟨by simp, .inl ⟨_, _, rfl, run_takeDeferred hK', ?_⟩⟩
    have hc5 := cell_kept (World.cell?_setCell_same' W ⟨w.heap.size, 0, none⟩ (.int .u64 (v : Int)) (by rw [hc]; rfl)) (grownBy_putObj' _ D (.deferred none)) (fun r e => by cases e; exact ⟨_, hK', rfl⟩)
    refine ⟨.int .u64 (v : Int), ?_, by rw [Hv.out], (hB.setCell (p := ⟨w.heap.size, 0, none⟩) (Nat.le_refl _) _).trans (belowK_b (w := w) (Nat.le_refl _) _ D _ _ (by simp at hD; omega) hK' rfl rfl)⟩
    simp [results, Try.f57, go_sem, hc5]
  case stop =>
    rintro D c pre W _ _ h _
    exact h.elim
theorem numL_foldr (l : List UInt8) : numL l = l.foldr (fun c n => n * 256 + c.toNat) 0 := by
  induction l with
  | nil => rfl
  | cons c l ih => rw [numL, ih, List.foldr_cons]; omega
theorem valOf_all (l : List UInt8) : valOf (fun x : Fin l.length => l.getD x.1 0) (bcame l.length l.length) = numL l := by
  have e : bcame l.length l.length = (List.finRange l.length).reverse := by unfold bcame; rw [List.take_of_length_le (by simp)]
  rw [e, numL_foldr]
  unfold valOf
  rw [List.foldl_reverse]
  have h : l = (List.finRange l.length).map (fun x => l.getD x.1 0) := by
    apply List.ext_getElem
    · simp
    · intro i h1 h2
      simp [List.getD]
  conv => rhs; rw [h]
  rw [List.foldr_map]
theorem number_calls (w : World) (a : Option Addr) (m cap : Nat) (l : List UInt8) (hA : BytesAt w a l) (hl : l.length = m) (hm : m ≤ 8) :
    Calls Try.prog 57 #[.slice a m cap] w fun e w' => e = .returned (.int .u64 ((numL l : Nat) : Int)) ∧ Below w.heap.size w w' := by
  subst hl
  refine (number_raw w a _ cap l hA rfl hm).mono ?_
  rw [valOf_all]
  exact fun e w' h => h
end Go.Proofs.Ytnekelndcpmonaa
namespace Go.Proofs.Ytnekelndcpmonaa
open Go.RowKit

theorem zeroCells_bytes (k : Nat) : Builtin.zeroCells (Value.int .u8 0).cells k = ((List.replicate k (0 : UInt8)).map byteV).toArray := by
  apply Array.ext
  · simp [Builtin.zeroCells, Value.cells]
  · intro i h1 h2
    simp [Builtin.zeroCells, Value.cells, byteV, Nat.mod_one]
theorem run_append_zeros (w : World) (base g n cap : Nat) (l : List UInt8) (hown : OwnsB w base (.slice (some ⟨g, 0, none⟩) n cap) n l) (k : Nat) (hk : n + k ≤ 1000000) (hbase : base ≤ w.heap.size) (ty : TypeId) :
    ∃ g' cap' w', (Builtin.append_ #[31, 3] ty #[.slice (some ⟨g, 0, none⟩) n cap, .int .i64 (k : Int)]).run Try.prog w = .ok (.slice (some ⟨g', 0, none⟩) (n + k) cap') w' ∧
      OwnsB w' base (.slice (some ⟨g', 0, none⟩) (n + k) cap') (n + k) (l ++ List.replicate k 0) ∧ w.grownBy w' (some g) ∧ (g' = g ∨ g' = w.heap.size) := by
  obtain ⟨i0, hi, hz0, hz1, hz2⟩ := info_parts info8
  have hll := hown.len
  rcases hown.2 with ⟨e, _⟩ | ⟨g2, cap2, cur, e, hb, hh, hnc, hcm, hcs, htk⟩
  · cases e
  simp only [Value.slice.injEq, Option.some.injEq, Addr.mk.injEq] at e
  obtain ⟨⟨rfl, _⟩, _, rfl⟩ := e
  have hw : IntKind.i64.wrap (k : Int) = k := by rw [IntKind.wrap_i64]; omega
  have hneg : ¬ ((k : Int) < 0) := by omega
  have hbig : ¬ (281474976710656 < (k : Int)) := by omega
  obtain ⟨zs, hzs⟩ : ∃ zs : List Value, zs = (List.replicate k (0 : UInt8)).map byteV := ⟨_, rfl⟩
  have hzl : zs.length = k := by rw [hzs]; simp
  have hcs' : cur.size = cap := by omega
  by_cases hroom : n + k ≤ cap
  · have hst := run_storeCells_at Try.prog g n 5 zs 0 cur w hh (by omega) (fun v hv => by rw [hzs] at hv; obtain ⟨x, _, rfl⟩ := List.mem_map.1 hv; rfl)
    simp only [Nat.add_zero] at hst
    refine ⟨g, cap, w.setRow g (cur.toList.take n ++ zs ++ cur.toList.drop (n + zs.length)).toArray, ?_, ?_, ⟨rfl, rfl, rfl, by simp, fun j _ hj => setRow_other w g j _ (fun e => hj (by rw [e]))⟩, .inl rfl⟩
    · by_cases h0 : k = 0
      · subst h0
        have : zs = [] := List.eq_nil_of_length_eq_zero hzl
        subst this
        have hw0 : IntKind.i64.wrap 0 = 0 := by rw [IntKind.wrap_i64]; rfl
        have hnc' : n ≤ cap := hnc
        simp [Builtin.append_, run_underlying Try.underlying31, run_underlying Try.underlying3, sizeOf, typeInfo, zeroValue, hi, hz0, hz1, hz2, asInt, asIntOf, hw0, hnc', Addr.add_lit]
        rw [hst]
        simp
      · have hns : ¬ (k * 1 = 0) := by omega
        simp [Builtin.append_, run_underlying Try.underlying31, run_underlying Try.underlying3, sizeOf, typeInfo, zeroValue, hi, hz0, hz1, hz2, asInt, asIntOf, hw, hroom, hneg, hbig, h0, Addr.add_lit, zeroCells_bytes]
        have hz' : List.replicate k (byteV 0) = zs := by rw [hzs]; simp
        rw [hz', hst]
        simp
    · refine ⟨by simp [hll], .inr ⟨g, cap, _, rfl, hb, setRow_heap w g cur _ _ _ hh, hroom, hcm, ?_, ?_⟩⟩
      · simp [hzl]
        try omega
      · rw [Nat.mul_one]
        have h1 : (cur.toList.take n ++ zs).length = n + k := by simp [hzl]; omega
        rw [List.toList_toArray, ← h1, List.take_left, List.map_append, ← hzs]
        rw [Nat.mul_one] at htk
        rw [htk]
  · have hk0 : 0 < k := by omega
    have holds : ∀ j u, (l.map byteV)[j]? = some u → w.drew.cell? ((⟨g, 0, none⟩ : Addr).add j) = some u := hown.cells (g := g) rfl
    have hr := Lib.run_append_grow_zeros (P := Try.prog) w 31 3 ty 5 i0 (.int .u8 0) .i64 .i64 Try.underlying31 Try.underlying3 hi hz0 (some ⟨g, 0, none⟩) n cap (l.map byteV)
      (run_firstCells_some (P := Try.prog) w.drew i0.size n ⟨g, 0, none⟩ n cap (l.map byteV) (by rw [hz1]; simp [hll]) holds) k hk0 (by rw [hz1]; omega) (by omega) (by omega) (by rw [hz2]; omega) (by rw [hz2]; exact growslice_fits (by omega) (by omega))
    have hge := grownCap_ge w (n + k) cap 5
    have hcm2 : grownCap w (n + k) cap 5 ≤ maxLen := grownCap_le_maxLen w (n + k) cap 5 (by unfold maxLen; omega)
    refine ⟨_, _, _, hr, ⟨by simp [hll], .inr ⟨w.heap.size, _, _, rfl, hbase, heap_alloc_new w.drew _, hge, hcm2, ?_, ?_⟩⟩, ⟨rfl, rfl, rfl, by simp, fun j hj _ => Below.heap_alloc w.drew _ j hj⟩, .inr rfl⟩
    · simp only [Array.size_append, List.size_toArray, size_zeroCells, List.length_map, hll]
      show n + k * 1 + (grownCap w (n + k) cap _ - (n + k)) * 1 = _
      omega
    · rw [zeroCells_bytes, Nat.mul_one]
      simp only [Array.toList_append, List.append_assoc]
      rw [← List.append_assoc, ← List.map_append]
      have h1 : ((l ++ List.replicate k (0 : UInt8)).map byteV).length = n + k := by simp [hll]
      rw [← h1, List.take_left]
end Go.Proofs.Ytnekelndcpmonaa
namespace Go.Proofs.Ytnekelndcpmonaa
open Go.RowKit

theorem and511 (n k : Nat) (hn : n ≤ 1000000) (hk : k = (512 - n % 512) % 512) : Go.bits .and .i64 (-(n : Int)) 511 = (k : Int) := by
  unfold Go.bits
  rw [IntKind.wrap_i64]
  show ((((BitVec.ofInt 64 (-(n : Int))) &&& (BitVec.ofInt 64 511)).toNat : Int) + _) % _ - _ = _
  have e5 : BitVec.ofInt 64 511 = BitVec.ofNat 64 511 := rfl
  rw [e5, BitVec.toNat_and, BitVec.toNat_ofInt, BitVec.toNat_ofNat]
  have h2 : (511 : Nat) % 2 ^ 64 = 2 ^ 9 - 1 := by omega
  rw [h2, Nat.and_two_pow_sub_one_eq_mod]
  omega

/-- 'append(p, make([]byte, k)...)', p the call's own, not nil. -/
theorem wpList_append_zeros {w : World} {ops : Array Oper} {rest : List Oper} {o : Oper} {a : Act} {Q : Exit → Act → World → Prop} (hgd : o.guard = none) (s x : Operand)
    (ho : o.op = .call { callee := .builtin .append, args := #[s, x], argTypes := #[31, 3] })
    (base g n cap : Nat) (l : List UInt8) (hs : a.eval s = .slice (some ⟨g, 0, none⟩) n cap) (hown : OwnsB w base (.slice (some ⟨g, 0, none⟩) n cap) n l) (k : Nat) (hx : a.eval x = .int .i64 (k : Int)) (hk : n + k ≤ 1000000) (hbase : base ≤ w.heap.size)
    (h : ∀ g' cap' w', OwnsB w' base (.slice (some ⟨g', 0, none⟩) (n + k) cap') (n + k) (l ++ List.replicate k 0) → w.grownBy w' (some g) → wpList Try.prog ops Q rest (a.put o.dst (.slice (some ⟨g', 0, none⟩) (n + k) cap')) w') : wpList Try.prog ops Q (o :: rest) a w := by
  refine wpList_plain hgd fun K hK => ?_
  obtain ⟨g', cap', w', hrun, h2, h3, _⟩ := run_append_zeros w base g n cap l hown k hk hbase o.type
  unfold Oper.wp
  simp [execOp, ho, resolve, invoke, builtin, hs, hx, hrun, Result.andThen]
  exact hK _ _ (h g' cap' w' h2 h3)
end Go.Proofs.Ytnekelndcpmonaa
namespace Go.Proofs.Ytnekelndcpmonaa
open Go.RowKit Crc

theorem ret_u32 {a b : BitVec 32} (h : a = b) : Ending.returned (.int .u32 (num a)) = .returned (.int .u32 (num b)) := by rw [h]

theorem bits_xor_u32 (a b : BitVec 32) : Go.bits .xor .u32 (num a) (num b) = num (a ^^^ b) := by
  simp only [num_eq]; unfold Go.bits
  rw [IntKind.wrap_u32, BitVec.ofInt_natCast, BitVec.ofInt_natCast]
  show ((((BitVec.ofNat 32 a.toNat) ^^^ (BitVec.ofNat 32 b.toNat)).toNat : Nat) : Int) % 4294967296 = _
  rw [BitVec.ofNat_toNat, BitVec.ofNat_toNat, BitVec.setWidth_eq, BitVec.setWidth_eq]
  have := (a ^^^ b).isLt
  omega
theorem bits_and15_u32 (a : BitVec 32) : Go.bits .and .u32 (num a) 15 = ((ix a : Nat) : Int) := by
  rw [num_eq]; unfold Go.bits ix
  rw [IntKind.wrap_u32, BitVec.ofInt_natCast]
  show ((((BitVec.ofNat 32 a.toNat) &&& 15#32).toNat : Nat) : Int) % 4294967296 = _
  rw [BitVec.ofNat_toNat, BitVec.setWidth_eq]
  have := (a &&& 15#32).isLt
  omega
theorem bits_not_u32 (a : BitVec 32) : Go.bits .xor .u32 IntKind.u32.max (num a) = num (~~~ a) := by
  have h : IntKind.u32.max = num (BitVec.allOnes 32) := by rw [num_eq]; decide
  rw [h, bits_xor_u32]
  congr 1

theorem u8_u32 (x : UInt8) : ((x.toNat : Nat) : Int) % 4294967296 = num (w32 x) := by
  simp only [num_eq]; unfold w32
  rw [BitVec.toNat_ofNat]
  have := UInt8.toNat_lt x
  omega
theorem shr4_u32 (c : BitVec 32) : num c / (16 : Int) = num (c >>> 4) := by
  simp only [num_eq]
  rw [BitVec.toNat_ushiftRight, Nat.shiftRight_eq_div_pow]
  omega

theorem nib_u32 (c : BitVec 32) : Go.bits .xor .u32 (num c / (16 : Int)) (num (tab (ix c))) = num (nib c) := by
  rw [shr4_u32, bits_xor_u32]; rfl

set_option maxHeartbeats 400000 in
theorem nibbles_calls (w : World) : Calls Try.prog 73 #[] w fun e w' =>
    e = .returned (.agg ((List.range 16).map fun i => Value.int .u32 (num (tab i))).toArray) ∧ Below w.heap.size w w' := by
  go_enter Try.func73, Try.ntmps73
  go_wp2
  refine bodyPost_ret (v := .agg ((List.range 16).map fun i => Value.int .u32 (num (tab i))).toArray) ?_ rfl ⟨rfl, (Below.refl _ _).alloc (Nat.le_refl _) _⟩
  simp [results, Try.results73, go_sem]
  simp only [num_eq]
  decide

/-- The table lies in a block. -/
def TabIn (w : World) (b : Nat) : Prop := ∀ j, j < 16 → w.cell? ⟨b, j, none⟩ = some (.int .u32 (num (tab j)))
theorem TabIn.get {w : World} {b : Nat} (h : TabIn w b) (c : BitVec 32) : w.cell? ⟨b, ix c, none⟩ = some (.int .u32 (num (tab (ix c)))) := h _ (ix_lt c)
theorem tabIn_new (w : World) (t : TypeId) : TabIn (w.alloc (.cells ((List.range 16).map fun i => Value.int .u32 (num (tab i))).toArray t)) w.heap.size := by
  intro j hj
  rw [World.cell?_alloc_new]
  simp [hj]

attribute [local go_sem] bits_xor_u32 bits_and15_u32 bits_not_u32 u8_u32 nib_u32

set_option maxHeartbeats 400000 in
theorem more_calls (s : BitVec 32) (a : Option Addr) (cap : Nat) (l : List UInt8) (w : World) (hl : l.length ≤ 4611686018427387904) (hA : BytesAt w a l) :
    Calls Try.prog 66 #[.int .u32 (num s), .slice a l.length cap] w fun e w' =>
    e = .returned (.int .u32 (num (more s l))) ∧ Below w.heap.size w w' := by
  go_enter Try.func66, Try.ntmps66
  go_wp2_with (first | (go_at_call 73; refine (nibbles_calls _).mono ?_; rintro e w1 ⟨rfl, hb1⟩))
  go_loopw [6, 14] (fun c i wr => ∃ k : Nat, k ≤ l.length ∧ i = .int .i64 k ∧ c = .int .u32 (num (run (~~~ s) (l.take k))) ∧ Below w.heap.size w wr ∧ TabIn wr w1.heap.size) (fun _ i _ => l.length - (intOf i).toNat)
  case atStart => exact ⟨0, Nat.zero_le _, rfl, rfl, hb1.alloc hb1.size _, tabIn_new _ _⟩
  case round =>
    obtain ⟨k, hk, rfl, rfl, hbW, hT⟩ := hrel
    by_cases hlt : k < l.length
    · obtain ⟨b, o, rfl, hc⟩ := hA k hlt
      have hb := World.block_lt_of_cell? _ _ hc
      have hcr := (hbW.cell (p := ⟨b, o + k, none⟩) hb).trans hc
      obtain ⟨x, hx⟩ : ∃ x, x = l.getD k 0 := ⟨_, rfl⟩
      obtain ⟨c, hc0⟩ : ∃ c, c = run (~~~ s) (l.take k) := ⟨_, rfl⟩
      have hn : run (~~~ s) (l.take (k + 1)) = byteT c x := by
        rw [hx, hc0, ← run_snoc, List.take_succ_eq_append_getElem hlt]
        simp [hlt]
      rw [← hx] at hcr
      rw [← hc0]
      have Hn := Lib.hid hn
      clear hn hx hc0
      have hT1 := hT.get (c ^^^ w32 x)
      have hT2 := hT.get (nib (c ^^^ w32 x))
      have hi1 := ix_lt (c ^^^ w32 x)
      have hi2 := ix_lt (nib (c ^^^ w32 x))
      clear hA hc hb
      go_wp2
      go_roundw
      case rel => exact ⟨k + 1, by omega, by go_num, by rw [Hn.out]; rfl, hbW, hT⟩
      case measure => simp [intOf]; omega
    · go_wp2
      go_ret
      have e : k = l.length := by omega
      subst e
      exact ⟨by rw [List.take_length]; rfl, hbW⟩

theorem more_at (sv : Int) (s : BitVec 32) (a : Option Addr) (n cap : Nat) (l : List UInt8) (w : World) (hs : num s = sv) (hn : l.length = n) (hl : l.length ≤ 4611686018427387904) (hA : BytesAt w a l) :
    Calls Try.prog 66 #[.int .u32 sv, .slice a n cap] w fun e w' => e = .returned (.int .u32 (num (more s l))) ∧ Below w.heap.size w w' := by
  subst hs
  subst hn
  exact more_calls s a cap l w hl hA

set_option maxHeartbeats 400000 in
theorem sum_calls (a : Option Addr) (n cap : Nat) (l : List UInt8) (w : World) (hn : n = l.length) (hl : l.length ≤ 4611686018427387904) (hA : BytesAt w a l) :
    Calls Try.prog 67 #[.slice a n cap] w fun e w' =>
    e = .returned (.int .u32 (num (more 0#32 l))) ∧ Below w.heap.size w w' := by
  subst hn
  go_enter Try.func67, Try.ntmps67
  go_wp2_with (first | (go_at_call 66; refine (more_at _ 0#32 _ _ _ l _ (by rw [num_eq]; rfl) rfl hl hA).mono ?_; rintro e w1 ⟨rfl, hb1⟩))
  go_ret
  exact ⟨rfl, hb1⟩

end Go.Proofs.Ytnekelndcpmonaa
namespace Go.Proofs.Ytnekelndcpmonaa
open Go.RowKit

structure Jn where
  from_ : Nat
  size : Nat
  used : Nat
  next : Nat
  broken : Bool

def lastN : Nat := 4611686018427387904
def startN : Nat := 4294967295
def sumN (l : List UInt8) : Nat := (Crc.more 0#32 l).toNat
def preL (n len : Nat) : List UInt8 := lowL n 8 ++ lowL len 4
def headL (n len : Nat) (b : List UInt8) : List UInt8 := preL n len ++ lowL (sumN (preL n len ++ b)) 4
/-- A record's picture. -/
def pic (n len : Nat) (b : List UInt8) : List UInt8 := padTo (headL n len b ++ b)
theorem preL_len (n len : Nat) : (preL n len).length = 12 := by simp [preL, lowL_len]
theorem headL_len (n len : Nat) (b : List UInt8) : (headL n len b).length = 16 := by simp [headL, preL_len, lowL_len]
theorem pic_len (n len : Nat) (b : List UInt8) : (pic n len b).length = (b.length + 527) / 512 * 512 := by unfold pic; rw [padTo_len, List.length_append, headL_len]; congr 1; congr 1; omega
theorem pic_eq (n len : Nat) (b : List UInt8) : pic n len b = headL n len b ++ (b ++ List.replicate ((512 - (headL n len b ++ b).length % 512) % 512) 0) := by unfold pic padTo; rw [List.append_assoc]
theorem pic_head (n len : Nat) (b : List UInt8) : (pic n len b).take 16 = headL n len b := by rw [pic_eq, ← headL_len n len b, List.take_left]
/-- A picture's sectors. -/
def secsOf (p : List UInt8) : List (List UInt8) := (List.range (p.length / 512)).map fun i => (p.drop (512 * i)).take 512
theorem secsOf_len (p : List UInt8) : (secsOf p).length = p.length / 512 := by simp [secsOf]
theorem secsOf_getD (p : List UInt8) (i : Nat) (h : i < p.length / 512) : (secsOf p).getD i [] = (p.drop (512 * i)).take 512 := by simp [secsOf, List.getD, h]

/-- Some sectors are written, one behind another: to the first that fails. -/
def wrs : Dk → Nat → List (List UInt8) → Bool × Dk
  | D, _, [] => (true, D)
  | D, at_, s :: l => if D.fell.down then (false, D.write at_ s) else wrs (D.write at_ s) (at_ + 1) l
def eOf (ok : Bool) : Int := if ok then 0 else 11
def putJ (D : Dk) (j : Jn) (p : List UInt8) : Bool × Dk × Jn :=
  let r := secsOf (p.drop 512)
  let x := wrs D (j.from_ + j.used + 1) r
  if x.1 = false then (false, x.2, j) else
  let y : Bool × Dk := if r.length = 0 then (true, x.2) else (!x.2.fell.down, x.2.barrier)
  if y.1 = false then (false, y.2, j) else
  if y.2.fell.down then (false, y.2.write (j.from_ + j.used) (p.take 512), j)
  else (true, y.2.write (j.from_ + j.used) (p.take 512), { j with used := j.used + r.length + 1, next := j.next + 1 })
def roomJ (j : Jn) : Int := max (-1) (((j.size : Int) - j.used) * 512 - 16)
def doneJ (x : Bool × Dk × Jn) : Int × Dk × Jn := (eOf x.1, x.2.1, { x.2.2 with broken := !x.1 })
def commitJ (D : Dk) (j : Jn) : Int × Dk × Jn := if j.broken then (11, D, j) else doneJ (!D.fell.down, D.barrier, j)
def resetJ (D : Dk) (j : Jn) : Int × Dk × Jn :=
  if j.broken then (11, D, j) else if lastN < j.next then (5, D, j) else doneJ (putJ D { j with used := 0 } (pic j.next startN []))
def appendJ (D : Dk) (j : Jn) (b : List UInt8) : Int × Dk × Jn :=
  if j.broken then (11, D, j) else if roomJ j < b.length ∨ lastN < j.next then (5, D, j) else doneJ (putJ D j (pic j.next b.length b))

/-- Some sectors are read. -/
def rds : Nat → Dk → Nat → List UInt8 → Bool × List UInt8 × Dk
  | 0, D, _, p => (true, p, D)
  | k + 1, D, at_, p => if D.fell.down then (false, p, D.begun) else rds k D.begun (at_ + 1) (p ++ D.begun.now at_)
inductive RecR where
  | err (D : Dk)
  | none (D : Dk)
  | some (b : List UInt8) (D : Dk) (j : Jn)
def recJ (D : Dk) (j : Jn) : RecR :=
  if j.used = j.size ∨ lastN < j.next then .none D else
  if D.fell.down then .err D.begun else
  let p := D.begun.now (j.from_ + j.used)
  let len := numL ((p.drop 8).take 4)
  if numL (p.take 8) ≠ j.next ∨ roomJ j < len then .none D.begun else
  let x := rds ((len + 527) / 512 - 1) D.begun (j.from_ + j.used + 1) p
  if x.1 = false then .err x.2.2 else
  if headL j.next len ((x.2.1.drop 16).take len) ≠ x.2.1.take 16 then .none x.2.2 else
  .some ((x.2.1.drop 16).take len) x.2.2 { j with used := j.used + (len + 527) / 512, next := j.next + 1 }
def opnL : Nat → Dk → Jn → List (List UInt8) → Option (List (List UInt8) × Jn) × Dk
  | 0, D, j, l => (some (l, j), D)
  | f + 1, D, j, l => match recJ D j with
    | .err D' => (none, D')
    | .none D' => (some (l, j), D')
    | .some b D' j' => opnL f D' j' (l ++ [b])
/-- Open: an error's number, or the records and the journal. -/
inductive OpnR where
  | err (e : Int) (D : Dk)
  | ok (l : List (List UInt8)) (D : Dk) (j : Jn)
def openJ (D : Dk) (from_ size : Nat) : OpnR :=
  if D.fell.down then .err 11 D.begun else
  let p := D.begun.now from_
  let n := numL (p.take 8)
  if n < 1 ∨ lastN < n ∨ headL n startN [] ≠ p.take 16 then .err 3 D.begun else
  match opnL size D.begun ⟨from_, size, 1, n + 1, false⟩ [] with
  | (none, D') => .err 11 D'
  | (some (l, j), D') => .ok l D' j
/-- Format. -/
def formatJ (D : Dk) (from_ size : Nat) : Int × Dk × Jn :=
  let x := resetJ D ⟨from_, size, 0, 1, false⟩
  if x.1 ≠ 0 then x else commitJ x.2.1 x.2.2
end Go.Proofs.Ytnekelndcpmonaa
