/- Journals on disks that no crash waits for, as plain data. -/
import Derived.Test.YtoihfamiclbffaaLawA
namespace Go.Proofs.Ytoihfamiclbffaa

/-- Two disks that differ at most in how many operations were done. -/
structure Same (D D' : Dk) : Prop where
  secs : D'.secs = D.secs
  waits : D'.waits = D.waits
  down : D'.down = D.down
  armed : D'.armed = D.armed
theorem Same.refl (D : Dk) : Same D D := ⟨rfl, rfl, rfl, rfl⟩
theorem Same.trans {A B C : Dk} (h : Same A B) (g : Same B C) : Same A C := ⟨g.secs.trans h.secs, g.waits.trans h.waits, g.down.trans h.down, g.armed.trans h.armed⟩
theorem Same.now {D D' : Dk} (h : Same D D') (i : Nat) : D'.now i = D.now i := by unfold Dk.now; rw [h.secs, h.waits]
theorem Same.calm {D D' : Dk} {n k : Nat} (h : Same D D') (c : Calm D n k) : Calm D' n k := ⟨by rw [h.secs]; exact c.len, by rw [h.waits]; exact c.waits, by rw [h.down]; exact c.down, by rw [h.armed]; exact c.armed⟩
theorem Same.ok {D D' : Dk} (h : Same D D') (o : D.Ok) : D'.Ok := ⟨by rw [h.secs]; exact o.secs, by rw [h.waits, h.secs]; exact o.waits⟩
theorem Calm.same {D : Dk} {n k : Nat} (c : Calm D n k) : Same D D.begun := by
  have e : D.begun = D.counted := by simp [Dk.begun, c.fell, c.down]
  rw [e]; exact ⟨rfl, rfl, rfl, by simp [Dk.counted, c.armed]⟩

/-- What a row of sectors reads as. -/
structure Area (D : Dk) (from_ size : Nat) (s : List UInt8) : Prop where
  len : s.length = 512 * size
  sec : ∀ i, i < size → D.now (from_ + i) = (s.drop (512 * i)).take 512
theorem Area.same {D D' : Dk} {f z : Nat} {s : List UInt8} (a : Area D f z s) (h : Same D D') : Area D' f z s := ⟨a.len, fun i hi => by rw [h.now]; exact a.sec i hi⟩
theorem Area.congr {D D' : Dk} {f z : Nat} {s : List UInt8} (a : Area D f z s) (h : ∀ i, i < z → D'.now (f + i) = D.now (f + i)) : Area D' f z s := ⟨a.len, fun i hi => by rw [h i hi]; exact a.sec i hi⟩
theorem take_take_add {α : Type} (l : List α) (a b : Nat) : l.take a ++ (l.drop a).take b = l.take (a + b) := (List.take_add ..).symm
/-- Sectors one behind another. -/
def rowD (D : Dk) (at_ : Nat) : Nat → List UInt8
  | 0 => []
  | k + 1 => rowD D at_ k ++ D.now (at_ + k)
theorem rowD_front (D : Dk) : ∀ (k at_ : Nat), rowD D at_ (k + 1) = D.now at_ ++ rowD D (at_ + 1) k
  | 0, at_ => by simp [rowD]
  | k + 1, at_ => by
    rw [rowD, rowD_front D k at_, List.append_assoc]
    congr 1
    rw [rowD]
    congr 2
    omega
theorem rowD_same {D D' : Dk} (h : Same D D') (at_ : Nat) : ∀ k, rowD D' at_ k = rowD D at_ k
  | 0 => rfl
  | k + 1 => by rw [rowD, rowD, rowD_same h at_ k, h.now]
theorem Area.row {D : Dk} {f z : Nat} {s : List UInt8} (a : Area D f z s) (u : Nat) : ∀ k, u + k ≤ z → rowD D (f + u) k = (s.drop (512 * u)).take (512 * k)
  | 0, _ => by simp [rowD]
  | k + 1, h => by
    rw [rowD, a.row u k (by omega), Nat.add_assoc, a.sec (u + k) (by omega), Nat.mul_succ 512 k, ← take_take_add, List.drop_drop]
    congr 3
    omega
theorem row_len {D : Dk} (ok : D.Ok) (at_ : Nat) : ∀ k, at_ + k ≤ D.secs.length → (rowD D at_ k).length = 512 * k
  | 0, _ => rfl
  | k + 1, h => by rw [rowD, List.length_append, row_len ok at_ k (by omega), Dk.now_len ok _ (by omega)]; omega
theorem row_sec {D : Dk} (ok : D.Ok) (at_ : Nat) : ∀ k i, at_ + k ≤ D.secs.length → i < k → D.now (at_ + i) = ((rowD D at_ k).drop (512 * i)).take 512
  | 0, i, _, h => by omega
  | k + 1, i, h, hi => by
    have hl := row_len ok at_ k (by omega)
    have hn := Dk.now_len ok (at_ + k) (by omega)
    rw [rowD]
    by_cases e : i = k
    · subst e
      rw [List.drop_append_of_le_length (by omega), List.drop_of_length_le (by omega), List.nil_append, List.take_of_length_le (by omega)]
    · rw [row_sec ok at_ k i (by omega) (by omega), List.drop_append_of_le_length (by omega), List.take_append_of_le_length (by rw [List.length_drop]; omega)]
theorem Area.of {D : Dk} (ok : D.Ok) (f z : Nat) (h : f + z ≤ D.secs.length) : Area D f z (rowD D f z) := ⟨row_len ok f z h, fun i hi => row_sec ok f z i h hi⟩
theorem Area.eq {D : Dk} {f z : Nat} {s : List UInt8} (a : Area D f z s) : rowD D f z = s := by
  have := a.row 0 z (by omega)
  rw [Nat.add_zero] at this
  rw [this, Nat.mul_zero, List.drop_zero, List.take_of_length_le (by rw [a.len]; omega)]

theorem rds_calm : ∀ (k : Nat) (D : Dk) (n m at_ : Nat) (p : List UInt8), Calm D n m → ∃ D', rds k D at_ p = (true, p ++ rowD D at_ k, D') ∧ Same D D'
  | 0, D, n, m, at_, p, _ => ⟨D, by simp [rds, rowD], Same.refl D⟩
  | k + 1, D, n, m, at_, p, c => by
    obtain ⟨D', h1, h2⟩ := rds_calm k D.begun n m (at_ + 1) (p ++ D.begun.now at_) c.begun
    refine ⟨D', ?_, c.same.trans h2⟩
    rw [rds, c.fdown, if_neg (by simp), h1, rowD_front, rowD_same c.same, c.same.now, List.append_assoc]

/-- The record that stands at the head of bytes, and how many sectors it has. -/
def oneB (s : List UInt8) (n : Nat) : Option (List UInt8 × Nat) :=
  if s.length < 512 ∨ lastN < n ∨ numL (s.take 8) ≠ n then none else
  if s.length < numL ((s.drop 8).take 4) + 16 then none else
  if headL n (numL ((s.drop 8).take 4)) ((s.drop 16).take (numL ((s.drop 8).take 4))) ≠ s.take 16 then none else
  some ((s.drop 16).take (numL ((s.drop 8).take 4)), (numL ((s.drop 8).take 4) + 527) / 512)
def replL (s : List UInt8) : Nat → Nat → Nat → List (List UInt8) → List (List UInt8) × Nat × Nat
  | 0, u, n, l => (l, n, u)
  | f + 1, u, n, l => match oneB (s.drop (512 * u)) n with
    | none => (l, n, u)
    | some (b, k) => replL s f (u + k) (n + 1) (l ++ [b])
/-- What a journal's bytes tell: its records, the next number, its sectors. -/
def replB (s : List UInt8) : Option (List (List UInt8) × Nat × Nat) :=
  if numL (s.take 8) < 1 ∨ lastN < numL (s.take 8) ∨ headL (numL (s.take 8)) startN [] ≠ s.take 16 then none else
  some (replL s (s.length / 512) 1 (numL (s.take 8) + 1) [])

theorem take_take_le {α : Type} (l : List α) {a b : Nat} (h : a ≤ b) : (l.take b).take a = l.take a := by rw [List.take_take, Nat.min_eq_left h]
theorem drop_take_take {α : Type} (l : List α) {a c b : Nat} (h : a + c ≤ b) : ((l.take b).drop a).take c = (l.drop a).take c := by rw [List.drop_take, take_take_le _ (by omega)]
theorem num4_lt (l : List UInt8) : numL (l.take 4) < 4294967296 := by
  have h := numL_lt (l.take 4)
  have h1 : (l.take 4).length ≤ 4 := List.length_take_le _ _
  have h2 : 256 ^ (l.take 4).length ≤ 256 ^ 4 := Nat.pow_le_pow_right (by omega) h1
  omega

def RecSaid (D : Dk) (j : Jn) : Option (List UInt8 × Nat) → Prop
  | none => ∃ D', recJ D j = .none D' ∧ Same D D'
  | some (b, k) => ∃ D', recJ D j = .some b D' { j with used := j.used + k, next := j.next + 1 } ∧ Same D D' ∧ 1 ≤ k ∧ j.used + k ≤ j.size
theorem rec_calm {D : Dk} {n m : Nat} {j : Jn} {s : List UInt8} (c : Calm D n m) (a : Area D j.from_ j.size s) (hu : j.used ≤ j.size) : RecSaid D j (oneB (s.drop (512 * j.used)) j.next) := by
  obtain ⟨t, ht⟩ : ∃ t, t = s.drop (512 * j.used) := ⟨_, rfl⟩
  have hl : t.length = 512 * (j.size - j.used) := by rw [ht, List.length_drop, a.len, Nat.mul_sub]
  rw [← ht]
  unfold oneB
  by_cases h1 : j.used = j.size ∨ lastN < j.next
  · rw [if_pos (by rcases h1 with h1 | h1; exact .inl (by rw [hl]; omega); exact .inr (.inl h1))]
    exact ⟨D, rec_end h1, Same.refl D⟩
  have hlt : j.used < j.size := by omega
  have hsec : D.begun.now (j.from_ + j.used) = t.take 512 := by rw [c.same.now, a.sec _ hlt, ht]
  by_cases h2 : numL (t.take 8) ≠ j.next
  · rw [if_pos (.inr (.inr h2))]
    exact ⟨_, rec_no h1 c.fdown _ hsec (.inl (by rw [take_take_le _ (by omega)]; exact h2)), c.same⟩
  rw [if_neg (by omega)]
  obtain ⟨len, hlen⟩ : ∃ len, len = numL ((t.drop 8).take 4) := ⟨_, rfl⟩
  have hl4 := num4_lt (t.drop 8)
  rw [← hlen] at hl4 ⊢
  have hroom : roomJ j = ((j.size - j.used : Nat) : Int) * 512 - 16 := by unfold roomJ; omega
  have hlen2 : numL (((t.take 512).drop 8).take 4) = len := by rw [drop_take_take _ (by omega), hlen]
  by_cases h3 : t.length < len + 16
  · rw [if_pos h3]
    exact ⟨_, rec_no h1 c.fdown _ hsec (.inr (by rw [hlen2, hroom]; omega)), c.same⟩
  rw [if_neg h3]
  obtain ⟨D', h4, h5⟩ := rds_calm ((len + 527) / 512 - 1) D.begun n m (j.from_ + j.used + 1) (t.take 512) c.begun
  have hrow : t.take 512 ++ rowD D.begun (j.from_ + j.used + 1) ((len + 527) / 512 - 1) = t.take (512 * ((len + 527) / 512)) := by
    rw [rowD_same c.same, Nat.add_assoc, a.row (j.used + 1) _ (by omega), Nat.mul_succ, ← List.drop_drop, ← ht, take_take_add]
    congr 1
    omega
  rw [hrow] at h4
  have hgo := rec_go h1 c.fdown _ hsec len hlen2 (by rw [take_take_le _ (by omega), hroom]; omega) true _ D' h4
  rw [if_neg (by simp), drop_take_take _ (by omega), take_take_le _ (by omega)] at hgo
  by_cases h6 : headL j.next len ((t.drop 16).take len) ≠ t.take 16
  · rw [if_pos h6] at hgo ⊢
    exact ⟨D', hgo, c.same.trans h5⟩
  · rw [if_neg h6] at hgo ⊢
    exact ⟨D', hgo, c.same.trans h5, by omega, by omega⟩

theorem opnL_calm : ∀ (f : Nat) (D : Dk) (n m : Nat) (j : Jn) (s : List UInt8) (l : List (List UInt8)), Calm D n m → Area D j.from_ j.size s → j.used ≤ j.size →
    ∃ D', opnL f D j l = (some ((replL s f j.used j.next l).1, { j with used := (replL s f j.used j.next l).2.2, next := (replL s f j.used j.next l).2.1 }), D') ∧ Same D D' ∧ j.used ≤ (replL s f j.used j.next l).2.2 ∧ (replL s f j.used j.next l).2.2 ≤ j.size ∧
      j.next ≤ (replL s f j.used j.next l).2.1 ∧ (replL s f j.used j.next l).2.1 ≤ j.next + ((replL s f j.used j.next l).2.2 - j.used)
  | 0, D, n, m, j, s, l, c, a, hu => ⟨D, rfl, Same.refl D, Nat.le_refl _, hu, Nat.le_refl _, by simp [replL]⟩
  | f + 1, D, n, m, j, s, l, c, a, hu => by
    have h := rec_calm c a hu
    rw [opnL, replL]
    cases ho : oneB (s.drop (512 * j.used)) j.next with
    | none =>
      rw [ho] at h
      obtain ⟨D', h1, h2⟩ := h
      rw [h1]
      exact ⟨D', rfl, h2, Nat.le_refl _, hu, Nat.le_refl _, by dsimp only; omega⟩
    | some x =>
      obtain ⟨b, k⟩ := x
      rw [ho] at h
      obtain ⟨D', h1, h2, h3, h4⟩ := h
      rw [h1]
      obtain ⟨D2, g1, g2, g3, g4, g5, g6⟩ := opnL_calm f D' n m { j with used := j.used + k, next := j.next + 1 } s (l ++ [b]) (h2.calm c) (a.same h2) h4
      dsimp only at g1 g3 g4 g5 g6 ⊢
      exact ⟨D2, g1, h2.trans g2, by omega, g4, by omega, by omega⟩

def OpenSaid (D : Dk) (from_ size : Nat) : Option (List (List UInt8) × Nat × Nat) → Prop
  | none => ∃ D', opnJ D from_ size = .err 2 D' ∧ Same D D'
  | some (l, n, u) => ∃ D', opnJ D from_ size = .ok l D' ⟨from_, size, u, n, false⟩ ∧ Same D D' ∧ 1 ≤ u ∧ u ≤ size ∧ 2 ≤ n ∧ n + 1 ≤ numL ((D.now from_).take 8) + 1 + u ∧ numL ((D.now from_).take 8) ≤ lastN
theorem open_calm {D : Dk} {n m from_ size : Nat} {s : List UInt8} (c : Calm D n m) (a : Area D from_ size s) (h2 : 2 ≤ size) : OpenSaid D from_ size (replB s) := by
  have hsec : D.now from_ = s.take 512 := by have := a.sec 0 (by omega); rw [Nat.add_zero, Nat.mul_zero, List.drop_zero] at this; exact this
  have hlen : s.length / 512 = size := by rw [a.len]; omega
  unfold replB
  rw [hlen]
  have h8 : ((D.begun.now from_).take 8) = s.take 8 := by rw [c.same.now, hsec, take_take_le _ (by omega)]
  have h16 : ((D.begun.now from_).take 16) = s.take 16 := by rw [c.same.now, hsec, take_take_le _ (by omega)]
  by_cases hn : numL (s.take 8) < 1 ∨ lastN < numL (s.take 8) ∨ headL (numL (s.take 8)) startN [] ≠ s.take 16
  · rw [if_pos hn]
    refine ⟨_, ?_, c.same⟩
    unfold opnJ
    rw [c.fdown, if_neg (by simp)]
    simp only [h8, h16]
    rw [if_pos hn]
  · rw [if_neg hn]
    obtain ⟨D', h3, h4, h5, h6, h7, h8'⟩ := opnL_calm size D.begun n m ⟨from_, size, 1, numL (s.take 8) + 1, false⟩ s [] c.begun (a.same c.same) (by show 1 ≤ size; omega)
    dsimp only at h3 h5 h6 h7 h8'
    rw [← hlen] at h3 h5 h6 h7 h8'
    rw [← hlen]
    obtain ⟨⟨l, nn, u⟩, hx⟩ : ∃ x, x = replL s (s.length / 512) 1 (numL (s.take 8) + 1) [] := ⟨_, rfl⟩
    rw [← hx] at h3 h5 h6 h7 h8' ⊢
    dsimp only at h3 h5 h6 h7 h8'
    rw [hlen] at h3 h6
    refine ⟨D', ?_, c.same.trans h4, h5, by rw [hlen]; exact h6, by omega, ?_, ?_⟩
    · unfold opnJ
      rw [c.fdown, if_neg (by simp)]
      simp only [h8, h16]
      rw [if_neg hn, hlen, h3]
    · rw [hsec, take_take_le _ (by omega)]; omega
    · rw [hsec, take_take_le _ (by omega)]; omega

theorem open_some {D : Dk} {n m from_ size : Nat} {s : List UInt8} (c : Calm D n m) (a : Area D from_ size s) (h2 : 2 ≤ size) {l : List (List UInt8)} {nn u : Nat} (hr : replB s = some (l, nn, u)) :
    ∃ D', opnJ D from_ size = .ok l D' ⟨from_, size, u, nn, false⟩ ∧ Same D D' ∧ 1 ≤ u ∧ u ≤ size ∧ 2 ≤ nn ∧ nn + 1 ≤ numL ((D.now from_).take 8) + 1 + u ∧ numL ((D.now from_).take 8) ≤ lastN := by
  have h := open_calm c a h2
  rw [hr] at h
  exact h
theorem open_none {D : Dk} {n m from_ size : Nat} {s : List UInt8} (c : Calm D n m) (a : Area D from_ size s) (h2 : 2 ≤ size) (hr : replB s = none) : ∃ D', opnJ D from_ size = .err 2 D' ∧ Same D D' := by
  have h := open_calm c a h2
  rw [hr] at h
  exact h

/-! ### What was written is read -/
theorem headL_num (n len : Nat) (b rest : List UInt8) (hn : n < 18446744073709551616) : numL ((headL n len b ++ rest).take 8) = n := by
  have e : (headL n len b ++ rest).take 8 = lowL n 8 := by
    unfold headL preL
    rw [List.append_assoc, List.append_assoc, List.append_assoc, List.take_append_of_le_length (by rw [lowL_len]; omega), List.take_of_length_le (by rw [lowL_len]; omega)]
  rw [e]
  exact numL_lowL 8 n (by simpa using hn)
theorem headL_size (n len : Nat) (b rest : List UInt8) (hn : len < 4294967296) : numL (((headL n len b ++ rest).drop 8).take 4) = len := by
  have e : ((headL n len b ++ rest).drop 8).take 4 = lowL len 4 := by
    unfold headL preL
    rw [List.append_assoc, List.append_assoc, List.append_assoc, List.drop_append_of_le_length (by rw [lowL_len]; omega), List.drop_of_length_le (by rw [lowL_len]; omega), List.nil_append,
      List.take_append_of_le_length (by rw [lowL_len]; omega), List.take_of_length_le (by rw [lowL_len]; omega)]
  rw [e]
  exact numL_lowL 4 len (by simpa using hn)
theorem one_pic (n : Nat) (b rest : List UInt8) (hn : n ≤ lastN) (hb : b.length < 4294967296) : oneB (pic n b.length b ++ rest) n = some (b, (b.length + 527) / 512) := by
  have hpl := pic_len n b.length b
  have hlen : 512 ≤ (pic n b.length b ++ rest).length := by rw [List.length_append, hpl]; omega
  have hlen2 : b.length + 16 ≤ (pic n b.length b ++ rest).length := by rw [List.length_append, hpl]; omega
  obtain ⟨r, hr⟩ : ∃ r, pic n b.length b ++ rest = headL n b.length b ++ (b ++ r) := ⟨_, by rw [pic_eq, List.append_assoc, List.append_assoc]⟩
  rw [hr] at hlen hlen2 ⊢
  have h1 := headL_num n b.length b (b ++ r) (by unfold lastN at hn; omega)
  have h2 := headL_size n b.length b (b ++ r) hb
  have h3 : (headL n b.length b ++ (b ++ r)).take 16 = headL n b.length b := by rw [List.take_append_of_le_length (by rw [headL_len]; omega), List.take_of_length_le (by rw [headL_len]; omega)]
  have h4 : ((headL n b.length b ++ (b ++ r)).drop 16).take b.length = b := by
    rw [List.drop_append_of_le_length (by rw [headL_len]; omega), List.drop_of_length_le (by rw [headL_len]; omega), List.nil_append, List.take_append_of_le_length (by omega), List.take_length]
  unfold oneB
  rw [h1, h2, h3, h4, if_neg (by omega), if_neg (by omega), if_neg (by simp)]
theorem one_num {s : List UInt8} {n : Nat} (h : numL (s.take 8) ≠ n) : oneB s n = none := by unfold oneB; rw [if_pos (.inr (.inr h))]
theorem one_short {s : List UInt8} {n : Nat} (h : s.length < 512) : oneB s n = none := by unfold oneB; rw [if_pos (.inl h)]
theorem one_last {s : List UInt8} {n : Nat} (h : lastN < n) : oneB s n = none := by unfold oneB; rw [if_pos (.inr (.inl h))]
/-- Records, one behind another. -/
def recs (n : Nat) : List (List UInt8) → List UInt8
  | [] => []
  | b :: l => pic n b.length b ++ recs (n + 1) l
def pages : List (List UInt8) → Nat
  | [] => 0
  | b :: l => (b.length + 527) / 512 + pages l
theorem recs_len (l : List (List UInt8)) : ∀ n, (recs n l).length = 512 * pages l := by
  induction l with
  | nil => intro n; rfl
  | cons b l ih => intro n; rw [recs, pages, List.length_append, ih, pic_len]; omega
theorem recs_append (l k : List (List UInt8)) : ∀ n, recs n (l ++ k) = recs n l ++ recs (n + l.length) k := by
  induction l with
  | nil => intro n; rfl
  | cons b l ih => intro n; rw [List.cons_append, recs, ih, recs, List.append_assoc, List.length_cons]; congr 3; omega
theorem pages_append (l k : List (List UInt8)) : pages (l ++ k) = pages l + pages k := by
  induction l with
  | nil => simp [pages]
  | cons b l ih => rw [List.cons_append, pages, ih, pages]; omega
theorem pages_le (l : List (List UInt8)) : l.length ≤ pages l := by
  induction l with
  | nil => exact Nat.le_refl _
  | cons b l ih => rw [List.length_cons, pages]; omega
theorem replL_recs (s rest : List UInt8) : ∀ (bs : List (List UInt8)) (f u n : Nat) (acc : List (List UInt8)), s.drop (512 * u) = recs n bs ++ rest → oneB rest (n + bs.length) = none → bs.length ≤ f → n + bs.length ≤ lastN + 1 → (∀ b ∈ bs, b.length < 4294967296) →
    replL s f u n acc = (acc ++ bs, n + bs.length, u + pages bs)
  | [], f, u, n, acc, h1, h2, _, _, _ => by
    cases f with
    | zero => simp [replL, pages]
    | succ f =>
      rw [replL, h1]
      show (match oneB rest n with | none => _ | some (b, k) => _) = _
      have h3 : oneB rest n = none := h2
      rw [h3]; simp [pages]
  | b :: bs, 0, u, n, acc, _, _, h, _, _ => by simp at h
  | b :: bs, f + 1, u, n, acc, h1, h2, h3, h4, h5 => by
    have hb := h5 b List.mem_cons_self
    rw [List.length_cons] at h2 h3 h4
    have h6 : s.drop (512 * u) = pic n b.length b ++ (recs (n + 1) bs ++ rest) := by rw [h1, recs, List.append_assoc]
    rw [replL, h6, one_pic n b _ (by omega) hb]
    dsimp only
    rw [replL_recs s rest bs f (u + (b.length + 527) / 512) (n + 1) (acc ++ [b]) ?_ (by rw [show n + 1 + bs.length = n + (bs.length + 1) by omega]; exact h2) (by omega) (by omega) (fun x hx => h5 x (List.mem_cons_of_mem _ hx))]
    · rw [pages, List.length_cons, List.append_assoc]
      refine Prod.ext rfl (Prod.ext ?_ ?_)
      · show n + 1 + bs.length = n + (bs.length + 1); omega
      · show u + (b.length + 527) / 512 + pages bs = u + ((b.length + 527) / 512 + pages bs); omega
    · have e : (pic n b.length b).length = 512 * ((b.length + 527) / 512) := by rw [pic_len]; omega
      rw [Nat.mul_add, ← List.drop_drop, h6, ← e, List.drop_left]
theorem begin_len (m : Nat) : (pic m startN []).length = 512 := by rw [pic_len]; rfl
theorem replB_recs (m : Nat) (bs : List (List UInt8)) (rest s : List UInt8) (hs : s = pic m startN [] ++ (recs (m + 1) bs ++ rest)) (h1 : 1 ≤ m) (h2 : oneB rest (m + 1 + bs.length) = none) (h3 : m + bs.length ≤ lastN) (h4 : ∀ b ∈ bs, b.length < 4294967296) :
    replB s = some (bs, m + 1 + bs.length, 1 + pages bs) := by
  have hlen : s.length = 512 + 512 * pages bs + rest.length := by rw [hs, List.length_append, begin_len, List.length_append, recs_len]; omega
  have hp := pages_le bs
  obtain ⟨r, hr⟩ : ∃ r, s = headL m startN [] ++ r := ⟨_, by rw [hs, pic_eq, List.append_assoc]⟩
  have g1 : numL (s.take 8) = m := by rw [hr]; exact headL_num m startN [] r (by unfold lastN at h3; omega)
  have g2 : s.take 16 = headL m startN [] := by rw [hr, List.take_append_of_le_length (by rw [headL_len]; omega), List.take_of_length_le (by rw [headL_len]; omega)]
  unfold replB
  rw [g1, g2, if_neg (by simp; omega)]
  rw [replL_recs s rest bs _ 1 (m + 1) [] ?_ h2 ?_ (by omega) h4]
  · rfl
  · rw [hs, Nat.mul_one, ← begin_len m, List.drop_left]
  · have : pages bs ≤ s.length / 512 := by omega
    omega
end Go.Proofs.Ytoihfamiclbffaa
