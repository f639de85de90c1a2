/- Journals on disks that no crash waits for, as plain data. Journals on disks that no crash waits for, as plain data: what they write. A journal's area as a beginning and its records: what Append, Reset, Format and Open make of it. How a law's arguments are opened; what the rows share. Strings that came in: how []string is opened; a string as bytes. -/
import Derived.Test.YtnekelndcpmonaaMg10
import Derived.Test.YtnekelndcpmonaaRows
import Derived.WalkKit
import Derived.ProofKit
import Derived.OpenShut
import Derived.ShutString
import Derived.ChangeOld
import Derived.Below
import Derived.Deep.Slices
import Derived.Test.YtnekelndcpmonaaMg1
import Derived.Test.YtnekelndcpmonaaMg4
import Derived.Deep.Strs
import Derived.Lib.ConvBytes
import Derived.BigQuiet
set_option linter.all false
namespace Go.Proofs.Ytnekelndcpmonaa

/-- Two disks that differ at most in how many operations were done. -/
structure Same (D D' : Dk) : Prop where
  secs : D'.secs = D.secs
  waits : D'.waits = D.waits
  down : D'.down = D.down
  armed : D'.armed = D.armed
theorem Same.refl (D : Dk) : Same D D := ⟨rfl, rfl, rfl, rfl⟩
theorem Same.trans {A B C : Dk} (h : Same A B) (g : Same B C) : Same A C := ⟨g.secs.trans h.secs, g.waits.trans h.waits, g.down.trans h.down, g.armed.trans h.armed⟩
theorem Same.now {D D' : Dk} (h : Same D D') (i : Nat) : D'.now i = D.now i := by unfold Dk.now; rw [h.secs, h.waits]
theorem Same.calm {D D' : Dk} {n k : Nat} (h : Same D D') (c : Calm D n k) : Calm D' n k := ⟨by rw [h.secs]; exact c.len, by rw [h.waits]; exact c.waits, by rw [h.down]; exact c.down, by rw [h.armed]; exact c.armed⟩
theorem Same.ok {D D' : Dk} (h : Same D D') (o : D.Ok) : D'.Ok := ⟨by rw [h.secs]; exact o.secs, by rw [h.waits, h.secs]; exact o.waits⟩
theorem Calm.same {D : Dk} {n k : Nat} (c : Calm D n k) : Same D D.begun := by
  have e : D.begun = D.counted := by simp [Dk.begun, c.fell, c.down]
  rw [e]; exact ⟨rfl, rfl, rfl, by simp [Dk.counted, c.armed]⟩

/-- What a row of sectors reads as. -/
structure Area (D : Dk) (from_ size : Nat) (s : List UInt8) : Prop where
  len : s.length = 512 * size
  sec : ∀ i, i < size → D.now (from_ + i) = (s.drop (512 * i)).take 512
theorem Area.same {D D' : Dk} {f z : Nat} {s : List UInt8} (a : Area D f z s) (h : Same D D') : Area D' f z s := ⟨a.len, fun i hi => by rw [h.now]; exact a.sec i hi⟩
theorem Area.congr {D D' : Dk} {f z : Nat} {s : List UInt8} (a : Area D f z s) (h : ∀ i, i < z → D'.now (f + i) = D.now (f + i)) : Area D' f z s := ⟨a.len, fun i hi => by rw [h i hi]; exact a.sec i hi⟩
theorem take_take_add {α : Type} (l : List α) (a b : Nat) : l.take a ++ (l.drop a).take b = l.take (a + b) := (List.take_add ..).symm
/-- Sectors one behind another. -/
def rowD (D : Dk) (at_ : Nat) : Nat → List UInt8
  | 0 => []
  | k + 1 => rowD D at_ k ++ D.now (at_ + k)
theorem rowD_front (D : Dk) : ∀ (k at_ : Nat), rowD D at_ (k + 1) = D.now at_ ++ rowD D (at_ + 1) k
  | 0, at_ => by simp [rowD]
  | k + 1, at_ => by
    rw [rowD, rowD_front D k at_, List.append_assoc]
    congr 1
    rw [rowD]
    congr 2
    omega
theorem rowD_same {D D' : Dk} (h : Same D D') (at_ : Nat) : ∀ k, rowD D' at_ k = rowD D at_ k
  | 0 => rfl
  | k + 1 => by rw [rowD, rowD, rowD_same h at_ k, h.now]
theorem Area.row {D : Dk} {f z : Nat} {s : List UInt8} (a : Area D f z s) (u : Nat) : ∀ k, u + k ≤ z → rowD D (f + u) k = (s.drop (512 * u)).take (512 * k)
  | 0, _ => by simp [rowD]
  | k + 1, h => by
    rw [rowD, a.row u k (by omega), Nat.add_assoc, a.sec (u + k) (by omega), Nat.mul_succ 512 k, ← take_take_add, List.drop_drop]
    congr 3
    omega
theorem row_len {D : Dk} (ok : D.Ok) (at_ : Nat) : ∀ k, at_ + k ≤ D.secs.length → (rowD D at_ k).length = 512 * k
  | 0, _ => rfl
  | k + 1, h => by rw [rowD, List.length_append, row_len ok at_ k (by omega), Dk.now_len ok _ (by omega)]; omega
theorem row_sec {D : Dk} (ok : D.Ok) (at_ : Nat) : ∀ k i, at_ + k ≤ D.secs.length → i < k → D.now (at_ + i) = ((rowD D at_ k).drop (512 * i)).take 512
  | 0, i, _, h => by omega
  | k + 1, i, h, hi => by
    have hl := row_len ok at_ k (by omega)
    have hn := Dk.now_len ok (at_ + k) (by omega)
    rw [rowD]
    by_cases e : i = k
    · subst e
      rw [List.drop_append_of_le_length (by omega), List.drop_of_length_le (by omega), List.nil_append, List.take_of_length_le (by omega)]
    · rw [row_sec ok at_ k i (by omega) (by omega), List.drop_append_of_le_length (by omega), List.take_append_of_le_length (by rw [List.length_drop]; omega)]
theorem Area.of {D : Dk} (ok : D.Ok) (f z : Nat) (h : f + z ≤ D.secs.length) : Area D f z (rowD D f z) := ⟨row_len ok f z h, fun i hi => row_sec ok f z i h hi⟩
theorem Area.eq {D : Dk} {f z : Nat} {s : List UInt8} (a : Area D f z s) : rowD D f z = s := by
  have := a.row 0 z (by omega)
  rw [Nat.add_zero] at this
  rw [this, Nat.mul_zero, List.drop_zero, List.take_of_length_le (by rw [a.len]; omega)]

theorem rds_calm : ∀ (k : Nat) (D : Dk) (n m at_ : Nat) (p : List UInt8), Calm D n m → ∃ D', rds k D at_ p = (true, p ++ rowD D at_ k, D') ∧ Same D D'
  | 0, D, n, m, at_, p, _ => ⟨D, by simp [rds, rowD], Same.refl D⟩
  | k + 1, D, n, m, at_, p, c => by
    obtain ⟨D', h1, h2⟩ := rds_calm k D.begun n m (at_ + 1) (p ++ D.begun.now at_) c.begun
    refine ⟨D', ?_, c.same.trans h2⟩
    rw [rds, c.fdown, if_neg (by simp), h1, rowD_front, rowD_same c.same, c.same.now, List.append_assoc]

/-- The record that stands at the head of bytes, and how many sectors it has. -/
def oneB (s : List UInt8) (n : Nat) : Option (List UInt8 × Nat) :=
  if s.length < 512 ∨ lastN < n ∨ numL (s.take 8) ≠ n then none else
  if s.length < numL ((s.drop 8).take 4) + 16 then none else
  if headL n (numL ((s.drop 8).take 4)) ((s.drop 16).take (numL ((s.drop 8).take 4))) ≠ s.take 16 then none else
  some ((s.drop 16).take (numL ((s.drop 8).take 4)), (numL ((s.drop 8).take 4) + 527) / 512)
def replL (s : List UInt8) : Nat → Nat → Nat → List (List UInt8) → List (List UInt8) × Nat × Nat
  | 0, u, n, l => (l, n, u)
  | f + 1, u, n, l => match oneB (s.drop (512 * u)) n with
    | none => (l, n, u)
    | some (b, k) => replL s f (u + k) (n + 1) (l ++ [b])
/-- What a journal's bytes tell: its records, the next number, its sectors. -/
def replB (s : List UInt8) : Option (List (List UInt8) × Nat × Nat) :=
  if numL (s.take 8) < 1 ∨ lastN < numL (s.take 8) ∨ headL (numL (s.take 8)) startN [] ≠ s.take 16 then none else
  some (replL s (s.length / 512) 1 (numL (s.take 8) + 1) [])

theorem take_take_le {α : Type} (l : List α) {a b : Nat} (h : a ≤ b) : (l.take b).take a = l.take a := by rw [List.take_take, Nat.min_eq_left h]
theorem drop_take_take {α : Type} (l : List α) {a c b : Nat} (h : a + c ≤ b) : ((l.take b).drop a).take c = (l.drop a).take c := by rw [List.drop_take, take_take_le _ (by omega)]
theorem num4_lt (l : List UInt8) : numL (l.take 4) < 4294967296 := by
  have h := numL_lt (l.take 4)
  have h1 : (l.take 4).length ≤ 4 := List.length_take_le _ _
  have h2 : 256 ^ (l.take 4).length ≤ 256 ^ 4 := Nat.pow_le_pow_right (by omega) h1
  omega

def RecSaid (D : Dk) (j : Jn) : Option (List UInt8 × Nat) → Prop
  | none => ∃ D', recJ D j = .none D' ∧ Same D D'
  | some (b, k) => ∃ D', recJ D j = .some b D' { j with used := j.used + k, next := j.next + 1 } ∧ Same D D' ∧ 1 ≤ k ∧ j.used + k ≤ j.size
theorem rec_calm {D : Dk} {n m : Nat} {j : Jn} {s : List UInt8} (c : Calm D n m) (a : Area D j.from_ j.size s) (hu : j.used ≤ j.size) : RecSaid D j (oneB (s.drop (512 * j.used)) j.next) := by
  obtain ⟨t, ht⟩ : ∃ t, t = s.drop (512 * j.used) := ⟨_, rfl⟩
  have hl : t.length = 512 * (j.size - j.used) := by rw [ht, List.length_drop, a.len, Nat.mul_sub]
  rw [← ht]
  unfold oneB
  by_cases h1 : j.used = j.size ∨ lastN < j.next
  · rw [if_pos (by rcases h1 with h1 | h1; exact .inl (by rw [hl]; omega); exact .inr (.inl h1))]
    exact ⟨D, rec_end h1, Same.refl D⟩
  have hlt : j.used < j.size := by omega
  have hsec : D.begun.now (j.from_ + j.used) = t.take 512 := by rw [c.same.now, a.sec _ hlt, ht]
  by_cases h2 : numL (t.take 8) ≠ j.next
  · rw [if_pos (.inr (.inr h2))]
    exact ⟨_, rec_no h1 c.fdown _ hsec (.inl (by rw [take_take_le _ (by omega)]; exact h2)), c.same⟩
  rw [if_neg (by omega)]
  obtain ⟨len, hlen⟩ : ∃ len, len = numL ((t.drop 8).take 4) := ⟨_, rfl⟩
  have hl4 := num4_lt (t.drop 8)
  rw [← hlen] at hl4 ⊢
  have hroom : roomJ j = ((j.size - j.used : Nat) : Int) * 512 - 16 := by unfold roomJ; omega
  have hlen2 : numL (((t.take 512).drop 8).take 4) = len := by rw [drop_take_take _ (by omega), hlen]
  by_cases h3 : t.length < len + 16
  · rw [if_pos h3]
    exact ⟨_, rec_no h1 c.fdown _ hsec (.inr (by rw [hlen2, hroom]; omega)), c.same⟩
  rw [if_neg h3]
  obtain ⟨D', h4, h5⟩ := rds_calm ((len + 527) / 512 - 1) D.begun n m (j.from_ + j.used + 1) (t.take 512) c.begun
  have hrow : t.take 512 ++ rowD D.begun (j.from_ + j.used + 1) ((len + 527) / 512 - 1) = t.take (512 * ((len + 527) / 512)) := by
    rw [rowD_same c.same, Nat.add_assoc, a.row (j.used + 1) _ (by omega), Nat.mul_succ, ← List.drop_drop, ← ht, take_take_add]
    congr 1
    omega
  rw [hrow] at h4
  have hgo := rec_go h1 c.fdown _ hsec len hlen2 (by rw [take_take_le _ (by omega), hroom]; omega) true _ D' h4
  rw [if_neg (by simp), drop_take_take _ (by omega), take_take_le _ (by omega)] at hgo
  by_cases h6 : headL j.next len ((t.drop 16).take len) ≠ t.take 16
  · rw [if_pos h6] at hgo ⊢
    exact ⟨D', hgo, c.same.trans h5⟩
  · rw [if_neg h6] at hgo ⊢
    exact ⟨D', hgo, c.same.trans h5, by omega, by omega⟩

theorem opnL_calm : ∀ (f : Nat) (D : Dk) (n m : Nat) (j : Jn) (s : List UInt8) (l : List (List UInt8)), Calm D n m → Area D j.from_ j.size s → j.used ≤ j.size →
    ∃ D', opnL f D j l = (some ((replL s f j.used j.next l).1, { j with used := (replL s f j.used j.next l).2.2, next := (replL s f j.used j.next l).2.1 }), D') ∧ Same D D' ∧ j.used ≤ (replL s f j.used j.next l).2.2 ∧ (replL s f j.used j.next l).2.2 ≤ j.size ∧
      j.next ≤ (replL s f j.used j.next l).2.1 ∧ (replL s f j.used j.next l).2.1 ≤ j.next + ((replL s f j.used j.next l).2.2 - j.used)
  | 0, D, n, m, j, s, l, c, a, hu => ⟨D, rfl, Same.refl D, Nat.le_refl _, hu, Nat.le_refl _, by simp [replL]⟩
  | f + 1, D, n, m, j, s, l, c, a, hu => by
    have h := rec_calm c a hu
    rw [opnL, replL]
    cases ho : oneB (s.drop (512 * j.used)) j.next with
    | none =>
      rw [ho] at h
      obtain ⟨D', h1, h2⟩ := h
      rw [h1]
      exact ⟨D', rfl, h2, Nat.le_refl _, hu, Nat.le_refl _, by dsimp only; omega⟩
    | some x =>
      obtain ⟨b, k⟩ := x
      rw [ho] at h
      obtain ⟨D', h1, h2, h3, h4⟩ := h
      rw [h1]
      obtain ⟨D2, g1, g2, g3, g4, g5, g6⟩ := opnL_calm f D' n m { j with used := j.used + k, next := j.next + 1 } s (l ++ [b]) (h2.calm c) (a.same h2) h4
      dsimp only at g1 g3 g4 g5 g6 ⊢
      exact ⟨D2, g1, h2.trans g2, by omega, g4, by omega, by omega⟩

def OpenSaid (D : Dk) (from_ size : Nat) : Option (List (List UInt8) × Nat × Nat) → Prop
  | none => ∃ D', opnJ D from_ size = .err 2 D' ∧ Same D D'
  | some (l, n, u) => ∃ D', opnJ D from_ size = .ok l D' ⟨from_, size, u, n, false⟩ ∧ Same D D' ∧ 1 ≤ u ∧ u ≤ size ∧ 2 ≤ n ∧ n + 1 ≤ numL ((D.now from_).take 8) + 1 + u ∧ numL ((D.now from_).take 8) ≤ lastN
theorem open_calm {D : Dk} {n m from_ size : Nat} {s : List UInt8} (c : Calm D n m) (a : Area D from_ size s) (h2 : 2 ≤ size) : OpenSaid D from_ size (replB s) := by
  have hsec : D.now from_ = s.take 512 := by have := a.sec 0 (by omega); rw [Nat.add_zero, Nat.mul_zero, List.drop_zero] at this; exact this
  have hlen : s.length / 512 = size := by rw [a.len]; omega
  unfold replB
  rw [hlen]
  have h8 : ((D.begun.now from_).take 8) = s.take 8 := by rw [c.same.now, hsec, take_take_le _ (by omega)]
  have h16 : ((D.begun.now from_).take 16) = s.take 16 := by rw [c.same.now, hsec, take_take_le _ (by omega)]
  by_cases hn : numL (s.take 8) < 1 ∨ lastN < numL (s.take 8) ∨ headL (numL (s.take 8)) startN [] ≠ s.take 16
  · rw [if_pos hn]
    refine ⟨_, ?_, c.same⟩
    unfold opnJ
    rw [c.fdown, if_neg (by simp)]
    simp only [h8, h16]
    rw [if_pos hn]
  · rw [if_neg hn]
    obtain ⟨D', h3, h4, h5, h6, h7, h8'⟩ := opnL_calm size D.begun n m ⟨from_, size, 1, numL (s.take 8) + 1, false⟩ s [] c.begun (a.same c.same) (by show 1 ≤ size; omega)
    dsimp only at h3 h5 h6 h7 h8'
    rw [← hlen] at h3 h5 h6 h7 h8'
    rw [← hlen]
    obtain ⟨⟨l, nn, u⟩, hx⟩ : ∃ x, x = replL s (s.length / 512) 1 (numL (s.take 8) + 1) [] := ⟨_, rfl⟩
    rw [← hx] at h3 h5 h6 h7 h8' ⊢
    dsimp only at h3 h5 h6 h7 h8'
    rw [hlen] at h3 h6
    refine ⟨D', ?_, c.same.trans h4, h5, by rw [hlen]; exact h6, by omega, ?_, ?_⟩
    · unfold opnJ
      rw [c.fdown, if_neg (by simp)]
      simp only [h8, h16]
      rw [if_neg hn, hlen, h3]
    · rw [hsec, take_take_le _ (by omega)]; omega
    · rw [hsec, take_take_le _ (by omega)]; omega

theorem open_some {D : Dk} {n m from_ size : Nat} {s : List UInt8} (c : Calm D n m) (a : Area D from_ size s) (h2 : 2 ≤ size) {l : List (List UInt8)} {nn u : Nat} (hr : replB s = some (l, nn, u)) :
    ∃ D', opnJ D from_ size = .ok l D' ⟨from_, size, u, nn, false⟩ ∧ Same D D' ∧ 1 ≤ u ∧ u ≤ size ∧ 2 ≤ nn ∧ nn + 1 ≤ numL ((D.now from_).take 8) + 1 + u ∧ numL ((D.now from_).take 8) ≤ lastN := by
  have h := open_calm c a h2
  rw [hr] at h
  exact h
theorem open_none {D : Dk} {n m from_ size : Nat} {s : List UInt8} (c : Calm D n m) (a : Area D from_ size s) (h2 : 2 ≤ size) (hr : replB s = none) : ∃ D', opnJ D from_ size = .err 2 D' ∧ Same D D' := by
  have h := open_calm c a h2
  rw [hr] at h
  exact h

/-! ### What was written is read -/
theorem headL_num (n len : Nat) (b rest : List UInt8) (hn : n < 18446744073709551616) : numL ((headL n len b ++ rest).take 8) = n := by
  have e : (headL n len b ++ rest).take 8 = lowL n 8 := by
    unfold headL preL
    rw [List.append_assoc, List.append_assoc, List.append_assoc, List.take_append_of_le_length (by rw [lowL_len]; omega), List.take_of_length_le (by rw [lowL_len]; omega)]
  rw [e]
  exact numL_lowL 8 n (by simpa using hn)
theorem headL_size (n len : Nat) (b rest : List UInt8) (hn : len < 4294967296) : numL (((headL n len b ++ rest).drop 8).take 4) = len := by
  have e : ((headL n len b ++ rest).drop 8).take 4 = lowL len 4 := by
    unfold headL preL
    rw [List.append_assoc, List.append_assoc, List.append_assoc, List.drop_append_of_le_length (by rw [lowL_len]; omega), List.drop_of_length_le (by rw [lowL_len]; omega), List.nil_append,
      List.take_append_of_le_length (by rw [lowL_len]; omega), List.take_of_length_le (by rw [lowL_len]; omega)]
  rw [e]
  exact numL_lowL 4 len (by simpa using hn)
theorem one_pic (n : Nat) (b rest : List UInt8) (hn : n ≤ lastN) (hb : b.length < 4294967296) : oneB (pic n b.length b ++ rest) n = some (b, (b.length + 527) / 512) := by
  have hpl := pic_len n b.length b
  have hlen : 512 ≤ (pic n b.length b ++ rest).length := by rw [List.length_append, hpl]; omega
  have hlen2 : b.length + 16 ≤ (pic n b.length b ++ rest).length := by rw [List.length_append, hpl]; omega
  obtain ⟨r, hr⟩ : ∃ r, pic n b.length b ++ rest = headL n b.length b ++ (b ++ r) := ⟨_, by rw [pic_eq, List.append_assoc, List.append_assoc]⟩
  rw [hr] at hlen hlen2 ⊢
  have h1 := headL_num n b.length b (b ++ r) (by unfold lastN at hn; omega)
  have h2 := headL_size n b.length b (b ++ r) hb
  have h3 : (headL n b.length b ++ (b ++ r)).take 16 = headL n b.length b := by rw [List.take_append_of_le_length (by rw [headL_len]; omega), List.take_of_length_le (by rw [headL_len]; omega)]
  have h4 : ((headL n b.length b ++ (b ++ r)).drop 16).take b.length = b := by
    rw [List.drop_append_of_le_length (by rw [headL_len]; omega), List.drop_of_length_le (by rw [headL_len]; omega), List.nil_append, List.take_append_of_le_length (by omega), List.take_length]
  unfold oneB
  rw [h1, h2, h3, h4, if_neg (by omega), if_neg (by omega), if_neg (by simp)]
theorem one_num {s : List UInt8} {n : Nat} (h : numL (s.take 8) ≠ n) : oneB s n = none := by unfold oneB; rw [if_pos (.inr (.inr h))]
theorem one_short {s : List UInt8} {n : Nat} (h : s.length < 512) : oneB s n = none := by unfold oneB; rw [if_pos (.inl h)]
theorem one_last {s : List UInt8} {n : Nat} (h : lastN < n) : oneB s n = none := by unfold oneB; rw [if_pos (.inr (.inl h))]
/-- Records, one behind another. -/
def recs (n : Nat) : List (List UInt8) → List UInt8
  | [] => []
  | b :: l => pic n b.length b ++ recs (n + 1) l
def pages : List (List UInt8) → Nat
  | [] => 0
  | b :: l => (b.length + 527) / 512 + pages l
theorem recs_len (l : List (List UInt8)) : ∀ n, (recs n l).length = 512 * pages l := by
  induction l with
  | nil => intro n; rfl
  | cons b l ih => intro n; rw [recs, pages, List.length_append, ih, pic_len]; omega
theorem recs_append (l k : List (List UInt8)) : ∀ n, recs n (l ++ k) = recs n l ++ recs (n + l.length) k := by
  induction l with
  | nil => intro n; rfl
  | cons b l ih => intro n; rw [List.cons_append, recs, ih, recs, List.append_assoc, List.length_cons]; congr 3; omega
theorem pages_append (l k : List (List UInt8)) : pages (l ++ k) = pages l + pages k := by
  induction l with
  | nil => simp [pages]
  | cons b l ih => rw [List.cons_append, pages, ih, pages]; omega
theorem pages_le (l : List (List UInt8)) : l.length ≤ pages l := by
  induction l with
  | nil => exact Nat.le_refl _
  | cons b l ih => rw [List.length_cons, pages]; omega
theorem replL_recs (s rest : List UInt8) : ∀ (bs : List (List UInt8)) (f u n : Nat) (acc : List (List UInt8)), s.drop (512 * u) = recs n bs ++ rest → oneB rest (n + bs.length) = none → bs.length ≤ f → n + bs.length ≤ lastN + 1 → (∀ b ∈ bs, b.length < 4294967296) →
    replL s f u n acc = (acc ++ bs, n + bs.length, u + pages bs)
  | [], f, u, n, acc, h1, h2, _, _, _ => by
    cases f with
    | zero => simp [replL, pages]
    | succ f =>
      rw [replL, h1]
      show (match oneB rest n with | none => _ | some (b, k) => _) = _
      have h3 : oneB rest n = none := h2
      rw [h3]; simp [pages]
  | b :: bs, 0, u, n, acc, _, _, h, _, _ => by simp at h
  | b :: bs, f + 1, u, n, acc, h1, h2, h3, h4, h5 => by
    have hb := h5 b List.mem_cons_self
    rw [List.length_cons] at h2 h3 h4
    have h6 : s.drop (512 * u) = pic n b.length b ++ (recs (n + 1) bs ++ rest) := by rw [h1, recs, List.append_assoc]
    rw [replL, h6, one_pic n b _ (by omega) hb]
    dsimp only
    rw [replL_recs s rest bs f (u + (b.length + 527) / 512) (n + 1) (acc ++ [b]) ?_ (by rw [show n + 1 + bs.length = n + (bs.length + 1) by omega]; exact h2) (by omega) (by omega) (fun x hx => h5 x (List.mem_cons_of_mem _ hx))]
    · rw [pages, List.length_cons, List.append_assoc]
      refine Prod.ext rfl (Prod.ext ?_ ?_)
      · show n + 1 + bs.length = n + (bs.length + 1); omega
      · show u + (b.length + 527) / 512 + pages bs = u + ((b.length + 527) / 512 + pages bs); omega
    · have e : (pic n b.length b).length = 512 * ((b.length + 527) / 512) := by rw [pic_len]; omega
      rw [Nat.mul_add, ← List.drop_drop, h6, ← e, List.drop_left]
theorem begin_len (m : Nat) : (pic m startN []).length = 512 := by rw [pic_len]; rfl
theorem replB_recs (m : Nat) (bs : List (List UInt8)) (rest s : List UInt8) (hs : s = pic m startN [] ++ (recs (m + 1) bs ++ rest)) (h1 : 1 ≤ m) (h2 : oneB rest (m + 1 + bs.length) = none) (h3 : m + bs.length ≤ lastN) (h4 : ∀ b ∈ bs, b.length < 4294967296) :
    replB s = some (bs, m + 1 + bs.length, 1 + pages bs) := by
  have hlen : s.length = 512 + 512 * pages bs + rest.length := by rw [hs, List.length_append, begin_len, List.length_append, recs_len]; omega
  have hp := pages_le bs
  obtain ⟨r, hr⟩ : ∃ r, s = headL m startN [] ++ r := ⟨_, by rw [hs, pic_eq, List.append_assoc]⟩
  have g1 : numL (s.take 8) = m := by rw [hr]; exact headL_num m startN [] r (by unfold lastN at h3; omega)
  have g2 : s.take 16 = headL m startN [] := by rw [hr, List.take_append_of_le_length (by rw [headL_len]; omega), List.take_of_length_le (by rw [headL_len]; omega)]
  unfold replB
  rw [g1, g2, if_neg (by simp; omega)]
  rw [replL_recs s rest bs _ 1 (m + 1) [] ?_ h2 ?_ (by omega) h4]
  · rfl
  · rw [hs, Nat.mul_one, ← begin_len m, List.drop_left]
  · have : pages bs ≤ s.length / 512 := by omega
    omega
end Go.Proofs.Ytnekelndcpmonaa
namespace Go.Proofs.Ytnekelndcpmonaa

/-- Bytes are laid over others. -/
def splice (s : List UInt8) (o : Nat) (p : List UInt8) : List UInt8 := s.take o ++ (p ++ s.drop (o + p.length))
theorem splice_len (s : List UInt8) (o : Nat) (p : List UInt8) (h : o + p.length ≤ s.length) : (splice s o p).length = s.length := by unfold splice; simp; omega
theorem splice_low {s : List UInt8} {o : Nat} {p : List UInt8} (h : o + p.length ≤ s.length) (i : Nat) (hi : i + 512 ≤ o) : ((splice s o p).drop i).take 512 = (s.drop i).take 512 := by
  unfold splice
  have h1 : (s.take o).length = o := by rw [List.length_take]; omega
  rw [List.drop_append_of_le_length (by omega), List.take_append_of_le_length (by rw [List.length_drop]; omega), List.drop_take, take_take_le _ (by omega)]
theorem splice_in {s : List UInt8} {o : Nat} {p : List UInt8} (h : o + p.length ≤ s.length) (i : Nat) (h0 : o ≤ i) (hi : i + 512 ≤ o + p.length) : ((splice s o p).drop i).take 512 = (p.drop (i - o)).take 512 := by
  unfold splice
  have h1 : (s.take o).length = o := by rw [List.length_take]; omega
  rw [List.drop_append, h1, List.drop_of_length_le (by omega), List.nil_append, List.drop_append_of_le_length (by omega), List.take_append_of_le_length (by rw [List.length_drop]; omega)]
theorem splice_high {s : List UInt8} {o : Nat} {p : List UInt8} (h : o + p.length ≤ s.length) (i : Nat) (h0 : o + p.length ≤ i) : ((splice s o p).drop i).take 512 = (s.drop i).take 512 := by
  unfold splice
  have h1 : (s.take o).length = o := by rw [List.length_take]; omega
  rw [List.drop_append, h1, List.drop_of_length_le (by omega), List.nil_append, List.drop_append, List.drop_of_length_le (by omega), List.nil_append, List.drop_drop]
  congr 2
  omega
theorem Area.splice {D D' : Dk} {f z : Nat} {s p : List UInt8} (a : Area D f z s) (u k : Nat) (hk : p.length = 512 * k) (hu : u + k ≤ z)
    (h : ∀ i, i < z → D'.now (f + i) = if u ≤ i ∧ i < u + k then (p.drop (512 * (i - u))).take 512 else D.now (f + i)) : Area D' f z (Proofs.Ytnekelndcpmonaa.splice s (512 * u) p) := by
  have hl := a.len
  refine ⟨by rw [splice_len _ _ _ (by omega), hl], fun i hi => ?_⟩
  rw [h i hi]
  by_cases h1 : u ≤ i
  · by_cases h2 : i < u + k
    · rw [if_pos ⟨h1, h2⟩, splice_in (by omega) _ (by omega) (by omega)]
      congr 2
      omega
    · rw [if_neg (by omega), splice_high (by omega) _ (by omega), a.sec i hi]
  · rw [if_neg (by omega), splice_low (by omega) _ (by omega), a.sec i hi]

theorem Calm.secsW {D : Dk} {n k : Nat} (h : Calm D n k) (i : Nat) (b : List UInt8) : (D.write i b).secs = D.secs ∧ (D.write i b).waits = D.waits ++ [(i, b)] := by
  have e : D.write i b = { D.counted with waits := D.counted.waits ++ [(i, b)] } := by simp [Dk.write, h.fell, h.down]
  rw [e]; exact ⟨rfl, rfl⟩
theorem wrs_calm : ∀ (l : List (List UInt8)) (D : Dk) (n m at_ : Nat), Calm D n m → ∃ D', wrs D at_ l = (true, D') ∧ Calm D' n (m + l.length) ∧ D'.secs = D.secs ∧
    (∀ i, D'.now i = if at_ ≤ i ∧ i < at_ + l.length then l.getD (i - at_) [] else D.now i)
  | [], D, n, m, at_, c => ⟨D, rfl, c, rfl, fun i => by rw [if_neg (by simp)]⟩
  | s :: l, D, n, m, at_, c => by
    obtain ⟨D', h1, h2, h3, h4⟩ := wrs_calm l (D.write at_ s) n (m + 1) (at_ + 1) (c.write at_ s)
    refine ⟨D', by rw [wrs, c.fdown, if_neg (by simp), h1], by rw [List.length_cons, show m + (l.length + 1) = m + 1 + l.length by omega]; exact h2, h3.trans (c.secsW _ _).1, fun i => ?_⟩
    rw [h4 i, now_write c, List.length_cons]
    by_cases e : at_ = i
    · subst e
      rw [if_neg (by omega), if_pos rfl, if_pos (by omega), Nat.sub_self]; rfl
    · rw [if_neg e]
      by_cases h5 : at_ + 1 ≤ i ∧ i < at_ + 1 + l.length
      · rw [if_pos h5, if_pos (by omega), show i - at_ = (i - (at_ + 1)) + 1 by omega]; rfl
      · rw [if_neg h5, if_neg (by omega)]

def PutSaid (D : Dk) (j : Jn) (pc : List UInt8) (n m k : Nat) (D' : Dk) : Prop :=
  putJ D j pc = (true, D', { j with used := j.used + (k + 1), next := j.next + 1 }) ∧ Calm D' n (m + (k + 1)) ∧
    (∀ i, i < n → D'.now i = if j.from_ + j.used ≤ i ∧ i < j.from_ + j.used + (k + 1) then (pc.drop (512 * (i - (j.from_ + j.used)))).take 512 else D.now i) ∧ (k = 0 → D'.secs = D.secs)
theorem put_calm {D : Dk} {n m k : Nat} (c : Calm D n m) (j : Jn) (pc : List UInt8) (hp : pc.length = 512 * (k + 1)) : ∃ D', PutSaid D j pc n m k D' := by
  have hl : (secsOf (pc.drop 512)).length = k := by rw [secsOf_len, List.length_drop]; omega
  obtain ⟨D1, h1, h2, h3, h4⟩ := wrs_calm (secsOf (pc.drop 512)) D n m (j.from_ + j.used + 1) c
  rw [hl] at h2 h4
  obtain ⟨Dm, hm⟩ : ∃ Dm, Dm = midD k D1 := ⟨_, rfl⟩
  have cm : Calm Dm n (m + k) := by rw [hm]; unfold midD; split; exact h2; exact h2.barrier.mono (by omega)
  have hnow : ∀ i, i < n → Dm.now i = D1.now i := fun i hi => by rw [hm]; unfold midD; split; rfl; exact now_barrier h2 i hi
  refine ⟨Dm.write (j.from_ + j.used) (pc.take 512), ?_, by rw [show m + (k + 1) = m + k + 1 by omega]; exact cm.write _ _, fun i hi => ?_, fun hk => ?_⟩
  · rw [put_last h1 (.inr h2.fdown), hl, ← hm, cm.fdown, if_neg (by simp)]
    rfl
  · rw [now_write cm, hnow i hi, h4 i]
    by_cases e : j.from_ + j.used = i
    · rw [if_pos e, if_pos (by omega), show i - (j.from_ + j.used) = 0 by omega]; rfl
    · rw [if_neg e]
      by_cases h5 : j.from_ + j.used + 1 ≤ i ∧ i < j.from_ + j.used + 1 + k
      · rw [if_pos h5, if_pos (by omega), secsOf_getD _ _ (by rw [List.length_drop]; omega), List.drop_drop]
        congr 2
        omega
      · rw [if_neg h5, if_neg (by omega)]
  · rw [(cm.secsW _ _).1, hm, midD, if_pos hk, h3]

def AppSaid (D : Dk) (j : Jn) (b : List UInt8) (s : List UInt8) (n m k : Nat) (D' : Dk) : Prop :=
  appendJ D j b = (0, D', ⟨j.from_, j.size, j.used + k, j.next + 1, false⟩) ∧ Calm D' n (m + k) ∧ Area D' j.from_ j.size (splice s (512 * j.used) (pic j.next b.length b)) ∧
    (∀ i, i < n → i < j.from_ ∨ j.from_ + j.size ≤ i → D'.now i = D.now i) ∧ (k = 1 → D'.secs = D.secs) ∧ j.used + k ≤ j.size ∧ 1 ≤ k
theorem append_calm {D : Dk} {n m : Nat} (c : Calm D n m) {j : Jn} {b s : List UInt8} (a : Area D j.from_ j.size s) (hb : j.broken = false) (hn : j.next ≤ lastN) (hr : (b.length : Int) ≤ roomJ j) (hz : j.from_ + j.size ≤ n) :
    ∃ D', AppSaid D j b s n m ((b.length + 527) / 512) D' := by
  obtain ⟨k, hk⟩ : ∃ k, (b.length + 527) / 512 = k + 1 := ⟨(b.length + 15) / 512, by omega⟩
  have hr2 : j.used + (k + 1) ≤ j.size := by unfold roomJ at hr; omega
  rw [hk]
  have hpl : (pic j.next b.length b).length = 512 * (k + 1) := by rw [pic_len, hk]; omega
  obtain ⟨D', h1, h2, h3, h4⟩ := put_calm c j (pic j.next b.length b) hpl
  refine ⟨D', ?_, h2, a.splice j.used (k + 1) hpl hr2 (fun i hi => ?_), fun i hi hx => ?_, fun e => h4 (by omega), hr2, by omega⟩
  · rw [append_ok b hb (by omega), h1]; rfl
  · rw [h3 _ (by omega)]
    by_cases h5 : j.used ≤ i ∧ i < j.used + (k + 1)
    · rw [if_pos h5, if_pos (by omega)]; congr 3; omega
    · rw [if_neg h5, if_neg (by omega)]
  · rw [h3 i hi, if_neg (by omega)]
theorem append_big {D : Dk} {j : Jn} {b : List UInt8} (hb : j.broken = false) (hr : roomJ j < b.length) : appendJ D j b = (5, D, ⟨j.from_, j.size, j.used, j.next, false⟩) := by
  rw [append_full b hb (.inl hr), ← hb]
theorem commit_calm {D : Dk} {n m : Nat} (c : Calm D n m) {j : Jn} (hb : j.broken = false) : commitJ D j = (0, D.barrier, ⟨j.from_, j.size, j.used, j.next, false⟩) := by
  rw [commit_ok hb, c.fdown]; rfl
theorem barrier_secs {D : Dk} {n m : Nat} (c : Calm D n m) (i : Nat) (hi : i < n) : D.barrier.secs.getD i [] = D.now i := by
  rw [← now_barrier c i hi]
  have e : D.barrier = { D.counted with secs := Dk.flush D.counted.waits D.counted.secs, waits := [] } := by simp [Dk.barrier, c.fell, c.down]
  rw [e]; rfl
def ResSaid (D : Dk) (j : Jn) (s : List UInt8) (n m : Nat) (D' : Dk) : Prop :=
  resetJ D j = (0, D', ⟨j.from_, j.size, 1, j.next + 1, false⟩) ∧ Calm D' n (m + 1) ∧ Area D' j.from_ j.size (splice s 0 (pic j.next startN [])) ∧
    (∀ i, i < n → i ≠ j.from_ → D'.now i = D.now i) ∧ D'.secs = D.secs
theorem reset_calm {D : Dk} {n m : Nat} (c : Calm D n m) {j : Jn} {s : List UInt8} (a : Area D j.from_ j.size s) (hb : j.broken = false) (hn : j.next ≤ lastN) (h1 : 1 ≤ j.size) (hz : j.from_ + j.size ≤ n) : ∃ D', ResSaid D j s n m D' := by
  have hpl : (pic j.next startN []).length = 512 * (0 + 1) := begin_len _
  obtain ⟨D', g1, g2, g3, g4⟩ := put_calm c { j with used := 0 } (pic j.next startN []) hpl
  dsimp only at g1 g3
  refine ⟨D', ?_, g2, ?_, fun i hi hx => ?_, g4 rfl⟩
  · rw [reset_ok hb (by omega), g1]; rfl
  · have := a.splice (D' := D') (p := pic j.next startN []) 0 1 hpl (by omega) (fun i hi => by
      rw [g3 _ (by omega)]
      by_cases h5 : 0 ≤ i ∧ i < 0 + 1
      · rw [if_pos h5, if_pos (by omega)]; congr 3; omega
      · rw [if_neg h5, if_neg (by omega)])
    exact this
  · rw [g3 i hi, if_neg (by omega)]
def FmtSaid (D : Dk) (from_ size : Nat) (s : List UInt8) (n : Nat) (D1 D2 : Dk) : Prop :=
  resetJ D ⟨from_, size, 0, 1, false⟩ = (0, D1, ⟨from_, size, 1, 2, false⟩) ∧ commitJ D1 ⟨from_, size, 1, 2, false⟩ = (0, D2, ⟨from_, size, 1, 2, false⟩) ∧ Calm D2 n 0 ∧ Area D2 from_ size (splice s 0 (pic 1 startN [])) ∧
    (∀ i, i < n → i ≠ from_ → D2.now i = D.now i) ∧ (∀ i, i < n → D2.secs.getD i [] = D2.now i) ∧ D2.waits = []
theorem format_calm {D : Dk} {n m : Nat} (c : Calm D n m) {from_ size : Nat} {s : List UInt8} (a : Area D from_ size s) (h1 : 1 ≤ size) (hz : from_ + size ≤ n) : ∃ D1 D2, FmtSaid D from_ size s n D1 D2 := by
  obtain ⟨D1, g1, g2, g3, g4, g5⟩ := reset_calm c (j := ⟨from_, size, 0, 1, false⟩) a rfl (by show 1 ≤ lastN; unfold lastN; omega) h1 hz
  dsimp only at g1 g3 g4
  refine ⟨D1, D1.barrier, g1, commit_calm g2 rfl, g2.barrier, g3.congr (fun i hi => now_barrier g2 _ (by omega)), fun i hi hx => ?_, fun i hi => ?_, List.length_eq_zero_iff.1 (Nat.le_zero.1 g2.barrier.waits)⟩
  · rw [now_barrier g2 i hi, g4 i hi hx]
  · rw [barrier_secs g2 i hi, now_barrier g2 i hi]

/-- A crash that keeps none, and a start. -/
theorem crash_none {D : Dk} {n m : Nat} (c : Calm D n m) : Calm ((D.crash []).start) n 0 ∧ (∀ i, (D.crash []).start.now i = D.secs.getD i []) := by
  have h : ∀ (l : List (Nat × List UInt8)) (i : Nat) (s : List (List UInt8)), Dk.keepFrom [] i l s = s := by
    intro l
    induction l with
    | nil => intro i s; rfl
    | cons x l ih => intro i s; rw [Dk.keepFrom, ih]; rfl
  have e : (D.crash []).start = { D with waits := [], down := false, armed := none } := by
    unfold Dk.crash Dk.start
    simp [h]
  rw [e]
  exact ⟨⟨c.len, Nat.le_refl _, rfl, rfl⟩, fun i => rfl⟩
theorem crash_any {D : Dk} {n m : Nat} (c : Calm D n m) (keep : List Bool) : Calm ((D.crash keep).start) n 0 := by
  obtain ⟨h, _⟩ := crash_quiet D keep
  have hq := h.calm
  refine ⟨?_, by rw [h.waits]; exact Nat.le_refl _, h.down, h.armed⟩
  rw [h.secs]
  show (Dk.keepFrom keep 0 D.waits D.secs).length = n
  rw [Dk.keepFrom_len, c.len]

/-! ### What holds of every sector, and of every write -/
structure Inv (P : Nat → List UInt8 → Prop) (D : Dk) : Prop where
  secs : ∀ i, i < D.secs.length → P i (D.secs.getD i [])
  waits : ∀ x ∈ D.waits, P x.1 x.2
section
variable {P : Nat → List UInt8 → Prop} {D : Dk}
theorem set_inv {s : List (List UInt8)} (h : ∀ i, i < s.length → P i (s.getD i [])) {k : Nat} {b : List UInt8} (hb : P k b) : ∀ i, i < (s.set k b).length → P i ((s.set k b).getD i []) := by
  intro i hi
  rw [List.length_set] at hi
  by_cases e : k = i
  · subst e; simpa [List.getD, hi] using hb
  · have := h i hi
    simpa [List.getD, List.getElem?_set_ne e] using this
theorem keepFrom_inv (keep : List Bool) : ∀ (l : List (Nat × List UInt8)) (i : Nat) (s : List (List UInt8)), (∀ i, i < s.length → P i (s.getD i [])) → (∀ x ∈ l, P x.1 x.2) → ∀ k, k < (Dk.keepFrom keep i l s).length → P k ((Dk.keepFrom keep i l s).getD k [])
  | [], _, _, h, _ => h
  | x :: l, i, s, h, hl => by
    rw [Dk.keepFrom]
    refine keepFrom_inv keep l _ _ ?_ (fun y hy => hl y (List.mem_cons_of_mem _ hy))
    split
    · exact set_inv h (hl x List.mem_cons_self)
    · exact h
theorem flush_inv : ∀ (l : List (Nat × List UInt8)) (s : List (List UInt8)), (∀ i, i < s.length → P i (s.getD i [])) → (∀ x ∈ l, P x.1 x.2) → ∀ k, k < (Dk.flush l s).length → P k ((Dk.flush l s).getD k [])
  | [], _, h, _ => h
  | x :: l, s, h, hl => flush_inv l (s.set x.1 x.2) (set_inv h (hl x List.mem_cons_self)) (fun y hy => hl y (List.mem_cons_of_mem _ hy))
theorem Inv.crash (h : Inv P D) (keep : List Bool) : Inv P (D.crash keep) := ⟨keepFrom_inv keep _ _ _ h.secs h.waits, fun x hx => by simp [Dk.crash] at hx⟩
theorem Inv.fell (h : Inv P D) : Inv P D.fell := by unfold Dk.fell; split; exact h.crash _; exact h
theorem Inv.counted (h : Inv P D) : Inv P D.counted := ⟨h.secs, h.waits⟩
theorem Inv.begun (h : Inv P D) : Inv P D.begun := by unfold Dk.begun; split; exact h.fell; exact h.fell.counted
theorem Inv.write (h : Inv P D) (i : Nat) (b : List UInt8) (hb : P i b) : Inv P (D.write i b) := by
  unfold Dk.write
  split
  · exact h.fell
  · refine ⟨h.fell.secs, fun x hx => ?_⟩
    rcases List.mem_append.1 hx with hx | hx
    · exact h.fell.waits x hx
    · simp at hx; subst hx; exact hb
theorem Inv.barrier (h : Inv P D) : Inv P D.barrier := by
  unfold Dk.barrier
  split
  · exact h.fell
  · exact ⟨flush_inv _ _ h.fell.secs h.fell.waits, fun x hx => by simp at hx⟩
theorem Inv.start (h : Inv P D) : Inv P D.start := by unfold Dk.start; split; exact ⟨h.secs, h.waits⟩; exact h
theorem Inv.arm (h : Inv P D) (n : Int) (keep : List Bool) : Inv P (D.arm n keep) := ⟨h.secs, h.waits⟩
theorem Inv.same {D' : Dk} (h : Inv P D) (s : Same D D') : Inv P D' := ⟨by rw [s.secs]; exact h.secs, by rw [s.waits]; exact h.waits⟩
theorem Inv.now (h : Inv P D) (i : Nat) (hi : i < D.secs.length) : P i (D.now i) := by
  unfold Dk.now
  split
  · rename_i x hx
    have h1 := h.waits x (List.mem_reverse.1 (List.mem_of_find?_eq_some hx))
    have h2 : x.1 = i := by simpa using List.find?_some hx
    rw [h2] at h1
    exact h1
  · exact h.secs i hi
theorem wrs_inv : ∀ (l : List (List UInt8)) (D : Dk) (at_ : Nat), Inv P D → (∀ i, i < l.length → P (at_ + i) (l.getD i [])) → Inv P (wrs D at_ l).2
  | [], _, _, h, _ => h
  | s :: l, D, at_, h, hl => by
    have h0 := h.write at_ s (hl 0 (by simp))
    rw [wrs]
    split
    · exact h0
    · refine wrs_inv l _ _ h0 (fun i hi => ?_)
      have := hl (i + 1) (by simpa using hi)
      rw [show at_ + 1 + i = at_ + (i + 1) by omega]
      exact this
theorem Inv.put (h : Inv P D) (j : Jn) (pc : List UInt8) (k : Nat) (hp : pc.length = 512 * (k + 1)) (hP : ∀ i, i < k + 1 → P (j.from_ + j.used + i) ((pc.drop (512 * i)).take 512)) : Inv P (putJ D j pc).2.1 := by
  have hl : (secsOf (pc.drop 512)).length = k := by rw [secsOf_len, List.length_drop]; omega
  have h1 := wrs_inv (secsOf (pc.drop 512)) D (j.from_ + j.used + 1) h (fun i hi => by
    rw [hl] at hi
    rw [secsOf_getD _ _ (by rw [List.length_drop]; omega), List.drop_drop]
    have := hP (i + 1) (by omega)
    rw [show j.from_ + j.used + 1 + i = j.from_ + j.used + (i + 1) by omega, show 512 + 512 * i = 512 * (i + 1) by omega]
    exact this)
  have h0 : P (j.from_ + j.used) (pc.take 512) := by have := hP 0 (by omega); rw [Nat.mul_zero, List.drop_zero, Nat.add_zero] at this; exact this
  obtain ⟨⟨ok, D1⟩, hx⟩ : ∃ x, x = wrs D (j.from_ + j.used + 1) (secsOf (pc.drop 512)) := ⟨_, rfl⟩
  rw [← hx] at h1
  cases ok with
  | false => rw [put_fail hx.symm]; exact h1
  | true =>
    by_cases hd : (secsOf (pc.drop 512)).length = 0 ∨ D1.fell.down = false
    · rw [put_last hx.symm hd]
      have hm : Inv P (midD (secsOf (pc.drop 512)).length D1) := by unfold midD; split; exact h1; exact h1.barrier
      split
      · exact hm.write _ _ h0
      · exact hm.write _ _ h0
    · rw [put_bar hx.symm (fun e => hd (.inl e)) (by cases h : D1.fell.down with | true => rfl | false => exact absurd (.inr h) hd)]
      exact h1.barrier
end
end Go.Proofs.Ytnekelndcpmonaa
namespace Go.Proofs.Ytnekelndcpmonaa

theorem splice_at (x y p : List UInt8) : splice (x ++ y) x.length p = x ++ (p ++ y.drop p.length) := by
  unfold splice
  rw [List.take_left, ← List.drop_drop, List.drop_left]
/-- A beginning, records, and what stood there. -/
def logB (m : Nat) (bs : List (List UInt8)) (s : List UInt8) : List UInt8 := pic m startN [] ++ (recs (m + 1) bs ++ s.drop (512 * (1 + pages bs)))
def jOf (f z m : Nat) (bs : List (List UInt8)) : Jn := ⟨f, z, 1 + pages bs, m + 1 + bs.length, false⟩
structure Log (D : Dk) (f z m : Nat) (bs : List (List UInt8)) (s : List UInt8) : Prop where
  area : Area D f z (logB m bs s)
  fits : 1 + pages bs ≤ z
theorem Log.same {D D' : Dk} {f z m : Nat} {bs : List (List UInt8)} {s : List UInt8} (a : Log D f z m bs s) (h : Same D D') : Log D' f z m bs s := ⟨a.area.same h, a.fits⟩
theorem Log.congr {D D' : Dk} {f z m : Nat} {bs : List (List UInt8)} {s : List UInt8} (a : Log D f z m bs s) (h : ∀ i, i < z → D'.now (f + i) = D.now (f + i)) : Log D' f z m bs s := ⟨a.area.congr h, a.fits⟩
theorem pages_one (bs : List (List UInt8)) (h : ∀ b ∈ bs, b.length ≤ 496) : pages bs = bs.length := by
  induction bs with
  | nil => rfl
  | cons b bs ih => rw [pages, List.length_cons, ih (fun x hx => h x (List.mem_cons_of_mem _ hx))]; have := h b List.mem_cons_self; omega
theorem logB_snoc (m : Nat) (bs : List (List UInt8)) (s b : List UInt8) : splice (logB m bs s) (512 * (1 + pages bs)) (pic (m + 1 + bs.length) b.length b) = logB m (bs ++ [b]) s := by
  have e : logB m bs s = (pic m startN [] ++ recs (m + 1) bs) ++ s.drop (512 * (1 + pages bs)) := by unfold logB; rw [List.append_assoc]
  have hl : (pic m startN [] ++ recs (m + 1) bs).length = 512 * (1 + pages bs) := by rw [List.length_append, begin_len, recs_len]; omega
  rw [e, ← hl, splice_at, hl, List.drop_drop, pic_len]
  unfold logB
  rw [recs_append, pages_append]
  simp only [recs, pages, List.append_nil, Nat.add_zero, List.append_assoc]
  congr 5
  omega
theorem log_append {D : Dk} {n k f z m : Nat} {bs : List (List UInt8)} {s b : List UInt8} (c : Calm D n k) (a : Log D f z m bs s) (hz : f + z ≤ n) (hm : m + bs.length + 1 ≤ lastN) (hr : (b.length : Int) ≤ roomJ (jOf f z m bs)) :
    ∃ D', appendJ D (jOf f z m bs) b = (0, D', jOf f z m (bs ++ [b])) ∧ Calm D' n (k + (b.length + 527) / 512) ∧ Log D' f z m (bs ++ [b]) s ∧ (∀ i, i < n → i < f ∨ f + z ≤ i → D'.now i = D.now i) ∧ (b.length ≤ 496 → D'.secs = D.secs) := by
  obtain ⟨D', h1, h2, h3, h4, h5, h6, h7⟩ := append_calm c (j := jOf f z m bs) (b := b) a.area rfl (by show m + 1 + bs.length ≤ lastN; omega) hr hz
  have hp : pages (bs ++ [b]) = pages bs + (b.length + 527) / 512 := by rw [pages_append]; rfl
  refine ⟨D', ?_, h2, ⟨?_, ?_⟩, h4, fun hb => h5 (by omega)⟩
  · rw [h1]
    unfold jOf
    rw [hp, List.length_append, List.length_singleton]
    simp only [Nat.add_assoc]
  · have := logB_snoc m bs s b
    unfold jOf at h3
    dsimp only at h3
    rw [this] at h3
    exact h3
  · rw [hp]
    unfold jOf at h6
    dsimp only at h6
    omega
/-- A record of one sector. -/
theorem log_small {D : Dk} {n k f z m : Nat} {bs : List (List UInt8)} {s b : List UInt8} (c : Calm D n k) (a : Log D f z m bs s) (hz : f + z ≤ n) (hm : m + bs.length + 1 ≤ lastN) (hb : b.length ≤ 496) (hs : ∀ b ∈ bs, b.length ≤ 496) (hl : 1 + bs.length < z) :
    ∃ D', appendJ D (jOf f z m bs) b = (0, D', jOf f z m (bs ++ [b])) ∧ Calm D' n (k + 1) ∧ Log D' f z m (bs ++ [b]) s ∧ (∀ i, i < n → i < f ∨ f + z ≤ i → D'.now i = D.now i) ∧ D'.secs = D.secs := by
  have hp := pages_one bs hs
  obtain ⟨D', h1, h2, h3, h4, h5⟩ := log_append c a hz hm (b := b) (by unfold roomJ jOf; dsimp only; rw [hp]; omega)
  exact ⟨D', h1, by rw [show (b.length + 527) / 512 = 1 by omega] at h2; exact h2, h3, h4, h5 hb⟩
theorem log_full {D : Dk} {f z m : Nat} {bs : List (List UInt8)} {b : List UInt8} (hr : roomJ (jOf f z m bs) < b.length) : appendJ D (jOf f z m bs) b = (5, D, jOf f z m bs) := append_big rfl hr
theorem splice_begin (m : Nat) (s : List UInt8) : splice s 0 (pic m startN []) = logB m [] s := by
  unfold splice logB
  rw [begin_len]; rfl
theorem log_reset {D : Dk} {n k f z u m : Nat} {s : List UInt8} (c : Calm D n k) (a : Area D f z s) (hm : m ≤ lastN) (h1 : 1 ≤ z) (hz : f + z ≤ n) :
    ∃ D', resetJ D ⟨f, z, u, m, false⟩ = (0, D', jOf f z m []) ∧ Calm D' n (k + 1) ∧ Log D' f z m [] s ∧ (∀ i, i < n → i ≠ f → D'.now i = D.now i) ∧ D'.secs = D.secs := by
  obtain ⟨D', g1, g2, g3, g4, g5⟩ := reset_calm c (j := ⟨f, z, u, m, false⟩) a rfl hm h1 hz
  dsimp only at g1 g3 g4
  rw [splice_begin] at g3
  exact ⟨D', g1, g2, ⟨g3, h1⟩, g4, g5⟩
def LogFmt (D : Dk) (f z n : Nat) (D1 D2 : Dk) : Prop :=
  resetJ D ⟨f, z, 0, 1, false⟩ = (0, D1, jOf f z 1 []) ∧ commitJ D1 (jOf f z 1 []) = (0, D2, jOf f z 1 []) ∧ Calm D2 n 0 ∧ Log D2 f z 1 [] (rowD D f z) ∧
    (∀ i, i < n → i ≠ f → D2.now i = D.now i) ∧ (∀ i, i < n → D2.secs.getD i [] = D2.now i) ∧ D2.waits = []
theorem log_format {D : Dk} {n k f z : Nat} (c : Calm D n k) (ok : D.Ok) (h1 : 1 ≤ z) (hz : f + z ≤ n) : ∃ D1 D2, LogFmt D f z n D1 D2 := by
  obtain ⟨D1, D2, g1, g2, g3, g4, g5, g6, g7⟩ := format_calm c (Area.of ok f z (by rw [c.len]; exact hz)) h1 hz
  rw [splice_begin] at g4
  exact ⟨D1, D2, g1, g2, g3, ⟨g4, h1⟩, g5, g6, g7⟩
theorem log_commit {D : Dk} {n k f z m : Nat} {bs : List (List UInt8)} (c : Calm D n k) : commitJ D (jOf f z m bs) = (0, D.barrier, jOf f z m bs) := commit_calm c rfl
theorem Log.barrier {D : Dk} {n k f z m : Nat} {bs : List (List UInt8)} {s : List UInt8} (a : Log D f z m bs s) (c : Calm D n k) (hz : f + z ≤ n) : Log D.barrier f z m bs s := a.congr fun i hi => now_barrier c _ (by omega)
/-- All is safe: a crash that keeps none leaves it. -/
theorem Log.crash {D : Dk} {n k f z m : Nat} {bs : List (List UInt8)} {s : List UInt8} (a : Log D f z m bs s) (c : Calm D n k) (hs : ∀ i, i < z → D.secs.getD (f + i) [] = D.now (f + i)) : Log (D.crash []).start f z m bs s :=
  a.congr fun i hi => by rw [(crash_none c).2, hs i hi]
theorem log_open {D : Dk} {n k f z m : Nat} {bs : List (List UInt8)} {s : List UInt8} (c : Calm D n k) (a : Log D f z m bs s) (h2 : 2 ≤ z) (h1 : 1 ≤ m) (hm : m + bs.length ≤ lastN) (hb : ∀ b ∈ bs, b.length < 4294967296) (ho : oneB (s.drop (512 * (1 + pages bs))) (m + 1 + bs.length) = none) :
    ∃ D', opnJ D f z = .ok bs D' (jOf f z m bs) ∧ Same D D' := by
  obtain ⟨D', g1, g2, -⟩ := open_some c a.area h2 (replB_recs m bs _ _ rfl h1 ho hm hb)
  exact ⟨D', g1, g2⟩
/-- One sector a record: the records from the k-th on. -/
theorem recs_drop (bs : List (List UInt8)) : ∀ (n k : Nat), (∀ b ∈ bs, b.length ≤ 496) → k ≤ bs.length → (recs n bs).drop (512 * k) = recs (n + k) (bs.drop k) := by
  induction bs with
  | nil => intro n k _ hk; simp at hk; subst hk; rfl
  | cons b bs ih =>
    intro n k h hk
    cases k with
    | zero => rfl
    | succ k =>
      have hb := h b List.mem_cons_self
      have hl : (pic n b.length b).length = 512 := by rw [pic_len]; omega
      rw [recs, Nat.mul_succ, Nat.add_comm (512 * k), ← List.drop_drop, ← hl, List.drop_left, hl, ih (n + 1) k (fun x hx => h x (List.mem_cons_of_mem _ hx)) (by simpa using hk), List.drop_succ_cons]
      congr 1
      omega
theorem recs_num (n : Nat) (bs : List (List UInt8)) (r : List UInt8) (hn : n ≤ lastN) (hb : bs ≠ []) : numL ((recs n bs ++ r).take 8) = n := by
  cases bs with
  | nil => exact absurd rfl hb
  | cons b bs =>
    rw [recs, pic_eq, List.append_assoc, List.append_assoc]
    exact headL_num n b.length b _ (by unfold lastN at hn; omega)
theorem numL_zeros : ∀ k, numL (List.replicate k 0) = 0
  | 0 => rfl
  | k + 1 => by rw [List.replicate_succ, numL, numL_zeros k]; rfl
/-- What lies behind the records: older ones, or noughts. -/
theorem log_rest (m : Nat) (ps bs : List (List UInt8)) (Z : Nat) (ha : ∀ b ∈ ps, b.length ≤ 496) (hm : m + ps.length + bs.length + 3 ≤ lastN) (h1 : 1 ≤ m) (hb : ∀ b ∈ bs, b.length ≤ 496) :
    oneB ((logB m ps (List.replicate (512 * Z) 0)).drop (512 * (1 + pages bs))) (m + 1 + ps.length + 1 + bs.length) = none := by
  rw [pages_one bs hb]
  unfold logB
  rw [pages_one ps ha, List.drop_replicate]
  obtain ⟨q, hq⟩ : ∃ q, q = 512 * Z - 512 * (1 + ps.length) := ⟨_, rfl⟩
  rw [← hq, Nat.mul_add, Nat.mul_one, ← List.drop_drop, ← begin_len m, List.drop_left, begin_len]
  by_cases h : bs.length < ps.length
  · refine one_num ?_
    rw [List.drop_append_of_le_length (by rw [recs_len, pages_one ps ha]; omega), recs_drop ps _ _ ha (by omega), recs_num _ _ _ (by omega) (fun e => by have := congrArg List.length e; simp at this; omega)]
    omega
  · refine one_num ?_
    rw [List.drop_append, List.drop_of_length_le (by rw [recs_len, pages_one ps ha]; omega), List.nil_append, List.drop_replicate, List.take_replicate, numL_zeros]
    omega
theorem row_new (n : Nat) (f : Nat) : ∀ k, f + k ≤ n → rowD (Dk.new n) f k = List.replicate (512 * k) 0
  | 0, _ => rfl
  | k + 1, h => by
    rw [rowD, row_new n f k (by omega), now_new n (f + k) (by omega), Nat.mul_succ, ← List.replicate_append_replicate]
    rfl
/-- Committed, and behind a crash that keeps none: what was reset is gone. -/
theorem reset_opens {D : Dk} {k m : Nat} {ps qs : List (List UInt8)} (c : Calm D 20 k) (a : Log D 0 20 m qs (logB 1 ps (rowD (Dk.new 20) 0 20))) (hm : m = 2 + ps.length) (hp : ∀ b ∈ ps, b.length ≤ 300) (hq : ∀ b ∈ qs, b.length ≤ 300) (hpl : ps.length ≤ 8) (hql : qs.length ≤ 8) :
    ∃ D', opnJ (D.barrier.crash []).start 0 20 = .ok qs D' (jOf 0 20 m qs) ∧ (D.barrier.crash []).start.secs.length = 20 := by
  have c2 := c.barrier
  have c3 := (crash_none c2).1
  have a3 := (a.barrier c (by omega)).crash c2 (fun i hi => by rw [barrier_secs c _ (by omega), now_barrier c _ (by omega)])
  have ho := log_rest 1 ps qs 20 (fun b hb => by have := hp b hb; omega) (by unfold lastN; omega) (by omega) (fun b hb => by have := hq b hb; omega)
  rw [row_new 20 0 20 (by omega)] at a3
  obtain ⟨D', h1, h2⟩ := log_open c3 a3 (by omega) (by omega) (by unfold lastN; omega) (fun b hb => by have := hq b hb; omega) (by rw [hm, ← ho, show 2 + ps.length + 1 + qs.length = 1 + 1 + ps.length + 1 + qs.length by omega])
  exact ⟨D', h1, c3.len⟩
end Go.Proofs.Ytnekelndcpmonaa
namespace Go.Proofs.Ytnekelndcpmonaa
open Go.ChangeShapes Go.WideShapes Go.ChangeAt Go.RowKit
open Go.ChangeMaps (open_string shut_string)

theorem own : ownKnob Try.prog.godebug = none := by kernel_rfl
theorem laidOut : laidOutB Try.prog = true := by kernel_rfl

section
variable {H : Type} {enc : TypeId × Value → H} {w : World} {base : Nat} {spare : Nat → Bool} {held : Bool}

theorem open_bytes {fuel : Nat} {cs : List Value} {x : DataW H × List MemPlace} (h : DataW.trod enc Try.prog w base spare held fuel 31 cs = some x) :
    ∃ (a : Option Addr) (cap : Nat) (l : List UInt8), cs = [.slice a l.length cap] ∧ BytesAt w a l ∧ l.length ≤ cap ∧ cap ≤ maxLen ∧ (a = none → cap = 0) := by
  rcases open_ints Try.underlying31 Try.underlying5 (by kernel_rfl) h with ⟨hcs, _⟩ | ⟨a, len, cap, zs, hcs, _, hl, hm, hz, _, hcell, hwz⟩
  · exact ⟨none, 0, [], hcs, BytesAt.nil _ _, Nat.le_refl _, by unfold maxLen; omega, fun _ => rfl⟩
  · have hzl : len ≤ zs.length := by rw [hz]; split <;> omega
    have hll : ((zs.take len).map fun n => UInt8.ofNat n.toNat).length = len := by simp; omega
    refine ⟨some a, cap, (zs.take len).map fun n => UInt8.ofNat n.toNat, by rw [hll]; exact hcs, ?_, by rw [hll]; exact hl, hm, fun e => by cases e⟩
    intro i hi
    rw [hll] at hi
    have hc := hcell i (by omega)
    obtain ⟨b, o, spot⟩ := a
    have hspot : spot = none := by simpa [Addr.add] using World.cell?_spot (hcell 0 (by omega))
    subst hspot
    rw [addr_add] at hc
    refine ⟨b, o, rfl, ?_⟩
    rw [hc]
    have hw := hwz (zs.getD i 0) (by simp [List.getD, show i < zs.length by omega])
    have hb := bounds_u8 hw
    have e : ((zs.take len).map fun n => UInt8.ofNat n.toNat).getD i 0 = UInt8.ofNat (zs.getD i 0).toNat := by
      simp [List.getD, hi, show i < zs.length by omega]
    rw [e, UInt8.toNat_ofNat']
    congr 2
    omega
theorem arg_bytes {s : Option Addr} {t u : Nat} {d : DataW H} {p : List MemPlace} (h : DataW.Trod enc Try.prog w base spare held 31 (.slice s t u) d p) :
    ∃ l : List UInt8, t = l.length ∧ BytesAt w s l ∧ l.length ≤ u ∧ u ≤ maxLen ∧ (s = none → u = 0) := by
  obtain ⟨fuel, hf⟩ := h
  obtain ⟨a, cap, l, e, h1, h2, h3, h4⟩ := open_bytes hf
  simp [Value.cells] at e
  obtain ⟨rfl, rfl, rfl⟩ := e
  exact ⟨l, rfl, h1, h2, h3, h4⟩
theorem arg_rows {s : Option Addr} {t u : Nat} {d : DataW H} {p : List MemPlace} (h : DataW.Trod enc Try.prog w base spare held 61 (.slice s t u) d p) :
    ∃ L : List (List UInt8), t = L.length ∧ RowsAt w s L ∧ L.length ≤ u ∧ u ≤ maxLen := by
  obtain ⟨fuel, hf⟩ := h
  rcases Deep.open_slice1 Try.underlying61 (by kernel_rfl) hf with ⟨e, _⟩ | ⟨a, len, cap, m, n, V, D, Pl, e, _, hl, hm, hmm, _, hx⟩
  · simp [Value.cells] at e
    obtain ⟨rfl, rfl, rfl⟩ := e
    exact ⟨[], rfl, fun i hi => absurd hi (Nat.not_lt_zero i), Nat.le_refl _, by unfold maxLen; omega⟩
  · simp [Value.cells] at e
    obtain ⟨rfl, rfl, rfl⟩ := e
    have hlm : t ≤ m := by rw [hmm]; split <;> omega
    obtain ⟨F, hF⟩ := Deep.choose_lt (α := List UInt8) (n := t) (p := fun i l => ∃ ai ci, V i = .slice ai l.length ci ∧ BytesAt w ai l ∧ l.length ≤ ci ∧ (ai = none → ci = 0)) (fun i hi => by
      obtain ⟨ai, ci, l, e, h1, h2, _, h4⟩ := open_bytes (hx i (by omega)).2
      simp at e
      exact ⟨l, ai, ci, e, h1, h2, h4⟩)
    refine ⟨(List.range t).map F, by simp, ?_, by simpa using hl, hm⟩
    intro i hi
    have hit : i < t := by simpa using hi
    obtain ⟨b, o, spot⟩ := a
    have hspot : spot = none := by simpa [Addr.add] using World.cell?_spot (hx 0 (by omega)).1
    subst hspot
    have hc := (hx i (by omega)).1
    rw [addr_add] at hc
    obtain ⟨ai, ci, e, h1, h2, h4⟩ := hF i hit
    have eF : ((List.range t).map F).getD i [] = F i := by simp [List.getD, hit]
    rw [eF]
    exact ⟨b, o, ai, ci, rfl, hc.trans (by rw [e]), h1, h2, h4⟩
end
end Go.Proofs.Ytnekelndcpmonaa
namespace Go.Proofs.Ytnekelndcpmonaa
open Go.ChangeShapes Go.WideShapes Go.ChangeAt Go.RowKit

/-- What a slice of strings reads as. -/
def StrsAt (w : World) (a : Option Addr) (l : List ByteArray) : Prop := ∀ i, i < l.length → ∃ b o, a = some ⟨b, o, none⟩ ∧ w.cell? ⟨b, o + i, none⟩ = some (.string (l.getD i ByteArray.empty))

section
variable {H : Type} {enc : TypeId × Value → H} {w : World} {base : Nat} {spare : Nat → Bool} {held : Bool}
theorem arg_strs {s : Option Addr} {t u : Nat} {d : DataW H} {p : List MemPlace} (h : DataW.Trod enc Try.prog w base spare held 44 (.slice s t u) d p) :
    ∃ l : List ByteArray, t = l.length ∧ StrsAt w s l ∧ l.length ≤ u ∧ u ≤ maxLen ∧ ∀ x ∈ l, x.size ≤ maxLen := by
  obtain ⟨fuel, hf⟩ := h
  rcases Deep.open_strs Try.underlying44 Try.underlying9 (by kernel_rfl) hf with ⟨e, _⟩ | ⟨a, len, cap, m, F, e, _, hl, hm, hmm, _, hx⟩
  · simp [Value.cells] at e
    obtain ⟨rfl, rfl, rfl⟩ := e
    exact ⟨[], rfl, fun i hi => absurd hi (Nat.not_lt_zero i), Nat.le_refl _, by unfold maxLen; omega, fun x hx => by simp at hx⟩
  · simp [Value.cells] at e
    obtain ⟨rfl, rfl, rfl⟩ := e
    have hlm : t ≤ m := by rw [hmm]; split <;> omega
    refine ⟨(List.range t).map F, by simp, ?_, by simpa using hl, hm, fun x hxm => ?_⟩
    · intro i hi
      have hit : i < t := by simpa using hi
      obtain ⟨b, o, spot⟩ := a
      have hspot : spot = none := by simpa [Addr.add] using World.cell?_spot (hx 0 (by omega)).1
      subst hspot
      have hc := (hx i (by omega)).1
      rw [addr_add] at hc
      have eF : ((List.range t).map F).getD i ByteArray.empty = F i := by simp [List.getD, hit]
      rw [eF]
      exact ⟨b, o, rfl, hc⟩
    · obtain ⟨i, hi, rfl⟩ := List.mem_map.1 hxm
      exact (hx i (by have := List.mem_range.1 hi; omega)).2
end

theorem Sep.arg {w0 w : World} {R : List Asn} (S : Sep w (oldA w0 :: R)) {b o : Nat} {v : Value} (h : w0.cell? ⟨b, o, none⟩ = some v) : w.cell? ⟨b, o, none⟩ = some v :=
  (S.old.cell (p := ⟨b, o, none⟩) (World.block_lt_of_cell? _ _ h)).trans h
theorem conv_string (w : World) (s : ByteArray) : (convert 9 31 (.string s)).run Try.prog w = .ok (.slice (some ⟨w.heap.size, 0, none⟩) s.size (grownCap w s.size 0 5)) (Lib.bytesWorld w 5 s) :=
  Lib.run_convert_string_bytes w 9 31 5 s Try.underlying9 Try.underlying31 Try.underlying5
theorem conv_below (w : World) (s : ByteArray) : Below w.heap.size w (Lib.bytesWorld w 5 s) :=
  ⟨rfl, rfl, rfl, by rw [Lib.bytesWorld_size]; omega, fun k hk => Lib.bytesWorld_at_old w _ s k hk⟩
theorem conv_bytes (w : World) (s : ByteArray) : BytesAt (Lib.bytesWorld w 5 s) (some ⟨w.heap.size, 0, none⟩) s.data.toList := fun i hi => by
  refine ⟨w.heap.size, 0, rfl, ?_⟩
  rw [Nat.zero_add]
  exact Lib.bytesWorld_cell w _ s i (by simpa using hi)
/-- The first three hundred bytes of a string. -/
def c300 (s : ByteArray) : List UInt8 := s.data.toList.take 300
theorem c300_len (s : ByteArray) : (c300 s).length ≤ 300 := by unfold c300; rw [List.length_take]; omega
def cuts3 (l : List ByteArray) : List (List UInt8) := l.map c300
theorem cuts3_len (l : List ByteArray) : (cuts3 l).length = l.length := by simp [cuts3]
theorem cuts3_succ (l : List ByteArray) (k : Nat) (x : ByteArray) (h : k < l.length) (hx : x = l.getD k ByteArray.empty) : (cuts3 l).take (k + 1) = (cuts3 l).take k ++ [c300 x] := by
  rw [List.take_succ_eq_append_getElem (by rw [cuts3_len]; exact h)]
  congr 2
  rw [hx]
  simp [cuts3, List.getD, h]
theorem cuts3_at (l : List ByteArray) (k i : Nat) (hi : i < k) (hk : k ≤ l.length) : ((cuts3 l).take k)[i]? = some (c300 (l.getD i ByteArray.empty)) := by
  rw [List.getElem?_take, if_pos hi]
  have : i < l.length := by omega
  simp [cuts3, List.getD, this]
theorem cuts3_le (l : List ByteArray) (k : Nat) : ∀ b ∈ (cuts3 l).take k, b.length ≤ 300 := fun b hb => by
  obtain ⟨x, _, rfl⟩ := List.mem_map.1 (List.mem_of_mem_take hb)
  exact c300_len x
/-- A string cut: its length, its bytes, as bytes. -/
theorem cut_string (x : ByteArray) (m : Nat) : ∃ n : Nat, (if (m : Int) < (x.size : Int) then (m : Int) else (x.size : Int)) = (n : Int) ∧ n ≤ m ∧ n ≤ x.size ∧ (x.data.toList.take m).length = n ∧ (x.extract 0 n).data.toList = x.data.toList.take m ∧ (x.extract 0 n).size = n := by
  have hx : x.data.toList.length = x.size := rfl
  refine ⟨min m x.size, by split <;> omega, Nat.min_le_left _ _, Nat.min_le_right _ _, by rw [List.length_take, hx], ?_, ?_⟩
  · rw [ByteArray.data_extract, Array.toList_extract]
    simp only [List.extract, Nat.sub_zero, List.drop_zero]
    rcases Nat.le_total m x.size with h | h
    · rw [Nat.min_eq_left h]
    · rw [Nat.min_eq_right h, List.take_of_length_le (by omega), List.take_of_length_le (by omega)]
  · rw [ByteArray.size_extract]; omega
theorem slice_str (x : ByteArray) (n : Nat) (h : n ≤ x.size) (W : World) : (Instr.sliceAt 9 (.string x) none (some (.int .i64 (n : Int))) none).run Try.prog W = .ok (.string (x.extract 0 n)) W := by
  have a1 : (n : Int) ≤ (x.size : Int) := by omega
  clear h
  go_simp
theorem slice_cut (x : ByteArray) (n : Nat) (l : List UInt8) (hl : (x.extract 0 n).data.toList = l) (h : n ≤ x.size) (W : World) : (Instr.sliceAt 9 (.string x) none (some (.int .i64 (n : Int))) none).run Try.prog W = .ok (.string ⟨l.toArray⟩) W := by
  subst hl
  exact slice_str x n h W
theorem conv_cut (x : ByteArray) (n : Nat) (hn : (x.extract 0 n).size = n) (W : World) : (convert 9 31 (.string (x.extract 0 n))).run Try.prog W = .ok (.slice (some ⟨W.heap.size, 0, none⟩) n (grownCap W n 0 5)) (Lib.bytesWorld W 5 (x.extract 0 n)) := by
  have h := conv_string W (x.extract 0 n)
  rw [hn] at h
  exact h
theorem conv_cut_at (x : ByteArray) (n : Nat) (l : List UInt8) (h : (x.extract 0 n).data.toList = l) (W : World) : BytesAt (Lib.bytesWorld W 5 (x.extract 0 n)) (some ⟨W.heap.size, 0, none⟩) l := by
  subst h
  exact conv_bytes W _
end Go.Proofs.Ytnekelndcpmonaa
