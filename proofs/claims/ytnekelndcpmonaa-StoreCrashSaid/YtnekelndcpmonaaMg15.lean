/- Stores on disks that no crash waits for, as plain data. Stores on calm disks: Format, Open, Save, as contracts; what is too large. law04's text, area. law04's shown. What a slice of numbers reads as. What the store's laws do with texts. -/
import Derived.Test.YtnekelndcpmonaaMg14
import Derived.Deep.QuietTactic
import Derived.BigQuiet
import Derived.Lib.SlBytesConst
import Derived.Test.YtnekelndcpmonaaMg1
import Derived.Deep.RegionHeld
import Derived.Deep.RegionLaw
import Derived.Deep.CutBlock
import Derived.Deep.DeepCutAuto
import Derived.RegionTactic
set_option linter.all false
namespace Go.Proofs.Ytnekelndcpmonaa
set_option linter.unusedVariables false

/-! ### What a half tells -/
theorem replL_more (s : List UInt8) : ∀ (f u n : Nat) (acc : List (List UInt8)), ∃ more n' u', replL s f u n acc = (acc ++ more, n', u') ∧ n ≤ n'
  | 0, u, n, acc => ⟨[], n, u, by simp [replL], Nat.le_refl _⟩
  | f + 1, u, n, acc => by
    rw [replL]
    cases ho : oneB (s.drop (512 * u)) n with
    | none => exact ⟨[], n, u, by simp, Nat.le_refl _⟩
    | some x =>
      obtain ⟨b, k⟩ := x
      obtain ⟨more, n', u', h1, h2⟩ := replL_more s f (u + k) (n + 1) (acc ++ [b])
      exact ⟨b :: more, n', u', by dsimp only; rw [h1, List.append_assoc]; rfl, by omega⟩
theorem replB_head (m : Nat) (rec rest s : List UInt8) (hs : s = pic m startN [] ++ (pic (m + 1) rec.length rec ++ rest)) (h1 : 1 ≤ m) (h3 : m + 1 ≤ lastN) (h4 : rec.length < 4294967296) :
    ∃ more n' u', replB s = some (rec :: more, n', u') ∧ m + 2 ≤ n' := by
  have hlen : 1024 ≤ s.length := by rw [hs, List.length_append, begin_len, List.length_append, pic_len]; omega
  obtain ⟨r, hr⟩ : ∃ r, s = headL m startN [] ++ r := ⟨_, by rw [hs, pic_eq, List.append_assoc]⟩
  have g1 : numL (s.take 8) = m := by rw [hr]; exact headL_num m startN [] r (by unfold lastN at h3; omega)
  have g2 : s.take 16 = headL m startN [] := by rw [hr, List.take_append_of_le_length (by rw [headL_len]; omega), List.take_of_length_le (by rw [headL_len]; omega)]
  have g3 : s.drop (512 * 1) = pic (m + 1) rec.length rec ++ rest := by rw [hs, Nat.mul_one, ← begin_len m, List.drop_left]
  obtain ⟨f, hf⟩ : ∃ f, s.length / 512 = f + 1 := ⟨s.length / 512 - 1, by omega⟩
  have e : replL s (s.length / 512) 1 (m + 1) [] = replL s f (1 + (rec.length + 527) / 512) (m + 1 + 1) ([] ++ [rec]) := by
    rw [hf, replL, g3, one_pic (m + 1) rec rest h3 h4]
  obtain ⟨more, n', u', h5, h6⟩ := replL_more s f (1 + (rec.length + 527) / 512) (m + 1 + 1) ([] ++ [rec])
  refine ⟨more, n', u', ?_, by omega⟩
  unfold replB
  rw [g1, g2, if_neg (by simp; omega), e, h5]
  rfl
/-- A half that tells a record first, or none. -/
structure HalfT (a : List UInt8) (m : Nat) (o : Option (List UInt8)) : Prop where
  m1 : 1 ≤ m
  m2 : m + 1 ≤ lastN
  shape : match o with
    | none => ∃ rest, a = pic m startN [] ++ rest ∧ oneB rest (m + 1) = none
    | some rec => rec.length < 4294967296 ∧ ∃ rest, a = pic m startN [] ++ (pic (m + 1) rec.length rec ++ rest)
theorem HalfT.tells {a : List UInt8} {m : Nat} {o : Option (List UInt8)} (h : HalfT a m o) : ∃ l n' u', replB a = some (l, n', u') ∧ l.head? = o ∧ m + 1 ≤ n' ∧ (o ≠ none → m + 2 ≤ n') := by
  have hs := h.shape
  cases o with
  | none =>
    obtain ⟨rest, h1, h2⟩ := hs
    exact ⟨[], _, _, replB_recs m [] rest a (by rw [h1]; rfl) h.m1 h2 (by have := h.m2; simp; omega) (by simp), rfl, Nat.le_refl _, fun e => absurd rfl e⟩
  | some rec =>
    obtain ⟨h1, rest, h2⟩ := hs
    obtain ⟨more, n', u', h3, h4⟩ := replB_head m rec rest a h2 h.m1 h.m2 h1
    exact ⟨_, n', u', h3, rfl, by omega, fun _ => h4⟩
theorem HalfT.num {a : List UInt8} {m : Nat} {o : Option (List UInt8)} (h : HalfT a m o) : numL (a.take 8) = m := by
  have hm := h.m2
  have e : ∃ r, a = headL m startN [] ++ r := by
    have hs := h.shape
    cases o with
    | none => obtain ⟨rest, h1, h2⟩ := hs; exact ⟨_, by rw [h1, pic_eq, List.append_assoc]⟩
    | some rec => obtain ⟨h1, rest, h2⟩ := hs; exact ⟨_, by rw [h2, pic_eq, List.append_assoc]⟩
  obtain ⟨r, hr⟩ := e
  rw [hr]; exact headL_num m startN [] r (by unfold lastN at hm; omega)

/-! ### What is kept -/
def optRec (o : Option (Nat × List UInt8)) : Option (List UInt8) := o.map fun x => recS x.1 x.2
def kept : Option (Nat × List UInt8) → Option (Nat × List UInt8) → Int × Nat × List UInt8
  | none, none => (-1, 0, [])
  | some x, none => (0, x.1, x.2)
  | none, some y => (1, y.1, y.2)
  | some x, some y => if x.1 < y.1 then (1, y.1, y.2) else (0, x.1, x.2)
theorem recS_len (n : Nat) (b : List UInt8) : (recS n b).length = 8 + b.length := by unfold recS; rw [List.length_append, lowL_len]
theorem recS_num (n : Nat) (b : List UInt8) (h : n < 18446744073709551616) : numL ((recS n b).take 8) = n := by
  unfold recS
  rw [List.take_append_of_le_length (by rw [lowL_len]; omega), List.take_of_length_le (by rw [lowL_len]; omega)]
  exact numL_lowL 8 n (by simpa using h)
theorem recS_drop (n : Nat) (b : List UInt8) : (recS n b).drop 8 = b := by
  unfold recS
  have e : (lowL n 8).length = 8 := lowL_len n 8
  exact List.drop_left' e
theorem pickS_none {h is : Int} {count : Nat} {th : List UInt8} {l : List (List UInt8)} (hl : l.head? = none) : pickS h is count th l = (is, count, th) := by
  cases l with
  | nil => rfl
  | cons x l => cases hl
theorem pickS_some {h is : Int} {count : Nat} {th : List UInt8} {l : List (List UInt8)} {n : Nat} {b : List UInt8} (hl : l.head? = some (recS n b)) (hn : n ≤ lastN) (hc : is < 0 ∨ count < n) : pickS h is count th l = (h, n, b) := by
  cases l with
  | nil => cases hl
  | cons x l =>
    simp at hl
    subst hl
    have e := recS_num n b (by unfold lastN at hn; omega)
    rw [pick_take (by rw [recS_len]; omega) (by rw [e]; exact hn) (by rw [e]; exact hc), e, recS_drop]
theorem pickS_stay {h is : Int} {count : Nat} {th : List UInt8} {l : List (List UInt8)} {n : Nat} {b : List UInt8} (hl : l.head? = some (recS n b)) (hn : n ≤ lastN) (hc : ¬ (is < 0 ∨ count < n)) : pickS h is count th l = (is, count, th) := by
  cases l with
  | nil => cases hl
  | cons x l =>
    simp at hl
    subst hl
    have e := recS_num n b (by unfold lastN at hn; omega)
    exact pick_not (fun h => hc (by have := h.2.2; rw [e] at this; exact this))
theorem pick2_kept {l0 l1 : List (List UInt8)} {o0 o1 : Option (Nat × List UInt8)} (h0 : l0.head? = optRec o0) (h1 : l1.head? = optRec o1) (n0 : ∀ x, o0 = some x → x.1 ≤ lastN) (n1 : ∀ x, o1 = some x → x.1 ≤ lastN) : pick2 l0 l1 = kept o0 o1 := by
  unfold pick2
  cases o0 with
  | none =>
    rw [pickS_none h0]
    cases o1 with
    | none => rw [pickS_none h1]; rfl
    | some y => rw [pickS_some h1 (n1 y rfl) (.inl (by show (-1 : Int) < 0; decide))]; rfl
  | some x =>
    rw [pickS_some h0 (n0 x rfl) (.inl (by show (-1 : Int) < 0; decide))]
    cases o1 with
    | none => rw [pickS_none h1]; rfl
    | some y =>
      dsimp only
      by_cases hlt : x.1 < y.1
      · rw [pickS_some h1 (n1 y rfl) (.inr hlt)]; exact (if_pos hlt).symm
      · rw [pickS_stay h1 (n1 y rfl) (by omega)]; exact (if_neg hlt).symm
/-- Open, of two halves that tell. -/
structure SOpnC (D D' : Dk) (z m0 m1 u0 n0 u1 n1 : Nat) (o0 o1 : Option (Nat × List UInt8)) (a0 a1 : List UInt8) : Prop where
  r0 : ∃ l, replB a0 = some (l, n0, u0)
  r1 : ∃ l, replB a1 = some (l, n1, u1)
  eq : sopnJ D z = .ok D' ⟨0, z, u0, n0, false⟩ ⟨z, z, u1, n1, false⟩ (kept o0 o1)
  same : Same D D'
  u0 : 1 ≤ u0 ∧ u0 ≤ z
  u1 : 1 ≤ u1 ∧ u1 ≤ z
  n0 : m0 + 1 ≤ n0 ∧ n0 ≤ m0 + z ∧ (o0 ≠ none → m0 + 2 ≤ n0)
  n1 : m1 + 1 ≤ n1 ∧ n1 ≤ m1 + z ∧ (o1 ≠ none → m1 + 2 ≤ n1)
theorem area_num {D : Dk} {f z : Nat} {a : List UInt8} (A : Area D f z a) (h : 1 ≤ z) : numL ((D.now f).take 8) = numL (a.take 8) := by
  have := A.sec 0 (by omega)
  rw [Nat.add_zero, Nat.mul_zero, List.drop_zero] at this
  rw [this, take_take_le _ (by omega)]
theorem sopn_calm {D : Dk} {n k z m0 m1 : Nat} {a0 a1 : List UInt8} {o0 o1 : Option (Nat × List UInt8)} (c : Calm D n k) (A0 : Area D 0 z a0) (A1 : Area D z z a1) (H0 : HalfT a0 m0 (optRec o0)) (H1 : HalfT a1 m1 (optRec o1)) (hz : 2 ≤ z)
    (c0 : ∀ x, o0 = some x → x.1 ≤ lastN) (c1 : ∀ x, o1 = some x → x.1 ≤ lastN) : ∃ D' u0 n0 u1 n1, SOpnC D D' z m0 m1 u0 n0 u1 n1 o0 o1 a0 a1 := by
  obtain ⟨l0, n0, u0, r0, e0, f0, g0⟩ := H0.tells
  obtain ⟨l1, n1, u1, r1, e1, f1, g1⟩ := H1.tells
  obtain ⟨D1, p1, p2, p3, p4, p5, p6, p7⟩ := open_some c A0 hz r0
  obtain ⟨D2, q1, q2, q3, q4, q5, q6, q7⟩ := open_some (p2.calm c) (A1.same p2) hz r1
  have b0 := area_num A0 (by omega)
  rw [H0.num] at b0
  have b1 := area_num (A1.same p2) (by omega)
  rw [H1.num] at b1
  rw [b0] at p6
  rw [b1] at q6
  refine ⟨D2, u0, n0, u1, n1, ⟨⟨l0, r0⟩, ⟨l1, r1⟩, ?_, p2.trans q2, ⟨p3, p4⟩, ⟨q3, q4⟩, ⟨f0, by omega, fun e => g0 (fun h => e ?_)⟩, ⟨f1, by omega, fun e => g1 (fun h => e ?_)⟩⟩⟩
  · rw [sopn_ok p1 q1, pick2_kept e0 e1 c0 c1]
  · cases o0 with
    | none => rfl
    | some x => cases h
  · cases o1 with
    | none => rfl
    | some x => cases h

/-! ### Save -/
theorem saveN_0 (D : Dk) (j : Jn) (rec : List UInt8) : saveN D j rec 0 = (0, D, j) := rfl
theorem saveN_1 (D : Dk) (j : Jn) (rec : List UInt8) : saveN D j rec 1 = resetJ D j := rfl
theorem saveN_2 (D : Dk) (j : Jn) (rec : List UInt8) : saveN D j rec 2 = commitJ (saveN D j rec 1).2.1 (saveN D j rec 1).2.2 := rfl
theorem saveN_3 (D : Dk) (j : Jn) (rec : List UInt8) : saveN D j rec 3 = appendJ (saveN D j rec 2).2.1 (saveN D j rec 2).2.2 rec := rfl
theorem saveN_4 (D : Dk) (j : Jn) (rec : List UInt8) : saveN D j rec 4 = commitJ (saveN D j rec 3).2.1 (saveN D j rec 3).2.2 := rfl
structure SavedC (D : Dk) (f z u m n : Nat) (a rec : List UInt8) (D4 : Dk) : Prop where
  ok : saveOk D ⟨f, z, u, m, false⟩ rec 4
  fin : saveN D ⟨f, z, u, m, false⟩ rec 4 = (0, D4, jOf f z m [rec])
  mid : (saveN D ⟨f, z, u, m, false⟩ rec 2).2.2.size ≤ 4096 ∧ (saveN D ⟨f, z, u, m, false⟩ rec 2).2.2.used ≤ (saveN D ⟨f, z, u, m, false⟩ rec 2).2.2.size ∧ (saveN D ⟨f, z, u, m, false⟩ rec 2).2.2.from_ + (saveN D ⟨f, z, u, m, false⟩ rec 2).2.2.size ≤ (saveN D ⟨f, z, u, m, false⟩ rec 2).2.1.secs.length ∧ (saveN D ⟨f, z, u, m, false⟩ rec 2).2.1.waits.length ≤ 80000
  calm : Calm D4 n 0
  log : Log D4 f z m [rec] a
  others : ∀ i, i < n → i < f ∨ f + z ≤ i → D4.now i = D.now i
theorem save_calm {D : Dk} {n k f z u m : Nat} {a rec : List UInt8} (c : Calm D n k) (A : Area D f z a) (hm : m + 1 ≤ lastN) (hz : f + z ≤ n) (h2 : 2 ≤ z) (hz2 : z ≤ 4096) (hr : rec.length + 16 ≤ (z - 1) * 512) : ∃ D4, SavedC D f z u m n a rec D4 := by
  obtain ⟨D1, a1, a2, a3, a4, a5⟩ := log_reset (u := u) c A (by omega : m ≤ lastN) (by omega) hz
  have b1 : commitJ D1 (jOf f z m []) = (0, D1.barrier, jOf f z m []) := log_commit a2
  have b2 := a2.barrier
  have b3 := a3.barrier a2 hz
  obtain ⟨D3, d1, d2, d3, d4, d5⟩ := log_append (b := rec) b2 b3 hz (by simpa using hm) (by unfold roomJ jOf; simp only [pages]; omega)
  have e1 : commitJ D3 (jOf f z m ([] ++ [rec])) = (0, D3.barrier, jOf f z m ([] ++ [rec])) := log_commit d2
  have n1 : saveN D ⟨f, z, u, m, false⟩ rec 1 = (0, D1, jOf f z m []) := a1
  have n2 : saveN D ⟨f, z, u, m, false⟩ rec 2 = (0, D1.barrier, jOf f z m []) := by rw [saveN_2, n1]; exact b1
  have n3 : saveN D ⟨f, z, u, m, false⟩ rec 3 = (0, D3, jOf f z m [rec]) := by rw [saveN_3, n2]; exact d1
  have n4 : saveN D ⟨f, z, u, m, false⟩ rec 4 = (0, D3.barrier, jOf f z m [rec]) := by rw [saveN_4, n3]; exact e1
  refine ⟨D3.barrier, ⟨fun i hi hi4 => ?_, n4, ?_, d2.barrier, d3.barrier d2 hz, fun i hi hx => ?_⟩⟩
  · have hc : i = 1 ∨ i = 2 ∨ i = 3 ∨ i = 4 := by omega
    rcases hc with rfl | rfl | rfl | rfl
    · rw [n1]
    · rw [n2]
    · rw [n3]
    · rw [n4]
  · rw [n2]
    refine ⟨hz2, by show 1 + 0 ≤ z; omega, by rw [b2.len]; exact hz, by have := b2.waits; show D1.barrier.waits.length ≤ _; omega⟩
  · rw [now_barrier d2 i hi, d4 i hi hx, now_barrier a2 i hi, a4 i hi (by omega)]
theorem half_saved {a rec : List UInt8} {m : Nat} (h1 : 1 ≤ m) (hm : m + 1 ≤ lastN) (hr : rec.length < 4294967296) : HalfT (logB m [rec] a) m (some rec) :=
  ⟨h1, hm, hr, a.drop (512 * (1 + pages [rec])), by unfold logB; rw [recs, recs, List.append_nil]⟩
theorem half_new {a : List UInt8} {m : Nat} (h1 : 1 ≤ m) (hm : m + 1 ≤ lastN) (ho : oneB (a.drop 512) (m + 1) = none) : HalfT (logB m [] a) m none :=
  ⟨h1, hm, _, rfl, by show oneB ([] ++ a.drop (512 * (1 + 0))) (m + 1) = none; exact ho⟩

/-! ### A store and its disk -/
structure StI (D : Dk) (n z : Nat) (s : Sto) (a0 a1 ar : List UInt8) (b : Nat) : Prop where
  calm : Calm D n 0
  z2 : 2 ≤ z
  zn : z = n / 2
  nb : n ≤ 100
  size : s.size = z
  broken : s.broken = false
  j0 : ∃ u m, s.j0 = ⟨0, z, u, m, false⟩ ∧ 1 ≤ m ∧ m ≤ b
  j1 : ∃ u m, s.j1 = ⟨z, z, u, m, false⟩ ∧ 1 ≤ m ∧ m ≤ b
  A0 : Area D 0 z a0
  A1 : Area D z z a1
  Ar : Area D (2 * z) (n - 2 * z) ar
  kept : ∃ o0 o1, (s.is, s.count, s.thing) = Proofs.Ytnekelndcpmonaa.kept o0 o1 ∧ (∃ m, HalfT a0 m (optRec o0) ∧ m + 1 ≤ s.j0.next) ∧ (∃ m, HalfT a1 m (optRec o1) ∧ m + 1 ≤ s.j1.next) ∧ (∀ x, o0 = some x → x.1 ≤ b) ∧ (∀ x, o1 = some x → x.1 ≤ b)
theorem StI.same {D D' : Dk} {n z b : Nat} {s : Sto} {a0 a1 ar : List UInt8} (h : StI D n z s a0 a1 ar b) (g : Same D D') : StI D' n z s a0 a1 ar b :=
  { h with calm := g.calm h.calm, A0 := h.A0.same g, A1 := h.A1.same g, Ar := h.Ar.same g }
theorem StI.mono {D : Dk} {n z b b' : Nat} {s : Sto} {a0 a1 ar : List UInt8} (h : StI D n z s a0 a1 ar b) (hb : b ≤ b') : StI D n z s a0 a1 ar b' := by
  obtain ⟨u0, m0, e0, f0, g0⟩ := h.j0
  obtain ⟨u1, m1, e1, f1, g1⟩ := h.j1
  obtain ⟨o0, o1, k1, ⟨x0, k2, k2b⟩, ⟨x1, k3, k3b⟩, k4, k5⟩ := h.kept
  exact { h with j0 := ⟨u0, m0, e0, f0, by omega⟩, j1 := ⟨u1, m1, e1, f1, by omega⟩, kept := ⟨o0, o1, k1, ⟨x0, k2, k2b⟩, ⟨x1, k3, k3b⟩, fun x hx => Nat.le_trans (k4 x hx) hb, fun x hx => Nat.le_trans (k5 x hx) hb⟩ }
/-- All its sectors. -/
theorem row_split (D : Dk) (at_ a : Nat) : ∀ b, rowD D at_ (a + b) = rowD D at_ a ++ rowD D (at_ + a) b
  | 0 => by simp [rowD]
  | b + 1 => by rw [← Nat.add_assoc, rowD, row_split D at_ a b, List.append_assoc, rowD, Nat.add_assoc]
theorem StI.row {D : Dk} {n z b : Nat} {s : Sto} {a0 a1 ar : List UInt8} (h : StI D n z s a0 a1 ar b) : rowD D 0 n = a0 ++ (a1 ++ ar) := by
  have hz := h.zn
  have e : n = z + (z + (n - 2 * z)) := by omega
  have h1 := row_split D 0 z (z + (n - 2 * z))
  rw [← e] at h1
  rw [h1, h.A0.eq, row_split D (0 + z) z, Nat.zero_add, h.A1.eq, show z + z = 2 * z by omega, h.Ar.eq]
theorem kept_0 {o0 o1 : Option (Nat × List UInt8)} (n : Nat) (b : List UInt8) (h : (kept o0 o1).1 ≠ 0) (hn : n = (kept o0 o1).2.1 + 1) : kept (some (n, b)) o1 = (0, n, b) := by
  cases o0 with
  | none => cases o1 with
    | none => rfl
    | some y => exact if_neg (by have e : n = y.1 + 1 := hn; dsimp only; omega)
  | some x => cases o1 with
    | none => exact absurd rfl h
    | some y =>
      by_cases hlt : x.1 < y.1
      · have e : kept (some x) (some y) = (1, y.1, y.2) := if_pos hlt
        rw [e] at hn
        exact if_neg (by dsimp only at hn ⊢; omega)
      · have e : kept (some x) (some y) = (0, x.1, x.2) := if_neg hlt
        rw [e] at h
        exact absurd rfl h
theorem kept_1 {o0 o1 : Option (Nat × List UInt8)} (n : Nat) (b : List UInt8) (h : (kept o0 o1).1 = 0) (hn : n = (kept o0 o1).2.1 + 1) : kept o0 (some (n, b)) = (1, n, b) := by
  cases o0 with
  | none => cases o1 with
    | none => cases h
    | some y => cases h
  | some x => cases o1 with
    | none => exact if_pos (by have e : n = x.1 + 1 := hn; dsimp only; omega)
    | some y =>
      by_cases hlt : x.1 < y.1
      · have e : kept (some x) (some y) = (1, y.1, y.2) := if_pos hlt
        rw [e] at h
        cases h
      · have e : kept (some x) (some y) = (0, x.1, x.2) := if_neg hlt
        rw [e] at hn
        exact if_pos (by dsimp only at hn ⊢; omega)
theorem kept_is (o0 o1 : Option (Nat × List UInt8)) : (kept o0 o1).1 = -1 ∨ (kept o0 o1).1 = 0 ∨ (kept o0 o1).1 = 1 := by
  cases o0 <;> cases o1
  · exact .inl rfl
  · exact .inr (.inr rfl)
  · exact .inr (.inl rfl)
  · rename_i x y
    by_cases hlt : x.1 < y.1
    · exact .inr (.inr (congrArg (·.1) (if_pos hlt : kept (some x) (some y) = _)))
    · exact .inr (.inl (congrArg (·.1) (if_neg hlt : kept (some x) (some y) = _)))
theorem kept_count {o0 o1 : Option (Nat × List UInt8)} {b : Nat} (h0 : ∀ x, o0 = some x → x.1 ≤ b) (h1 : ∀ x, o1 = some x → x.1 ≤ b) : (kept o0 o1).2.1 ≤ b := by
  cases o0 <;> cases o1
  · exact Nat.zero_le _
  · exact h1 _ rfl
  · exact h0 _ rfl
  · rename_i x y
    by_cases hlt : x.1 < y.1
    · have e : kept (some x) (some y) = (1, y.1, y.2) := if_pos hlt
      rw [e]; exact h1 _ rfl
    · have e : kept (some x) (some y) = (0, x.1, x.2) := if_neg hlt
      rw [e]; exact h0 _ rfl
/-- Behind a Save. -/
structure StS (D : Dk) (n z : Nat) (s : Sto) (a0 a1 ar : List UInt8) (b : Nat) (t : List UInt8) (D' : Dk) : Prop where
  pre : SaveOk s D t
  ok : saveOk D s.jn (recS (s.count + 1) t) 4
  disk : (saveN D s.jn (recS (s.count + 1) t) 4).2.1 = D'
  st : StI D' n z (s.saved (saveN D s.jn (recS (s.count + 1) t) 4).2.2 t) (if s.is = 0 then a0 else logB s.j0.next [recS (s.count + 1) t] a0) (if s.is = 0 then logB s.j1.next [recS (s.count + 1) t] a1 else a1) ar (b + 2)
  next : (saveN D s.jn (recS (s.count + 1) t) 4).2.2.next = s.jn.next + 2
theorem st_save {D : Dk} {n z b : Nat} {s : Sto} {a0 a1 ar : List UInt8} (h : StI D n z s a0 a1 ar b) (hb : b + 2 ≤ lastN) (t : List UInt8) (ht : t.length + 24 ≤ (z - 1) * 512) : ∃ D', StS D n z s a0 a1 ar b t D' := by
  have hz2 := h.z2
  have hzn := h.zn
  have hnb := h.nb
  have hs := h.size
  have hc := h.calm
  obtain ⟨u0, m0, e0, f0, g0⟩ := h.j0
  obtain ⟨u1, m1, e1, f1, g1⟩ := h.j1
  obtain ⟨o0, o1, k1, ⟨x0, k2, k2b⟩, ⟨x1, k3, k3b⟩, k4, k5⟩ := h.kept
  have ki := kept_is o0 o1
  have kc := kept_count k4 k5
  have i1 : s.is = (kept o0 o1).1 := congrArg (·.1) k1
  have i2 : s.count = (kept o0 o1).2.1 := congrArg (·.2.1) k1
  rw [← i1] at ki
  rw [← i2] at kc
  unfold lastN at hb
  obtain ⟨rec, hrec⟩ : ∃ rec, rec = recS (s.count + 1) t := ⟨_, rfl⟩
  have hrl : rec.length = 8 + t.length := by rw [hrec, recS_len]
  by_cases hi : s.is = 0
  · have ej : s.jn = ⟨z, z, u1, m1, false⟩ := by unfold Sto.jn; rw [if_pos hi, e1]
    obtain ⟨D4, q1, q2, q3, q4, q5, q6⟩ := save_calm (u := u1) (rec := rec) hc h.A1 (show m1 + 1 ≤ lastN by unfold lastN; omega) (by omega) hz2 (by omega) (by omega)
    refine ⟨D4, ⟨⟨by omega, h.broken, by omega, by omega, by omega, ki, by rw [ej, hc.len]; dsimp only; omega, by have := hc.waits; omega, by rw [ej, ← hrec]; exact q3⟩, by rw [ej, ← hrec]; exact q1, by rw [ej, ← hrec, q2], ?_, by rw [ej, ← hrec, q2]; rfl⟩⟩
    rw [ej, ← hrec, q2, if_pos hi, if_pos hi, e1]
    have es : s.saved (jOf z z m1 [rec]) t = ⟨s.size, 1, s.count + 1, false, t, s.j0, jOf z z m1 [rec]⟩ := if_pos hi
    rw [show ((0 : Int), D4, jOf z z m1 [rec]).2.2 = jOf z z m1 [rec] from rfl, es]
    refine ⟨q4, hz2, hzn, hnb, hs, rfl, ⟨u0, m0, e0, f0, by omega⟩, ⟨_, _, rfl, by omega, by show m1 + 1 + 1 ≤ b + 2; omega⟩, h.A0.congr (fun i hi => q6 _ (by omega) (by omega)), q5.area, h.Ar.congr (fun i hi => q6 _ (by omega) (by omega)), o0, some (s.count + 1, t), ?_, ⟨x0, k2, k2b⟩, ⟨m1, ?_, by show m1 + 1 ≤ m1 + 1 + 1; omega⟩, fun x hx => Nat.le_trans (k4 x hx) (by omega), fun x hx => ?_⟩
    · exact (kept_1 (s.count + 1) t (by rw [← i1]; exact hi) (by rw [i2])).symm
    · show HalfT _ m1 (some (recS (s.count + 1) t))
      rw [← hrec]
      exact half_saved f1 (by show m1 + 1 ≤ lastN; unfold lastN; omega) (by omega)
    · cases hx; show s.count + 1 ≤ b + 2; omega
  · have ej : s.jn = ⟨0, z, u0, m0, false⟩ := by unfold Sto.jn; rw [if_neg hi, e0]
    obtain ⟨D4, q1, q2, q3, q4, q5, q6⟩ := save_calm (u := u0) (rec := rec) hc h.A0 (show m0 + 1 ≤ lastN by unfold lastN; omega) (by omega) hz2 (by omega) (by omega)
    refine ⟨D4, ⟨⟨by omega, h.broken, by omega, by omega, by omega, ki, by rw [ej, hc.len]; dsimp only; omega, by have := hc.waits; omega, by rw [ej, ← hrec]; exact q3⟩, by rw [ej, ← hrec]; exact q1, by rw [ej, ← hrec, q2], ?_, by rw [ej, ← hrec, q2]; rfl⟩⟩
    rw [ej, ← hrec, q2, if_neg hi, if_neg hi, e0]
    have es : s.saved (jOf 0 z m0 [rec]) t = ⟨s.size, 0, s.count + 1, false, t, jOf 0 z m0 [rec], s.j1⟩ := if_neg hi
    rw [show ((0 : Int), D4, jOf 0 z m0 [rec]).2.2 = jOf 0 z m0 [rec] from rfl, es]
    refine ⟨q4, hz2, hzn, hnb, hs, rfl, ⟨_, _, rfl, by omega, by show m0 + 1 + 1 ≤ b + 2; omega⟩, ⟨u1, m1, e1, f1, by omega⟩, q5.area, h.A1.congr (fun i hi => q6 _ (by omega) (by omega)), h.Ar.congr (fun i hi => q6 _ (by omega) (by omega)), some (s.count + 1, t), o1, ?_, ⟨m0, ?_, by show m0 + 1 ≤ m0 + 1 + 1; omega⟩, ⟨x1, k3, k3b⟩, fun x hx => ?_, fun x hx => Nat.le_trans (k5 x hx) (by omega)⟩
    · exact (kept_0 (s.count + 1) t (by rw [← i1]; exact hi) (by rw [i2])).symm
    · show HalfT _ m0 (some (recS (s.count + 1) t))
      rw [← hrec]
      exact half_saved f0 (by show m0 + 1 ≤ lastN; unfold lastN; omega) (by omega)
    · cases hx; show s.count + 1 ≤ b + 2; omega
end Go.Proofs.Ytnekelndcpmonaa
namespace Go.Proofs.Ytnekelndcpmonaa
open Go.RowKit
set_option linter.unusedVariables false

def blankA (z : Nat) : List UInt8 := pic 1 startN [] ++ List.replicate (512 * (z - 1)) 0
theorem blank_log (z : Nat) : logB 1 [] (List.replicate (512 * z) 0) = blankA z := by
  unfold logB blankA
  rw [List.drop_replicate]
  simp only [recs, pages, List.nil_append, Nat.add_zero, Nat.mul_one]
  rw [show 512 * z - 512 = 512 * (z - 1) by omega]
theorem one_zeros (k n : Nat) (hn : n ≠ 0) : oneB (List.replicate k 0) n = none := by
  refine one_num ?_
  rw [List.take_replicate, numL_zeros]
  exact Ne.symm hn
theorem half_blank (z : Nat) : HalfT (blankA z) 1 none := ⟨Nat.le_refl _, by unfold lastN; omega, _, rfl, one_zeros _ _ (by omega)⟩
theorem st_format {D : Dk} (n z : Nat) (hs : Same (Dk.new n) D) (hz : z = n / 2) (h4 : 4 ≤ n) (hn : n ≤ 100) :
    ∃ D4, Fmt2 D D4 z (jOf 0 z 1 []) (jOf z z 1 []) ∧ StI D4 n z (stoNew z (jOf 0 z 1 []) (jOf z z 1 [])) (blankA z) (blankA z) (List.replicate (512 * (n - 2 * z)) 0) 2 := by
  have cn := Calm.new n
  have c := hs.calm cn
  have ok := Dk.ok_new n
  have A0 : Area D 0 z (List.replicate (512 * z) 0) := by have := Area.of ok 0 z (by rw [cn.len]; omega); rw [row_new n 0 z (by omega)] at this; exact this.same hs
  have A1 : Area D z z (List.replicate (512 * z) 0) := by have := Area.of ok z z (by rw [cn.len]; omega); rw [row_new n z z (by omega)] at this; exact this.same hs
  have Ar : Area D (2 * z) (n - 2 * z) (List.replicate (512 * (n - 2 * z)) 0) := by have := Area.of ok (2 * z) (n - 2 * z) (by rw [cn.len]; omega); rw [row_new n _ _ (by omega)] at this; exact this.same hs
  obtain ⟨D1, D2, a1, a2, a3, a4, a5, a6, a7⟩ := format_calm c A0 (by omega) (by omega)
  have A1' : Area D2 z z (List.replicate (512 * z) 0) := A1.congr (fun i hi => a5 _ (by omega) (by omega))
  obtain ⟨D3, D4, b1, b2, b3, b4, b5, b6, b7⟩ := format_calm a3 A1' (by omega) (by omega)
  rw [splice_begin, blank_log] at a4 b4
  refine ⟨D4, ⟨D1, D2, D3, _, _, a1, a2, by rw [a3.len, c.len], by rw [a7]; exact Nat.zero_le _, b1, b2⟩, b3, by omega, hz, hn, rfl, rfl, ⟨_, _, rfl, by show 1 ≤ 2; omega, by show 2 ≤ 2; omega⟩, ⟨_, _, rfl, by show 1 ≤ 2; omega, by show 2 ≤ 2; omega⟩,
    a4.congr (fun i hi => b5 _ (by omega) (by omega)), b4, Ar.congr (fun i hi => by rw [b5 _ (by omega) (by omega), a5 _ (by omega) (by omega)]), none, none, rfl, ⟨1, half_blank z, by show 1 + 1 ≤ 2; omega⟩, ⟨1, half_blank z, by show 1 + 1 ≤ 2; omega⟩, fun x hx => (by cases hx), fun x hx => (by cases hx)⟩
/-- A disk that was never formatted is none. -/
theorem open_blank (n z : Nat) (hz : z = n / 2) (h4 : 4 ≤ n) : ∃ D', sopnJ (Dk.new n) z = .err 2 D' ∧ Same (Dk.new n) D' := by
  have c := Calm.new n
  have A0 : Area (Dk.new n) 0 z (List.replicate (512 * z) 0) := by have := Area.of (Dk.ok_new n) 0 z (by rw [c.len]; omega); rw [row_new n 0 z (by omega)] at this; exact this
  have hr : replB (List.replicate (512 * z) 0) = none := by
    unfold replB
    rw [List.take_replicate, numL_zeros, if_pos (.inl (by omega))]
  obtain ⟨D', h1, h2⟩ := open_none c A0 (by omega) hr
  exact ⟨D', sopn_err0 h1, h2⟩
/-- Opened anew. -/
theorem st_open {D : Dk} {n z b : Nat} {s : Sto} {a0 a1 ar : List UInt8} (h : StI D n z s a0 a1 ar b) (hb : b ≤ lastN) : ∃ D' j0 j1, sopnJ D z = .ok D' j0 j1 (s.is, s.count, s.thing) ∧ Same D D' ∧ StI D' n z (stoOf z j0 j1 (s.is, s.count, s.thing)) a0 a1 ar (b + 100) ∧ (∃ l, replB a0 = some (l, j0.next, j0.used)) ∧ (∃ l, replB a1 = some (l, j1.next, j1.used)) := by
  have hz := h.zn
  have hn := h.nb
  obtain ⟨o0, o1, k1, ⟨x0, k2, k2b⟩, ⟨x1, k3, k3b⟩, k4, k5⟩ := h.kept
  obtain ⟨D', u0, n0, u1, n1, ho⟩ := sopn_calm h.calm h.A0 h.A1 k2 k3 h.z2 (fun x hx => Nat.le_trans (k4 x hx) hb) (fun x hx => Nat.le_trans (k5 x hx) hb)
  have e1 := ho.eq
  rw [← k1] at e1
  have p0 := ho.n0
  have p1 := ho.n1
  obtain ⟨u0', m0', e0', f0', g0'⟩ := h.j0
  obtain ⟨u1', m1', e1', f1', g1'⟩ := h.j1
  rw [e0'] at k2b
  rw [e1'] at k3b
  dsimp only at k2b k3b
  refine ⟨D', _, _, e1, ho.same, ⟨ho.same.calm h.calm, h.z2, hz, hn, rfl, rfl, ⟨_, _, rfl, by omega, by omega⟩, ⟨_, _, rfl, by omega, by omega⟩, h.A0.same ho.same, h.A1.same ho.same, h.Ar.same ho.same,
    o0, o1, k1, ⟨x0, k2, p0.1⟩, ⟨x1, k3, p1.1⟩, fun x hx => Nat.le_trans (k4 x hx) (by omega), fun x hx => Nat.le_trans (k5 x hx) (by omega)⟩, ho.r0, ho.r1⟩
section
variable {w : World} {R : List Asn} {p sp n z b : Nat} {D : Dk} {s : Sto} {a0 a1 ar : List UInt8}
theorem kFormat (S : Sep w (diskA p D :: R)) (hs : Same (Dk.new n) D) (hz : z = n / 2) (h4 : 4 ≤ n) (hn : n ≤ 100) :
    Calls Try.prog 12 #[.pointer (some ⟨p, 0, none⟩)] w fun e w' => ∃ sp, e = .returned (.tuple #[.pointer (some ⟨sp, 0, none⟩), .int .i64 0]) ∧ ∃ D4, StI D4 n z (stoNew z (jOf 0 z 1 []) (jOf z z 1 [])) (blankA z) (blankA z) (List.replicate (512 * (n - 2 * z)) 0) 2 ∧ Sep w' (storeA sp p (stoNew z (jOf 0 z 1 []) (jOf z z 1 [])) :: diskA p D4 :: R) := by
  obtain ⟨D4, h1, h2⟩ := st_format n z hs hz h4 hn
  have c := hs.calm (Calm.new n)
  exact (sFormat_sep S z (by rw [c.len]; exact h4) (by rw [c.len]; exact hz) (by have := c.waits; omega) D4 _ _ h1).mono fun e w' ⟨sp, he, h⟩ => ⟨sp, he, D4, h2, h⟩
theorem kOpen (S : Sep w (diskA p D :: R)) (h : StI D n z s a0 a1 ar b) (hb : b ≤ lastN) :
    Calls Try.prog 19 #[.pointer (some ⟨p, 0, none⟩)] w fun e w' => ∃ sp, e = .returned (.tuple #[.pointer (some ⟨sp, 0, none⟩), .int .i64 0]) ∧ ∃ D' j0 j1, sopnJ D z = .ok D' j0 j1 (s.is, s.count, s.thing) ∧ Same D D' ∧ (StI D' n z (stoOf z j0 j1 (s.is, s.count, s.thing)) a0 a1 ar (b + 100) ∧ (∃ l, replB a0 = some (l, j0.next, j0.used)) ∧ (∃ l, replB a1 = some (l, j1.next, j1.used))) ∧ Sep w' (storeA sp p (stoOf z j0 j1 (s.is, s.count, s.thing)) :: diskA p D' :: R) := by
  obtain ⟨D', j0, j1, h1, h2, h3⟩ := st_open h hb
  have h5 := h.z2
  have h6 := h.zn
  have h7 := h.nb
  exact (sOpen_ok S z (by rw [h.calm.len]; omega) (by rw [h.calm.len]; omega) (by rw [h.calm.len]; exact h6) D' j0 j1 _ h1).mono fun e w' ⟨sp, he, h⟩ => ⟨sp, he, D', j0, j1, h1, h2, h3, h⟩
/-- What a Save leaves. -/
structure KSaved (D : Dk) (n z : Nat) (s : Sto) (a0 a1 ar : List UInt8) (b : Nat) (t : List UInt8) (D' : Dk) (s' : Sto) : Prop where
  st : StI D' n z s' (if s.is = 0 then a0 else logB s.j0.next [recS (s.count + 1) t] a0) (if s.is = 0 then logB s.j1.next [recS (s.count + 1) t] a1 else a1) ar (b + 2)
  is : s'.is = if s.is = 0 then 1 else 0
  count : s'.count = s.count + 1
  thing : s'.thing = t
  next0 : s'.j0.next = if s.is = 0 then s.j0.next else s.j0.next + 2
  next1 : s'.j1.next = if s.is = 0 then s.j1.next + 2 else s.j1.next
theorem st_saved {t : List UInt8} {D' : Dk} (h : StS D n z s a0 a1 ar b t D') : KSaved D n z s a0 a1 ar b t D' (s.saved (saveN D s.jn (recS (s.count + 1) t) 4).2.2 t) := by
  have hx := h.next
  by_cases hi : s.is = 0
  · have ej : s.jn = s.j1 := if_pos hi
    have es : s.saved (saveN D s.jn (recS (s.count + 1) t) 4).2.2 t = _ := if_pos hi
    refine ⟨h.st, ?_, ?_, ?_, ?_, ?_⟩
    · rw [es, if_pos hi]
    · rw [es]
    · rw [es]
    · rw [es, if_pos hi]
    · rw [es, if_pos hi]; dsimp only; rw [hx, ej]
  · have ej : s.jn = s.j0 := if_neg hi
    have es : s.saved (saveN D s.jn (recS (s.count + 1) t) 4).2.2 t = _ := if_neg hi
    refine ⟨h.st, ?_, ?_, ?_, ?_, ?_⟩
    · rw [es, if_neg hi]
    · rw [es]
    · rw [es]
    · rw [es, if_neg hi]; dsimp only; rw [hx, ej]
    · rw [es, if_neg hi]
theorem kSave {B : Asn} {ba : Option Addr} {bn bc : Nat} {t : List UInt8} (S : Sep w (storeA sp p s :: diskA p D :: B :: R)) (hB : HoldsAt B ba bn bc t) (h : StI D n z s a0 a1 ar b) (hb : b + 2 ≤ lastN) (ht : t.length + 24 ≤ (z - 1) * 512) :
    Calls Try.prog 15 #[.pointer (some ⟨sp, 0, none⟩), .slice ba bn bc] w fun e w' => e = .returned (.int .i64 0) ∧ ∃ D' s', KSaved D n z s a0 a1 ar b t D' s' ∧ Sep w' (storeA sp p s' :: diskA p D' :: B :: R) := by
  obtain ⟨D', h1⟩ := st_save h hb t ht
  refine (sSave_sep S hB h1.pre).mono fun e w' hp => ?_
  rcases hp with ⟨g1, g2, g3⟩ | ⟨k, g0, g1, g2, g3, g4⟩
  · rw [h1.disk] at g3
    exact ⟨g2, D', _, st_saved h1, g3⟩
  · exact absurd (h1.ok (k + 1) (by omega) (by omega)) g2
set_option maxRecDepth 20000 in
set_option maxHeartbeats 4000000 in
/-- What is too large. -/
theorem sSave_full {ba : Option Addr} {bn bc : Nat} (S : Sep w (storeA sp p s :: R)) (hbr : s.broken = false) (hsz : s.size ≤ 1000) (hroom : ((s.size : Int) - 1) * 512 - 16 - 8 < (bn : Int)) :
    Calls Try.prog 15 #[.pointer (some ⟨sp, 0, none⟩), .slice ba bn bc] w fun e w' => e = .returned (.int .i64 5) ∧ Sep w' (storeA sp p s :: R) := by
  obtain ⟨q0, q1, tv, S0⟩ := S.sto_open
  have S0 := S0
  obtain ⟨c0, c1, c2, c3, c4, c5, c6⟩ := S0.st
  rw [hbr] at c6
  have hlt := S0.blk_lt
  have S1 := (S0.alloc #[.pointer (some ⟨sp, 0, none⟩)] 28).alloc #[.slice ba bn bc] 31
  simp only [World.size_alloc] at S1
  obtain ⟨sb, hsb⟩ : ∃ sb, sb = w.heap.size := ⟨_, rfl⟩
  obtain ⟨w1, hw1⟩ : ∃ w1, w1 = (w.alloc (.cells #[.pointer (some ⟨sp, 0, none⟩)] 28)).alloc (.cells #[.slice ba bn bc] 31) := ⟨_, rfl⟩
  rw [← hw1, ← hsb] at S1
  obtain ⟨rm, hrm⟩ : ∃ rm : Int, rm = ((s.size : Int) - 1) * 512 - 16 - 8 := ⟨_, rfl⟩
  have hgt : rm < (bn : Int) := by omega
  have k1 := S1.up1.blk_cell 0
  have k2 := S1.blk_cell 0
  obtain ⟨d0, d1, d2, d3, d4, d5, d6⟩ := S1.up2.st
  rw [hbr] at d6
  simp at k1 k2
  have HW1 := Lib.hid hw1
  have HSB := Lib.hid hsb
  have HRM := Lib.hid hrm.symm
  have HS1 := Lib.hid S1
  have HROOM : Hid (∀ (W : World) (R' : List Asn) (h0 h1 tv : Value), Sep W (stA sp h0 h1 ⟨s.size, s.is, s.count, s.broken⟩ tv :: R') → Calls Try.prog 21 #[.pointer (some ⟨sp, 0, none⟩)] W fun e w' => e = .returned (.int .i64 rm) ∧ W = w') := Lib.hid (fun W R' h0 h1 tv SW => by rw [hrm]; exact stRoom_sep SW (by show s.size ≤ 4096; omega))
  clear S S0 S1 hw1 hsb hrm hsz hroom hbr
  go_enter Try.func15, Try.ntmps15
  go_wp2_with fail
  rw [← HW1.out, ← HSB.out]
  clear c0 c1 c2 c3 c4 c5 c6 hlt
  go_quiet ((go_at_call 21; refine Calls.quiet_of ((HROOM.out _ _ _ _ _ (HS1.out.drewN _).up2).mono fun e w' h => ⟨h.1, 0, by rw [← h.2]; rfl⟩)))
  have HS2 := Lib.hid (fun k => Sep.sto_shut (s := s) ((HS1.out.drewN k).up1.drop.drop))
  go_wp2
  go_ret
  exact ⟨rfl, HS2.out _⟩
end
end Go.Proofs.Ytnekelndcpmonaa
namespace Go.Proofs.Ytnekelndcpmonaa
open Go.RowKit
set_option linter.unusedVariables false

theorem run_make_zeros (w : World) (n : Nat) (hn : n ≤ 1000000) :
    (Instr.makeSlice 31 (.int .i64 (n : Int)) (.int .i64 (n : Int))).run Try.prog w = .ok (.slice (some ⟨w.heap.size, 0, none⟩) n n) (w.alloc (.cells ((List.replicate n (0 : UInt8)).map byteV).toArray 5)) := by
  obtain ⟨i0, hi, hz0, hz1, hz2⟩ := info_parts info8
  have h := run_make (P := Try.prog) w 31 5 i0 (.int .u8 0) Try.underlying31 hi hz0 .i64 .i64 (n : Int) (n : Int) (by omega) (Int.le_refl _) (by rw [hz2]; omega) (by omega)
  rw [h, hz1, Int.toNat_natCast]
  have e : madeCells (Value.int .u8 0).cells (n * 1) = ((List.replicate n (0 : UInt8)).map byteV).toArray := by
    have := zeros_bytes n
    apply Array.ext'
    rw [this]
  rw [e]
theorem made_bytes {w : World} {R : List Asn} (S : Sep w R) (n : Nat) (hn : n ≤ 1000000) : Sep (w.alloc (.cells ((List.replicate n (0 : UInt8)).map byteV).toArray 5)) (bytesA (.slice (some ⟨w.heap.size, 0, none⟩) n n) n (List.replicate n 0) :: R) :=
  (S.alloc _ _).blkBytes n (by simp) hn
section
variable {w : World} {R : List Asn} {p : Nat} {D : Dk}
set_option maxRecDepth 20000 in
set_option maxHeartbeats 4000000 in
theorem area_rds (S : Sep w (diskA p D :: R)) (s : List UInt8) (D2 : Dk) (hx : rds D.secs.length D 0 [] = (true, s, D2)) :
    Calls Try.prog 20 #[.pointer (some ⟨p, 0, none⟩)] w fun e w' => e = .returned (.string ⟨s.toArray⟩) ∧ Sep w' (diskA p D2 :: R) := by
  obtain ⟨hok, hl1, hl3⟩ := dk_len S
  obtain ⟨size, hsz⟩ : ∃ size, size = D.secs.length := ⟨_, rfl⟩
  rw [← hsz] at hx
  have HS := Lib.hid S
  have Hok := Lib.hid hok
  have Hx := Lib.hid hx
  have Hsz := Lib.hid hsz
  have hszb : (size : Int) ≤ 4096 := by omega
  clear S hok hx
  go_enter Try.func20, Try.ntmps20
  go_wp2
  go_loopw [4, 3] (fun i sv wr => ∃ (k : Nat) (pl : List UInt8) (Dx : Dk), k ≤ size ∧ i = .int .i64 (k : Int) ∧ sv = .string ⟨pl.toArray⟩ ∧ rds k D 0 [] = (true, pl, Dx) ∧ Sep wr (diskA p Dx :: R)) (fun i _ _ => size - (intOf i).toNat)
  case atStart => exact ⟨0, [], D, Nat.zero_le _, rfl, rfl, rfl, HS.out⟩
  case round =>
    obtain ⟨k, pl, Dx, hk, rfl, rfl, hr, Sr⟩ := hrel
    have hDl := rds_len _ _ _ _ _ _ _ hr
    have hsec := sectors_sep Sr
    rw [hDl, ← Hsz.out] at hsec
    have HSEC := Lib.hid hsec
    clear hsec
    by_cases hlt : k < size
    · have hlt1 : (k : Int) < (size : Int) := by omega
      have hdk : Dx.fell.down = false := by
        cases h : Dx.fell.down with
        | false => rfl
        | true =>
          have h1 := rds_snoc _ _ _ _ _ _ hr
          rw [if_pos h] at h1
          have h2 := rds_more _ (size - (k + 1)) _ _ _ _ _ h1
          rw [show k + 1 + (size - (k + 1)) = size by omega, Hx.out] at h2
          cases h2
      have h1 := rds_snoc _ _ _ _ _ _ hr
      rw [if_neg (by rw [hdk]; simp), Nat.zero_add] at h1
      obtain ⟨l, hl⟩ : ∃ l, l = Dx.begun.now k := ⟨_, rfl⟩
      rw [← hl] at h1
      have hpl := rds_bytes _ _ _ _ _ _ _ Hok.out (by omega) hr
      have hix : k < Dx.secs.length := by omega
      have Hdk := Lib.hid hdk
      have H1 := Lib.hid h1
      have Hl := Lib.hid hl
      have Hpl := Lib.hid hpl
      have HSr := Lib.hid Sr
      clear hdk h1 hl Sr hr hDl hpl hsz
      go_wp2_with fail
      refine HSEC.out.mono ?_
      rintro e w1 ⟨rfl, rfl⟩
      go_wp2_with fail
      refine (read_sep HSr.out k _ rfl hix Hdk.out l Hl.out.symm).mono ?_
      rintro e w2 ⟨B, rfl, S2⟩
      have hl2 := S2.bytes.len
      have tr := run_string S2.bytes.reads 512 512 hl2
      have HS2 := Lib.hid S2.drop
      have Hl2 := Lib.hid hl2
      clear S2 hl2
      have hcat : ¬ (9223372036854775807 < pl.length + l.length) := by have := Hpl.out; have := Hl2.out; simp at *; omega
      go_wp2
      go_roundw
      case rel =>
        refine ⟨k + 1, pl ++ l, Dx.begun, by omega, by go_num, ?_, H1.out, HS2.out⟩
        rw [← List.append_toArray]
        congr 1
        exact ByteArray.ext (by simp)
      case measure => simp [intOf]; omega
    · obtain rfl : k = size := by omega
      rw [Hx.out] at hr
      cases hr
      have HSr := Lib.hid Sr
      clear Sr hsz
      go_wp2_with fail
      refine HSEC.out.mono ?_
      rintro e w1 ⟨rfl, rfl⟩
      go_wp2
      go_ret
      exact ⟨rfl, HSr.out⟩
/-- .. of a disk that no crash waits for. -/
theorem area_sep {n k : Nat} (S : Sep w (diskA p D :: R)) (c : Calm D n k) :
    Calls Try.prog 20 #[.pointer (some ⟨p, 0, none⟩)] w fun e w' => e = .returned (.string ⟨(rowD D 0 n).toArray⟩) ∧ ∃ D2, Same D D2 ∧ Sep w' (diskA p D2 :: R) := by
  obtain ⟨D2, h1, h2⟩ := rds_calm n D n k 0 [] c
  rw [List.nil_append] at h1
  exact (area_rds S (rowD D 0 n) D2 (by rw [c.len]; exact h1)).mono fun e w' h => ⟨h.1, D2, h2, h.2⟩

set_option maxRecDepth 20000 in
set_option maxHeartbeats 4000000 in
theorem text_sep (S : Sep w R) (n : Nat) (c : UInt8) (Nn C : Int) (hN : Nn = (n : Int)) (hC : C = (c.toNat : Int)) (hn : n ≤ 100000) :
    Calls Try.prog 14 #[.int .i64 Nn, .int .u8 C] w fun e w' => e = .returned (.string ⟨(List.replicate n c).toArray⟩) ∧ Sep w' R := by
  subst hN hC
  have HS := Lib.hid S
  have n0 : (0 : Int) ≤ (n : Int) := by omega
  have n1 : (n : Int) ≤ 100000 := by omega
  clear S hn
  go_enter Try.func14, Try.ntmps14
  have hmk := run_make_zeros w n (by omega)
  have S1 := made_bytes HS.out n (by omega)
  obtain ⟨w1, hw1⟩ : ∃ w1, w1 = w.alloc (.cells ((List.replicate n (0 : UInt8)).map byteV).toArray 5) := ⟨_, rfl⟩
  rw [← hw1] at hmk S1
  obtain ⟨g, hg⟩ : ∃ g, g = w.heap.size := ⟨_, rfl⟩
  rw [← hg] at hmk S1
  clear hw1 hg
  go_wp2
  clear hmk
  go_loopw [6] (fun i wr => ∃ (k : Nat) (l : List UInt8), k ≤ n ∧ i = .int .i64 (k : Int) ∧ l.take k = List.replicate k c ∧ Sep wr (bytesA (.slice (some ⟨g, 0, none⟩) n n) n l :: R)) (fun i _ => n - (intOf i).toNat)
  case atStart => exact ⟨0, _, Nat.zero_le _, rfl, rfl, S1⟩
  case round =>
    obtain ⟨k, l, hk, rfl, hl, Sr⟩ := hrel
    have hll := Sr.bytes.len
    by_cases hlt : k < n
    · have hlt1 : (k : Int) < (n : Int) := by omega
      have hk0 : (0 : Int) ≤ (k : Int) := by omega
      obtain ⟨_, e, _, _, hc, hf⟩ := Sr.bytes.at (by omega)
      cases e
      have hck := hc k hlt
      have S2 := Sr.bytes_set k c
      have Hl := Lib.hid hl
      have HS2 := Lib.hid S2
      have Hll := Lib.hid hll
      clear hl S2 hll Sr S1 hc
      go_wp2
      refine ⟨⟨k + 1, l.set k c, by omega, by go_num, ?_, HS2.out⟩, by simp [intOf]; omega⟩
      have hll := Hll.out
      rw [List.replicate_succ', ← Hl.out, List.take_succ_eq_append_getElem (by rw [List.length_set]; omega)]
      congr 1
      · apply List.ext_getElem?
        intro i
        simp only [List.getElem?_take, List.getElem?_set]
        split
        · rw [if_neg (by omega)]
        · rfl
      · simp
    · obtain rfl : k = n := by omega
      have hlt1 : ¬ (k : Int) < (k : Int) := by omega
      rw [List.take_of_length_le (by omega)] at hl
      subst hl
      have tr := run_string Sr.bytes.reads k k (by simp)
      have HSr := Lib.hid Sr.drop
      clear Sr hll S1
      go_wp2
      go_ret
      exact ⟨rfl, HSr.out⟩
end
end Go.Proofs.Ytnekelndcpmonaa
namespace Go.Proofs.Ytnekelndcpmonaa
open Go.RowKit
set_option linter.unusedVariables false

theorem now_idle {D : Dk} (h : D.waits = []) (i : Nat) : D.now i = D.secs.getD i [] := by unfold Dk.now; rw [h]; rfl
theorem Calm.idle {D : Dk} {n : Nat} (c : Calm D n 0) : D.waits = [] := List.length_eq_zero_iff.1 (Nat.le_zero.1 c.waits)
theorem StI.crash {D : Dk} {n z b : Nat} {s : Sto} {a0 a1 ar : List UInt8} (h : StI D n z s a0 a1 ar b) : StI (D.crash []).start n z s a0 a1 ar b := by
  obtain ⟨h1, h2⟩ := crash_none h.calm
  have h3 : ∀ i, (D.crash []).start.now i = D.now i := fun i => by rw [h2, now_idle h.calm.idle]
  exact { h with calm := h1, A0 := h.A0.congr (fun i _ => h3 _), A1 := h.A1.congr (fun i _ => h3 _), Ar := h.Ar.congr (fun i _ => h3 _) }
/-- Bytes that stand in the text. -/
theorem Sep.const {w : World} {R : List Asn} (S : Sep w R) (l : List UInt8) (fz : Nat × Nat) (n cap : Nat) (hn : l.length = n) : Sep (w.alloc (.cells (l.map byteV).toArray 5 fz)) (thA (.slice (some ⟨w.heap.size, 0, none⟩) n cap) l :: R) := by
  subst hn
  refine Sep.stepNew (L' := [thA _ _]) S ((Below.refl _ _).alloc (Nat.le_refl _) _) ⟨fun k => k = w.heap.size, fun k hk => by rw [hk]; exact Nat.le_refl _, .inr ⟨w.heap.size, 0, cap, _, _, rfl, heap_alloc_new w _, fun i hi => ?_, fun _ => Iff.rfl⟩, trivial⟩
  rw [Nat.zero_add]
  simp [List.getD, hi]

section
variable {w : World} {R : List Asn}
set_option maxRecDepth 20000 in
set_option maxHeartbeats 4000000 in
theorem shown4_sep (S : Sep w R) :
    Calls Try.prog 10 #[] w fun e w' => e = .returned (.bool true) ∧ Sep w' R := by
  have HS := Lib.hid S
  clear S
  have hcv := fun (w : World) (C : Array Value) (n c : Nat) => Go.Lib.run_convert_bytes_const (P := Try.prog) w 31 5 C n c Try.underlying31 Try.underlying5
  go_enter Try.func10, Try.ntmps10
  go_wp2_with fail
  refine (new_sep HS.out 8 _ rfl (by omega) (by omega)).mono ?_
  rintro e w1 ⟨p, rfl, S1⟩
  have HS1 := Lib.hid S1
  clear S1
  go_wp2_with fail
  refine (kFormat (n := 8) (z := 4) HS1.out (Same.refl _) rfl (by omega) (by omega)).mono ?_
  rintro e w2 ⟨sp, rfl, D2, I2, S2⟩
  have HS2 := Lib.hid S2
  have HI2 := Lib.hid I2
  clear S2 I2
  go_wp2_with fail
  refine (sLoad_none HS2.out rfl rfl).mono ?_
  rintro e w3 ⟨rfl, rfl⟩
  have S3 := (HS2.out.const [120] (1, 2) 1 1 rfl).dn2
  have HS3 := Lib.hid S3
  clear S3
  go_wp2_with fail
  refine (kSave HS3.out (holds_thA (some ⟨_, 0, none⟩) 1 [120]) HI2.out (by unfold lastN; omega) (by simp)).mono ?_
  rintro e w4 ⟨rfl, D4, s4, K4, S4⟩
  have S5 := (S4.const [121] (1, 2) 1 1 rfl).dn2
  have HS5 := Lib.hid S5
  have HK4 := Lib.hid K4
  clear S5 K4 S4
  go_wp2_with fail
  refine (kSave HS5.out (holds_thA (some ⟨_, 0, none⟩) 1 [121]) HK4.out.st (by unfold lastN; omega) (by simp)).mono ?_
  rintro e w6 ⟨rfl, D6, s6, K6, S6⟩
  have HS6 := Lib.hid (S6.drop.up2.drop.up1.drop)
  have HK6 := Lib.hid K6
  clear S6 K6 hcv
  go_wp2_with fail
  refine (crash_nil HS6.out).mono ?_
  rintro e w7 ⟨rfl, S7⟩
  have HS7 := Lib.hid S7
  clear S7
  go_wp2_with fail
  refine (start_sep HS7.out).mono ?_
  rintro e w8 ⟨rfl, S8⟩
  have HS8 := Lib.hid S8
  clear S8
  go_wp2_with fail
  refine (kOpen HS8.out HK6.out.st.crash (by unfold lastN; omega)).mono ?_
  rintro e w9 ⟨sq, rfl, D9, j0, j1, _, _, ⟨I9, -, -⟩, S9⟩
  have h9 : stoOf 4 j0 j1 (s6.is, s6.count, s6.thing) = ⟨4, 1, 2, false, [121], j0, j1⟩ := by
    have e1 : s4.is = 0 := HK4.out.is
    have e2 : s6.is = 1 := by rw [HK6.out.is, if_pos e1]
    have e3 : s6.count = 2 := by rw [HK6.out.count, HK4.out.count]; rfl
    rw [e2, e3, HK6.out.thing]; rfl
  rw [h9] at S9
  have HS9 := Lib.hid S9
  clear S9 I9 h9
  go_wp2_with fail
  refine (sLoad_sep HS9.out rfl (by show (0 : Int) ≤ 1; decide) (by simp)).mono ?_
  rintro e w10 ⟨g, cap, rfl, S10⟩
  have tr : (convert 31 9 (.slice g 1 cap)).run Try.prog w10 = _ := run_string S10.bytes.reads 1 cap rfl
  have HS10 := Lib.hid S10.drop
  clear S10
  go_wp2_with fail
  refine (sRoom_sep HS10.out (by show (4 : Nat) ≤ 4096; omega)).mono ?_
  rintro e w11 ⟨rfl, rfl⟩
  have HS11 := Lib.hid HS10.out.drop.drop
  go_wp2
  go_ret
  exact ⟨rfl, HS11.out⟩
end
end Go.Proofs.Ytnekelndcpmonaa
namespace Go.Proofs.Ytnekelndcpmonaa
open Go.RowKit
def NumsAt (k : IntKind) (w : World) (a : Option Addr) (l : List Int) : Prop := ∀ i, i < l.length → ∃ b o, a = some ⟨b, o, none⟩ ∧ w.cell? ⟨b, o + i, none⟩ = some (.int k (l.getD i 0))
end Go.Proofs.Ytnekelndcpmonaa
namespace Go.Proofs.Ytnekelndcpmonaa
open Go.RowKit
set_option linter.unusedVariables false

theorem holds_thA' (ba : Option Addr) (n bc : Nat) (b : List UInt8) (hn : b.length = n) : HoldsAt (thA (.slice ba n bc) b) ba n bc b := by
  subst hn
  exact holds_thA ba bc b
theorem conv_text {w : World} {R : List Asn} (S : Sep w R) (l : List UInt8) (n : Nat) (hn : l.length = n) : ∃ cap w', (convert 9 31 (.string ⟨l.toArray⟩)).run Try.prog w = .ok (.slice (some ⟨w.heap.size, 0, none⟩) n cap) w' ∧ Sep w' (thA (.slice (some ⟨w.heap.size, 0, none⟩) n cap) l :: R) := by
  have h := conv_string w ⟨l.toArray⟩
  have hs : (⟨l.toArray⟩ : ByteArray).size = n := by rw [← hn]; simp [ByteArray.size]
  rw [hs] at h
  refine ⟨_, _, h, ?_⟩
  have hl : (⟨l.toArray⟩ : ByteArray).data.toList = l := by simp
  have S2 := S.conv ⟨l.toArray⟩ (grownCap w n 0 5)
  rw [hl, hn] at S2
  exact S2
theorem ext_list (l : List UInt8) (i j : Nat) : (⟨l.toArray⟩ : ByteArray).extract i j = ⟨((l.take j).drop i).toArray⟩ := by
  apply ByteArray.ext
  rw [ByteArray.data_extract]
  apply Array.ext'
  simp [List.drop_take]
theorem slice_midx (x : ByteArray) (i j : Nat) (I J : Int) (hI : I = (i : Int)) (hJ : J = (j : Int)) (h : i ≤ j) (h2 : j ≤ x.size) (W : World) : (Instr.sliceAt 9 (.string x) (some (.int .i64 I)) (some (.int .i64 J)) none).run Try.prog W = .ok (.string (x.extract i j)) W := by
  subst hI hJ
  have a1 : (j : Int) ≤ (x.size : Int) := by omega
  have a2 : (i : Int) ≤ (j : Int) := by omega
  clear h h2
  go_simp
theorem slice_tox (x : ByteArray) (i : Nat) (I : Int) (hI : I = (i : Int)) (h : i ≤ x.size) (W : World) : (Instr.sliceAt 9 (.string x) (some (.int .i64 I)) none none).run Try.prog W = .ok (.string (x.extract i x.size)) W := by
  subst hI
  have a1 : (i : Int) ≤ (x.size : Int) := by omega
  clear h
  go_simp
/-- A store's sectors as a text: the first half, the second, the rest. -/
theorem cut3 (a0 a1 ar : List UInt8) (h : Nat) (l0 : a0.length = h) (l1 : a1.length = h) : (∀ W : World, (Instr.sliceAt 9 (.string ⟨(a0 ++ (a1 ++ ar)).toArray⟩) none (some (.int .i64 (h : Int))) none).run Try.prog W = .ok (.string ⟨a0.toArray⟩) W) ∧
    (∀ W : World, (Instr.sliceAt 9 (.string ⟨(a0 ++ (a1 ++ ar)).toArray⟩) (some (.int .i64 (h : Int))) (some (.int .i64 (2 * (h : Int)))) none).run Try.prog W = .ok (.string ⟨a1.toArray⟩) W) ∧
    (∀ W : World, (Instr.sliceAt 9 (.string ⟨(a0 ++ (a1 ++ ar)).toArray⟩) (some (.int .i64 (2 * (h : Int)))) none none).run Try.prog W = .ok (.string ⟨ar.toArray⟩) W) := by
  have hs : (⟨(a0 ++ (a1 ++ ar)).toArray⟩ : ByteArray).size = h + (h + ar.length) := by rw [← l0]; simp [ByteArray.size]; omega
  refine ⟨fun W => ?_, fun W => ?_, fun W => ?_⟩
  · rw [slice_str _ h (by omega), ext_list]
    rw [List.drop_zero, ← l0, List.take_left]
  · rw [slice_midx _ h (2 * h) _ _ rfl (by omega) (by omega) (by omega), ext_list]
    rw [List.drop_take, ← l0, List.drop_left, show 2 * a0.length - a0.length = a1.length by omega, List.take_left]
  · rw [slice_tox _ (2 * h) _ (by omega) (by omega), ext_list, hs]
    rw [List.take_of_length_le (by simp; omega), show 2 * h = a0.length + a1.length by omega, ← List.drop_drop, List.drop_left, List.drop_left]
theorem and_500 (x : Int) (M : Nat) (hM : 0 < M) : ∃ k s : Nat, Go.bits .and .i64 x 65535 = (k : Int) ∧ (k : Int) % (M : Int) = (s : Int) ∧ s < M ∧ (0 : Int) ≤ (k : Int) := by
  obtain ⟨k, h7, hk⟩ := and_i64 x 65535 (by omega)
  exact ⟨k, k % M, hk, by omega, Nat.mod_lt _ hM, by omega⟩
theorem low8 (k : Nat) (hk : k < 256) : ((UInt8.ofNat k).toNat : Int) = (k : Int) := by rw [UInt8.toNat_ofNat']; omega
end Go.Proofs.Ytnekelndcpmonaa
