/- A store's two halves as sectors; what a Save that a crash may come into leaves of them. -/
import Derived.Test.YtnekelndcpmonaaStN
import Derived.Test.YtnekelndcpmonaaMg15
set_option linter.all false
namespace Go.Proofs.Ytnekelndcpmonaa
set_option linter.unusedVariables false
set_option linter.unusedSimpArgs false

theorem getD_set_same {α : Type} (l : List α) (i : Nat) (x d : α) (h : i < l.length) : (l.set i x).getD i d = x := by simp [List.getD, h]
theorem getD_set_other {α : Type} (l : List α) (i j : Nat) (x d : α) (h : i ≠ j) : (l.set i x).getD j d = l.getD j d := by simp [List.getD, List.getElem?_set_ne h]
/-- A half, by its sectors: its beginning, and a record or none. -/
structure HV (V : List (List UInt8)) (f m : Nat) (o : Option (List UInt8)) : Prop where
  m1 : 1 ≤ m
  head : V.getD f [] = pic m startN []
  body : match o with
    | none => numL ((V.getD (f + 1) []).take 8) ≤ m
    | some rec => rec.length ≤ 1008 ∧ V.getD (f + 1) [] = (pic (m + 1) rec.length rec).take 512 ∧ (¬ rec.length ≤ 496 → V.getD (f + 2) [] = (pic (m + 1) rec.length rec).drop 512)
theorem pic_num (m len : Nat) (b : List UInt8) (hm : m < 18446744073709551616) : numL (((pic m len b).take 512).take 8) = m := by
  rw [take_take_le _ (by omega), pic_eq]
  exact headL_num m len b _ hm
theorem HV.num {V : List (List UInt8)} {f m : Nat} {o : Option (List UInt8)} (h : HV V f m o) (hm : m + 1 ≤ lastN) : numL ((V.getD (f + 1) []).take 8) ≤ m + 1 := by
  have hb := h.body
  unfold lastN at hm
  cases o with
  | none => dsimp only at hb; omega
  | some rec =>
    obtain ⟨h1, h2, h3⟩ := hb
    rw [h2, pic_num (m + 1) _ _ (by omega)]
    exact Nat.le_refl _
theorem HV.agree {V V' : List (List UInt8)} {f m : Nat} {o : Option (List UInt8)} (h : HV V f m o) (e : ∀ i, i < 3 → V'.getD (f + i) [] = V.getD (f + i) []) : HV V' f m o := by
  have e0 := e 0 (by omega)
  have e1 := e 1 (by omega)
  have e2 := e 2 (by omega)
  rw [Nat.add_zero] at e0
  refine ⟨h.m1, by rw [e0]; exact h.head, ?_⟩
  have hb := h.body
  cases o with
  | none => dsimp only at hb ⊢; rw [e1]; exact hb
  | some rec => dsimp only at hb ⊢; rw [e1, e2]; exact hb
theorem HV.half {D : Dk} {V : List (List UInt8)} {f m z : Nat} {o : Option (List UInt8)} (h : HV V f m o) (hm : m + 1 ≤ lastN) (hw : D.waits = []) (hV : D.secs = V) (ok : ∀ s ∈ V, s.length = 512) (hz : 3 ≤ z) (hfz : f + z ≤ V.length) : HalfT (rowD D f z) m o := by
  have hn : ∀ i, D.now i = V.getD i [] := fun i => by rw [now_idle hw, hV]
  have hl : ∀ i, i < V.length → (V.getD i []).length = 512 := fun i hi => by
    have : V.getD i [] = V[i] := by simp [List.getD, hi]
    rw [this]
    exact ok _ (List.getElem_mem hi)
  obtain ⟨z', rfl⟩ : ∃ z', z = z' + 1 + 1 + 1 := ⟨z - 3, by omega⟩
  have r1 : rowD D f (z' + 1 + 1 + 1) = V.getD f [] ++ (V.getD (f + 1) [] ++ (V.getD (f + 2) [] ++ rowD D (f + 3) z')) := by
    rw [rowD_front, rowD_front, rowD_front, hn, hn, hn]
  have hb := h.body
  refine ⟨h.m1, hm, ?_⟩
  rw [r1, h.head]
  cases o with
  | none =>
    dsimp only at hb
    refine ⟨_, rfl, one_num ?_⟩
    rw [List.take_append_of_le_length (by rw [hl (f + 1) (by omega)]; omega)]
    omega
  | some rec =>
    obtain ⟨b1, b2, b3⟩ := hb
    refine ⟨by omega, ?_⟩
    have hpl := pic_len (m + 1) rec.length rec
    by_cases h4 : rec.length ≤ 496
    · refine ⟨V.getD (f + 2) [] ++ rowD D (f + 3) z', ?_⟩
      rw [b2, List.take_of_length_le (by omega)]
    · refine ⟨rowD D (f + 3) z', ?_⟩
      rw [b2, b3 h4, ← List.append_assoc (List.take _ _), List.take_append_drop]
section
variable {V : List (List UInt8)} {f M : Nat} {rec : List UInt8}
theorem vec1_len : (vec1 V f M).length = V.length := by simp [vec1]
theorem vec2_len : (vec2 V f M rec).length = V.length := by unfold vec2 sec2; split <;> simp [vec1]
theorem vec3_len : (vec3 V f M rec).length = V.length := by unfold vec3; rw [List.length_set, vec2_len]
theorem set_mem {l : List (List UInt8)} {i : Nat} {x : List UInt8} (h : ∀ s ∈ l, s.length = 512) (hx : x.length = 512) : ∀ s ∈ l.set i x, s.length = 512 := fun s hs => by
  rcases List.mem_or_eq_of_mem_set hs with h2 | h2
  · exact h s h2
  · rw [h2]; exact hx
theorem vec1_ok (h : ∀ s ∈ V, s.length = 512) : ∀ s ∈ vec1 V f M, s.length = 512 := set_mem h (begin_len M)
theorem vec2_ok (h : ∀ s ∈ V, s.length = 512) (hr : rec.length ≤ 1008) : ∀ s ∈ vec2 V f M rec, s.length = 512 := by
  unfold vec2 sec2
  split
  · exact vec1_ok h
  · exact set_mem (vec1_ok h) (by rw [List.length_drop, pic_len]; omega)
theorem vec3_ok (h : ∀ s ∈ V, s.length = 512) (hr : rec.length ≤ 1008) : ∀ s ∈ vec3 V f M rec, s.length = 512 := set_mem (vec2_ok h hr) (by rw [List.length_take, pic_len]; omega)
theorem vec1_other (i : Nat) (hi : i < f ∨ f + 3 ≤ i) : (vec1 V f M).getD i [] = V.getD i [] := getD_set_other _ _ _ _ _ (by omega)
theorem vec2_other (i : Nat) (hi : i < f ∨ f + 3 ≤ i) : (vec2 V f M rec).getD i [] = V.getD i [] := by
  unfold vec2 sec2
  split
  · exact vec1_other i hi
  · rw [getD_set_other _ _ _ _ _ (by omega)]; exact vec1_other i hi
theorem vec3_other (i : Nat) (hi : i < f ∨ f + 3 ≤ i) : (vec3 V f M rec).getD i [] = V.getD i [] := by
  unfold vec3
  rw [getD_set_other _ _ _ _ _ (by omega)]
  exact vec2_other i hi
theorem vec1_half {m : Nat} {o : Option (List UInt8)} (h : HV V f m o) (hm : m + 1 ≤ M) (hM : M ≤ lastN) (hf : f + 3 ≤ V.length) : HV (vec1 V f M) f M none := by
  refine ⟨by omega, getD_set_same _ _ _ _ (by omega), ?_⟩
  have e : (vec1 V f M).getD (f + 1) [] = V.getD (f + 1) [] := getD_set_other _ _ _ _ _ (by omega)
  dsimp only
  rw [e]
  exact Nat.le_trans (h.num (by omega)) hm
theorem vec2_half {m : Nat} {o : Option (List UInt8)} (h : HV V f m o) (hm : m + 1 ≤ M) (hM : M ≤ lastN) (hf : f + 3 ≤ V.length) : HV (vec2 V f M rec) f M none := by
  have h1 := vec1_half h hm hM hf
  unfold vec2 sec2
  split
  · exact h1
  · refine ⟨h1.m1, by rw [getD_set_other _ _ _ _ _ (by omega)]; exact h1.head, ?_⟩
    dsimp only
    rw [getD_set_other _ _ _ _ _ (by omega)]
    exact h1.body
theorem vec3_half {m : Nat} {o : Option (List UInt8)} (h : HV V f m o) (hm : m + 1 ≤ M) (hM : M ≤ lastN) (hf : f + 3 ≤ V.length) (hr : rec.length ≤ 1008) : HV (vec3 V f M rec) f M (some rec) := by
  have h2 := vec2_half (rec := rec) h hm hM hf
  refine ⟨h2.m1, ?_, hr, ?_, fun h4 => ?_⟩
  · unfold vec3
    rw [getD_set_other _ _ _ _ _ (by omega)]
    exact h2.head
  · exact getD_set_same _ _ _ _ (by rw [vec2_len]; omega)
  · unfold vec3
    rw [getD_set_other _ _ _ _ _ (by omega)]
    unfold vec2 sec2
    rw [if_neg h4]
    exact getD_set_same _ _ _ _ (by rw [vec1_len]; omega)
end
theorem kept_drop1 {o0 o1 : Option (Nat × List UInt8)} (h : (kept o0 o1).1 = 0) : kept o0 none = kept o0 o1 := by
  cases o0 <;> cases o1
  · cases h
  · cases h
  · rfl
  · rename_i x y
    by_cases hlt : x.1 < y.1
    · have e : kept (some x) (some y) = (1, y.1, y.2) := if_pos hlt
      rw [e] at h; cases h
    · exact (if_neg hlt : kept (some x) (some y) = (0, x.1, x.2)).symm
theorem kept_drop0 {o0 o1 : Option (Nat × List UInt8)} (h : (kept o0 o1).1 ≠ 0) : kept none o1 = kept o0 o1 := by
  cases o0 <;> cases o1
  · rfl
  · rfl
  · exact absurd rfl h
  · rename_i x y
    by_cases hlt : x.1 < y.1
    · exact (if_pos hlt : kept (some x) (some y) = (1, y.1, y.2)).symm
    · have e : kept (some x) (some y) = (0, x.1, x.2) := if_neg hlt
      rw [e] at h; exact absurd rfl h

/-! ### A store's disk, by its sectors -/
structure CrI (V : List (List UInt8)) (n z b : Nat) (o0 o1 : Option (Nat × List UInt8)) (m0 m1 : Nat) : Prop where
  len : V.length = n
  z3 : 3 ≤ z
  zn : z = n / 2
  nb : n ≤ 100
  ok : ∀ s ∈ V, s.length = 512
  h0 : HV V 0 m0 (optRec o0)
  h1 : HV V z m1 (optRec o1)
  b0 : m0 ≤ b
  b1 : m1 ≤ b
  c0 : ∀ x, o0 = some x → x.1 ≤ b ∧ x.2.length ≤ 700
  c1 : ∀ x, o1 = some x → x.1 ≤ b ∧ x.2.length ≤ 700
structure CrS (s : Sto) (z b m0 m1 : Nat) (o0 o1 : Option (Nat × List UInt8)) : Prop where
  size : s.size = z
  broken : s.broken = false
  j0 : ∃ u x, s.j0 = ⟨0, z, u, x, false⟩ ∧ m0 + 1 ≤ x ∧ x ≤ b
  j1 : ∃ u x, s.j1 = ⟨z, z, u, x, false⟩ ∧ m1 + 1 ≤ x ∧ x ≤ b
  kept : (s.is, s.count, s.thing) = Proofs.Ytnekelndcpmonaa.kept o0 o1
theorem CrI.mono {V : List (List UInt8)} {n z b b' m0 m1 : Nat} {o0 o1 : Option (Nat × List UInt8)} (h : CrI V n z b o0 o1 m0 m1) (hb : b ≤ b') : CrI V n z b' o0 o1 m0 m1 :=
  { h with b0 := Nat.le_trans h.b0 hb, b1 := Nat.le_trans h.b1 hb, c0 := fun x e => ⟨Nat.le_trans (h.c0 x e).1 hb, (h.c0 x e).2⟩, c1 := fun x e => ⟨Nat.le_trans (h.c1 x e).1 hb, (h.c1 x e).2⟩ }
theorem kept_len {o0 o1 : Option (Nat × List UInt8)} {k : Nat} (h0 : ∀ x, o0 = some x → x.2.length ≤ k) (h1 : ∀ x, o1 = some x → x.2.length ≤ k) : (kept o0 o1).2.2.length ≤ k := by
  cases o0 <;> cases o1
  · exact Nat.zero_le _
  · exact h1 _ rfl
  · exact h0 _ rfl
  · rename_i x y
    by_cases hlt : x.1 < y.1
    · have e : kept (some x) (some y) = (1, y.1, y.2) := if_pos hlt
      rw [e]; exact h1 _ rfl
    · have e : kept (some x) (some y) = (0, x.1, x.2) := if_neg hlt
      rw [e]; exact h0 _ rfl
theorem cr_open {D : Dk} {V : List (List UInt8)} {n z b m0 m1 : Nat} {o0 o1 : Option (Nat × List UInt8)} (h : CrI V n z b o0 o1 m0 m1) (hi : Idle D V) (ha : D.armed = none) (hb : b + 1 ≤ lastN) :
    ∃ D' j0 j1, sopnJ D z = .ok D' j0 j1 (kept o0 o1) ∧ Idle D' V ∧ D'.armed = none ∧ CrS (stoOf z j0 j1 (kept o0 o1)) z (b + 100) m0 m1 o0 o1 := by
  have hz3 := h.z3
  have hzn := h.zn
  have hnb := h.nb
  have hb0 := h.b0
  have hb1 := h.b1
  have c : Calm D n 0 := ⟨by rw [hi.secs]; exact h.len, by rw [hi.waits]; exact Nat.le_refl _, hi.down, ha⟩
  have ok : D.Ok := ⟨by rw [hi.secs]; exact h.ok, fun x hx => by rw [hi.waits] at hx; cases hx⟩
  have A0 := Area.of ok 0 z (by rw [c.len]; omega)
  have A1 := Area.of ok z z (by rw [c.len]; omega)
  have H0 := h.h0.half (z := z) (by omega) hi.waits hi.secs h.ok hz3 (by rw [h.len]; omega)
  have H1 := h.h1.half (z := z) (by omega) hi.waits hi.secs h.ok hz3 (by rw [h.len]; omega)
  obtain ⟨D', u0, n0, u1, n1, ho⟩ := sopn_calm c A0 A1 H0 H1 (by omega) (fun x e => by have := (h.c0 x e).1; omega) (fun x e => by have := (h.c1 x e).1; omega)
  have p0 := ho.n0
  have p1 := ho.n1
  refine ⟨D', _, _, ho.eq, ⟨by rw [ho.same.down]; exact hi.down, by rw [ho.same.waits]; exact hi.waits, by rw [ho.same.secs]; exact hi.secs⟩, by rw [ho.same.armed]; exact ha, rfl, rfl, ⟨u0, n0, rfl, by omega, by omega⟩, ⟨u1, n1, rfl, by omega, by omega⟩, rfl⟩
end Go.Proofs.Ytnekelndcpmonaa
