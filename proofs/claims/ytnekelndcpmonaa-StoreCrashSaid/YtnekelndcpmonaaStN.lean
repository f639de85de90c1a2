/- A Save that a crash may come into, as plain data. -/
import Derived.Test.YtnekelndcpmonaaMg15
set_option linter.all false
namespace Go.Proofs.Ytnekelndcpmonaa
set_option linter.unusedVariables false
set_option linter.unusedSimpArgs false

/-- Nothing waits, and the disk is up; a crash may be armed. -/
structure Idle (D : Dk) (V : List (List UInt8)) : Prop where
  down : D.down = false
  waits : D.waits = []
  secs : D.secs = V
structure Dead (D : Dk) (V : List (List UInt8)) : Prop where
  down : D.down = true
  waits : D.waits = []
  secs : D.secs = V
  armed : D.armed = none
structure Wt (D : Dk) (V : List (List UInt8)) (i : Nat) (b : List UInt8) : Prop where
  down : D.down = false
  waits : D.waits = [(i, b)]
  secs : D.secs = V
section
variable {D : Dk} {V : List (List UInt8)} {i : Nat} {b : List UInt8}
theorem Idle.fell (h : Idle D V) : (D.fell.down = false ∧ Idle D.fell V) ∨ (D.fell.down = true ∧ Dead D.fell V) := by
  unfold Dk.fell
  split
  · exact .inr ⟨rfl, rfl, rfl, by show Dk.keepFrom _ 0 D.waits D.secs = V; rw [h.waits, h.secs]; rfl, rfl⟩
  · exact .inl ⟨h.down, h⟩
theorem Wt.fell (h : Wt D V i b) : (D.fell.down = false ∧ Wt D.fell V i b) ∨ (D.fell.down = true ∧ (Dead D.fell V ∨ Dead D.fell (V.set i b))) := by
  unfold Dk.fell
  split
  · refine .inr ⟨rfl, ?_⟩
    have e : (D.crash D.keeps).secs = if D.keeps.getD 0 false then V.set i b else V := by show Dk.keepFrom _ 0 D.waits D.secs = _; rw [h.waits, h.secs]; rfl
    split at e
    · exact .inr ⟨rfl, rfl, e, rfl⟩
    · exact .inl ⟨rfl, rfl, e, rfl⟩
  · exact .inl ⟨h.down, h⟩
theorem Idle.write (h : Idle D V) (i : Nat) (b : List UInt8) : (D.fell.down = false ∧ Wt (D.write i b) V i b) ∨ (D.fell.down = true ∧ Dead (D.write i b) V) := by
  unfold Dk.write
  rcases h.fell with ⟨e, g⟩ | ⟨e, g⟩
  · rw [if_neg (by rw [e]; decide)]
    exact .inl ⟨e, g.down, by show D.fell.waits ++ _ = _; rw [g.waits]; rfl, g.secs⟩
  · rw [if_pos e]
    exact .inr ⟨e, g⟩
theorem Wt.barrier (h : Wt D V i b) : (D.fell.down = false ∧ Idle D.barrier (V.set i b)) ∨ (D.fell.down = true ∧ (Dead D.barrier V ∨ Dead D.barrier (V.set i b))) := by
  unfold Dk.barrier
  rcases h.fell with ⟨e, g⟩ | ⟨e, g⟩
  · rw [if_neg (by rw [e]; decide)]
    exact .inl ⟨e, g.down, rfl, by show Dk.flush D.fell.waits D.fell.secs = _; rw [g.waits, g.secs]; rfl⟩
  · rw [if_pos e]
    exact .inr ⟨e, g⟩
/-- A sector of noughts behind it, or one record's. -/
theorem cr_put0 (h : Idle D V) (j : Jn) (p : List UInt8) (hp : p.length = 512) :
    (putJ D j p = (true, D.write (j.from_ + j.used) p, { j with used := j.used + 0 + 1, next := j.next + 1 }) ∧ Wt (D.write (j.from_ + j.used) p) V (j.from_ + j.used) p) ∨
    (putJ D j p = (false, D.write (j.from_ + j.used) p, j) ∧ Dead (D.write (j.from_ + j.used) p) V) := by
  have e0 : secsOf (p.drop 512) = [] := by rw [List.drop_of_length_le (by omega)]; rfl
  have e1 : p.take 512 = p := List.take_of_length_le (by omega)
  have hw : wrs D (j.from_ + j.used + 1) (secsOf (p.drop 512)) = (true, D) := by rw [e0]; rfl
  have hl : (secsOf (p.drop 512)).length = 0 := by rw [e0]; rfl
  rw [put_last hw (.inl hl), hl, e1]
  rcases h.write (j.from_ + j.used) p with ⟨e, g⟩ | ⟨e, g⟩
  · exact .inl ⟨if_neg (by show ¬ D.fell.down = true; rw [e]; decide), g⟩
  · exact .inr ⟨if_pos e, g⟩
theorem cr_put1 (h : Idle D V) (j : Jn) (p : List UInt8) (hp : p.length = 1024) :
    (∃ D3, putJ D j p = (true, D3, { j with used := j.used + 1 + 1, next := j.next + 1 }) ∧ Wt D3 (V.set (j.from_ + j.used + 1) (p.drop 512)) (j.from_ + j.used) (p.take 512)) ∨
    (∃ D3, putJ D j p = (false, D3, j) ∧ (Dead D3 V ∨ Dead D3 (V.set (j.from_ + j.used + 1) (p.drop 512)))) := by
  have e1 : (p.drop 512).length = 512 := by rw [List.length_drop]; omega
  have e0 : secsOf (p.drop 512) = [p.drop 512] := by
    unfold secsOf
    rw [e1]
    show [((p.drop 512).drop (512 * 0)).take 512] = _
    rw [Nat.mul_zero, List.drop_zero, List.take_of_length_le (by omega)]
  have hl : (secsOf (p.drop 512)).length = 1 := by rw [e0]; rfl
  rcases h.write (j.from_ + j.used + 1) (p.drop 512) with ⟨e, g⟩ | ⟨e, g⟩
  · have hw : wrs D (j.from_ + j.used + 1) (secsOf (p.drop 512)) = (true, D.write (j.from_ + j.used + 1) (p.drop 512)) := by
      rw [e0, wrs, if_neg (by rw [e]; decide)]
      rfl
    rcases g.barrier with ⟨e2, g2⟩ | ⟨e2, g2⟩
    · rw [put_last hw (.inr e2), hl]
      have em : midD 1 (D.write (j.from_ + j.used + 1) (p.drop 512)) = (D.write (j.from_ + j.used + 1) (p.drop 512)).barrier := rfl
      rw [em]
      rcases g2.write (j.from_ + j.used) (p.take 512) with ⟨e3, g3⟩ | ⟨e3, g3⟩
      · exact .inl ⟨_, if_neg (by rw [e3]; decide), g3⟩
      · exact .inr ⟨_, if_pos e3, .inr g3⟩
    · exact .inr ⟨_, put_bar hw (by rw [hl]; decide) e2, g2⟩
  · have hw : wrs D (j.from_ + j.used + 1) (secsOf (p.drop 512)) = (false, D.write (j.from_ + j.used + 1) (p.drop 512)) := by
      rw [e0, wrs, if_pos e]
    exact .inr ⟨_, put_fail hw, .inl g⟩
theorem cr_reset (h : Idle D V) (f z u M : Nat) (hM : M ≤ lastN) :
    (∃ D1, resetJ D ⟨f, z, u, M, false⟩ = (0, D1, jOf f z M []) ∧ Wt D1 V f (pic M startN [])) ∨ (∃ D1, resetJ D ⟨f, z, u, M, false⟩ = (11, D1, ⟨f, z, 0, M, true⟩) ∧ Dead D1 V) := by
  rw [reset_ok rfl (by show ¬ lastN < M; omega)]
  rcases cr_put0 h (⟨f, z, 0, M, false⟩ : Jn) (pic M startN []) (begin_len M) with ⟨e, g⟩ | ⟨e, g⟩
  · exact .inl ⟨_, by show doneJ (putJ D ⟨f, z, 0, M, false⟩ (pic M startN [])) = _; rw [e]; rfl, g⟩
  · exact .inr ⟨_, by show doneJ (putJ D ⟨f, z, 0, M, false⟩ (pic M startN [])) = _; rw [e]; rfl, g⟩
theorem cr_commit (h : Wt D V i b) (f z u M : Nat) :
    (∃ D1, commitJ D ⟨f, z, u, M, false⟩ = (0, D1, ⟨f, z, u, M, false⟩) ∧ Idle D1 (V.set i b)) ∨ (∃ D1, commitJ D ⟨f, z, u, M, false⟩ = (11, D1, ⟨f, z, u, M, true⟩) ∧ (Dead D1 V ∨ Dead D1 (V.set i b))) := by
  rw [commit_ok rfl]
  rcases h.barrier with ⟨e, g⟩ | ⟨e, g⟩
  · exact .inl ⟨_, by rw [e]; rfl, g⟩
  · exact .inr ⟨_, by rw [e]; rfl, g⟩
/-- The second sector of a record, where it has one. -/
def sec2 (V : List (List UInt8)) (f M : Nat) (rec : List UInt8) : List (List UInt8) := if rec.length ≤ 496 then V else V.set (f + 2) ((pic (M + 1) rec.length rec).drop 512)
theorem cr_append (h : Idle D V) (f z M : Nat) (rec : List UInt8) (hM : M + 1 ≤ lastN) (hr : rec.length ≤ 1008) (hz : 3 ≤ z) :
    (∃ D1, appendJ D (jOf f z M []) rec = (0, D1, jOf f z M [rec]) ∧ Wt D1 (sec2 V f M rec) (f + 1) ((pic (M + 1) rec.length rec).take 512)) ∨
    (∃ D1 j1, appendJ D (jOf f z M []) rec = (11, D1, j1) ∧ (Dead D1 V ∨ Dead D1 (sec2 V f M rec))) := by
  have hpl := pic_len (M + 1) rec.length rec
  have e0 : appendJ D (jOf f z M []) rec = doneJ (putJ D (jOf f z M []) (pic (M + 1) rec.length rec)) := append_ok rec rfl (by
    show ¬ (roomJ ⟨f, z, 1 + 0, M + 1 + 0, false⟩ < rec.length ∨ lastN < M + 1)
    unfold roomJ; dsimp only; omega)
  rw [e0]
  by_cases h1 : rec.length ≤ 496
  · have hp : (pic (M + 1) rec.length rec).length = 512 := by rw [hpl]; omega
    have es : sec2 V f M rec = V := if_pos h1
    have et : (pic (M + 1) rec.length rec).take 512 = pic (M + 1) rec.length rec := List.take_of_length_le (by omega)
    have ep : pages [rec] = 1 := by show (rec.length + 527) / 512 + 0 = 1; omega
    rw [es, et]
    rcases cr_put0 h (jOf f z M []) _ hp with ⟨e, g⟩ | ⟨e, g⟩
    · refine .inl ⟨_, ?_, g⟩
      rw [e]
      show ((0 : Int), _, _) = _
      simp only [jOf, ep]
      rfl
    · exact .inr ⟨_, _, by rw [e]; rfl, .inl g⟩
  · have hp : (pic (M + 1) rec.length rec).length = 1024 := by rw [hpl]; omega
    have es : sec2 V f M rec = V.set (f + 2) ((pic (M + 1) rec.length rec).drop 512) := if_neg h1
    have ep : pages [rec] = 2 := by show (rec.length + 527) / 512 + 0 = 2; omega
    rw [es]
    rcases cr_put1 h (jOf f z M []) _ hp with ⟨D3, e, g⟩ | ⟨D3, e, g⟩
    · refine .inl ⟨D3, ?_, g⟩
      rw [e]
      show ((0 : Int), _, _) = _
      simp only [jOf, ep]
      rfl
    · exact .inr ⟨D3, _, by rw [e]; rfl, g⟩

/-! ### The four steps -/
def vec1 (V : List (List UInt8)) (f M : Nat) : List (List UInt8) := V.set f (pic M startN [])
def vec2 (V : List (List UInt8)) (f M : Nat) (rec : List UInt8) : List (List UInt8) := sec2 (vec1 V f M) f M rec
def vec3 (V : List (List UInt8)) (f M : Nat) (rec : List UInt8) : List (List UInt8) := (vec2 V f M rec).set (f + 1) ((pic (M + 1) rec.length rec).take 512)
structure CrashC (D : Dk) (V : List (List UInt8)) (f z u M : Nat) (rec : List UInt8) : Prop where
  all : (∀ k, k ≤ 4 → (saveN D ⟨f, z, u, M, false⟩ rec k).1 = 0) → ∃ D4, saveN D ⟨f, z, u, M, false⟩ rec 4 = (0, D4, jOf f z M [rec]) ∧ Idle D4 (vec3 V f M rec)
  some_ : ∀ k, k < 4 → (∀ i, i ≤ k → (saveN D ⟨f, z, u, M, false⟩ rec i).1 = 0) → (saveN D ⟨f, z, u, M, false⟩ rec (k + 1)).1 ≠ 0 →
    ∃ V', (V' = V ∨ V' = vec1 V f M ∨ V' = vec2 V f M rec ∨ V' = vec3 V f M rec) ∧ Dead (saveN D ⟨f, z, u, M, false⟩ rec (k + 1)).2.1 V'
  mid : (saveN D ⟨f, z, u, M, false⟩ rec 2).2.2.size = z ∧ (saveN D ⟨f, z, u, M, false⟩ rec 2).2.2.used ≤ 1 ∧ (saveN D ⟨f, z, u, M, false⟩ rec 2).2.2.from_ = f ∧ (saveN D ⟨f, z, u, M, false⟩ rec 2).2.1.secs.length = V.length ∧ (saveN D ⟨f, z, u, M, false⟩ rec 2).2.1.waits = []
theorem cr_steps (h : Idle D V) (f z u M : Nat) (rec : List UInt8) (hM : M + 1 ≤ lastN) (hr : rec.length ≤ 1008) (hz : 3 ≤ z) : CrashC D V f z u M rec := by
  rcases cr_reset h f z u M (by omega) with ⟨D1, e1, g1⟩ | ⟨D1, e1, g1⟩
  · have n1 : saveN D ⟨f, z, u, M, false⟩ rec 1 = (0, D1, jOf f z M []) := e1
    rcases cr_commit g1 f z (1 + 0) (M + 1 + 0) with ⟨D2, e2, g2⟩ | ⟨D2, e2, g2⟩
    · have n2 : saveN D ⟨f, z, u, M, false⟩ rec 2 = (0, D2, jOf f z M []) := by rw [saveN_2, n1]; exact e2
      have hmid : (saveN D ⟨f, z, u, M, false⟩ rec 2).2.2.size = z ∧ (saveN D ⟨f, z, u, M, false⟩ rec 2).2.2.used ≤ 1 ∧ (saveN D ⟨f, z, u, M, false⟩ rec 2).2.2.from_ = f ∧ (saveN D ⟨f, z, u, M, false⟩ rec 2).2.1.secs.length = V.length ∧ (saveN D ⟨f, z, u, M, false⟩ rec 2).2.1.waits = [] := by
        rw [n2]
        exact ⟨rfl, Nat.le_refl _, rfl, by show D2.secs.length = _; rw [g2.secs, List.length_set], g2.waits⟩
      rcases cr_append g2 f z M rec hM hr hz with ⟨D3, e3, g3⟩ | ⟨D3, j3, e3, g3⟩
      · have n3 : saveN D ⟨f, z, u, M, false⟩ rec 3 = (0, D3, jOf f z M [rec]) := by rw [saveN_3, n2]; exact e3
        rcases cr_commit g3 f z (1 + pages [rec]) (M + 1 + 1) with ⟨D4, e4, g4⟩ | ⟨D4, e4, g4⟩
        · have n4 : saveN D ⟨f, z, u, M, false⟩ rec 4 = (0, D4, jOf f z M [rec]) := by rw [saveN_4, n3]; exact e4
          refine ⟨fun _ => ⟨D4, n4, g4⟩, fun k hk _ hx => ?_, hmid⟩
          have hc : k = 0 ∨ k = 1 ∨ k = 2 ∨ k = 3 := by omega
          rcases hc with rfl | rfl | rfl | rfl
          · exact absurd (by rw [n1]) hx
          · exact absurd (by rw [n2]) hx
          · exact absurd (by rw [n3]) hx
          · exact absurd (by rw [n4]) hx
        · have n4 : saveN D ⟨f, z, u, M, false⟩ rec 4 = (11, D4, ⟨f, z, 1 + pages [rec], M + 1 + 1, true⟩) := by rw [saveN_4, n3]; exact e4
          refine ⟨fun hx => ?_, fun k hk _ hx => ?_, hmid⟩
          · have := hx 4 (by omega); rw [n4] at this; cases this
          have hc : k = 0 ∨ k = 1 ∨ k = 2 ∨ k = 3 := by omega
          rcases hc with rfl | rfl | rfl | rfl
          · exact absurd (by rw [n1]) hx
          · exact absurd (by rw [n2]) hx
          · exact absurd (by rw [n3]) hx
          · rw [n4]
            rcases g4 with g4 | g4
            · exact ⟨_, .inr (.inr (.inl rfl)), g4⟩
            · exact ⟨_, .inr (.inr (.inr rfl)), g4⟩
      · have n3 : saveN D ⟨f, z, u, M, false⟩ rec 3 = (11, D3, j3) := by rw [saveN_3, n2]; exact e3
        refine ⟨fun hx => ?_, fun k hk hb hx => ?_, hmid⟩
        · have := hx 3 (by omega); rw [n3] at this; cases this
        have hc : k = 0 ∨ k = 1 ∨ k = 2 ∨ k = 3 := by omega
        rcases hc with rfl | rfl | rfl | rfl
        · exact absurd (by rw [n1]) hx
        · exact absurd (by rw [n2]) hx
        · rw [n3]
          rcases g3 with g3 | g3
          · exact ⟨_, .inr (.inl rfl), g3⟩
          · exact ⟨_, .inr (.inr (.inl rfl)), g3⟩
        · have := hb 3 (by omega); rw [n3] at this; cases this
    · have n2 : saveN D ⟨f, z, u, M, false⟩ rec 2 = (11, D2, ⟨f, z, 1 + 0, M + 1 + 0, true⟩) := by rw [saveN_2, n1]; exact e2
      refine ⟨fun hx => ?_, fun k hk hb hx => ?_, ?_⟩
      · have := hx 2 (by omega); rw [n2] at this; cases this
      · have hc : k = 0 ∨ k = 1 ∨ k = 2 ∨ k = 3 := by omega
        rcases hc with rfl | rfl | rfl | rfl
        · exact absurd (by rw [n1]) hx
        · rw [n2]
          rcases g2 with g2 | g2
          · exact ⟨_, .inl rfl, g2⟩
          · exact ⟨_, .inr (.inl rfl), g2⟩
        · have := hb 2 (by omega); rw [n2] at this; cases this
        · have := hb 2 (by omega); rw [n2] at this; cases this
      · rw [n2]
        refine ⟨rfl, Nat.le_refl _, rfl, ?_, ?_⟩
        · show D2.secs.length = _
          rcases g2 with g2 | g2
          · rw [g2.secs]
          · rw [g2.secs, List.length_set]
        · rcases g2 with g2 | g2
          · exact g2.waits
          · exact g2.waits
  · have n1 : saveN D ⟨f, z, u, M, false⟩ rec 1 = (11, D1, ⟨f, z, 0, M, true⟩) := e1
    have n2 : saveN D ⟨f, z, u, M, false⟩ rec 2 = (11, D1, ⟨f, z, 0, M, true⟩) := by rw [saveN_2, n1]; exact commit_broken rfl
    refine ⟨fun hx => ?_, fun k hk hb hx => ?_, ?_⟩
    · have := hx 1 (by omega); rw [n1] at this; cases this
    · have hc : k = 0 ∨ 1 ≤ k := by omega
      rcases hc with rfl | hc
      · rw [n1]
        exact ⟨_, .inl rfl, g1⟩
      · have := hb 1 hc; rw [n1] at this; cases this
    · rw [n2]
      exact ⟨rfl, Nat.zero_le _, rfl, by show D1.secs.length = _; rw [g1.secs], g1.waits⟩
end
end Go.Proofs.Ytnekelndcpmonaa
