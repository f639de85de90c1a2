/- What begin comes to. -/
import Derived.Test.YtgicpialopccpaaDiskB
namespace Go.Proofs.Ytgicpialopccpaa
open Go.RowKit

theorem wrap64_eq (n : Int) : wrap64 n = Dk.wrapI n := by unfold wrap64 Dk.wrapI; omega
/-- The answer of an operation that begins. -/
def beginE (D : Dk) : Int := if D.fell.down then 11 else 0

set_option maxHeartbeats 800000 in
theorem begin_calls (w : World) (p : Nat) (D : Dk) (M : Nat → Prop) (hD : DiskAt w p D M) :
    Calls Try.prog 26 #[.pointer (some ⟨p, 0, none⟩)] w fun e w' => e = .returned (.int .i64 (beginE D)) ∧ DiskAt w' p D.begun M ∧ Keeps M w w' := by
  obtain ⟨sb, scs, wv, dvs, av, h⟩ := id hD
  obtain ⟨c0, c1, c2, c3, c4, hf⟩ := h.cells
  have f3 := hf 3
  have hops := h.ops
  have hpl : p < w.heap.size := World.block_lt_of_cell? _ _ c0
  clear hf c0 c1
  cases hx : D.armed with
  | none =>
    have hav : av = .pointer none := by have := h.arm; rw [hx] at this; exact this
    subst hav
    have hfell : D.fell = D := by simp [Dk.fell, Dk.due, hx]
    cases hd : D.down with
    | true =>
      rw [hd] at c2
      have e1 : beginE D = 11 := by simp [beginE, hfell, hd]
      have e2 : D.begun = D := by simp [Dk.begun, hfell, hd]
      rw [e1, e2]
      clear e1 e2 hfell hx hops
      go_enter Try.func26, Try.ntmps26
      go_wp2
      go_ret
      exact ⟨rfl, hD, Keeps.refl _ _⟩
    | false =>
      rw [hd] at c2
      have e1 : beginE D = 0 := by simp [beginE, hfell, hd]
      have e2 : D.begun = { D with ops := Dk.wrapI (D.ops + 1) } := by simp [Dk.begun, hfell, hd, Dk.counted, hx]
      rw [e1, e2]
      clear e1 e2 hfell hops
      have Hx := Lib.hid hx
      clear hx
      go_enter Try.func26, Try.ntmps26
      go_wp2
      go_ret
      refine ⟨rfl, ⟨sb, scs, wv, dvs, .pointer none, h.atP (fun k _ hk => heap_set_other hk) (by simp) wv dvs _ _ ?_ rfl (.inl ⟨rfl, rfl, rfl⟩) (.inl ⟨rfl, rfl⟩) (Dk.wrapI_range _)⟩, (Keeps.refl _ _).setHot h.hp h.mp rfl _⟩
      rw [heap_set h.hp, ← wrap64_eq]; simp
  | some x =>
    obtain ⟨left, keep⟩ := x
    obtain ⟨ab, ka, kc, hav, hmab, hne, hab, hK, hlb, hkb⟩ := h.armAt left keep hx
    subst hav
    have a0 : w.cell? ⟨ab, 0, none⟩ = some (.int .i64 (left : Int)) := cell_of hab
    have a1 : w.cell? ⟨ab, 1, none⟩ = some (.slice ka keep.length kc) := cell_of hab
    have fa : w.frozen? ⟨ab, 0, none⟩ = false := free_of hab
    have habl : ab < w.heap.size := World.block_lt_of_cell? _ _ a0
    cases hd : D.down with
    | true =>
      rw [hd] at c2
      have hfell : D.fell = D := by unfold Dk.fell Dk.due; rw [hx, hd]; cases left <;> rfl
      have e1 : beginE D = 11 := by simp [beginE, hfell, hd]
      have e2 : D.begun = D := by simp [Dk.begun, hfell, hd]
      rw [e1, e2]
      clear e1 e2 hfell hx hops
      by_cases hl0 : left = 0
      · subst hl0
        go_enter Try.func26, Try.ntmps26
        go_wp2
        go_ret
        exact ⟨rfl, hD, Keeps.refl _ _⟩
      · have hl1 : ((left : Int) == 0) = false := by simp; omega
        go_enter Try.func26, Try.ntmps26
        go_wp2
        go_ret
        exact ⟨rfl, hD, Keeps.refl _ _⟩
    | false =>
      rw [hd] at c2
      by_cases hl0 : left = 0
      · subst hl0
        have hfell : D.fell = D.crash keep := by simp [Dk.fell, Dk.due, Dk.keeps, hx, hd]
        have e1 : beginE D = 11 := by simp [beginE, hfell, Dk.crash]
        have e2 : D.begun = D.crash keep := by simp [Dk.begun, hfell, Dk.crash]
        rw [e1, e2]
        clear e1 e2 hfell hx hops
        go_enter Try.func26, Try.ntmps26
        go_wp2_with fail
        refine (crash_calls _ p D M ka _ kc keep hD hK rfl hkb).mono ?_
        rintro e w1 ⟨rfl, hD1, hk1⟩
        obtain ⟨sb1, scs1, wv1, dvs1, av1, h1⟩ := id hD1
        obtain ⟨_, _, d2, _⟩ := h1.cells
        have d2' : w1.cell? ⟨p, 2, none⟩ = some (.bool true) := d2
        clear c2 c3 c4 a0 a1 d2
        go_wp2
        go_ret
        exact ⟨rfl, hD1, hk1⟩
      · obtain ⟨l1, rfl⟩ : ∃ l1, left = l1 + 1 := ⟨left - 1, by omega⟩
        have hfell : D.fell = D := by simp [Dk.fell, Dk.due, hx]
        have e1 : beginE D = 0 := by simp [beginE, hfell, hd]
        have e2 : D.begun = { D with ops := Dk.wrapI (D.ops + 1), armed := some (l1, keep) } := by simp [Dk.begun, hfell, hd, Dk.counted, hx]
        rw [e1, e2]
        have hl1 : (((l1 : Int) + 1) == 0) = false := by simp; omega
        have a0' : w.cell? ⟨ab, 0, none⟩ = some (.int .i64 ((l1 : Int) + 1)) := by rw [a0]; simp
        have hs1 := h.atP (w' := w.setCell ⟨p, 3, none⟩ (.int .i64 (wrap64 (D.ops + 1)))) (D' := { D with ops := Dk.wrapI (D.ops + 1) }) (fun k _ hk => heap_set_other hk) (by simp) wv dvs _ (by rw [heap_set h.hp, ← wrap64_eq]; simp) rfl (.inl ⟨rfl, rfl, rfl⟩) (.inl ⟨rfl, rfl⟩) (Dk.wrapI_range _)
        have hs2 := hs1.setLeft (l1 + 1) l1 keep hx (by omega)
        rw [hd] at hs2
        have hk2 : Keeps M w ((w.setCell ⟨p, 3, none⟩ (.int .i64 (wrap64 (D.ops + 1)))).setCell ⟨ab, 0, none⟩ (.int .i64 (l1 : Int))) := ((Keeps.refl _ _).setHot (p := ⟨p, 3, none⟩) h.hp h.mp rfl _).setHot (p := ⟨ab, 0, none⟩) hab hmab rfl _
        clear e1 e2 hfell hx hops a0 hs1
        go_enter Try.func26, Try.ntmps26
        go_wp2
        go_ret
        exact ⟨rfl, ⟨_, _, _, _, _, hs2⟩, hk2⟩
end Go.Proofs.Ytgicpialopccpaa
