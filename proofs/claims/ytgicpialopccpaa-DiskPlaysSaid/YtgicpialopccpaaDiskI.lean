/- What Arm comes to. -/
import Derived.Test.YtgicpialopccpaaDiskG
namespace Go.Proofs.Ytgicpialopccpaa
open Go.RowKit

/-- Another crash is armed. -/
theorem DiskIn.setArm {w w' : World} {p sb : Nat} {scs : List Value} {wv : Value} {dvs : List Value} {av : Value} {D : Dk} {M : Nat → Prop} (h : DiskIn w p sb scs wv dvs av D M)
    (hk : ∀ k, k < w.heap.size → k ≠ p → w'.heap[k]? = w.heap[k]?) (hsz : w.heap.size ≤ w'.heap.size) (av' : Value) (x : Option (Nat × List Bool))
    (hp' : w'.heap[p]? = some (.cells #[.slice (some ⟨sb, 0, none⟩) D.secs.length D.secs.length, wv, .bool D.down, .int .i64 D.ops, av'] 65 (0, 0))) (ha : ArmIn w' M av' x) : DiskIn w' p sb scs wv dvs av' { D with armed := x } M := by
  have lt : ∀ {k o}, w.heap[k]? = some o → k < w.heap.size := fun hh => (Array.getElem?_eq_some_iff.1 hh).1
  have hsp : sb ≠ p := fun e => by have := h.hs; rw [e, h.hp] at this; simp at this
  exact ⟨hp', h.mp, h.msb, by rw [hk sb (lt h.hs) hsp]; exact h.hs, h.sl, fun i hi => (h.sec i hi).imp id fun x => ⟨x.1, x.2.other h.hp (by decide) hk⟩,
    h.hw.other h.hp (by decide) hk, h.dl, fun i hi => (h.dat i hi).other h.hp (by decide) hk, ha, fun k hk' => h.new k (by omega), ⟨h.ok.secs, h.ok.waits⟩, h.len, h.ops⟩

set_option maxHeartbeats 800000 in
theorem arm_not (w : World) (p : Nat) (D : Dk) (M : Nat → Prop) (n : Int) (keep : List Bool) (hD : DiskAt w p D M) (hn : n < 0) (v : Value) :
    Calls Try.prog 12 #[.pointer (some ⟨p, 0, none⟩), .int .i64 n, v] w fun e w' => e = .returned (.tuple #[]) ∧ DiskAt w' p (D.arm n keep) M ∧ Keeps M w w' := by
  obtain ⟨sb, scs, wv, dvs, av, h⟩ := hD
  obtain ⟨c0, c1, c2, c3, c4, hf⟩ := h.cells
  have f4 := hf 4
  have e1 : D.arm n keep = { D with armed := none } := by unfold Dk.arm; rw [if_neg (by omega)]
  rw [e1]
  clear hf e1
  go_enter Try.func12, Try.ntmps12
  go_wp2
  go_end0
  exact ⟨rfl, ⟨_, _, _, _, _, h.setArm (w' := w.setCell ⟨p, 4, none⟩ (.pointer none)) (fun k _ hk => heap_set_other hk) (by simp) _ none (by rw [heap_set h.hp]; rfl) rfl⟩, (Keeps.refl _ _).setHot (p := ⟨p, 4, none⟩) h.hp h.mp rfl _⟩

set_option maxHeartbeats 800000 in
theorem arm_ok (w : World) (p : Nat) (D : Dk) (M : Nat → Prop) (n : Nat) (N : Int) (hN : N = (n : Int)) (keep : List Bool) (a : Option Addr) (kn kc : Nat) (hD : DiskAt w p D M) (hn : n ≤ 9223372036854775807) (hK : KBools w M a keep) (hl : keep.length = kn) (hkn : kn ≤ 1000000) (hnil : a = none → kc = 0) :
    Calls Try.prog 12 #[.pointer (some ⟨p, 0, none⟩), .int .i64 N, .slice a kn kc] w fun e w' => e = .returned (.tuple #[]) ∧ DiskAt w' p (D.arm (n : Int) keep) M ∧ Keeps M w w' := by
  subst hN
  obtain ⟨sb, scs, wv, dvs, av, h⟩ := hD
  obtain ⟨c0, c1, c2, c3, c4, hf⟩ := h.cells
  have f4 := hf 4
  have e1 : D.arm (n : Int) keep = { D with armed := some (n, keep) } := by unfold Dk.arm; rw [if_pos (by omega)]; rfl
  rw [e1]
  have h1 := h.setArm (w' := w.setCell ⟨p, 4, none⟩ (.pointer none)) (fun k _ hk => heap_set_other hk) (by simp) _ none (by rw [heap_set h.hp]; rfl) rfl
  have hk1 : Keeps M w (w.setCell ⟨p, 4, none⟩ (.pointer none)) := (Keeps.refl _ _).setHot (p := ⟨p, 4, none⟩) h.hp h.mp rfl _
  have hK1 := hK.keeps hk1
  have n0 : (0 : Int) ≤ (n : Int) := by omega
  clear hf e1 c0 c1 c2 c3
  go_enter Try.func12, Try.ntmps12
  go_wp2_with fail
  refine (cloneb_calls _ a kn kc keep hK1.1 hl hkn hnil).mono ?_
  rintro e w2 ⟨g, cap, rfl, hown, hb⟩
  have h2 := h1.frame (w' := w2) (fun k hk _ => hb.block k hk) hb.size
  have hk2 := hk1.trans (Keeps.of_below hb)
  obtain ⟨d0, d1, d2, d3, d4, df⟩ := h2.cells
  have f42 := df 4
  have hpl : p < w2.heap.size := World.block_lt_of_cell? _ _ d0
  clear df c4 f4
  go_wp2
  go_end0
  have hM : ∀ k, w2.heap.size ≤ k → M k := h2.new
  have hgM : ∀ g', (Value.slice g kn cap).ownBlock = some g' → M g' := fun g' hg' => h1.new g' (by
    rcases hown.2 with ⟨e, _⟩ | ⟨g2, _, _, e, hb2, _⟩
    · rw [e] at hg'; cases hg'
    · rw [e] at hg'; cases hg'; exact hb2)
  obtain ⟨w3, hw3⟩ : ∃ w3, w3 = w2.setCell ⟨p, 4, none⟩ (.pointer (some ⟨w2.heap.size, 0, none⟩)) := ⟨_, rfl⟩
  have hs3 : w3.heap.size = w2.heap.size := by rw [hw3]; simp
  have hk3 : Keeps M w2 w3 := by rw [hw3]; exact (Keeps.refl _ _).setHot (p := ⟨p, 4, none⟩) h2.hp h2.mp rfl _
  have hp3 : w3.heap[p]? = some (.cells #[.slice (some ⟨sb, 0, none⟩) D.secs.length D.secs.length, wv, .bool D.down, .int .i64 D.ops, .pointer (some ⟨w2.heap.size, 0, none⟩)] 65 (0, 0)) := by rw [hw3, heap_set h2.hp]; rfl
  have ho3 : ∀ k, k ≠ p → w3.heap[k]? = w2.heap[k]? := fun k hk => by rw [hw3]; exact heap_set_other hk
  rw [← hw3]
  have hal : ∀ k, k < w2.heap.size → k ≠ p → (w3.alloc (.cells #[.int .i64 (n : Int), .slice g kn cap] 68)).heap[k]? = w2.heap[k]? := fun k hk hkp => (Below.heap_alloc _ _ _ (by omega)).trans (ho3 k hkp)
  refine ⟨rfl, ⟨_, _, _, _, _, h2.setArm (w' := w3.alloc (.cells #[.int .i64 (n : Int), .slice g kn cap] 68)) hal (by simp [hs3]) (.pointer (some ⟨w2.heap.size, 0, none⟩)) (some (n, keep)) ?_ ?_⟩, ?_⟩
  · rw [Below.heap_alloc w3 _ p (by omega)]; exact hp3
  · refine ⟨w2.heap.size, .slice g kn cap, rfl, hM _ (Nat.le_refl _), ?_, ?_, hn⟩
    · rw [← hs3, heap_alloc_new]
    · rw [hl]
      have ho2 : OwnsM w2 M 4 1 (.slice g kn cap) kn (keep.map Value.bool) := ⟨⟨hown.1, hown.2.imp id fun ⟨g, cap, cur, e, _, r⟩ => ⟨g, cap, cur, e, Nat.zero_le _, r⟩⟩, hgM⟩
      exact ho2.other h2.hp (by decide) hal
  · exact (hk2.trans hk3).alloc _
end Go.Proofs.Ytgicpialopccpaa
