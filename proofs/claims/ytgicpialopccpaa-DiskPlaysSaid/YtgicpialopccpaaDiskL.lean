/- shown: the small case. -/
import Derived.Test.YtgicpialopccpaaDiskS
namespace Go.Proofs.Ytgicpialopccpaa
open Go.RowKit

def sh0 : Dk := Dk.new 2
def sh1 : Dk := sh0.write 0 (full 1)
def sh2 : Dk := sh1.write 0 (full 2)
def sh3 : Dk := sh2.begun
def sh4 : Dk := sh3.crash [true]
def sh5 : Dk := sh4.begun
def sh6 : Dk := sh5.start
def sh7 : Dk := sh6.begun
theorem sh_facts : rdE sh0 = 0 ∧ rdE sh1 = 0 ∧ rdE sh2 = 0 ∧ sh2.fell.down = false ∧ rdE sh4 = 11 ∧ sh4.fell.down = true ∧ startE sh5 = 0 ∧ rdE sh6 = 0 ∧ sh6.fell.down = false ∧ sh7.ops = 4 ∧ sh7.secs.length = 2 := ⟨rfl, rfl, rfl, rfl, rfl, rfl, rfl, rfl, rfl, rfl, rfl⟩
theorem sh_now : sh3.now 0 = full 2 ∧ sh7.now 0 = full 1 := ⟨rfl, rfl⟩
theorem sh_small : sh0.fell.waits.length ≤ 100000 ∧ sh1.fell.waits.length ≤ 100000 ∧ 0 < sh0.secs.length ∧ 0 < sh1.secs.length ∧ 0 < sh2.secs.length ∧ 0 < sh4.secs.length ∧ 0 < sh6.secs.length := by decide
theorem rep_at (c : UInt8) (n : Nat) (h : 7 < n) : ((List.replicate n c).map byteV).toArray[7]? = some (.int .u8 (c.toNat : Int)) := by simp [h, byteV]
theorem full_at (c : UInt8) : ((full c).map byteV).toArray[7]? = some (.int .u8 (c.toNat : Int)) := rep_at c 512 (by omega)

set_option maxRecDepth 20000 in
set_option maxHeartbeats 1600000 in
theorem shown_aux (w : World) (d0 d1 d2 d3 d4 d5 d6 d7 : Dk) (x1 x2 : List UInt8) (hx1 : full 1 = x1) (hx2 : full 2 = x2) (e0 : Dk.new 2 = d0) (e1 : d0.write 0 x1 = d1) (e2 : d1.write 0 x2 = d2) (e3 : d2.begun = d3) (e4 : d3.crash [true] = d4) (e5 : d4.begun = d5) (e6 : d5.start = d6) (e7 : d6.begun = d7)
    (f0 : rdE d0 = 0) (f1 : rdE d1 = 0) (f2 : rdE d2 = 0) (f2d : d2.fell.down = false) (f4 : rdE d4 = 11) (f4d : d4.fell.down = true) (f5 : startE d5 = 0) (f6 : rdE d6 = 0) (f6d : d6.fell.down = false) (f7 : d7.ops = 4) (f7l : d7.secs.length = 2)
    (n3 : d3.now 0 = x2) (n7 : d7.now 0 = x1) (s0 : d0.fell.waits.length ≤ 100000) (s1 : d1.fell.waits.length ≤ 100000) (l0 : 0 < d0.secs.length) (l1 : 0 < d1.secs.length) (l2 : 0 < d2.secs.length) (l4 : 0 < d4.secs.length) (l6 : 0 < d6.secs.length)
    (hx17 : ((x1.map byteV).toArray)[7]? = some (.int .u8 1)) (hx27 : ((x2.map byteV).toArray)[7]? = some (.int .u8 2)) :
    Calls Try.prog 10 #[] w fun e w' => e = .returned (.bool true) ∧ Below w.heap.size w w' := by
  obtain ⟨M, hM⟩ : ∃ M : Nat → Prop, M = fun k => w.heap.size ≤ k := ⟨_, rfl⟩
  have hMn : ∀ k, w.heap.size ≤ k → M k := fun k hk => by rw [hM]; exact hk
  have hMd : ∀ k, M k → w.heap.size ≤ k := fun k hk => by rw [hM] at hk; exact hk
  obtain ⟨p, hp⟩ : ∃ p, p = w.heap.size + 1 := ⟨_, rfl⟩
  go_enter Try.func10, Try.ntmps10
  go_wp2_with fail
  refine (new_calls 2 2 rfl w M hMn (by omega) (by omega)).mono ?_
  rw [← hp, e0]
  rintro e w1 ⟨rfl, h1, hb1, -⟩
  have k1 : Keeps M w w1 := Keeps.of_below hb1
  clear hM hp hb1 hMn
  go_wp2_with fail
  refine (sector_calls w1 1 1 rfl).mono ?_
  rw [hx1]
  rintro e w2 ⟨rfl, o2, hb2⟩
  have h2 := h1.grow hb2
  have k2 := k1.trans (Keeps.of_below hb2)
  go_wp2_with fail
  refine (write_calls w2 p d0 M 0 0 rfl x1 _ _ 512 h2 l0 o2 s0).mono ?_
  rw [f0, e1]
  rintro e w3 ⟨rfl, h3, k3⟩
  have k3 := k2.trans k3
  clear h1 h2 o2 k1 k2 f0 s0 l0 hb2
  go_wp2_with fail
  refine (sector_calls w3 2 2 rfl).mono ?_
  rw [hx2]
  rintro e w4 ⟨rfl, o4, hb4⟩
  have h4 := h3.grow hb4
  have k4 := k3.trans (Keeps.of_below hb4)
  go_wp2_with fail
  refine (write_calls w4 p d1 M 0 0 rfl x2 _ _ 512 h4 l1 o4 s1).mono ?_
  rw [f1, e2]
  rintro e w5 ⟨rfl, h5, k5⟩
  have k5 := k4.trans k5
  clear h3 h4 o4 k3 k4 f1 s1 l1 hb4
  go_wp2_with fail
  refine (read_calls w5 p d2 M 0 0 rfl h5 l2).mono ?_
  rw [f2, e3, n3]
  rintro e w6 ⟨v, rfl, h6, k6, ⟨e6, -⟩ | ⟨-, B, hB, hBl, rfl, hc6, h6'⟩⟩
  · rw [f2d] at e6; cases e6
  have k6 := k5.trans k6
  have cB : w6.cell? ⟨B, 7, none⟩ = some (.int .u8 2) := by rw [cell_of hc6]; exact hx27
  have c6 := Lib.hid hc6
  have hx27' := hx27
  clear h5 k5 f2 f2d l2 hB hc6 h6' e3 n3 hx27
  go_wp2_with fail
  obtain ⟨w7, hw7⟩ : ∃ w7, w7 = w6.alloc (.cells #[.bool true] 4) := ⟨_, rfl⟩
  rw [← hw7]
  have hb7 : Below w6.heap.size w6 w7 := by rw [hw7]; exact (Below.refl _ _).alloc (Nat.le_refl _) _
  have hK : KBools w7 M (some ⟨w6.heap.size, 0, none⟩) [true] := by
    have hc : w7.heap[w6.heap.size]? = some (.cells #[.bool true] 4 (0, 0)) := by rw [hw7]; exact heap_alloc_new _ _
    refine ⟨fun i hi => ⟨_, _, rfl, ?_⟩, fun b o e _ _ => ?_⟩
    · have : i = 0 := by simpa using hi
      subst this
      rw [cell_of hc]; rfl
    · cases e
      intro c t f e'
      rw [hc] at e'; cases e'; rfl
  refine (crash_calls w7 p d3 M _ 1 1 [true] (h6.grow hb7) hK rfl (by omega)).mono ?_
  rw [e4]
  rintro e w8 ⟨rfl, h8, k8⟩
  have k78 := (Keeps.of_below hb7).trans k8
  have c8 := Lib.hid (k78.cool c6.out rfl)
  have k8 := k6.trans k78
  clear h6 k6 k78 hK hb7 hw7 cB c6 e4
  go_wp2_with fail
  refine (read_calls w8 p d4 M 0 0 rfl h8 l4).mono ?_
  rw [f4, e5]
  rintro e w9 ⟨v, rfl, h9, k9, ⟨-, rfl⟩ | ⟨e6, -⟩⟩
  rotate_left
  · rw [f4d] at e6; cases e6
  have c9 := Lib.hid (k9.cool c8.out rfl)
  have k9 := k8.trans k9
  clear h8 k8 c8 f4 f4d l4 e5
  go_wp2_with fail
  refine (start_calls w9 p d5 M h9).mono ?_
  rw [f5, e6]
  rintro e w10 ⟨rfl, h10, k10⟩
  have c10 := Lib.hid (k10.cool c9.out rfl)
  have k10 := k9.trans k10
  clear h9 k9 c9 f5 e6
  go_wp2_with fail
  refine (read_calls w10 p d6 M 0 0 rfl h10 l6).mono ?_
  rw [f6, e7, n7]
  rintro e w11 ⟨v, rfl, h11, k11, ⟨e6, -⟩ | ⟨-, B2, hB2, hBl2, rfl, hc11, h11'⟩⟩
  · rw [f6d] at e6; cases e6
  have hc11b := k11.cool c10.out rfl
  have k11 := k10.trans k11
  have cB : w11.cell? ⟨B, 7, none⟩ = some (.int .u8 2) := by rw [cell_of hc11b]; exact hx27'
  have cB2 : w11.cell? ⟨B2, 7, none⟩ = some (.int .u8 1) := by rw [cell_of hc11]; exact hx17
  clear h10 k10 c10 f6 f6d l6 e7 n7 hx17 hc11 hc11b hx27' h11' hB2
  have hfin := k11.below hMd (Nat.le_refl _)
  go_wp2_with fail
  refine (ops_calls w11 p d7 M h11).mono ?_
  rw [f7]
  rintro e w12 ⟨rfl, rfl⟩
  go_wp2_with fail
  refine (sectors_calls w11 p d7 M h11).mono ?_
  rw [f7l]
  rintro e w12 ⟨rfl, rfl⟩
  go_wp2
  go_ret
  exact ⟨rfl, hfin⟩

theorem shown_calls (w : World) : Calls Try.prog 10 #[] w fun e w' => e = .returned (.bool true) ∧ Below w.heap.size w w' := by
  obtain ⟨f0, f1, f2, f2d, f4, f4d, f5, f6, f6d, f7, f7l⟩ := sh_facts
  obtain ⟨s0, s1, l0, l1, l2, l4, l6⟩ := sh_small
  exact shown_aux w sh0 sh1 sh2 sh3 sh4 sh5 sh6 sh7 (full 1) (full 2) rfl rfl rfl rfl rfl rfl rfl rfl rfl rfl f0 f1 f2 f2d f4 f4d f5 f6 f6d f7 f7l sh_now.1 sh_now.2 s0 s1 l0 l1 l2 l4 l6 (full_at 1) (full_at 2)
end Go.Proofs.Ytgicpialopccpaa
