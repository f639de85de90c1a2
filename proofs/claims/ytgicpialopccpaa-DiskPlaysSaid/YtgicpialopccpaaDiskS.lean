/- What sector comes to. -/
import Derived.Test.YtgicpialopccpaaDiskK
namespace Go.Proofs.Ytgicpialopccpaa
open Go.RowKit

set_option maxRecDepth 20000 in
set_option maxHeartbeats 800000 in
theorem sector_calls (w : World) (c : UInt8) (C : Int) (hC : C = (c.toNat : Int)) :
    Calls Try.prog 17 #[.int .u8 C] w fun e w' => e = .returned (.slice (some ⟨w.heap.size, 0, none⟩) 512 512) ∧ OwnsB w' w.heap.size (.slice (some ⟨w.heap.size, 0, none⟩) 512 512) 512 (full c) ∧ Below w.heap.size w w' := by
  subst hC
  go_enter Try.func17, Try.ntmps17
  have hmk := run_make_sector w
  obtain ⟨w1, hw1⟩ : ∃ w1, w1 = w.alloc (.cells (Dk.zero.map byteV).toArray 5) := ⟨_, rfl⟩
  rw [← hw1] at hmk
  have hb1 : Below w.heap.size w w1 := by rw [hw1]; exact (Below.refl _ _).alloc (Nat.le_refl _) _
  have hown1 : OwnsB w1 w.heap.size (.slice (some ⟨w.heap.size, 0, none⟩) 512 512) 512 Dk.zero := by
    refine ⟨by simp [Dk.zero_len], .inr ⟨w.heap.size, 512, _, rfl, Nat.le_refl _, by rw [hw1]; exact heap_alloc_new _ _, Nat.le_refl _, by unfold maxLen; omega, by simp [Dk.zero_len], ?_⟩⟩
    rw [List.take_of_length_le (by simp [Dk.zero_len])]
  clear hw1
  · have hc256 : c.toNat < 256 := c.toNat_lt
    go_wp2
    go_loopw [4] (fun i wr => ∃ (k : Nat), k ≤ 512 ∧ i = .int .i64 k ∧ OwnsB wr w.heap.size (.slice (some ⟨w.heap.size, 0, none⟩) 512 512) 512 (List.replicate k c ++ List.replicate (512 - k) 0) ∧ Below w.heap.size w wr) (fun i _ => 512 - (intOf i).toNat)
    case atStart => exact ⟨0, Nat.zero_le _, rfl, hown1, hb1⟩
    case round =>
      obtain ⟨k, hk, rfl, hown, hbel⟩ := hrel
      by_cases hlt : k < 512
      · obtain ⟨_, e, _, _, hgc, hgf⟩ := hown.at (by omega)
        cases e
        have hgk := hgc k hlt
        have hfk := hgf k
        have h2 := hown.set k c
        rw [full_set c k hlt] at h2
        have hb2 := hbel.setCell (p := ⟨w.heap.size, k, none⟩) (Nat.le_refl _) (.int .u8 c.toNat)
        obtain ⟨old, hold⟩ : ∃ old : Value, old = .int .u8 ((List.replicate k c ++ List.replicate (512 - k) 0).getD k 0).toNat := ⟨_, rfl⟩
        rw [← hold] at hgk
        have H2 := Lib.hid h2
        clear hgc hgf hown hbel hown1 h2 hold
        go_wp2
        go_roundw
        case rel => exact ⟨k + 1, by omega, by go_num, H2.out, hb2⟩
        case measure => simp [intOf]; omega
      · have hk512 : k = 512 := by omega
        rw [hk512, Nat.sub_self, List.replicate_zero, List.append_nil] at hown
        have hown2 : OwnsB wr w.heap.size (.slice (some ⟨w.heap.size, 0, none⟩) 512 512) 512 (full c) := hown
        have hkl : ¬ (k : Int) < 512 := by omega
        clear hown hown1 hk512
        go_wp2
        go_ret
        exact ⟨rfl, hown2, hbel⟩

end Go.Proofs.Ytgicpialopccpaa
