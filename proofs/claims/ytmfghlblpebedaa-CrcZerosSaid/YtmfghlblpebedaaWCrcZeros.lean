/- The walk of a law on sums. -/
import Derived.Test.YtmfghlblpebedaaCrcS
namespace Go.Proofs.Ytmfghlblpebedaa
open Go.RowKit Crc

set_option maxHeartbeats 400000 in
theorem CrcZeros_walk (n : Int) (a b : BitVec 32) (w : World) :
    Calls Try.prog 8 #[.int .i64 n, .int .u32 (num a), .int .u32 (num b)] w fun e w' => e = .returned (.bool true) ∧ Below w.heap.size w w' := by
  obtain ⟨k, hk, hand⟩ := and_i64 n 65535 (by omega)
  have hand : Go.bits .and .i64 n 65535 = (k : Int) := hand
  obtain ⟨q, hq⟩ : ∃ q, q = k % 1001 := ⟨_, rfl⟩
  have hkq : (k : Int) % 1001 = (q : Int) := by omega
  have hq2 : q ≤ 1000 := by omega
  clear hq
  go_enter Try.func8, Try.ntmps8
  go_wp2_with fail
  refine (shown_calls _).mono ?_
  rintro e w1 ⟨rfl, hb1⟩
  go_wp2_with (at_make; refine wpList_make_bytes w1 rfl _ _ rfl .i64 .i64 _ _ q rfl rfl hkq hkq (by omega) ?mk)
  case mk =>
  intro w2 hown hb2
  obtain ⟨z, hz⟩ : ∃ z, z = List.replicate q (0 : UInt8) := ⟨_, rfl⟩
  rw [← hz] at hown
  have hzl : z.length = q := by rw [hz]; simp
  have hne : (num (more 0#32 z) != num (more 0#32 (z ++ [0]))) = true := by
    rw [bne_iff_ne]
    intro e
    have := num_inj e
    rw [hz] at this
    exact more_zero_ne _ _ (by decide) this
  have hab : (num (more a z) == num (more b z)) = (num a == num b) := by
    rw [num_beq, num_beq]
    by_cases h : a = b
    · subst h; simp
    · have h' : more a z ≠ more b z := fun e => h (more_inj e)
      rw [beq_eq_false_iff_ne.2 h', beq_eq_false_iff_ne.2 h]
  have hnil : more a [] = a := more_nil a
  have Hzl := Lib.hid hzl
  clear hz hzl
  have hG2 := hown.reads
  go_wp2_with fail
  refine (more_at _ a _ q _ z _ rfl Hzl.out (by have := Hzl.out; omega) hG2).mono ?_
  rintro e w3 ⟨rfl, hb3⟩
  have hG3 := hG2.below hb3
  have hown3 := hown.below hb3
  clear hown
  go_wp2_with fail
  refine (more_at _ b _ q _ z _ rfl Hzl.out (by have := Hzl.out; omega) hG3).mono ?_
  rintro e w4 ⟨rfl, hb4⟩
  have hG4 := hG3.below hb4
  have hown4 := hown3.below hb4
  clear hown3
  go_wp2_with fail
  refine (sum_calls _ q _ z _ Hzl.out.symm (by have := Hzl.out; omega) hG4).mono ?_
  rintro e w5 ⟨rfl, hb5⟩
  have hown5 := hown4.below hb5
  clear hown4
  go_wp2_with (at_builtin; refine wpList_append_bytes rfl (.tmp 34) (.tmp 35) rfl w1.heap.size _ q z rfl (hown5.alloc _) (some ⟨w5.heap.size, 0, none⟩) 1 1 [0] rfl (by simp) (BytesAt.made _ rfl) rfl (by omega) (by have := hb2.size; have := hb3.size; have := hb4.size; have := hb5.size; simp; omega) ?next)
  case next =>
  intro g cap' w6 hown6 hgrow6 _ _
  have hs5 : w1.heap.size ≤ w5.heap.size := by have := hb2.size; have := hb3.size; have := hb4.size; have := hb5.size; omega
  have hb6 : Below w1.heap.size w5 w6 := ((Below.refl _ _).alloc hs5 _).grown hgrow6 (by simp; omega) (fun k h => by simp [Value.ownBlock] at h; omega)
  have hG6 := hown6.reads
  go_wp2_with fail
  refine (sum_calls _ (q + 1) _ (z ++ [0]) _ (by simp [Hzl.out]) (by simp [Hzl.out]; omega) hG6).mono ?_
  rintro e w7 ⟨rfl, hb7⟩
  go_wp2_with fail
  refine (more_at _ a none 0 _ [] _ rfl rfl (by simp) (BytesAt.nil _ _)).mono ?_
  rintro e w8 ⟨rfl, hb8⟩
  go_wp2_with fail
  go_ret
  exact ⟨by simp, bgo (bgo (bgo hb1 ((bgo (bgo (bgo hb2 hb3) hb4) hb5).trans hb6)) hb7) hb8⟩

end Go.Proofs.Ytmfghlblpebedaa
