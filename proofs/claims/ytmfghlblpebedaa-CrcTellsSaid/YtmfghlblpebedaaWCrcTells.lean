/- The walk of a law on sums. -/
import Derived.Test.YtmfghlblpebedaaCrcS
namespace Go.Proofs.Ytmfghlblpebedaa
open Go.RowKit Crc

set_option maxHeartbeats 400000 in
theorem CrcTells_walk (a : Option Addr) (cap : Nat) (l : List UInt8) (s : BitVec 32) (w : World) (hA : BytesAt w a l) (hl : l.length ≤ cap) (hn : a = none → cap = 0) :
    Calls Try.prog 3 #[.slice a l.length cap, .int .u32 (num s)] w fun e w' => e = .returned (.bool true) ∧ Below w.heap.size w w' := by
  obtain ⟨m, hm⟩ : ∃ m, m = min l.length 2000 := ⟨_, rfl⟩
  have hmin : (if (2000 : Int) < (l.length : Int) then (2000 : Int) else (l.length : Int)) = (m : Int) := by rw [hm]; split <;> omega
  have hmt : (l.take m).length = m := by rw [List.length_take]; omega
  have hm2 : m ≤ 2000 := by omega
  have hmc : m ≤ cap := by omega
  have Hm := Lib.hid hm
  have Ht := Lib.hid hmt
  clear hm hmt
  go_enter Try.func3, Try.ntmps3
  go_wp2_with fail
  refine (shown_calls _).mono ?_
  rintro e w1 ⟨rfl, hb1⟩
  have hA1 := (hA.below hb1).take m
  go_wp2_with (at_builtin; refine wpList_append_bytes rfl (.tmp 14) (.tmp 15) rfl w1.heap.size _ 0 [] rfl (OwnsB.empty w1) a m cap (l.take m) rfl hn (hA1.below ((Below.refl _ _).alloc (Nat.le_refl _) _)) Ht.out (by omega) (by simp) ?next)
  case next =>
  intro g cap' w2 hown hgrow _ _
  have hb2 : Below w1.heap.size w1 w2 := ((Below.refl _ _).alloc (Nat.le_refl _) _).grown hgrow (by simp) (fun k h => by simp [Value.ownBlock] at h; omega)
  have hA2 := hA1.below hb2
  have hG := hown.reads
  obtain ⟨p, hp⟩ : ∃ p, p = l.take m := ⟨_, rfl⟩
  have hpl : p.length = m := by rw [hp]; exact Ht.out
  rw [← hp] at hA2 hG
  clear hA1 hown hgrow Ht hp
  have Hpl := Lib.hid hpl
  have hst := run_string hA2 m cap hpl
  clear hpl
  go_wp2_with fail
  refine (sum_calls _ m _ p _ Hpl.out.symm (by have := Hpl.out; omega) hG).mono ?_
  rintro e w3 ⟨rfl, hb3⟩
  have hG3 := hG.below hb3
  go_wp2_with fail
  refine (refSum_calls _ _ (by simp [ByteArray.size]; have := Hpl.out; omega)).mono ?_
  rintro e w4 ⟨rfl, rfl⟩
  go_wp2_with fail
  refine (more_at _ s _ m _ p _ rfl Hpl.out (by have := Hpl.out; omega) hG3).mono ?_
  rintro e w4 ⟨rfl, hb4⟩
  have hG4 := hG3.below hb4
  have hst4 := run_string hG4 m cap' Hpl.out
  go_wp2_with fail
  refine (refMore_calls s _ _ (by simp [ByteArray.size]; have := Hpl.out; omega)).mono ?_
  rintro e w5 ⟨rfl, rfl⟩
  go_wp2_with fail
  go_ret
  exact ⟨by simp, bgo (bgo (bgo hb1 hb2) hb3) hb4⟩

end Go.Proofs.Ytmfghlblpebedaa
