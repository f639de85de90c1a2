/- What low comes to. -/
import Derived.Test.YtoihfamiclbffaaLib
import Derived.Test.YtoihfamiclbffaaJourP
namespace Go.Proofs.Ytoihfamiclbffaa
open Go.RowKit

set_option maxHeartbeats 1600000 in
theorem low_calls (w : World) (n size : Nat) (S : Int) (hS : S = (size : Int)) (hn : n < 18446744073709551616) (hs : size ≤ 1000) :
    Calls Try.prog 53 #[.int .u64 (n : Int), .int .i64 S] w fun e w' => ∃ g cap, e = .returned (.slice g size cap) ∧ OwnsB w' w.heap.size (.slice g size cap) size (lowL n size) ∧ Below w.heap.size w w' := by
  subst hS
  go_enter Try.func53, Try.ntmps53
  go_wp2
  go_loopw [7, 0, 5] (fun i nv bv wr => ∃ (k X : Nat) (g : Option Addr) (cap : Nat), k ≤ size ∧ i = .int .i64 k ∧ X = n / 256 ^ k ∧ nv = .int .u64 X ∧ bv = .slice g k cap ∧ OwnsB wr w.heap.size (.slice g k cap) k (lowL n k) ∧ Below w.heap.size w wr) (fun i _ _ _ => size - (intOf i).toNat)
  case atStart => exact ⟨0, n, none, 0, Nat.zero_le _, rfl, by simp, rfl, rfl, OwnsB.nil _ _, Below.refl _ _⟩
  case round =>
    obtain ⟨k, X, g, cap, hk, rfl, hX, rfl, rfl, hown, hbel⟩ := hrel
    by_cases hlt : k < size
    · have hXn : X < 18446744073709551616 := by
        have : X ≤ n := by rw [hX]; exact Nat.div_le_self _ _
        omega
      obtain ⟨c, hc⟩ : ∃ c, c = UInt8.ofNat X := ⟨_, rfl⟩
      have hcv : (X : Int) % 256 = (c.toNat : Int) := by rw [hc, UInt8.toNat_ofNat']; omega
      obtain ⟨X2, hX2⟩ : ∃ X2, X2 = X / 256 := ⟨_, rfl⟩
      have hdv : (X : Int) / 256 = (X2 : Int) := by rw [hX2]; omega
      have hX3 : X2 = n / 256 ^ (k + 1) := by rw [hX2, hX, Nat.div_div_eq_div_mul, Nat.pow_succ]
      have hl2 : lowL n (k + 1) = lowL n k ++ [c] := by rw [lowL_succ, hc, hX]
      have HX3 := Lib.hid hX3
      have Hl2 := Lib.hid hl2
      have hbs := hbel.size
      clear hX hc hX2 hX3 hl2
      go_wp2_with (at_builtin; refine wpList_append_bytes rfl (.tmp 9) (.tmp 12) rfl w.heap.size _ k (lowL n k) rfl (hown.alloc _) (some ⟨wr.heap.size, 0, none⟩) 1 1 [c] rfl (by simp) (BytesAt.made [c] rfl) rfl (by omega) (by simp; omega) ?next)
      case next =>
        intro g' cap' w2 hown2 hgrow _ _
        rw [← Hl2.out] at hown2
        have hb2 : Below w.heap.size w w2 := (hbel.alloc hbs _).grown hgrow (by simp; omega) (fun j e => by have := World.ownsRow.lt hown j e; omega)
        clear hown hbel hgrow
        go_wp2
        go_roundw
        case rel => exact ⟨k + 1, X2, _, _, by omega, by go_num, HX3.out, rfl, rfl, hown2, hb2⟩
        case measure => simp [intOf]; omega
    · obtain rfl : k = size := by omega
      clear hX
      go_wp2
      go_ret
      exact ⟨_, _, rfl, hown, hbel⟩
end Go.Proofs.Ytoihfamiclbffaa
