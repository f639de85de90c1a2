/- ref04's Bytes. -/
import Derived.Test.YtnekelndcpmonaaRefB
set_option linter.all false
namespace Go.Proofs.Ytnekelndcpmonaa
open Go.RowKit
set_option linter.unusedVariables false

set_option maxRecDepth 20000 in
set_option maxHeartbeats 4000000 in
theorem refBytes (n : Nat) (N : Int) (w : World) (hN : N = (n : Int)) (hn : n < 18446744073709551616) :
    Calls Try.prog 17 #[.int .u64 N] w fun e w' => e = .returned (.string ⟨(lowL n 8).toArray⟩) ∧ Below w.heap.size w w' := by
  subst hN
  have HN := Lib.hid hn
  clear hn
  go_enter Try.func17, Try.ntmps17
  go_wp2
  go_loopw [0, 3, 4] (fun nv sv iv wr => ∃ (k X : Nat), k ≤ 8 ∧ X = n / 256 ^ k ∧ nv = .int .u64 (X : Int) ∧ sv = .string ⟨(lowL n k).toArray⟩ ∧ iv = .int .i64 (k : Int) ∧ Below w.heap.size w wr) (fun _ _ iv _ => 8 - (intOf iv).toNat)
  case atStart => exact ⟨0, n, Nat.zero_le _, by simp, rfl, rfl, rfl, Below.refl _ _⟩
  case round =>
    obtain ⟨k, X, hk, hX, rfl, rfl, rfl, hb⟩ := hrel
    by_cases hlt : k < 8
    · have hlt' : (k : Int) < 8 := by omega
      have hk0 : (0 : Int) ≤ (k : Int) := by omega
      have hXn : X < 18446744073709551616 := by
        have : X ≤ n := by rw [hX]; exact Nat.div_le_self _ _
        have := HN.out
        omega
      obtain ⟨c, hc⟩ : ∃ c, c = UInt8.ofNat X := ⟨_, rfl⟩
      have hcv : (X : Int) % 256 = (c.toNat : Int) := by rw [hc, UInt8.toNat_ofNat']; omega
      obtain ⟨X2, hX2⟩ : ∃ X2, X2 = X / 256 := ⟨_, rfl⟩
      have hdv : (X : Int) / 256 = (X2 : Int) := by rw [hX2]; omega
      have hX3 : X2 = n / 256 ^ (k + 1) := by rw [hX2, hX, Nat.div_div_eq_div_mul, Nat.pow_succ]
      have hl2 : lowL n (k + 1) = lowL n k ++ [c] := by rw [lowL_succ, hc, hX]
      have hX0 : (0 : Int) ≤ (X : Int) := by omega
      have hc0 : (0 : Int) ≤ (c.toNat : Int) := by omega
      have hc1 : (c.toNat : Int) < 256 := by have := c.toNat_lt; omega
      have tr := string_one c
      obtain ⟨s, hs⟩ : ∃ s : ByteArray, s = ⟨(lowL n k).toArray⟩ := ⟨_, rfl⟩
      have hsz : s.size = k := by rw [hs, size_string, lowL_len]
      have hcat : ¬ (9223372036854775807 < k + 1) := by omega
      rw [← hs]
      have HL2 := Lib.hid hl2
      have HS := Lib.hid hs
      have HX3 := Lib.hid hX3
      have HB := Lib.hid hb
      have hs1 : s.size + 1 < 100 := by omega
      clear hX hc hX2 hX3 hl2 hs hb
      go_wp2_with fail
      exact ⟨⟨k + 1, X2, by omega, HX3.out, rfl, by rw [HL2.out, HS.out, ← cat_string], by go_num, HB.out.alloc HB.out.size _⟩, by simp [intOf]; omega⟩
    · obtain rfl : k = 8 := by omega
      have HB := Lib.hid hb
      clear hX hb
      go_wp2
      go_ret
      exact ⟨rfl, HB.out⟩
end Go.Proofs.Ytnekelndcpmonaa
