/- The reference's functions of chapter 03: low, high. -/
import Derived.Test.YtnekelndcpmonaaMg11
import Derived.Test.YtnekelndcpmonaaCrcB
import Derived.Deep.RegionHeld3
import Derived.Deep.RegionLaw
import Derived.Deep.QuietTactic
import Derived.RegionTactic
set_option linter.all false
namespace Go.Proofs.Ytnekelndcpmonaa
open Go.RowKit
set_option linter.unusedVariables false

theorem bcell {W w1 : World} (hb : Below W.heap.size W w1) : (∀ b o, b < W.heap.size → w1.cell? ⟨b, o, none⟩ = W.cell? ⟨b, o, none⟩) ∧ (∀ b o, b < W.heap.size → w1.frozen? ⟨b, o, none⟩ = W.frozen? ⟨b, o, none⟩) :=
  ⟨fun b o h => hb.cell (p := ⟨b, o, none⟩) h, fun b o h => hb.frozen (p := ⟨b, o, none⟩) h⟩
theorem string_one (c : UInt8) (W : World) (g : Nat) (h : W.cell? ⟨g, 0, none⟩ = some (.int .u8 (c.toNat : Int))) : (convert 31 9 (.slice (some ⟨g, 0, none⟩) 1 1)).run Try.prog W = .ok (.string ⟨#[c]⟩) W :=
  run_string (l := [c]) (fun i hi => ⟨g, 0, rfl, by
    have : i = 0 := by simpa using hi
    subst this
    simpa using h⟩) 1 1 rfl

set_option maxRecDepth 20000 in
set_option maxHeartbeats 1600000 in
theorem refLow : ∀ (size n : Nat) (N Z : Int) (w : World), N = (n : Int) → Z = (size : Int) → n < 18446744073709551616 → size ≤ 100 →
    Calls Try.prog 48 #[.int .u64 N, .int .i64 Z] w fun e w' => e = .returned (.string ⟨(lowL n size).toArray⟩) ∧ Below w.heap.size w w'
  | 0, n, _, _, w, rfl, rfl, hn, hs => by
    go_enter Try.func48, Try.ntmps48
    go_wp2
    go_ret
    exact ⟨rfl, Below.refl _ _⟩
  | size + 1, n, _, _, w, rfl, rfl, hn, hs => by
    obtain ⟨z, hz⟩ : ∃ z : Int, z = ((size + 1 : Nat) : Int) := ⟨_, rfl⟩
    have hz1 : z - 1 = (size : Int) := by omega
    have hz0 : (1 : Int) ≤ z := by omega
    have hz9 : z ≤ 101 := by omega
    have hne : (z == 0) = false := by simp; omega
    obtain ⟨c, hc⟩ : ∃ c, c = UInt8.ofNat n := ⟨_, rfl⟩
    have hcn : (n : Int) % 256 = (c.toNat : Int) := by rw [hc, UInt8.toNat_ofNat']; omega
    obtain ⟨m, hm⟩ : ∃ m, m = n / 256 := ⟨_, rfl⟩
    have hmn : (n : Int) / 256 = (m : Int) := by omega
    have hn0 : (0 : Int) ≤ (n : Int) := by omega
    have hc0 : (0 : Int) ≤ (c.toNat : Int) := by omega
    have hc1 : (c.toNat : Int) < 256 := by have := c.toNat_lt; omega
    have hm0 : (0 : Int) ≤ (m : Int) := by omega
    have hlow : lowL n (size + 1) = c :: lowL m size := by rw [lowL_cons, hc, hm]
    have hml : m < 18446744073709551616 := by omega
    have HL := Lib.hid hlow
    have HML := Lib.hid hml
    have tr := string_one c
    have hlen : (lowL m size).length = size := lowL_len _ _
    have HLN := Lib.hid hlen
    have hrec := fun (w : World) => refLow size m (m : Int) (size : Int) w rfl rfl hml (by omega)
    obtain ⟨t, ht⟩ : ∃ t : ByteArray, t = ⟨(lowL m size).toArray⟩ := ⟨_, rfl⟩
    have hts : t.size = size := by rw [ht]; exact hlen
    rw [← ht] at hrec
    have HREC := Lib.hid hrec
    have hcat : (⟨#[c]⟩ : ByteArray).size + t.size ≤ 9223372036854775807 := by rw [hts]; show 1 + size ≤ _; omega
    have hcat2 : 1 + t.size ≤ 9223372036854775807 := by omega
    have hcat3 : ¬ 9223372036854775807 < 1 + t.size := by omega
    have HT := Lib.hid ht
    clear ht hrec hlen hts hcat
    have k1 : (n : Int).tmod 256 = (c.toNat : Int) := by rw [Int.tmod_eq_emod_of_nonneg (by omega)]; exact hcn
    have k2 : IntKind.u8.wrap (c.toNat : Int) = (c.toNat : Int) := by rw [IntKind.wrap_u8]; omega
    have k3 : (n : Int).tdiv 256 = (m : Int) := by rw [Int.tdiv_eq_ediv_of_nonneg (by omega)]; exact hmn
    have k4 : IntKind.u64.wrap (m : Int) = (m : Int) := by rw [IntKind.wrap_u64]; omega
    have k5 : IntKind.i64.wrap (size : Int) = (size : Int) := by rw [IntKind.wrap_i64]; omega
    rw [← hz]
    clear hz hc hm hlow hml hn
    go_enter Try.func48, Try.ntmps48
    go_wp2_with fail
    go_region_with (first | (go_at_call 48; refine (HREC.out _).mono ?_; rintro e w1 ⟨rfl, hb1⟩; obtain ⟨bc, bf⟩ := bcell hb1))
    all_goals
      go_wp2
      go_ret
      refine ⟨by rw [HL.out, HT.out]; congr 2, ?_⟩
      first | exact (((Below.refl _ _).alloc (Nat.le_refl _) _).drew).trans (hb1.mono (by simp)) | exact ((Below.refl _ _).drew.trans (hb1.mono (by simp))).alloc (by have := hb1.size; simpa using this) _

theorem num_cons_lt (c : UInt8) (l : List UInt8) (h : l.length ≤ 7) : numL (c :: l) < 18446744073709551616 ∧ numL l < 72057594037927936 := by
  have h1 := numL_lt l
  have h2 : 256 ^ l.length ≤ 256 ^ 7 := Nat.pow_le_pow_right (by omega) h
  have hc := c.toNat_lt
  have h3 : numL l < 72057594037927936 := by omega
  exact ⟨by rw [numL]; omega, h3⟩
set_option maxRecDepth 20000 in
set_option maxHeartbeats 1600000 in
theorem refHigh : ∀ (l : List UInt8) (w : World), l.length ≤ 8 → Calls Try.prog 70 #[.string ⟨l.toArray⟩] w fun e w' => e = .returned (.int .u64 (numL l : Int)) ∧ Below w.heap.size w w'
  | [], w, _ => by
    go_enter Try.func70, Try.ntmps70
    go_wp2
    go_ret
    exact ⟨rfl, Below.refl _ _⟩
  | c :: l, w, hl => by
    have hl7 : l.length ≤ 7 := by simpa using hl
    obtain ⟨h1, h2⟩ := num_cons_lt c l hl7
    obtain ⟨m, hm⟩ : ∃ m, m = numL l := ⟨_, rfl⟩
    have hnum : ((numL (c :: l) : Nat) : Int) = (c.toNat : Int) + 256 * (m : Int) := by rw [numL, hm]; omega
    have HN := Lib.hid hnum
    have hrec := fun (w : World) => refHigh l w (by omega)
    rw [← hm] at hrec h2
    have HREC := Lib.hid hrec
    have hc0 : (0 : Int) ≤ (c.toNat : Int) := by omega
    have hc1 : (c.toNat : Int) < 256 := by have := c.toNat_lt; omega
    have hm0 : (0 : Int) ≤ (m : Int) := by omega
    have hm1 : (m : Int) < 72057594037927936 := by omega
    obtain ⟨s, hs⟩ : ∃ s : ByteArray, s = ⟨(c :: l).toArray⟩ := ⟨_, rfl⟩
    have hsz : s.size = l.length + 1 := by rw [hs]; rfl
    have hne : (s.data.toList.isEmpty) = false := by rw [hs]; rfl
    have hix : ∀ W, (Instr.index 9 (.string s) (.int .i64 0)).run Try.prog W = .ok (.int .u8 (c.toNat : Int)) W := by intro W; rw [hs]; go_simp; rfl
    have hsl : ∀ W, (Instr.sliceAt 9 (.string s) (some (.int .i64 1)) none none).run Try.prog W = .ok (.string ⟨l.toArray⟩) W := by
      intro W
      have e : s.extract 1 s.size = ⟨l.toArray⟩ := by rw [hs]; apply ByteArray.ext; apply Array.ext'; rw [ByteArray.data_extract, Array.toList_extract]; simp only [List.extract]; rw [List.drop_succ_cons, List.drop_zero]; exact List.take_of_length_le (by show l.length ≤ l.length + 1 - 1; omega)
      have h1 : (1 : Int) ≤ (l.length : Int) + 1 := by omega
      have h2 : ¬ ((l.length : Int) + 1 < 1) := by omega
      rw [← e]
      clear e hs
      go_simp
    have k1 : IntKind.u64.wrap (256 * (m : Int)) = 256 * (m : Int) := by rw [IntKind.wrap_u64]; omega
    have k2 : IntKind.u64.wrap ((c.toNat : Int) + 256 * (m : Int)) = (c.toNat : Int) + 256 * (m : Int) := by rw [IntKind.wrap_u64]; omega
    have k3 : IntKind.u64.wrap (c.toNat : Int) = (c.toNat : Int) := by rw [IntKind.wrap_u64]; omega
    have hne2 : s.toList.isEmpty = false := by rw [hs, Lib.toList_data]; rfl
    rw [← hs, HN.out]
    clear hs hnum hrec hm h1 h2 hl hl7 hm1 hsz
    go_enter Try.func70, Try.ntmps70
    go_wp2_with fail
    go_region_with (first | (go_at_call 70; refine (HREC.out _).mono ?_; rintro e w1 ⟨rfl, hb1⟩))
    all_goals
      go_wp2
      go_ret
      exact ⟨by rfl, (Below.refl _ _).drew.trans (hb1.mono (by simp))⟩
end Go.Proofs.Ytnekelndcpmonaa
