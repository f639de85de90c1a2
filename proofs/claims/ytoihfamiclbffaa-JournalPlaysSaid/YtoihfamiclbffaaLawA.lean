/- law03's helpers. -/
import Derived.Test.YtoihfamiclbffaaJourZ
namespace Go.Proofs.Ytoihfamiclbffaa
open Go.RowKit

section
variable {w : World} {R : List Asn} {p : Nat} {D : Dk}
theorem rds_add : ∀ (k n : Nat) (D : Dk) (at_ : Nat) (p pl : List UInt8) (Dx : Dk), rds k D at_ p = (true, pl, Dx) → rds (k + n) D at_ p = rds n Dx (at_ + k) pl
  | 0, n, D, at_, p, pl, Dx, h => by
    simp [rds] at h
    obtain ⟨rfl, rfl⟩ := h
    simp
  | k + 1, n, D, at_, p, pl, Dx, h => by
    rw [rds] at h
    have e : k + 1 + n = (k + n) + 1 := by omega
    rw [e, rds]
    by_cases hd : D.fell.down = true
    · rw [if_pos hd] at h; cases h
    · rw [if_neg hd] at h ⊢
      have := rds_add k n _ _ _ _ _ h
      rw [this]
      have e : at_ + 1 + k = at_ + (k + 1) := by omega
      rw [e]
theorem rds_bytes : ∀ (k : Nat) (D : Dk) (at_ : Nat) (p pl : List UInt8) (b : Bool) (Dx : Dk), D.Ok → at_ + k ≤ D.secs.length → rds k D at_ p = (b, pl, Dx) → pl.length ≤ p.length + 512 * k
  | 0, D, at_, p, pl, b, Dx, _, _, h => by simp [rds] at h; obtain ⟨_, rfl, _⟩ := h; omega
  | k + 1, D, at_, p, pl, b, Dx, hok, hs, h => by
    rw [rds] at h
    split at h
    · cases h; omega
    · have h1 := rds_bytes k _ _ _ _ _ _ (Dk.ok_begun hok) (by rw [begun_len]; omega) h
      rw [List.length_append, Dk.now_len (Dk.ok_begun hok) _ (by rw [begun_len]; omega)] at h1
      omega

set_option maxRecDepth 20000 in
set_option maxHeartbeats 4000000 in
theorem area_sep (S : Sep w (diskA p D :: R)) (from_ size : Nat) (F Z : Int) (hF : F = (from_ : Int)) (hZ : Z = (size : Int)) (hs : from_ + size ≤ D.secs.length) (s : List UInt8) (D2 : Dk) (hx : rds size D from_ [] = (true, s, D2)) :
    Calls Try.prog 21 #[.pointer (some ⟨p, 0, none⟩), .int .i64 F, .int .i64 Z] w fun e w' => e = .returned (.string ⟨s.toArray⟩) ∧ Sep w' (diskA p D2 :: R) := by
  subst hF hZ
  obtain ⟨hok, hl1, hl3⟩ := dk_len S
  have HS := Lib.hid S
  have Hok := Lib.hid hok
  have Hx := Lib.hid hx
  clear S hok hx
  go_enter Try.func21, Try.ntmps21
  go_wp2
  go_loopw [8, 7] (fun i sv wr => ∃ (k : Nat) (pl : List UInt8) (Dx : Dk), k ≤ size ∧ i = .int .i64 (k : Int) ∧ sv = .string ⟨pl.toArray⟩ ∧ rds k D from_ [] = (true, pl, Dx) ∧ Sep wr (diskA p Dx :: R)) (fun i _ _ => size - (intOf i).toNat)
  case atStart => exact ⟨0, [], D, Nat.zero_le _, rfl, rfl, rfl, HS.out⟩
  case round =>
    obtain ⟨k, pl, Dx, hk, rfl, rfl, hr, Sr⟩ := hrel
    have hDl := rds_len _ _ _ _ _ _ _ hr
    by_cases hlt : k < size
    · have hlt1 : (k : Int) < (size : Int) := by omega
      have hdk : Dx.fell.down = false := by
        cases h : Dx.fell.down with
        | false => rfl
        | true =>
          have h1 := rds_snoc _ _ _ _ _ _ hr
          rw [if_pos h] at h1
          have h2 := rds_more _ (size - (k + 1)) _ _ _ _ _ h1
          rw [show k + 1 + (size - (k + 1)) = size by omega, Hx.out] at h2
          cases h2
      have h1 := rds_snoc _ _ _ _ _ _ hr
      rw [if_neg (by rw [hdk]; simp)] at h1
      obtain ⟨l, hl⟩ : ∃ l, l = Dx.begun.now (from_ + k) := ⟨_, rfl⟩
      rw [← hl] at h1
      have hpl := rds_bytes _ _ _ _ _ _ _ Hok.out (by omega) hr
      have hix : from_ + k < Dx.secs.length := by omega
      have hb1 : (from_ : Int) + (k : Int) < 5000 := by omega
      have Hdk := Lib.hid hdk
      have H1 := Lib.hid h1
      have Hl := Lib.hid hl
      have Hpl := Lib.hid hpl
      have HSr := Lib.hid Sr
      clear hdk h1 hl Sr hr hDl hpl
      go_wp2_with fail
      refine (read_sep HSr.out (from_ + k) _ (by first | rfl | omega | (rw [IntKind.wrap_i64]; omega)) hix Hdk.out l Hl.out.symm).mono ?_
      rintro e w2 ⟨B, rfl, S2⟩
      have hl2 := S2.bytes.len
      have tr := run_string S2.bytes.reads 512 512 hl2
      have HS2 := Lib.hid S2.drop
      have Hl2 := Lib.hid hl2
      clear S2 hl2
      have hcat : ¬ (9223372036854775807 < pl.length + l.length) := by have := Hpl.out; have := Hl2.out; simp at *; omega
      go_wp2
      go_roundw
      case rel =>
        refine ⟨k + 1, pl ++ l, Dx.begun, by omega, by go_num, ?_, H1.out, HS2.out⟩
        rw [← List.append_toArray]
        congr 1
        exact ByteArray.ext (by simp)
      case measure => simp [intOf]; omega
    · obtain rfl : k = size := by omega
      rw [Hx.out] at hr
      cases hr
      have HSr := Lib.hid Sr
      clear Sr
      go_wp2
      go_ret
      exact ⟨rfl, HSr.out⟩

/-- Open refuses. -/
theorem open_not (S : Sep w (diskA p D :: R)) (F Z : Int) (h : ¬ (2 ≤ Z ∧ 0 ≤ F ∧ Z ≤ (D.secs.length : Int) ∧ F ≤ (D.secs.length : Int) - Z)) :
    Calls Try.prog 22 #[.pointer (some ⟨p, 0, none⟩), .int .i64 F, .int .i64 Z] w fun e w' => e = .returned (.tuple #[.pointer none, .slice none 0 0, .int .i64 1]) ∧ Sep w' (diskA p D :: R) := by
  go_enter Try.func22, Try.ntmps22
  go_wp2_with fail
  refine (made_not S F Z h).mono ?_
  rintro e w1 ⟨rfl, rfl⟩
  have HS := Lib.hid S
  clear S h
  go_wp2
  go_ret3
  exact ⟨rfl, HS.out⟩
end
end Go.Proofs.Ytoihfamiclbffaa
