/- Format; slices.Equal. -/
import Derived.Test.YtoihfamiclbffaaJourW
namespace Go.Proofs.Ytoihfamiclbffaa
open Go.RowKit

section
variable {w : World} {R : List Asn} {q p : Nat} {j : Jn} {D : Dk}
set_option maxHeartbeats 1600000 in
theorem format_sep (S : Sep w (diskA p D :: R)) (from_ size : Nat) (F Z : Int) (hF : F = (from_ : Int)) (hZ : Z = (size : Int)) (h2 : 2 ≤ size) (hs : from_ + size ≤ D.secs.length) (hw : D.waits.length ≤ 80000)
    (D1 D2 : Dk) (j1 j2 : Jn) (hr : resetJ D ⟨from_, size, 0, 1, false⟩ = (0, D1, j1)) (hc : commitJ D1 j1 = (0, D2, j2)) :
    Calls Try.prog 12 #[.pointer (some ⟨p, 0, none⟩), .int .i64 F, .int .i64 Z] w fun e w' => ∃ q, e = .returned (.tuple #[.pointer (some ⟨q, 0, none⟩), .int .i64 0]) ∧ Sep w' (jnA q p j2 :: diskA p D2 :: R) := by
  subst hF hZ
  go_enter Try.func12, Try.ntmps12
  go_wp2_with fail
  refine (made_sep S from_ size _ _ rfl rfl h2 hs).mono ?_
  rintro e w1 ⟨q, rfl, S1⟩
  have Hc := Lib.hid hc
  have Hr := Lib.hid hr
  clear hc hr S
  go_wp2_with fail
  refine (reset_sep S1 (by show from_ + 1 ≤ _; omega) (by omega)).mono ?_
  rw [Hr.out]
  dsimp only
  rintro e w2 ⟨rfl, S2⟩
  clear S1
  go_wp2_with fail
  refine (commit_sep S2).mono ?_
  rw [Hc.out]
  dsimp only
  rintro e w3 ⟨rfl, S3⟩
  clear S2
  go_wp2
  go_ret2
  exact ⟨_, rfl, S3⟩
set_option maxHeartbeats 1600000 in
theorem format_not (S : Sep w (diskA p D :: R)) (F Z : Int) (h : ¬ (2 ≤ Z ∧ 0 ≤ F ∧ Z ≤ (D.secs.length : Int) ∧ F ≤ (D.secs.length : Int) - Z)) :
    Calls Try.prog 12 #[.pointer (some ⟨p, 0, none⟩), .int .i64 F, .int .i64 Z] w fun e w' => e = .returned (.tuple #[.pointer none, .int .i64 1]) ∧ w = w' := by
  go_enter Try.func12, Try.ntmps12
  go_wp2_with fail
  refine (made_not S F Z h).mono ?_
  rintro e w1 ⟨rfl, rfl⟩
  clear h S
  go_wp2
  go_ret2
  exact ⟨rfl, rfl⟩

set_option maxHeartbeats 1600000 in
theorem equal_sep (a : Option Addr) (n cp : Nat) (l : List UInt8) (a' : Option Addr) (cp' : Nat) (l' : List UInt8) (hA : BytesAt w a l) (hA' : BytesAt w a' l') (hl : l.length = n) (hl' : l'.length = n) (hn9 : n ≤ 1000000000) (S : Sep w R) :
    Calls Try.prog 40 #[.slice a n cp, .slice a' n cp'] w fun e w' => e = .returned (.bool (decide (l = l'))) ∧ Sep w' R := by
  go_enter Try.func40, Try.ntmps40
  have hn : ((n : Int) != (n : Int)) = false := by simp
  go_wp2
  go_loopw [13] (fun i wr => ∃ k : Nat, k ≤ n ∧ i = .int .i64 k ∧ l.take k = l'.take k ∧ Sep wr R ∧ Below w.heap.size w wr) (fun i _ => n - (intOf i).toNat)
  case atStart => exact ⟨0, Nat.zero_le _, rfl, by simp, S, Below.refl _ _⟩
  case round =>
    obtain ⟨k, hk, rfl, he, Sr, hb⟩ := hrel
    have HSr := Lib.hid Sr
    have He := Lib.hid he
    clear Sr he S
    by_cases hlt : k < n
    · obtain ⟨b, o, rfl, hc⟩ := hA k (by omega)
      obtain ⟨b', o', rfl, hc'⟩ := hA' k (by omega)
      have hcr := (hb.cell (p := ⟨b, o + k, none⟩) (World.block_lt_of_cell? _ _ hc)).trans hc
      have hcr' := (hb.cell (p := ⟨b', o' + k, none⟩) (World.block_lt_of_cell? _ _ hc')).trans hc'
      obtain ⟨x, hx⟩ : ∃ x, x = l.getD k 0 := ⟨_, rfl⟩
      obtain ⟨y, hy⟩ : ∃ y, y = l'.getD k 0 := ⟨_, rfl⟩
      rw [← hx] at hcr
      rw [← hy] at hcr'
      have hk0 : (0 : Int) ≤ (k : Int) := by omega
      have hk1 : (k : Int) < (n : Int) := by omega
      have e1 : l.take (k + 1) = l.take k ++ [x] := by rw [List.take_succ_eq_append_getElem (by omega), hx]; simp [List.getD, show k < l.length by omega]
      have e2 : l'.take (k + 1) = l'.take k ++ [y] := by rw [List.take_succ_eq_append_getElem (by omega), hy]; simp [List.getD, show k < l'.length by omega]
      have E1 := Lib.hid e1
      have E2 := Lib.hid e2
      have HA := Lib.hid hA
      clear e1 e2 hx hy hc hc' hA hA'
      by_cases hxy : x = y
      · have hd : (((x.toNat : Nat) : Int) != (y.toNat : Int)) = false := by rw [hxy]; simp
        have Hxy := Lib.hid hxy
        clear hxy
        go_wp2_with fail
        go_quiet (fail)
        go_wp2
        go_roundw
        case rel => exact ⟨k + 1, by omega, by go_num, by rw [E1.out, E2.out, He.out, Hxy.out], by first | exact HSr.out.drewN _ | exact HSr.out.drew, hb.trans ⟨rfl, rfl, rfl, Nat.le_refl _, fun _ _ => rfl⟩⟩
        case measure => simp [intOf]; omega
      · have hd : (((x.toNat : Nat) : Int) != (y.toNat : Int)) = true := by
          simp only [bne_iff_ne, ne_eq]; intro h; exact hxy (UInt8.toNat_inj.1 (by omega))
        have hne : decide (l = l') = false := by
          simp only [decide_eq_false_iff_not]
          intro h
          have := E1.out
          rw [h, E2.out] at this
          have := List.append_inj_right' this rfl
          simp at this
          exact hxy this.symm
        have Hne := Lib.hid hne
        clear hxy hne
        go_wp2_with fail
        go_quiet (fail)
        go_wp2
        go_ret
        exact ⟨by rw [Hne.out]; rfl, by first | exact HSr.out.drewN _ | exact HSr.out.drew⟩
    · have hk1 : ¬ (k : Int) < (n : Int) := by omega
      have heq : decide (l = l') = true := by
        have := He.out
        rw [List.take_of_length_le (by omega), List.take_of_length_le (by omega)] at this
        simpa using this
      have Heq := Lib.hid heq
      clear heq hA hA'
      go_wp2
      go_ret
      exact ⟨by rw [Heq.out]; rfl, HSr.out⟩
end
end Go.Proofs.Ytoihfamiclbffaa
