/- ref04's Kept. -/
import Derived.Test.YtnekelndcpmonaaRefK
import Derived.Test.YtnekelndcpmonaaMg14
set_option linter.all false
namespace Go.Proofs.Ytnekelndcpmonaa
open Go.RowKit
set_option linter.unusedVariables false
set_option linter.unusedSimpArgs false

def keptV (x : List UInt8) (n : Nat) (one has : Bool) (y : List UInt8) (m : Nat) (two also : Bool) : List UInt8 × Nat × Int × Bool :=
  if (one && two) = false then ([], 0, -1, false) else if (has && (!also || decide (m ≤ n))) = true then (x, n, 0, true) else if also = true then (y, m, 1, true) else ([], 0, -1, true)
def keptT (v : List UInt8 × Nat × Int × Bool) : Value := .tuple #[.string ⟨v.1.toArray⟩, .int .u64 (v.2.1 : Int), .int .i64 v.2.2.1, .bool v.2.2.2]
set_option maxRecDepth 100000 in
set_option maxHeartbeats 4000000 in
theorem refKept_at (w : World) (R : List Asn) (S : Sep w R) (s : List UInt8) (hs : s.length = 4096) (x : List UInt8) (n : Nat) (one has : Bool) (y : List UInt8) (m : Nat) (two also : Bool)
    (h1 : ∀ w, Sep w R → Calls Try.prog 45 #[.string ⟨(s.take 2048).toArray⟩] w fun e w' => e = .returned (halfT (x, n, one, has)) ∧ Sep w' R)
    (h2 : ∀ w, Sep w R → Calls Try.prog 45 #[.string ⟨(s.drop 2048).toArray⟩] w fun e w' => e = .returned (halfT (y, m, two, also)) ∧ Sep w' R) :
    Calls Try.prog 23 #[.string ⟨s.toArray⟩] w fun e w' => e = .returned (keptT (keptV x n one has y m two also)) ∧ Sep w' R := by
  obtain ⟨t, ht⟩ : ∃ t : ByteArray, t = ⟨s.toArray⟩ := ⟨_, rfl⟩
  have hz : t.size = 4096 := by rw [ht]; exact hs
  have sl0 := slice_to t s ht 2048 2048 rfl (by omega)
  have sl1 := slice_mid t s ht 2048 4096 2048 4096 rfl rfl (by omega) (by omega)
  rw [show 4096 - 2048 = 2048 by omega, List.take_of_length_le (l := s.drop 2048) (by rw [List.length_drop]; omega)] at sl1
  obtain ⟨t0, ht0⟩ : ∃ t : ByteArray, t = ⟨(s.take 2048).toArray⟩ := ⟨_, rfl⟩
  obtain ⟨t1, ht1⟩ : ∃ t : ByteArray, t = ⟨(s.drop 2048).toArray⟩ := ⟨_, rfl⟩
  rw [← ht0] at sl0 h1
  rw [← ht1] at sl1 h2
  rw [← ht]
  have H1 := Lib.hid h1
  have H2 := Lib.hid h2
  have HS := Lib.hid S
  clear ht ht0 ht1 hs h1 h2 S
  cases one with
  | false =>
    go_enter Try.func23, Try.ntmps23
    go_wp2_with fail
    refine (H1.out _ HS.out).mono ?_
    rintro e w1 ⟨rfl, S1⟩
    have HS1 := Lib.hid S1
    clear S1
    unfold halfT
    dsimp only
    go_wp2_with fail
    refine (H2.out _ HS1.out).mono ?_
    rintro e w2 ⟨rfl, S2⟩
    have HS2 := Lib.hid S2
    clear S2
    unfold halfT
    dsimp only
    go_wp2
    exact bodyPost_ret (v := .tuple #[.string ⟨#[]⟩, .int .u64 0, .int .i64 (-1), .bool false]) (by simp [results, Try.results23, go_sem]) rfl ⟨rfl, HS2.out⟩
  | true =>
    cases two with
    | false =>
      go_enter Try.func23, Try.ntmps23
      go_wp2_with fail
      refine (H1.out _ HS.out).mono ?_
      rintro e w1 ⟨rfl, S1⟩
      have HS1 := Lib.hid S1
      clear S1
      unfold halfT
      dsimp only
      go_wp2_with fail
      refine (H2.out _ HS1.out).mono ?_
      rintro e w2 ⟨rfl, S2⟩
      have HS2 := Lib.hid S2
      clear S2
      unfold halfT
      dsimp only
      go_wp2
      exact bodyPost_ret (v := .tuple #[.string ⟨#[]⟩, .int .u64 0, .int .i64 (-1), .bool false]) (by simp [results, Try.results23, go_sem]) rfl ⟨rfl, HS2.out⟩
    | true =>
      cases has with
      | false =>
        cases also with
        | false =>
          go_enter Try.func23, Try.ntmps23
          go_wp2_with fail
          refine (H1.out _ HS.out).mono ?_
          rintro e w1 ⟨rfl, S1⟩
          have HS1 := Lib.hid S1
          clear S1
          unfold halfT
          dsimp only
          go_wp2_with fail
          refine (H2.out _ HS1.out).mono ?_
          rintro e w2 ⟨rfl, S2⟩
          have HS2 := Lib.hid S2
          clear S2
          unfold halfT
          dsimp only
          go_wp2
          exact bodyPost_ret (v := .tuple #[.string ⟨#[]⟩, .int .u64 0, .int .i64 (-1), .bool true]) (by simp [results, Try.results23, go_sem]) rfl ⟨rfl, HS2.out⟩
        | true =>
          obtain ⟨yb, hyb⟩ : ∃ yb : ByteArray, yb = ⟨y.toArray⟩ := ⟨_, rfl⟩
          unfold halfT at H2
          dsimp only at H2
          rw [← hyb] at H2
          have HY := Lib.hid hyb
          clear hyb
          go_enter Try.func23, Try.ntmps23
          go_wp2_with fail
          refine (H1.out _ HS.out).mono ?_
          rintro e w1 ⟨rfl, S1⟩
          have HS1 := Lib.hid S1
          clear S1
          unfold halfT
          dsimp only
          go_wp2_with fail
          refine (H2.out _ HS1.out).mono ?_
          rintro e w2 ⟨rfl, S2⟩
          have HS2 := Lib.hid S2
          clear S2
          go_wp2
          exact bodyPost_ret (v := .tuple #[.string yb, .int .u64 (m : Int), .int .i64 1, .bool true]) (by simp [results, Try.results23, go_sem]) rfl ⟨by rw [HY.out]; rfl, HS2.out⟩
      | true =>
        obtain ⟨xb, hxb⟩ : ∃ xb : ByteArray, xb = ⟨x.toArray⟩ := ⟨_, rfl⟩
        unfold halfT at H1 H2
        dsimp only at H1 H2
        rw [← hxb] at H1
        obtain ⟨yb, hyb⟩ : ∃ yb : ByteArray, yb = ⟨y.toArray⟩ := ⟨_, rfl⟩
        rw [← hyb] at H2
        have HX := Lib.hid hxb
        have HY := Lib.hid hyb
        clear hxb hyb
        cases also with
        | false =>
          go_enter Try.func23, Try.ntmps23
          go_wp2_with fail
          refine (H1.out _ HS.out).mono ?_
          rintro e w1 ⟨rfl, S1⟩
          have HS1 := Lib.hid S1
          clear S1
          go_wp2_with fail
          refine (H2.out _ HS1.out).mono ?_
          rintro e w2 ⟨rfl, S2⟩
          have HS2 := Lib.hid S2
          clear S2
          go_wp2
          exact bodyPost_ret (v := .tuple #[.string xb, .int .u64 (n : Int), .int .i64 0, .bool true]) (by simp [results, Try.results23, go_sem]) rfl ⟨by rw [HX.out]; rfl, HS2.out⟩
        | true =>
          by_cases hnm : m ≤ n
          · have ev : keptV x n true true y m true true = (x, n, 0, true) := by simp [keptV, hnm]
            rw [ev]
            have hi : (m : Int) ≤ (n : Int) := by omega
            clear ev hnm
            go_enter Try.func23, Try.ntmps23
            go_wp2_with fail
            refine (H1.out _ HS.out).mono ?_
            rintro e w1 ⟨rfl, S1⟩
            have HS1 := Lib.hid S1
            clear S1
            go_wp2_with fail
            refine (H2.out _ HS1.out).mono ?_
            rintro e w2 ⟨rfl, S2⟩
            have HS2 := Lib.hid S2
            clear S2
            go_wp2
            exact bodyPost_ret (v := .tuple #[.string xb, .int .u64 (n : Int), .int .i64 0, .bool true]) (by simp [results, Try.results23, go_sem]) rfl ⟨by rw [HX.out]; rfl, HS2.out⟩
          · have ev : keptV x n true true y m true true = (y, m, 1, true) := by simp [keptV, hnm]
            rw [ev]
            have hi : ¬ ((m : Int) ≤ (n : Int)) := by omega
            clear ev hnm
            go_enter Try.func23, Try.ntmps23
            go_wp2_with fail
            refine (H1.out _ HS.out).mono ?_
            rintro e w1 ⟨rfl, S1⟩
            have HS1 := Lib.hid S1
            clear S1
            go_wp2_with fail
            refine (H2.out _ HS1.out).mono ?_
            rintro e w2 ⟨rfl, S2⟩
            have HS2 := Lib.hid S2
            clear S2
            go_wp2
            exact bodyPost_ret (v := .tuple #[.string yb, .int .u64 (m : Int), .int .i64 1, .bool true]) (by simp [results, Try.results23, go_sem]) rfl ⟨by rw [HY.out]; rfl, HS2.out⟩
def keptO (a b : List UInt8 × Nat × Bool × Bool) : List UInt8 × Nat × Int × Bool := keptV a.1 a.2.1 a.2.2.1 a.2.2.2 b.1 b.2.1 b.2.2.1 b.2.2.2
theorem refKept (w : World) (R : List Asn) (S : Sep w R) (s : List UInt8) (hs : s.length = 4096) :
    Calls Try.prog 23 #[.string ⟨s.toArray⟩] w fun e w' => e = .returned (keptT (keptO (halfV (replB (s.take 2048))) (halfV (replB (s.drop 2048))))) ∧ Sep w' R :=
  refKept_at w R S s hs _ _ _ _ _ _ _ _
    (fun w S => refHalf w R S (s.take 2048) 4 (by rw [List.length_take]; omega) (by omega) (by omega))
    (fun w S => refHalf w R S (s.drop 2048) 4 (by rw [List.length_drop]; omega) (by omega) (by omega))

/-! ### Kept and what Open keeps -/
theorem kept_none0 {b : List UInt8 × Nat × Bool × Bool} : keptO (halfV none) b = ([], 0, -1, false) := by simp [keptO, keptV, halfV]
theorem kept_none1 {a : List UInt8 × Nat × Bool × Bool} : keptO a (halfV none) = ([], 0, -1, false) := by simp [keptO, keptV, halfV]
theorem kept_pick (l0 l1 : List (List UInt8)) (n0 u0 n1 u1 : Nat) : ∃ c, keptO (halfV (some (l0, n0, u0))) (halfV (some (l1, n1, u1))) = ((pick2 l0 l1).2.2, c, (pick2 l0 l1).1, true) ∧ ((pick2 l0 l1).1 = -1 ∨ (pick2 l0 l1).1 = 0 ∨ (pick2 l0 l1).1 = 1) := by
  have e0 : (∃ x l, l0 = x :: l ∧ 8 ≤ x.length ∧ numL (x.take 8) ≤ lastN ∧ halfV (some (l0, n0, u0)) = (x.drop 8, numL (x.take 8), true, true) ∧ pickS 0 (-1) 0 [] l0 = (0, numL (x.take 8), x.drop 8)) ∨ (halfV (some (l0, n0, u0)) = ([], 0, true, false) ∧ pickS 0 (-1) 0 [] l0 = (-1, 0, [])) := by
    cases l0 with
    | nil => exact .inr ⟨rfl, rfl⟩
    | cons x l =>
      by_cases h : 8 ≤ x.length ∧ numL (x.take 8) ≤ lastN
      · exact .inl ⟨x, l, rfl, h.1, h.2, if_pos h, pick_take h.1 h.2 (.inl (by omega))⟩
      · exact .inr ⟨if_neg h, pick_not fun h2 => h ⟨h2.1, h2.2.1⟩⟩
  have e1 : (∃ y l, l1 = y :: l ∧ 8 ≤ y.length ∧ numL (y.take 8) ≤ lastN ∧ halfV (some (l1, n1, u1)) = (y.drop 8, numL (y.take 8), true, true)) ∨ (halfV (some (l1, n1, u1)) = ([], 0, true, false) ∧ ∀ is c th, pickS 1 is c th l1 = (is, c, th)) := by
    cases l1 with
    | nil => exact .inr ⟨rfl, fun _ _ _ => rfl⟩
    | cons x l =>
      by_cases h : 8 ≤ x.length ∧ numL (x.take 8) ≤ lastN
      · exact .inl ⟨x, l, rfl, h.1, h.2, if_pos h⟩
      · exact .inr ⟨if_neg h, fun _ _ _ => pick_not fun h2 => h ⟨h2.1, h2.2.1⟩⟩
  rcases e0 with ⟨x, l, rfl, x8, xl, ex, px⟩ | ⟨ex, px⟩
  · rcases e1 with ⟨y, l', rfl, y8, yl, ey⟩ | ⟨ey, py⟩
    · by_cases hc : numL (x.take 8) < numL (y.take 8)
      · have e : pick2 (x :: l) (y :: l') = (1, numL (y.take 8), y.drop 8) := by unfold pick2; rw [px]; exact pick_take y8 yl (.inr hc)
        rw [e, ex, ey]
        exact ⟨numL (y.take 8), by simp [keptO, keptV]; omega, .inr (.inr rfl)⟩
      · have e : pick2 (x :: l) (y :: l') = (0, numL (x.take 8), x.drop 8) := by unfold pick2; rw [px]; exact pick_not fun h => h.2.2.elim (fun h => absurd (show (0 : Int) < 0 from h) (by decide)) (fun h => hc h)
        rw [e, ex, ey]
        exact ⟨numL (x.take 8), by simp [keptO, keptV]; omega, .inr (.inl rfl)⟩
    · have e : pick2 (x :: l) l1 = (0, numL (x.take 8), x.drop 8) := by unfold pick2; rw [px]; exact py _ _ _
      rw [e, ex, ey]
      exact ⟨numL (x.take 8), by simp [keptO, keptV], .inr (.inl rfl)⟩
  · rcases e1 with ⟨y, l', rfl, y8, yl, ey⟩ | ⟨ey, py⟩
    · have e : pick2 l0 (y :: l') = (1, numL (y.take 8), y.drop 8) := by unfold pick2; rw [px]; exact pick_take y8 yl (.inl (by omega))
      rw [e, ex, ey]
      exact ⟨numL (y.take 8), by simp [keptO, keptV], .inr (.inr rfl)⟩
    · have e : pick2 l0 l1 = (-1, 0, []) := by unfold pick2; rw [px]; exact py _ _ _
      rw [e, ex, ey]
      exact ⟨0, by simp [keptO, keptV], .inl rfl⟩
end Go.Proofs.Ytnekelndcpmonaa
