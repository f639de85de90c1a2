/- ref04's number, half and Kept. -/
import Derived.Test.YtnekelndcpmonaaRefD
set_option linter.all false
namespace Go.Proofs.Ytnekelndcpmonaa
open Go.RowKit
set_option linter.unusedVariables false

theorem index_str (t : ByteArray) (s : List UInt8) (ht : t = ⟨s.toArray⟩) (i : Nat) (I : Int) (hI : I = (i : Int)) (h : i < s.length) (W : World) :
    (Instr.index 9 (.string t) (.int .i64 I)).run Try.prog W = .ok (.int .u8 ((s.getD i 0).toNat : Int)) W := by
  have hz : t.size = s.length := by rw [ht]; rfl
  have a1 : I.toNat = i := by omega
  have a2 : 0 ≤ I := by omega
  have a3 : i < t.size := by omega
  have a4 : t.data.toList = s := by rw [ht]
  have a5 : t.data[i]? = some (s.getD i 0) := by rw [ht]; simp [List.getD, h]
  have a6 : I < (t.size : Int) := by omega
  have a7 : t[i]'a3 = s.getD i 0 := by
    have e : t[i]'a3 = t.data[i]'a3 := rfl
    rw [e]
    exact (Array.getElem?_eq_some_iff.1 a5).2
  have a8 : t.data[i]'a3 = s.getD i 0 := (Array.getElem?_eq_some_iff.1 a5).2
  subst hI
  have a10 : ¬ (((i : Int)) < 0) := by omega
  clear h hz ht
  go_simp
  try simp [a3, a5, a7, a8]
theorem num_drop (l : List UInt8) (i : Nat) (h : i < l.length) : numL (l.drop i) = (l.getD i 0).toNat + 256 * numL (l.drop (i + 1)) := by
  rw [List.drop_eq_getElem_cons h, numL]
  simp [List.getD, h]

set_option maxRecDepth 20000 in
set_option maxHeartbeats 1600000 in
theorem refNumber (s : List UInt8) (w : World) (h : 8 ≤ s.length) :
    Calls Try.prog 62 #[.string ⟨s.toArray⟩] w fun e w' => e = .returned (.int .u64 (numL (s.take 8) : Int)) ∧ w = w' := by
  obtain ⟨t, ht⟩ : ∃ t : ByteArray, t = ⟨s.toArray⟩ := ⟨_, rfl⟩
  obtain ⟨l, hl⟩ : ∃ l, l = s.take 8 := ⟨_, rfl⟩
  have hll : l.length = 8 := by rw [hl, List.length_take]; omega
  have hlg : ∀ i, i < 8 → l.getD i 0 = s.getD i 0 := by intro i hi; rw [hl]; simp [List.getD, hi]
  rw [← ht, ← hl]
  have HT := Lib.hid ht
  have HLL := Lib.hid hll
  have HLG := Lib.hid hlg
  have HH := Lib.hid h
  clear ht hl hll hlg h
  go_enter Try.func62, Try.ntmps62
  go_wp2_with fail
  go_loopw [3, 4] (fun nv iv wr => ∃ (j X : Nat) (K : Int), j ≤ 8 ∧ K = (j : Int) - 1 ∧ X = numL (l.drop j) ∧ nv = .int .u64 (X : Int) ∧ iv = .int .i64 K ∧ w = wr) (fun _ iv _ => (intOf iv + 1).toNat)
  case atStart => exact ⟨8, 0, 7, by omega, by omega, by rw [List.drop_of_length_le (by rw [HLL.out]; omega)]; rfl, rfl, rfl, rfl⟩
  case round =>
    obtain ⟨j, X, K, hj, hK, hX, rfl, rfl, rfl⟩ := hrel
    by_cases h0 : 1 ≤ j
    · obtain ⟨i, rfl⟩ : ∃ i, j = i + 1 := ⟨j - 1, by omega⟩
      have e1 := num_drop l i (by rw [HLL.out]; omega)
      rw [← hX, HLG.out i (by omega)] at e1
      have hb := numL_lt (l.drop (i + 1))
      have hb2 : 256 ^ (l.drop (i + 1)).length ≤ 256 ^ 7 := Nat.pow_le_pow_right (by omega) (by rw [List.length_drop, HLL.out]; omega)
      rw [← hX] at hb
      have hX7 : (X : Int) < 72057594037927936 := by omega
      have hX0 : (0 : Int) ≤ (X : Int) := by omega
      have hK0 : 0 ≤ K := by omega
      have hK1 : K ≤ 7 := by omega
      have hix := index_str t s HT.out i K (by omega) (by have := HH.out; omega)
      obtain ⟨c, hc⟩ : ∃ c, c = (s.getD i 0).toNat := ⟨_, rfl⟩
      have hc1 : c < 256 := by rw [hc]; exact (s.getD i 0).toNat_lt
      rw [← hc] at hix e1
      have hc2 : (c : Int) < 256 := by omega
      have hc0 : (0 : Int) ≤ (c : Int) := by omega
      have HE1 := Lib.hid e1
      have HK := Lib.hid hK
      have HJ := Lib.hid hj
      clear e1 hb hb2 hX hc hc1 h0 hK hj
      go_wp2_with fail
      go_roundw
      case rel => exact ⟨i, c + 256 * X, K - 1, by have := HJ.out; omega, by have := HK.out; omega, HE1.out.symm, by go_num, by go_num, trivial⟩
      case measure => simp [intOf]; omega
    · obtain rfl : j = 0 := by omega
      obtain rfl : K = -1 := by omega
      rw [List.drop_zero] at hX
      subst hX
      clear hK h0
      go_wp2
      go_ret
      exact ⟨rfl, rfl⟩

/-- What a half has. -/
def halfV : Option (List (List UInt8) × Nat × Nat) → List UInt8 × Nat × Bool × Bool
  | none => ([], 0, false, false)
  | some ([], _, _) => ([], 0, true, false)
  | some (x :: _, _, _) => if 8 ≤ x.length ∧ numL (x.take 8) ≤ lastN then (x.drop 8, numL (x.take 8), true, true) else ([], 0, true, false)
def halfT (v : List UInt8 × Nat × Bool × Bool) : Value := .tuple #[.string ⟨v.1.toArray⟩, .int .u64 (v.2.1 : Int), .bool v.2.2.1, .bool v.2.2.2]

set_option maxRecDepth 100000 in
set_option maxHeartbeats 4000000 in
theorem refHalf (w : World) (R : List Asn) (S : Sep w R) (s : List UInt8) (size : Nat) (hs : s.length = 512 * size) (h1 : 1 ≤ size) (h2 : size ≤ 1000) :
    Calls Try.prog 45 #[.string ⟨s.toArray⟩] w fun e w' => e = .returned (halfT (halfV (replB s))) ∧ Sep w' R := by
  have c1 := refReplay w R S s size hs h1 h2
  obtain ⟨t, ht⟩ : ∃ t : ByteArray, t = ⟨s.toArray⟩ := ⟨_, rfl⟩
  rw [← ht] at c1 ⊢
  clear S hs h1 h2 ht
  cases hr : replB s with
  | none =>
    rw [hr] at c1
    have C1 := Lib.hid c1
    clear c1 hr
    go_enter Try.func45, Try.ntmps45
    go_wp2_with fail
    refine C1.out.mono ?_
    rintro e w1 ⟨rfl, S1⟩
    have HS1 := Lib.hid S1
    clear S1
    go_wp2
    exact bodyPost_ret (v := .tuple #[.string ⟨#[]⟩, .int .u64 0, .bool false, .bool false]) (by simp [results, Try.results45, go_sem]) rfl ⟨rfl, HS1.out⟩
  | some X =>
    obtain ⟨l, nn, u⟩ := X
    rw [hr] at c1
    have C1 := Lib.hid c1
    clear c1 hr
    cases l with
    | nil =>
      go_enter Try.func45, Try.ntmps45
      go_wp2_with fail
      refine C1.out.mono ?_
      rintro e w1 ⟨a, c, rfl, S1⟩
      have HS1 := Lib.hid S1.drop
      clear S1
      go_wp2
      exact bodyPost_ret (v := .tuple #[.string ⟨#[]⟩, .int .u64 0, .bool true, .bool false]) (by simp [results, Try.results45, go_sem]) rfl ⟨rfl, HS1.out⟩
    | cons x l =>
      obtain ⟨m, hm⟩ : ∃ m, m = (x :: l).length := ⟨_, rfl⟩
      have hm1 : 1 ≤ m := by rw [hm, List.length_cons]; omega
      have hm0 : ((m : Int) == 0) = false := by simp; omega
      have hm2 : (0 : Int) < (m : Int) := by omega
      obtain ⟨xb, hxb⟩ : ∃ xb : ByteArray, xb = ⟨x.toArray⟩ := ⟨_, rfl⟩
      have hxs : xb.size = x.length := by rw [hxb]; rfl
      have HM := Lib.hid hm
      have HXB := Lib.hid hxb
      clear hm hxb hm1
      by_cases h8 : 8 ≤ x.length
      · have hx8 : ¬ (xb.size < 8) := by omega
        have hx8i : ¬ ((xb.size : Int) < 8) := by omega
        have cn := fun (w : World) => refNumber x w h8
        rw [← HXB.out] at cn
        have hn64 : numL (x.take 8) < 18446744073709551616 := by
          have h := numL_lt (x.take 8)
          have h3 : 256 ^ (x.take 8).length ≤ 256 ^ 8 := Nat.pow_le_pow_right (by omega) (List.length_take_le _ _)
          omega
        have hsl := slice_from xb x HXB.out 8 8 rfl h8
        by_cases hlast : numL (x.take 8) ≤ lastN
        · have ev : halfV (some (x :: l, nn, u)) = (x.drop 8, numL (x.take 8), true, true) := if_pos ⟨h8, hlast⟩
          rw [ev]
          obtain ⟨k, hk⟩ : ∃ k, k = numL (x.take 8) := ⟨_, rfl⟩
          rw [← hk] at cn hlast hn64 ⊢
          have hkl : ¬ (4611686018427387904 < (k : Int)) := by unfold lastN at hlast; omega
          have CN := Lib.hid cn
          obtain ⟨td, htd⟩ : ∃ td : ByteArray, td = ⟨(x.drop 8).toArray⟩ := ⟨_, rfl⟩
          rw [← htd] at hsl
          have HTD := Lib.hid htd
          clear cn hk ev hxs hlast h8 htd
          go_enter Try.func45, Try.ntmps45
          go_wp2_with fail
          refine C1.out.mono ?_
          rintro e w1 ⟨a, c, rfl, S1⟩
          obtain ⟨g, rfl, hc⟩ := strs_cell S1 rfl 0 x rfl
          rw [← HXB.out] at hc
          have HS1 := Lib.hid S1.drop
          rw [← HM.out]
          clear S1
          go_wp2_with fail
          refine (CN.out _).mono ?_
          rintro e w2 ⟨rfl, rfl⟩
          go_wp2_with fail
          go_region_held (fun w' => w'.cell? ⟨g, 0, none⟩ = some (.string xb)) (first | assumption | exact hc)
            ((refine (CN.out _).mono ?_; rintro e w5 ⟨rfl, rfl⟩))
          have HS2 := Lib.hid HS1.out.drew
          go_wp2
          exact bodyPost_ret (v := .tuple #[.string td, .int .u64 (k : Int), .bool true, .bool true]) (by simp [results, Try.results45, go_sem]) rfl ⟨by rw [HTD.out]; rfl, HS2.out⟩
        · have ev : halfV (some (x :: l, nn, u)) = ([], 0, true, false) := if_neg fun h => hlast h.2
          rw [ev]
          obtain ⟨k, hk⟩ : ∃ k, k = numL (x.take 8) := ⟨_, rfl⟩
          rw [← hk] at cn hlast hn64
          have hkl : 4611686018427387904 < (k : Int) := by unfold lastN at hlast; omega
          have CN := Lib.hid cn
          clear cn hk ev hxs hlast h8
          go_enter Try.func45, Try.ntmps45
          go_wp2_with fail
          refine C1.out.mono ?_
          rintro e w1 ⟨a, c, rfl, S1⟩
          obtain ⟨g, rfl, hc⟩ := strs_cell S1 rfl 0 x rfl
          rw [← HXB.out] at hc
          have HS1 := Lib.hid S1.drop
          rw [← HM.out]
          clear S1
          go_wp2_with fail
          refine (CN.out _).mono ?_
          rintro e w2 ⟨rfl, rfl⟩
          go_wp2
          exact bodyPost_ret (v := .tuple #[.string ⟨#[]⟩, .int .u64 0, .bool true, .bool false]) (by simp [results, Try.results45, go_sem]) rfl ⟨rfl, HS1.out⟩
      · have ev : halfV (some (x :: l, nn, u)) = ([], 0, true, false) := if_neg fun h => h8 h.1
        rw [ev]
        have hx8 : xb.size < 8 := by omega
        have hx8i : (xb.size : Int) < 8 := by omega
        clear ev hxs h8
        go_enter Try.func45, Try.ntmps45
        go_wp2_with fail
        refine C1.out.mono ?_
        rintro e w1 ⟨a, c, rfl, S1⟩
        obtain ⟨g, rfl, hc⟩ := strs_cell S1 rfl 0 x rfl
        rw [← HXB.out] at hc
        have HS1 := Lib.hid S1.drop
        rw [← HM.out]
        clear S1
        go_wp2
        exact bodyPost_ret (v := .tuple #[.string ⟨#[]⟩, .int .u64 0, .bool true, .bool false]) (by simp [results, Try.results45, go_sem]) rfl ⟨rfl, HS1.out⟩
end Go.Proofs.Ytnekelndcpmonaa
