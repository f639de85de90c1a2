/- StoreHalves: the walk. -/
import Derived.Test.YtnekelndcpmonaaMg15
set_option linter.all false
namespace Go.Proofs.Ytnekelndcpmonaa
open Go.RowKit
set_option linter.unusedVariables false

theorem log_ne {a : List UInt8} {m m' : Nat} {o : Option (List UInt8)} (h : HalfT a m o) (hm : m + 1 ≤ m') (hm' : m' < 18446744073709551616) (rec : List UInt8) : a ≠ logB m' [rec] a := by
  intro e
  have h1 := h.num
  rw [e] at h1
  have h2 : numL ((logB m' [rec] a).take 8) = m' := by
    unfold logB
    rw [pic_eq, List.append_assoc]
    exact headL_num m' startN [] _ hm'
  omega
set_option maxRecDepth 20000 in
set_option maxHeartbeats 8000000 in
theorem halves_walk (w : World) (R : List Asn) (S : Sep w R) (nn : Int) (a : Option Addr) (la : List Int) (ca : Nat) (ha : NumsAt .i64 w a la) (hla : la.length ≤ 9223372036854775807) (hR : R = [oldA w]) (k7 n z h : Nat) (hk : Go.bits .and .i64 nn 7 = (k7 : Int)) (hk7 : k7 ≤ 7) (hn : n = 6 + k7) (hz : z = n / 2) (hh : h = 512 * z) :
    Calls Try.prog 6 #[.int .i64 nn, .slice a la.length ca] w fun e w' => e = .returned (.bool true) ∧ Sep w' R := by
  subst hR
  obtain ⟨na, hna⟩ : ∃ na, na = la.length := ⟨_, rfl⟩
  rw [← hna]
  rw [← hna] at hla
  have hn6 : (6 : Int) + (k7 : Int) = (n : Int) := by omega
  have hn0 : (0 : Int) ≤ (n : Int) := by omega
  have hnb : (n : Int) ≤ 13 := by omega
  have hz2 : (n : Int) / 2 = (z : Int) := by omega
  have hh2 : (512 : Int) * (z : Int) = (h : Int) := by omega
  have HN : Hid (6 ≤ n ∧ n ≤ 13 ∧ z = n / 2 ∧ h = 512 * z) := Lib.hid (by omega)
  have hz0 : (0 : Int) ≤ (z : Int) := by omega
  have hzb : (z : Int) ≤ 6 := by omega
  have HNA := Lib.hid hna
  have HA := Lib.hid ha
  have HS := Lib.hid S
  clear hna ha S hn hz hh
  go_enter Try.func6, Try.ntmps6
  go_wp2_with fail
  refine (shown4_sep HS.out).mono ?_
  rintro e w1 ⟨rfl, S1⟩
  have HS1 := Lib.hid S1
  clear S1
  go_wp2_with fail
  refine (new_sep HS1.out n (n : Int) rfl (by have := HN.out; omega) (by have := HN.out; omega)).mono ?_
  rintro e w2 ⟨p, rfl, S2⟩
  have HS2 := Lib.hid S2
  clear S2
  go_wp2_with fail
  refine (kFormat HS2.out (Same.refl _) HN.out.2.2.1 (by have := HN.out.1; omega) (by have := HN.out.2.1; omega)).mono ?_
  rintro e w3 ⟨sp, rfl, D3, I3, S3⟩
  have HS3 := Lib.hid S3
  have HI3 := Lib.hid I3
  clear S3 I3
  go_wp2_with fail
  clear hk hn6 hz2 hh2 hz0 hzb
  go_loopw [11] (fun i wr => ∃ (k : Nat) (D : Dk) (s : Sto) (a0 a1 ar : List UInt8), k ≤ na ∧ k ≤ 10 ∧ i = .int .i64 (k : Int) ∧ Sep wr [storeA sp p s, diskA p D, oldA w] ∧ Hid (StI D n z s a0 a1 ar (2 + 2 * k) ∧ (s.is = 0 ↔ k % 2 = 1))) (fun i _ => na - (intOf i).toNat)
  case atStart => exact ⟨0, D3, _, _, _, _, Nat.zero_le _, Nat.zero_le _, rfl, HS3.out, Lib.hid ⟨HI3.out, by show (-1 : Int) = 0 ↔ 0 % 2 = 1; omega⟩⟩
  case round =>
    obtain ⟨k, D, s, a0, a1, ar, hk1, hk10, rfl, Sr, HI⟩ := hrel
    by_cases hlt : k < na ∧ k < 10
    · obtain ⟨hlt1, hlt8⟩ := hlt
      have hl1 : (k : Int) < (na : Int) := by omega
      have hl8 : (k : Int) < 10 := by omega
      have hk0 : (0 : Int) ≤ (k : Int) := by omega
      obtain ⟨ab, ao, rfl, hx⟩ := HA.out k (by rw [← HNA.out]; exact hlt1)
      have hx2 := fun (W : World) (S : Below w.heap.size w W) => (S.cell (p := ⟨ab, ao + k, none⟩) (World.block_lt_of_cell? _ _ hx)).trans hx
      obtain ⟨x, hxe⟩ : ∃ x, x = la.getD k 0 := ⟨_, rfl⟩
      rw [← hxe] at hx2
      obtain ⟨kk, sz, hkk, hsz, hsz5, hkk0⟩ := and_500 x 500 (by omega)
      obtain ⟨c, hc⟩ : ∃ c, c = UInt8.ofNat k := ⟨_, rfl⟩
      have hcv : ((c.toNat : Nat) : Int) = (k : Int) := by rw [hc]; exact low8 k (by omega)
      have hrow := HI.out.1.row
      have har := area_sep Sr.up1 HI.out.1.calm
      rw [hrow] at har
      have HAR := Lib.hid har
      have HX2 := Lib.hid hx2
      have HC := Lib.hid hcv
      have hl0 : a0.length = h := by rw [HI.out.1.A0.len, HN.out.2.2.2]
      have hl1' : a1.length = h := by rw [HI.out.1.A1.len, HN.out.2.2.2]
      obtain ⟨s0, hs0⟩ : ∃ s0 : ByteArray, s0 = ⟨(a0 ++ (a1 ++ ar)).toArray⟩ := ⟨_, rfl⟩
      rw [← hs0] at HAR
      have HS0 := Lib.hid hs0
      clear hx hx2 hxe hc hrow har hcv Sr hs0
      go_wp2_with fail
      refine HAR.out.mono ?_
      rintro e w4 ⟨rfl, D4, hsm, S4⟩
      have hcell := HX2.out w4 S4.up2.old
      have HS4 := Lib.hid S4
      have HSM := Lib.hid hsm
      clear S4 hsm
      go_wp2_with fail
      have htx := text_sep HS4.out sz c _ _ hsz HC.out.symm (by omega)
      obtain ⟨sx, hsx⟩ : ∃ sx : ByteArray, sx = ⟨(List.replicate sz c).toArray⟩ := ⟨_, rfl⟩
      rw [← hsx] at htx
      refine htx.mono ?_
      rintro e w5 ⟨rfl, S5⟩
      obtain ⟨cap, w6, hcv, S6⟩ := conv_text S5 (List.replicate sz c) sz (List.length_replicate ..)
      rw [← hsx] at hcv
      have S7 : Sep w6 (storeA sp p s :: diskA p D4 :: thA (.slice (some ⟨w5.heap.size, 0, none⟩) sz cap) (List.replicate sz c) :: [oldA w]) := S6.pick [2, 1, 0, 3] 4 (by decide) rfl
      have HS7 := Lib.hid S7
      clear S5 S6 S7 htx hsx hcell
      go_wp2_with fail
      refine (kSave HS7.out (holds_thA' _ sz cap _ (List.length_replicate ..)) (HI.out.1.same HSM.out) (by unfold lastN; omega) (by rw [List.length_replicate]; have := HN.out; omega)).mono ?_
      rintro e w8 ⟨rfl, D8, s8, K8, S8'⟩
      have S8 : Sep w8 [storeA sp p s8, diskA p D8, oldA w] := S8'.pick [0, 1, 3] 4 (by decide) rfl
      obtain ⟨u0, m0, e0, _, f0⟩ := HI.out.1.j0
      obtain ⟨u1, m1, e1, _, f1⟩ := HI.out.1.j1
      obtain ⟨o0, o1, _, ⟨x0, hx0, hx0b⟩, ⟨x1, hx1, hx1b⟩, _⟩ := HI.out.1.kept
      have hx0c : s.j0.next < 18446744073709551616 := by rw [e0]; dsimp only; omega
      have hx1c : s.j1.next < 18446744073709551616 := by rw [e1]; dsimp only; omega
      clear S8' e0 e1 f0 f1 hcv
      by_cases hi : s.is = 0
      · skip
        have hm := (HI.out.2).1 hi
        have K9 := K8.st
        rw [if_pos hi, if_pos hi] at K9
        have har8 := area_sep S8.up1 K9.calm
        rw [K9.row] at har8
        have hl8 : (a0).length = h := by rw [K9.A0.len, HN.out.2.2.2]
        have hl9 : (logB s.j1.next [recS (s.count + 1) (List.replicate sz c)] a1).length = h := by rw [K9.A1.len, HN.out.2.2.2]
        obtain ⟨c0, c1, c2⟩ := cut3 a0 a1 ar h hl0 hl1'
        obtain ⟨d0, d1, d2⟩ := cut3 (a0) (logB s.j1.next [recS (s.count + 1) (List.replicate sz c)] a1) ar h hl8 hl9
        obtain ⟨s8t, hs8t⟩ : ∃ s8t : ByteArray, s8t = ⟨((a0) ++ ((logB s.j1.next [recS (s.count + 1) (List.replicate sz c)] a1) ++ ar)).toArray⟩ := ⟨_, rfl⟩
        have hne : a1 ≠ logB s.j1.next [recS (s.count + 1) (List.replicate sz c)] a1 := log_ne hx1 hx1b hx1c _
        obtain ⟨b0, hb0⟩ : ∃ b0 : ByteArray, b0 = ⟨a0.toArray⟩ := ⟨_, rfl⟩
        obtain ⟨b1, hb1⟩ : ∃ b1 : ByteArray, b1 = ⟨a1.toArray⟩ := ⟨_, rfl⟩
        obtain ⟨br, hbr⟩ : ∃ br : ByteArray, br = ⟨ar.toArray⟩ := ⟨_, rfl⟩
        obtain ⟨bn, hbn⟩ : ∃ bn : ByteArray, bn = ⟨(logB s.j1.next [recS (s.count + 1) (List.replicate sz c)] a1).toArray⟩ := ⟨_, rfl⟩
        rw [← hs8t] at har8 d0 d1 d2
        rw [← HS0.out] at c0 c1 c2
        have he1 : (b1.toList == bn.toList) = false := by rw [hb1, hbn, ByteArray.toList_mk, ByteArray.toList_mk]; simpa using hne
        rw [← hb0] at c0
        rw [← hb1] at c1
        rw [← hbr] at c2 d2
        rw [← hb0] at d0
        rw [← hbn] at d1
        have hmo : (k : Int) % 2 = 1 := by omega
        have hmt : (k : Int).tmod 2 = 1 := by rw [Int.tmod_eq_emod_of_nonneg hk0]; exact hmo
        have hw2 : IntKind.i64.wrap (2 * (h : Int)) = 2 * (h : Int) := by rw [IntKind.wrap_i64]; have := HN.out; omega
        have hh0 : (0 : Int) ≤ (h : Int) := by omega
        have hhb : (h : Int) ≤ 10000 := by have := HN.out; omega
        have HAR8 := Lib.hid har8
        have HK9 := Lib.hid K9
        have HK8 : Hid (s8.is = if s.is = 0 then 1 else 0) := Lib.hid K8.is
        have HM := Lib.hid hm
        have HI0 := Lib.hid hi
        clear har8 K9 hl8 hl9 hne hb0 hb1 hbr hbn hs8t hi K8 hm S8
        go_wp2_with fail
        refine HAR8.out.mono ?_
        rintro e w9 ⟨rfl, D9, hs9, S9⟩
        have HS9 := Lib.hid S9
        have HSM9 := Lib.hid hs9
        clear S9 hs9
        go_wp2_with fail
        go_region_held (fun _ => True) (exact trivial) (fail)
        go_wp2_with fail
        go_region_held (fun _ => True) (exact trivial) (fail)
        go_wp2_with fail
        go_region_held (fun _ => True) (exact trivial) (fail)
        clear c0 c1 c2 d0 d1 d2
        go_wp2_with fail
        go_roundw
        case rel =>
          refine ⟨k + 1, D9, s8, _, _, ar, by omega, by omega, by go_num, HS9.out.up1.drew.drew.drew, Lib.hid ⟨(HK9.out.same HSM9.out).mono (by omega), ?_⟩⟩
          rw [HK8.out, if_pos HI0.out]
          have := HM.out
          omega
        case measure => simp [intOf]; omega
      · skip
        have hm : ¬ k % 2 = 1 := fun h => hi ((HI.out.2).2 h)
        have K9 := K8.st
        rw [if_neg hi, if_neg hi] at K9
        have har8 := area_sep S8.up1 K9.calm
        rw [K9.row] at har8
        have hl8 : (logB s.j0.next [recS (s.count + 1) (List.replicate sz c)] a0).length = h := by rw [K9.A0.len, HN.out.2.2.2]
        have hl9 : (a1).length = h := by rw [K9.A1.len, HN.out.2.2.2]
        obtain ⟨c0, c1, c2⟩ := cut3 a0 a1 ar h hl0 hl1'
        obtain ⟨d0, d1, d2⟩ := cut3 (logB s.j0.next [recS (s.count + 1) (List.replicate sz c)] a0) (a1) ar h hl8 hl9
        obtain ⟨s8t, hs8t⟩ : ∃ s8t : ByteArray, s8t = ⟨((logB s.j0.next [recS (s.count + 1) (List.replicate sz c)] a0) ++ ((a1) ++ ar)).toArray⟩ := ⟨_, rfl⟩
        have hne : a0 ≠ logB s.j0.next [recS (s.count + 1) (List.replicate sz c)] a0 := log_ne hx0 hx0b hx0c _
        obtain ⟨b0, hb0⟩ : ∃ b0 : ByteArray, b0 = ⟨a0.toArray⟩ := ⟨_, rfl⟩
        obtain ⟨b1, hb1⟩ : ∃ b1 : ByteArray, b1 = ⟨a1.toArray⟩ := ⟨_, rfl⟩
        obtain ⟨br, hbr⟩ : ∃ br : ByteArray, br = ⟨ar.toArray⟩ := ⟨_, rfl⟩
        obtain ⟨bn, hbn⟩ : ∃ bn : ByteArray, bn = ⟨(logB s.j0.next [recS (s.count + 1) (List.replicate sz c)] a0).toArray⟩ := ⟨_, rfl⟩
        rw [← hs8t] at har8 d0 d1 d2
        rw [← HS0.out] at c0 c1 c2
        have he1 : (b0.toList == bn.toList) = false := by rw [hb0, hbn, ByteArray.toList_mk, ByteArray.toList_mk]; simpa using hne
        rw [← hb0] at c0
        rw [← hb1] at c1
        rw [← hbr] at c2 d2
        rw [← hbn] at d0
        rw [← hb1] at d1
        have hmo : (k : Int) % 2 = 0 := by omega
        have hmt : (k : Int).tmod 2 = 0 := by rw [Int.tmod_eq_emod_of_nonneg hk0]; exact hmo
        have hw2 : IntKind.i64.wrap (2 * (h : Int)) = 2 * (h : Int) := by rw [IntKind.wrap_i64]; have := HN.out; omega
        have hh0 : (0 : Int) ≤ (h : Int) := by omega
        have hhb : (h : Int) ≤ 10000 := by have := HN.out; omega
        have HAR8 := Lib.hid har8
        have HK9 := Lib.hid K9
        have HK8 : Hid (s8.is = if s.is = 0 then 1 else 0) := Lib.hid K8.is
        have HM := Lib.hid hm
        have HI0 := Lib.hid hi
        clear har8 K9 hl8 hl9 hne hb0 hb1 hbr hbn hs8t hi K8 hm S8
        go_wp2_with fail
        refine HAR8.out.mono ?_
        rintro e w9 ⟨rfl, D9, hs9, S9⟩
        have HS9 := Lib.hid S9
        have HSM9 := Lib.hid hs9
        clear S9 hs9
        go_wp2_with fail
        go_region_held (fun _ => True) (exact trivial) (fail)
        go_wp2_with fail
        go_region_held (fun _ => True) (exact trivial) (fail)
        go_wp2_with fail
        go_region_held (fun _ => True) (exact trivial) (fail)
        clear c0 c1 c2 d0 d1 d2
        go_wp2_with fail
        go_roundw
        case rel =>
          refine ⟨k + 1, D9, s8, _, _, ar, by omega, by omega, by go_num, HS9.out.up1.drew.drew.drew, Lib.hid ⟨(HK9.out.same HSM9.out).mono (by omega), ?_⟩⟩
          rw [HK8.out, if_neg HI0.out]
          have := HM.out
          omega
        case measure => simp [intOf]; omega
    · have HSr := Lib.hid Sr
      clear Sr
      by_cases h1 : k < na
      · have hl1 : (k : Int) < (na : Int) := by omega
        have hl8 : ¬ (k : Int) < 10 := by omega
        clear hlt
        go_wp2
        go_ret
        exact ⟨rfl, HSr.out.pick [2] 3 (by decide) rfl⟩
      · have hl1 : ¬ (k : Int) < (na : Int) := by omega
        clear hlt
        go_wp2
        go_ret
        exact ⟨rfl, HSr.out.pick [2] 3 (by decide) rfl⟩
theorem StoreHalves_walk (W : World) (nn : Int) (a : Option Addr) (la : List Int) (ca : Nat) (ha : NumsAt .i64 W a la) (hla : la.length ≤ 9223372036854775807) :
    Calls Try.prog 6 #[.int .i64 nn, .slice a la.length ca] W fun e w' => e = .returned (.bool true) ∧ Below W.heap.size W w' := by
  obtain ⟨k, h7, hk⟩ := and_i64 nn 7 (by omega)
  exact (halves_walk W _ (Sep.start W) nn a la ca ha hla rfl k _ _ _ hk h7 rfl rfl rfl).mono fun e w' h => ⟨h.1, h.2.fin⟩
end Go.Proofs.Ytnekelndcpmonaa
