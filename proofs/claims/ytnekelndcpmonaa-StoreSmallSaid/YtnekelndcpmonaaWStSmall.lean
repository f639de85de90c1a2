/- StoreSmall: the walk. -/
import Derived.Test.YtnekelndcpmonaaMg15
set_option linter.all false
namespace Go.Proofs.Ytnekelndcpmonaa
open Go.RowKit
set_option linter.unusedVariables false

set_option maxRecDepth 20000 in
set_option maxHeartbeats 8000000 in
theorem small_few (w : World) (R : List Asn) (S : Sep w R) (nn : Int) (k n : Nat) (hk : Go.bits .and .i64 nn 65535 = (k : Int)) (hn : n = 1 + k % 10) (h4 : n < 4) :
    Calls Try.prog 5 #[.int .i64 nn] w fun e w' => e = .returned (.bool true) ∧ Sep w' R := by
  have hk0 : (0 : Int) ≤ (k : Int) := by omega
  have hm : (1 : Int) + (k : Int) % 10 = (n : Int) := by omega
  have hn4 : (n : Int) < 4 := by omega
  have HN : Hid (1 ≤ n ∧ n < 4) := Lib.hid (by omega)
  have HS := Lib.hid S
  have hnl : (Dk.new n).secs.length = n := by simp [Dk.new]
  have HNL := Lib.hid hnl
  clear S hn h4 hnl
  go_enter Try.func5, Try.ntmps5
  go_wp2_with fail
  refine (shown4_sep HS.out).mono ?_
  rintro e w1 ⟨rfl, S1⟩
  have HS1 := Lib.hid S1
  clear S1
  go_wp2_with fail
  refine (new_sep HS1.out n (n : Int) rfl (by have := HN.out; omega) (by have := HN.out; omega)).mono ?_
  rintro e w2 ⟨p, rfl, S2⟩
  have HS2 := Lib.hid S2
  clear S2
  go_wp2_with fail
  refine (storeOpen_small HS2.out (by rw [HNL.out]; exact HN.out.2)).mono ?_
  rintro e w3 ⟨rfl, S3⟩
  have HS3 := Lib.hid S3
  clear S3
  go_wp2_with fail
  refine (storeFormat_small HS3.out (by rw [HNL.out]; exact HN.out.2)).mono ?_
  rintro e w4 ⟨rfl, S4⟩
  have HS4 := Lib.hid S4.drop
  clear S4
  go_wp2
  go_ret
  exact ⟨rfl, HS4.out⟩
set_option maxRecDepth 20000 in
set_option maxHeartbeats 8000000 in
theorem small_walk (w : World) (R : List Asn) (S : Sep w R) (nn : Int) (k n z rn : Nat) (hk : Go.bits .and .i64 nn 65535 = (k : Int)) (hn : n = 1 + k % 10) (h4 : 4 ≤ n) (hz : z = n / 2) (hrn : rn = (z - 1) * 512 - 24) :
    Calls Try.prog 5 #[.int .i64 nn] w fun e w' => e = .returned (.bool true) ∧ Sep w' R := by
  have hk0 : (0 : Int) ≤ (k : Int) := by omega
  have hm : (1 : Int) + (k : Int) % 10 = (n : Int) := by omega
  have hn4 : ¬ (n : Int) < 4 := by omega
  have HN : Hid (4 ≤ n ∧ n ≤ 10 ∧ z = n / 2) := Lib.hid (by omega)
  have hrm : ((z : Int) - 1) * 512 - 16 - 8 = (rn : Int) := by omega
  have HRM := Lib.hid hrm
  have HRN : Hid (rn + 24 = (z - 1) * 512 ∧ rn ≤ 5000 ∧ (0 : Int) ≤ (rn : Int) ∧ (rn : Int) ≤ 5000) := Lib.hid (by omega)
  have HS := Lib.hid S
  have hnl : (Dk.new n).secs.length = n := by simp [Dk.new]
  obtain ⟨Db, hb1, hb2⟩ := open_blank n z hz h4
  have HB1 := Lib.hid hb1
  have HB2 := Lib.hid hb2
  have HNL := Lib.hid hnl
  clear S hn h4 hnl hz hrn hrm hb1 hb2
  go_enter Try.func5, Try.ntmps5
  go_wp2_with fail
  refine (shown4_sep HS.out).mono ?_
  rintro e w1 ⟨rfl, S1⟩
  have HS1 := Lib.hid S1
  clear S1
  go_wp2_with fail
  refine (new_sep HS1.out n (n : Int) rfl (by have := HN.out; omega) (by have := HN.out; omega)).mono ?_
  rintro e w2 ⟨p, rfl, S2⟩
  have HS2 := Lib.hid S2
  clear S2
  go_wp2_with fail
  refine (sOpen_err HS2.out z (by rw [HNL.out]; exact HN.out.1) (by rw [HNL.out]; have := HN.out.2.1; omega) (by rw [HNL.out]; exact HN.out.2.2) Db 2 HB1.out).mono ?_
  rintro e w3 ⟨rfl, S3⟩
  have HS3 := Lib.hid S3
  clear S3
  go_wp2_with fail
  refine (kFormat HS3.out HB2.out HN.out.2.2 HN.out.1 (by have := HN.out.2.1; omega)).mono ?_
  rintro e w4 ⟨s0, rfl, D4, I4, S4⟩
  have HS4 := Lib.hid S4.drop
  have HI4 := Lib.hid I4
  clear S4 I4
  go_wp2_with fail
  refine (kOpen HS4.out HI4.out (by unfold lastN; omega)).mono ?_
  rintro e w5 ⟨sp, rfl, D5, j0, j1, -, -, I5, S5⟩
  have HS5 := Lib.hid S5
  have HI5 := Lib.hid I5
  clear S5 I5
  go_wp2_with fail
  refine (sRoom_sep HS5.out (by show z ≤ 4096; have := HN.out; omega)).mono ?_
  rw [show (stoOf z j0 j1 ((stoNew z (jOf 0 z 1 []) (jOf z z 1 [])).is, (stoNew z (jOf 0 z 1 []) (jOf z z 1 [])).count, (stoNew z (jOf 0 z 1 []) (jOf z z 1 [])).thing)).size = z from rfl, HRM.out]
  rintro e w6 ⟨rfl, rfl⟩
  have hmk := run_make_zeros w5 rn (by have := HRN.out; omega)
  have S6 := made_bytes HS5.out rn (by have := HRN.out; omega)
  obtain ⟨w6, hw6⟩ : ∃ w6, w6 = w5.alloc (.cells ((List.replicate rn (0 : UInt8)).map byteV).toArray 5) := ⟨_, rfl⟩
  rw [← hw6] at hmk S6
  have HS6 := Lib.hid S6.dn2
  clear hw6 S6
  go_wp2_with fail
  refine (kSave HS6.out (holds_bytes _ rn rn (List.replicate rn 0)) HI5.out (by unfold lastN; omega) (by rw [List.length_replicate]; exact Nat.le_of_eq HRN.out.1)).mono ?_
  rintro e w7 ⟨rfl, D7, s7, K7, S7⟩
  have HS7 := Lib.hid S7
  have HK7 := Lib.hid K7
  clear S7 K7 hmk
  have hr1 : (rn : Int) + 1 = ((rn + 1 : Nat) : Int) := by omega
  obtain ⟨r1, hr1e⟩ : ∃ r1, r1 = rn + 1 := ⟨_, rfl⟩
  rw [← hr1e] at hr1
  have hb0 : (0 : Int) ≤ (rn : Int) := by omega
  have hb1 : (rn : Int) ≤ 5000 := HRN.out.2.2.2
  have hmk := run_make_zeros w7 r1 (by have := HRN.out; omega)
  have S8 := made_bytes HS7.out r1 (by have := HRN.out; omega)
  obtain ⟨w8, hw8⟩ : ∃ w8, w8 = w7.alloc (.cells ((List.replicate r1 (0 : UInt8)).map byteV).toArray 5) := ⟨_, rfl⟩
  rw [← hw8] at hmk S8
  have HS8 := Lib.hid S8.up1
  have HR1 := Lib.hid hr1e
  clear hw8 S8 hr1e
  go_wp2_with fail
  refine (sSave_full HS8.out HK7.out.st.broken (by have := HK7.out.st.size; have := HN.out; omega) (by have := HK7.out.st.size; rw [this]; have := HRM.out; have := HR1.out; omega)).mono ?_
  rintro e w9 ⟨rfl, S9⟩
  have HS9 := Lib.hid S9
  clear S9 hmk hr1
  have hth : s7.thing.length = rn := by rw [HK7.out.thing, List.length_replicate]
  have his : 0 ≤ s7.is := by rw [HK7.out.is]; split <;> omega
  have hld := sLoad_sep HS9.out HK7.out.st.broken his (by rw [hth]; have := HRN.out; omega)
  rw [hth] at hld
  have HLD := Lib.hid hld
  clear hth his hld
  go_wp2_with fail
  refine HLD.out.mono ?_
  rintro e w10 ⟨g, cap, rfl, S10⟩
  have HS10 := Lib.hid (S10.drop.drop.drop.drop.drop)
  clear S10
  go_wp2
  go_ret
  exact ⟨rfl, HS10.out⟩
theorem StoreSmall_walk (W : World) (nn : Int) :
    Calls Try.prog 5 #[.int .i64 nn] W fun e w' => e = .returned (.bool true) ∧ Below W.heap.size W w' := by
  obtain ⟨k, h7, hk⟩ := and_i64 nn 65535 (by omega)
  by_cases h4 : 1 + k % 10 < 4
  · exact (small_few W _ (Sep.start W) nn k _ hk rfl h4).mono fun e w' h => ⟨h.1, h.2.fin⟩
  · exact (small_walk W _ (Sep.start W) nn k _ _ _ hk rfl (by omega) rfl rfl).mono fun e w' h => ⟨h.1, h.2.fin⟩
end Go.Proofs.Ytnekelndcpmonaa
