/- StoreOwn: the walk. -/
import Derived.Test.YtnekelndcpmonaaMg15
set_option linter.all false
namespace Go.Proofs.Ytnekelndcpmonaa
open Go.RowKit
set_option linter.unusedVariables false

theorem BytesAt.cut {w : World} {a : Option Addr} {l : List UInt8} (h : BytesAt w a l) (m : Nat) : BytesAt w a (l.take m) := fun i hi => by
  rw [List.length_take] at hi
  obtain ⟨b, o, e, hc⟩ := h i (by omega)
  refine ⟨b, o, e, ?_⟩
  rw [hc]
  simp [List.getD, List.getElem?_take, show i < m by omega]
set_option maxRecDepth 20000 in
set_option maxHeartbeats 8000000 in
theorem own_walk (w : World) (R : List Asn) (S : Sep w R) (a : Option Addr) (cap : Nat) (l : List UInt8) (hA : BytesAt w a l) (hl : l.length ≤ cap) (hn : a = none → cap = 0) (hR : R = [oldA w]) (m : Nat) (q : List UInt8) (hm : m = min l.length 500) (hq : q = l.take m) :
    Calls Try.prog 7 #[.slice a l.length cap] w fun e w' => e = .returned (.bool true) ∧ Sep w' R := by
  subst hR
  have hmin : (if (500 : Int) < (l.length : Int) then (500 : Int) else (l.length : Int)) = (m : Int) := by rw [hm]; split <;> omega
  have hql : q.length = m := by rw [hq, List.length_take]; omega
  have hm2 : m ≤ 500 := by omega
  have hmc : m ≤ cap := by omega
  have hAq : BytesAt w a q := by rw [hq]; exact hA.cut m
  have HQL := Lib.hid hql
  have HAQ := Lib.hid hAq
  have HNN := Lib.hid hn
  have HM2 := Lib.hid hm2
  have HS := Lib.hid S
  clear hm hq hA hql hAq S hn hl
  go_enter Try.func7, Try.ntmps7
  go_wp2_with fail
  refine (shown4_sep HS.out).mono ?_
  rintro e w1 ⟨rfl, S1⟩
  have HS1 := Lib.hid S1
  clear S1
  go_wp2_with fail
  refine (new_sep HS1.out 8 _ rfl (by omega) (by omega)).mono ?_
  rintro e w2 ⟨p, rfl, S2⟩
  have HS2 := Lib.hid S2
  clear S2
  go_wp2_with fail
  refine (kFormat (n := 8) (z := 4) HS2.out (Same.refl _) rfl (by omega) (by omega)).mono ?_
  rintro e w3 ⟨sp, rfl, D3, I3, S3⟩
  have S4 := (S3.alloc #[] 5).blkBytes (l := []) 0 rfl (by omega)
  have HO4 := Lib.hid (S3.up2.old)
  have HS4 := Lib.hid S4
  have HI3 := Lib.hid I3
  clear S3 I3 S4
  go_wp2_with (at_builtin; refine wpList_append_b rfl (.tmp 44) (.tmp 45) rfl HS4.out rfl a m cap q rfl HNN.out (HAQ.out.below (bgo HO4.out ((Below.refl _ _).alloc (Nat.le_refl _) _))) HQL.out (by omega) ?next)
  case next =>
  intro g cap4 w5 S5 _ _ _ hg5
  have HS5 := Lib.hid S5.dn2
  clear S5
  go_wp2_with fail
  refine (kSave HS5.out (holds_bytes g m cap4 q) HI3.out (by unfold lastN; omega) (by rw [HQL.out]; omega)).mono ?_
  rintro e w6 ⟨rfl, D6, s6, K6, S6⟩
  have HS6 := Lib.hid S6.up2
  have HK6 := Lib.hid K6
  clear S6 K6
  go_wp2_with fail
  go_loopw [10] (fun i wr => ∃ (k : Nat) (q' : List UInt8), k ≤ m ∧ i = .int .i64 (k : Int) ∧ Sep wr (bytesA (.slice g m cap4) m q' :: storeA sp p s6 :: diskA p D6 :: [oldA w])) (fun i _ => m - (intOf i).toNat)
  case atStart => exact ⟨0, q, Nat.zero_le _, rfl, HS6.out⟩
  case round =>
    obtain ⟨k, q', hk, rfl, Sr⟩ := hrel
    by_cases hlt : k < m
    · have hlt1 : (k : Int) < (m : Int) := by omega
      have hk0 : (0 : Int) ≤ (k : Int) := by omega
      obtain ⟨gb, rfl, _, _, hc, hf⟩ := Sr.bytes.at (by omega)
      have hck := hc k hlt
      obtain ⟨x, hx⟩ : ∃ x, x = q'.getD k 0 := ⟨_, rfl⟩
      rw [← hx] at hck
      obtain ⟨y, hy⟩ : ∃ y : UInt8, y = x + 1 := ⟨_, rfl⟩
      have hxv : ((x.toNat : Int) + 1) % 256 = (y.toNat : Int) := by rw [hy, UInt8.toNat_add]; have : (1 : UInt8).toNat = 1 := rfl; omega
      have HS7 := Lib.hid (Sr.bytes_set k y)
      have hfk := hf k
      clear hx hy Sr hc hf
      go_wp2
      go_roundw
      case rel => exact ⟨k + 1, _, by omega, by go_num, HS7.out⟩
      case measure => simp [intOf]; omega
    · obtain rfl : k = m := by omega
      have HSr := Lib.hid Sr.up1
      clear Sr
      have hth : s6.thing.length = k := by rw [HK6.out.thing, HQL.out]
      have his : 0 ≤ s6.is := by rw [HK6.out.is]; split <;> omega
      have hld := fun (W : World) (R : List Asn) (S : Sep W (storeA sp p s6 :: R)) => sLoad_sep S HK6.out.st.broken his (by rw [hth]; omega)
      rw [HK6.out.thing, HQL.out] at hld
      have HLD := Lib.hid hld
      clear hth his hld
      go_wp2_with fail
      refine (HLD.out _ _ HSr.out).mono ?_
      rintro e w7 ⟨g7, cap7, rfl, S7⟩
      have tr1 : (convert 31 9 (.slice g7 k cap7)).run Try.prog w7 = _ := run_string S7.bytes.reads k cap7 HQL.out
      have tr2 : (convert 31 9 (.slice a k cap)).run Try.prog w7 = _ := run_string (HAQ.out.below S7.up4.old) k cap HQL.out
      have HS7 := Lib.hid S7
      clear S7
      go_wp2_with fail
      clear tr1 tr2
      go_loopw [14] (fun i wr => ∃ (n : Nat) (q' : List UInt8), n ≤ k ∧ i = .int .i64 (n : Int) ∧ Sep wr (bytesA (.slice g7 k cap7) k q' :: storeA sp p s6 :: bytesA (.slice g k cap4) k _ :: diskA p D6 :: [oldA w])) (fun i _ => k - (intOf i).toNat)
      case atStart => exact ⟨0, q, Nat.zero_le _, rfl, HS7.out⟩
      case round =>
        obtain ⟨n, q2, hn, rfl, Sr⟩ := hrel
        by_cases hlt : n < k
        · have hlt1 : (n : Int) < (k : Int) := by omega
          have hk0 : (0 : Int) ≤ (n : Int) := by omega
          obtain ⟨gb, rfl, _, _, hc, hf⟩ := Sr.bytes.at (by omega)
          have hck := hc n hlt
          obtain ⟨x, hx⟩ : ∃ x, x = q2.getD n 0 := ⟨_, rfl⟩
          rw [← hx] at hck
          obtain ⟨y, hy⟩ : ∃ y : UInt8, y = x + 1 := ⟨_, rfl⟩
          have hxv : ((x.toNat : Int) + 1) % 256 = (y.toNat : Int) := by rw [hy, UInt8.toNat_add]; have : (1 : UInt8).toNat = 1 := rfl; omega
          have HS8 := Lib.hid (Sr.bytes_set n y)
          have hfk := hf n
          clear hx hy Sr hc hf
          go_wp2
          go_roundw
          case rel => exact ⟨n + 1, _, by omega, by go_num, HS8.out⟩
          case measure => simp [intOf]; omega
        · obtain rfl : n = k := by omega
          have HSr := Lib.hid Sr.up1
          clear Sr
          go_wp2_with fail
          refine (HLD.out _ _ HSr.out).mono ?_
          rintro e w8 ⟨g8, cap8, rfl, S8⟩
          have HS8 := Lib.hid (S8.up4)
          clear S8
          go_wp2_with fail
          refine (kOpen HS8.out HK6.out.st (by unfold lastN; omega)).mono ?_
          rintro e w9 ⟨sq, rfl, D9, j0, j1, -, -, I9, S9⟩
          have HS9 := Lib.hid S9
          have hth : (stoOf 4 j0 j1 (s6.is, s6.count, s6.thing)).thing = q := HK6.out.thing
          have his : 0 ≤ (stoOf 4 j0 j1 (s6.is, s6.count, s6.thing)).is := by show 0 ≤ s6.is; rw [HK6.out.is]; split <;> omega
          have hld := sLoad_sep HS9.out rfl his (by rw [hth, HQL.out]; omega)
          rw [hth, HQL.out] at hld
          have HLD9 := Lib.hid hld
          clear hth his hld S9
          go_wp2_with fail
          refine HLD9.out.mono ?_
          rintro e w10 ⟨g10, cap10, rfl, S10⟩
          have tr1 : (convert 31 9 (.slice g8 n cap8)).run Try.prog w10 = _ := run_string S10.up3.bytes.reads n cap8 HQL.out
          have tr2 : (convert 31 9 (.slice g10 n cap10)).run Try.prog w10 = _ := run_string S10.bytes.reads n cap10 HQL.out
          have tr3 : (convert 31 9 (.slice a n cap)).run Try.prog w10 = _ := run_string (HAQ.out.below S10.up7.old) n cap HQL.out
          have HS10 := Lib.hid S10.drop.drop.drop.drop.drop.drop.drop
          clear S10
          go_wp2
          go_ret
          exact ⟨rfl, HS10.out⟩
theorem StoreOwn_walk (W : World) (a : Option Addr) (cap : Nat) (l : List UInt8) (hA : BytesAt W a l) (hl : l.length ≤ cap) (hn : a = none → cap = 0) :
    Calls Try.prog 7 #[.slice a l.length cap] W fun e w' => e = .returned (.bool true) ∧ Below W.heap.size W w' :=
  (own_walk W _ (Sep.start W) a cap l hA hl hn rfl _ _ rfl rfl).mono fun e w' h => ⟨h.1, h.2.fin⟩
end Go.Proofs.Ytnekelndcpmonaa
