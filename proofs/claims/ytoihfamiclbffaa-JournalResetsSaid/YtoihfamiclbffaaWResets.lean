/- JournalResets: the walk. -/
import Derived.Test.YtoihfamiclbffaaLawC
import Derived.Test.YtoihfamiclbffaaLog
import Derived.Test.YtoihfamiclbffaaStr
import Derived.Deep.RegionHeld
import Derived.Deep.RegionLaw
import Derived.Deep.QuietTactic
import Derived.Deep.CutBlock
import Derived.Deep.DeepCutAuto
import Derived.RegionTactic
namespace Go.Proofs.Ytoihfamiclbffaa
open Go.RowKit

set_option maxRecDepth 20000 in
set_option maxHeartbeats 8000000 in
theorem resets_walk (w : World) (R : List Asn) (S : Sep w R) (a b : Option Addr) (la lb : List ByteArray) (ca cb : Nat) (ha : StrsAt w a la) (hb : StrsAt w b lb) (hla : la.length ≤ 9223372036854775807) (hlb : lb.length ≤ 9223372036854775807) (hR : R = [oldA w]) :
    Calls Try.prog 6 #[.slice a la.length ca, .slice b lb.length cb] w fun e w' => e = .returned (.bool true) ∧ Sep w' R := by
  subst hR
  obtain ⟨na, hna⟩ : ∃ na, na = la.length := ⟨_, rfl⟩
  obtain ⟨nb, hnb⟩ : ∃ nb, nb = lb.length := ⟨_, rfl⟩
  rw [← hna, ← hnb]
  rw [← hna] at hla
  rw [← hnb] at hlb
  have HNA := Lib.hid hna
  have HNB := Lib.hid hnb
  have HA := Lib.hid ha
  have HB := Lib.hid hb
  have HS := Lib.hid S
  clear hna hnb ha hb S
  go_enter Try.func6, Try.ntmps6
  go_wp2_with fail
  refine (shown3_sep HS.out).mono ?_
  rintro e w1 ⟨rfl, S1⟩
  have HS1 := Lib.hid S1
  clear S1
  go_wp2_with fail
  refine (new_sep HS1.out 20 20 rfl (by omega) (by omega)).mono ?_
  rintro e w2 ⟨p, rfl, S2⟩
  obtain ⟨D1, D2, g1, g2, g3, g4, g5, g6, g7⟩ := log_format (Calm.new 20) (dk_len S2).1 (f := 0) (z := 20) (by omega) (by omega)
  have HS2 := Lib.hid S2
  have G1 := Lib.hid g1
  have G2 := Lib.hid g2
  have G3 := Lib.hid g3
  have G4 := Lib.hid g4
  clear S2 g1 g2 g3 g4 g5 g6 g7
  go_wp2_with fail
  refine (format_sep HS2.out 0 20 _ _ rfl rfl (by omega) (by rw [(Calm.new 20).len]; omega) (Nat.zero_le _) D1 D2 _ _ G1.out G2.out).mono ?_
  rintro e w3 ⟨q, rfl, S3⟩
  have HS3 := Lib.hid S3
  clear S3 HS1 HS2 G1 G2
  go_upto_block 0 with fail
  go_cut [10] from 36 to 59 (fun i wx => ∃ (D : Dk) (ps : List (List UInt8)), Sep wx [jnA q p (jOf 0 20 1 ps), diskA p D, oldA w] ∧ Hid (Calm D 20 8 ∧ Log D 0 20 1 ps (rowD (Dk.new 20) 0 20) ∧ ps.length ≤ 8 ∧ ∀ b ∈ ps, b.length ≤ 300))
  case first =>
    go_wp2_with fail
    go_loopw [10] (fun i wr => ∃ (k : Nat) (D : Dk), k ≤ na ∧ k ≤ 8 ∧ i = .int .i64 (k : Int) ∧ Sep wr [jnA q p (jOf 0 20 1 ((cuts3 la).take k)), diskA p D, oldA w] ∧ Hid (Calm D 20 k ∧ Log D 0 20 1 ((cuts3 la).take k) (rowD (Dk.new 20) 0 20))) (fun i _ => na - (intOf i).toNat)
    case atStart => exact ⟨0, D2, Nat.zero_le _, Nat.zero_le _, rfl, HS3.out, Lib.hid ⟨G3.out, G4.out⟩⟩
    case round =>
      obtain ⟨k, D, hk, hk8, rfl, Sr, HI⟩ := hrel
      by_cases hlt : k < na ∧ k < 8
      · obtain ⟨hlt1, hlt8⟩ := hlt
        have hlt8i : (k : Int) < 8 := by omega
        have hk1 : (k : Int) < (na : Int) := by omega
        have hk0 : (0 : Int) ≤ (k : Int) := by omega
        obtain ⟨ab, ao, rfl, hc⟩ := HA.out k (by have := HNA.out; omega)
        obtain ⟨x, hx⟩ : ∃ x, x = la.getD k ByteArray.empty := ⟨_, rfl⟩
        rw [← hx] at hc
        have hcr := Sr.up2.arg hc
        have Hc := Lib.hid hc
        have hcl : ab < wr.heap.size := World.block_lt_of_cell? _ _ hcr
        have HSr := Lib.hid Sr
        have HX := Lib.hid hx
        obtain ⟨nc, hmin, hn1, hn2, hn3, hn4, hn5⟩ := cut_string x 300
        have hmin' : (if (300 : Int) < (x.size : Int) then (300 : Int) else (x.size : Int)) = (nc : Int) := hmin
        have hn1' : (nc : Int) ≤ 300 := by omega
        have hn2' : (nc : Int) ≤ (x.size : Int) := by omega
        have hn0' : (0 : Int) ≤ (nc : Int) := by omega
        have hcv := conv_cut x nc hn5
        have hsl := slice_str x nc hn2
        have Hcb := Lib.hid (conv_cut_at x nc (c300 x) hn4)
        have Hlen : Hid ((c300 x).length = nc) := Lib.hid hn3
        clear hc Sr hx hmin hn1 hn2 hn3 hn4 hn5
        go_wp2_with fail
        obtain ⟨D3, a1, a2, a3, _, _⟩ := log_small (b := c300 x) HI.out.1 HI.out.2 (by omega) (by rw [List.length_take, cuts3_len]; unfold lastN; omega) (by have := c300_len x; omega) (fun b hb => by have := cuts3_le la k b hb; omega) (by rw [List.length_take]; omega)
        rw [← cuts3_succ la k x (by have := HNA.out; omega) HX.out] at a1 a3
        have HAP := Lib.hid a1
        have HI2 : Hid (Calm D3 20 (k + 1) ∧ Log D3 0 20 1 ((cuts3 la).take (k + 1)) (rowD (Dk.new 20) 0 20)) := Lib.hid ⟨a2, a3⟩
        have HS4 := Lib.hid (HSr.out.drew.below (conv_below _ (x.extract 0 nc)))
        have hjs : (jOf 0 20 1 ((cuts3 la).take k)).size ≤ 4096 ∧ (jOf 0 20 1 ((cuts3 la).take k)).used ≤ (jOf 0 20 1 ((cuts3 la).take k)).size ∧ (jOf 0 20 1 ((cuts3 la).take k)).from_ + (jOf 0 20 1 ((cuts3 la).take k)).size ≤ D.secs.length ∧ D.waits.length ≤ 80000 :=
          ⟨by show 20 ≤ 4096; omega, HI.out.2.fits, by rw [HI.out.1.len]; show 0 + 20 ≤ 20; omega, by have := HI.out.1.waits; omega⟩
        have HJ := Lib.hid hjs
        clear a1 a2 a3 hjs
        go_region_held (fun w' => w'.cell? ⟨ab, ao + k, none⟩ = some (.string x)) (first | assumption | exact hcr | (rw [Lib.bytesWorld_old _ _ _ _ hcl]; exact hcr))
          ((go_at_call 16; refine (append_sep HS4.out (Hcb.out wr.drew) Hlen.out (by simp) (by omega) HJ.out.1 HJ.out.2.1 HJ.out.2.2.1 HJ.out.2.2.2).mono ?_; rw [HAP.out]; rintro e wa ⟨rfl, S2⟩; have hca := S2.up2.arg Hc.out))
        have HS5 := Lib.hid S2
        clear S2 hca
        go_wp2
        go_roundw
        case rel => exact ⟨k + 1, D3, by omega, by omega, by go_num, HS5.out, HI2⟩
        case measure => simp [intOf]; omega
      · have HSr := Lib.hid Sr
        clear Sr
        have HI3 : Hid (Calm D 20 8 ∧ Log D 0 20 1 ((cuts3 la).take k) (rowD (Dk.new 20) 0 20) ∧ ((cuts3 la).take k).length ≤ 8 ∧ ∀ b ∈ (cuts3 la).take k, b.length ≤ 300) := Lib.hid ⟨HI.out.1.mono hk8, HI.out.2, by rw [List.length_take]; omega, cuts3_le la k⟩
        by_cases hkl : k < na
        · have hk50 : ¬ (k : Int) < 8 := by omega
          have hk51 : (k : Int) < (na : Int) := by omega
          clear hlt
          go_wp2_with fail
          go_meet
          exact ⟨D, _, HSr.out, HI3⟩
        · have hkl' : ¬ (k : Int) < (na : Int) := by omega
          clear hlt
          go_wp2_with fail
          go_meet
          exact ⟨D, _, HSr.out, HI3⟩
  case rest =>
    obtain ⟨D, ps, S, HI⟩ := hcut
    obtain ⟨m, hm⟩ : ∃ m, m = 2 + ps.length := ⟨_, rfl⟩
    have hm10 : m ≤ 10 := by have := HI.out.2.2.1; omega
    have hm10' : (m : Int) ≤ 10 := by omega
    have hm0' : (0 : Int) ≤ (m : Int) := by omega
    have hj : jOf 0 20 1 ps = ⟨0, 20, 1 + pages ps, m, false⟩ := by rw [hm]; unfold jOf; congr 1
    obtain ⟨D4, r1, r2, r3, _, _⟩ := log_reset (u := 1 + pages ps) (m := m) HI.out.1.barrier (HI.out.2.1.barrier HI.out.1 (by omega)).area (by unfold lastN; omega) (by omega) (by omega)
    have hcm := log_commit (f := 0) (z := 20) (m := 1) (bs := ps) HI.out.1
    have hn1 : (jOf 0 20 1 ps).next = m := by rw [hj]
    rw [← hj] at r1
    have HC := Lib.hid hcm
    have HR := Lib.hid r1
    have HN1 := Lib.hid hn1
    have HN2 : Hid (((jOf 0 20 m []).next : Int) = (m : Int) + 1) := Lib.hid (by unfold jOf; simp)
    have HM := Lib.hid hm
    have HS := Lib.hid S
    have HL4 : Hid (Calm D4 20 9 ∧ Log D4 0 20 m [] (logB 1 ps (rowD (Dk.new 20) 0 20))) := Lib.hid ⟨r2.mono (by omega), r3⟩
    have hbl := HI.out.1.barrier
    have HBL := Lib.hid hbl
    clear hcm r1 r2 r3 hn1 hm S hj hbl HS3 G3 G4
    go_wp2_with fail
    refine (commit_sep HS.out).mono ?_
    rw [HC.out]
    rintro e w4 ⟨rfl, S4⟩
    have HS4 := Lib.hid S4
    clear S4
    go_wp2_with fail
    refine (next_sep HS4.out).mono ?_
    rw [HN1.out]
    rintro e w5 ⟨rfl, rfl⟩
    go_wp2_with fail
    refine (reset_sep HS4.out (by rw [HBL.out.len]; show 0 + 1 ≤ 20; omega) (by have := HBL.out.waits; omega)).mono ?_
    rw [HR.out]
    rintro e w6 ⟨rfl, S6⟩
    have HS6 := Lib.hid S6
    clear S6
    go_wp2_with fail
    refine (next_sep HS6.out).mono ?_
    rw [HN2.out]
    rintro e w7 ⟨rfl, rfl⟩
    clear HS4 HC HR HN1 HN2 HBL
    go_upto_block 2 with fail
    go_cut [12, 13] from 74 to 100 (fun nn i wx => ∃ (k : Nat) (D : Dk), k ≤ nb ∧ k ≤ 8 ∧ nn = .int .i64 (k : Int) ∧ Sep wx [jnA q p (jOf 0 20 m ((cuts3 lb).take k)), diskA p D, oldA w] ∧ Hid (Calm D 20 17 ∧ Log D 0 20 m ((cuts3 lb).take k) (logB 1 ps (rowD (Dk.new 20) 0 20))))
    case first =>
      go_wp2_with fail
      go_loopw [12, 13] (fun nn i wr => ∃ (k : Nat) (D : Dk), k ≤ nb ∧ k ≤ 8 ∧ nn = .int .i64 (k : Int) ∧ i = .int .i64 (k : Int) ∧ Sep wr [jnA q p (jOf 0 20 m ((cuts3 lb).take k)), diskA p D, oldA w] ∧ Hid (Calm D 20 (9 + k) ∧ Log D 0 20 m ((cuts3 lb).take k) (logB 1 ps (rowD (Dk.new 20) 0 20)))) (fun _ i _ => nb - (intOf i).toNat)
      case atStart => exact ⟨0, D4, Nat.zero_le _, Nat.zero_le _, rfl, rfl, HS6.out, HL4⟩
      case round =>
        obtain ⟨k, D, hk, hk8, rfl, rfl, Sr, HI⟩ := hrel
        by_cases hlt : k < nb ∧ k < 8
        · obtain ⟨hlt1, hlt8⟩ := hlt
          have hlt8i : (k : Int) < 8 := by omega
          have hk1 : (k : Int) < (nb : Int) := by omega
          have hk0 : (0 : Int) ≤ (k : Int) := by omega
          obtain ⟨ab, ao, rfl, hc⟩ := HB.out k (by have := HNB.out; omega)
          obtain ⟨x, hx⟩ : ∃ x, x = lb.getD k ByteArray.empty := ⟨_, rfl⟩
          rw [← hx] at hc
          have hcr := Sr.up2.arg hc
          have Hc := Lib.hid hc
          have hcl : ab < wr.heap.size := World.block_lt_of_cell? _ _ hcr
          have HSr := Lib.hid Sr
          have HX := Lib.hid hx
          obtain ⟨nc, hmin, hn1, hn2, hn3, hn4, hn5⟩ := cut_string x 300
          have hmin' : (if (300 : Int) < (x.size : Int) then (300 : Int) else (x.size : Int)) = (nc : Int) := hmin
          have hn1' : (nc : Int) ≤ 300 := by omega
          have hn2' : (nc : Int) ≤ (x.size : Int) := by omega
          have hn0' : (0 : Int) ≤ (nc : Int) := by omega
          have hcv := conv_cut x nc hn5
          have hsl := slice_str x nc hn2
          have Hcb := Lib.hid (conv_cut_at x nc (c300 x) hn4)
          have Hlen : Hid ((c300 x).length = nc) := Lib.hid hn3
          clear hc Sr hx hmin hn1 hn2 hn3 hn4 hn5
          go_wp2_with fail
          obtain ⟨D3, a1, a2, a3, _, _⟩ := log_small (b := c300 x) HI.out.1 HI.out.2 (by omega) (by rw [List.length_take, cuts3_len]; unfold lastN; omega) (by have := c300_len x; omega) (fun b hb => by have := cuts3_le lb k b hb; omega) (by rw [List.length_take]; omega)
          rw [← cuts3_succ lb k x (by have := HNB.out; omega) HX.out] at a1 a3
          have HAP := Lib.hid a1
          have HI2 : Hid (Calm D3 20 (9 + (k + 1)) ∧ Log D3 0 20 m ((cuts3 lb).take (k + 1)) (logB 1 ps (rowD (Dk.new 20) 0 20))) := Lib.hid ⟨a2, a3⟩
          have HS4 := Lib.hid (HSr.out.drew.below (conv_below _ (x.extract 0 nc)))
          have hjs : (jOf 0 20 m ((cuts3 lb).take k)).size ≤ 4096 ∧ (jOf 0 20 m ((cuts3 lb).take k)).used ≤ (jOf 0 20 m ((cuts3 lb).take k)).size ∧ (jOf 0 20 m ((cuts3 lb).take k)).from_ + (jOf 0 20 m ((cuts3 lb).take k)).size ≤ D.secs.length ∧ D.waits.length ≤ 80000 :=
            ⟨by show 20 ≤ 4096; omega, HI.out.2.fits, by rw [HI.out.1.len]; show 0 + 20 ≤ 20; omega, by have := HI.out.1.waits; omega⟩
          have HJ := Lib.hid hjs
          clear a1 a2 a3 hjs
          go_region_held (fun w' => w'.cell? ⟨ab, ao + k, none⟩ = some (.string x)) (first | assumption | exact hcr | (rw [Lib.bytesWorld_old _ _ _ _ hcl]; exact hcr))
            ((go_at_call 16; refine (append_sep HS4.out (Hcb.out wr.drew) Hlen.out (by simp) (by omega) HJ.out.1 HJ.out.2.1 HJ.out.2.2.1 HJ.out.2.2.2).mono ?_; rw [HAP.out]; rintro e wa ⟨rfl, S2⟩; have hca := S2.up2.arg Hc.out))
          have HS5 := Lib.hid S2
          clear S2 hca
          go_wp2
          go_roundw
          case rel => exact ⟨k + 1, D3, by omega, by omega, by go_num, by go_num, HS5.out, HI2⟩
          case measure => simp [intOf]; omega
        · have HSr := Lib.hid Sr
          clear Sr
          have HI3 : Hid (Calm D 20 17 ∧ Log D 0 20 m ((cuts3 lb).take k) (logB 1 ps (rowD (Dk.new 20) 0 20))) := Lib.hid ⟨HI.out.1.mono (by omega), HI.out.2⟩
          by_cases hkl : k < nb
          · have hk50 : ¬ (k : Int) < 8 := by omega
            have hk51 : (k : Int) < (nb : Int) := by omega
            clear hlt
            go_wp2_with fail
            go_meet
            exact ⟨k, D, hk, hk8, rfl, HSr.out, HI3⟩
          · have hkl' : ¬ (k : Int) < (nb : Int) := by omega
            clear hlt
            go_wp2_with fail
            go_meet
            exact ⟨k, D, hk, hk8, rfl, HSr.out, HI3⟩
    case rest => 
      obtain ⟨k, D, hk, hk8, rfl, S, HI2⟩ := hcut
      obtain ⟨qs, hqs⟩ : ∃ qs, qs = (cuts3 lb).take k := ⟨_, rfl⟩
      have hql : qs.length = k := by rw [hqs, List.length_take, cuts3_len]; have := HNB.out; omega
      have hqle : ∀ b ∈ qs, b.length ≤ 300 := by rw [hqs]; exact cuts3_le lb k
      rw [← hqs] at S HI2
      obtain ⟨D5, o1, o2⟩ := reset_opens HI2.out.1 HI2.out.2 HM.out HI.out.2.2.2 hqle HI.out.2.2.1 (by omega)
      have HC := Lib.hid (log_commit (f := 0) (z := 20) (m := m) (bs := qs) HI2.out.1)
      have HO := Lib.hid o1
      have HO2 := Lib.hid o2
      have HQ := Lib.hid hqs
      have HQL := Lib.hid hql
      have HS := Lib.hid S
      have hk8' : (k : Int) ≤ 8 := by omega
      have hk0' : (0 : Int) ≤ (k : Int) := by omega
      clear S o1 o2 hqs hql hqle HS6 HL4
      go_wp2_with fail
      refine (commit_sep HS.out).mono ?_
      rw [HC.out]
      rintro e w8 ⟨rfl, S8⟩
      have HS8 := Lib.hid S8.drop
      clear S8
      go_wp2_with fail
      refine (crash_nil HS8.out).mono ?_
      rintro e w9 ⟨rfl, S9⟩
      have HS9 := Lib.hid S9
      clear S9
      go_wp2_with fail
      refine (start_sep HS9.out).mono ?_
      rintro e w10 ⟨rfl, S10⟩
      have HS10 := Lib.hid S10
      clear S10
      go_wp2_with fail
      refine (open_sep HS10.out 0 20 _ _ rfl rfl (by omega) (by omega) (by rw [HO2.out]; omega)).mono ?_
      rw [HO.out]
      rintro e w11 ⟨q2, v, rs, rfl, hl, hok, ⟨ra, rcap, rfl⟩, S11⟩
      have hrl : rs.length = k := by rw [← HQL.out, ← hl, List.length_map]
      rw [hrl]
      rw [hrl] at S11
      have hN : ((jOf 0 20 m qs).next : Int) = (m : Int) + 1 + (k : Int) := by unfold jOf; rw [← HQL.out]; simp
      have HN := Lib.hid hN
      have HRL := Lib.hid hrl
      have HL := Lib.hid hl
      have HOK := Lib.hid hok
      have HS11 := Lib.hid S11
      clear hrl hl hok S11 hN HS8 HS9 HS10 HS
      go_wp2_with fail
      refine (next_sep HS11.out).mono ?_
      rw [HN.out]
      rintro e w12 ⟨rfl, rfl⟩
      go_wp2_with fail
      go_loopw [17] (fun i wr => ∃ i' : Nat, i' ≤ k ∧ i = .int .i64 (i' : Int) ∧ Sep wr [jnA q2 p (jOf 0 20 m qs), recsA (.slice ra k rcap) rs, diskA p D5, oldA w]) (fun i _ => k - (intOf i).toNat)
      case atStart => exact ⟨0, Nat.zero_le _, rfl, HS11.out⟩
      case round =>
        obtain ⟨i, hi, rfl, Sr⟩ := hrel
        by_cases hlt : i < k
        · have hlt1 : (i : Int) < (k : Int) := by omega
          have hi0 : (0 : Int) ≤ (i : Int) := by omega
          have hib : (i : Int) < (nb : Int) := by omega
          obtain ⟨r, hr⟩ : ∃ r, rs[i]? = some r := ⟨rs[i]'(by rw [HRL.out]; exact hlt), List.getElem?_eq_getElem _⟩
          obtain ⟨g, rfl, hgc, hgb, hgl⟩ := recs_at Sr.up1 HOK.out i r hr
          obtain ⟨bb, bo, rfl, hc⟩ := HB.out i (by have := HNB.out; omega)
          obtain ⟨x, hx⟩ : ∃ x, x = lb.getD i ByteArray.empty := ⟨_, rfl⟩
          rw [← hx] at hc
          have hcr := Sr.up3.arg hc
          have hrx : r.bytes = c300 x := by
            have h1 : (rs.map Rec.bytes)[i]? = some r.bytes := by rw [List.getElem?_map, hr]; rfl
            rw [HL.out, HQ.out, cuts3_at lb k i hlt (by have := HNB.out; omega), ← hx] at h1
            exact (Option.some.inj h1).symm
          rw [hrx] at hgb hgl
          obtain ⟨nc, hmin, hn1, hn2, hn3, hn4, hn5⟩ := cut_string x 300
          have hmin' : (if (300 : Int) < (x.size : Int) then (300 : Int) else (x.size : Int)) = (nc : Int) := hmin
          have hsl := slice_cut x nc (c300 x) hn4 hn2
          have tr : ∀ W', Below wr.heap.size wr W' → (convert 33 9 (.slice (some ⟨r.g, 16, none⟩) r.n (r.cap - 16))).run Try.prog W' = .ok (.string ⟨(c300 x).toArray⟩) W' := fun W' h => run_string (hgb.below h) r.n _ hgl
          have HSr := Lib.hid Sr
          clear hr hx hc hrx hgb hgl hmin hn1 hn2 hn3 hn4 hn5 Sr HS11
          go_wp2_with fail
          go_region_held (fun w' => Below wr.heap.size wr w' ∧ w'.cell? ⟨bb, bo + i, none⟩ = some (.string x) ∧ w'.cell? ⟨g, i, none⟩ = some (.slice (some ⟨r.g, 16, none⟩) r.n (r.cap - 16))) (first | exact ⟨(Below.refl _ _).drew, hcr, hgc⟩ | exact ⟨Below.refl _ _, hcr, hgc⟩) (fail)
          have HS12 := Lib.hid HSr.out.drew
          go_wp2
          go_roundw
          case rel => exact ⟨i + 1, by omega, by go_num, HS12.out⟩
          case measure => simp [intOf]; omega
        · have hlt1 : ¬ (i : Int) < (k : Int) := by omega
          have HSr := Lib.hid Sr.drop.drop.drop
          clear Sr HS11
          go_wp2
          go_ret
          exact ⟨rfl, HSr.out⟩
theorem JournalResets_walk (W : World) (a b : Option Addr) (la lb : List ByteArray) (ca cb : Nat) (ha : StrsAt W a la) (hb : StrsAt W b lb) (hla : la.length ≤ 9223372036854775807) (hlb : lb.length ≤ 9223372036854775807) :
    Calls Try.prog 6 #[.slice a la.length ca, .slice b lb.length cb] W fun e w' => e = .returned (.bool true) ∧ Below W.heap.size W w' :=
  (resets_walk W _ (Sep.start W) a b la lb ca cb ha hb hla hlb rfl).mono fun e w' h => ⟨h.1, h.2.fin⟩
end Go.Proofs.Ytoihfamiclbffaa
