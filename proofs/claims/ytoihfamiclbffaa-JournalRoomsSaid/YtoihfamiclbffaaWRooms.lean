/- JournalRooms: the walk. -/
import Derived.Test.YtoihfamiclbffaaLawC
import Derived.Test.YtoihfamiclbffaaLog
import Derived.Test.YtoihfamiclbffaaStr
import Derived.Deep.RegionHeld
import Derived.Deep.RegionLaw
import Derived.Deep.QuietTactic
import Derived.Deep.CutBlock
import Derived.Deep.DeepCutAuto
import Derived.RegionTactic
namespace Go.Proofs.Ytoihfamiclbffaa
open Go.RowKit

theorem room_of (z m : Nat) (bs : List (List UInt8)) (h : ∀ b ∈ bs, b.length ≤ 300) (hz : 1 + bs.length < z) : roomJ (jOf 0 z m bs) = (((z - 1 - bs.length) * 512 - 16 : Nat) : Int) := by
  unfold roomJ jOf; dsimp only; rw [pages_one bs (fun b hb => by have := h b hb; omega)]; omega
theorem room_no (z m : Nat) (bs : List (List UInt8)) (h : ∀ b ∈ bs, b.length ≤ 300) (hz : z ≤ 1 + bs.length) : roomJ (jOf 0 z m bs) = -1 := by
  unfold roomJ jOf; dsimp only; rw [pages_one bs (fun b hb => by have := h b hb; omega)]; omega
theorem named {w : World} {R : List Asn} (_ : Sep w R) : ∃ w', w' = w := ⟨_, rfl⟩
/-- A record of just the room. -/
theorem room_last {D : Dk} {z k rn : Nat} {bs : List (List UInt8)} {s : List UInt8} (c : Calm D z k) (a : Log D 0 z 1 bs s) (h : ∀ b ∈ bs, b.length ≤ 300) (hz : 1 + bs.length < z) (hz9 : z ≤ 9) (hrn : rn = (z - 1 - bs.length) * 512 - 16) (hs : s.length = 512 * z) :
    ∃ D' D2, appendJ D (jOf 0 z 1 bs) (List.replicate rn 0) = (0, D', jOf 0 z 1 (bs ++ [List.replicate rn 0])) ∧ roomJ (jOf 0 z 1 (bs ++ [List.replicate rn 0])) = -1 ∧ D'.secs.length = z ∧ (jOf 0 z 1 (bs ++ [List.replicate rn 0])).used = z ∧
      opnJ D' 0 z = .ok (bs ++ [List.replicate rn 0]) D2 (jOf 0 z 1 (bs ++ [List.replicate rn 0])) := by
  have hp := pages_one bs (fun b hb => by have := h b hb; omega)
  have hr := room_of z 1 bs h hz
  obtain ⟨D', h1, h2, h3, _, _⟩ := log_append c a (by omega) (b := List.replicate rn 0) (by unfold lastN; omega) (by rw [hr, List.length_replicate, hrn]; exact Int.le_refl _)
  have hp2 : pages (bs ++ [List.replicate rn 0]) = z - 1 := by rw [pages_append, hp]; simp only [pages, List.length_replicate]; omega
  obtain ⟨D2, h4, _⟩ := log_open h2 h3 (by omega) (by omega) (by rw [List.length_append, List.length_singleton]; unfold lastN; omega) (fun b hb => by
    rcases List.mem_append.1 hb with hb | hb
    · have := h b hb; omega
    · rw [List.mem_singleton.1 hb, List.length_replicate]; omega) (one_short (by rw [List.length_drop, hs, hp2]; omega))
  exact ⟨D', D2, h1, by unfold roomJ jOf; dsimp only; rw [hp2]; omega, h2.len, by unfold jOf; dsimp only; rw [hp2]; omega, h4⟩

set_option maxRecDepth 20000 in
set_option maxHeartbeats 8000000 in
theorem rooms_walk (w : World) (R : List Asn) (S : Sep w R) (sz : Int) (a : Option Addr) (la : List ByteArray) (ca : Nat) (ha : StrsAt w a la) (hla : la.length ≤ 9223372036854775807) (hR : R = [oldA w]) (k7 z : Nat) (hk : Go.bits .and .i64 sz 7 = (k7 : Int)) (hz : z = k7 + 2) (hk7 : k7 ≤ 7) :
    Calls Try.prog 8 #[.int .i64 sz, .slice a la.length ca] w fun e w' => e = .returned (.bool true) ∧ Sep w' R := by
  subst hR
  obtain ⟨na, hna⟩ : ∃ na, na = la.length := ⟨_, rfl⟩
  rw [← hna]
  rw [← hna] at hla
  have hz0 : (2 : Int) + (k7 : Int) = (z : Int) := by omega
  have hz2 : 2 ≤ z := by omega
  have hz9 : z ≤ 9 := by omega
  have HNA := Lib.hid hna
  have HA := Lib.hid ha
  have HS := Lib.hid S
  clear hna ha S hz
  go_enter Try.func8, Try.ntmps8
  go_wp2_with fail
  refine (shown3_sep HS.out).mono ?_
  rintro e w1 ⟨rfl, S1⟩
  have HS1 := Lib.hid S1
  clear S1
  go_wp2_with fail
  refine (new_sep HS1.out z (z : Int) rfl (by omega) (by omega)).mono ?_
  rintro e w2 ⟨p, rfl, S2⟩
  obtain ⟨D1, D2, g1, g2, g3, g4, g5, g6, g7⟩ := log_format (Calm.new z) (dk_len S2).1 (f := 0) (z := z) (by omega) (by omega)
  have HS2 := Lib.hid S2
  have G1 := Lib.hid g1
  have G2 := Lib.hid g2
  have G3 := Lib.hid g3
  have G4 := Lib.hid g4
  clear S2 g1 g2 g3 g4 g5 g6 g7
  go_wp2_with fail
  refine (format_sep HS2.out 0 z _ _ rfl rfl hz2 (by rw [(Calm.new z).len]; omega) (Nat.zero_le _) D1 D2 _ _ G1.out G2.out).mono ?_
  rintro e w3 ⟨q, rfl, S3⟩
  have HS3 := Lib.hid S3
  clear S3 HS1 HS2 G1 G2 hk hz0
  go_upto_block 0 with fail
  go_cut [10, 11] from 43 to 69 (fun n i wx => ∃ (D : Dk) (bs : List (List UInt8)), n = .int .i64 (bs.length : Int) ∧ Sep wx [jnA q p (jOf 0 z 1 bs), diskA p D, oldA w] ∧ Hid (Calm D z 5 ∧ Log D 0 z 1 bs (rowD (Dk.new z) 0 z) ∧ bs.length ≤ 5 ∧ ∀ b ∈ bs, b.length ≤ 300))
  case first =>
    go_wp2_with fail
    go_loopw [10, 11] (fun n i wr => ∃ (k : Nat) (D : Dk) (bs : List (List UInt8)), k ≤ na ∧ k ≤ 5 ∧ n = .int .i64 (bs.length : Int) ∧ i = .int .i64 (k : Int) ∧ Sep wr [jnA q p (jOf 0 z 1 bs), diskA p D, oldA w] ∧ Hid (Calm D z k ∧ Log D 0 z 1 bs (rowD (Dk.new z) 0 z) ∧ bs.length ≤ k ∧ ∀ b ∈ bs, b.length ≤ 300)) (fun _ i _ => na - (intOf i).toNat)
    case atStart => exact ⟨0, D2, [], Nat.zero_le _, Nat.zero_le _, rfl, rfl, HS3.out, Lib.hid ⟨G3.out, G4.out, Nat.le_refl _, fun b hb => by simp at hb⟩⟩
    case round =>
      obtain ⟨k, D, bs, hk, hk8, rfl, rfl, Sr, HI⟩ := hrel
      have hbk := HI.out.2.2.1
      have hbn : (bs.length : Int) ≤ 5 := by omega
      by_cases hlt : k < na ∧ k < 5
      · obtain ⟨hlt1, hlt8⟩ := hlt
        have hlt8i : (k : Int) < 5 := by omega
        have hk1 : (k : Int) < (na : Int) := by omega
        have hk0 : (0 : Int) ≤ (k : Int) := by omega
        obtain ⟨ab, ao, rfl, hc⟩ := HA.out k (by have := HNA.out; omega)
        obtain ⟨x, hx⟩ : ∃ x, x = la.getD k ByteArray.empty := ⟨_, rfl⟩
        rw [← hx] at hc
        have hcr := Sr.up2.arg hc
        have Hc := Lib.hid hc
        have hcl : ab < wr.heap.size := World.block_lt_of_cell? _ _ hcr
        have HSr := Lib.hid Sr
        have HX := Lib.hid hx
        obtain ⟨nc, hmin, hn1, hn2, hn3, hn4, hn5⟩ := cut_string x 300
        have hmin' : (if (300 : Int) < (x.size : Int) then (300 : Int) else (x.size : Int)) = (nc : Int) := hmin
        have hn1' : (nc : Int) ≤ 300 := by omega
        have hn2' : (nc : Int) ≤ (x.size : Int) := by omega
        have hn0' : (0 : Int) ≤ (nc : Int) := by omega
        have hcv := conv_cut x nc hn5
        have hsl := slice_str x nc hn2
        have Hcb := Lib.hid (conv_cut_at x nc (c300 x) hn4)
        have Hlen : Hid ((c300 x).length = nc) := Lib.hid hn3
        have HS4 := Lib.hid (HSr.out.drew.below (conv_below _ (x.extract 0 nc)))
        have hjs : (jOf 0 z 1 bs).size ≤ 4096 ∧ (jOf 0 z 1 bs).used ≤ (jOf 0 z 1 bs).size ∧ (jOf 0 z 1 bs).from_ + (jOf 0 z 1 bs).size ≤ D.secs.length ∧ D.waits.length ≤ 80000 :=
          ⟨by show z ≤ 4096; omega, HI.out.2.1.fits, by rw [HI.out.1.len]; show 0 + z ≤ z; omega, by have := HI.out.1.waits; omega⟩
        have HJ := Lib.hid hjs
        clear hc Sr hx hmin hn1 hn2 hn3 hn4 hn5 hjs
        by_cases hfit : 1 + bs.length < z
        · obtain ⟨D3, a1, a2, a3, _, _⟩ := log_small (b := c300 x) HI.out.1 HI.out.2.1 (by omega) (by unfold lastN; omega) (by have := c300_len x; omega) (fun b hb => by have := HI.out.2.2.2 b hb; omega) hfit
          have HAP := Lib.hid a1
          have HI2 : Hid (Calm D3 z (k + 1) ∧ Log D3 0 z 1 (bs ++ [c300 x]) (rowD (Dk.new z) 0 z) ∧ (bs ++ [c300 x]).length ≤ k + 1 ∧ ∀ b ∈ bs ++ [c300 x], b.length ≤ 300) := Lib.hid ⟨a2, a3, by rw [List.length_append, List.length_singleton]; omega, fun b hb => by
            rcases List.mem_append.1 hb with hb | hb
            · exact HI.out.2.2.2 b hb
            · rw [List.mem_singleton.1 hb]; exact c300_len x⟩
          have hbl : ((bs ++ [c300 x]).length : Int) = (bs.length : Int) + 1 := by simp
          have HBL := Lib.hid hbl
          clear a1 a2 a3 hbl
          go_wp2_with fail
          go_region_held (fun w' => w'.cell? ⟨ab, ao + k, none⟩ = some (.string x)) (first | assumption | exact hcr | (rw [Lib.bytesWorld_old _ _ _ _ hcl]; exact hcr))
            ((go_at_call 16; refine (append_sep HS4.out (Hcb.out wr.drew) Hlen.out (by simp) (by omega) HJ.out.1 HJ.out.2.1 HJ.out.2.2.1 HJ.out.2.2.2).mono ?_; rw [HAP.out]; rintro e wa ⟨rfl, S2⟩; have hca := S2.up2.arg Hc.out))
          have HS5 := Lib.hid S2
          clear S2 hca
          go_wp2
          go_roundw
          case rel => exact ⟨k + 1, D3, _, by omega, by omega, by rw [HBL.out], by go_num, HS5.out, HI2⟩
          case measure => simp [intOf]; omega
        · have HAP := Lib.hid (log_full (D := D) (b := c300 x) (show roomJ (jOf 0 z 1 bs) < _ by rw [room_no z 1 bs HI.out.2.2.2 (by omega)]; omega))
          have HI2 : Hid (Calm D z (k + 1) ∧ Log D 0 z 1 bs (rowD (Dk.new z) 0 z) ∧ bs.length ≤ k + 1 ∧ ∀ b ∈ bs, b.length ≤ 300) := Lib.hid ⟨HI.out.1.mono (by omega), HI.out.2.1, by omega, HI.out.2.2.2⟩
          go_wp2_with fail
          go_region_held (fun w' => w'.cell? ⟨ab, ao + k, none⟩ = some (.string x)) (first | assumption | exact hcr | (rw [Lib.bytesWorld_old _ _ _ _ hcl]; exact hcr))
            ((go_at_call 16; refine (append_sep HS4.out (Hcb.out wr.drew) Hlen.out (by simp) (by omega) HJ.out.1 HJ.out.2.1 HJ.out.2.2.1 HJ.out.2.2.2).mono ?_; rw [HAP.out]; rintro e wa ⟨rfl, S2⟩; have hca := S2.up2.arg Hc.out))
          have HS5 := Lib.hid S2
          clear S2 hca
          go_wp2
          go_roundw
          case rel => exact ⟨k + 1, D, bs, by omega, by omega, rfl, by go_num, HS5.out, HI2⟩
          case measure => simp [intOf]; omega
      · have HSr := Lib.hid Sr
        clear Sr
        have HI3 : Hid (Calm D z 5 ∧ Log D 0 z 1 bs (rowD (Dk.new z) 0 z) ∧ bs.length ≤ 5 ∧ ∀ b ∈ bs, b.length ≤ 300) := Lib.hid ⟨HI.out.1.mono hk8, HI.out.2.1, by omega, HI.out.2.2.2⟩
        by_cases hkl : k < na
        · have hk50 : ¬ (k : Int) < 5 := by omega
          have hk51 : (k : Int) < (na : Int) := by omega
          clear hlt
          go_wp2_with fail
          go_meet
          exact ⟨D, _, rfl, HSr.out, HI3⟩
        · have hkl' : ¬ (k : Int) < (na : Int) := by omega
          clear hlt
          go_wp2_with fail
          go_meet
          exact ⟨D, _, rfl, HSr.out, HI3⟩
  case rest =>
    obtain ⟨D, bs, rfl, S, HI⟩ := hcut
    have hjs : (jOf 0 z 1 bs).size ≤ 4096 ∧ (jOf 0 z 1 bs).used ≤ (jOf 0 z 1 bs).size ∧ (jOf 0 z 1 bs).from_ + (jOf 0 z 1 bs).size ≤ D.secs.length ∧ D.waits.length ≤ 80000 :=
      ⟨by show z ≤ 4096; omega, HI.out.2.1.fits, by rw [HI.out.1.len]; show 0 + z ≤ z; omega, by have := HI.out.1.waits; omega⟩
    have HJ := Lib.hid hjs
    have HS := Lib.hid S
    obtain ⟨nx, hnx⟩ : ∃ nx : Nat, nx = (jOf 0 z 1 bs).next := ⟨_, rfl⟩
    obtain ⟨op, hop⟩ : ∃ op : Int, op = D.ops := ⟨_, rfl⟩
    have HNX := Lib.hid hnx.symm
    have HOP := Lib.hid hop.symm
    have hbn : (bs.length : Int) ≤ 5 := by have := HI.out.2.2.1; omega
    have hb0 : (0 : Int) ≤ (bs.length : Int) := by omega
    clear S hjs hnx hop HS3 G3 G4
    by_cases hfit : 1 + bs.length < z
    · obtain ⟨rn, hrn⟩ : ∃ rn, rn = (z - 1 - bs.length) * 512 - 16 := ⟨_, rfl⟩
      obtain ⟨rn1, hrn1⟩ : ∃ rn1, rn1 = rn + 1 := ⟨_, rfl⟩
      obtain ⟨nb, hnb⟩ : ∃ nb, nb = bs.length := ⟨_, rfl⟩
      obtain ⟨nb1, hnb1⟩ : ∃ nb1, nb1 = nb + 1 := ⟨_, rfl⟩
      have hr := room_of z 1 bs HI.out.2.2.2 hfit
      rw [← hrn] at hr
      have hrl : rn ≤ 4096 := by omega
      have h0rn : (0 : Int) ≤ (rn : Int) := by omega
      have h0rn1 : (0 : Int) < (rn1 : Int) := by omega
      have hadd : (rn : Int) + 1 = (rn1 : Int) := by omega
      have hadd2 : (nb : Int) + 1 = (nb1 : Int) := by omega
      have hnb0 : (0 : Int) ≤ (nb : Int) := by omega
      have hnb5 : (nb : Int) ≤ 5 := by omega
      have hnbl : (nb : Int) < (nb1 : Int) := by omega
      have hrl' : (rn : Int) ≤ 4096 := by omega
      have hrl1 : rn1 ≤ 4097 := by omega
      obtain ⟨D', D2, e1, e2, e3, e4, e5⟩ := room_last HI.out.1 HI.out.2.1 HI.out.2.2.2 hfit hz9 hrn (by rw [row_new z 0 z (by omega), List.length_replicate])
      have HR := Lib.hid hr
      have HF := Lib.hid (log_full (D := D) (b := List.replicate rn1 0) (show roomJ (jOf 0 z 1 bs) < _ by rw [hr, List.length_replicate]; omega))
      obtain ⟨bs2, hbs2⟩ : ∃ bs2, bs2 = bs ++ [List.replicate rn (0 : UInt8)] := ⟨_, rfl⟩
      have hb2l : bs2.length = nb1 := by rw [hbs2, List.length_append, List.length_singleton]; omega
      have hb2i : bs2[nb]? = some (List.replicate rn (0 : UInt8)) := by rw [hbs2, hnb]; simp
      rw [← hbs2] at e1 e2 e4 e5
      rw [← hnb]
      have H1 := Lib.hid e1
      have H2 := Lib.hid e2
      have H3 := Lib.hid e3
      have H4 := Lib.hid e4
      have H5 := Lib.hid e5
      have HBL := Lib.hid hb2l
      have HBI := Lib.hid hb2i
      have HNB := Lib.hid hnb
      clear hr hrn hrn1 hnb hnb1 e1 e2 e3 e4 e5 hbs2 hb2l hb2i hbn hb0 hfit
      go_wp2_with fail
      refine (room_sep HS.out HJ.out.1 HJ.out.2.1).mono ?_
      rw [HR.out]
      rintro e w4 ⟨rfl, rfl⟩
      have HS4 := Lib.hid HS.out.drew
      go_wp2_with fail
      refine (next_sep HS4.out).mono ?_
      rw [HNX.out]
      rintro e w5 ⟨rfl, rfl⟩
      go_wp2_with fail
      refine (ops_sep HS4.out.up1).mono ?_
      rw [HOP.out]
      rintro e w6 ⟨rfl, rfl⟩
      obtain ⟨w7, hw7⟩ := named HS4.out
      rw [← hw7] at HS4 ⊢
      have hmk : (Instr.makeSlice 33 (.int .i64 (rn1 : Int)) (.int .i64 (rn1 : Int))).run Try.prog w7 = _ := run_make_zeros w7 rn1 (by omega)
      have S6 := made_bytes HS4.out rn1 (by omega)
      obtain ⟨w5, hw5⟩ : ∃ w5, w5 = w7.alloc (.cells ((List.replicate rn1 (0 : UInt8)).map byteV).toArray 5) := ⟨_, rfl⟩
      rw [← hw5] at hmk S6
      have hr6 := S6.bytes.reads
      have HS6 := Lib.hid S6.drop
      have Hr6 := Lib.hid hr6
      clear hw5 S6 hr6 hw7
      go_wp2_with fail
      refine (append_sep HS6.out Hr6.out (List.length_replicate ..) (by simp) (by omega) HJ.out.1 HJ.out.2.1 HJ.out.2.2.1 HJ.out.2.2.2).mono ?_
      rw [HF.out]
      rintro e w8 ⟨rfl, S8⟩
      have HS8 := Lib.hid S8
      clear S8 HS6 Hr6 hmk HF
      go_wp2_with fail
      refine (ops_sep HS8.out.up1).mono ?_
      rw [HOP.out]
      rintro e w9 ⟨rfl, rfl⟩
      go_wp2_with fail
      refine (next_sep HS8.out).mono ?_
      rw [HNX.out]
      rintro e w10 ⟨rfl, rfl⟩
      go_wp2_with fail
      refine (room_sep HS8.out HJ.out.1 HJ.out.2.1).mono ?_
      rw [HR.out]
      rintro e w11 ⟨rfl, rfl⟩
      have HS9 := Lib.hid HS8.out.drew
      obtain ⟨w12, hw12⟩ : ∃ w12, w12 = w8.drew := ⟨_, rfl⟩
      rw [← hw12] at HS9 ⊢
      have hmk : (Instr.makeSlice 33 (.int .i64 (rn : Int)) (.int .i64 (rn : Int))).run Try.prog w12 = _ := run_make_zeros w12 rn (by omega)
      have S6 := made_bytes HS9.out rn (by omega)
      obtain ⟨w5, hw5⟩ : ∃ w5, w5 = w12.alloc (.cells ((List.replicate rn (0 : UInt8)).map byteV).toArray 5) := ⟨_, rfl⟩
      rw [← hw5] at hmk S6
      have hr6 := S6.bytes.reads
      have HS6 := Lib.hid S6.drop
      have Hr6 := Lib.hid hr6
      clear hw5 S6 hr6 hw12 HS8
      go_wp2_with fail
      refine (append_sep HS6.out Hr6.out (List.length_replicate ..) (by simp) (by omega) HJ.out.1 HJ.out.2.1 HJ.out.2.2.1 HJ.out.2.2.2).mono ?_
      rw [H1.out]
      rintro e w13 ⟨rfl, S13⟩
      have HS13 := Lib.hid S13
      clear S13 HS6 Hr6 hmk H1
      go_wp2_with fail
      refine (open_sep HS13.out.up1 0 z _ _ rfl rfl hz2 (by omega) (by rw [H3.out]; omega)).mono ?_
      rw [H5.out]
      rintro e w14 ⟨q2, v, rs, rfl, hl, hok, ⟨ra, rcap, rfl⟩, S14⟩
      have hrl : rs.length = nb1 := by rw [← HBL.out, ← hl, List.length_map]
      rw [hrl]
      rw [hrl] at S14
      obtain ⟨r, hr⟩ : ∃ r, rs[nb]? = some r := ⟨rs[nb]'(by omega), List.getElem?_eq_getElem _⟩
      obtain ⟨g, rfl, hgc, hgb, hgl⟩ := recs_at S14.up1 hok nb r hr
      have hrx : r.n = rn := by
        have h1 : (rs.map Rec.bytes)[nb]? = some r.bytes := by rw [List.getElem?_map, hr]; rfl
        rw [hl, HBI.out] at h1
        rw [← hgl, ← Option.some.inj h1, List.length_replicate]
      rw [hrx] at hgc
      have HS14 := Lib.hid S14
      clear hrl hr hrx hgb hgl hl hok S14 HS13 HS9 HS4 HS
      go_wp2_with fail
      have hj2 : (jOf 0 z 1 bs2).size ≤ 4096 ∧ (jOf 0 z 1 bs2).used ≤ (jOf 0 z 1 bs2).size := ⟨by show z ≤ 4096; omega, by rw [H4.out]; exact Nat.le_refl z⟩
      refine (room_sep HS14.out.up3 hj2.1 hj2.2).mono ?_
      rw [H2.out]
      rintro e w15 ⟨rfl, rfl⟩
      clear hj2
      have HS15 := Lib.hid HS14.out.drop.drop.drop.drop.drew
      go_wp2
      go_ret
      exact ⟨rfl, HS15.out⟩
    · have hr := room_no z 1 bs HI.out.2.2.2 (by omega)
      have HR := Lib.hid hr
      have HF := Lib.hid (log_full (D := D) (b := []) (show roomJ (jOf 0 z 1 bs) < _ by rw [hr]; show (-1 : Int) < 0; omega))
      clear hr
      go_wp2_with fail
      refine (room_sep HS.out HJ.out.1 HJ.out.2.1).mono ?_
      rw [HR.out]
      rintro e w4 ⟨rfl, rfl⟩
      have HS4 := Lib.hid HS.out.drew
      go_wp2_with fail
      refine (next_sep HS4.out).mono ?_
      rw [HNX.out]
      rintro e w5 ⟨rfl, rfl⟩
      go_wp2_with fail
      refine (ops_sep HS4.out.up1).mono ?_
      rw [HOP.out]
      rintro e w6 ⟨rfl, rfl⟩
      obtain ⟨w7, hw7⟩ := named HS4.out
      rw [← hw7] at HS4 ⊢
      have hmk : (Instr.makeSlice 33 (.int .i64 0) (.int .i64 0)).run Try.prog w7 = _ := run_make_zeros w7 0 (by omega)
      have S6 := made_bytes HS4.out 0 (by omega)
      obtain ⟨w5, hw5⟩ : ∃ w5, w5 = w7.alloc (.cells ((List.replicate 0 (0 : UInt8)).map byteV).toArray 5) := ⟨_, rfl⟩
      rw [← hw5] at hmk S6
      have hr6 := S6.bytes.reads
      have HS6 := Lib.hid S6.drop
      have Hr6 := Lib.hid hr6
      clear hw5 S6 hr6 hw7
      go_wp2_with fail
      refine (append_sep HS6.out Hr6.out (List.length_replicate ..) (by simp) (by omega) HJ.out.1 HJ.out.2.1 HJ.out.2.2.1 HJ.out.2.2.2).mono ?_
      rw [show List.replicate 0 (0 : UInt8) = [] from rfl, HF.out]
      rintro e w8 ⟨rfl, S8⟩
      have HS8 := Lib.hid S8
      clear S8 HS6 Hr6 hmk
      go_wp2_with fail
      refine (ops_sep HS8.out.up1).mono ?_
      rw [HOP.out]
      rintro e w9 ⟨rfl, rfl⟩
      go_wp2_with fail
      refine (next_sep HS8.out).mono ?_
      rw [HNX.out]
      rintro e w10 ⟨rfl, rfl⟩
      go_wp2_with fail
      refine (room_sep HS8.out HJ.out.1 HJ.out.2.1).mono ?_
      rw [HR.out]
      rintro e w11 ⟨rfl, rfl⟩
      have HS9 := Lib.hid HS8.out.drew.drop.drop
      go_wp2
      go_ret
      exact ⟨rfl, HS9.out⟩
theorem JournalRooms_walk (W : World) (sz : Int) (a : Option Addr) (la : List ByteArray) (ca : Nat) (ha : StrsAt W a la) (hla : la.length ≤ 9223372036854775807) :
    Calls Try.prog 8 #[.int .i64 sz, .slice a la.length ca] W fun e w' => e = .returned (.bool true) ∧ Below W.heap.size W w' := by
  obtain ⟨k, h7, hk⟩ := and_i64 sz 7 (by omega)
  exact (rooms_walk W _ (Sep.start W) sz a la ca ha hla rfl k (k + 2) hk rfl h7).mono fun e w' h => ⟨h.1, h.2.fin⟩
end Go.Proofs.Ytoihfamiclbffaa
