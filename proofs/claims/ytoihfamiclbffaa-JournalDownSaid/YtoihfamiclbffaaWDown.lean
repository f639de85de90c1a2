/- JournalDown: the walk. -/
import Derived.Test.YtoihfamiclbffaaLawC
import Derived.Test.YtoihfamiclbffaaDownP
import Derived.Test.YtoihfamiclbffaaStr
import Derived.Deep.RegionHeld
import Derived.Deep.RegionLaw
import Derived.Deep.QuietTactic
import Derived.Deep.CutBlock
import Derived.Deep.DeepCutAuto
import Derived.RegionTactic
namespace Go.Proofs.Ytoihfamiclbffaa
open Go.RowKit
set_option linter.unusedVariables false

set_option maxRecDepth 20000 in
set_option maxHeartbeats 8000000 in
theorem down_walk (w : World) (R : List Asn) (S : Sep w R) (n0 : Int) (a : Option Addr) (la : List ByteArray) (ca : Nat) (ha : StrsAt w a la) (hla : la.length ≤ 9223372036854775807) (hR : R = [oldA w]) (kn kr : Nat) (hk : Go.bits .and .i64 n0 65535 = (kn : Int)) (hkr : (kn : Int) % 21 = (kr : Int)) (hkn : kn ≤ 65535) :
    Calls Try.prog 9 #[.int .i64 n0, .slice a la.length ca] w fun e w' => e = .returned (.bool true) ∧ Sep w' R := by
  subst hR
  obtain ⟨na, hna⟩ : ∃ na, na = la.length := ⟨_, rfl⟩
  rw [← hna]
  rw [← hna] at hla
  have hkn0 : (0 : Int) ≤ (kn : Int) := by omega
  have hkr0 : (0 : Int) ≤ (kr : Int) := by omega
  have hkr1 : (kr : Int) < 21 := by omega
  have HNA := Lib.hid hna
  have HA := Lib.hid ha
  have HS := Lib.hid S
  clear hna ha S
  go_enter Try.func9, Try.ntmps9
  go_wp2_with fail
  refine (shown3_sep HS.out).mono ?_
  rintro e w1 ⟨rfl, S1⟩
  have HS1 := Lib.hid S1
  clear S1
  go_wp2_with fail
  refine (new_sep HS1.out 20 20 rfl (by omega) (by omega)).mono ?_
  rintro e w2 ⟨p, rfl, S2⟩
  obtain ⟨D1, D2, g1, g2, g3, g4, g5, g6, g7⟩ := log_format (Calm.new 20) (dk_len S2).1 (f := 0) (z := 20) (by omega) (by omega)
  have hfirst := down_first g3 g4 g6 g7 (kr : Int)
  have HS2 := Lib.hid S2
  have G1 := Lib.hid g1
  have G2 := Lib.hid g2
  have HF := Lib.hid hfirst
  clear S2 g1 g2 g3 g4 g5 g6 g7 hfirst
  go_wp2_with fail
  refine (format_sep HS2.out 0 20 _ _ rfl rfl (by omega) (by rw [(Calm.new 20).len]; omega) (Nat.zero_le _) D1 D2 _ _ G1.out G2.out).mono ?_
  rintro e w3 ⟨q, rfl, S3⟩
  have HS3 := Lib.hid S3
  clear S3 HS1 HS2 G1 G2 hk hkn0
  go_wp2_with fail
  refine (arm_nil HS3.out.up1 kr _ rfl (by omega)).mono ?_
  rintro e w4 ⟨rfl, S4⟩
  obtain ⟨D3, hD3⟩ : ∃ D3, D3 = D2.arm (kr : Int) [] := ⟨_, rfl⟩
  obtain ⟨j3, hj3⟩ : ∃ j3, j3 = jOf 0 20 1 [] := ⟨_, rfl⟩
  have hdn3 : D3.down = false := by have := HF.out.down; rw [← hD3] at this; exact this
  rw [← hD3, ← hj3] at S4 HF
  have HD3 := Lib.hid hdn3
  have HS4 := Lib.hid S4.up1
  clear S4 HS3 hD3 hj3 hdn3 hkr
  go_upto_block 0 with fail
  go_cut [10, 11] from 43 to 122 (fun dn i wx => ∃ (D : Dk) (j : Jn) (b : Bool), dn = .bool b ∧ Sep wx [jnA q p j, diskA p D, oldA w] ∧ Hid (DownI D j 10 ∧ D.down = b))
  case first =>
    go_wp2_with fail
    go_loopw [10, 11] (fun dn i wr => ∃ (k : Nat) (D : Dk) (j : Jn) (b : Bool), k ≤ na ∧ k ≤ 10 ∧ i = .int .i64 (k : Int) ∧ dn = .bool b ∧ Sep wr [jnA q p j, diskA p D, oldA w] ∧ Hid (DownI D j k ∧ D.down = b)) (fun _ i _ => na - (intOf i).toNat)
    case atStart => exact ⟨0, D3, j3, false, Nat.zero_le _, Nat.zero_le _, rfl, rfl, HS4.out, Lib.hid ⟨HF.out, HD3.out⟩⟩
    case round =>
      obtain ⟨k, D, j, b, hk, hk8, rfl, rfl, Sr, HI⟩ := hrel
      by_cases hlt : k < na ∧ k < 10
      · obtain ⟨hlt1, hlt8⟩ := hlt
        have hlt8i : (k : Int) < 10 := by omega
        have hk1 : (k : Int) < (na : Int) := by omega
        have hk0 : (0 : Int) ≤ (k : Int) := by omega
        obtain ⟨ab, ao, rfl, hc⟩ := HA.out k (by have := HNA.out; omega)
        obtain ⟨x, hx⟩ : ∃ x, x = la.getD k ByteArray.empty := ⟨_, rfl⟩
        rw [← hx] at hc
        have hcr := Sr.up2.arg hc
        have HSr := Lib.hid Sr.drew
        obtain ⟨nc, hmin, hn1, hn2, hn3, hn4, hn5⟩ := cut_string x 600
        have hmin' : (if (600 : Int) < (x.size : Int) then (600 : Int) else (x.size : Int)) = (nc : Int) := hmin
        have hn1' : (nc : Int) ≤ 600 := by omega
        have hn2' : (nc : Int) ≤ (x.size : Int) := by omega
        have hn0' : (0 : Int) ≤ (nc : Int) := by omega
        have hcv := conv_cut x nc hn5
        have hsl := slice_str x nc hn2
        obtain ⟨t, ht⟩ : ∃ t, t = x.data.toList.take 600 := ⟨_, rfl⟩
        rw [← ht] at hn3 hn4
        have Hcb := Lib.hid (conv_cut_at x nc t hn4)
        have Hlen : Hid (t.length = nc) := Lib.hid hn3
        have hn5' : ((x.extract 0 nc).size : Int) = (nc : Int) := by rw [hn5]
        have hap := down_append HI.out.1 (by omega) t (by omega)
        obtain ⟨⟨f, D5, j5⟩, hf⟩ : ∃ y, y = appendJ D j t := ⟨_, rfl⟩
        rw [← hf] at hap
        obtain ⟨a1, a2, a3⟩ := hap
        dsimp only at a1 a2 a3
        have hcm := down_commit a1
        obtain ⟨⟨g, D6, j6⟩, hg⟩ : ∃ y, y = commitJ D5 j5 := ⟨_, rfl⟩
        rw [← hg] at hcm
        obtain ⟨b1, b2, b3⟩ := hcm
        dsimp only at b1 b2 b3
        obtain ⟨r, hr⟩ : ∃ r, r = roomJ j := ⟨_, rfl⟩
        rw [← hr, hn3] at a2
        have hjs : j.size ≤ 4096 ∧ j.used ≤ j.size ∧ j.from_ + j.size ≤ D.secs.length ∧ D.waits.length ≤ 80000 :=
          ⟨by rw [HI.out.1.size]; omega, by rw [HI.out.1.size]; exact HI.out.1.used2, by rw [HI.out.1.size, HI.out.1.from_, HI.out.1.hard.len]; omega, by have := HI.out.1.waits; omega⟩
        have hcases : (f = 0 ∧ g = 0 ∧ b = false ∧ D6.down = false) ∨ (f = 0 ∧ g = 11 ∧ b = false ∧ D6.down = true) ∨ (f = 11 ∧ g = 11 ∧ b = false ∧ D6.down = true) ∨ (f = 11 ∧ g = 11 ∧ b = true ∧ D6.down = true) ∨ (f = 5 ∧ g = 0 ∧ b = false ∧ r < (nc : Int) ∧ D6.down = false) ∨ (f = 5 ∧ g = 11 ∧ b = false ∧ r < (nc : Int) ∧ D6.down = true) := by
          have hb := HI.out.2
          have hbf : f ≠ 11 → b = false := fun h => by
            cases hbb : b with
            | false => rfl
            | true => exact absurd (a3 (by rw [hb, hbb])) h
          rcases a2 with ⟨rfl, h2⟩ | ⟨rfl, h2⟩ | ⟨rfl, h2, h3⟩
          · rcases b2 with ⟨rfl, h4⟩ | ⟨rfl, h4⟩
            · exact .inl ⟨rfl, rfl, hbf (by omega), h4⟩
            · exact .inr (.inl ⟨rfl, rfl, hbf (by omega), h4⟩)
          · have h4 : D6.down = true := by rcases b2 with ⟨e, _⟩ | ⟨_, h4⟩; (rw [b3 h2] at e; cases e); exact h4
            cases hbb : b with
            | false => exact .inr (.inr (.inl ⟨rfl, b3 h2, rfl, h4⟩))
            | true => exact .inr (.inr (.inr (.inl ⟨rfl, b3 h2, rfl, h4⟩)))
          · rcases b2 with ⟨rfl, h4⟩ | ⟨rfl, h4⟩
            · exact .inr (.inr (.inr (.inr (.inl ⟨rfl, rfl, hbf (by omega), h3, h4⟩))))
            · exact .inr (.inr (.inr (.inr (.inr ⟨rfl, rfl, hbf (by omega), h3, h4⟩))))
        have HJ := Lib.hid hjs
        have HF2 := Lib.hid hf.symm
        have HG := Lib.hid hg.symm
        have HR := Lib.hid hr.symm
        have HB := Lib.hid b1
        have HCS := Lib.hid hcases
        clear hc Sr hx hmin hn1 hn2 hn3 hn4 hn5 hjs hf hg hr a1 a2 a3 b1 b2 b3 hcases ht
        go_wp2_with fail
        go_region_held (fun w' => w'.cell? ⟨ab, ao + k, none⟩ = some (.string x)) (first | assumption | exact hcr) (fail)
        go_wp2_with fail
        refine (room_sep HSr.out HJ.out.1 HJ.out.2.1).mono ?_
        rw [HR.out]
        rintro e w5 ⟨rfl, rfl⟩
        obtain ⟨w6, hw6⟩ : ∃ w6, w6 = wr.drew.drew := ⟨_, rfl⟩
        have HS6 := Lib.hid HSr.out.drew
        rw [← hw6] at HS6 ⊢
        have HS7 := Lib.hid (HS6.out.below (conv_below _ (x.extract 0 nc)))
        clear hw6 hcr
        go_wp2_with fail
        refine (append_sep HS7.out (Hcb.out w6) Hlen.out (by simp) (by omega) HJ.out.1 HJ.out.2.1 HJ.out.2.2.1 HJ.out.2.2.2).mono ?_
        rw [HF2.out]
        rintro e w8 ⟨rfl, S8⟩
        have HS8 := Lib.hid S8
        clear S8 HS7 HS6 hcv
        go_wp2_with fail
        refine (commit_sep HS8.out).mono ?_
        rw [HG.out]
        rintro e w9 ⟨rfl, S9⟩
        have HS9 := Lib.hid S9
        clear S9
        rcases HCS.out with ⟨rfl, rfl, rfl, hd⟩ | ⟨rfl, rfl, rfl, hd⟩ | ⟨rfl, rfl, rfl, hd⟩ | ⟨rfl, rfl, rfl, hd⟩ | ⟨rfl, rfl, rfl, hrn, hd⟩ | ⟨rfl, rfl, rfl, hrn, hd⟩
        all_goals
          have HD6 := Lib.hid hd
          clear hd HCS
          go_wp2_with fail
          refine (down_sep HS9.out.up1).mono ?_
          rw [HD6.out]
          rintro e w10 ⟨rfl, rfl⟩
          go_wp2
          go_roundw
          case rel => exact ⟨k + 1, D6, j6, _, by omega, by omega, by go_num, rfl, HS9.out, Lib.hid ⟨HB.out, HD6.out⟩⟩
          case measure => simp [intOf]; omega
      · have HSr := Lib.hid Sr
        clear Sr
        have HI3 : Hid (DownI D j 10 ∧ D.down = b) := Lib.hid ⟨⟨HI.out.1.hard, by have := HI.out.1.waits; omega, HI.out.1.down, HI.out.1.from_, HI.out.1.size, HI.out.1.used1, HI.out.1.used2, by have := HI.out.1.next; omega⟩, HI.out.2⟩
        by_cases hkl : k < na
        · have hk50 : ¬ (k : Int) < 10 := by omega
          have hk51 : (k : Int) < (na : Int) := by omega
          clear hlt
          go_wp2_with fail
          go_meet
          exact ⟨D, j, b, rfl, HSr.out, HI3⟩
        · have hkl' : ¬ (k : Int) < (na : Int) := by omega
          clear hlt
          go_wp2_with fail
          go_meet
          exact ⟨D, j, b, rfl, HSr.out, HI3⟩
  case rest =>
    obtain ⟨D, j, b, rfl, S, HI⟩ := hcut
    have HS := Lib.hid S
    clear S HS4
    cases b with
    | false =>
      have HS2 := Lib.hid HS.out.drop.drop
      go_wp2
      go_ret
      exact ⟨rfl, HS2.out⟩
    | true =>
      obtain ⟨l, D7, u, nn, e1, e2, e3, e4, e5, e6, e7, e8⟩ := down_again HI.out.1 (dk_len HS.out.up1).1 HI.out.2 (by omega)
      have E1 := Lib.hid e1
      have E4 := Lib.hid e4
      have E5 := Lib.hid e5
      have E6 := Lib.hid e6
      have E7 := Lib.hid e7
      have E8 := Lib.hid e8
      have hbr : j.broken = true := by rw [← HI.out.1.down]; exact HI.out.2
      have HRB := Lib.hid (reset_broken (D := D7) hbr)
      clear e1 e4 e5 e6 e7 e8 hbr
      go_wp2_with fail
      refine (start_sep HS.out.up1).mono ?_
      rintro e w5 ⟨rfl, S5⟩
      have HS5 := Lib.hid S5
      clear S5
      go_wp2_with fail
      refine (open_sep HS5.out 0 20 _ _ rfl rfl (by omega) (by omega) (by rw [E4.out]; omega)).mono ?_
      rw [E1.out]
      rintro e w6 ⟨q2, v, rs, rfl, -, -, -, S6⟩
      have HS6 := Lib.hid S6.up1.drop.dn2.up1
      clear S6 HS5 HS
      go_wp2_with fail
      refine (reset_sep HS6.out (by rw [HI.out.1.from_, E5.out]; omega) (by have := E6.out; omega)).mono ?_
      rw [HRB.out]
      rintro e w7 ⟨rfl, S7⟩
      have HS7 := Lib.hid S7.drop.up1
      clear S7 HS6
      have hk1 : (⟨0, 20, u, nn, false⟩ : Jn).size ≤ 4096 ∧ (⟨0, 20, u, nn, false⟩ : Jn).used ≤ (⟨0, 20, u, nn, false⟩ : Jn).size := ⟨by show 20 ≤ 4096; omega, e3⟩
      have HK := Lib.hid hk1
      clear hk1
      by_cases hu : u = 20
      · obtain ⟨hr, D8, j8, hc8⟩ := E7.out hu
        have HR := Lib.hid hr
        have HC := Lib.hid hc8
        clear hr hc8 hu
        go_wp2_with fail
        refine (room_sep HS7.out HK.out.1 HK.out.2).mono ?_
        rw [HR.out]
        rintro e w8 ⟨rfl, rfl⟩
        have HS8 := Lib.hid HS7.out.drew
        go_wp2_with fail
        refine (commit_sep HS8.out).mono ?_
        rw [HC.out]
        rintro e w9 ⟨rfl, S9⟩
        have HS9 := Lib.hid S9.drop.drop
        clear S9 HS8 HS7
        go_wp2
        go_ret
        exact ⟨rfl, HS9.out⟩
      · obtain ⟨hr, D8, j8, D9, j9, ha8, hc8⟩ := E8.out (by omega)
        obtain ⟨r, hrr⟩ : ∃ r, r = roomJ ⟨0, 20, u, nn, false⟩ := ⟨_, rfl⟩
        rw [← hrr] at hr
        have HR := Lib.hid hrr.symm
        have HA8 := Lib.hid ha8
        have HC := Lib.hid hc8
        clear hrr hc8 hu ha8
        go_wp2_with fail
        refine (room_sep HS7.out HK.out.1 HK.out.2).mono ?_
        rw [HR.out]
        rintro e w8 ⟨rfl, rfl⟩
        have HS8 := Lib.hid HS7.out.drew
        go_wp2_with fail
        refine (append_sep HS8.out (BytesAt.nil _ _) (show ([] : List UInt8).length = 0 from rfl) (fun _ => rfl) (by omega) HK.out.1 HK.out.2 (by show 0 + 20 ≤ _; rw [E5.out]; omega) (by have := E6.out; omega)).mono ?_
        rw [HA8.out]
        rintro e w9 ⟨rfl, S9⟩
        have HS9 := Lib.hid S9
        clear S9 HS8 HS7
        go_wp2_with fail
        refine (commit_sep HS9.out).mono ?_
        rw [HC.out]
        rintro e w10 ⟨rfl, S10⟩
        have HS10 := Lib.hid S10.drop.drop
        clear S10 HS9
        go_wp2
        go_ret
        exact ⟨rfl, HS10.out⟩
theorem JournalDown_walk (W : World) (n0 : Int) (a : Option Addr) (la : List ByteArray) (ca : Nat) (ha : StrsAt W a la) (hla : la.length ≤ 9223372036854775807) :
    Calls Try.prog 9 #[.int .i64 n0, .slice a la.length ca] W fun e w' => e = .returned (.bool true) ∧ Below W.heap.size W w' := by
  obtain ⟨k, h15, hk⟩ := and_i64 n0 65535 (by omega)
  exact (down_walk W _ (Sep.start W) n0 a la ca ha hla rfl k (k % 21) hk (by omega) h15).mono fun e w' h => ⟨h.1, h.2.fin⟩
end Go.Proofs.Ytoihfamiclbffaa
