/- JournalPlaces: the walk. -/
import Derived.Test.YtoihfamiclbffaaLawC
import Derived.Test.YtoihfamiclbffaaPm
import Derived.Test.YtoihfamiclbffaaNums
namespace Go.Proofs.Ytoihfamiclbffaa
open Go.RowKit

def markL : List UInt8 := 77 :: List.replicate 511 0
def markD (n k : Nat) : Dk := (List.range k).foldl (fun D i => D.write i markL) (Dk.new n)
theorem markD_succ (n k : Nat) : markD n (k + 1) = (markD n k).write k markL := by unfold markD; rw [List.range_succ, List.foldl_append]; rfl
theorem markD_calm (n : Nat) : ∀ k, Calm (markD n k) n k ∧ ∀ i, i < k → (markD n k).now i = markL
  | 0 => ⟨Calm.new n, fun i hi => by omega⟩
  | k + 1 => by
    obtain ⟨h1, h2⟩ := markD_calm n k
    rw [markD_succ]
    refine ⟨h1.write k markL, fun i hi => ?_⟩
    rw [now_write h1]
    by_cases e : k = i
    · rw [if_pos e]
    · rw [if_neg e, h2 i (by omega)]
theorem pic_mark : pic 1 startN [] ≠ markL := by decide +kernel
theorem begin_repl (m : Nat) (s : List UInt8) (h1 : 1 ≤ m) (h2 : m ≤ lastN) : ∃ l n u, replB (splice s 0 (pic m startN [])) = some (l, n, u) := by
  obtain ⟨r, hr⟩ : ∃ r, splice s 0 (pic m startN []) = headL m startN [] ++ r := ⟨_, by unfold splice; rw [pic_eq, List.take_zero, List.nil_append, List.append_assoc]⟩
  have g1 : numL ((splice s 0 (pic m startN [])).take 8) = m := by rw [hr]; exact headL_num m startN [] r (by unfold lastN at h2; omega)
  have g2 : (splice s 0 (pic m startN [])).take 16 = headL m startN [] := by rw [hr, List.take_append_of_le_length (by rw [headL_len]; omega), List.take_of_length_le (by rw [headL_len]; omega)]
  unfold replB
  rw [g1, g2, if_neg (by simp; omega)]
  exact ⟨_, _, _, rfl⟩
def PlaceSaid (n f z : Nat) (D1 D2 D3 : Dk) (j : Jn) (l : List (List UInt8)) : Prop :=
  resetJ (markD n n) ⟨f, z, 0, 1, false⟩ = (0, D1, ⟨f, z, 1, 2, false⟩) ∧ commitJ D1 ⟨f, z, 1, 2, false⟩ = (0, D2, ⟨f, z, 1, 2, false⟩) ∧ D2.secs.length = n ∧ opnJ D2 f z = .ok l D3 j ∧ Calm D3 n 0 ∧
    ∀ i, i < n → D3.now i = if i = f then pic 1 startN [] else markL
theorem place_ex {n f z : Nat} (hok : (markD n n).Ok) (h2 : 2 ≤ z) (hz : f + z ≤ n) : ∃ D1 D2 D3 j l, PlaceSaid n f z D1 D2 D3 j l := by
  obtain ⟨c, hc⟩ := markD_calm n n
  obtain ⟨D1, D2, g1, g2, g3, g4, g5, g6, g7⟩ := format_calm c (Area.of hok f z (by rw [c.len]; omega)) (by omega) hz
  obtain ⟨l, nn, u, hr⟩ := begin_repl 1 (rowD (markD n n) f z) (by omega) (by unfold lastN; omega)
  obtain ⟨D3, o1, o2, -⟩ := open_some g3 g4 h2 hr
  refine ⟨D1, D2, D3, ⟨f, z, u, nn, false⟩, l, ?_⟩
  unfold PlaceSaid
  refine ⟨g1, g2, g3.len, o1, o2.calm g3, fun i hi => ?_⟩
  rw [o2.now]
  by_cases e : i = f
  · rw [if_pos e, e]
    have := g4.sec 0 (by omega)
    rw [Nat.add_zero] at this
    rw [this]
    unfold splice
    rw [Nat.mul_zero, List.drop_zero, List.take_zero, List.nil_append, List.take_append_of_le_length (by rw [begin_len]; omega), List.take_of_length_le (by rw [begin_len]; omega)]
  · rw [if_neg e, g5 i hi e, hc i hi]

set_option maxRecDepth 20000 in
set_option maxHeartbeats 8000000 in
theorem places_far (w : World) (R : List Asn) (S : Sep w R) (a F Z : Int) (k n : Nat) (hk : Go.bits .and .i64 a 15 = (k : Int)) (hn : n = k + 1) (hk15 : k ≤ 15)  :
    Calls Try.prog 5 #[.int .i64 a, .int .i64 F, .int .i64 Z, .bool false] w fun e w' => e = .returned (.bool true) ∧ Sep w' R := by
  have HS := Lib.hid S
  have hne : (1 : Int) + (k : Int) = (n : Int) := by omega
  have hn1 : 1 ≤ n := by omega
  have hn2 : n ≤ 16 := by omega
  clear S hn
  go_enter Try.func5, Try.ntmps5
  go_wp2_with fail
  refine (shown3_sep HS.out).mono ?_
  rintro e w1 ⟨rfl, S1⟩
  have HS1 := Lib.hid S1
  clear S1
  go_wp2_with fail
  refine (new_sep HS1.out n (n : Int) rfl hn1 (by omega)).mono ?_
  rintro e w2 ⟨p, rfl, S2⟩
  have hmk : (Instr.makeSlice 33 (.int .i64 512) (.int .i64 512)).run Try.prog w2 = _ := run_make_zeros w2 512 (by omega)
  have S3 := made_bytes S2 512 (by omega)
  obtain ⟨w3, hw3⟩ : ∃ w3, w3 = w2.alloc (.cells ((List.replicate 512 (0 : UInt8)).map byteV).toArray 5) := ⟨_, rfl⟩
  obtain ⟨g, hg⟩ : ∃ g, g = w2.heap.size := ⟨_, rfl⟩
  rw [← hw3] at hmk S3
  rw [← hg] at hmk S3
  have S4 := S3.bytes_set 0 77
  have hml : (List.replicate 512 (0 : UInt8)).set 0 77 = markL := by decide +kernel
  rw [hml] at S4
  obtain ⟨_, e, _, hlt, hc, hf⟩ := S3.bytes.at (by omega)
  cases e
  have hc0 := hc 0 (by omega)
  have HS4 := Lib.hid S4
  clear S2 S3 S4 hc hw3 hg hml 
  go_wp2
  clear hmk hc0 hf
  go_loopw [13] (fun i wr => ∃ k : Nat, k ≤ n ∧ i = .int .i64 (k : Int) ∧ Sep wr (bytesA (.slice (some ⟨g, 0, none⟩) 512 512) 512 markL :: diskA p (markD n k) :: R)) (fun i _ => n - (intOf i).toNat)
  case atStart => exact ⟨0, Nat.zero_le _, rfl, HS4.out⟩
  case round =>
    obtain ⟨k, hk, rfl, Sr⟩ := hrel
    have HSr := Lib.hid Sr
    clear Sr
    by_cases hlt1 : k < n
    · have hlt2 : (k : Int) < (n : Int) := by omega
      have HD := Lib.hid (markD_calm n k)
      go_wp2_with fail
      refine (write_own HSr.out k _ rfl (by rw [HD.out.1.len]; exact hlt1) (by have := HD.out.1.fwaits; omega)).mono ?_
      rw [← markD_succ, HD.out.1.rd]
      rintro e w4 ⟨rfl, S5⟩
      have HS5 := Lib.hid S5
      clear S5
      go_wp2
      go_roundw
      case rel => exact ⟨k + 1, by omega, by go_num, HS5.out⟩
      case measure => simp [intOf]; omega
    · have hks : k = n := by omega
      rw [hks] at HSr
      have hlt2 : ¬ (k : Int) < (n : Int) := by omega
      clear hks hlt HS4
      have HD := Lib.hid (markD_calm n n)
      by_cases hmay : 2 ≤ Z ∧ 0 ≤ F ∧ Z ≤ (n : Int) ∧ F ≤ (n : Int) - Z
      · obtain ⟨m1, m2, m3, m4⟩ := hmay
        obtain ⟨f, rfl⟩ := Int.eq_ofNat_of_zero_le m2
        obtain ⟨z, rfl⟩ := Int.eq_ofNat_of_zero_le (show 0 ≤ Z by omega)
        have z2 : 2 ≤ z := by omega
        have zn : f + z ≤ n := by omega
        obtain ⟨D1, D2, D3, j, l, g1, g2, g3, g4, g5, g6⟩ := place_ex (dk_len HSr.out.drop).1 z2 zn
        have G1 := Lib.hid g1
        have G2 := Lib.hid g2
        have G3 := Lib.hid g3
        have G4 := Lib.hid g4
        have G5 := Lib.hid g5
        have G6 := Lib.hid g6
        clear g1 g2 g3 g4 g5 g6
        go_wp2_with fail
        refine (format_sep HSr.out.up1 f z _ _ rfl rfl z2 (by rw [HD.out.1.len]; exact zn) (by have := HD.out.1.waits; omega) D1 D2 _ _ G1.out G2.out).mono ?_
        rintro e w4 ⟨q, rfl, S5⟩
        have HS5 := Lib.hid S5.up1
        clear S5
        go_wp2_with fail
        refine (open_sep HS5.out f z _ _ rfl rfl z2 (by omega) (by rw [G3.out]; exact zn)).mono ?_
        rw [G4.out]
        rintro e w5 ⟨q2, v, rs, rfl, -, -, -, S6⟩
        have HS6 := Lib.hid S6.drop.drop.dn2.drop
        clear S6 HS5 HSr
        go_wp2
        go_loopw [20] (fun i wr => ∃ (k : Nat) (Dx : Dk), k ≤ n ∧ i = .int .i64 (k : Int) ∧ Same D3 Dx ∧ Sep wr (diskA p Dx :: bytesA (.slice (some ⟨g, 0, none⟩) 512 512) 512 markL :: R)) (fun i _ => n - (intOf i).toNat)
        case atStart => exact ⟨0, D3, Nat.zero_le _, rfl, Same.refl _, HS6.out.up1⟩
        case round =>
          obtain ⟨k, Dx, hk, rfl, hsm, Sr⟩ := hrel
          have cx := hsm.calm G5.out
          have hmx : markL.length = 512 := by decide +kernel
          by_cases hlt1 : k < n
          · have hlt2 : (k : Int) < (n : Int) := by omega
            have hl := G6.out k hlt1
            rw [← hsm.now, ← cx.same.now] at hl
            obtain ⟨lx, hlx⟩ : ∃ lx, lx = Dx.begun.now k := ⟨_, rfl⟩
            rw [← hlx] at hl
            have hll : lx.length = 512 := by rw [hlx]; exact Dk.now_len (cx.same.ok (dk_len Sr).1) k (by rw [cx.begun.len]; exact hlt1)
            have hkl : k < Dx.secs.length := by rw [cx.len]; exact hlt1
            have hs2 := hsm.trans cx.same
            have HSr := Lib.hid Sr
            have CX := Lib.hid cx
            have HL := Lib.hid hl
            have HLX := Lib.hid hlx
            have HLL := Lib.hid hll
            have HS2 := Lib.hid hs2
            have HMX := Lib.hid hmx
            clear Sr cx hl hlx hll hs2 hmx hsm
            go_wp2_with fail
            refine (read_sep HSr.out k _ rfl hkl CX.out.fdown lx HLX.out.symm).mono ?_
            rintro e w6 ⟨B, rfl, S7⟩
            have tr := run_string S7.bytes.reads 512 512 HLL.out
            have tm := run_string S7.up2.bytes.reads 512 512 HMX.out
            have HS7 := Lib.hid S7.drop
            clear S7 HSr CX HLX HLL HMX
            by_cases hkf : k = f
            · have hp : (lx == markL) = false := by rw [HL.out, if_pos hkf]; decide +kernel
              subst hkf
              go_wp2
              exact ⟨⟨k + 1, _, by omega, by go_num, HS2.out, HS7.out⟩, by simp [intOf]; omega⟩
            · have hp : lx = markL := by rw [HL.out, if_neg hkf]
              have hq : ((k : Int) != (f : Int)) = true := by simp; omega
              have hq2 : ((k : Int) == (f : Int)) = false := by simp; omega
              subst hp
              clear hkf
              go_wp2
              exact ⟨⟨k + 1, _, by omega, by go_num, HS2.out, HS7.out⟩, by simp [intOf]; omega⟩
          · have hlt2 : ¬ (k : Int) < (n : Int) := by omega
            have HSr := Lib.hid Sr.drop.drop
            clear Sr cx hsm hmx
            go_wp2
            go_ret
            exact ⟨rfl, HSr.out⟩
      · have Hmay := Lib.hid hmay
        have hm2 : ¬ (2 ≤ Z ∧ 0 ≤ F ∧ Z ≤ ((markD n n).secs.length : Int) ∧ F ≤ ((markD n n).secs.length : Int) - Z) := by rw [HD.out.1.len]; exact hmay
        have Hm2 := Lib.hid hm2
        clear hmay hm2
        go_wp2_with fail
        refine (format_not HSr.out.drop F Z Hm2.out).mono ?_
        rintro e w4 ⟨rfl, rfl⟩
        go_wp2_with fail
        refine (open_not HSr.out.drop F Z Hm2.out).mono ?_
        rintro e w5 ⟨rfl, S5⟩
        have HS5 := Lib.hid S5.drop
        clear S5
        have hm := Hmay.out
        by_cases z1 : 2 ≤ Z
        · by_cases z2 : 0 ≤ F
          · by_cases z3 : Z ≤ (n : Int)
            · have z4 : ¬ F ≤ (n : Int) - Z := fun h => hm ⟨z1, z2, z3, h⟩
              have z6 : decide (F ≤ (n : Int) - Z) = false := by simpa using z4
              clear hm z4
              go_wp2
              all_goals (go_ret; exact ⟨rfl, HS5.out⟩)
            · clear hm
              go_wp2
              go_ret
              exact ⟨rfl, HS5.out⟩
          · clear hm
            go_wp2
            go_ret
            exact ⟨rfl, HS5.out⟩
        · clear hm
          go_wp2
          go_ret
          exact ⟨rfl, HS5.out⟩

set_option maxRecDepth 20000 in
set_option maxHeartbeats 8000000 in
theorem places_near (w : World) (R : List Asn) (S : Sep w R) (a F0 Z0 F Z : Int) (k n : Nat) (hk : Go.bits .and .i64 a 15 = (k : Int)) (hn : n = k + 1) (hk15 : k ≤ 15) (hF : Go.bits .and .i64 F0 15 = F) (hZ : Go.bits .and .i64 Z0 15 = Z) :
    Calls Try.prog 5 #[.int .i64 a, .int .i64 F0, .int .i64 Z0, .bool true] w fun e w' => e = .returned (.bool true) ∧ Sep w' R := by
  have HS := Lib.hid S
  have hne : (1 : Int) + (k : Int) = (n : Int) := by omega
  have hn1 : 1 ≤ n := by omega
  have hn2 : n ≤ 16 := by omega
  clear S hn
  go_enter Try.func5, Try.ntmps5
  go_wp2_with fail
  refine (shown3_sep HS.out).mono ?_
  rintro e w1 ⟨rfl, S1⟩
  have HS1 := Lib.hid S1
  clear S1
  go_wp2_with fail
  refine (new_sep HS1.out n (n : Int) rfl hn1 (by omega)).mono ?_
  rintro e w2 ⟨p, rfl, S2⟩
  have hmk : (Instr.makeSlice 33 (.int .i64 512) (.int .i64 512)).run Try.prog w2 = _ := run_make_zeros w2 512 (by omega)
  have S3 := made_bytes S2 512 (by omega)
  obtain ⟨w3, hw3⟩ : ∃ w3, w3 = w2.alloc (.cells ((List.replicate 512 (0 : UInt8)).map byteV).toArray 5) := ⟨_, rfl⟩
  obtain ⟨g, hg⟩ : ∃ g, g = w2.heap.size := ⟨_, rfl⟩
  rw [← hw3] at hmk S3
  rw [← hg] at hmk S3
  have S4 := S3.bytes_set 0 77
  have hml : (List.replicate 512 (0 : UInt8)).set 0 77 = markL := by decide +kernel
  rw [hml] at S4
  obtain ⟨_, e, _, hlt, hc, hf⟩ := S3.bytes.at (by omega)
  cases e
  have hc0 := hc 0 (by omega)
  have HS4 := Lib.hid S4
  clear S2 S3 S4 hc hw3 hg hml 
  go_wp2
  clear hmk hc0 hf hF hZ
  go_loopw [13] (fun i wr => ∃ k : Nat, k ≤ n ∧ i = .int .i64 (k : Int) ∧ Sep wr (bytesA (.slice (some ⟨g, 0, none⟩) 512 512) 512 markL :: diskA p (markD n k) :: R)) (fun i _ => n - (intOf i).toNat)
  case atStart => exact ⟨0, Nat.zero_le _, rfl, HS4.out⟩
  case round =>
    obtain ⟨k, hk, rfl, Sr⟩ := hrel
    have HSr := Lib.hid Sr
    clear Sr
    by_cases hlt1 : k < n
    · have hlt2 : (k : Int) < (n : Int) := by omega
      have HD := Lib.hid (markD_calm n k)
      go_wp2_with fail
      refine (write_own HSr.out k _ rfl (by rw [HD.out.1.len]; exact hlt1) (by have := HD.out.1.fwaits; omega)).mono ?_
      rw [← markD_succ, HD.out.1.rd]
      rintro e w4 ⟨rfl, S5⟩
      have HS5 := Lib.hid S5
      clear S5
      go_wp2
      go_roundw
      case rel => exact ⟨k + 1, by omega, by go_num, HS5.out⟩
      case measure => simp [intOf]; omega
    · have hks : k = n := by omega
      rw [hks] at HSr
      have hlt2 : ¬ (k : Int) < (n : Int) := by omega
      clear hks hlt HS4
      have HD := Lib.hid (markD_calm n n)
      by_cases hmay : 2 ≤ Z ∧ 0 ≤ F ∧ Z ≤ (n : Int) ∧ F ≤ (n : Int) - Z
      · obtain ⟨m1, m2, m3, m4⟩ := hmay
        obtain ⟨f, rfl⟩ := Int.eq_ofNat_of_zero_le m2
        obtain ⟨z, rfl⟩ := Int.eq_ofNat_of_zero_le (show 0 ≤ Z by omega)
        have z2 : 2 ≤ z := by omega
        have zn : f + z ≤ n := by omega
        obtain ⟨D1, D2, D3, j, l, g1, g2, g3, g4, g5, g6⟩ := place_ex (dk_len HSr.out.drop).1 z2 zn
        have G1 := Lib.hid g1
        have G2 := Lib.hid g2
        have G3 := Lib.hid g3
        have G4 := Lib.hid g4
        have G5 := Lib.hid g5
        have G6 := Lib.hid g6
        clear g1 g2 g3 g4 g5 g6
        go_wp2_with fail
        refine (format_sep HSr.out.up1 f z _ _ rfl rfl z2 (by rw [HD.out.1.len]; exact zn) (by have := HD.out.1.waits; omega) D1 D2 _ _ G1.out G2.out).mono ?_
        rintro e w4 ⟨q, rfl, S5⟩
        have HS5 := Lib.hid S5.up1
        clear S5
        go_wp2_with fail
        refine (open_sep HS5.out f z _ _ rfl rfl z2 (by omega) (by rw [G3.out]; exact zn)).mono ?_
        rw [G4.out]
        rintro e w5 ⟨q2, v, rs, rfl, -, -, -, S6⟩
        have HS6 := Lib.hid S6.drop.drop.dn2.drop
        clear S6 HS5 HSr
        go_wp2
        go_loopw [20] (fun i wr => ∃ (k : Nat) (Dx : Dk), k ≤ n ∧ i = .int .i64 (k : Int) ∧ Same D3 Dx ∧ Sep wr (diskA p Dx :: bytesA (.slice (some ⟨g, 0, none⟩) 512 512) 512 markL :: R)) (fun i _ => n - (intOf i).toNat)
        case atStart => exact ⟨0, D3, Nat.zero_le _, rfl, Same.refl _, HS6.out.up1⟩
        case round =>
          obtain ⟨k, Dx, hk, rfl, hsm, Sr⟩ := hrel
          have cx := hsm.calm G5.out
          have hmx : markL.length = 512 := by decide +kernel
          by_cases hlt1 : k < n
          · have hlt2 : (k : Int) < (n : Int) := by omega
            have hl := G6.out k hlt1
            rw [← hsm.now, ← cx.same.now] at hl
            obtain ⟨lx, hlx⟩ : ∃ lx, lx = Dx.begun.now k := ⟨_, rfl⟩
            rw [← hlx] at hl
            have hll : lx.length = 512 := by rw [hlx]; exact Dk.now_len (cx.same.ok (dk_len Sr).1) k (by rw [cx.begun.len]; exact hlt1)
            have hkl : k < Dx.secs.length := by rw [cx.len]; exact hlt1
            have hs2 := hsm.trans cx.same
            have HSr := Lib.hid Sr
            have CX := Lib.hid cx
            have HL := Lib.hid hl
            have HLX := Lib.hid hlx
            have HLL := Lib.hid hll
            have HS2 := Lib.hid hs2
            have HMX := Lib.hid hmx
            clear Sr cx hl hlx hll hs2 hmx hsm
            go_wp2_with fail
            refine (read_sep HSr.out k _ rfl hkl CX.out.fdown lx HLX.out.symm).mono ?_
            rintro e w6 ⟨B, rfl, S7⟩
            have tr := run_string S7.bytes.reads 512 512 HLL.out
            have tm := run_string S7.up2.bytes.reads 512 512 HMX.out
            have HS7 := Lib.hid S7.drop
            clear S7 HSr CX HLX HLL HMX
            by_cases hkf : k = f
            · have hp : (lx == markL) = false := by rw [HL.out, if_pos hkf]; decide +kernel
              subst hkf
              go_wp2
              exact ⟨⟨k + 1, _, by omega, by go_num, HS2.out, HS7.out⟩, by simp [intOf]; omega⟩
            · have hp : lx = markL := by rw [HL.out, if_neg hkf]
              have hq : ((k : Int) != (f : Int)) = true := by simp; omega
              have hq2 : ((k : Int) == (f : Int)) = false := by simp; omega
              subst hp
              clear hkf
              go_wp2
              exact ⟨⟨k + 1, _, by omega, by go_num, HS2.out, HS7.out⟩, by simp [intOf]; omega⟩
          · have hlt2 : ¬ (k : Int) < (n : Int) := by omega
            have HSr := Lib.hid Sr.drop.drop
            clear Sr cx hsm hmx
            go_wp2
            go_ret
            exact ⟨rfl, HSr.out⟩
      · have Hmay := Lib.hid hmay
        have hm2 : ¬ (2 ≤ Z ∧ 0 ≤ F ∧ Z ≤ ((markD n n).secs.length : Int) ∧ F ≤ ((markD n n).secs.length : Int) - Z) := by rw [HD.out.1.len]; exact hmay
        have Hm2 := Lib.hid hm2
        clear hmay hm2
        go_wp2_with fail
        refine (format_not HSr.out.drop F Z Hm2.out).mono ?_
        rintro e w4 ⟨rfl, rfl⟩
        go_wp2_with fail
        refine (open_not HSr.out.drop F Z Hm2.out).mono ?_
        rintro e w5 ⟨rfl, S5⟩
        have HS5 := Lib.hid S5.drop
        clear S5
        have hm := Hmay.out
        by_cases z1 : 2 ≤ Z
        · by_cases z2 : 0 ≤ F
          · by_cases z3 : Z ≤ (n : Int)
            · have z4 : ¬ F ≤ (n : Int) - Z := fun h => hm ⟨z1, z2, z3, h⟩
              have z6 : decide (F ≤ (n : Int) - Z) = false := by simpa using z4
              clear hm z4
              go_wp2
              all_goals (go_ret; exact ⟨rfl, HS5.out⟩)
            · clear hm
              go_wp2
              go_ret
              exact ⟨rfl, HS5.out⟩
          · clear hm
            go_wp2
            go_ret
            exact ⟨rfl, HS5.out⟩
        · clear hm
          go_wp2
          go_ret
          exact ⟨rfl, HS5.out⟩

theorem JournalPlaces_walk (W : World) (a F Z : Int) (nr : Bool) :
    Calls Try.prog 5 #[.int .i64 a, .int .i64 F, .int .i64 Z, .bool nr] W fun e w' => e = .returned (.bool true) ∧ Below W.heap.size W w' := by
  obtain ⟨k, h15, hk⟩ := and_i64 a 15 (by omega)
  cases nr with
  | false => exact (places_far W _ (Sep.start W) a F Z k (k + 1) hk rfl h15).mono fun e w' h => ⟨h.1, h.2.fin⟩
  | true =>
    obtain ⟨f, _, hf⟩ := and_i64 F 15 (by omega)
    obtain ⟨z, _, hz⟩ := and_i64 Z 15 (by omega)
    exact (places_near W _ (Sep.start W) a F Z f z k (k + 1) hk rfl h15 hf hz).mono fun e w' h => ⟨h.1, h.2.fin⟩
end Go.Proofs.Ytoihfamiclbffaa
