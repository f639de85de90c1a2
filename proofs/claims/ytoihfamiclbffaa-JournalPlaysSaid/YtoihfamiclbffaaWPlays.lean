/- JournalPlays: the walk. -/
import Derived.Test.YtoihfamiclbffaaLawC
import Derived.Test.YtoihfamiclbffaaPlaysP
import Derived.Test.YtoihfamiclbffaaOpenJ
import Derived.Test.YtoihfamiclbffaaStr
import Derived.Test.YtoihfamiclbffaaRefD
import Derived.Deep.RegionHeld
import Derived.Deep.RegionLaw
import Derived.Deep.QuietTactic
import Derived.Deep.CutBlock
import Derived.Deep.DeepCutAuto
import Derived.RegionTactic
namespace Go.Proofs.Ytoihfamiclbffaa
open Go.RowKit
set_option linter.unusedVariables false

theorem Sep.old_arg {w0 w : World} {R : List Asn} (S : Sep w (oldA w0 :: R)) {b o : Nat} {v : Value} (h : w0.cell? ⟨b, o, none⟩ = some v) : w.cell? ⟨b, o, none⟩ = some v := S.arg h
theorem named3 {w : World} {R : List Asn} (_ : Sep w R) : ∃ w', w' = w := ⟨_, rfl⟩
def zw (m : Nat) (W : World) : World := W.alloc (.cells ((List.replicate m (0 : UInt8)).map byteV).toArray 5)
theorem zw_below (m : Nat) (W : World) : Below W.heap.size W (zw m W) := (Below.refl _ _).alloc (Nat.le_refl _) _
theorem zw_make (m : Nat) (hm : m ≤ 1000000) (W : World) : (Instr.makeSlice 33 (.int .i64 (m : Int)) (.int .i64 (m : Int))).run Try.prog W = .ok (.slice (some ⟨W.heap.size, 0, none⟩) m m) (zw m W) := run_make_zeros W m hm
theorem zw_bytes (m : Nat) (hm : m ≤ 1000000) (W : World) : BytesAt (zw m W) (some ⟨W.heap.size, 0, none⟩) (List.replicate m 0) := (made_bytes (Sep.nil W) m hm).bytes.reads
theorem zw_conv (m : Nat) (hm : m ≤ 1000000) (W W' : World) (h : Below (zw m W).heap.size (zw m W) W') : (convert 33 9 (.slice (some ⟨W.heap.size, 0, none⟩) m m)).run Try.prog W' = .ok (.string ⟨(List.replicate m (0 : UInt8)).toArray⟩) W' :=
  run_string ((zw_bytes m hm W).below h) m m (List.length_replicate ..)
theorem conv_list (l : List UInt8) (n : Nat) (hl : l.length = n) (W : World) : (convert 9 33 (.string ⟨l.toArray⟩)).run Try.prog W = .ok (.slice (some ⟨W.heap.size, 0, none⟩) n (grownCap W n 0 5)) (Lib.bytesWorld W 5 ⟨l.toArray⟩) := by
  have h := conv_string W ⟨l.toArray⟩
  have e : (⟨l.toArray⟩ : ByteArray).size = n := hl
  rw [e] at h
  exact h
theorem conv_list_at (l : List UInt8) (W : World) : BytesAt (Lib.bytesWorld W 5 ⟨l.toArray⟩) (some ⟨W.heap.size, 0, none⟩) l := conv_bytes W ⟨l.toArray⟩

theorem slice_bools (a : Option Addr) (n cap hi : Nat) (h2 : hi ≤ cap) (W : World) :
    (Instr.sliceAt 34 (.slice a n cap) none (some (.int .i64 (hi : Int))) none).run Try.prog W = .ok (.slice a hi cap) W := by
  have a1 : (hi : Int) ≤ (cap : Int) := by omega
  by_cases hc : cap = 0
  · subst hc
    obtain rfl : hi = 0 := by omega
    clear h2
    go_simp
  · have a10 : cap ≠ 0 := hc
    clear h2 hc
    go_simp

set_option maxRecDepth 100000 in
set_option maxHeartbeats 60000000 in
theorem plays_walk (w : World) (R : List Asn) (S : Sep w R) (fr sz : Int) (a : Option Addr) (la : List StepJ) (ca : Nat) (ha : StepsAt w a la) (hla : la.length ≤ 9223372036854775807) (hR : R = [oldA w]) (f kz z : Nat) (hf : Go.bits .and .i64 fr 3 = (f : Int)) (hf3 : f ≤ 3) (hkz : Go.bits .and .i64 sz 65535 = (kz : Int)) (hz : z = kz % 7 + 2) :
    Calls Try.prog 3 #[.int .i64 fr, .int .i64 sz, .slice a la.length ca] w fun e w' => e = .returned (.bool true) ∧ Sep w' R := by
  subst hR
  obtain ⟨na, hna⟩ : ∃ na, na = la.length := ⟨_, rfl⟩
  rw [← hna]
  rw [← hna] at hla
  have hzz : (2 : Int) + (kz : Int) % 7 = (z : Int) := by omega
  have hz2 : 2 ≤ z := by omega
  have hz8 : z ≤ 8 := by omega
  have hz2' : (2 : Int) ≤ (z : Int) := by omega
  have hz8' : (z : Int) ≤ 8 := by omega
  have hfz : f + z ≤ 12 := by omega
  have hkz0 : (0 : Int) ≤ (kz : Int) := by omega
  have HNA := Lib.hid hna
  have HA := Lib.hid ha
  have HS := Lib.hid S
  clear hna ha S hz
  go_enter Try.func3, Try.ntmps3
  go_wp2_with fail
  refine (shown3_sep HS.out).mono ?_
  rintro e w1 ⟨rfl, S1⟩
  have HS1 := Lib.hid S1
  clear S1
  go_wp2_with fail
  refine (new_sep HS1.out 12 12 rfl (by omega) (by omega)).mono ?_
  rintro e w2 ⟨p, rfl, S2⟩
  obtain ⟨D1, D2, g1, g2, g3, g4, g5, g6, g7⟩ := log_format (Calm.new 12) (dk_len S2).1 (f := f) (z := z) (by omega) (by omega)
  have hfirst := play_first g3 g4 hfz hz2 g6 g7
  have HS2 := Lib.hid S2
  have G1 := Lib.hid g1
  have G2 := Lib.hid g2
  have HF := Lib.hid hfirst
  clear S2 g1 g2 g3 g4 g5 g6 g7 hfirst hf hkz hzz
  go_wp2_with fail
  refine (format_sep HS2.out f z _ _ rfl rfl hz2 (by rw [(Calm.new 12).len]; omega) (Nat.zero_le _) D1 D2 _ _ G1.out G2.out).mono ?_
  rintro e w3 ⟨q, rfl, S3⟩
  have HS3 := Lib.hid S3
  clear S3 HS1 HS2 G1 G2 hkz0
  go_upto_region 10 with fail
  go_cut [12] (fun sv wx => sv = .string ⟨(pic 1 startN [] ++ List.replicate (512 * (z - 1)) 0).toArray⟩ ∧ Sep wx [jnA q p ⟨f, z, 1, 2, false⟩, diskA p D2, oldA w])
  case first =>
    as_aux_lemma =>
      obtain ⟨m, hm⟩ : ∃ m, m = 512 * (z - 1) := ⟨_, rfl⟩
      have hmm : m ≤ 1000000 := by omega
      have q1 : IntKind.i64.wrap ((z : Int) - 1) = (z : Int) - 1 := by rw [IntKind.wrap_i64]; omega
      have q2 : IntKind.i64.wrap (512 * ((z : Int) - 1)) = (m : Int) := by rw [IntKind.wrap_i64]; omega
      have hmk := zw_make m hmm
      have hcv := fun W => zw_conv m hmm W _ (Below.refl _ _)
      have c1 := fun (w : World) => refBegin 1 1 w rfl (by omega)
      obtain ⟨s0, hs0⟩ : ∃ s0 : ByteArray, s0 = ⟨(pic 1 startN []).toArray⟩ := ⟨_, rfl⟩
      obtain ⟨s1, hs1⟩ : ∃ s1 : ByteArray, s1 = ⟨(List.replicate m (0 : UInt8)).toArray⟩ := ⟨_, rfl⟩
      rw [← hs0] at c1
      have hcv2 : ∀ W : World, (convert 33 9 (.slice (some ⟨W.heap.size, 0, none⟩) m m)).run Try.prog (zw m W.drew) = .ok (.string ⟨(List.replicate m (0 : UInt8)).toArray⟩) (zw m W.drew) := fun W => zw_conv m hmm W.drew _ (Below.refl _ _)
      rw [← hs1] at hcv hcv2
      have hl0 : s0.size = 512 := by rw [hs0, size_string, begin_len]
      have hl1 : s1.size = m := by rw [hs1, size_string, List.length_replicate]
      have hadd : s0 ++ s1 = ⟨(pic 1 startN [] ++ List.replicate (512 * (z - 1)) 0).toArray⟩ := by rw [hs0, hs1, cat_string, hm]
      have hcat : ¬ (9223372036854775807 < 512 + m) := by omega
      have C1 := Lib.hid c1
      have HADD := Lib.hid hadd
      have HS1 := Lib.hid hs1
      have HMM := Lib.hid hmm
      clear c1 hs0 hs1 hadd hm hmm
      go_region_with (first | (go_at_call 13; refine (C1.out _).mono ?_; rintro e w4 ⟨rfl, b4⟩; (try have hcw : (convert 33 9 (.slice (some ⟨w3.heap.size, 0, none⟩) m m)).run Try.prog w4 = .ok (.string s1) w4 := (by rw [HS1.out]; exact zw_conv m HMM.out w3.drew w4 b4))))
      all_goals
        (try simp only [Act.put, List.getElem_toArray, List.getElem_cons_zero, List.getElem_cons_succ, List.setIfInBounds_toArray, List.set_cons_zero, List.set_cons_succ, Bool.not_false, Bool.not_true])
        go_wp2
        go_meet
        refine ⟨by rw [HADD.out], ?_⟩
        first | exact (HS3.out.drew.below b4).below (zw_below m _) | exact (HS3.out.drew.below (zw_below m _)).below b4
  case rest =>
    obtain ⟨rfl, S⟩ := hcut
    have HS4 := Lib.hid S
    obtain ⟨s0, hs0⟩ : ∃ s0, s0 = pic 1 startN [] ++ List.replicate (512 * (z - 1)) 0 := ⟨_, rfl⟩
    rw [← hs0] at HF ⊢
    clear S HS3 hs0
    go_upto_block 0 with fail
    go_cut [] from 61 to 232 (fun wx => Sep wx [oldA w])
    case first =>
      go_wp2_with fail
      go_loopw [10, 12, 13, 14, 15] (fun jv sv nv uv iv wr => ∃ (k : Nat) (D : Dk) (s : List UInt8) (n u q : Nat), k ≤ na ∧ k ≤ 30 ∧ jv = .pointer (some ⟨q, 0, none⟩) ∧ sv = .string ⟨s.toArray⟩ ∧ nv = .int .u64 (n : Int) ∧ uv = .int .i64 (u : Int) ∧ iv = .int .i64 (k : Int) ∧ Sep wr [jnA q p ⟨f, z, u, n, false⟩, diskA p D, oldA w] ∧ Hid (PlayI D f z u n k s)) (fun _ _ _ _ iv _ => na - (intOf iv).toNat)
      case atStart => exact ⟨0, D2, s0, 2, 1, q, Nat.zero_le _, Nat.zero_le _, rfl, rfl, rfl, rfl, rfl, HS4.out, HF⟩
      case round =>
        clear HS4 HF
        obtain ⟨k, D, s, n, u, q, hk, hk8, rfl, rfl, rfl, rfl, rfl, Sr, HI⟩ := hrel
        by_cases hlt : k < na ∧ k < 30
        · obtain ⟨hlt1, hlt8⟩ := hlt
          have hlt8i : (k : Int) < 30 := by omega
          have hk1 : (k : Int) < (na : Int) := by omega
          have hk0 : (0 : Int) ≤ (k : Int) := by omega
          obtain ⟨ab, ao, rfl, hst⟩ := HA.out k (by have := HNA.out; omega)
          obtain ⟨x, hx⟩ : ∃ x, x = la.getD k stepN := ⟨_, rfl⟩
          rw [← hx] at hst
          have so := Sr.up2
          have c0 := so.arg hst.kind
          have c1 := so.arg hst.n
          have c2 := so.arg hst.fill
          have c3 := so.arg hst.keep
          obtain ⟨kd, hkd⟩ : ∃ kd, kd = x.kind := ⟨_, rfl⟩
          obtain ⟨xn, hxn⟩ : ∃ xn, xn = x.n := ⟨_, rfl⟩
          obtain ⟨xf, hxf⟩ : ∃ xf, xf = x.fill := ⟨_, rfl⟩
          obtain ⟨ka, hka⟩ : ∃ ka, ka = x.ka := ⟨_, rfl⟩
          obtain ⟨kc, hkc⟩ : ∃ kc, kc = x.kc := ⟨_, rfl⟩
          obtain ⟨kp, hkp⟩ : ∃ kp, kp = x.keep := ⟨_, rfl⟩
          obtain ⟨kl, hkl⟩ : ∃ kl, kl = kp.length := ⟨_, rfl⟩
          have hbo := hst.bools
          have hcp := hst.cap
          rw [← hkd] at c0
          rw [← hxn] at c1
          rw [← hxf] at c2
          rw [← hka, ← hkp, ← hkc, ← hkl] at c3
          rw [← hka, ← hkp] at hbo
          rw [← hkp, ← hkc, ← hkl] at hcp
          have HBO := Lib.hid hbo
          have HCP := Lib.hid hcp
          have HKL := Lib.hid hkl
          have HSr := Lib.hid Sr
          clear hx hst so hkd hxn hxf hka hkc hkp hkl hbo hcp Sr
          have HS6 := Lib.hid (HSr.out.alloc #[.int .i64 kd, .int .i64 xn, .int .u8 (xf.toNat : Int), .slice ka kl kc] 36)
          by_cases k1 : kd = 1
          · subst k1
            as_aux_lemma =>
              obtain ⟨tm, _, htm⟩ := and_i64 xn 65535 (by omega)
              have htm' : Go.bits .and .i64 xn 65535 = (tm : Int) := htm
              obtain ⟨tn, htn⟩ : ∃ tn, tn = tm % 1200 := ⟨_, rfl⟩
              have htn' : (tm : Int) % 1200 = (tn : Int) := by omega
              have htm0 : (0 : Int) ≤ (tm : Int) := by omega
              have htl : tn < 1200 := by omega
              have htl0 : (0 : Int) ≤ (tn : Int) := by omega
              obtain ⟨t, ht⟩ : ∃ t, t = textL tn xf := ⟨_, rfl⟩
              have htt : t.length = tn := by rw [ht, textL_len]
              have cT := fun (W : World) (RW : List Asn) (SW : Sep W RW) => text_sep SW tn xf (tn : Int) (xf.toNat : Int) rfl rfl (by omega)
              rw [← ht] at cT
              have hn64 : n < 18446744073709551616 := by have := HI.out.next2; omega
              have c1 := fun (w : World) => refRecord n (n : Int) t w rfl hn64 (by omega)
              obtain ⟨pp, hpp⟩ : ∃ pp : ByteArray, pp = ⟨(pic n t.length t).toArray⟩ := ⟨_, rfl⟩
              rw [← hpp] at c1
              obtain ⟨pg, hpg⟩ : ∃ pg, pg = (tn + 527) / 512 := ⟨_, rfl⟩
              obtain ⟨pl, hpl⟩ : ∃ pl, pl = 512 * pg := ⟨_, rfl⟩
              have hpps : pp.size = pl := by rw [hpp, size_string, pic_len, htt, ← hpg, hpl, Nat.mul_comm]
              have hpld : (pl : Int) / 512 = (pg : Int) := by omega
              have hpl0 : (0 : Int) ≤ (pl : Int) := by omega
              have hpg0 : (0 : Int) ≤ (pg : Int) := by omega
              have hpg3 : (pg : Int) ≤ 4 := by omega
              have hu0 : (0 : Int) ≤ (u : Int) := by omega
              have hnb : (n : Int) ≤ 1000 := by have := HI.out.next2; omega
              have hu8 : (u : Int) ≤ 8 := by have := HI.out.used2; omega
              have hcv := conv_list t tn htt
              have Hcb := Lib.hid (conv_list_at t)
              have hjs : (⟨f, z, u, n, false⟩ : Jn).size ≤ 4096 ∧ (⟨f, z, u, n, false⟩ : Jn).used ≤ (⟨f, z, u, n, false⟩ : Jn).size ∧ (⟨f, z, u, n, false⟩ : Jn).from_ + (⟨f, z, u, n, false⟩ : Jn).size ≤ D.secs.length ∧ D.waits.length ≤ 80000 :=
                ⟨by show z ≤ 4096; omega, HI.out.used2, by rw [HI.out.calm.len]; exact hfz, by have := HI.out.calm.waits; omega⟩
              have HJ := Lib.hid hjs
              have CT := Lib.hid cT
              have C1 := Lib.hid c1
              have HTT := Lib.hid htt
              have HPP := Lib.hid hpp
              have HPG := Lib.hid hpg
              have HPL := Lib.hid hpl
              clear htm ht htt cT c1 hpp hpg hpl hjs htn hn64
              go_wp2_with fail
              refine (CT.out _ _ HS6.out).mono ?_
              rintro e w5 ⟨rfl, S7⟩
              have HS7 := Lib.hid S7
              clear S7 HS6
              go_wp2_with fail
              refine (C1.out _).mono ?_
              rintro e w6 ⟨rfl, b6⟩
              obtain ⟨w7, hw7⟩ := named3 (HS7.out.below b6)
              have HS8 := Lib.hid ((HS7.out.below b6).drop.below (conv_below _ ⟨t.toArray⟩))
              clear b6 hw7
              go_wp2_with fail
              refine (append_sep HS8.out (Hcb.out w6) HTT.out (by simp) (by omega) HJ.out.1 HJ.out.2.1 HJ.out.2.2.1 HJ.out.2.2.2).mono ?_
              by_cases hfit : u + pg ≤ z
              · obtain ⟨D5, e1, e2⟩ := play_append (t := t) HI.out (by omega) hfz (by rw [HTT.out]; omega) (by rw [HTT.out, ← HPG.out]; exact hfit)
                rw [HTT.out, ← HPG.out] at e1 e2
                have E2 := Lib.hid e2
                rw [e1]
                rintro e w8 ⟨rfl, S9⟩
                have HS9 := Lib.hid S9
                have hgt : ¬ ((z : Int) < (u : Int) + (pg : Int)) := by omega
                have hsz := HI.out.area.len
                obtain ⟨ss, hss⟩ : ∃ ss : ByteArray, ss = ⟨s.toArray⟩ := ⟨_, rfl⟩
                have sl1 := slice_to ss s hss (512 * u) (512 * (u : Int)) (by omega) (by omega)
                have sl2 := slice_from ss s hss (512 * u + pl) (512 * (u : Int) + (pl : Int)) (by omega) (by have := HPL.out; omega)
                obtain ⟨sa, hsa⟩ : ∃ sa : ByteArray, sa = ⟨(s.take (512 * u)).toArray⟩ := ⟨_, rfl⟩
                obtain ⟨sb, hsb⟩ : ∃ sb : ByteArray, sb = ⟨(s.drop (512 * u + pl)).toArray⟩ := ⟨_, rfl⟩
                rw [← hsa] at sl1
                rw [← hsb] at sl2
                have z1 : sa.size = 512 * u := by rw [hsa, size_string, List.length_take]; have := HI.out.used2; omega
                have z2 : sb.size = 512 * z - (512 * u + pl) := by rw [hsb, size_string, List.length_drop]; omega
                obtain ⟨sc, hsc⟩ : ∃ sc, sa ++ pp = sc := ⟨_, rfl⟩
                have z3 : sc.size = 512 * u + pl := by rw [← hsc, ByteArray.size_append, z1, hpps]
                have cat1 : ¬ (9223372036854775807 < sa.size + pl) := by have := HPL.out; omega
                have cat2 : ¬ (9223372036854775807 < sc.size + sb.size) := by rw [z3, z2]; have := HPL.out; omega
                obtain ⟨st, hst⟩ : ∃ st : ByteArray, st = ⟨(splice s (512 * u) (pic n tn t)).toArray⟩ := ⟨_, rfl⟩
                have HST := Lib.hid hst
                have hadd : sc ++ sb = st := by
                  rw [hst, ← hsc, hsa, HPP.out, hsb, cat_string, cat_string]
                  unfold splice
                  rw [HTT.out, pic_len, HTT.out, ← HPG.out, List.append_assoc, HPL.out, Nat.mul_comm pg]
                have q1 : IntKind.i64.wrap (512 * (u : Int)) = 512 * (u : Int) := by rw [IntKind.wrap_i64]; omega
                have q2 : IntKind.i64.wrap (512 * (u : Int) + (pl : Int)) = 512 * (u : Int) + (pl : Int) := by rw [IntKind.wrap_i64]; have := HPL.out; omega
                have hun : ((u + pg : Nat) : Int) = (u : Int) + (pg : Int) := by omega
                rw [← hss]
                have b0 : (0 : Int) ≤ 512 * (u : Int) := by omega
                have b1 : 512 * (u : Int) ≤ 4096 := by omega
                have b2 : (pl : Int) ≤ 2048 := by have := HPL.out; omega
                clear S9 e1 e2 hsz hss hsa hsb z1 z2 z3 hun HS8 hcv hfit hst
                go_wp2_with fail
                go_region_held (fun _ => True) (exact trivial) (fail)
                have HS10 := Lib.hid HS9.out.drew
                (try simp only [Act.put, List.getElem_toArray, List.getElem_cons_zero, List.getElem_cons_succ, List.setIfInBounds_toArray, List.set_cons_zero, List.set_cons_succ, Bool.not_false, Bool.not_true])
                obtain ⟨D8, r1, r2⟩ := play_area E2.out
                have hE8 := E2.out.same r2
                have hlen8 := E2.out.calm.len
                have hu8a := E2.out.used1
                have hu8b := E2.out.used2
                have hn8 := E2.out.next2
                obtain ⟨r, hr⟩ : ∃ r, r = roomJ ⟨f, z, (u + pg), (n + 1), false⟩ := ⟨_, rfl⟩
                have hR : (if (-1 : Int) < 512 * ((z : Int) - ((u : Int) + (pg : Int))) - 16 then 512 * ((z : Int) - ((u : Int) + (pg : Int))) - 16 else -1) = r := by rw [hr]; unfold roomJ; dsimp only; split <;> omega
                have hN : ((((n + 1) : Nat)) : Int) = ((n : Int) + 1) := by omega
                have hj8 : (⟨f, z, (u + pg), (n + 1), false⟩ : Jn).size ≤ 4096 ∧ (⟨f, z, (u + pg), (n + 1), false⟩ : Jn).used ≤ (⟨f, z, (u + pg), (n + 1), false⟩ : Jn).size := ⟨by show z ≤ 4096; omega, hu8b⟩
                have hub : ((u : Int) + (pg : Int)) ≤ 8 := by omega
                have hub0 : 1 ≤ ((u : Int) + (pg : Int)) := by omega
                have R1 := Lib.hid r1
                have HE8 := Lib.hid hE8
                have HLEN8 := Lib.hid hlen8
                have HR8 := Lib.hid hr.symm
                have HN8 := Lib.hid hN
                have HJ8 := Lib.hid hj8
                clear r1 r2 hE8 hlen8 hr hN hj8 hu8a hu8b hn8
                go_wp2_with fail
                refine (area_sep HS10.out.up1 f z _ _ rfl rfl (by rw [HLEN8.out]; exact hfz) (splice s (512 * u) (pic n tn t)) D8 R1.out).mono ?_
                rw [← HST.out]
                rintro e w20 ⟨rfl, S20⟩
                have HS20 := Lib.hid S20.up1
                clear S20
                go_wp2_with fail
                refine (next_sep HS20.out).mono ?_
                rw [show ((⟨f, z, (u + pg), (n + 1), false⟩ : Jn).next : Int) = ((n : Int) + 1) by first | rfl | exact HN8.out]
                rintro e w21 ⟨rfl, rfl⟩
                go_wp2_with fail
                refine (room_sep HS20.out HJ8.out.1 HJ8.out.2).mono ?_
                rw [HR8.out]
                rintro e w22 ⟨rfl, rfl⟩
                have HS22 := Lib.hid HS20.out.drew
                clear HS20
                go_wp2
                go_roundw
                case rel => exact ⟨k + 1, D8, (splice s (512 * u) (pic n tn t)), (n + 1), (u + pg), q, by omega, by omega, rfl, by first | rfl | (rw [HST.out]), by first | rfl | rw [HN8.out], by first | rfl | go_num, by go_num, HS22.out, HE8⟩
                case measure => simp [intOf]; omega
              · have e1 := play_full (t := t) HI.out (by rw [HTT.out]; omega) (by rw [HTT.out, ← HPG.out]; omega)
                have E2 := Lib.hid HI.out.later
                rw [e1]
                rintro e w8 ⟨rfl, S9⟩
                have HS9 := Lib.hid S9
                have hgt : (z : Int) < (u : Int) + (pg : Int) := by omega
                clear S9 e1 HS8 hcv hfit
                obtain ⟨D8, r1, r2⟩ := play_area E2.out
                have hE8 := E2.out.same r2
                have hlen8 := E2.out.calm.len
                have hu8a := E2.out.used1
                have hu8b := E2.out.used2
                have hn8 := E2.out.next2
                obtain ⟨r, hr⟩ : ∃ r, r = roomJ ⟨f, z, u, n, false⟩ := ⟨_, rfl⟩
                have hR : (if (-1 : Int) < 512 * ((z : Int) - (u : Int)) - 16 then 512 * ((z : Int) - (u : Int)) - 16 else -1) = r := by rw [hr]; unfold roomJ; dsimp only; split <;> omega
                have hN : (((n : Nat)) : Int) = (n : Int) := by omega
                have hj8 : (⟨f, z, u, n, false⟩ : Jn).size ≤ 4096 ∧ (⟨f, z, u, n, false⟩ : Jn).used ≤ (⟨f, z, u, n, false⟩ : Jn).size := ⟨by show z ≤ 4096; omega, hu8b⟩
                have hub : (u : Int) ≤ 8 := by omega
                have hub0 : 1 ≤ (u : Int) := by omega
                have R1 := Lib.hid r1
                have HE8 := Lib.hid hE8
                have HLEN8 := Lib.hid hlen8
                have HR8 := Lib.hid hr.symm
                have HN8 := Lib.hid hN
                have HJ8 := Lib.hid hj8
                clear r1 r2 hE8 hlen8 hr hN hj8 hu8a hu8b hn8
                go_wp2_with fail
                refine (area_sep HS9.out.up1 f z _ _ rfl rfl (by rw [HLEN8.out]; exact hfz) s D8 R1.out).mono ?_
                rintro e w20 ⟨rfl, S20⟩
                have HS20 := Lib.hid S20.up1
                clear S20
                go_wp2_with fail
                refine (next_sep HS20.out).mono ?_
                rw [show ((⟨f, z, u, n, false⟩ : Jn).next : Int) = (n : Int) by first | rfl | exact HN8.out]
                rintro e w21 ⟨rfl, rfl⟩
                go_wp2_with fail
                refine (room_sep HS20.out HJ8.out.1 HJ8.out.2).mono ?_
                rw [HR8.out]
                rintro e w22 ⟨rfl, rfl⟩
                have HS22 := Lib.hid HS20.out.drew
                clear HS20
                go_wp2
                go_roundw
                case rel => exact ⟨k + 1, D8, s, n, u, q, by omega, by omega, rfl, by first | rfl | (rw [HST.out]), by first | rfl | rw [HN8.out], by first | rfl | go_num, by go_num, HS22.out, HE8⟩
                case measure => simp [intOf]; omega
          · by_cases k2 : kd = 2
            · subst k2
              as_aux_lemma =>
                obtain ⟨e1, e2⟩ := play_commit HI.out hfz
                have E1 := Lib.hid e1
                have E2 := Lib.hid e2
                have HS7 := Lib.hid HS6.out.drop
                clear e1 e2 HS6
                go_wp2_with fail
                refine (commit_sep HS7.out).mono ?_
                rw [E1.out]
                rintro e w5 ⟨rfl, S8⟩
                have HS8 := Lib.hid S8
                clear S8
                obtain ⟨D8, r1, r2⟩ := play_area E2.out
                have hE8 := E2.out.same r2
                have hlen8 := E2.out.calm.len
                have hu8a := E2.out.used1
                have hu8b := E2.out.used2
                have hn8 := E2.out.next2
                obtain ⟨r, hr⟩ : ∃ r, r = roomJ ⟨f, z, u, n, false⟩ := ⟨_, rfl⟩
                have hR : (if (-1 : Int) < 512 * ((z : Int) - (u : Int)) - 16 then 512 * ((z : Int) - (u : Int)) - 16 else -1) = r := by rw [hr]; unfold roomJ; dsimp only; split <;> omega
                have hN : (((n : Nat)) : Int) = (n : Int) := by omega
                have hj8 : (⟨f, z, u, n, false⟩ : Jn).size ≤ 4096 ∧ (⟨f, z, u, n, false⟩ : Jn).used ≤ (⟨f, z, u, n, false⟩ : Jn).size := ⟨by show z ≤ 4096; omega, hu8b⟩
                have hub : (u : Int) ≤ 8 := by omega
                have hub0 : 1 ≤ (u : Int) := by omega
                have R1 := Lib.hid r1
                have HE8 := Lib.hid hE8
                have HLEN8 := Lib.hid hlen8
                have HR8 := Lib.hid hr.symm
                have HN8 := Lib.hid hN
                have HJ8 := Lib.hid hj8
                clear r1 r2 hE8 hlen8 hr hN hj8 hu8a hu8b hn8
                go_wp2_with fail
                refine (area_sep HS8.out.up1 f z _ _ rfl rfl (by rw [HLEN8.out]; exact hfz) s D8 R1.out).mono ?_
                rintro e w20 ⟨rfl, S20⟩
                have HS20 := Lib.hid S20.up1
                clear S20
                go_wp2_with fail
                refine (next_sep HS20.out).mono ?_
                rw [show ((⟨f, z, u, n, false⟩ : Jn).next : Int) = (n : Int) by first | rfl | exact HN8.out]
                rintro e w21 ⟨rfl, rfl⟩
                go_wp2_with fail
                refine (room_sep HS20.out HJ8.out.1 HJ8.out.2).mono ?_
                rw [HR8.out]
                rintro e w22 ⟨rfl, rfl⟩
                have HS22 := Lib.hid HS20.out.drew
                clear HS20
                go_wp2
                go_roundw
                case rel => exact ⟨k + 1, D8, s, n, u, q, by omega, by omega, rfl, by first | rfl | (rw [HST.out]), by first | rfl | rw [HN8.out], by first | rfl | go_num, by go_num, HS22.out, HE8⟩
                case measure => simp [intOf]; omega
            · by_cases k3 : kd = 3
              · subst k3
                as_aux_lemma =>
                  obtain ⟨D5, e1, e2⟩ := play_reset HI.out (by omega) hfz hz2
                  have E1 := Lib.hid e1
                  have E2 := Lib.hid e2
                  have HS7 := Lib.hid HS6.out.drop
                  have hsz := HI.out.area.len
                  have hn64 : n < 18446744073709551616 := by have := HI.out.next2; omega
                  have hnb : (n : Int) ≤ 1000 := by have := HI.out.next2; omega
                  have c1 := fun (w : World) => refBegin n (n : Int) w rfl hn64
                  obtain ⟨pp, hpp⟩ : ∃ pp : ByteArray, pp = ⟨(pic n startN []).toArray⟩ := ⟨_, rfl⟩
                  rw [← hpp] at c1
                  obtain ⟨ss, hss⟩ : ∃ ss : ByteArray, ss = ⟨s.toArray⟩ := ⟨_, rfl⟩
                  have sl2 := slice_from ss s hss 512 512 rfl (by omega)
                  obtain ⟨sb, hsb⟩ : ∃ sb : ByteArray, sb = ⟨(s.drop 512).toArray⟩ := ⟨_, rfl⟩
                  rw [← hsb] at sl2
                  have z2 : sb.size = 512 * z - 512 := by rw [hsb, size_string, List.length_drop]; omega
                  have z1 : pp.size = 512 := by rw [hpp, size_string, begin_len]
                  have cat1 : ¬ (9223372036854775807 < 512 + sb.size) := by omega
                  obtain ⟨st, hst⟩ : ∃ st : ByteArray, st = ⟨(pic n startN [] ++ s.drop 512).toArray⟩ := ⟨_, rfl⟩
                  have HST := Lib.hid hst
                  have hadd : pp ++ sb = st := by rw [hst, hpp, hsb, cat_string]
                  have C1 := Lib.hid c1
                  have hlen : D.secs.length = 12 := HI.out.calm.len
                  have hww : D.waits.length ≤ 90000 := by have := HI.out.calm.waits; omega
                  have HLN := Lib.hid hlen
                  have HWW := Lib.hid hww
                  rw [← hss]
                  clear e1 e2 HS6 hsz hn64 c1 hpp hss hsb z2 hlen hww hst
                  go_wp2_with fail
                  refine (reset_sep HS7.out (by rw [HLN.out]; show f + 1 ≤ 12; omega) HWW.out).mono ?_
                  rw [E1.out]
                  rintro e w5 ⟨rfl, S8⟩
                  have HS8 := Lib.hid S8
                  clear S8 HS7
                  go_wp2_with fail
                  go_region_held (fun _ => True) (exact trivial) ((go_at_call 13; refine (C1.out _).mono ?_; rintro e w6 ⟨rfl, b6⟩))
                  have HS9 := Lib.hid (HS8.out.drew.below b6)
                  clear b6 HS8
                  (try simp only [Act.put, List.getElem_toArray, List.getElem_cons_zero, List.getElem_cons_succ, List.setIfInBounds_toArray, List.set_cons_zero, List.set_cons_succ, Bool.not_false, Bool.not_true])
                  obtain ⟨D8, r1, r2⟩ := play_area E2.out
                  have hE8 := E2.out.same r2
                  have hlen8 := E2.out.calm.len
                  have hu8a := E2.out.used1
                  have hu8b := E2.out.used2
                  have hn8 := E2.out.next2
                  obtain ⟨r, hr⟩ : ∃ r, r = roomJ ⟨f, z, 1, (n + 1), false⟩ := ⟨_, rfl⟩
                  have hR : (if (-1 : Int) < 512 * ((z : Int) - (1 : Int)) - 16 then 512 * ((z : Int) - (1 : Int)) - 16 else -1) = r := by rw [hr]; unfold roomJ; dsimp only; split <;> omega
                  have hN : ((((n + 1) : Nat)) : Int) = ((n : Int) + 1) := by omega
                  have hj8 : (⟨f, z, 1, (n + 1), false⟩ : Jn).size ≤ 4096 ∧ (⟨f, z, 1, (n + 1), false⟩ : Jn).used ≤ (⟨f, z, 1, (n + 1), false⟩ : Jn).size := ⟨by show z ≤ 4096; omega, hu8b⟩
                  have hub : (1 : Int) ≤ 8 := by omega
                  have hub0 : 1 ≤ (1 : Int) := by omega
                  have R1 := Lib.hid r1
                  have HE8 := Lib.hid hE8
                  have HLEN8 := Lib.hid hlen8
                  have HR8 := Lib.hid hr.symm
                  have HN8 := Lib.hid hN
                  have HJ8 := Lib.hid hj8
                  clear r1 r2 hE8 hlen8 hr hN hj8 hu8a hu8b hn8
                  go_wp2_with fail
                  refine (area_sep HS9.out.up1 f z _ _ rfl rfl (by rw [HLEN8.out]; exact hfz) (pic n startN [] ++ s.drop 512) D8 R1.out).mono ?_
                  rw [← HST.out]
                  rintro e w20 ⟨rfl, S20⟩
                  have HS20 := Lib.hid S20.up1
                  clear S20
                  go_wp2_with fail
                  refine (next_sep HS20.out).mono ?_
                  rw [show ((⟨f, z, 1, (n + 1), false⟩ : Jn).next : Int) = ((n : Int) + 1) by first | rfl | exact HN8.out]
                  rintro e w21 ⟨rfl, rfl⟩
                  go_wp2_with fail
                  refine (room_sep HS20.out HJ8.out.1 HJ8.out.2).mono ?_
                  rw [HR8.out]
                  rintro e w22 ⟨rfl, rfl⟩
                  have HS22 := Lib.hid HS20.out.drew
                  clear HS20
                  go_wp2
                  go_roundw
                  case rel => exact ⟨k + 1, D8, (pic n startN [] ++ s.drop 512), (n + 1), 1, q, by omega, by omega, rfl, by first | rfl | (rw [HST.out]), by first | rfl | rw [HN8.out], by first | rfl | go_num, by go_num, HS22.out, HE8⟩
                  case measure => simp [intOf]; omega
              · by_cases k4 : kd = 4
                · subst k4
                  as_aux_lemma =>
                    have S7 := HS6.out.drop.drop
                    have hkl60 : ∃ km : Nat, km = (kp.take 60).length := ⟨_, rfl⟩
                    obtain ⟨km, hkm⟩ := hkl60
                    have hkm' : (if (60 : Int) < (kl : Int) then (60 : Int) else (kl : Int)) = (km : Int) := by
                      have := HKL.out
                      rw [List.length_take] at hkm
                      split <;> omega
                    have hkmc : km ≤ kc := by
                      have := HKL.out
                      have := HCP.out.1
                      rw [List.length_take] at hkm
                      omega
                    have hslb := slice_bools ka kl kc km hkmc
                    obtain ⟨D2x, r1, r2, l, D3, n', u', r3, r4, r5⟩ := play_crash HI.out (dk_len S7).1 (by omega) hfz hz2 (kp.take 60)
                    obtain ⟨s2, hs2⟩ : ∃ s2, s2 = rowD (D.crash (kp.take 60)).start f z := ⟨_, rfl⟩
                    rw [← hs2] at r1 r3 r5
                    have hs2l : s2.length = 512 * z := r5.area.len
                    have hstl : (D.crash (kp.take 60)).start.secs.length = 12 := (crash_any HI.out.calm (kp.take 60)).len
                    have E2 := Lib.hid r5
                    have R1 := Lib.hid r1
                    have R2 := Lib.hid r2
                    have R3 := Lib.hid r3
                    have R4 := Lib.hid r4
                    have HKM := Lib.hid hkm
                    have HS2L := Lib.hid hs2l
                    have HSTL := Lib.hid hstl
                    have HS7 := Lib.hid S7
                    clear S7 hkm hkmc r1 r2 r3 r4 r5 hs2 hs2l hstl HS6
                    go_wp2_with fail
                    refine (crash_sep HS7.out ka kc km kp 60 HBO.out HKM.out.symm (by have := HCP.out.1; have := HCP.out.2; have := HKL.out; have h9 := HKM.out; rw [List.length_take] at h9; unfold maxLen at *; omega)).mono ?_
                    rintro e w5 ⟨rfl, S8⟩
                    have HS8 := Lib.hid S8
                    clear S8 HS7 hslb
                    go_wp2_with fail
                    refine (start_sep HS8.out).mono ?_
                    rintro e w6 ⟨rfl, S9⟩
                    have HS9 := Lib.hid S9
                    clear S9 HS8
                    go_wp2_with fail
                    refine (area_sep HS9.out f z _ _ rfl rfl (by rw [HSTL.out]; exact hfz) s2 D2x R1.out).mono ?_
                    rintro e w7 ⟨rfl, S10⟩
                    have HS10 := Lib.hid S10
                    clear S10 HS9
                    go_wp2_with fail
                    refine (open_sep HS10.out f z _ _ rfl rfl hz2 (by omega) (by rw [R2.out]; exact hfz)).mono ?_
                    rw [R4.out]
                    rintro e w8 ⟨q2, v, rs, rfl, hl, hok, ⟨ra2, rcap, rfl⟩, S11⟩
                    obtain ⟨nl, hnl⟩ : ∃ nl, nl = l.length := ⟨_, rfl⟩
                    have hrl2 : rs.length = nl := by rw [hnl, ← hl, List.length_map]
                    rw [hrl2]
                    rw [hrl2] at S11
                    have HNL := Lib.hid hnl.symm
                    have HL := Lib.hid hl
                    have HOK := Lib.hid hok
                    have HRL := Lib.hid hrl2
                    have HS11 := Lib.hid S11
                    clear S11 HS10 hl hok hrl2 hnl
                    go_wp2_with fail
                    refine (refReplay _ _ HS11.out s2 z HS2L.out (by omega) (by omega)).mono ?_
                    rw [R3.out]
                    rintro e w9 ⟨a7, c7, rfl, S12⟩
                    rw [HNL.out] at S12 ⊢
                    have HS12 := Lib.hid S12
                    clear S12 HS11
                    go_wp2_with fail
                    have hnlb : (nl : Int) ≤ 9223372036854775807 := by
                      obtain ⟨_, _, _, h1, h2⟩ := ownsRow_slice HS12.out.own
                      unfold maxLen at h2
                      omega
                    go_loopw [27] (fun i wr => ∃ i' : Nat, i' ≤ nl ∧ i = .int .i64 (i' : Int) ∧ Sep wr [ownA 9 1 (.slice a7 nl c7) nl (strs l), jnA q2 p ⟨f, z, u', n', false⟩, recsA (.slice ra2 nl rcap) rs, diskA p D3, oldA w]) (fun i _ => nl - (intOf i).toNat)
                    case atStart => exact ⟨0, Nat.zero_le _, rfl, HS12.out⟩
                    case round =>
                      obtain ⟨i, hi, rfl, Sr⟩ := hrel
                      by_cases hlt : i < nl
                      · have hlt1 : (i : Int) < (nl : Int) := by omega
                        have hi0 : (0 : Int) ≤ (i : Int) := by omega
                        obtain ⟨r, hr⟩ : ∃ r, rs[i]? = some r := ⟨rs[i]'(by rw [HRL.out]; exact hlt), List.getElem?_eq_getElem _⟩
                        obtain ⟨g3, rfl, hgc, hgb, hgl⟩ := recs_at Sr.up2 HOK.out i r hr
                        have hrx : l[i]? = some r.bytes := by rw [← HL.out, List.getElem?_map, hr]; rfl
                        obtain ⟨g2, rfl, hsc⟩ := strs_cell Sr HNL.out i r.bytes hrx
                        obtain ⟨t, ht⟩ : ∃ t, t = r.bytes := ⟨_, rfl⟩
                        rw [← ht] at hgb hgl hsc
                        obtain ⟨wq, hwq⟩ := named3 Sr
                        rw [← hwq] at hgc hgb hsc Sr ⊢
                        have tr : ∀ W', Below wq.heap.size wq W' → (convert 33 9 (.slice (some ⟨r.g, 16, none⟩) r.n (r.cap - 16))).run Try.prog W' = .ok (.string ⟨t.toArray⟩) W' := fun W' h => run_string (hgb.below h) r.n _ hgl
                        have HSr := Lib.hid Sr
                        clear hr hrx hgb hgl ht Sr hwq
                        go_wp2_with fail
                        go_region_held (fun w' => Below wq.heap.size wq w' ∧ w'.cell? ⟨g2, i, none⟩ = some (.string ⟨t.toArray⟩) ∧ w'.cell? ⟨g3, i, none⟩ = some (.slice (some ⟨r.g, 16, none⟩) r.n (r.cap - 16))) (first | exact ⟨(Below.refl _ _).drew, hsc, hgc⟩ | exact ⟨Below.refl _ _, hsc, hgc⟩) (fail)
                        have HS13 := Lib.hid HSr.out.drew
                        go_wp2
                        go_roundw
                        case rel => exact ⟨i + 1, by omega, by go_num, HS13.out⟩
                        case measure => simp [intOf]; omega
                      · have hlt1 : ¬ (i : Int) < (nl : Int) := by omega
                        have HS13 := Lib.hid Sr.drop.up1.drop
                        clear Sr HS12
                        obtain ⟨D8, r1, r2⟩ := play_area E2.out
                        have hE8 := E2.out.same r2
                        have hlen8 := E2.out.calm.len
                        have hu8a := E2.out.used1
                        have hu8b := E2.out.used2
                        have hn8 := E2.out.next2
                        obtain ⟨r, hr⟩ : ∃ r, r = roomJ ⟨f, z, u', n', false⟩ := ⟨_, rfl⟩
                        have hR : (if (-1 : Int) < 512 * ((z : Int) - (u' : Int)) - 16 then 512 * ((z : Int) - (u' : Int)) - 16 else -1) = r := by rw [hr]; unfold roomJ; dsimp only; split <;> omega
                        have hN : (((n' : Nat)) : Int) = (n' : Int) := by omega
                        have hj8 : (⟨f, z, u', n', false⟩ : Jn).size ≤ 4096 ∧ (⟨f, z, u', n', false⟩ : Jn).used ≤ (⟨f, z, u', n', false⟩ : Jn).size := ⟨by show z ≤ 4096; omega, hu8b⟩
                        have hub : (u' : Int) ≤ 8 := by omega
                        have hub0 : 1 ≤ (u' : Int) := by omega
                        have R1 := Lib.hid r1
                        have HE8 := Lib.hid hE8
                        have HLEN8 := Lib.hid hlen8
                        have HR8 := Lib.hid hr.symm
                        have HN8 := Lib.hid hN
                        have HJ8 := Lib.hid hj8
                        clear r1 r2 hE8 hlen8 hr hN hj8 hu8a hu8b hn8
                        go_wp2_with fail
                        refine (area_sep HS13.out.up1 f z _ _ rfl rfl (by rw [HLEN8.out]; exact hfz) s2 D8 R1.out).mono ?_
                        rintro e w20 ⟨rfl, S20⟩
                        have HS20 := Lib.hid S20.up1
                        clear S20
                        go_wp2_with fail
                        refine (next_sep HS20.out).mono ?_
                        rw [show ((⟨f, z, u', n', false⟩ : Jn).next : Int) = (n' : Int) by first | rfl | exact HN8.out]
                        rintro e w21 ⟨rfl, rfl⟩
                        go_wp2_with fail
                        refine (room_sep HS20.out HJ8.out.1 HJ8.out.2).mono ?_
                        rw [HR8.out]
                        rintro e w22 ⟨rfl, rfl⟩
                        have HS22 := Lib.hid HS20.out.drew
                        clear HS20
                        go_wp2
                        go_roundw
                        case rel => exact ⟨k + 1, D8, s2, n', u', q2, by omega, by omega, rfl, by first | rfl | (rw [HST.out]), by first | rfl | rw [HN8.out], by first | rfl | go_num, by go_num, HS22.out, HE8⟩
                        case measure => simp [intOf]; omega
                · have b1 : (kd == 1) = false := by simpa using k1
                  have b2 : (kd == 2) = false := by simpa using k2
                  have b3 : (kd == 3) = false := by simpa using k3
                  have b4 : (kd == 4) = false := by simpa using k4
                  clear k1 k2 k3 k4
                  as_aux_lemma =>
                    have E2 := Lib.hid HI.out.later
                    have HS7 := Lib.hid HS6.out.drop
                    clear HS6
                    obtain ⟨D8, r1, r2⟩ := play_area E2.out
                    have hE8 := E2.out.same r2
                    have hlen8 := E2.out.calm.len
                    have hu8a := E2.out.used1
                    have hu8b := E2.out.used2
                    have hn8 := E2.out.next2
                    obtain ⟨r, hr⟩ : ∃ r, r = roomJ ⟨f, z, u, n, false⟩ := ⟨_, rfl⟩
                    have hR : (if (-1 : Int) < 512 * ((z : Int) - (u : Int)) - 16 then 512 * ((z : Int) - (u : Int)) - 16 else -1) = r := by rw [hr]; unfold roomJ; dsimp only; split <;> omega
                    have hN : (((n : Nat)) : Int) = (n : Int) := by omega
                    have hj8 : (⟨f, z, u, n, false⟩ : Jn).size ≤ 4096 ∧ (⟨f, z, u, n, false⟩ : Jn).used ≤ (⟨f, z, u, n, false⟩ : Jn).size := ⟨by show z ≤ 4096; omega, hu8b⟩
                    have hub : (u : Int) ≤ 8 := by omega
                    have hub0 : 1 ≤ (u : Int) := by omega
                    have R1 := Lib.hid r1
                    have HE8 := Lib.hid hE8
                    have HLEN8 := Lib.hid hlen8
                    have HR8 := Lib.hid hr.symm
                    have HN8 := Lib.hid hN
                    have HJ8 := Lib.hid hj8
                    clear r1 r2 hE8 hlen8 hr hN hj8 hu8a hu8b hn8
                    go_wp2_with fail
                    refine (area_sep HS7.out.up1 f z _ _ rfl rfl (by rw [HLEN8.out]; exact hfz) s D8 R1.out).mono ?_
                    rintro e w20 ⟨rfl, S20⟩
                    have HS20 := Lib.hid S20.up1
                    clear S20
                    go_wp2_with fail
                    refine (next_sep HS20.out).mono ?_
                    rw [show ((⟨f, z, u, n, false⟩ : Jn).next : Int) = (n : Int) by first | rfl | exact HN8.out]
                    rintro e w21 ⟨rfl, rfl⟩
                    go_wp2_with fail
                    refine (room_sep HS20.out HJ8.out.1 HJ8.out.2).mono ?_
                    rw [HR8.out]
                    rintro e w22 ⟨rfl, rfl⟩
                    have HS22 := Lib.hid HS20.out.drew
                    clear HS20
                    go_wp2
                    go_roundw
                    case rel => exact ⟨k + 1, D8, s, n, u, q, by omega, by omega, rfl, by first | rfl | (rw [HST.out]), by first | rfl | rw [HN8.out], by first | rfl | go_num, by go_num, HS22.out, HE8⟩
                    case measure => simp [intOf]; omega
        · have HSr := Lib.hid Sr.drop.drop
          clear Sr
          by_cases hkl : k < na
          · have hk50 : ¬ (k : Int) < 30 := by omega
            have hk51 : (k : Int) < (na : Int) := by omega
            clear hlt
            go_wp2_with fail
            go_meet
            exact HSr.out
          · have hkl' : ¬ (k : Int) < (na : Int) := by omega
            clear hlt
            go_wp2_with fail
            go_meet
            exact HSr.out
    case rest =>
      have HS5 := Lib.hid hcut
      go_wp2
      go_ret
      exact ⟨rfl, HS5.out⟩
theorem JournalPlays_walk (W : World) (fr sz : Int) (a : Option Addr) (la : List StepJ) (ca : Nat) (ha : StepsAt W a la) (hla : la.length ≤ 9223372036854775807) :
    Calls Try.prog 3 #[.int .i64 fr, .int .i64 sz, .slice a la.length ca] W fun e w' => e = .returned (.bool true) ∧ Below W.heap.size W w' := by
  obtain ⟨f, hf3, hf⟩ := and_i64 fr 3 (by omega)
  obtain ⟨kz, _, hkz⟩ := and_i64 sz 65535 (by omega)
  exact (plays_walk W _ (Sep.start W) fr sz a la ca ha hla rfl f kz (kz % 7 + 2) hf hf3 hkz rfl).mono fun e w' h => ⟨h.1, h.2.fin⟩
end Go.Proofs.Ytoihfamiclbffaa
