/- StoreReads: the walk. -/
import Derived.Test.YtnekelndcpmonaaMg15
import Derived.Test.YtnekelndcpmonaaStM
import Derived.Test.YtnekelndcpmonaaRawB
import Derived.Test.YtnekelndcpmonaaRefE
set_option linter.all false
namespace Go.Proofs.Ytnekelndcpmonaa
open Go.RowKit
set_option linter.unusedVariables false

theorem xor_u8 (a b : Int) : ∃ y : UInt8, Go.bits .xor .u8 a b = (y.toNat : Int) := by
  obtain ⟨r, hr⟩ : ∃ r, r = Go.bits .xor .u8 a b := ⟨_, rfl⟩
  have h : 0 ≤ r ∧ r < 256 := by rw [hr]; unfold Go.bits; rw [IntKind.wrap_u8]; omega
  exact ⟨UInt8.ofNat r.toNat, by rw [← hr, UInt8.toNat_ofNat']; omega⟩
theorem slice_row (g n cap lo hi : Nat) (L H : Int) (hL : L = (lo : Int)) (hH : H = (hi : Int)) (h0 : lo ≤ hi) (h1 : lo < cap) (h2 : hi ≤ cap) (W : World) :
    (Instr.sliceAt 31 (.slice (some ⟨g, 0, none⟩) n cap) (some (.int .i64 L)) (some (.int .i64 H)) none).run Try.prog W = .ok (.slice (some ⟨g, lo, none⟩) (hi - lo) (cap - lo)) W := by
  have a1 : H ≤ (cap : Int) := by omega
  have a2 : 0 ≤ L := by omega
  have a3 : 0 ≤ H := by omega
  have a5 : L.toNat = lo := by omega
  have a6 : H.toNat = hi := by omega
  have a8 : L ≤ (hi : Int) := by omega
  have a9 : L ≤ H := by omega
  have a10 : cap ≠ lo := by omega
  clear hL hH h0 h1 h2
  go_simp
theorem conv_list (s : ByteArray) (l : List UInt8) (hs : s = ⟨l.toArray⟩) (n : Nat) (hl : l.length = n) (W : World) : (convert 9 31 (.string s)).run Try.prog W = .ok (.slice (some ⟨W.heap.size, 0, none⟩) n (grownCap W n 0 5)) (Lib.bytesWorld W 5 s) := by
  have h := conv_string W s
  have e : s.size = n := by rw [hs]; exact hl
  rw [e] at h
  exact h
theorem conv_list_raw {w : World} {R : List Asn} (S : Sep w R) (s : ByteArray) (l : List UInt8) (hs : s = ⟨l.toArray⟩) (n : Nat) (hl : l.length = n) : Sep (Lib.bytesWorld w 5 s) (rawA w.heap.size (l ++ List.replicate (grownCap w n 0 5 - n) 0) :: R) ∧ n ≤ grownCap w n 0 5 ∧ (l ++ List.replicate (grownCap w n 0 5 - n) 0).length = grownCap w n 0 5 := by
  have h := conv_raw S s
  have e : s.size = n := by rw [hs]; exact hl
  rw [e, show s.data.toList = l by rw [hs]] at h
  have hg := grownCap_ge w n 0 5
  exact ⟨h, hg, by rw [List.length_append, List.length_replicate]; omega⟩
theorem named3 {w : World} {R : List Asn} (_ : Sep w R) : ∃ w', w' = w := ⟨_, rfl⟩
theorem heldS {W0 a b : World} {p : Addr} {v : Value} (hc : W0.cell? p = some v) (hp : ∃ g i, p = ⟨g, i, none⟩) (h : Sep a [oldA W0] ∧ a.cell? p = some v) (hb : Below a.heap.size a b) : Sep b [oldA W0] ∧ b.cell? p = some v := by
  obtain ⟨g, i, rfl⟩ := hp
  exact ⟨h.1.below hb, (h.1.below hb).arg hc⟩
/-- Eight sectors as they were written. -/
def Eight (D : Dk) (k : Nat) (B : List UInt8) : Prop := Calm D 8 k ∧ ∀ i, i < k → D.now i = (B.drop (512 * i)).take 512
theorem eight_write {D : Dk} {k : Nat} {B : List UInt8} (h : Eight D k B) : Eight (D.write k ((B.drop (512 * k)).take 512)) (k + 1) B := by
  refine ⟨h.1.write _ _, fun i hi => ?_⟩
  rw [now_write h.1]
  by_cases e : k = i
  · rw [if_pos e, e]
  · rw [if_neg e, h.2 i (by omega)]
theorem eight_areas {D : Dk} {B : List UInt8} (h : Eight D 8 B) (hB : B.length = 4096) : Area D 0 4 (B.take 2048) ∧ Area D 4 4 (B.drop 2048) := by
  refine ⟨⟨by rw [List.length_take]; omega, fun i hi => ?_⟩, ⟨by rw [List.length_drop]; omega, fun i hi => ?_⟩⟩
  · rw [Nat.zero_add, h.2 i (by omega), drop_take_take _ (by omega)]
  · rw [h.2 (4 + i) (by omega), List.drop_drop]
    congr 2
    omega

set_option maxRecDepth 100000 in
set_option maxHeartbeats 8000000 in
/-- Two loops' rounds: a record's picture appended. -/
theorem reads_walk (w : World) (R : List Asn) (S : Sep w R) (a : Option Addr) (la : List ByteArray) (ca : Nat) (ha : StrsAt w a la) (hla : la.length ≤ 9223372036854775807)
    (b : Option Addr) (lb : List ByteArray) (cb : Nat) (hb : StrsAt w b lb) (hlb : lb.length ≤ 9223372036854775807) (n m : Nat) (hn64 : n < 18446744073709551616) (hm64 : m < 18446744073709551616)
    (at_ tu : Int) (hR : R = [oldA w]) (k1 kq kr : Nat) (hk1 : Go.bits .and .i64 at_ 1 = (k1 : Int)) (h11 : k1 ≤ 1) (hkq : Go.bits .and .i64 at_ 16777215 = (kq : Int)) (hkr : (kq : Int) % 4096 = (kr : Int)) :
    Calls Try.prog 4 #[.slice a la.length ca, .slice b lb.length cb, .int .u64 (n : Int), .int .u64 (m : Int), .int .i64 at_, .int .u8 tu] w fun e w' => e = .returned (.bool true) ∧ Sep w' R := by
  subst hR
  obtain ⟨na, hna⟩ : ∃ na, na = la.length := ⟨_, rfl⟩
  obtain ⟨nb, hnb⟩ : ∃ nb, nb = lb.length := ⟨_, rfl⟩
  rw [← hna, ← hnb]
  rw [← hna] at hla
  rw [← hnb] at hlb
  have hkq0 : (0 : Int) ≤ (kq : Int) := by omega
  have hkr0 : (0 : Int) ≤ (kr : Int) := by omega
  have hkr1 : (kr : Int) < 4096 := by omega
  have hk10 : (0 : Int) ≤ (k1 : Int) := by omega
  have hk11 : (k1 : Int) ≤ 1 := by omega
  have HNA := Lib.hid hna
  have HNB := Lib.hid hnb
  have HA := Lib.hid ha
  have HB := Lib.hid hb
  have HS := Lib.hid S
  have HKQ := Lib.hid hkq
  have HKR := Lib.hid hkr
  have cn := fun (w : World) => refBytes n (n : Int) w rfl hn64
  have cm := fun (w : World) => refBytes m (m : Int) w rfl hm64
  obtain ⟨ln, hln⟩ : ∃ ln, ln = lowL n 8 := ⟨_, rfl⟩
  obtain ⟨lm, hlm⟩ : ∃ lm, lm = lowL m 8 := ⟨_, rfl⟩
  have hlnl : ln.length = 8 := by rw [hln]; exact lowL_len n 8
  have hlml : lm.length = 8 := by rw [hlm]; exact lowL_len m 8
  rw [← hln] at cn
  rw [← hlm] at cm
  obtain ⟨bn, hbn⟩ : ∃ bn : ByteArray, bn = ⟨ln.toArray⟩ := ⟨_, rfl⟩
  obtain ⟨bm, hbm⟩ : ∃ bm : ByteArray, bm = ⟨lm.toArray⟩ := ⟨_, rfl⟩
  rw [← hbn] at cn
  rw [← hbm] at cm
  have hsb := slice_to bn ln hbn (8 - k1) (8 - (k1 : Int)) (by omega) (by omega)
  obtain ⟨lc, hlc⟩ : ∃ lc, lc = ln.take (8 - k1) := ⟨_, rfl⟩
  rw [← hlc] at hsb
  have hlcl : lc.length ≤ 8 := by rw [hlc, List.length_take]; omega
  obtain ⟨bc, hbc⟩ : ∃ bc : ByteArray, bc = ⟨lc.toArray⟩ := ⟨_, rfl⟩
  rw [← hbc] at hsb
  have CN := Lib.hid cn
  have CM := Lib.hid cm
  have HLCL := Lib.hid hlcl
  have HBC := Lib.hid hbc
  have HBM := Lib.hid hbm
  have HLML := Lib.hid hlml
  have HSB := Lib.hid hsb
  clear hna hnb ha hb S hkq hkr cn cm hln hlm hlnl hlml hbn hbm hlc hlcl hbc hn64 hm64 h11 hsb
  go_enter Try.func4, Try.ntmps4
  go_wp2_with fail
  refine (shown4_sep HS.out).mono ?_
  rintro e w1 ⟨rfl, S1⟩
  have HS1 := Lib.hid S1
  clear S1 HS
  have cb1 := fun (w : World) => refBegin 3 3 w rfl (by omega)
  have cb2 := fun (w : World) => refBegin 9 9 w rfl (by omega)
  obtain ⟨s0, hs0⟩ : ∃ s0 : ByteArray, s0 = ⟨(pic 3 startN []).toArray⟩ := ⟨_, rfl⟩
  obtain ⟨s9, hs9⟩ : ∃ s9 : ByteArray, s9 = ⟨(pic 9 startN []).toArray⟩ := ⟨_, rfl⟩
  rw [← hs0] at cb1
  rw [← hs9] at cb2
  have CB1 := Lib.hid cb1
  have CB2 := Lib.hid cb2
  have HS0 := Lib.hid hs0
  have HS9 := Lib.hid hs9
  clear cb1 cb2 hs0 hs9
  go_wp2_with fail
  refine (CB1.out _).mono ?_
  rintro e w2 ⟨rfl, b2⟩
  have HS2 := Lib.hid (HS1.out.below b2)
  clear b2 HS1
  go_upto_block 0 with fail
  go_cut [14, 15] from 33 to 66 (fun sv i wx => ∃ l : List UInt8, (512 ≤ l.length ∧ l.length ≤ 1536) ∧ sv = .string ⟨l.toArray⟩ ∧ Sep wx [oldA w])
  case first =>
    go_wp2_with fail
    go_loopw [14, 15] (fun sv i wr => ∃ (k : Nat) (l : List UInt8), k ≤ na ∧ k ≤ 2 ∧ (512 ≤ l.length ∧ l.length ≤ 512 + 512 * k) ∧ sv = .string ⟨l.toArray⟩ ∧ i = .int .i64 (k : Int) ∧ Sep wr [oldA w]) (fun _ i _ => na - (intOf i).toNat)
    case atStart => exact ⟨0, pic 3 startN [], Nat.zero_le _, Nat.zero_le _, ⟨by rw [begin_len]; omega, by rw [begin_len]; omega⟩, by rw [HS0.out], rfl, HS2.out⟩
    case round =>
      obtain ⟨k, l, hk, hk2, ⟨hl0, hll⟩, rfl, rfl, Sr⟩ := hrel
      by_cases hlt : k < na ∧ k < 2
      · obtain ⟨hlt1, hlt2⟩ := hlt
        have hlt2i : (k : Int) < 2 := by omega
        have hk1' : (k : Int) < (na : Int) := by omega
        have hk0 : (0 : Int) ≤ (k : Int) := by omega
        obtain ⟨ab, ao, rfl, hc⟩ := HA.out k (by have := HNA.out; omega)
        obtain ⟨x, hx⟩ : ∃ x, x = la.getD k ByteArray.empty := ⟨_, rfl⟩
        rw [← hx] at hc
        have hcr := Sr.arg hc
        have Hc := Lib.hid hc
        have HSr := Lib.hid Sr.drew
        obtain ⟨nc, hmin, hn1, hn2, hn3, hn4, hn5⟩ := cut_string x 400
        have hmin' : (if (400 : Int) < (x.size : Int) then (400 : Int) else (x.size : Int)) = (nc : Int) := hmin
        have hn1' : (nc : Int) ≤ 400 := by omega
        have hn2' : (nc : Int) ≤ (x.size : Int) := by omega
        have hn0' : (0 : Int) ≤ (nc : Int) := by omega
        obtain ⟨t, ht⟩ : ∃ t, t = x.data.toList.take 400 := ⟨_, rfl⟩
        rw [← ht] at hn3 hn4
        have hsl := slice_cut x nc t hn4 hn2
        obtain ⟨f2, hf2⟩ : ∃ f2 : Nat, f2 = 4 + k := ⟨_, rfl⟩
        have q1 : IntKind.i64.wrap (4 + (k : Int)) = (f2 : Int) := by rw [IntKind.wrap_i64]; omega
        have q2 : IntKind.u64.wrap (f2 : Int) = (f2 : Int) := by rw [IntKind.wrap_u64]; omega
        obtain ⟨tt, htt⟩ : ∃ tt : ByteArray, tt = ⟨t.toArray⟩ := ⟨_, rfl⟩
        rw [← htt] at hsl
        have c1 := fun (w : World) => refRecord f2 (f2 : Int) (lc ++ t) w rfl (by omega) (by rw [List.length_append]; have := HLCL.out; omega)
        obtain ⟨rr, hrr⟩ : ∃ rr : ByteArray, rr = ⟨(lc ++ t).toArray⟩ := ⟨_, rfl⟩
        obtain ⟨pp, hpp⟩ : ∃ pp : ByteArray, pp = ⟨(pic f2 (lc ++ t).length (lc ++ t)).toArray⟩ := ⟨_, rfl⟩
        obtain ⟨s1, hs1⟩ : ∃ s1 : ByteArray, s1 = ⟨l.toArray⟩ := ⟨_, rfl⟩
        have hpl : (pic f2 (lc ++ t).length (lc ++ t)).length ≤ 512 := by rw [pic_len, List.length_append]; have := HLCL.out; omega
        have hps : pp.size = (pic f2 (lc ++ t).length (lc ++ t)).length := by rw [hpp]; rfl
        have hss : s1.size = l.length := by rw [hs1]; rfl
        have hcs : bc.size = lc.length := by rw [HBC.out]; rfl
        have hts : tt.size = t.length := by rw [htt]; rfl
        have hcat : ¬ (9223372036854775807 < s1.size + pp.size) := by omega
        have hcat2 : ¬ (9223372036854775807 < bc.size + tt.size) := by have := HLCL.out; omega
        have hadd : s1 ++ pp = ⟨(l ++ pic f2 (lc ++ t).length (lc ++ t)).toArray⟩ := by rw [hs1, hpp, cat_string]
        have hadd2 : bc ++ tt = rr := by rw [HBC.out, htt, hrr, cat_string]
        rw [← hrr, ← hpp] at c1
        rw [← hs1]
        have C1 := Lib.hid c1
        have HADD := Lib.hid hadd
        have HPL := Lib.hid hpl
        have HLL := Lib.hid hll
        have HL0 := Lib.hid hl0
        clear hl0
        have hsb := HSB.out
        have q3 : IntKind.i64.wrap (8 - (k1 : Int)) = 8 - (k1 : Int) := by rw [IntKind.wrap_i64]; omega
        clear hc Sr hx hmin hn1 hn2 hn3 hn4 hn5 ht c1 hpp hs1 hpl hps hss hcs hts hadd hll htt hrr hf2
        go_wp2_with fail
        go_region_held (fun w' => Sep w' [oldA w] ∧ w'.cell? ⟨ab, ao + k, none⟩ = some (.string x)) (first | assumption | exact ⟨HSr.out, hcr⟩)
          (first
            | (go_at_call 17; refine (CN.out _).mono ?_; rintro e w3 ⟨rfl, b3⟩; have hh := heldS Hc.out ⟨_, _, rfl⟩ (by first | assumption | exact ⟨HSr.out, hcr⟩) b3)
            | (go_at_call 16; refine (C1.out _).mono ?_; rintro e w3 ⟨rfl, b3⟩; have hh := heldS Hc.out ⟨_, _, rfl⟩ (by first | assumption | exact ⟨HSr.out, hcr⟩) b3))
        all_goals
          have HS4 := Lib.hid hh.1
          clear b3 hcr hh
          go_wp2
          go_roundw
          case rel => exact ⟨k + 1, l ++ pic f2 (lc ++ t).length (lc ++ t), by omega, by omega, ⟨by rw [List.length_append]; have := HL0.out; omega, by rw [List.length_append]; have := HPL.out; have := HLL.out; omega⟩, by rw [HADD.out], by go_num, HS4.out⟩
          case measure => simp [intOf]; omega
      · have HSr := Lib.hid Sr
        clear Sr
        by_cases hkl : k < na
        · have hk50 : ¬ (k : Int) < 2 := by omega
          have hk51 : (k : Int) < (na : Int) := by omega
          clear hlt
          go_wp2_with fail
          go_meet
          exact ⟨l, ⟨by omega, by omega⟩, rfl, HSr.out⟩
        · have hkl' : ¬ (k : Int) < (na : Int) := by omega
          clear hlt
          go_wp2_with fail
          go_meet
          exact ⟨l, ⟨by omega, by omega⟩, rfl, HSr.out⟩
  case rest =>
    obtain ⟨lx, ⟨-, hlx⟩, rfl, S⟩ := hcut
    obtain ⟨sx, hsx⟩ : ∃ sx : ByteArray, sx = ⟨lx.toArray⟩ := ⟨_, rfl⟩
    have HSX := Lib.hid hsx
    rw [← hsx]
    have HS4 := Lib.hid S
    clear S hsx HS2 HS0 HNA HA CN HLCL HBC HSB CB1
    go_wp2_with fail
    refine (CB2.out _).mono ?_
    rintro e w3 ⟨rfl, b3⟩
    have HS5 := Lib.hid (HS4.out.below b3)
    clear b3 HS4
    go_upto_block 2 with fail
    go_cut [16, 17] from 68 to 97 (fun sv i wx => ∃ l : List UInt8, (512 ≤ l.length ∧ l.length ≤ 1536) ∧ sv = .string ⟨l.toArray⟩ ∧ Sep wx [oldA w])
    case first =>
      go_wp2_with fail
      go_loopw [16, 17] (fun sv i wr => ∃ (k : Nat) (l : List UInt8), k ≤ nb ∧ k ≤ 2 ∧ (512 ≤ l.length ∧ l.length ≤ 512 + 512 * k) ∧ sv = .string ⟨l.toArray⟩ ∧ i = .int .i64 (k : Int) ∧ Sep wr [oldA w]) (fun _ i _ => nb - (intOf i).toNat)
      case atStart => exact ⟨0, pic 9 startN [], Nat.zero_le _, Nat.zero_le _, ⟨by rw [begin_len]; omega, by rw [begin_len]; omega⟩, by rw [HS9.out], rfl, HS5.out⟩
      case round =>
        obtain ⟨k, l, hk, hk2, ⟨hl0, hll⟩, rfl, rfl, Sr⟩ := hrel
        by_cases hlt : k < nb ∧ k < 2
        · obtain ⟨hlt1, hlt2⟩ := hlt
          have hlt2i : (k : Int) < 2 := by omega
          have hk1' : (k : Int) < (nb : Int) := by omega
          have hk0 : (0 : Int) ≤ (k : Int) := by omega
          obtain ⟨ab, ao, rfl, hc⟩ := HB.out k (by have := HNB.out; omega)
          obtain ⟨x, hx⟩ : ∃ x, x = lb.getD k ByteArray.empty := ⟨_, rfl⟩
          rw [← hx] at hc
          have hcr := Sr.arg hc
          have Hc := Lib.hid hc
          have HSr := Lib.hid Sr.drew
          obtain ⟨nc, hmin, hn1, hn2, hn3, hn4, hn5⟩ := cut_string x 400
          have hmin' : (if (400 : Int) < (x.size : Int) then (400 : Int) else (x.size : Int)) = (nc : Int) := hmin
          have hn1' : (nc : Int) ≤ 400 := by omega
          have hn2' : (nc : Int) ≤ (x.size : Int) := by omega
          have hn0' : (0 : Int) ≤ (nc : Int) := by omega
          obtain ⟨t, ht⟩ : ∃ t, t = x.data.toList.take 400 := ⟨_, rfl⟩
          rw [← ht] at hn3 hn4
          have hsl := slice_cut x nc t hn4 hn2
          obtain ⟨f2, hf2⟩ : ∃ f2 : Nat, f2 = 10 + k := ⟨_, rfl⟩
          have q1 : IntKind.i64.wrap (10 + (k : Int)) = (f2 : Int) := by rw [IntKind.wrap_i64]; omega
          have q2 : IntKind.u64.wrap (f2 : Int) = (f2 : Int) := by rw [IntKind.wrap_u64]; omega
          obtain ⟨tt, htt⟩ : ∃ tt : ByteArray, tt = ⟨t.toArray⟩ := ⟨_, rfl⟩
          rw [← htt] at hsl
          have c1 := fun (w : World) => refRecord f2 (f2 : Int) (lm ++ t) w rfl (by omega) (by rw [List.length_append]; have := HLML.out; omega)
          obtain ⟨rr, hrr⟩ : ∃ rr : ByteArray, rr = ⟨(lm ++ t).toArray⟩ := ⟨_, rfl⟩
          obtain ⟨pp, hpp⟩ : ∃ pp : ByteArray, pp = ⟨(pic f2 (lm ++ t).length (lm ++ t)).toArray⟩ := ⟨_, rfl⟩
          obtain ⟨s1, hs1⟩ : ∃ s1 : ByteArray, s1 = ⟨l.toArray⟩ := ⟨_, rfl⟩
          have hpl : (pic f2 (lm ++ t).length (lm ++ t)).length ≤ 512 := by rw [pic_len, List.length_append]; have := HLML.out; omega
          have hps : pp.size = (pic f2 (lm ++ t).length (lm ++ t)).length := by rw [hpp]; rfl
          have hss : s1.size = l.length := by rw [hs1]; rfl
          have hcs : bm.size = lm.length := by rw [HBM.out]; rfl
          have hts : tt.size = t.length := by rw [htt]; rfl
          have hcat : ¬ (9223372036854775807 < s1.size + pp.size) := by omega
          have hcat2 : ¬ (9223372036854775807 < bm.size + tt.size) := by have := HLML.out; omega
          have hadd : s1 ++ pp = ⟨(l ++ pic f2 (lm ++ t).length (lm ++ t)).toArray⟩ := by rw [hs1, hpp, cat_string]
          have hadd2 : bm ++ tt = rr := by rw [HBM.out, htt, hrr, cat_string]
          rw [← hrr, ← hpp] at c1
          rw [← hs1]
          have C1 := Lib.hid c1
          have HADD := Lib.hid hadd
          have HPL := Lib.hid hpl
          have HLL := Lib.hid hll
          have HL0 := Lib.hid hl0
          clear hl0
          clear hc Sr hx hmin hn1 hn2 hn3 hn4 hn5 ht c1 hpp hs1 hpl hps hss hcs hts hadd hll htt hrr hf2
          go_wp2_with fail
          go_region_held (fun w' => Sep w' [oldA w] ∧ w'.cell? ⟨ab, ao + k, none⟩ = some (.string x)) (first | assumption | exact ⟨HSr.out, hcr⟩)
            (first
              | (go_at_call 17; refine (CM.out _).mono ?_; rintro e w3 ⟨rfl, b3⟩; have hh := heldS Hc.out ⟨_, _, rfl⟩ (by first | assumption | exact ⟨HSr.out, hcr⟩) b3)
              | (go_at_call 16; refine (C1.out _).mono ?_; rintro e w3 ⟨rfl, b3⟩; have hh := heldS Hc.out ⟨_, _, rfl⟩ (by first | assumption | exact ⟨HSr.out, hcr⟩) b3))
          all_goals
            have HS4 := Lib.hid hh.1
            clear b3 hcr hh
            go_wp2
            go_roundw
            case rel => exact ⟨k + 1, l ++ pic f2 (lm ++ t).length (lm ++ t), by omega, by omega, ⟨by rw [List.length_append]; have := HL0.out; omega, by rw [List.length_append]; have := HPL.out; have := HLL.out; omega⟩, by rw [HADD.out], by go_num, HS4.out⟩
            case measure => simp [intOf]; omega
        · have HSr := Lib.hid Sr
          clear Sr
          by_cases hkl : k < nb
          · have hk50 : ¬ (k : Int) < 2 := by omega
            have hk51 : (k : Int) < (nb : Int) := by omega
            clear hlt
            go_wp2_with fail
            go_meet
            exact ⟨l, ⟨by omega, by omega⟩, rfl, HSr.out⟩
          · have hkl' : ¬ (k : Int) < (nb : Int) := by omega
            clear hlt
            go_wp2_with fail
            go_meet
            exact ⟨l, ⟨by omega, by omega⟩, rfl, HSr.out⟩
    case rest =>
      obtain ⟨ly, ⟨hly0, hly⟩, rfl, S⟩ := hcut
      obtain ⟨sy, hsy⟩ : ∃ sy : ByteArray, sy = ⟨ly.toArray⟩ := ⟨_, rfl⟩
      have HSY := Lib.hid hsy
      rw [← hsy]
      clear hsy HS5 HS9 HNB HB CM HLML HBM CB2 hk1
      obtain ⟨n0, hn0⟩ : ∃ n0, n0 = lx.length := ⟨_, rfl⟩
      obtain ⟨n1, hn1⟩ : ∃ n1, n1 = ly.length := ⟨_, rfl⟩
      have hsxs : sx.size = n0 := by rw [HSX.out, hn0]; rfl
      have hsys : sy.size = n1 := by rw [HSY.out, hn1]; rfl
      have hlx1 : n0 ≤ 1536 := by omega
      have hly1 : n1 ≤ 1536 := by omega
      obtain ⟨q0, hq0⟩ : ∃ q0, q0 = 2048 - n0 := ⟨_, rfl⟩
      have e0 : (2048 : Int) - (n0 : Int) = (q0 : Int) := by omega
      have e00 : IntKind.i64.wrap (q0 : Int) = (q0 : Int) := by rw [IntKind.wrap_i64]; omega
      have hcv := conv_list sx lx HSX.out n0 hn0.symm
      obtain ⟨S6, hge, hl6⟩ := conv_list_raw S sx lx HSX.out n0 hn0.symm
      obtain ⟨w3, hw3⟩ := named3 S
      rw [← hw3] at S6 hge hl6
      have HS6 := Lib.hid S6
      have HGE := Lib.hid hge
      have HL6 := Lib.hid hl6
      have HQ0 : Hid (n0 + q0 = 2048 ∧ 0 < q0) := Lib.hid (by omega)
      have HN1 : Hid (ly.length = n1 ∧ 512 ≤ n1 ∧ n1 ≤ 1536) := Lib.hid (by omega)
      rw [← hw3]
      clear S S6 hge hl6 hw3 hn0 hlx hlx1 hq0 hn1 hly hly1 hly0
      go_wp2_with (at_builtin; refine wpList_append_raw0 rfl (.tmp 99) (.tmp 102) rfl HS6.out n0 _ q0 rfl rfl HL6.out HGE.out HQ0.out.2 (by have := HQ0.out.1; omega) ?next)
      case next =>
        intro g1 l1 w4 h1 h2 S7
        rw [HQ0.out.1] at h2 ⊢
        have h2' := h2
        obtain ⟨c1, hc1⟩ : ∃ c1, c1 = l1.length := ⟨_, rfl⟩
        rw [← hc1] at h2 ⊢
        have hcv2 := conv_list sy ly HSY.out n1 HN1.out.1
        obtain ⟨S8, hge2, hl8⟩ := conv_list_raw S7 sy ly HSY.out n1 HN1.out.1
        have hrd := S8.raw_reads 0 n1 (by rw [List.length_append, HN1.out.1]; omega)
        have hrd2 : ((ly ++ List.replicate (grownCap w4 n1 0 5 - n1) 0).drop 0).take n1 = ly := by rw [List.drop_zero, ← HN1.out.1, List.take_left]
        rw [hrd2] at hrd
        have HRD := Lib.hid hrd
        have HS8 := Lib.hid S8.up1
        have HC1 := Lib.hid hc1
        have HH2 := Lib.hid h2
        clear h2' hc1 h2 h1 hl8 hge2 hrd hrd2 S7 S8 HS6 HGE HL6 hcv
        have HQ11 := HH2
        go_wp2_with (at_builtin; refine wpList_append_raw_bytes rfl (.tmp 104) (.tmp 106) rfl HS8.out 2048 c1 ly w4.heap.size n1 (grownCap w4 n1 0 5) rfl rfl HC1.out.symm HQ11.out HN1.out.1 HRD.out (by have := HN1.out.2; omega) (by have := HN1.out.2; omega) ?next)
        case next =>
          intro g2 l2 w5 h3 h4 S9
          obtain ⟨q, hq⟩ : ∃ q, q = 2048 + n1 := ⟨_, rfl⟩
          rw [← hq] at h3 h4 ⊢
          obtain ⟨c2, hc2⟩ : ∃ c2, c2 = l2.length := ⟨_, rfl⟩
          rw [← hc2] at h4 ⊢
          have hqb : q ≤ 3584 := by have := HN1.out.2; omega
          obtain ⟨q2, hq2⟩ : ∃ q2, q2 = 4096 - q := ⟨_, rfl⟩
          have e2 : (4096 : Int) - (q : Int) = (q2 : Int) := by omega
          have e22 : IntKind.i64.wrap (q2 : Int) = (q2 : Int) := by rw [IntKind.wrap_i64]; omega
          have HQ2 : Hid (q + q2 = 4096 ∧ 0 < q2 ∧ q ≤ c2 ∧ l2.length = c2) := Lib.hid (by omega)
          have HS9 := Lib.hid S9.up1.drop
          clear hq hc2 h3 h4 S9 hqb hq2 HS8 HRD HC1 HH2 HQ11 hcv2 e0 e00
          go_wp2_with (at_builtin; refine wpList_append_raw0 rfl (.tmp 108) (.tmp 111) rfl HS9.out q c2 q2 rfl rfl HQ2.out.2.2.2 HQ2.out.2.2.1 HQ2.out.2.1 (by have := HQ2.out.1; omega) ?next)
          case next =>
            intro g l3 w6 h5 h6 S10
            rw [HQ2.out.1] at h6 ⊢
            have h3 : 4096 ≤ l3.length := h6
            have hkq := HKQ.out
            have hkr := HKR.out
            have hcell := S10.raw_cell kr (by omega)
            have hfree := S10.raw_free kr (by omega)
            obtain ⟨x, hx⟩ : ∃ x : UInt8, x = l3.getD kr 0 := ⟨_, rfl⟩
            rw [← hx] at hcell
            obtain ⟨y, hy⟩ := xor_u8 (x.toNat : Int) tu
            have S11 := S10.raw_set kr y
            obtain ⟨l4, hl4⟩ : ∃ l4, l4 = l3.set kr y := ⟨_, rfl⟩
            obtain ⟨lc, hlc⟩ : ∃ lc, lc = l3.length := ⟨_, rfl⟩
            have h4l : l4.length = lc := by rw [hl4, List.length_set, hlc]
            rw [← hl4] at S11
            rw [← hlc] at h3
            rw [← hlc]
            have hlc4 : 4096 ≤ lc := h3
            have H4L := Lib.hid h4l
            have HS11 := Lib.hid S11
            clear h5 h6 h3 hx hl4 hlc h4l S10 S11 HS9 HQ2 HQ0 HN1 e2 e22 HSX HSY hsxs hsys
            go_wp2_with fail
            refine (new_sep HS11.out 8 8 rfl (by omega) (by omega)).mono ?_
            rintro e w7 ⟨p, rfl, S12⟩
            obtain ⟨B, hB⟩ : ∃ B, B = l4.take 4096 := ⟨_, rfl⟩
            have hBl : B.length = 4096 := by rw [hB, List.length_take, H4L.out]; omega
            have HB := Lib.hid hB
            have HBL := Lib.hid hBl
            have HS12 := Lib.hid S12
            clear hB hBl S12 HS11 hcell hfree hy hkq hkr
            go_wp2_with fail
            go_loopw [22] (fun i wr => ∃ (k : Nat) (D : Dk), k ≤ 8 ∧ i = .int .i64 (k : Int) ∧ Sep wr [diskA p D, rawA g l4, oldA w] ∧ Hid (Eight D k B)) (fun i _ => 8 - (intOf i).toNat)
            case atStart => exact ⟨0, _, Nat.zero_le _, rfl, HS12.out, Lib.hid ⟨Calm.new 8, fun i hi => by omega⟩⟩
            case round =>
              obtain ⟨k, D, hk, rfl, Sr, HE⟩ := hrel
              by_cases hlt : k < 8
              · have hlt1 : (k : Int) < 8 := by omega
                have hk0 : (0 : Int) ≤ (k : Int) := by omega
                have hsr := slice_row g 4096 lc (512 * k) (512 * k + 512) (512 * (k : Int)) (512 * (k : Int) + 512) (by omega) (by omega) (by omega) (by omega) (by omega)
                rw [show 512 * k + 512 - 512 * k = 512 by omega] at hsr
                have hbt := Sr.up1.raw_reads (512 * k) 512 (by rw [H4L.out]; omega)
                have hbb : (l4.drop (512 * k)).take 512 = (B.drop (512 * k)).take 512 := by rw [HB.out, drop_take_take _ (by omega)]
                rw [hbb] at hbt
                have hbl : ((B.drop (512 * k)).take 512).length = 512 := by rw [List.length_take, List.length_drop, HBL.out]; omega
                have hcold := Sr.up1.raw_cold
                have HBT := Lib.hid hbt
                have HBBL := Lib.hid hbl
                have HCOLD := Lib.hid hcold
                have HSr := Lib.hid Sr
                clear hbt hbb hbl hcold Sr
                go_wp2_with fail
                refine (write_sep HSr.out k _ rfl _ _ _ (by rw [HE.out.1.len]; exact hlt) HBT.out HBBL.out (fun g' o' e => by cases e; exact HCOLD.out) (by have := HE.out.1.fwaits; omega)).mono ?_
                rw [HE.out.1.rd]
                rintro e w8 ⟨rfl, S13, -⟩
                have HS13 := Lib.hid S13
                clear S13
                go_wp2
                go_roundw
                case rel => exact ⟨k + 1, _, by omega, by go_num, HS13.out, Lib.hid (eight_write HE.out)⟩
                case measure => simp [intOf]; omega
              · obtain rfl : k = 8 := by omega
                have har := eight_areas HE.out HBL.out
                have hso := sopn_any HE.out.1 har.1 har.2 (by omega)
                have HLN := Lib.hid HE.out.1.len
                have HSr := Lib.hid Sr
                clear Sr har HS12
                rcases hso with ⟨D9, o1, o2⟩ | ⟨D9, j0, j1, ⟨is, cnt, th⟩, cc, o1, o2, o3, o4⟩
                · have hop := sOpen_err HSr.out 4 (by rw [HLN.out]; omega) (by rw [HLN.out]; omega) (by rw [HLN.out]) D9 2 o1
                  have HO := Lib.hid hop
                  have HK := Lib.hid o2
                  clear hop o1 o2
                  go_wp2_with fail
                  refine HO.out.mono ?_
                  rintro e w9 ⟨rfl, S14⟩
                  have hbt := (S14.up1.raw_reads 0 4096 (by rw [H4L.out]; omega))
                  rw [List.drop_zero, ← HB.out] at hbt
                  have tr := run_string hbt 4096 lc HBL.out
                  have hkp := refKept _ _ S14 B HBL.out
                  rw [HK.out] at hkp
                  have HKP := Lib.hid hkp
                  clear S14 hbt HSr hkp
                  go_wp2_with fail
                  refine HKP.out.mono ?_
                  rintro e w10 ⟨rfl, S15⟩
                  have HS15 := Lib.hid S15.drop.drop
                  clear S15
                  unfold keptT
                  dsimp only
                  go_wp2
                  go_ret
                  exact ⟨rfl, HS15.out⟩
                · have hop := sOpen_ok HSr.out 4 (by rw [HLN.out]; omega) (by rw [HLN.out]; omega) (by rw [HLN.out]) D9 j0 j1 _ o1
                  have HO := Lib.hid hop
                  have HK := Lib.hid o2
                  obtain ⟨tb, htb⟩ : ∃ tb : ByteArray, tb = ⟨th.toArray⟩ := ⟨_, rfl⟩
                  have HTB := Lib.hid htb
                  have HO4 := Lib.hid o4
                  clear hop o1 o2 htb o4
                  go_wp2_with fail
                  refine HO.out.mono ?_
                  rintro e w9 ⟨sp, rfl, S14⟩
                  have hbt := (S14.up2.raw_reads 0 4096 (by rw [H4L.out]; omega))
                  rw [List.drop_zero, ← HB.out] at hbt
                  have tr := run_string hbt 4096 lc HBL.out
                  have hkp := refKept _ _ S14 B HBL.out
                  rw [HK.out] at hkp
                  unfold keptT at hkp
                  dsimp only at hkp
                  rw [← HTB.out] at hkp
                  have HKP := Lib.hid hkp
                  clear S14 hbt HSr hkp
                  go_wp2_with fail
                  refine HKP.out.mono ?_
                  rintro e w10 ⟨rfl, S15⟩
                  have HS15 := Lib.hid S15
                  clear S15 tr
                  have hthl : (stoOf 4 j0 j1 (is, cnt, th)).thing = th := rfl
                  have o3 : is = -1 ∨ is = 0 ∨ is = 1 := o3
                  by_cases hneg : is = -1
                  · subst hneg
                    have HLD := Lib.hid (sLoad_none HS15.out rfl rfl)
                    clear hthl o3
                    go_wp2_with fail
                    refine HLD.out.mono ?_
                    rintro e w11 ⟨rfl, rfl⟩
                    have HS16 := Lib.hid HS15.out.drop.drop.drop
                    go_wp2
                    go_ret
                    exact ⟨rfl, HS16.out⟩
                  · have his : 0 ≤ is := by omega
                    have hld := sLoad_sep HS15.out rfl his (by rw [hthl]; have h : th.length ≤ 512 * 4 := HO4.out; omega)
                    rw [hthl] at hld
                    have HLD := Lib.hid hld
                    clear hthl hld o3 hneg
                    go_wp2_with fail
                    refine HLD.out.mono ?_
                    rintro e w11 ⟨g11, cap11, rfl, S16⟩
                    have tr1 : (convert 31 9 (.slice g11 th.length cap11)).run Try.prog w11 = _ := run_string S16.bytes.reads th.length cap11 rfl
                    rw [← HTB.out] at tr1
                    have HS16 := Lib.hid S16.drop.drop.drop.drop
                    clear S16
                    go_wp2
                    go_ret
                    exact ⟨rfl, HS16.out⟩
theorem StoreReads_walk (W : World) (a : Option Addr) (la : List ByteArray) (ca : Nat) (ha : StrsAt W a la) (hla : la.length ≤ 9223372036854775807) (b : Option Addr) (lb : List ByteArray) (cb : Nat) (hb : StrsAt W b lb) (hlb : lb.length ≤ 9223372036854775807) (n m : Int) (hn : 0 ≤ n ∧ n ≤ 18446744073709551615) (hm : 0 ≤ m ∧ m ≤ 18446744073709551615) (at_ tu : Int) :
    Calls Try.prog 4 #[.slice a la.length ca, .slice b lb.length cb, .int .u64 n, .int .u64 m, .int .i64 at_, .int .u8 tu] W fun e w' => e = .returned (.bool true) ∧ Below W.heap.size W w' := by
  obtain ⟨k1, h1, hk1⟩ := and_i64 at_ 1 (by omega)
  obtain ⟨kq, hq, hkq⟩ := and_i64 at_ 16777215 (by omega)
  obtain ⟨n', rfl⟩ : ∃ n' : Nat, n = (n' : Int) := ⟨n.toNat, by omega⟩
  obtain ⟨m', rfl⟩ : ∃ m' : Nat, m = (m' : Int) := ⟨m.toNat, by omega⟩
  exact (reads_walk W _ (Sep.start W) a la ca ha hla b lb cb hb hlb n' m' (by omega) (by omega) at_ tu rfl k1 kq (kq % 4096) hk1 h1 hkq (by omega)).mono fun e w' h => ⟨h.1, h.2.fin⟩
end Go.Proofs.Ytnekelndcpmonaa
