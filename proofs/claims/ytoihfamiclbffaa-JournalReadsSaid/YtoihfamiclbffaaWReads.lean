/- JournalReads: the walk. -/
import Derived.Test.YtoihfamiclbffaaLawC
import Derived.Test.YtoihfamiclbffaaRaw
import Derived.Test.YtoihfamiclbffaaRefD
import Derived.Deep.RegionHeld
import Derived.Deep.RegionLaw
import Derived.Deep.QuietTactic
import Derived.Deep.CutBlock
import Derived.Deep.DeepCutAuto
import Derived.RegionTactic
namespace Go.Proofs.Ytoihfamiclbffaa
open Go.RowKit
set_option linter.unusedVariables false

theorem xor_u8 (a b : Int) : ∃ y : UInt8, Go.bits .xor .u8 a b = (y.toNat : Int) := by
  obtain ⟨r, hr⟩ : ∃ r, r = Go.bits .xor .u8 a b := ⟨_, rfl⟩
  have h : 0 ≤ r ∧ r < 256 := by rw [hr]; unfold Go.bits; rw [IntKind.wrap_u8]; omega
  exact ⟨UInt8.ofNat r.toNat, by rw [← hr, UInt8.toNat_ofNat']; omega⟩
theorem slice_row (g n cap lo hi : Nat) (L H : Int) (hL : L = (lo : Int)) (hH : H = (hi : Int)) (h0 : lo ≤ hi) (h1 : lo < cap) (h2 : hi ≤ cap) (W : World) :
    (Instr.sliceAt 33 (.slice (some ⟨g, 0, none⟩) n cap) (some (.int .i64 L)) (some (.int .i64 H)) none).run Try.prog W = .ok (.slice (some ⟨g, lo, none⟩) (hi - lo) (cap - lo)) W := by
  have a1 : H ≤ (cap : Int) := by omega
  have a2 : 0 ≤ L := by omega
  have a3 : 0 ≤ H := by omega
  have a5 : L.toNat = lo := by omega
  have a6 : H.toNat = hi := by omega
  have a8 : L ≤ (hi : Int) := by omega
  have a9 : L ≤ H := by omega
  have a10 : cap ≠ lo := by omega
  clear hL hH h0 h1 h2
  go_simp
theorem slice_head (a : Option Addr) (n cap hi : Nat) (h2 : hi ≤ cap) (hc : 0 < cap) (W : World) :
    (Instr.sliceAt 33 (.slice a n cap) none (some (.int .i64 (hi : Int))) none).run Try.prog W = .ok (.slice a hi cap) W := by
  have a1 : (hi : Int) ≤ (cap : Int) := by omega
  have a10 : cap ≠ 0 := by omega
  clear h2 hc
  go_simp
theorem f64 {f : Nat} (h : f ≤ lastN + 10) : f < 18446744073709551616 := by unfold lastN at h; omega
theorem fwrap {f k f1 f2 : Nat} (h : f ≤ lastN + 10) (hk : k ≤ 10) (h1 : f1 = f + 1) (h2 : f2 = f1 + k) :
    IntKind.u64.wrap ((f : Int) + 1) = (f1 : Int) ∧ IntKind.u64.wrap (k : Int) = (k : Int) ∧ IntKind.u64.wrap ((f1 : Int) + (k : Int)) = (f2 : Int) ∧ f2 < 18446744073709551616 := by
  unfold lastN at h
  rw [IntKind.wrap_u64, IntKind.wrap_u64, IntKind.wrap_u64]
  omega
theorem ffirst {k7 : Nat} (h : k7 ≤ 7) : ∃ f : Nat, 1 ≤ f ∧ f ≤ lastN + 10 ∧ 1 + (k7 : Int) + 4611686018427387904 - 6 = (f : Int) := ⟨1 + k7 + 4611686018427387904 - 6, by omega, by unfold lastN; omega, by omega⟩
theorem fsmall {k7 : Nat} (h : k7 ≤ 7) : 1 + k7 ≤ lastN + 10 := by unfold lastN; omega
theorem conv_list (l : List UInt8) (n : Nat) (hl : l.length = n) (W : World) : (convert 9 33 (.string ⟨l.toArray⟩)).run Try.prog W = .ok (.slice (some ⟨W.heap.size, 0, none⟩) n (grownCap W n 0 5)) (Lib.bytesWorld W 5 ⟨l.toArray⟩) := by
  have h := conv_string W ⟨l.toArray⟩
  have e : (⟨l.toArray⟩ : ByteArray).size = n := hl
  rw [e] at h
  exact h
theorem conv_list_raw {w : World} {R : List Asn} (S : Sep w R) (l : List UInt8) (n : Nat) (hl : l.length = n) : Sep (Lib.bytesWorld w 5 ⟨l.toArray⟩) (rawA w.heap.size (l ++ List.replicate (grownCap w n 0 5 - n) 0) :: R) ∧ n ≤ grownCap w n 0 5 := by
  have h := conv_raw S ⟨l.toArray⟩
  have e : (⟨l.toArray⟩ : ByteArray).size = n := hl
  rw [e] at h
  exact ⟨h, grownCap_ge w n 0 5⟩
/-- 'append([]byte(s), make([]byte, k)...)'. -/
theorem wpList_append_raw {w : World} {ops : Array Oper} {rest : List Oper} {o : Oper} {a : Act} {Q : Exit → Act → World → Prop} (hgd : o.guard = none) (s x : Operand)
    (ho : o.op = .call { callee := .builtin .append, args := #[s, x], argTypes := #[33, 3] })
    {R : List Asn} {g : Nat} {l : List UInt8} (S : Sep w (rawA g l :: R)) (n cap k : Nat) (hs : a.eval s = .slice (some ⟨g, 0, none⟩) n cap) (hx : a.eval x = .int .i64 (k : Int)) (hcap : l.length = cap) (hn : n ≤ cap) (hk : 0 < k) (hk2 : n + k ≤ 1000000)
    (h : ∀ g' l' w', l'.take (n + k) = l.take n ++ List.replicate k 0 → n + k ≤ l'.length → Sep w' (rawA g' l' :: R) → wpList Try.prog ops Q rest (a.put o.dst (.slice (some ⟨g', 0, none⟩) (n + k) l'.length)) w') : wpList Try.prog ops Q (o :: rest) a w := by
  refine wpList_plain hgd fun K hK => ?_
  obtain ⟨g', l', w', hrun, h1, h2, h3⟩ := append_raw S n cap k hcap hn hk hk2 o.type
  unfold Oper.wp
  simp [execOp, ho, resolve, invoke, builtin, hs, hx, hrun, Result.andThen]
  exact hK _ _ (h g' l' w' h1 h2 h3)
theorem named3 {w : World} {R : List Asn} (_ : Sep w R) : ∃ w', w' = w := ⟨_, rfl⟩
/-- Eight sectors as they were written. -/
def Eight (D : Dk) (k : Nat) (B : List UInt8) : Prop := Calm D 8 k ∧ ∀ i, i < k → D.now i = (B.drop (512 * i)).take 512
theorem eight_write {D : Dk} {k : Nat} {B : List UInt8} (h : Eight D k B) : Eight (D.write k ((B.drop (512 * k)).take 512)) (k + 1) B := by
  refine ⟨h.1.write _ _, fun i hi => ?_⟩
  rw [now_write h.1]
  by_cases e : k = i
  · rw [if_pos e, e]
  · rw [if_neg e, h.2 i (by omega)]
theorem eight_area {D : Dk} {B : List UInt8} (h : Eight D 8 B) (hB : B.length = 4096) : Area D 0 8 B := ⟨hB, fun i hi => by rw [Nat.zero_add]; exact h.2 i hi⟩

set_option maxRecDepth 100000 in
set_option maxHeartbeats 8000000 in
theorem reads_walk (w : World) (R : List Asn) (S : Sep w R) (ra : Option Addr) (raw : List UInt8) (rc : Nat) (hraw : BytesAt w ra raw) (hrl : raw.length ≤ rc) (hrm : (rc : Int) ≤ 9223372036854775807) (a : Option Addr) (la : List ByteArray) (ca : Nat) (ha : StrsAt w a la) (hla : la.length ≤ 9223372036854775807)
    (at_ tu : Int) (ht0 : 0 ≤ tu) (ht1 : tu ≤ 255) (hR : R = [oldA w]) (k7 kq kr : Nat) (hk7 : Go.bits .and .i64 at_ 7 = (k7 : Int)) (h77 : k7 ≤ 7) (hkq : Go.bits .and .i64 at_ 16777215 = (kq : Int)) (hkr : (kq : Int) % 4096 = (kr : Int)) :
    Calls Try.prog 4 #[.slice ra raw.length rc, .slice a la.length ca, .int .i64 at_, .int .u8 tu] w fun e w' => e = .returned (.bool true) ∧ Sep w' R := by
  subst hR
  obtain ⟨na, hna⟩ : ∃ na, na = la.length := ⟨_, rfl⟩
  obtain ⟨nr, hnr⟩ : ∃ nr, nr = raw.length := ⟨_, rfl⟩
  rw [← hna, ← hnr]
  rw [← hna] at hla
  rw [← hnr] at hrl
  have hkq0 : (0 : Int) ≤ (kq : Int) := by omega
  have hkr0 : (0 : Int) ≤ (kr : Int) := by omega
  have hkr1 : (kr : Int) < 4096 := by omega
  have HNA := Lib.hid hna
  have HNR := Lib.hid hnr
  have HA := Lib.hid ha
  have HRW := Lib.hid hraw
  have HS := Lib.hid S
  have HKQ := Lib.hid hkq
  have HKR := Lib.hid hkr
  clear hna hnr ha hraw S hkq hkr
  go_enter Try.func4, Try.ntmps4
  go_wp2_with fail
  refine (shown3_sep HS.out).mono ?_
  rintro e w1 ⟨rfl, S1⟩
  have HS1 := Lib.hid S1
  clear S1 HS
  go_upto_if 32 with (fail)
  go_cut [10] from 33 to 35 (fun fv wx => ∃ f : Nat, 1 ≤ f ∧ f ≤ lastN + 10 ∧ fv = .int .u64 (f : Int) ∧ Sep wx [oldA w])
  case first =>
    by_cases h255 : tu = 255
    · subst h255
      go_wp2
      go_meet
      obtain ⟨f, g1, g2, g3⟩ := ffirst h77
      exact ⟨f, g1, g2, by rw [g3], HS1.out⟩
    · have h2 : (tu == 255) = false := by simpa using h255
      clear h255
      go_wp2
      go_meet
      exact ⟨1 + k7, by omega, fsmall h77, by go_num, HS1.out⟩
  case rest =>
    obtain ⟨f, hf1, hf2, rfl, S⟩ := hcut
    have HS2 := Lib.hid S
    have HF2 := Lib.hid hf2
    have c1 := fun (w : World) => refBegin f (f : Int) w rfl (f64 HF2.out)
    obtain ⟨s0, hs0⟩ : ∃ s0 : ByteArray, s0 = ⟨(pic f startN []).toArray⟩ := ⟨_, rfl⟩
    rw [← hs0] at c1
    have C1 := Lib.hid c1
    have HS0 := Lib.hid hs0
    clear S c1 hs0 hf2 HS1
    go_wp2_with fail
    refine (C1.out _).mono ?_
    rintro e w2 ⟨rfl, b2⟩
    have HS3 := Lib.hid (HS2.out.below b2)
    clear b2 HS2
    go_upto_block 0 with fail
    go_cut [11, 12] from 38 to 66 (fun sv i wx => ∃ l : List UInt8, l.length ≤ 7000 ∧ sv = .string ⟨l.toArray⟩ ∧ Sep wx [oldA w])
    case first =>
      go_wp2_with fail
      go_loopw [11, 12] (fun sv i wr => ∃ (k : Nat) (l : List UInt8), k ≤ na ∧ k ≤ 4 ∧ l.length ≤ 512 + 1536 * k ∧ sv = .string ⟨l.toArray⟩ ∧ i = .int .i64 (k : Int) ∧ Sep wr [oldA w]) (fun _ i _ => na - (intOf i).toNat)
      case atStart => exact ⟨0, pic f startN [], Nat.zero_le _, Nat.zero_le _, by rw [begin_len]; omega, by rw [HS0.out], rfl, HS3.out⟩
      case round =>
        obtain ⟨k, l, hk, hk8, hll, rfl, rfl, Sr⟩ := hrel
        by_cases hlt : k < na ∧ k < 4
        · obtain ⟨hlt1, hlt8⟩ := hlt
          have hlt8i : (k : Int) < 4 := by omega
          have hk1 : (k : Int) < (na : Int) := by omega
          have hk0 : (0 : Int) ≤ (k : Int) := by omega
          obtain ⟨ab, ao, rfl, hc⟩ := HA.out k (by have := HNA.out; omega)
          obtain ⟨x, hx⟩ : ∃ x, x = la.getD k ByteArray.empty := ⟨_, rfl⟩
          rw [← hx] at hc
          have hcr := Sr.arg hc
          have Hc := Lib.hid hc
          have HSr := Lib.hid Sr.drew
          obtain ⟨nc, hmin, hn1, hn2, hn3, hn4, hn5⟩ := cut_string x 600
          have hmin' : (if (600 : Int) < (x.size : Int) then (600 : Int) else (x.size : Int)) = (nc : Int) := hmin
          have hn1' : (nc : Int) ≤ 600 := by omega
          have hn2' : (nc : Int) ≤ (x.size : Int) := by omega
          have hn0' : (0 : Int) ≤ (nc : Int) := by omega
          obtain ⟨t, ht⟩ : ∃ t, t = x.data.toList.take 600 := ⟨_, rfl⟩
          rw [← ht] at hn3 hn4
          have hsl := slice_cut x nc t hn4 hn2
          obtain ⟨f1, hf1'⟩ : ∃ f1 : Nat, f1 = f + 1 := ⟨_, rfl⟩
          obtain ⟨f2, hf2'⟩ : ∃ f2 : Nat, f2 = f1 + k := ⟨_, rfl⟩
          obtain ⟨q1, q2, q3, q4⟩ := fwrap HF2.out (show k ≤ 10 by omega) hf1' hf2'
          have c1 := fun (w : World) => refRecord f2 (f2 : Int) t w rfl q4 (by omega)
          obtain ⟨pp, hpp⟩ : ∃ pp : ByteArray, pp = ⟨(pic f2 t.length t).toArray⟩ := ⟨_, rfl⟩
          obtain ⟨s1, hs1⟩ : ∃ s1 : ByteArray, s1 = ⟨l.toArray⟩ := ⟨_, rfl⟩
          have hpl : (pic f2 t.length t).length ≤ 1536 := by rw [pic_len]; omega
          have hps : pp.size = (pic f2 t.length t).length := by rw [hpp]; rfl
          have hss : s1.size = l.length := by rw [hs1]; rfl
          have hcat : ¬ (9223372036854775807 < s1.size + pp.size) := by omega
          have hadd : s1 ++ pp = ⟨(l ++ pic f2 t.length t).toArray⟩ := by rw [hs1, hpp, cat_string]
          rw [← hpp] at c1
          rw [← hs1]
          have C1 := Lib.hid c1
          have HADD := Lib.hid hadd
          have HPL := Lib.hid hpl
          have HLL := Lib.hid hll
          clear hc Sr hx hmin hn1 hn2 hn3 hn4 hn5 ht hf1' hf2' q4 c1 hpp hs1 hpl hps hss hadd hll hf1
          go_wp2_with fail
          go_region_held (fun w' => w'.cell? ⟨ab, ao + k, none⟩ = some (.string x)) (first | assumption | exact hcr)
            ((go_at_call 15; refine (C1.out _).mono ?_; rintro e w3 ⟨rfl, b3⟩; have hca := (HSr.out.below b3).arg Hc.out))
          have HS4 := Lib.hid (HSr.out.below b3)
          clear b3 hca hcr
          go_wp2
          go_roundw
          case rel => exact ⟨k + 1, l ++ pic f2 t.length t, by omega, by omega, by rw [List.length_append]; have := HPL.out; have := HLL.out; omega, by rw [HADD.out], by go_num, HS4.out⟩
          case measure => simp [intOf]; omega
        · have HSr := Lib.hid Sr
          clear Sr
          by_cases hkl : k < na
          · have hk50 : ¬ (k : Int) < 4 := by omega
            have hk51 : (k : Int) < (na : Int) := by omega
            clear hlt
            go_wp2_with fail
            go_meet
            exact ⟨l, by omega, rfl, HSr.out⟩
          · have hkl' : ¬ (k : Int) < (na : Int) := by omega
            clear hlt
            go_wp2_with fail
            go_meet
            exact ⟨l, by omega, rfl, HSr.out⟩
    case rest =>
      obtain ⟨l1, hl1, rfl, S⟩ := hcut
      have HS4 := Lib.hid S
      clear S HS3 HS0 C1 HF2 HA HNA
      go_upto_if 68 with (fail)
      go_cut [3] (fun tv wx => ∃ c : Int, 0 ≤ c ∧ c ≤ 255 ∧ tv = .int .u8 c ∧ Sep wx [oldA w])
      case first =>
        by_cases h255 : tu = 255
        · subst h255
          go_wp2
          go_meet
          exact ⟨0, by omega, by omega, rfl, HS4.out⟩
        · have h2 : (tu == 255) = false := by simpa using h255
          clear h255
          go_wp2
          go_meet
          exact ⟨tu, ht0, ht1, rfl, HS4.out⟩
      case rest =>
        obtain ⟨c, hc0, hc1, rfl, S⟩ := hcut
        have HS5 := Lib.hid S
        clear S HS4
        go_upto_if 71 with (fail)
        go_cut [11] (fun sv wx => ∃ l : List UInt8, l.length ≤ 7000 ∧ sv = .string ⟨l.toArray⟩ ∧ Sep wx [oldA w])
        case first =>
          by_cases hn0 : 0 < nr
          · have hn0' : (0 : Int) < (nr : Int) := by omega
            obtain ⟨nm, hnm⟩ : ∃ nm, nm = min 2000 nr := ⟨_, rfl⟩
            have hmin : (if (2000 : Int) < (nr : Int) then (2000 : Int) else (nr : Int)) = (nm : Int) := by split <;> omega
            have hsl := slice_head ra nr rc nm (by omega) (by omega)
            have hbt := (HRW.out.below HS5.out.old).take nm
            have hbl : (raw.take nm).length = nm := by rw [List.length_take]; have := HNR.out; omega
            have tr := run_string hbt nm rc hbl
            clear hbt hnm hbl
            go_wp2
            go_meet
            exact ⟨raw.take nm, by rw [List.length_take]; have := HNR.out; omega, rfl, HS5.out⟩
          · have hn0' : ¬ (0 : Int) < (nr : Int) := by omega
            go_wp2
            go_meet
            exact ⟨l1, hl1, rfl, HS5.out⟩
        case rest =>
          obtain ⟨l2, hl2, rfl, S⟩ := hcut
          obtain ⟨n2, hn2⟩ : ∃ n2, n2 = l2.length := ⟨_, rfl⟩
          have hcv := conv_list l2 n2 hn2.symm
          obtain ⟨S6, hge⟩ := conv_list_raw S l2 n2 hn2.symm
          obtain ⟨w3, hw3⟩ := named3 S
          rw [← hw3] at S6 hge
          have hS6l : (l2 ++ List.replicate (grownCap w3 n2 0 5 - n2) 0).length = grownCap w3 n2 0 5 := by rw [List.length_append, List.length_replicate]; omega
          have HS6 := Lib.hid S6
          have HGE := Lib.hid hge
          have HL6 := Lib.hid hS6l
          have hn27 : n2 ≤ 7000 := by omega
          rw [← hw3]
          clear S S6 hge hS6l hw3 hn2 hl2 HS5
          go_wp2_with (at_builtin; refine wpList_append_raw rfl (.tmp 79) _ rfl HS6.out n2 _ 4096 rfl rfl HL6.out HGE.out (by omega) (by omega) ?next)
          case next =>
            intro g l3 w4 h1 h2 S7
            have h3 : 4096 ≤ l3.length := by omega
            have hsl : ∀ W, (Instr.sliceAt 33 (.slice (some ⟨g, 0, none⟩) (n2 + 4096) l3.length) none (some (.int .i64 4096)) none).run Try.prog W = .ok (.slice (some ⟨g, 0, none⟩) 4096 l3.length) W := slice_head _ _ _ 4096 h3 (by omega)
            have hkq := HKQ.out
            have hkr := HKR.out
            have hcell := S7.raw_cell kr (by omega)
            have hfree := S7.raw_free kr (by omega)
            obtain ⟨x, hx⟩ : ∃ x : UInt8, x = l3.getD kr 0 := ⟨_, rfl⟩
            rw [← hx] at hcell
            obtain ⟨y, hy⟩ := xor_u8 (x.toNat : Int) c
            have S8 := S7.raw_set kr y
            obtain ⟨l4, hl4⟩ : ∃ l4, l4 = l3.set kr y := ⟨_, rfl⟩
            obtain ⟨lc, hlc⟩ : ∃ lc, lc = l3.length := ⟨_, rfl⟩
            have h4l : l4.length = lc := by rw [hl4, List.length_set, hlc]
            rw [← hl4] at S8
            rw [← hlc] at hsl h3
            rw [← hlc]
            have hlc4 : 4096 ≤ lc := h3
            have H4L := Lib.hid h4l
            have HS8 := Lib.hid S8
            clear h1 h2 h3 hx hl4 hlc h4l S7 S8 HS6 HGE HL6 hcv
            go_wp2_with fail
            refine (new_sep HS8.out 8 8 rfl (by omega) (by omega)).mono ?_
            rintro e w5 ⟨p, rfl, S9⟩
            obtain ⟨B, hB⟩ : ∃ B, B = l4.take 4096 := ⟨_, rfl⟩
            have hBl : B.length = 4096 := by rw [hB, List.length_take, H4L.out]; omega
            have HB := Lib.hid hB
            have HBL := Lib.hid hBl
            have HS9 := Lib.hid S9
            clear hB hBl S9 HS8 hcell hfree hy hsl hkq hkr
            go_wp2_with fail
            go_loopw [17] (fun i wr => ∃ (k : Nat) (D : Dk), k ≤ 8 ∧ i = .int .i64 (k : Int) ∧ Sep wr [diskA p D, rawA g l4, oldA w] ∧ Hid (Eight D k B)) (fun i _ => 8 - (intOf i).toNat)
            case atStart => exact ⟨0, _, Nat.zero_le _, rfl, HS9.out, Lib.hid ⟨Calm.new 8, fun i hi => by omega⟩⟩
            case round =>
              obtain ⟨k, D, hk, rfl, Sr, HE⟩ := hrel
              by_cases hlt : k < 8
              · have hlt1 : (k : Int) < 8 := by omega
                have hk0 : (0 : Int) ≤ (k : Int) := by omega
                have hsr := slice_row g 4096 lc (512 * k) (512 * k + 512) (512 * (k : Int)) (512 * (k : Int) + 512) (by omega) (by omega) (by omega) (by omega) (by omega)
                rw [show 512 * k + 512 - 512 * k = 512 by omega] at hsr
                have hbt := Sr.up1.raw_reads (512 * k) 512 (by rw [H4L.out]; omega)
                have hbb : (l4.drop (512 * k)).take 512 = (B.drop (512 * k)).take 512 := by rw [HB.out, drop_take_take _ (by omega)]
                rw [hbb] at hbt
                have hbl : ((B.drop (512 * k)).take 512).length = 512 := by rw [List.length_take, List.length_drop, HBL.out]; omega
                have hcold := Sr.up1.raw_cold
                have HBT := Lib.hid hbt
                have HBBL := Lib.hid hbl
                have HCOLD := Lib.hid hcold
                have HSr := Lib.hid Sr
                clear hbt hbb hbl hcold Sr
                go_wp2_with fail
                refine (write_sep HSr.out k _ rfl _ _ _ (by rw [HE.out.1.len]; exact hlt) HBT.out HBBL.out (fun g' o' e => by cases e; exact HCOLD.out) (by have := HE.out.1.fwaits; omega)).mono ?_
                rw [HE.out.1.rd]
                rintro e w6 ⟨rfl, S10, -⟩
                have HS10 := Lib.hid S10
                clear S10
                go_wp2
                go_roundw
                case rel => exact ⟨k + 1, _, by omega, by go_num, HS10.out, Lib.hid (eight_write HE.out)⟩
                case measure => simp [intOf]; omega
              · obtain rfl : k = 8 := by omega
                have ar := eight_area HE.out HBL.out
                have hbt := (Sr.up1.raw_reads 0 4096 (by rw [H4L.out]; omega))
                rw [List.drop_zero, ← HB.out] at hbt
                have HSr := Lib.hid Sr
                clear Sr hbt HS9
                cases hrb : replB B with
                | none =>
                  obtain ⟨D9, o1, o2⟩ := open_none HE.out.1 ar (by omega) hrb
                  have HO := Lib.hid o1
                  have HLN := Lib.hid HE.out.1.len
                  have HRB := Lib.hid hrb
                  clear o1 o2 hrb ar
                  go_wp2_with fail
                  refine (open_sep HSr.out 0 8 _ _ rfl rfl (by omega) (by omega) (by rw [HLN.out]; omega)).mono ?_
                  rw [HO.out]
                  rintro e w6 ⟨rfl, S10⟩
                  have hbt := (S10.up1.raw_reads 0 4096 (by rw [H4L.out]; omega))
                  rw [List.drop_zero, ← HB.out] at hbt
                  have tr := run_string hbt 4096 lc HBL.out
                  have HS10 := Lib.hid S10
                  clear S10 hbt HSr
                  go_wp2_with fail
                  refine (refReplay _ _ HS10.out B 8 (by rw [HBL.out]) (by omega) (by omega)).mono ?_
                  rw [HRB.out]
                  rintro e w7 ⟨rfl, S11⟩
                  have HS11 := Lib.hid S11.drop.drop
                  clear S11 HS10
                  go_wp2
                  go_ret
                  exact ⟨rfl, HS11.out⟩
                | some X =>
                  obtain ⟨l, nn, u⟩ := X
                  obtain ⟨D9, o1, o2, o3, o4, -, -, -⟩ := open_some HE.out.1 ar (by omega) hrb
                  have HO := Lib.hid o1
                  have HLN := Lib.hid HE.out.1.len
                  have HRB := Lib.hid hrb
                  clear o1 o2 hrb ar
                  obtain ⟨nl, hnl⟩ : ∃ nl, nl = l.length := ⟨_, rfl⟩
                  have HNL := Lib.hid hnl.symm
                  have hu0 : (1 : Int) ≤ (u : Int) := by omega
                  have hu1 : (u : Int) ≤ 8 := by omega
                  obtain ⟨r, hr⟩ : ∃ r, r = roomJ ⟨0, 8, u, nn, false⟩ := ⟨_, rfl⟩
                  have hR : (if (-1 : Int) < 512 * (8 - (u : Int)) - 16 then 512 * (8 - (u : Int)) - 16 else -1) = r := by rw [hr]; unfold roomJ; dsimp only; split <;> omega
                  have HR := Lib.hid hr.symm
                  have hjs : (⟨0, 8, u, nn, false⟩ : Jn).size ≤ 4096 ∧ (⟨0, 8, u, nn, false⟩ : Jn).used ≤ (⟨0, 8, u, nn, false⟩ : Jn).size := ⟨by show 8 ≤ 4096; omega, o4⟩
                  have HJ := Lib.hid hjs
                  clear hnl hr hjs o3 o4
                  go_wp2_with fail
                  refine (open_sep HSr.out 0 8 _ _ rfl rfl (by omega) (by omega) (by rw [HLN.out]; omega)).mono ?_
                  rw [HO.out]
                  rintro e w6 ⟨q2, v, rs, rfl, hl, hok, ⟨ra2, rcap, rfl⟩, S10⟩
                  have hrl2 : rs.length = nl := by rw [← HNL.out, ← hl, List.length_map]
                  rw [hrl2]
                  rw [hrl2] at S10
                  have hbt := (S10.up3.raw_reads 0 4096 (by rw [H4L.out]; omega))
                  rw [List.drop_zero, ← HB.out] at hbt
                  have tr := run_string hbt 4096 lc HBL.out
                  have HS10 := Lib.hid S10
                  have HL := Lib.hid hl
                  have HOK := Lib.hid hok
                  have HRL := Lib.hid hrl2
                  clear S10 hbt HSr hl hok hrl2
                  go_wp2_with fail
                  refine (refReplay _ _ HS10.out B 8 (by rw [HBL.out]) (by omega) (by omega)).mono ?_
                  rw [HRB.out]
                  rintro e w7 ⟨a7, c7, rfl, S11⟩
                  rw [HNL.out] at S11 ⊢
                  have HS11 := Lib.hid S11
                  clear S11 HS10 tr
                  go_wp2_with fail
                  refine (next_sep HS11.out.up1).mono ?_
                  rintro e w8 ⟨rfl, rfl⟩
                  go_wp2_with fail
                  refine (room_sep HS11.out.up1 HJ.out.1 HJ.out.2).mono ?_
                  rw [HR.out]
                  rintro e w9 ⟨rfl, rfl⟩
                  have HS12 := Lib.hid HS11.out.drew
                  clear HS11
                  go_wp2_with fail
                  have hnlb : (nl : Int) ≤ 9223372036854775807 := by
                    obtain ⟨_, _, _, h1, h2⟩ := ownsRow_slice HS12.out.own
                    unfold maxLen at h2
                    omega
                  go_loopw [25] (fun i wr => ∃ i' : Nat, i' ≤ nl ∧ i = .int .i64 (i' : Int) ∧ Sep wr [ownA 9 1 (.slice a7 nl c7) nl (strs l), jnA q2 p ⟨0, 8, u, nn, false⟩, recsA (.slice ra2 nl rcap) rs, diskA p D9, rawA g l4, oldA w]) (fun i _ => nl - (intOf i).toNat)
                  case atStart => exact ⟨0, Nat.zero_le _, rfl, HS12.out⟩
                  case round =>
                    obtain ⟨i, hi, rfl, Sr⟩ := hrel
                    by_cases hlt : i < nl
                    · have hlt1 : (i : Int) < (nl : Int) := by omega
                      have hi0 : (0 : Int) ≤ (i : Int) := by omega
                      obtain ⟨r, hr⟩ : ∃ r, rs[i]? = some r := ⟨rs[i]'(by rw [HRL.out]; exact hlt), List.getElem?_eq_getElem _⟩
                      obtain ⟨g3, rfl, hgc, hgb, hgl⟩ := recs_at Sr.up2 HOK.out i r hr
                      have hrx : l[i]? = some r.bytes := by rw [← HL.out, List.getElem?_map, hr]; rfl
                      obtain ⟨g2, rfl, hsc⟩ := strs_cell Sr HNL.out i r.bytes hrx
                      obtain ⟨t, ht⟩ : ∃ t, t = r.bytes := ⟨_, rfl⟩
                      rw [← ht] at hgb hgl hsc
                      have tr : ∀ W', Below wr.heap.size wr W' → (convert 33 9 (.slice (some ⟨r.g, 16, none⟩) r.n (r.cap - 16))).run Try.prog W' = .ok (.string ⟨t.toArray⟩) W' := fun W' h => run_string (hgb.below h) r.n _ hgl
                      have HSr := Lib.hid Sr
                      clear hr hrx hgb hgl ht Sr
                      go_wp2_with fail
                      go_region_held (fun w' => Below wr.heap.size wr w' ∧ w'.cell? ⟨g2, i, none⟩ = some (.string ⟨t.toArray⟩) ∧ w'.cell? ⟨g3, i, none⟩ = some (.slice (some ⟨r.g, 16, none⟩) r.n (r.cap - 16))) (first | exact ⟨(Below.refl _ _).drew, hsc, hgc⟩ | exact ⟨Below.refl _ _, hsc, hgc⟩) (fail)
                      have HS13 := Lib.hid HSr.out.drew
                      go_wp2
                      go_roundw
                      case rel => exact ⟨i + 1, by omega, by go_num, HS13.out⟩
                      case measure => simp [intOf]; omega
                    · have hlt1 : ¬ (i : Int) < (nl : Int) := by omega
                      have HS13 := Lib.hid Sr.drop.drop.drop.drop.drop
                      clear Sr
                      go_wp2
                      go_ret
                      exact ⟨rfl, HS13.out⟩
theorem JournalReads_walk (W : World) (ra : Option Addr) (raw : List UInt8) (rc : Nat) (a : Option Addr) (la : List ByteArray) (ca : Nat) (at_ tu : Int) (hraw : BytesAt W ra raw) (hrl : raw.length ≤ rc) (hrm : rc ≤ 9223372036854775807) (ha : StrsAt W a la) (hla : la.length ≤ 9223372036854775807) (ht0 : 0 ≤ tu) (ht1 : tu ≤ 255) :
    Calls Try.prog 4 #[.slice ra raw.length rc, .slice a la.length ca, .int .i64 at_, .int .u8 tu] W fun e w' => e = .returned (.bool true) ∧ Below W.heap.size W w' := by
  obtain ⟨k7, h7, hk7⟩ := and_i64 at_ 7 (by omega)
  obtain ⟨kq, hq, hkq⟩ := and_i64 at_ 16777215 (by omega)
  exact (reads_walk W _ (Sep.start W) ra raw rc hraw hrl (by omega) a la ca ha hla at_ tu ht0 ht1 rfl k7 kq (kq % 4096) hk7 h7 hkq (by omega)).mono fun e w' h => ⟨h.1, h.2.fin⟩
end Go.Proofs.Ytoihfamiclbffaa
