/- StoreCrash: the walk. -/
import Derived.Test.YtnekelndcpmonaaStR
import Derived.Test.YtnekelndcpmonaaOpenT
import Derived.Test.YtnekelndcpmonaaRefA
import Derived.Deep.RegionHeld
set_option linter.all false
namespace Go.Proofs.Ytnekelndcpmonaa
open Go.RowKit
set_option linter.unusedVariables false
set_option linter.unusedSimpArgs false

theorem text_below (n : Nat) (c : UInt8) (Nn C : Int) (hN : Nn = (n : Int)) (hC : C = (c.toNat : Int)) (hn : n ≤ 100000) (W : World) :
    Calls Try.prog 14 #[.int .i64 Nn, .int .u8 C] W fun e w' => e = .returned (.string ⟨(List.replicate n c).toArray⟩) ∧ Below W.heap.size W w' :=
  (text_sep (Sep.start W) n c Nn C hN hC hn).mono fun e w' h => ⟨h.1, h.2.fin⟩
theorem bools_take {w : World} {a : Option Addr} {l : List Bool} (h : BoolsAt w a l) (m : Nat) : BoolsAt w a (l.take m) := fun i hi => by
  have h1 := hi
  rw [List.length_take] at hi
  obtain ⟨b, o, e, hc⟩ := h i (by omega)
  refine ⟨b, o, e, ?_⟩
  rw [hc]
  simp [List.getD, List.getElem?_take, show i < m by omega]
theorem keepAlloc {a : World} {L : List Asn} {p : Addr} {v : Value} {c : Array Value} {t : TypeId} (h : Sep a L ∧ a.cell? p = some v) : Sep (a.alloc (.cells c t)) L ∧ (a.alloc (.cells c t)).cell? p = some v :=
  ⟨(h.1.alloc c t).drop, by rw [World.cell?_alloc_lt _ _ _ (World.block_lt_of_cell? _ _ h.2)]; exact h.2⟩
theorem keepCall {a b : World} {L : List Asn} {p : Addr} {v : Value} (hb : Below a.heap.size a b) (h : Sep a L ∧ a.cell? p = some v) : Sep b L ∧ b.cell? p = some v :=
  ⟨h.1.below hb, (hb.cell (World.block_lt_of_cell? _ _ h.2)).trans h.2⟩
theorem sepOf {a : World} {L : List Asn} {p : Addr} {v : Value} (h : Sep a L ∧ a.cell? p = some v) : Sep a L := h.1
theorem kept_neg {o0 o1 : Option (Nat × List UInt8)} (h : ¬ 0 ≤ (kept o0 o1).1) : kept o0 o1 = (-1, 0, []) := by
  cases o0 with
  | none => cases o1 with
    | none => rfl
    | some y => exact absurd (by show (0 : Int) ≤ 1; decide) h
  | some x => cases o1 with
    | none => exact absurd (by show (0 : Int) ≤ 0; decide) h
    | some y =>
      refine absurd ?_ h
      show (0 : Int) ≤ (if x.1 < y.1 then ((1 : Int), y.1, y.2) else (0, x.1, x.2)).1
      split
      · show (0 : Int) ≤ 1; decide
      · show (0 : Int) ≤ 0; decide
/-- Load, of what is kept or of nothing. -/
theorem sLoad_any {w : World} {R : List Asn} {p sp z b m0 m1 : Nat} {s : Sto} {o0 o1 : Option (Nat × List UInt8)} (S : Sep w (storeA sp p s :: R)) (h : CrS s z b m0 m1 o0 o1) (y : List UInt8) (yn : Nat) (hy : (kept o0 o1).2.2 = y) (hl : y.length = yn) (hyn : yn ≤ 700) (full : 0 ≤ (kept o0 o1).1 → (kept o0 o1).2.2 ≠ []) :
    Calls Try.prog 18 #[.pointer (some ⟨sp, 0, none⟩)] w fun e w' => ∃ g cap gv, e = .returned (.tuple #[.slice g yn cap, .int .i64 gv]) ∧ (gv = 0 ∧ y ≠ [] ∨ gv = 3 ∧ y = []) ∧ Sep w' (bytesA (.slice g yn cap) yn y :: storeA sp p s :: R) := by
  have hk := h.kept
  have i1 : s.is = (kept o0 o1).1 := congrArg (·.1) hk
  have i3 : s.thing = y := (congrArg (·.2.2) hk).trans hy
  by_cases h0 : 0 ≤ (kept o0 o1).1
  · have hc := sLoad_sep S h.broken (by rw [i1]; exact h0) (by rw [i3]; omega)
    rw [i3, hl] at hc
    exact hc.mono fun e w' ⟨g, cap, he, hS⟩ => ⟨g, cap, 0, he, .inl ⟨rfl, by rw [← hy]; exact full h0⟩, hS⟩
  · have hn := kept_neg h0
    have hy0 : y = [] := by rw [← hy, hn]
    subst hy0
    subst hl
    refine (sLoad_none S h.broken (by rw [i1, hn])).mono fun e w' ⟨he, hw⟩ => ?_
    subst hw
    exact ⟨none, 0, 3, he, .inr ⟨rfl, rfl⟩, S.nilOwn 5 1⟩
theorem own_str {w : World} {R : List Asn} {g : Nat} {tx : ByteArray} {t : List UInt8} (h : Sep w (blkA g #[.string tx] 9 :: R)) (e : tx = ⟨t.toArray⟩) : Sep w (ownA 9 1 (.slice (some ⟨g, 0, none⟩) 1 1) 1 (strs [t]) :: R) := by
  subst e
  exact own_one h
theorem take_next {L : List (List UInt8)} {j : Nat} {x : List UInt8} (y : List UInt8) (hx : L[j]? = some x) : decide (y ∈ L.take (j + 1)) = (decide (y ∈ L.take j) || decide (x = y)) := by
  rw [List.take_add_one, hx]
  by_cases h1 : y ∈ L.take j
  · simp [h1]
  · by_cases h2 : x = y
    · simp [h2]
    · have h3 : ¬ y = x := fun e => h2 e.symm
      simp [h1, h2, h3]
/-- What holds at the head of the great loop. -/
structure HeadC (D : Dk) (s : Sto) (V : List (List UInt8)) (n z k m0 m1 : Nat) (o0 o1 : Option (Nat × List UInt8)) : Prop where
  idle : Idle D V
  armed : D.armed = none
  cr : CrI V n z (2 + 300 * k) o0 o1 m0 m1
  st : CrS s z (2 + 300 * k) m0 m1 o0 o1
  full : 0 ≤ (kept o0 o1).1 → (kept o0 o1).2.2 ≠ []
theorem CrS.mono {s : Sto} {z b b' m0 m1 : Nat} {o0 o1 : Option (Nat × List UInt8)} (h : CrS s z b m0 m1 o0 o1) (hb : b ≤ b') : CrS s z b' m0 m1 o0 o1 := by
  obtain ⟨u0, x0, e0, f0, g0⟩ := h.j0
  obtain ⟨u1, x1, e1, f1, g1⟩ := h.j1
  exact ⟨h.size, h.broken, ⟨u0, x0, e0, f0, by omega⟩, ⟨u1, x1, e1, f1, by omega⟩, h.kept⟩

set_option maxRecDepth 100000 in
set_option maxHeartbeats 8000000 in
theorem crash_walk (w : World) (R : List Asn) (S : Sep w R) (nn ag : Int) (a : Option Addr) (la : List TryD) (ca : Nat) (ha : TriesAt w a la) (hla : la.length ≤ 9223372036854775807) (hR : R = [oldA w]) (k7 n z k1 k2 : Nat) (hk : Go.bits .and .i64 nn 7 = (k7 : Int)) (hk7 : k7 ≤ 7) (hn : n = 6 + k7) (hz : z = n / 2)
    (hk1 : Go.bits .and .i64 ag 1 = (k1 : Int)) (hk11 : k1 ≤ 1) (hk2 : Go.bits .and .i64 (ag / 2) 7 = (k2 : Int)) (hk27 : k2 ≤ 7) :
    Calls Try.prog 9 #[.int .i64 nn, .slice a la.length ca, .int .i64 ag] w fun e w' => e = .returned (.bool true) ∧ Sep w' R := by
  subst hR
  obtain ⟨na, hna⟩ : ∃ na, na = la.length := ⟨_, rfl⟩
  rw [← hna]
  rw [← hna] at hla
  have hn6 : (6 : Int) + (k7 : Int) = (n : Int) := by omega
  have hn0 : (0 : Int) ≤ (n : Int) := by omega
  have hnb : (n : Int) ≤ 13 := by omega
  have HN : Hid (6 ≤ n ∧ n ≤ 13 ∧ z = n / 2) := Lib.hid (by omega)
  have HNA := Lib.hid hna
  have HA := Lib.hid ha
  have HS := Lib.hid S
  have HK1 := Lib.hid hk1
  have HK2 := Lib.hid hk2
  have HK27 := Lib.hid hk27
  clear hna ha S hn hz hk1 hk2 hk27
  go_enter Try.func9, Try.ntmps9
  go_wp2_with fail
  refine (shown4_sep HS.out).mono ?_
  rintro e w1 ⟨rfl, S1⟩
  have HS1 := Lib.hid S1
  clear S1
  go_wp2_with fail
  refine (new_sep HS1.out n (n : Int) rfl (by have := HN.out; omega) (by have := HN.out; omega)).mono ?_
  rintro e w2 ⟨p, rfl, S2⟩
  have HS2 := Lib.hid S2
  clear S2
  go_wp2_with fail
  refine (kFormat HS2.out (Same.refl _) HN.out.2.2 (by have := HN.out.1; omega) (by have := HN.out.2.1; omega)).mono ?_
  rintro e w3 ⟨sp0, rfl, D3, I3, S3⟩
  obtain ⟨f1, f2, f3, f4⟩ := cr_first I3 (by have := HN.out; omega) rfl
  have HF : Hid (HeadC D3 (stoNew z (jOf 0 z 1 []) (jOf z z 1 [])) D3.secs n z 0 1 1 none none) := Lib.hid ⟨f1, f2, f3, f4, fun h => absurd h (by show ¬ ((0 : Int) ≤ -1); decide)⟩
  have HS3 := Lib.hid S3
  clear S3 I3 f1 f2 f3 f4 HS1 HS2
  go_wp2_with fail
  clear hk hn6
  go_loopw [10, 12, 13] (fun sv mv iv wr => ∃ (k : Nat) (D : Dk) (s : Sto) (sp : Nat) (V : List (List UInt8)) (o0 o1 : Option (Nat × List UInt8)) (m0 m1 : Nat) (ma : Option Addr) (mc : Nat), k ≤ na ∧ k ≤ 20 ∧ sv = .pointer (some ⟨sp, 0, none⟩) ∧ mv = .slice ma 1 mc ∧ iv = .int .i64 (k : Int) ∧ Sep wr [ownA 9 1 (.slice ma 1 mc) 1 (strs [(kept o0 o1).2.2]), storeA sp p s, diskA p D, oldA w] ∧ Hid (HeadC D s V n z k m0 m1 o0 o1)) (fun _ _ iv _ => na - (intOf iv).toNat)
  case atStart => exact ⟨0, D3, _, sp0, _, none, none, 1, 1, _, _, Nat.zero_le _, Nat.zero_le _, rfl, rfl, rfl, own_one (HS3.out.alloc _ _), HF⟩
  case round =>
    obtain ⟨k, D, s, sp, V, o0, o1, m0, m1, ma, mc, hkn, hk20, rfl, rfl, rfl, Sr, HI⟩ := hrel
    by_cases hlt : k < na ∧ k < 20
    · obtain ⟨hlt1, hlt2⟩ := hlt
      have hl1 : (k : Int) < (na : Int) := by omega
      have hl2 : (k : Int) < 20 := by omega
      have hk0 : (0 : Int) ≤ (k : Int) := by omega
      obtain ⟨ab, ao, rfl, hT⟩ := HA.out k (by rw [← HNA.out]; exact hlt1)
      obtain ⟨x, hxe⟩ : ∃ x, x = la.getD k tryN := ⟨_, rfl⟩
      rw [← hxe] at hT
      have HT := Lib.hid hT
      have habl := World.block_lt_of_cell? _ _ hT.n
      have hwsz : w.heap.size ≤ wr.heap.size := Sr.up3.old.size
      have hlt3 : ab < wr.heap.size := Nat.lt_of_lt_of_le habl hwsz
      have hcN := Sr.up3.arg hT.n
      obtain ⟨kk, sz, hkk, hsz, hsz5, hkk0⟩ := and_500 x.n 600 (by omega)
      obtain ⟨c, hc⟩ : ∃ c, c = UInt8.ofNat k := ⟨_, rfl⟩
      have hcv : ((c.toNat : Nat) : Int) = (k : Int) := by rw [hc]; exact low8 k (by omega)
      obtain ⟨d, hd⟩ : ∃ d, d = UInt8.ofNat (97 + k) := ⟨_, rfl⟩
      have hdv : ((d.toNat : Nat) : Int) = 97 + (k : Int) := by rw [hd, low8 (97 + k) (by omega)]; omega
      obtain ⟨t, ht⟩ : ∃ t, t = d :: List.replicate sz c := ⟨_, rfl⟩
      obtain ⟨tn, htn⟩ : ∃ tn, tn = t.length := ⟨_, rfl⟩
      have htl : t.length ≤ 600 := by rw [ht, List.length_cons, List.length_replicate]; omega
      have hte : t ≠ [] := by rw [ht]; exact List.cons_ne_nil _ _
      obtain ⟨sx, hsx⟩ : ∃ sx : ByteArray, sx = ⟨(List.replicate sz c).toArray⟩ := ⟨_, rfl⟩
      obtain ⟨tx, htx⟩ : ∃ tx : ByteArray, tx = ⟨t.toArray⟩ := ⟨_, rfl⟩
      have hct := text_below sz c ((kk : Int) % 600) (k : Int) hsz hcv.symm (by omega)
      rw [← hsx] at hct
      have hcat : (⟨#[d]⟩ : ByteArray) ++ sx = tx := by rw [hsx, htx, ht]; exact cat_string [d] _
      have hsxs : sx.size = sz := by rw [hsx]; exact List.length_replicate ..
      have hds : (⟨#[d]⟩ : ByteArray).size = 1 := rfl
      have hbig : ¬ (9223372036854775807 < 1 + sx.size) := by omega
      have hbig2 : ¬ (9223372036854775807 < (⟨#[d]⟩ : ByteArray).size + sx.size) := by omega
      have tr := string_one d
      have w1 : IntKind.i64.wrap (97 + (k : Int)) = 97 + (k : Int) := by rw [IntKind.wrap_i64]; omega
      have w2 : IntKind.u8.wrap (97 + (k : Int)) = (d.toNat : Int) := by rw [IntKind.wrap_u8]; omega
      have w3 : IntKind.u8.wrap (k : Int) = (k : Int) := by rw [IntKind.wrap_u8]; omega
      have CT := Lib.hid hct
      have HSr := Lib.hid Sr
      have HTT : Hid (tx = ⟨t.toArray⟩ ∧ t.length = tn ∧ t.length ≤ 600 ∧ t ≠ []) := Lib.hid ⟨htx, htn.symm, htl, hte⟩
      clear hT hxe hc hd ht htl hte htx hsx hct hsxs Sr htn hwsz habl hdv hcv
      go_wp2_with fail
      go_cut [14] from 55 to 70 (fun tv wx => tv = .string tx ∧ Sep wx [ownA 9 1 (.slice ma 1 mc) 1 (strs [(kept o0 o1).2.2]), storeA sp p s, diskA p D, oldA w])
      case first =>
        have h00 : Sep wr.drew [ownA 9 1 (.slice ma 1 mc) 1 (strs [(kept o0 o1).2.2]), storeA sp p s, diskA p D, oldA w] ∧ wr.drew.cell? ⟨ab, ao + k * 3, none⟩ = some (.int .i64 x.n) := ⟨HSr.out.drew, hcN⟩
        go_region_held (fun w' => Sep w' [ownA 9 1 (.slice ma 1 mc) 1 (strs [(kept o0 o1).2.2]), storeA sp p s, diskA p D, oldA w] ∧ w'.cell? ⟨ab, ao + k * 3, none⟩ = some (.int .i64 x.n)) (first | (with_reducible assumption) | exact keepAlloc (by with_reducible assumption))
          ((go_at_call 14; refine (CT.out _).mono ?_; rintro e w4 ⟨rfl, hb4⟩; obtain ⟨bc, bf⟩ := bcell hb4; have hh := keepCall (p := ⟨ab, ao + k * 3, none⟩) (v := .int .i64 x.n) (L := [ownA 9 1 (.slice ma 1 mc) 1 (strs [(kept o0 o1).2.2]), storeA sp p s, diskA p D, oldA w]) hb4 (by first | (with_reducible assumption) | exact keepAlloc (by with_reducible assumption))))
        all_goals
          go_wp2_with fail
          go_meet
          exact ⟨rfl, sepOf (p := ⟨ab, ao + k * 3, none⟩) (v := .int .i64 x.n) (by first | (with_reducible assumption) | exact keepAlloc (by with_reducible assumption))⟩
      case rest =>
        obtain ⟨rfl, S⟩ := hcut
        have HS4 := Lib.hid S
        have hcA := S.up3.arg HT.out.at_
        clear S HSr hcN CT hcat hds hbig hbig2 tr w1 w2 w3 hkk hsz hkk0 hlt3
        go_upto_if 76 with (fail)
        go_cut [14] from 71 to 97 (fun tv wx => tv = .string tx ∧ ∃ D2, Idle D2 V ∧ Sep wx [ownA 9 1 (.slice ma 1 mc) 1 (strs [(kept o0 o1).2.2]), storeA sp p s, diskA p D2, oldA w])
        case first =>
          by_cases hat : 0 ≤ x.at_
          · obtain ⟨k15, h15, hk15⟩ := and_i64 x.at_ 15 (by omega)
            have hcK := HS4.out.up3.arg HT.out.keep
            have HCAP := Lib.hid HT.out.cap
            have HBO := Lib.hid HT.out.bools
            replace hk15 : Go.bits .and .i64 x.at_ 15 = (k15 : Int) := hk15
            have hk150 : (0 : Int) ≤ (k15 : Int) := by omega
            obtain ⟨kn, hkn⟩ : ∃ kn, kn = x.keep.length := ⟨_, rfl⟩
            obtain ⟨m, hm⟩ : ∃ m, m = min kn 30 := ⟨_, rfl⟩
            have hmin : (if (30 : Int) < (kn : Int) then (30 : Int) else (kn : Int)) = (m : Int) := by rw [hm]; split <;> omega
            have hmc : (m : Int) ≤ (x.kc : Int) := by have := HCAP.out.1; omega
            have hm0 : (0 : Int) ≤ (m : Int) := by omega
            have hkn0 : (0 : Int) ≤ (kn : Int) := by omega
            have HML : Hid ((x.keep.take 30).length = m) := Lib.hid (by rw [List.length_take]; omega)
            have HM30 : Hid (m ≤ 30) := Lib.hid (by omega)
            rw [← hkn] at hcK
            have HKC : Hid (w.cell? ⟨ab, ao + k * 3 + 2, none⟩ = some (.slice x.ka kn x.kc)) := Lib.hid (by rw [hkn]; exact HT.out.keep)
            have S5 := HS4.out.pick [2, 3, 0, 1] 4 (by decide) rfl
            have HS5 := Lib.hid S5.drew
            have HCA := Lib.hid (HS4.out.up3.arg HT.out.at_)
            clear hm hkn S5
            go_wp2_with fail
            go_region_held (fun w' => w'.cell? ⟨ab, ao + k * 3 + 1, none⟩ = some (.int .i64 x.at_) ∧ w'.cell? ⟨ab, ao + k * 3 + 2, none⟩ = some (.slice x.ka kn x.kc)) (first | assumption | exact ⟨hcA, hcK⟩)
              ((go_at_call 24; refine (arm_sep HS5.out k15 (k15 : Int) rfl x.keep 30 x.ka m x.kc HBO.out (by omega) HML.out (by have := HM30.out; omega) HCAP.out.2.2).mono ?_; rintro e w5 ⟨rfl, S6⟩; have hh : w5.cell? ⟨ab, ao + k * 3 + 1, none⟩ = some (.int .i64 x.at_) ∧ w5.cell? ⟨ab, ao + k * 3 + 2, none⟩ = some (.slice x.ka kn x.kc) := ⟨S6.up1.arg HT.out.at_, S6.up1.arg HKC.out⟩))
            (try simp only [Act.put, List.getElem_toArray, List.getElem_cons_zero, List.getElem_cons_succ, List.setIfInBounds_toArray, List.set_cons_zero, List.set_cons_succ, Bool.not_false, Bool.not_true])
            go_wp2_with fail
            go_meet
            exact ⟨rfl, _, HI.out.idle.arm _ _, S6.pick [2, 3, 0, 1] 4 (by decide) rfl⟩
          · go_wp2_with fail
            go_meet
            exact ⟨rfl, D, HI.out.idle, HS4.out⟩
        case rest =>
          obtain ⟨rfl, D2, hid2, S⟩ := hcut
          have HID := Lib.hid hid2
          clear hcA HS4 hid2
          obtain ⟨cap, w6, hcvt, S6⟩ := conv_text S t tn HTT.out.2.1
          rw [← HTT.out.1] at hcvt
          have S7 : Sep w6 (storeA sp p s :: diskA p D2 :: thA (.slice (some ⟨_, 0, none⟩) tn cap) t :: [ownA 9 1 (.slice ma 1 mc) 1 (strs [(kept o0 o1).2.2]), oldA w]) := S6.pick [2, 3, 0, 1, 4] 5 (by decide) rfl
          have HS7 := Lib.hid S7
          clear S S6 S7
          go_wp2_with fail
          refine (kcSave HS7.out (holds_thA' _ tn cap t HTT.out.2.1) HI.out.cr HI.out.st HID.out (by unfold lastN; omega) HTT.out.2.2.1).mono ?_
          rintro e w8 (⟨rfl, hsv⟩ | ⟨rfl, hfl⟩)
          · as_aux_lemma =>
            obtain ⟨DN, sN, VN, q0, q1, y0, y1, i8, c8, t8, k8, e8, S8⟩ := hsv
            have S9 : Sep w8 (diskA p DN :: [storeA sp p sN, oldA w]) := S8.pick [1, 0, 4] 5 (by decide) rfl
            have HS9 := Lib.hid S9
            have HNX : Hid (HeadC (DN.arm (-1) []) sN VN n z (k + 1) y0 y1 q0 q1) := Lib.hid ⟨i8.disarm.1, i8.disarm.2, c8.mono (by omega), t8.mono (by omega), fun _ => by rw [e8]; exact HTT.out.2.2.2⟩
            have HE8 := Lib.hid e8
            clear S8 S9 hcvt HS7 HID HI i8 c8 t8 k8 e8
            go_wp2_with fail
            refine (armNeg_sep HS9.out (-1) (by decide) _ []).mono ?_
            rintro e wA ⟨rfl, SA⟩
            have HSA := Lib.hid SA
            clear SA HS9
            obtain ⟨DM, hDM⟩ : ∃ DM, DM = DN.arm (-1) [] := ⟨_, rfl⟩
            rw [← hDM] at HNX HSA
            clear hDM DN
            obtain ⟨DN, hDN⟩ : ∃ DN, DN = DM := ⟨_, rfl⟩
            rw [← hDN] at HNX HSA
            clear hDN DM
            obtain ⟨L, hL⟩ : ∃ L, L = [t] := ⟨_, rfl⟩
            obtain ⟨y, hy⟩ : ∃ y, y = (kept q0 q1).2.2 := ⟨_, rfl⟩
            obtain ⟨yn, hyn⟩ : ∃ yn, yn = y.length := ⟨_, rfl⟩
            have HLL : Hid (L.length = 1) := Lib.hid (by rw [hL]; rfl)
            have HMEM : Hid (y ∈ L) := Lib.hid (by rw [hL, hy, HE8.out]; exact List.mem_singleton.2 rfl)
            have HY : Hid ((kept q0 q1).2.2 = y ∧ y.length = yn ∧ yn ≤ 700) := Lib.hid ⟨hy.symm, hyn.symm, by rw [hyn, hy, HE8.out]; have := HTT.out.2.2.1; omega⟩
            have T1 := own_str (HSA.out.alloc #[.string tx] 9) HTT.out.1
            rw [← hL] at T1
            have HST := Lib.hid (T1.pick [2, 0, 1, 3] 4 (by decide) rfl)
            clear hL hy hyn T1 HSA HE8 HTT
            go_wp2_with fail
            refine (sLoad_any HST.out HNX.out.st y yn HY.out.1 HY.out.2.1 HY.out.2.2 HNX.out.full).mono ?_
            rintro e wL ⟨lg, lc, gv, rfl, hgv, SL⟩
            have HSL := Lib.hid SL
            clear SL HST
            rcases hgv with ⟨rfl, hy0⟩ | ⟨rfl, hy0⟩
            · have HY0 := Lib.hid hy0
              clear hy0
              go_wp2_with fail
              go_loopw [20, 21] (fun fv jv wr => ∃ (j : Nat) (fb : Bool), j ≤ 1 ∧ jv = .int .i64 (j : Int) ∧ fv = .bool fb ∧ Sep wr [bytesA (.slice lg yn lc) yn y, storeA sp p sN, ownA 9 1 (.slice (some ⟨wA.heap.size, 0, none⟩) 1 1) 1 (strs L), diskA p DN, oldA w] ∧ Hid (fb = decide (y ∈ L.take j))) (fun _ jv _ => 1 - (intOf jv).toNat)
              case atStart => exact ⟨0, false, Nat.zero_le _, rfl, rfl, HSL.out, Lib.hid (by simp)⟩
              case round =>
                obtain ⟨j, fb, hj, rfl, rfl, Sj, HFB⟩ := hrel
                have tr := fun q => run_string (Sj.drewN q).bytes.reads yn lc HY.out.2.1
                by_cases hlt : j < 1
                · have hlti : (j : Int) < (1 : Int) := by omega
                  have hj0 : (0 : Int) ≤ (j : Int) := by omega
                  obtain ⟨x, hx⟩ : ∃ x, L[j]? = some x := ⟨_, List.getElem?_eq_getElem (by rw [HLL.out]; exact hlt)⟩
                  obtain ⟨mg, hmg, hc⟩ := strs_cell Sj.up2 HLL.out j x hx
                  simp only [Option.some.injEq, Addr.mk.injEq, and_true] at hmg; subst hmg
                  have hnx := take_next y hx
                  rw [← HFB.out] at hnx
                  have HNXT := Lib.hid hnx
                  have HSj := Lib.hid Sj
                  obtain ⟨xb, hxb⟩ : ∃ xb : ByteArray, xb = ⟨x.toArray⟩ := ⟨_, rfl⟩
                  obtain ⟨yb, hyb⟩ : ∃ yb : ByteArray, yb = ⟨y.toArray⟩ := ⟨_, rfl⟩
                  rw [← hxb] at hc
                  simp only [← hyb] at tr
                  have HXB := Lib.hid hxb
                  have HYB := Lib.hid hyb
                  clear hxb hyb hx hnx Sj hlt
                  cases fb with
                  | true =>
                    go_wp2_with fail
                    go_quiet (fail)
                    go_wp2
                    go_roundw
                    case rel => exact ⟨j + 1, true, by omega, by go_num, rfl, HSj.out.drewN _, Lib.hid (by rw [HNXT.out]; rfl)⟩
                    case measure => simp [intOf]; omega
                  | false =>
                    by_cases hxy : x = y
                    · have hxyb : xb = yb := by rw [HXB.out, HYB.out, hxy]
                      rw [hxyb] at hc
                      have hem : yb.toList.isEmpty = false := by rw [HYB.out, ByteArray.toList_mk]; simpa using HY0.out
                      have HXY := Lib.hid hxy
                      clear hxy hxyb
                      go_wp2_with fail
                      go_quiet (fail)
                      go_wp2
                      go_roundw
                      case rel => exact ⟨j + 1, true, by omega, by go_num, rfl, HSj.out.drewN _, Lib.hid (by rw [HNXT.out]; simp [HXY.out])⟩
                      case measure => simp [intOf]; omega
                    · have hxyb : (xb.toList == yb.toList) = false := by
                        rw [HXB.out, HYB.out]
                        simp only [ByteArray.toList_mk]
                        exact beq_eq_false_iff_ne.2 hxy
                      have HXY := Lib.hid hxy
                      clear hxy
                      go_wp2_with fail
                      go_quiet (fail)
                      go_wp2
                      go_roundw
                      case rel => exact ⟨j + 1, false, by omega, by go_num, rfl, HSj.out.drewN _, Lib.hid (by rw [HNXT.out]; simp [HXY.out])⟩
                      case measure => simp [intOf]; omega
                · have hlti : ¬ (j : Int) < (1 : Int) := by omega
                  have hfb : fb = true := by
                    rw [HFB.out, List.take_of_length_le (by rw [HLL.out]; omega)]
                    simp [HMEM.out]
                  subst hfb
                  obtain ⟨yb, hyb⟩ : ∃ yb : ByteArray, yb = ⟨y.toArray⟩ := ⟨_, rfl⟩
                  have tr0 := run_string Sj.bytes.reads yn lc HY.out.2.1
                  rw [← hyb] at tr0
                  have T2 := own_str (Sj.alloc #[.string yb] 9) hyb
                  rw [← HY.out.1] at T2
                  have HT2 := Lib.hid (T2.pick [0, 2, 4, 5] 6 (by decide) rfl)
                  have HYB := Lib.hid hyb
                  clear tr hyb T2 Sj
                  go_wp2
                  go_roundw
                  case rel => exact ⟨k + 1, DN, sN, sp, VN, q0, q1, y0, y1, _, _, by omega, by omega, rfl, rfl, by go_num, HT2.out, HNX⟩
                  case measure => simp [intOf]; omega
            · have HY0 := Lib.hid hy0
              clear hy0
              go_wp2_with fail
              go_loopw [20, 21] (fun fv jv wr => ∃ (j : Nat) (fb : Bool), j ≤ 1 ∧ jv = .int .i64 (j : Int) ∧ fv = .bool fb ∧ Sep wr [bytesA (.slice lg yn lc) yn y, storeA sp p sN, ownA 9 1 (.slice (some ⟨wA.heap.size, 0, none⟩) 1 1) 1 (strs L), diskA p DN, oldA w] ∧ Hid (fb = decide (y ∈ L.take j))) (fun _ jv _ => 1 - (intOf jv).toNat)
              case atStart => exact ⟨0, false, Nat.zero_le _, rfl, rfl, HSL.out, Lib.hid (by simp)⟩
              case round =>
                obtain ⟨j, fb, hj, rfl, rfl, Sj, HFB⟩ := hrel
                have tr := fun q => run_string (Sj.drewN q).bytes.reads yn lc HY.out.2.1
                by_cases hlt : j < 1
                · have hlti : (j : Int) < (1 : Int) := by omega
                  have hj0 : (0 : Int) ≤ (j : Int) := by omega
                  obtain ⟨x, hx⟩ : ∃ x, L[j]? = some x := ⟨_, List.getElem?_eq_getElem (by rw [HLL.out]; exact hlt)⟩
                  obtain ⟨mg, hmg, hc⟩ := strs_cell Sj.up2 HLL.out j x hx
                  simp only [Option.some.injEq, Addr.mk.injEq, and_true] at hmg; subst hmg
                  have hnx := take_next y hx
                  rw [← HFB.out] at hnx
                  have HNXT := Lib.hid hnx
                  have HSj := Lib.hid Sj
                  obtain ⟨xb, hxb⟩ : ∃ xb : ByteArray, xb = ⟨x.toArray⟩ := ⟨_, rfl⟩
                  obtain ⟨yb, hyb⟩ : ∃ yb : ByteArray, yb = ⟨y.toArray⟩ := ⟨_, rfl⟩
                  rw [← hxb] at hc
                  simp only [← hyb] at tr
                  have HXB := Lib.hid hxb
                  have HYB := Lib.hid hyb
                  clear hxb hyb hx hnx Sj hlt
                  cases fb with
                  | true =>
                    go_wp2_with fail
                    go_quiet (fail)
                    go_wp2
                    go_roundw
                    case rel => exact ⟨j + 1, true, by omega, by go_num, rfl, HSj.out.drewN _, Lib.hid (by rw [HNXT.out]; rfl)⟩
                    case measure => simp [intOf]; omega
                  | false =>
                    by_cases hxy : x = y
                    · have hxyb : xb = yb := by rw [HXB.out, HYB.out, hxy]
                      rw [hxyb] at hc
                      have hem : yb.toList.isEmpty = true := by rw [HYB.out, HY0.out, ByteArray.toList_mk]; rfl
                      have HXY := Lib.hid hxy
                      clear hxy hxyb
                      go_wp2_with fail
                      go_quiet (fail)
                      go_wp2
                      go_roundw
                      case rel => exact ⟨j + 1, true, by omega, by go_num, rfl, HSj.out.drewN _, Lib.hid (by rw [HNXT.out]; simp [HXY.out])⟩
                      case measure => simp [intOf]; omega
                    · have hxyb : (xb.toList == yb.toList) = false := by
                        rw [HXB.out, HYB.out]
                        simp only [ByteArray.toList_mk]
                        exact beq_eq_false_iff_ne.2 hxy
                      have HXY := Lib.hid hxy
                      clear hxy
                      go_wp2_with fail
                      go_quiet (fail)
                      go_wp2
                      go_roundw
                      case rel => exact ⟨j + 1, false, by omega, by go_num, rfl, HSj.out.drewN _, Lib.hid (by rw [HNXT.out]; simp [HXY.out])⟩
                      case measure => simp [intOf]; omega
                · have hlti : ¬ (j : Int) < (1 : Int) := by omega
                  have hfb : fb = true := by
                    rw [HFB.out, List.take_of_length_le (by rw [HLL.out]; omega)]
                    simp [HMEM.out]
                  subst hfb
                  obtain ⟨yb, hyb⟩ : ∃ yb : ByteArray, yb = ⟨y.toArray⟩ := ⟨_, rfl⟩
                  have tr0 := run_string Sj.bytes.reads yn lc HY.out.2.1
                  rw [← hyb] at tr0
                  have T2 := own_str (Sj.alloc #[.string yb] 9) hyb
                  rw [← HY.out.1] at T2
                  have HT2 := Lib.hid (T2.pick [0, 2, 4, 5] 6 (by decide) rfl)
                  have HYB := Lib.hid hyb
                  clear tr hyb T2 Sj
                  go_wp2
                  go_roundw
                  case rel => exact ⟨k + 1, DN, sN, sp, VN, q0, q1, y0, y1, _, _, by omega, by omega, rfl, rfl, by go_num, HT2.out, HNX⟩
                  case measure => simp [intOf]; omega
          · as_aux_lemma =>
            obtain ⟨DN, VN, q0, q1, y0, y1, d8, c8, k8, S8⟩ := hfl
            have S9 : Sep w8 (diskA p DN :: [ownA 9 1 (.slice ma 1 mc) 1 (strs [(kept o0 o1).2.2]), oldA w]) := S8.pick [0, 2, 3] 4 (by decide) rfl
            obtain ⟨x, hx⟩ : ∃ x, x = (kept o0 o1).2.2 := ⟨_, rfl⟩
            have HK : Hid ((kept q0 q1).2.2 ∈ [x, t] ∧ (0 ≤ (kept q0 q1).1 → (kept q0 q1).2.2 ≠ [])) := Lib.hid (by
              rcases k8 with e | ⟨e1, e2⟩
              · rw [e]; exact ⟨by rw [hx]; exact List.mem_cons_self .., HI.out.full⟩
              · rw [e2]; exact ⟨by simp, fun _ => HTT.out.2.2.2⟩)
            have HD := Lib.hid d8.disarm
            have HC := Lib.hid c8
            have HVN : Hid (VN.length = n) := Lib.hid c8.len
            rw [← hx] at S9
            have HS9 := Lib.hid S9
            clear S8 S9 hcvt HS7 HID HI d8 c8 k8 hx
            go_wp2_with fail
            refine (armNeg_sep HS9.out (-1) (by decide) _ []).mono ?_
            rintro e wA ⟨rfl, SA⟩
            obtain ⟨DA, hDA⟩ : ∃ DA, DA = DN.arm (-1) [] := ⟨_, rfl⟩
            rw [← hDA] at HD SA
            have T : Sep _ (ownA 9 1 (.slice ma 1 mc) 1 (strs [x]) :: [diskA p DA, oldA w]) := (SA.alloc #[.string tx] 9).pick [2, 1, 3] 4 (by decide) rfl
            have hone : (Value.string tx).oneCell' = true := by rfl
            have hnew := Lib.hid (Sep.cell_new wA (.string tx) 9)
            obtain ⟨i0, hi, hz0, hz1, hz2⟩ := info_parts infoStr
            have Hi := Lib.hid hi
            have Hz0 := Lib.hid hz0
            have Hz1 := Lib.hid hz1
            have Hz2 := Lib.hid hz2
            have Hone := Lib.hid hone
            have HT2 := Lib.hid T
            clear hi hz0 hz1 hz2 hone T SA HS9 hDA
            go_wp2_with (at_builtin; refine Sep.wpList_append Try.underlying44 Hi.out Hz0.out Hz1.out Hz2.out rfl (by decide) rfl (.tmp 113) (.tmp 115) rfl HT2.out rfl ⟨wA.heap.size, 0, none⟩ 1 1 [.string tx] rfl rfl hnew.out (by intro u hu; simp at hu; subst hu; exact Hone.out) (by unfold maxLen; omega) (by omega) ?next)
            case next =>
              intro ga ca wB SB _ _ _ _
              have SC : Sep wB (diskA p DA :: [ownA 9 1 (.slice ga 2 ca) 2 (strs [x, t]), oldA w]) := by
                have h := SB.pick [1, 0, 2] 3 (by decide) rfl
                rw [HTT.out.1] at h
                exact h
              have hdn := down_sep SC
              rw [HD.out.down] at hdn
              have HDN := Lib.hid hdn
              have HSC := Lib.hid SC
              clear SB SC hdn HT2 hnew
              go_wp2_with fail
              refine HDN.out.mono ?_
              rintro e wC ⟨rfl, rfl⟩
              go_wp2_with fail
              refine (start_sep HSC.out).mono ?_
              rintro e wD ⟨rfl, SD⟩
              have HSD := Lib.hid SD
              have HIS := Lib.hid HD.out.start
              clear SD HSC HD HDN
              go_upto_if 124 with (fail)
              go_cut [12] from 122 to 135 (fun mv wx => mv = .slice ga 2 ca ∧ ∃ DR, Idle DR VN ∧ DR.armed = none ∧ Sep wx [diskA p DR, ownA 9 1 (.slice ga 2 ca) 2 (strs [x, t]), oldA w])
              case first =>
                by_cases hag : k1 = 1
                · have hk1 : Go.bits .and .i64 ag 1 = 1 := by rw [HK1.out, hag]; rfl
                  have hk2 := HK2.out
                  clear hag
                  go_wp2_with fail
                  refine (arm_nil HSD.out k2 (k2 : Int) rfl (by have := HK27.out; omega)).mono ?_
                  rintro e wE ⟨rfl, SE⟩
                  have HSE := Lib.hid SE
                  clear SE hk1 hk2
                  go_wp2_with fail
                  refine (kcOpenAny HSE.out (HIS.out.1.fix _ _) HVN.out (by have := HN.out; omega) (by have := HN.out; omega)).mono ?_
                  rintro e wF ⟨v, rfl, DF, fF, SF⟩
                  have HSF := Lib.hid SF
                  have HFF := Lib.hid fF
                  clear SF fF HSE
                  go_wp2_with fail
                  refine (crash_nil HSF.out).mono ?_
                  rintro e wG ⟨rfl, SG⟩
                  have HSG := Lib.hid SG
                  clear SG HSF
                  go_wp2_with fail
                  refine (start_sep HSG.out).mono ?_
                  rintro e wH ⟨rfl, SH⟩
                  have HSH := Lib.hid SH
                  clear SH HSG
                  go_wp2_with fail
                  go_meet
                  exact ⟨rfl, _, HFF.out.crashed.1, HFF.out.crashed.2, HSH.out⟩
                · have hk1 : Go.bits .and .i64 ag 1 = 0 := by rw [HK1.out]; omega
                  clear hag
                  go_wp2_with fail
                  go_meet
                  exact ⟨rfl, _, HIS.out.1, HIS.out.2, HSD.out⟩
              case rest =>
                obtain ⟨rfl, DR, iR, aR, SR⟩ := hcut
                have HSR := Lib.hid SR
                have HIR := Lib.hid (And.intro iR aR)
                clear SR iR aR HSD HIS
                go_wp2_with fail
                refine (kcOpen HSR.out HC.out HIR.out.1 HIR.out.2 (by unfold lastN; omega)).mono ?_
                rintro e wI ⟨sq, rfl, DN, sN, iN, aN, tN, SI⟩
                have HNX : Hid (HeadC DN sN VN n z (k + 1) y0 y1 q0 q1) := Lib.hid ⟨iN, aN, HC.out.mono (by omega), tN.mono (by omega), HK.out.2⟩
                obtain ⟨L, hL⟩ : ∃ L, L = [x, t] := ⟨_, rfl⟩
                obtain ⟨y, hy⟩ : ∃ y, y = (kept q0 q1).2.2 := ⟨_, rfl⟩
                obtain ⟨yn, hyn⟩ : ∃ yn, yn = y.length := ⟨_, rfl⟩
                have HLL : Hid (L.length = 2) := Lib.hid (by rw [hL]; rfl)
                have HMEM : Hid (y ∈ L) := Lib.hid (by rw [hL, hy]; exact HK.out.1)
                have HY : Hid ((kept q0 q1).2.2 = y ∧ y.length = yn ∧ yn ≤ 700) := Lib.hid ⟨hy.symm, hyn.symm, by rw [hyn, hy]; exact kept_len (fun x e => (HC.out.c0 x e).2) (fun x e => (HC.out.c1 x e).2)⟩
                have T1 : Sep wI (storeA sq p sN :: ownA 9 1 (.slice ga 2 ca) 2 (strs [x, t]) :: diskA p DN :: [oldA w]) := SI.pick [0, 2, 1, 3] 4 (by decide) rfl
                rw [← hL] at T1
                have HST := Lib.hid T1
                clear hL hy hyn T1 SI iN aN tN HSR HIR HK HC HTT HVN
                go_wp2_with fail
                refine (sLoad_any HST.out HNX.out.st y yn HY.out.1 HY.out.2.1 HY.out.2.2 HNX.out.full).mono ?_
                rintro e wL ⟨lg, lc, gv, rfl, hgv, SL⟩
                have HSL := Lib.hid SL
                clear SL HST
                rcases hgv with ⟨rfl, hy0⟩ | ⟨rfl, hy0⟩
                · have HY0 := Lib.hid hy0
                  clear hy0
                  go_wp2_with fail
                  go_loopw [20, 21] (fun fv jv wr => ∃ (j : Nat) (fb : Bool), j ≤ 2 ∧ jv = .int .i64 (j : Int) ∧ fv = .bool fb ∧ Sep wr [bytesA (.slice lg yn lc) yn y, storeA sq p sN, ownA 9 1 (.slice ga 2 ca) 2 (strs L), diskA p DN, oldA w] ∧ Hid (fb = decide (y ∈ L.take j))) (fun _ jv _ => 2 - (intOf jv).toNat)
                  case atStart => exact ⟨0, false, Nat.zero_le _, rfl, rfl, HSL.out, Lib.hid (by simp)⟩
                  case round =>
                    obtain ⟨j, fb, hj, rfl, rfl, Sj, HFB⟩ := hrel
                    have tr := fun q => run_string (Sj.drewN q).bytes.reads yn lc HY.out.2.1
                    by_cases hlt : j < 2
                    · have hlti : (j : Int) < (2 : Int) := by omega
                      have hj0 : (0 : Int) ≤ (j : Int) := by omega
                      obtain ⟨x, hx⟩ : ∃ x, L[j]? = some x := ⟨_, List.getElem?_eq_getElem (by rw [HLL.out]; exact hlt)⟩
                      obtain ⟨mg, hmg, hc⟩ := strs_cell Sj.up2 HLL.out j x hx
                      subst hmg
                      have hnx := take_next y hx
                      rw [← HFB.out] at hnx
                      have HNXT := Lib.hid hnx
                      have HSj := Lib.hid Sj
                      obtain ⟨xb, hxb⟩ : ∃ xb : ByteArray, xb = ⟨x.toArray⟩ := ⟨_, rfl⟩
                      obtain ⟨yb, hyb⟩ : ∃ yb : ByteArray, yb = ⟨y.toArray⟩ := ⟨_, rfl⟩
                      rw [← hxb] at hc
                      simp only [← hyb] at tr
                      have HXB := Lib.hid hxb
                      have HYB := Lib.hid hyb
                      clear hxb hyb hx hnx Sj hlt
                      cases fb with
                      | true =>
                        go_wp2_with fail
                        go_quiet (fail)
                        go_wp2
                        go_roundw
                        case rel => exact ⟨j + 1, true, by omega, by go_num, rfl, HSj.out.drewN _, Lib.hid (by rw [HNXT.out]; rfl)⟩
                        case measure => simp [intOf]; omega
                      | false =>
                        by_cases hxy : x = y
                        · have hxyb : xb = yb := by rw [HXB.out, HYB.out, hxy]
                          rw [hxyb] at hc
                          have hem : yb.toList.isEmpty = false := by rw [HYB.out, ByteArray.toList_mk]; simpa using HY0.out
                          have HXY := Lib.hid hxy
                          clear hxy hxyb
                          go_wp2_with fail
                          go_quiet (fail)
                          go_wp2
                          go_roundw
                          case rel => exact ⟨j + 1, true, by omega, by go_num, rfl, HSj.out.drewN _, Lib.hid (by rw [HNXT.out]; simp [HXY.out])⟩
                          case measure => simp [intOf]; omega
                        · have hxyb : (xb.toList == yb.toList) = false := by
                            rw [HXB.out, HYB.out]
                            simp only [ByteArray.toList_mk]
                            exact beq_eq_false_iff_ne.2 hxy
                          have HXY := Lib.hid hxy
                          clear hxy
                          go_wp2_with fail
                          go_quiet (fail)
                          go_wp2
                          go_roundw
                          case rel => exact ⟨j + 1, false, by omega, by go_num, rfl, HSj.out.drewN _, Lib.hid (by rw [HNXT.out]; simp [HXY.out])⟩
                          case measure => simp [intOf]; omega
                    · have hlti : ¬ (j : Int) < (2 : Int) := by omega
                      have hfb : fb = true := by
                        rw [HFB.out, List.take_of_length_le (by rw [HLL.out]; omega)]
                        simp [HMEM.out]
                      subst hfb
                      obtain ⟨yb, hyb⟩ : ∃ yb : ByteArray, yb = ⟨y.toArray⟩ := ⟨_, rfl⟩
                      have tr0 := run_string Sj.bytes.reads yn lc HY.out.2.1
                      rw [← hyb] at tr0
                      have T2 := own_str (Sj.alloc #[.string yb] 9) hyb
                      rw [← HY.out.1] at T2
                      have HT2 := Lib.hid (T2.pick [0, 2, 4, 5] 6 (by decide) rfl)
                      have HYB := Lib.hid hyb
                      clear tr hyb T2 Sj
                      go_wp2
                      go_roundw
                      case rel => exact ⟨k + 1, DN, sN, sq, VN, q0, q1, y0, y1, _, _, by omega, by omega, rfl, rfl, by go_num, HT2.out, HNX⟩
                      case measure => simp [intOf]; omega
                · have HY0 := Lib.hid hy0
                  clear hy0
                  go_wp2_with fail
                  go_loopw [20, 21] (fun fv jv wr => ∃ (j : Nat) (fb : Bool), j ≤ 2 ∧ jv = .int .i64 (j : Int) ∧ fv = .bool fb ∧ Sep wr [bytesA (.slice lg yn lc) yn y, storeA sq p sN, ownA 9 1 (.slice ga 2 ca) 2 (strs L), diskA p DN, oldA w] ∧ Hid (fb = decide (y ∈ L.take j))) (fun _ jv _ => 2 - (intOf jv).toNat)
                  case atStart => exact ⟨0, false, Nat.zero_le _, rfl, rfl, HSL.out, Lib.hid (by simp)⟩
                  case round =>
                    obtain ⟨j, fb, hj, rfl, rfl, Sj, HFB⟩ := hrel
                    have tr := fun q => run_string (Sj.drewN q).bytes.reads yn lc HY.out.2.1
                    by_cases hlt : j < 2
                    · have hlti : (j : Int) < (2 : Int) := by omega
                      have hj0 : (0 : Int) ≤ (j : Int) := by omega
                      obtain ⟨x, hx⟩ : ∃ x, L[j]? = some x := ⟨_, List.getElem?_eq_getElem (by rw [HLL.out]; exact hlt)⟩
                      obtain ⟨mg, hmg, hc⟩ := strs_cell Sj.up2 HLL.out j x hx
                      subst hmg
                      have hnx := take_next y hx
                      rw [← HFB.out] at hnx
                      have HNXT := Lib.hid hnx
                      have HSj := Lib.hid Sj
                      obtain ⟨xb, hxb⟩ : ∃ xb : ByteArray, xb = ⟨x.toArray⟩ := ⟨_, rfl⟩
                      obtain ⟨yb, hyb⟩ : ∃ yb : ByteArray, yb = ⟨y.toArray⟩ := ⟨_, rfl⟩
                      rw [← hxb] at hc
                      simp only [← hyb] at tr
                      have HXB := Lib.hid hxb
                      have HYB := Lib.hid hyb
                      clear hxb hyb hx hnx Sj hlt
                      cases fb with
                      | true =>
                        go_wp2_with fail
                        go_quiet (fail)
                        go_wp2
                        go_roundw
                        case rel => exact ⟨j + 1, true, by omega, by go_num, rfl, HSj.out.drewN _, Lib.hid (by rw [HNXT.out]; rfl)⟩
                        case measure => simp [intOf]; omega
                      | false =>
                        by_cases hxy : x = y
                        · have hxyb : xb = yb := by rw [HXB.out, HYB.out, hxy]
                          rw [hxyb] at hc
                          have hem : yb.toList.isEmpty = true := by rw [HYB.out, HY0.out, ByteArray.toList_mk]; rfl
                          have HXY := Lib.hid hxy
                          clear hxy hxyb
                          go_wp2_with fail
                          go_quiet (fail)
                          go_wp2
                          go_roundw
                          case rel => exact ⟨j + 1, true, by omega, by go_num, rfl, HSj.out.drewN _, Lib.hid (by rw [HNXT.out]; simp [HXY.out])⟩
                          case measure => simp [intOf]; omega
                        · have hxyb : (xb.toList == yb.toList) = false := by
                            rw [HXB.out, HYB.out]
                            simp only [ByteArray.toList_mk]
                            exact beq_eq_false_iff_ne.2 hxy
                          have HXY := Lib.hid hxy
                          clear hxy
                          go_wp2_with fail
                          go_quiet (fail)
                          go_wp2
                          go_roundw
                          case rel => exact ⟨j + 1, false, by omega, by go_num, rfl, HSj.out.drewN _, Lib.hid (by rw [HNXT.out]; simp [HXY.out])⟩
                          case measure => simp [intOf]; omega
                    · have hlti : ¬ (j : Int) < (2 : Int) := by omega
                      have hfb : fb = true := by
                        rw [HFB.out, List.take_of_length_le (by rw [HLL.out]; omega)]
                        simp [HMEM.out]
                      subst hfb
                      obtain ⟨yb, hyb⟩ : ∃ yb : ByteArray, yb = ⟨y.toArray⟩ := ⟨_, rfl⟩
                      have tr0 := run_string Sj.bytes.reads yn lc HY.out.2.1
                      rw [← hyb] at tr0
                      have T2 := own_str (Sj.alloc #[.string yb] 9) hyb
                      rw [← HY.out.1] at T2
                      have HT2 := Lib.hid (T2.pick [0, 2, 4, 5] 6 (by decide) rfl)
                      have HYB := Lib.hid hyb
                      clear tr hyb T2 Sj
                      go_wp2
                      go_roundw
                      case rel => exact ⟨k + 1, DN, sN, sq, VN, q0, q1, y0, y1, _, _, by omega, by omega, rfl, rfl, by go_num, HT2.out, HNX⟩
                      case measure => simp [intOf]; omega
    · have HSr := Lib.hid Sr.drop.drop.drop
      clear Sr
      by_cases hkl : k < na
      · have hk50 : ¬ (k : Int) < 20 := by omega
        have hk51 : (k : Int) < (na : Int) := by omega
        clear hlt
        go_wp2
        go_ret
        exact ⟨rfl, HSr.out⟩
      · have hkl' : ¬ (k : Int) < (na : Int) := by omega
        clear hlt
        go_wp2
        go_ret
        exact ⟨rfl, HSr.out⟩
theorem StoreCrash_walk (W : World) (nn ag : Int) (a : Option Addr) (la : List TryD) (ca : Nat) (ha : TriesAt W a la) (hla : la.length ≤ 9223372036854775807) :
    Calls Try.prog 9 #[.int .i64 nn, .slice a la.length ca, .int .i64 ag] W fun e w' => e = .returned (.bool true) ∧ Below W.heap.size W w' := by
  obtain ⟨k7, h7, hk⟩ := and_i64 nn 7 (by omega)
  obtain ⟨k1, h1, hk1⟩ := and_i64 ag 1 (by omega)
  obtain ⟨k2, h2, hk2⟩ := and_i64 (ag / 2) 7 (by omega)
  exact (crash_walk W _ (Sep.start W) nn ag a la ca ha hla rfl k7 _ _ k1 k2 hk h7 rfl rfl hk1 h1 hk2 h2).mono fun e w' h => ⟨h.1, h.2.fin⟩
end Go.Proofs.Ytnekelndcpmonaa
