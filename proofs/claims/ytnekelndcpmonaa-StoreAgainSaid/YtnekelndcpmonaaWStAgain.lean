/- StoreAgain: the walk. -/
import Derived.Test.YtnekelndcpmonaaStL
set_option linter.all false
namespace Go.Proofs.Ytnekelndcpmonaa
open Go.RowKit
set_option linter.unusedVariables false

structure Twin (D G : Dk) (s t : Sto) (a0 a1 ar : List UInt8) (k B : Nat) : Prop where
  a : StI D 10 5 s a0 a1 ar (2 + 2 * k)
  b : StI G 10 5 t a0 a1 ar B
  is : t.is = s.is
  count : t.count = s.count
  n0 : s.j0.next = 2 + 2 * ((k + 1) / 2)
  n1 : s.j1.next = 2 + 2 * (k / 2)
  m0 : t.j0.next = s.j0.next
  m1 : t.j1.next = s.j1.next
  par : s.is = 0 ↔ k % 2 = 1
  t0 : Tight a0 s.j0.next
  t1 : Tight a1 s.j1.next
theorem twin_open {D G G' : Dk} {s t : Sto} {a0 a1 ar : List UInt8} {k B : Nat} {j0 j1 : Jn} (h : Twin D G s t a0 a1 ar k B) (I : StI G' 10 5 (stoOf 5 j0 j1 (t.is, t.count, t.thing)) a0 a1 ar (B + 100)) (r0 : ∃ l, replB a0 = some (l, j0.next, j0.used)) (r1 : ∃ l, replB a1 = some (l, j1.next, j1.used)) :
    Twin D G' s (stoOf 5 j0 j1 (t.is, t.count, t.thing)) a0 a1 ar k (B + 100) := by
  obtain ⟨l, u, e0⟩ := h.t0.told
  obtain ⟨l1, u1, e1⟩ := h.t1.told
  obtain ⟨l', r0⟩ := r0
  obtain ⟨l1', r1⟩ := r1
  rw [e0] at r0
  rw [e1] at r1
  simp only [Option.some.injEq, Prod.mk.injEq] at r0 r1
  exact ⟨h.a, I, h.is, h.count, h.n0, h.n1, r0.2.1.symm, r1.2.1.symm, h.par, h.t0, h.t1⟩
theorem twin_save {D G D' G' : Dk} {s t s' t' : Sto} {a0 a1 ar : List UInt8} {k B sz : Nat} {c : UInt8} (h : Twin D G s t a0 a1 ar k B) (hk : k < 15) (hs : sz < 500) (hc : c.toNat = k)
    (K : KSaved D 10 5 s a0 a1 ar (2 + 2 * k) (List.replicate sz c) D' s') (L : KSaved G 10 5 t a0 a1 ar B (List.replicate sz c) G' t') : ∃ b0 b1, Twin D' G' s' t' b0 b1 ar (k + 1) (B + 2) := by
  have n0 := h.n0
  have n1 := h.n1
  have par := h.par
  have Ks := K.st
  have Ls := L.st
  have Kn0 := K.next0
  have Kn1 := K.next1
  have Ln0 := L.next0
  have Ln1 := L.next1
  have Ki := K.is
  have Li := L.is
  rw [h.is] at Ls Ln0 Ln1 Li
  rw [h.count, h.m0, h.m1] at Ls
  rw [h.m0] at Ln0
  rw [h.m1] at Ln1
  by_cases hi : s.is = 0
  · rw [if_pos hi] at Kn0 Kn1 Ln0 Ln1 Ki Li
    rw [if_pos hi, if_pos hi] at Ks Ls
    have hp := par.1 hi
    refine ⟨_, _, Ks.mono (by omega), Ls, by rw [Ki, Li], by rw [K.count, L.count, h.count], by rw [Kn0, n0]; omega, by rw [Kn1, n1]; omega, by rw [Ln0, Kn0], by rw [Ln1, Kn1], by rw [Ki]; omega, by rw [Kn0]; exact h.t0, ?_⟩
    rw [Kn1]
    exact tight_text h.t1 (by omega) (by omega) hs (by omega)
  · rw [if_neg hi] at Kn0 Kn1 Ln0 Ln1 Ki Li
    rw [if_neg hi, if_neg hi] at Ks Ls
    have hp : ¬ k % 2 = 1 := fun e => hi (par.2 e)
    refine ⟨_, _, Ks.mono (by omega), Ls, by rw [Ki, Li], by rw [K.count, L.count, h.count], by rw [Kn0, n0]; omega, by rw [Kn1, n1]; omega, by rw [Ln0, Kn0], by rw [Ln1, Kn1], by rw [Ki]; omega, ?_, by rw [Kn1]; exact h.t1⟩
    rw [Kn0]
    exact tight_text h.t0 (by omega) (by omega) hs (by omega)
set_option maxRecDepth 20000 in
set_option maxHeartbeats 8000000 in
theorem again_walk (w : World) (R : List Asn) (S : Sep w R) (a : Option Addr) (la : List Int) (ca : Nat) (opens : Int) (ha : NumsAt .i64 w a la) (hla : la.length ≤ 9223372036854775807) (hR : R = [oldA w]) :
    Calls Try.prog 8 #[.slice a la.length ca, .int .i64 opens] w fun e w' => e = .returned (.bool true) ∧ Sep w' R := by
  subst hR
  obtain ⟨na, hna⟩ : ∃ na, na = la.length := ⟨_, rfl⟩
  rw [← hna]
  rw [← hna] at hla
  have HNA := Lib.hid hna
  have HA := Lib.hid ha
  have HS := Lib.hid S
  clear hna ha S
  go_enter Try.func8, Try.ntmps8
  go_wp2_with fail
  refine (shown4_sep HS.out).mono ?_
  rintro e w1 ⟨rfl, S1⟩
  have HS1 := Lib.hid S1
  clear S1
  go_wp2_with fail
  refine (new_sep HS1.out 10 _ rfl (by omega) (by omega)).mono ?_
  rintro e w2 ⟨p, rfl, S2⟩
  have HS2 := Lib.hid S2
  clear S2
  go_wp2_with fail
  refine (new_sep HS2.out 10 _ rfl (by omega) (by omega)).mono ?_
  rintro e w3 ⟨q, rfl, S3⟩
  have HS3 := Lib.hid S3.up1
  clear S3
  go_wp2_with fail
  refine (kFormat (n := 10) (z := 5) HS3.out (Same.refl _) rfl (by omega) (by omega)).mono ?_
  rintro e w4 ⟨sp, rfl, D4, I4, S4⟩
  have HS4 := Lib.hid S4.up2
  have HI4 := Lib.hid I4
  clear S4 I4
  go_wp2_with fail
  refine (kFormat (n := 10) (z := 5) HS4.out (Same.refl _) rfl (by omega) (by omega)).mono ?_
  rintro e w5 ⟨tp, rfl, G5, I5, S5⟩
  have S6 : Sep w5 [storeA sp p (stoNew 5 (jOf 0 5 1 []) (jOf 5 5 1 [])), diskA p D4, storeA tp q (stoNew 5 (jOf 0 5 1 []) (jOf 5 5 1 [])), diskA q G5, oldA w] := S5.pick [2, 3, 0, 1, 4] 5 (by decide) rfl
  have HS6 := Lib.hid S6
  have HI5 := Lib.hid I5
  clear S5 S6 I5
  go_wp2_with fail
  clear HS HS1 HS2 HS3 HS4
  go_loopw [14, 12] (fun i tv wr => ∃ (k tp : Nat) (D G : Dk) (s t : Sto) (a0 a1 ar : List UInt8), k ≤ na ∧ k ≤ 15 ∧ i = .int .i64 (k : Int) ∧ tv = .pointer (some ⟨tp, 0, none⟩) ∧ Sep wr [storeA sp p s, diskA p D, storeA tp q t, diskA q G, oldA w] ∧ Hid (∃ B, B ≤ 2 + 102 * k ∧ Twin D G s t a0 a1 ar k B)) (fun i _ _ => na - (intOf i).toNat)
  case atStart => exact ⟨0, tp, D4, G5, _, _, _, _, _, Nat.zero_le _, Nat.zero_le _, rfl, rfl, HS6.out, Lib.hid ⟨2, by omega, HI4.out, HI5.out, rfl, rfl, rfl, rfl, rfl, rfl, by show (-1 : Int) = 0 ↔ 0 % 2 = 1; omega, tight_blank 5, tight_blank 5⟩⟩
  case round =>
    obtain ⟨k, tp, D, G, s, t, a0, a1, ar, hk1, hk15, rfl, rfl, Sr, HI⟩ := hrel
    by_cases hlt : k < na ∧ k < 15
    · obtain ⟨hlt1, hlt8⟩ := hlt
      have hl1 : (k : Int) < (na : Int) := by omega
      have hl8 : (k : Int) < 15 := by omega
      have hk0 : (0 : Int) ≤ (k : Int) := by omega
      obtain ⟨ab, ao, rfl, hx⟩ := HA.out k (by rw [← HNA.out]; exact hlt1)
      have hx2 := fun (W : World) (S : Below w.heap.size w W) => (S.cell (p := ⟨ab, ao + k, none⟩) (World.block_lt_of_cell? _ _ hx)).trans hx
      obtain ⟨x, hxe⟩ : ∃ x, x = la.getD k 0 := ⟨_, rfl⟩
      rw [← hxe] at hx2
      obtain ⟨kk, sz, hkk, hsz, hsz5, hkk0⟩ := and_500 x 500 (by omega)
      obtain ⟨c, hc⟩ : ∃ c, c = UInt8.ofNat k := ⟨_, rfl⟩
      have hcv : ((c.toNat : Nat) : Int) = (k : Int) := by rw [hc]; exact low8 k (by omega)
      have HX2 := Lib.hid hx2
      have HC := Lib.hid hcv
      have HSr := Lib.hid Sr
      obtain ⟨bi, hbi1, hbit⟩ := and_i64 (opens / 2 ^ k) 1 (by omega)
      have hbit : Go.bits .and .i64 (opens / 2 ^ k) 1 = (bi : Int) := hbit
      clear hx hx2 hxe hc hcv Sr
      go_upto_if 72 with (fail)
      go_cut [12] (fun tv wx => ∃ (tp : Nat) (t : Sto) (G : Dk), tv = .pointer (some ⟨tp, 0, none⟩) ∧ Sep wx [storeA sp p s, diskA p D, storeA tp q t, diskA q G, oldA w] ∧ Hid (∃ B, B ≤ 102 + 102 * k ∧ Twin D G s t a0 a1 ar k B))
      case first =>
        by_cases hb : bi = 1
        · subst hb
          obtain ⟨B, hB, hT⟩ := HI.out
          have S2 : Sep wr [diskA q G, storeA sp p s, diskA p D, storeA tp q t, oldA w] := HSr.out.pick [3, 0, 1, 2, 4] 5 (by decide) rfl
          have HS2 := Lib.hid S2
          have HB := Lib.hid hB
          have HT := Lib.hid hT
          clear S2 hB hT
          go_wp2_with fail
          refine (kOpen HS2.out HT.out.b (by have := HB.out; unfold lastN; omega)).mono ?_
          rintro e w6 ⟨tp2, rfl, G2, j0, j1, -, -, ⟨I6, r0, r1⟩, S6⟩
          have S7 : Sep w6 [storeA sp p s, diskA p D, storeA tp2 q (stoOf 5 j0 j1 (t.is, t.count, t.thing)), diskA q G2, oldA w] := S6.pick [2, 3, 0, 1, 5] 6 (by decide) rfl
          have HS7 := Lib.hid S7
          have HT2 := Lib.hid (twin_open HT.out I6 r0 r1)
          clear S6 S7 I6 r0 r1
          go_wp2
          go_meet
          exact ⟨tp2, _, G2, rfl, HS7.out, Lib.hid ⟨_, by have := HB.out; omega, HT2.out⟩⟩
        · obtain rfl : bi = 0 := by omega
          go_wp2
          go_meet
          obtain ⟨B, hB, hT⟩ := HI.out
          exact ⟨tp, t, G, rfl, HSr.out, Lib.hid ⟨B, by omega, hT⟩⟩
      case rest =>
        obtain ⟨tp, t, G, rfl, Sr, HI⟩ := hcut
        obtain ⟨B, hB, hT⟩ := HI.out
        have hcell := HX2.out _ Sr.up4.old
        have htx := text_sep Sr sz c _ _ hsz HC.out.symm (by omega)
        obtain ⟨sx, hsx⟩ : ∃ sx : ByteArray, sx = ⟨(List.replicate sz c).toArray⟩ := ⟨_, rfl⟩
        rw [← hsx] at htx
        have HTX := Lib.hid htx
        have HSX := Lib.hid hsx
        have HB := Lib.hid hB
        have HT := Lib.hid hT
        clear htx hsx hB hT Sr hbit
        go_wp2_with fail
        refine HTX.out.mono ?_
        rintro e w5 ⟨rfl, S5⟩
        obtain ⟨cap, w6, hcv, S6⟩ := conv_text S5 (List.replicate sz c) sz (List.length_replicate ..)
        rw [← HSX.out] at hcv
        have S7 : Sep w6 (storeA sp p s :: diskA p D :: thA (.slice (some ⟨w5.heap.size, 0, none⟩) sz cap) (List.replicate sz c) :: [storeA tp q t, diskA q G, oldA w]) := S6.pick [1, 2, 0, 3, 4, 5] 6 (by decide) rfl
        have HS7 := Lib.hid S7
        clear S5 S6 S7 hcell
        go_wp2_with fail
        refine (kSave HS7.out (holds_thA' _ sz cap _ (List.length_replicate ..)) HT.out.a (by unfold lastN; omega) (by rw [List.length_replicate]; omega)).mono ?_
        rintro e w8 ⟨rfl, D8, s8, K8, S8⟩
        have S9 : Sep w8 (storeA tp q t :: diskA q G :: thA (.slice (some ⟨w5.heap.size, 0, none⟩) sz cap) (List.replicate sz c) :: [storeA sp p s8, diskA p D8, oldA w]) := S8.pick [3, 4, 2, 0, 1, 5] 6 (by decide) rfl
        have HS9 := Lib.hid S9
        have HK8 := Lib.hid K8
        clear S8 S9 K8 hcv
        go_wp2_with fail
        refine (kSave HS9.out (holds_thA' _ sz cap _ (List.length_replicate ..)) HT.out.b (by have := HB.out; unfold lastN; omega) (by rw [List.length_replicate]; omega)).mono ?_
        rintro e w9 ⟨rfl, G9, t9, K9, S9⟩
        have hck : c.toNat = k := by have := HC.out; omega
        obtain ⟨b0, b1, hT2⟩ := twin_save HT.out (by omega) hsz5 hck HK8.out K9
        have S10 : Sep w9 (diskA p D8 :: storeA sp p s8 :: storeA tp q t9 :: diskA q G9 :: [oldA w]) := S9.pick [4, 3, 0, 1, 5] 6 (by decide) rfl
        have har := area_sep S10 hT2.a.calm
        rw [hT2.a.row] at har
        obtain ⟨st, hst⟩ : ∃ st : ByteArray, st = ⟨(b0 ++ (b1 ++ ar)).toArray⟩ := ⟨_, rfl⟩
        rw [← hst] at har
        have HAR := Lib.hid har
        have HST := Lib.hid hst
        have HT2 := Lib.hid hT2
        clear K9 S9 S10 har hst hT2 hck
        go_wp2_with fail
        refine HAR.out.mono ?_
        rintro e w10 ⟨rfl, D10, hs10, S10⟩
        have S11 : Sep w10 (diskA q G9 :: diskA p D10 :: storeA sp p s8 :: storeA tp q t9 :: [oldA w]) := S10.pick [3, 0, 1, 2, 4] 5 (by decide) rfl
        have har := area_sep S11 HT2.out.b.calm
        rw [HT2.out.b.row, ← HST.out] at har
        have HAR2 := Lib.hid har
        have HS10 := Lib.hid hs10
        clear S10 S11 har hs10
        go_wp2_with fail
        refine HAR2.out.mono ?_
        rintro e w11 ⟨rfl, G11, hs11, S11⟩
        have S12 : Sep w11 [storeA sp p s8, diskA p D10, storeA tp q t9, diskA q G11, oldA w] := S11.pick [2, 1, 3, 0, 4] 5 (by decide) rfl
        have HS12 := Lib.hid S12
        have HS11 := Lib.hid hs11
        clear S11 S12 hs11
        go_wp2_with fail
        go_roundw
        case rel =>
          have T := HT2.out
          exact ⟨k + 1, tp, D10, G11, s8, t9, b0, b1, ar, by omega, by omega, by go_num, rfl, HS12.out, Lib.hid ⟨B + 2, by have := HB.out; omega, { T with a := T.a.same HS10.out, b := T.b.same HS11.out }⟩⟩
        case measure => simp [intOf]; omega
    · have HSr := Lib.hid Sr
      clear Sr
      by_cases h1 : k < na
      · have hl1 : (k : Int) < (na : Int) := by omega
        have hl8 : ¬ (k : Int) < 15 := by omega
        clear hlt
        go_wp2
        go_ret
        exact ⟨rfl, HSr.out.pick [4] 5 (by decide) rfl⟩
      · have hl1 : ¬ (k : Int) < (na : Int) := by omega
        clear hlt
        go_wp2
        go_ret
        exact ⟨rfl, HSr.out.pick [4] 5 (by decide) rfl⟩
theorem StoreAgain_walk (W : World) (a : Option Addr) (la : List Int) (ca : Nat) (opens : Int) (ha : NumsAt .i64 W a la) (hla : la.length ≤ 9223372036854775807) :
    Calls Try.prog 8 #[.slice a la.length ca, .int .i64 opens] W fun e w' => e = .returned (.bool true) ∧ Below W.heap.size W w' :=
  (again_walk W _ (Sep.start W) a la ca opens ha hla rfl).mono fun e w' h => ⟨h.1, h.2.fin⟩
end Go.Proofs.Ytnekelndcpmonaa
