/- StorePlays: the walk. -/
import Derived.Test.YtnekelndcpmonaaMg15
import Derived.Test.YtnekelndcpmonaaRefE
set_option linter.all false
namespace Go.Proofs.Ytnekelndcpmonaa
open Go.RowKit
set_option linter.unusedVariables false

theorem held_below {W0 a b : World} {g i : Nat} {v : Value} (hg : g < W0.heap.size) (h : Below W0.heap.size W0 a ∧ a.cell? ⟨g, i, none⟩ = some v) (hb : Below a.heap.size a b) : Below W0.heap.size W0 b ∧ b.cell? ⟨g, i, none⟩ = some v :=
  ⟨bgo h.1 hb, (hb.cell (p := ⟨g, i, none⟩) (Nat.lt_of_lt_of_le hg h.1.size)).trans h.2⟩
structure PlaysI (D : Dk) (n z : Nat) (s : Sto) (a0 a1 : List UInt8) (nr k : Nat) : Prop where
  st : StI D n z s a0 a1 (List.replicate nr 0) (2 + 2 * k)
  neg : s.count = 0 → s.is = -1
  pos : 0 < s.count → 0 ≤ s.is
  len : s.thing.length ≤ 3000
  rest : nr = nr
theorem plays_same {D D' : Dk} {n z : Nat} {s : Sto} {a0 a1 : List UInt8} {nr k : Nat} (h : PlaysI D n z s a0 a1 nr k) (g : Same D D') : PlaysI D' n z s a0 a1 nr (k + 1) :=
  ⟨(h.st.same g).mono (by omega), h.neg, h.pos, h.len, rfl⟩
theorem plays_same0 {D D' : Dk} {n z : Nat} {s : Sto} {a0 a1 : List UInt8} {nr k : Nat} (h : PlaysI D n z s a0 a1 nr k) (g : Same D D') : PlaysI D' n z s a0 a1 nr k :=
  ⟨h.st.same g, h.neg, h.pos, h.len, rfl⟩
structure PlaysS (D : Dk) (n z : Nat) (s : Sto) (a0 a1 : List UInt8) (nr k nx : Nat) (a : List UInt8) : Prop where
  st : PlaysI D n z s a0 a1 nr k
  nx : nx ≤ 40
  len : a.length = 512 * z
theorem plays_save1 {D D' : Dk} {n z : Nat} {s s' : Sto} {a0 a1 l : List UInt8} {nr k : Nat} (h : PlaysI D n z s a0 a1 nr k) (hi : s.is = 0) (K : KSaved D n z s a0 a1 (List.replicate nr 0) (2 + 2 * k) l D' s') (hk : k < 15) (hl : l.length ≤ 3000) :
    PlaysS D' n z s' a0 (logB s.j1.next [recS (s.count + 1) l] a1) nr (k + 1) s.j1.next a1 ∧ s'.j0.next = s.j0.next ∧ s'.j1.next = s.j1.next + 2 ∧ s'.is = 1 ∧ s.count ≤ 40 := by
  have e := K.st
  rw [if_pos hi, if_pos hi] at e
  have i := K.is
  rw [if_pos hi] at i
  have n0 := K.next0
  have n1 := K.next1
  rw [if_pos hi] at n0 n1
  have hc := K.count
  obtain ⟨u1, m1, e1, f1, g1⟩ := h.st.j1
  obtain ⟨o0, o1, k1, _, _, k4, k5⟩ := h.st.kept
  have kc := kept_count k4 k5
  have i2 : s.count = (kept o0 o1).2.1 := congrArg (·.2.1) k1
  exact ⟨⟨⟨e.mono (by omega), fun h0 => by omega, fun _ => by rw [i]; decide, by rw [K.thing]; exact hl, rfl⟩, by rw [e1]; dsimp only; omega, h.st.A1.len⟩, n0, n1, i, by omega⟩
theorem plays_save0 {D D' : Dk} {n z : Nat} {s s' : Sto} {a0 a1 l : List UInt8} {nr k : Nat} (h : PlaysI D n z s a0 a1 nr k) (hi : s.is ≠ 0) (K : KSaved D n z s a0 a1 (List.replicate nr 0) (2 + 2 * k) l D' s') (hk : k < 15) (hl : l.length ≤ 3000) :
    PlaysS D' n z s' (logB s.j0.next [recS (s.count + 1) l] a0) a1 nr (k + 1) s.j0.next a0 ∧ s'.j0.next = s.j0.next + 2 ∧ s'.j1.next = s.j1.next ∧ s'.is = 0 ∧ s.count ≤ 40 := by
  have e := K.st
  rw [if_neg hi, if_neg hi] at e
  have i := K.is
  rw [if_neg hi] at i
  have n0 := K.next0
  have n1 := K.next1
  rw [if_neg hi] at n0 n1
  have hc := K.count
  obtain ⟨u1, m1, e1, f1, g1⟩ := h.st.j0
  obtain ⟨o0, o1, k1, _, _, k4, k5⟩ := h.st.kept
  have kc := kept_count k4 k5
  have i2 : s.count = (kept o0 o1).2.1 := congrArg (·.2.1) k1
  exact ⟨⟨⟨e.mono (by omega), fun h0 => by omega, fun _ => by rw [i]; decide, by rw [K.thing]; exact hl, rfl⟩, by rw [e1]; dsimp only; omega, h.st.A0.len⟩, n0, n1, i, by omega⟩
def sv (l : List UInt8) : Value := .string ⟨l.toArray⟩
set_option maxRecDepth 20000 in
set_option maxHeartbeats 8000000 in
theorem plays_walk (w : World) (R : List Asn) (S : Sep w R) (nn : Int) (a : Option Addr) (la : List Int) (ca : Nat) (ha : NumsAt .i64 w a la) (hla : la.length ≤ 9223372036854775807) (hR : R = [oldA w]) (k7 n z nz nr : Nat) (hk : Go.bits .and .i64 nn 65535 = (k7 : Int)) (hn : n = 4 + k7 % 10) (hz : z = n / 2) (hnz : nz = 512 * (z - 1)) (hnr : nr = 512 * (n - 2 * z)) :
    Calls Try.prog 3 #[.int .i64 nn, .slice a la.length ca] w fun e w' => e = .returned (.bool true) ∧ Sep w' R := by
  subst hR
  obtain ⟨na, hna⟩ : ∃ na, na = la.length := ⟨_, rfl⟩
  rw [← hna]
  rw [← hna] at hla
  have hk0 : (0 : Int) ≤ (k7 : Int) := by omega
  have hn6 : (4 : Int) + (k7 : Int) % 10 = (n : Int) := by omega
  have hn0 : (0 : Int) ≤ (n : Int) := by omega
  have hnb : (n : Int) ≤ 13 := by omega
  have hz2 : (n : Int) / 2 = (z : Int) := by omega
  have hz0 : (0 : Int) ≤ (z : Int) := by omega
  have hzb : (z : Int) ≤ 6 := by omega
  have hnz2 : (512 : Int) * ((z : Int) - 1) = (nz : Int) := by omega
  have hnr2 : (512 : Int) * ((n : Int) - 2 * (z : Int)) = (nr : Int) := by omega
  have HN : Hid (4 ≤ n ∧ n ≤ 13 ∧ z = n / 2 ∧ nz = 512 * (z - 1) ∧ nr = 512 * (n - 2 * z)) := Lib.hid (by omega)
  have HNA := Lib.hid hna
  have HA := Lib.hid ha
  have HS := Lib.hid S
  clear hna ha S hn hz hnz hnr
  go_enter Try.func3, Try.ntmps3
  go_wp2_with fail
  refine (shown4_sep HS.out).mono ?_
  rintro e w1 ⟨rfl, S1⟩
  have HS1 := Lib.hid S1
  clear S1
  go_wp2_with fail
  refine (new_sep HS1.out n (n : Int) rfl (by have := HN.out; omega) (by have := HN.out; omega)).mono ?_
  rintro e w2 ⟨p, rfl, S2⟩
  have HS2 := Lib.hid S2
  clear S2
  go_wp2_with fail
  refine (kFormat HS2.out (Same.refl _) HN.out.2.2.1 HN.out.1 (by have := HN.out.2.1; omega)).mono ?_
  rintro e w3 ⟨sp, rfl, D3, I3, S3⟩
  have hmk := run_make_zeros w3 nz (by have := HN.out; omega)
  have S4 := made_bytes S3 nz (by have := HN.out; omega)
  obtain ⟨w4, hw4⟩ : ∃ w4, w4 = w3.alloc (.cells ((List.replicate nz (0 : UInt8)).map byteV).toArray 5) := ⟨_, rfl⟩
  rw [← hw4] at hmk S4
  have tr : (convert 31 9 (.slice (some ⟨w3.heap.size, 0, none⟩) nz nz)).run Try.prog w4 = _ := run_string S4.bytes.reads nz nz (List.length_replicate ..)
  obtain ⟨sz0, hsz0⟩ : ∃ s : ByteArray, s = ⟨(List.replicate nz (0 : UInt8)).toArray⟩ := ⟨_, rfl⟩
  rw [← hsz0] at tr
  have HS4 := Lib.hid S4.drop
  have HI3 := Lib.hid I3
  have HSZ0 := Lib.hid hsz0
  obtain ⟨bg, hbg⟩ : ∃ bg : ByteArray, bg = ⟨(pic 1 startN []).toArray⟩ := ⟨_, rfl⟩
  have cB := fun (W : World) => refBegin 1 1 W rfl (by omega)
  rw [← hbg] at cB
  have CB := Lib.hid cB
  have HBG := Lib.hid hbg
  clear S3 I3 hw4 hsz0 S4 hbg cB
  go_wp2_with fail
  refine (CB.out _).mono ?_
  rintro e w5 ⟨rfl, b5⟩
  have S5 := HS4.out.below b5
  obtain ⟨sh, hsh⟩ : ∃ s : ByteArray, s = ⟨(blankA z).toArray⟩ := ⟨_, rfl⟩
  have hcat : bg ++ sz0 = sh := by rw [HBG.out, HSZ0.out, hsh, cat_string, HN.out.2.2.2.1]; rfl
  have hs1 : bg.size = 512 := by rw [HBG.out, size_string, begin_len]
  have hs2 : sz0.size = nz := by rw [HSZ0.out, size_string, List.length_replicate]
  have hs3 : ¬ (9223372036854775807 < 512 + nz) := by have := HN.out; omega
  have HS5 := Lib.hid S5
  have HSH := Lib.hid hsh
  clear b5 S5 tr hmk hsh
  go_wp2_with fail
  refine (CB.out _).mono ?_
  rintro e w6 ⟨rfl, b6⟩
  have S6 := HS5.out.below b6
  have HS6 := Lib.hid S6
  clear b6 S6
  have S7 := HS6.out.alloc #[.string sh, .string sh] 34
  have hmk := run_make_zeros (w6.alloc (.cells #[.string sh, .string sh] 34)) nr (by have := HN.out; omega)
  have S8 := made_bytes S7 nr (by have := HN.out; omega)
  obtain ⟨gb, hgb⟩ : ∃ gb, gb = (w6.alloc (.cells #[.string sh, .string sh] 34)).heap.size := ⟨_, rfl⟩
  obtain ⟨w8, hw8⟩ : ∃ w8, w8 = (w6.alloc (.cells #[.string sh, .string sh] 34)).alloc (.cells ((List.replicate nr (0 : UInt8)).map byteV).toArray 5) := ⟨_, rfl⟩
  rw [← hgb, ← hw8] at hmk S8
  have tr : (convert 31 9 (.slice (some ⟨gb, 0, none⟩) nr nr)).run Try.prog w8 = _ := run_string S8.bytes.reads nr nr (List.length_replicate ..)
  obtain ⟨sr, hsr⟩ : ∃ s : ByteArray, s = ⟨(List.replicate nr (0 : UInt8)).toArray⟩ := ⟨_, rfl⟩
  rw [← hsr] at tr
  have S9 := S8.drop.alloc #[.int .u64 2, .int .u64 2] 35
  have HSR := Lib.hid hsr
  have HS9 := Lib.hid S9
  clear hgb hw8 hsr S7 S8 S9
  go_wp2_with fail
  obtain ⟨nb, hnb⟩ : ∃ nb, nb = w8.heap.size := ⟨_, rfl⟩
  obtain ⟨hb, hhb⟩ : ∃ hb, hb = w6.heap.size := ⟨_, rfl⟩
  obtain ⟨w9, hw9⟩ : ∃ w9, w9 = w8.alloc (.cells #[.int .u64 2, .int .u64 2] 35) := ⟨_, rfl⟩
  have S9 := HS9.out
  rw [← hnb, ← hhb, ← hw9] at S9
  rw [← hnb, ← hhb, ← hw9]
  have HS10 := Lib.hid S9
  clear S9 HS9 hnb hhb hw9 tr hmk hk hn6 hz2
  go_loopw [15, 16, 17, 18] (fun qv cv lv iv wr => ∃ (k : Nat) (D : Dk) (s : Sto) (a0 a1 : List UInt8) (q : Int), k ≤ na ∧ k ≤ 15 ∧ iv = .int .i64 (k : Int) ∧ qv = .int .i64 q ∧ cv = .int .u64 (s.count : Int) ∧ lv = sv s.thing ∧ (q = 0 ∧ s.is = 0 ∨ q = 1 ∧ s.is ≠ 0) ∧
    Sep wr [storeA sp p s, diskA p D, blkA hb #[sv a0, sv a1] 34, blkA nb #[.int .u64 (s.j0.next : Int), .int .u64 (s.j1.next : Int)] 35, oldA w] ∧ Hid (PlaysI D n z s a0 a1 nr k)) (fun _ _ _ iv _ => na - (intOf iv).toNat)
  case atStart =>
    refine ⟨0, D3, stoNew z (jOf 0 z 1 []) (jOf z z 1 []), blankA z, blankA z, 1, Nat.zero_le _, Nat.zero_le _, rfl, rfl, rfl, rfl, .inr ⟨rfl, ?_⟩, ?_, Lib.hid ?_⟩
    · show (-1 : Int) ≠ 0
      decide
    · have h := HS10.out
      rw [HSH.out] at h
      exact h.pick [2, 3, 1, 0, 4] 5 (by decide) rfl
    · have h := HI3.out
      rw [← HN.out.2.2.2.2] at h
      exact ⟨h, fun _ => rfl, fun h => absurd h (Nat.lt_irrefl 0), Nat.zero_le _, rfl⟩
  case round =>
    obtain ⟨k, D, s, a0, a1, q, hk1, hk15, rfl, rfl, rfl, rfl, hq, Sr, HI⟩ := hrel
    by_cases hlt : k < na ∧ k < 15
    · obtain ⟨hlt1, hlt8⟩ := hlt
      have hl1 : (k : Int) < (na : Int) := by omega
      have hl8 : (k : Int) < 15 := by omega
      have hk0 : (0 : Int) ≤ (k : Int) := by omega
      obtain ⟨ab, ao, rfl, hx⟩ := HA.out k (by rw [← HNA.out]; exact hlt1)
      have hcell := (Sr.up4.old.cell (p := ⟨ab, ao + k, none⟩) (World.block_lt_of_cell? _ _ hx)).trans hx
      obtain ⟨x, hxe⟩ : ∃ x, x = la.getD k 0 := ⟨_, rfl⟩
      rw [← hxe] at hcell
      obtain ⟨kk, sz, hkk, hsz, hsz5, hkk0⟩ := and_500 x 3000 (by omega)
      obtain ⟨c, hc⟩ : ∃ c, c = UInt8.ofNat k := ⟨_, rfl⟩
      have hcv : ((c.toNat : Nat) : Int) = (k : Int) := by rw [hc]; exact low8 k (by omega)
      have htx := text_sep Sr sz c _ _ hsz hcv.symm (by omega)
      obtain ⟨sx, hsx⟩ : ∃ sx : ByteArray, sx = ⟨(List.replicate sz c).toArray⟩ := ⟨_, rfl⟩
      rw [← hsx] at htx
      have hss : sx.size = sz := by rw [hsx, size_string, List.length_replicate]
      obtain ⟨cnt, hcnt⟩ : ∃ cnt, cnt = s.count := ⟨_, rfl⟩
      obtain ⟨ls, hls⟩ : ∃ ls : ByteArray, ls = ⟨s.thing.toArray⟩ := ⟨_, rfl⟩
      have hlsv : sv s.thing = .string ls := by rw [hls]; rfl
      rw [hlsv, ← hcnt]
      have HTX := Lib.hid htx
      have HSX := Lib.hid hsx
      have HC := Lib.hid hcv
      have HCN := Lib.hid hcnt
      have HLS := Lib.hid hls
      have HSr := Lib.hid Sr
      have w1 : IntKind.i64.wrap ((z : Int) - 1) = (z : Int) - 1 := by rw [IntKind.wrap_i64]; omega
      have w2 : IntKind.i64.wrap (nz : Int) = (nz : Int) := by rw [IntKind.wrap_i64]; have := HN.out; omega
      have w3 : IntKind.i64.wrap ((nz : Int) - 24) = (nz : Int) - 24 := by rw [IntKind.wrap_i64]; have := HN.out; omega
      have hnz0 : (0 : Int) ≤ (nz : Int) := by omega
      have hnzb : (nz : Int) ≤ 5000 := by have := HN.out; omega
      have hsz0 : (0 : Int) ≤ (sz : Int) := by omega
      have hszb : (sz : Int) < 3000 := by omega
      have HW := Lib.hid (And.intro w1 (And.intro w2 w3))
      clear hx hxe hc hcv htx hsx Sr hcnt hls hlsv w1 w2 w3
      go_wp2_with fail
      refine HTX.out.mono ?_
      rintro e w5 ⟨rfl, S5⟩
      obtain ⟨cap, w6, hcvt, S6⟩ := conv_text S5 (List.replicate sz c) sz (List.length_replicate ..)
      rw [← HSX.out] at hcvt
      by_cases hfit : sz + 24 ≤ nz
      · have hnf : ¬ (nz : Int) - 24 < (sz : Int) := by omega
        have S7 : Sep w6 (storeA sp p s :: diskA p D :: thA (.slice (some ⟨w5.heap.size, 0, none⟩) sz cap) (List.replicate sz c) :: [blkA hb #[sv a0, sv a1] 34, blkA nb #[.int .u64 (s.j0.next : Int), .int .u64 (s.j1.next : Int)] 35, oldA w]) := S6.pick [1, 2, 0, 3, 4, 5] 6 (by decide) rfl
        have HS7 := Lib.hid S7
        have HFIT := Lib.hid hfit
        clear S5 S6 S7 hcell hfit
        go_wp2_with fail
        refine (kSave HS7.out (holds_thA' _ sz cap _ (List.length_replicate ..)) HI.out.st (by unfold lastN; omega) (by rw [List.length_replicate]; have := HFIT.out; have := HN.out; omega)).mono ?_
        rintro e w8 ⟨rfl, D8, s8, K8, S8⟩
        clear hcvt
        rcases hq with ⟨rfl, hi⟩ | ⟨rfl, hi⟩
        · as_aux_lemma =>
            obtain ⟨nx, hnx⟩ : ∃ nx, nx = s.j1.next := ⟨_, rfl⟩
            obtain ⟨cn1, hcn1⟩ : ∃ c, c = s.count + 1 := ⟨_, rfl⟩
            obtain ⟨hK, hn0n, hn1n, hi8, hcb⟩ := plays_save1 HI.out hi K8 (by omega) (by rw [List.length_replicate]; omega)
            rw [← hnx] at hK
            rw [← hnx] at hn1n
            rw [← hcn1] at hK
            have hnxb := hK.nx
            have hah := hK.len
            obtain ⟨rec, hrec⟩ : ∃ rec, rec = recS cn1 (List.replicate sz c) := ⟨_, rfl⟩
            rw [← hrec] at hK
            have hrl : rec.length = 8 + sz := by rw [hrec, recS_len, List.length_replicate]
            have c0 := S8.up4.blk_cell 1
            have f0 := S8.up4.blk_free 1
            have d0 := S8.up3.blk_cell 1
            have g0 := S8.up3.blk_free 1
            simp at c0 d0
            rw [← hnx] at c0
            obtain ⟨xh, hxh⟩ : ∃ x : ByteArray, x = ⟨a1.toArray⟩ := ⟨_, rfl⟩
            have hxv : sv a1 = .string xh := by rw [hxh]; rfl
            rw [hxv] at d0
            have HXH := Lib.hid hxv
            clear hxv
            obtain ⟨bgs, hbgs⟩ : ∃ x : ByteArray, x = ⟨(pic nx startN []).toArray⟩ := ⟨_, rfl⟩
            obtain ⟨bys, hbys⟩ : ∃ x : ByteArray, x = ⟨(lowL cn1 8).toArray⟩ := ⟨_, rfl⟩
            obtain ⟨rcs, hrcs⟩ : ∃ x : ByteArray, x = ⟨rec.toArray⟩ := ⟨_, rfl⟩
            obtain ⟨pcs, hpcs⟩ : ∃ x : ByteArray, x = ⟨(pic (nx + 1) rec.length rec).toArray⟩ := ⟨_, rfl⟩
            obtain ⟨ps, hps⟩ : ∃ x : ByteArray, x = ⟨(pic nx startN [] ++ pic (nx + 1) rec.length rec).toArray⟩ := ⟨_, rfl⟩
            have hpg : pages [rec] = (rec.length + 527) / 512 := by simp [pages]
            obtain ⟨pl, hpl⟩ : ∃ pl, pl = 512 * (1 + pages [rec]) := ⟨_, rfl⟩
            have hpll : (pic nx startN [] ++ pic (nx + 1) rec.length rec).length = pl := by rw [List.length_append, begin_len, pic_len, hpl]; simp only [pages]; omega
            have cBg := fun (W : World) => refBegin nx (nx : Int) W rfl (by omega)
            have cBy := fun (W : World) => refBytes cn1 (cn1 : Int) W rfl (by omega)
            have cRc := fun (W : World) => refRecord (nx + 1) ((nx : Int) + 1) rec W (by omega) (by omega) (by omega)
            rw [← hbgs] at cBg
            rw [← hbys] at cBy
            rw [← hrcs, ← hpcs] at cRc
            have hcat1 : bys ++ sx = rcs := by rw [hbys, HSX.out, cat_string, hrcs, hrec]; rfl
            have hcat2 : bgs ++ pcs = ps := by rw [hbgs, hpcs, cat_string, hps]
            have hz1 : bys.size = 8 := by rw [hbys, size_string, lowL_len]
            have hz2 : bgs.size = 512 := by rw [hbgs, size_string, begin_len]
            obtain ⟨pcl, hpcl⟩ : ∃ n, n = (pic (nx + 1) rec.length rec).length := ⟨_, rfl⟩
            have hz3 : pcs.size = pcl := by rw [hpcs, size_string, hpcl]
            have hpb : pcl ≤ 100000 := by rw [hpcl, pic_len]; omega
            have ht1 : ¬ 9223372036854775807 < 8 + sz := by omega
            have ht2 : ¬ 9223372036854775807 < 512 + pcl := by omega
            have hz4 : ps.size = pl := by rw [hps, size_string, hpll]
            have hpl1 : pl ≤ xh.size := by rw [hxh, size_string, hah, hpl, hpg]; have := HFIT.out; have := HN.out; omega
            have hplb : pl ≤ 100000 := by rw [hpl, hpg]; omega
            obtain ⟨xt, hxt⟩ : ∃ x : ByteArray, x = ⟨(a1.drop pl).toArray⟩ := ⟨_, rfl⟩
            have hsl := slice_tox xh pl (pl : Int) rfl hpl1
            rw [show xh.extract pl xh.size = xt by rw [hxt, hxh, ext_list, size_string, List.take_length]] at hsl
            obtain ⟨xn, hxn⟩ : ∃ x : ByteArray, x = ⟨(logB nx [rec] a1).toArray⟩ := ⟨_, rfl⟩
            have hcat3 : ps ++ xt = xn := by
              rw [hps, hxt, cat_string, hxn, hpl]
              unfold logB
              simp only [recs, List.append_nil, List.append_assoc]
            have hxs : xt.size ≤ 100000 := by rw [hxt, size_string, List.length_drop, hah]; have := HN.out; omega
            have ht3 : ¬ 9223372036854775807 < pl + xt.size := by omega
            obtain ⟨nx2, hnx2⟩ : ∃ m, m = nx + 2 := ⟨_, rfl⟩
            have e2 : (nx : Int) + 2 = (nx2 : Int) := by omega
            have e1 : (cnt : Int) + 1 = (cn1 : Int) := by rw [hcn1, HCN.out]; omega
            have e3 : IntKind.u64.wrap ((nx : Int) + 1) = (nx : Int) + 1 := by rw [IntKind.wrap_u64]; omega
            have hn0' : (0 : Int) ≤ (nx : Int) := by omega
            have hn1' : (nx : Int) ≤ 40 := by omega
            have hcc0 : (0 : Int) ≤ (cnt : Int) := by omega
            have hcc1 : (cnt : Int) ≤ 40 := by have := HCN.out; omega
            have hnlt : nb < w8.heap.size := S8.up4.blk_lt
            have hblt : hb < w8.heap.size := S8.up3.blk_lt
            have hls8 : sx = ⟨s8.thing.toArray⟩ := by rw [K8.thing]; exact HSX.out
            have hcn8 : cn1 = s8.count := by rw [K8.count, hcn1]
            have hth8 : s8.thing.length ≤ 900000 := by rw [K8.thing, List.length_replicate]; omega
            have hsvn : sv (logB nx [rec] a1) = .string xn := by rw [hxn]; rfl
            have hsa := fun (W : World) (S : Sep W (storeA sp p s8 :: diskA p D8 :: blkA hb (#[sv a0, sv a1].setIfInBounds 1 (.string xn)) 34 :: blkA nb (#[.int .u64 (s.j0.next : Int), .int .u64 (s.j1.next : Int)].setIfInBounds 1 (.int .u64 (nx2 : Int))) 35 :: [oldA w])) => (show Sep W (storeA sp p s8 :: diskA p D8 :: blkA hb #[sv (a0), sv (logB nx [rec] a1)] 34 :: blkA nb #[.int .u64 (s8.j0.next : Int), .int .u64 (s8.j1.next : Int)] 35 :: [oldA w]) by
              rw [hsvn, hn0n, hn1n, ← hnx2]; exact S)
            have CBg := Lib.hid cBg
            have CBy := Lib.hid cBy
            have CRc := Lib.hid cRc
            have HSA := Lib.hid hsa
            have HKK := Lib.hid hK.st
            have HLS8 := Lib.hid hls8
            have HCN8 := Lib.hid hcn8
            have HTH8 := Lib.hid hth8
            have HI8 := Lib.hid hi8
            have HS8 := Lib.hid S8
            have HCB : Hid (0 < cn1) := Lib.hid (by omega)
            clear cBg cBy cRc hsa hls8 hcn8 hth8 hi8 S8 hK hn0n hn1n hsvn hnx2 hnx hcn1 hrec hxh hbgs hbys hrcs hpcs hps hpl hxt hxn hpcl hpll hah hrl hxs hplb hpb hpl1 hi K8 hcb hnxb hpg HS7
            go_wp2_with fail
            go_region_held (fun w' => Below w8.heap.size w8 w' ∧ w'.cell? ⟨nb, 1, none⟩ = some (.int .u64 (nx : Int))) (first | assumption | exact ⟨(Below.refl _ _).drew, c0⟩)
              (first
                | (go_at_call 13; refine (CBg.out _).mono ?_; rintro e w20 ⟨rfl, b20⟩; have hh := held_below hnlt (by first | assumption | exact ⟨(Below.refl _ _).drew, c0⟩) b20)
                | (go_at_call 17; refine (CBy.out _).mono ?_; rintro e w20 ⟨rfl, b20⟩; have hh := held_below hnlt (by first | assumption | exact ⟨(Below.refl _ _).drew, c0⟩) b20)
                | (go_at_call 16; refine (CRc.out _).mono ?_; rintro e w20 ⟨rfl, b20⟩; have hh := held_below hnlt (by first | assumption | exact ⟨(Below.refl _ _).drew, c0⟩) b20))
            have S20 := HS8.out.below hh.1
            have S21 := S20.up4.blk_set 1 (.int .u64 (nx2 : Int))
            have S22 := S21.up4.blk_set 1 (.string xn)
            have c0' := hh.2
            have f0' := S20.up4.blk_free 1
            have d0' := S21.up4.blk_cell 1
            have g0' := S21.up4.blk_free 1
            simp at d0'
            rw [show sv a1 = .string xh from HXH.out] at d0'
            have HSa := Lib.hid (HSA.out _ (S22.pick [2, 3, 0, 1, 5] 6 (by decide) rfl))
            clear S20 S21 S22 hh b20 c0 f0 d0 g0 e3 hcat1 hcat2 hz1 hz2 hz3 ht1 ht2
            obtain ⟨x0, hx0⟩ : ∃ x0 : ByteArray, x0 = ⟨(a0).toArray⟩ := ⟨_, rfl⟩
            obtain ⟨x1, hx1⟩ : ∃ x1 : ByteArray, x1 = ⟨(logB nx [rec] a1).toArray⟩ := ⟨_, rfl⟩
            have hv0 : sv (a0) = .string x0 := by rw [hx0]; rfl
            have hv1 : sv (logB nx [rec] a1) = .string x1 := by rw [hx1]; rfl
            obtain ⟨sall, hsall⟩ : ∃ x : ByteArray, x = ⟨((a0) ++ ((logB nx [rec] a1) ++ List.replicate nr 0)).toArray⟩ := ⟨_, rfl⟩
            have hcat : x0 ++ x1 ++ sr = sall := by rw [hx0, hx1, HSR.out, cat_string, cat_string, hsall, List.append_assoc]
            obtain ⟨hz5, hhz⟩ : ∃ h, h = 512 * z := ⟨_, rfl⟩
            have hs0 : x0.size = hz5 := by rw [hx0, size_string, HKK.out.st.A0.len, hhz]
            have hs1' : x1.size = hz5 := by rw [hx1, size_string, HKK.out.st.A1.len, hhz]
            have hs01 : (x0 ++ x1).size = hz5 + hz5 := by rw [ByteArray.size_append, hs0, hs1']
            have hsr : sr.size = nr := by rw [HSR.out, size_string, List.length_replicate]
            have hb1 : ¬ 9223372036854775807 < hz5 + hz5 := by have := HN.out; omega
            have hb2 : ¬ 9223372036854775807 < hz5 + hz5 + nr := by have := HN.out; omega
            have hrm : ((s8.size : Int) - 1) * 512 - 16 - 8 = (nz : Int) - 24 := by rw [HKK.out.st.size]; have := HN.out; omega
            have hrmc := fun (W : World) (R : List Asn) (S : Sep W (storeA sp p s8 :: R)) => sRoom_sep S (by rw [HKK.out.st.size]; have := HN.out; omega)
            rw [hrm] at hrmc
            have HRM := Lib.hid hrmc
            have HV := Lib.hid (And.intro hv0 hv1)
            have HSALL := Lib.hid hsall
            clear hx0 hx1 hv0 hv1 hsall hhz hrm hrmc
            have hld := fun (W : World) (q : Nat) (t : Sto) (R : List Asn) (S : Sep W (storeA q p t :: R)) (h1 : t.broken = false) (h2 : t.is = s8.is) (h3 : t.thing = s8.thing) => (show Calls Try.prog 18 #[.pointer (some ⟨q, 0, none⟩)] W (fun e w' => ∃ g cap, e = .returned (.tuple #[.slice g s8.thing.length cap, .int .i64 0]) ∧ Sep w' (bytesA (.slice g s8.thing.length cap) s8.thing.length s8.thing :: storeA q p t :: R)) by rw [← h3]; exact sLoad_sep S h1 (by rw [h2]; exact (by rw [HI8.out]; decide)) (by rw [h3]; exact HTH8.out))
            have HLD := Lib.hid hld
            clear hld
            go_wp2_with fail
            refine (HLD.out _ _ _ _ HSa.out HKK.out.st.broken rfl rfl).mono ?_
            rintro e wB ⟨gB, cB, rfl, SB⟩
            have SB' : Sep wB (diskA p D8 :: storeA sp p s8 :: blkA hb #[sv (a0), sv (logB nx [rec] a1)] 34 :: blkA nb #[.int .u64 (s8.j0.next : Int), .int .u64 (s8.j1.next : Int)] 35 :: bytesA (.slice gB s8.thing.length cB) s8.thing.length s8.thing :: [oldA w]) := SB.pick [2, 1, 3, 4, 0, 5] 6 (by decide) rfl
            have HSB := Lib.hid SB'
            clear SB SB'
            go_wp2_with fail
            refine (kOpen HSB.out HKK.out.st (by unfold lastN; omega)).mono ?_
            rintro e wC ⟨sq, rfl, DC, j0, j1, -, hsmC, ⟨IC, -, -⟩, SC⟩
            have SC' : Sep wC (diskA p DC :: storeA sp p s8 :: storeA sq p (stoOf z j0 j1 (s8.is, s8.count, s8.thing)) :: blkA hb #[sv (a0), sv (logB nx [rec] a1)] 34 :: blkA nb #[.int .u64 (s8.j0.next : Int), .int .u64 (s8.j1.next : Int)] 35 :: bytesA (.slice gB s8.thing.length cB) s8.thing.length s8.thing :: [oldA w]) := SC.pick [1, 2, 0, 3, 4, 5, 6] 7 (by decide) rfl
            have c0 := SC'.up3.blk_cell 0
            have c1 := SC'.up3.blk_cell 1
            simp at c0 c1
            rw [HV.out.1] at c0
            rw [HV.out.2] at c1
            have har := area_sep SC'.drew IC.calm
            rw [IC.row, ← HSALL.out] at har
            have HAR := Lib.hid har
            have HSMC := Lib.hid hsmC
            obtain ⟨w1, w2, w3⟩ := HW.out
            clear SC SC' har hsmC HSB
            go_wp2_with fail
            go_region_held (fun w' => w'.cell? ⟨hb, 0, none⟩ = some (.string x0) ∧ w'.cell? ⟨hb, 1, none⟩ = some (.string x1)) (first | assumption | exact ⟨c0, c1⟩ | exact ⟨d0, d1⟩)
              (first
                | (go_at_call 20; refine HAR.out.mono ?_; rintro e w15 ⟨rfl, D5, hs5, S15⟩; have d0 := S15.up3.blk_cell 0; have d1 := S15.up3.blk_cell 1; simp at d0 d1; rw [HV.out.1] at d0; rw [HV.out.2] at d1; have HS15 := Lib.hid S15; have HS5 := Lib.hid hs5; clear S15 hs5)
                | (go_at_call 21; refine (HRM.out _ _ HS15.out.up1).mono ?_; rintro e w16 ⟨rfl, rfl⟩))
            clear w1 w2 w3 hcat hs01
            go_wp2_with fail
            refine (HLD.out _ _ _ _ HS15.out.up2 rfl rfl rfl).mono ?_
            rintro e wE ⟨gE, cE, rfl, SE⟩
            have tr1 : (convert 31 9 (.slice gB s8.thing.length cB)).run Try.prog wE = .ok (.string ⟨s8.thing.toArray⟩) wE := run_string SE.up6.bytes.reads _ cB rfl
            have tr2 : (convert 31 9 (.slice gE s8.thing.length cE)).run Try.prog wE = .ok (.string ⟨s8.thing.toArray⟩) wE := run_string SE.bytes.reads _ cE rfl
            rw [← HLS8.out] at tr1 tr2
            have hcp : 0 < cn1 := HCB.out
            have hcp2 : (0 : Int) < ((cn1 : Nat) : Int) := by omega
            have hcp3 : (((cn1 : Nat) : Int) == 0) = false := by simp; omega
            have HSE := Lib.hid SE
            clear SE hcp
            go_wp2_with fail
            go_roundw
            case rel =>
              refine ⟨k + 1, D5, s8, a0, logB nx [rec] a1, 1, by omega, by omega, by go_num, rfl, by rw [HCN8.out], by rw [HLS8.out]; rfl, .inr ⟨rfl, by rw [HI8.out]; decide⟩, ?_, Lib.hid (plays_same0 HKK.out (HSMC.out.trans HS5.out))⟩
              exact HSE.out.pick [3, 2, 4, 5, 7] 8 (by decide) rfl
            case measure => simp [intOf]; omega
        · as_aux_lemma =>
            obtain ⟨nx, hnx⟩ : ∃ nx, nx = s.j0.next := ⟨_, rfl⟩
            obtain ⟨cn1, hcn1⟩ : ∃ c, c = s.count + 1 := ⟨_, rfl⟩
            obtain ⟨hK, hn0n, hn1n, hi8, hcb⟩ := plays_save0 HI.out hi K8 (by omega) (by rw [List.length_replicate]; omega)
            rw [← hnx] at hK
            rw [← hnx] at hn0n
            rw [← hcn1] at hK
            have hnxb := hK.nx
            have hah := hK.len
            obtain ⟨rec, hrec⟩ : ∃ rec, rec = recS cn1 (List.replicate sz c) := ⟨_, rfl⟩
            rw [← hrec] at hK
            have hrl : rec.length = 8 + sz := by rw [hrec, recS_len, List.length_replicate]
            have c0 := S8.up4.blk_cell 0
            have f0 := S8.up4.blk_free 0
            have d0 := S8.up3.blk_cell 0
            have g0 := S8.up3.blk_free 0
            simp at c0 d0
            rw [← hnx] at c0
            obtain ⟨xh, hxh⟩ : ∃ x : ByteArray, x = ⟨a0.toArray⟩ := ⟨_, rfl⟩
            have hxv : sv a0 = .string xh := by rw [hxh]; rfl
            rw [hxv] at d0
            have HXH := Lib.hid hxv
            clear hxv
            obtain ⟨bgs, hbgs⟩ : ∃ x : ByteArray, x = ⟨(pic nx startN []).toArray⟩ := ⟨_, rfl⟩
            obtain ⟨bys, hbys⟩ : ∃ x : ByteArray, x = ⟨(lowL cn1 8).toArray⟩ := ⟨_, rfl⟩
            obtain ⟨rcs, hrcs⟩ : ∃ x : ByteArray, x = ⟨rec.toArray⟩ := ⟨_, rfl⟩
            obtain ⟨pcs, hpcs⟩ : ∃ x : ByteArray, x = ⟨(pic (nx + 1) rec.length rec).toArray⟩ := ⟨_, rfl⟩
            obtain ⟨ps, hps⟩ : ∃ x : ByteArray, x = ⟨(pic nx startN [] ++ pic (nx + 1) rec.length rec).toArray⟩ := ⟨_, rfl⟩
            have hpg : pages [rec] = (rec.length + 527) / 512 := by simp [pages]
            obtain ⟨pl, hpl⟩ : ∃ pl, pl = 512 * (1 + pages [rec]) := ⟨_, rfl⟩
            have hpll : (pic nx startN [] ++ pic (nx + 1) rec.length rec).length = pl := by rw [List.length_append, begin_len, pic_len, hpl]; simp only [pages]; omega
            have cBg := fun (W : World) => refBegin nx (nx : Int) W rfl (by omega)
            have cBy := fun (W : World) => refBytes cn1 (cn1 : Int) W rfl (by omega)
            have cRc := fun (W : World) => refRecord (nx + 1) ((nx : Int) + 1) rec W (by omega) (by omega) (by omega)
            rw [← hbgs] at cBg
            rw [← hbys] at cBy
            rw [← hrcs, ← hpcs] at cRc
            have hcat1 : bys ++ sx = rcs := by rw [hbys, HSX.out, cat_string, hrcs, hrec]; rfl
            have hcat2 : bgs ++ pcs = ps := by rw [hbgs, hpcs, cat_string, hps]
            have hz1 : bys.size = 8 := by rw [hbys, size_string, lowL_len]
            have hz2 : bgs.size = 512 := by rw [hbgs, size_string, begin_len]
            obtain ⟨pcl, hpcl⟩ : ∃ n, n = (pic (nx + 1) rec.length rec).length := ⟨_, rfl⟩
            have hz3 : pcs.size = pcl := by rw [hpcs, size_string, hpcl]
            have hpb : pcl ≤ 100000 := by rw [hpcl, pic_len]; omega
            have ht1 : ¬ 9223372036854775807 < 8 + sz := by omega
            have ht2 : ¬ 9223372036854775807 < 512 + pcl := by omega
            have hz4 : ps.size = pl := by rw [hps, size_string, hpll]
            have hpl1 : pl ≤ xh.size := by rw [hxh, size_string, hah, hpl, hpg]; have := HFIT.out; have := HN.out; omega
            have hplb : pl ≤ 100000 := by rw [hpl, hpg]; omega
            obtain ⟨xt, hxt⟩ : ∃ x : ByteArray, x = ⟨(a0.drop pl).toArray⟩ := ⟨_, rfl⟩
            have hsl := slice_tox xh pl (pl : Int) rfl hpl1
            rw [show xh.extract pl xh.size = xt by rw [hxt, hxh, ext_list, size_string, List.take_length]] at hsl
            obtain ⟨xn, hxn⟩ : ∃ x : ByteArray, x = ⟨(logB nx [rec] a0).toArray⟩ := ⟨_, rfl⟩
            have hcat3 : ps ++ xt = xn := by
              rw [hps, hxt, cat_string, hxn, hpl]
              unfold logB
              simp only [recs, List.append_nil, List.append_assoc]
            have hxs : xt.size ≤ 100000 := by rw [hxt, size_string, List.length_drop, hah]; have := HN.out; omega
            have ht3 : ¬ 9223372036854775807 < pl + xt.size := by omega
            obtain ⟨nx2, hnx2⟩ : ∃ m, m = nx + 2 := ⟨_, rfl⟩
            have e2 : (nx : Int) + 2 = (nx2 : Int) := by omega
            have e1 : (cnt : Int) + 1 = (cn1 : Int) := by rw [hcn1, HCN.out]; omega
            have e3 : IntKind.u64.wrap ((nx : Int) + 1) = (nx : Int) + 1 := by rw [IntKind.wrap_u64]; omega
            have hn0' : (0 : Int) ≤ (nx : Int) := by omega
            have hn1' : (nx : Int) ≤ 40 := by omega
            have hcc0 : (0 : Int) ≤ (cnt : Int) := by omega
            have hcc1 : (cnt : Int) ≤ 40 := by have := HCN.out; omega
            have hnlt : nb < w8.heap.size := S8.up4.blk_lt
            have hblt : hb < w8.heap.size := S8.up3.blk_lt
            have hls8 : sx = ⟨s8.thing.toArray⟩ := by rw [K8.thing]; exact HSX.out
            have hcn8 : cn1 = s8.count := by rw [K8.count, hcn1]
            have hth8 : s8.thing.length ≤ 900000 := by rw [K8.thing, List.length_replicate]; omega
            have hsvn : sv (logB nx [rec] a0) = .string xn := by rw [hxn]; rfl
            have hsa := fun (W : World) (S : Sep W (storeA sp p s8 :: diskA p D8 :: blkA hb (#[sv a0, sv a1].setIfInBounds 0 (.string xn)) 34 :: blkA nb (#[.int .u64 (s.j0.next : Int), .int .u64 (s.j1.next : Int)].setIfInBounds 0 (.int .u64 (nx2 : Int))) 35 :: [oldA w])) => (show Sep W (storeA sp p s8 :: diskA p D8 :: blkA hb #[sv (logB nx [rec] a0), sv (a1)] 34 :: blkA nb #[.int .u64 (s8.j0.next : Int), .int .u64 (s8.j1.next : Int)] 35 :: [oldA w]) by
              rw [hsvn, hn0n, hn1n, ← hnx2]; exact S)
            have CBg := Lib.hid cBg
            have CBy := Lib.hid cBy
            have CRc := Lib.hid cRc
            have HSA := Lib.hid hsa
            have HKK := Lib.hid hK.st
            have HLS8 := Lib.hid hls8
            have HCN8 := Lib.hid hcn8
            have HTH8 := Lib.hid hth8
            have HI8 := Lib.hid hi8
            have HS8 := Lib.hid S8
            have HCB : Hid (0 < cn1) := Lib.hid (by omega)
            clear cBg cBy cRc hsa hls8 hcn8 hth8 hi8 S8 hK hn0n hn1n hsvn hnx2 hnx hcn1 hrec hxh hbgs hbys hrcs hpcs hps hpl hxt hxn hpcl hpll hah hrl hxs hplb hpb hpl1 hi K8 hcb hnxb hpg HS7
            go_wp2_with fail
            go_region_held (fun w' => Below w8.heap.size w8 w' ∧ w'.cell? ⟨nb, 0, none⟩ = some (.int .u64 (nx : Int))) (first | assumption | exact ⟨(Below.refl _ _).drew, c0⟩)
              (first
                | (go_at_call 13; refine (CBg.out _).mono ?_; rintro e w20 ⟨rfl, b20⟩; have hh := held_below hnlt (by first | assumption | exact ⟨(Below.refl _ _).drew, c0⟩) b20)
                | (go_at_call 17; refine (CBy.out _).mono ?_; rintro e w20 ⟨rfl, b20⟩; have hh := held_below hnlt (by first | assumption | exact ⟨(Below.refl _ _).drew, c0⟩) b20)
                | (go_at_call 16; refine (CRc.out _).mono ?_; rintro e w20 ⟨rfl, b20⟩; have hh := held_below hnlt (by first | assumption | exact ⟨(Below.refl _ _).drew, c0⟩) b20))
            have S20 := HS8.out.below hh.1
            have S21 := S20.up4.blk_set 0 (.int .u64 (nx2 : Int))
            have S22 := S21.up4.blk_set 0 (.string xn)
            have c0' := hh.2
            have f0' := S20.up4.blk_free 0
            have d0' := S21.up4.blk_cell 0
            have g0' := S21.up4.blk_free 0
            simp at d0'
            rw [show sv a0 = .string xh from HXH.out] at d0'
            have HSa := Lib.hid (HSA.out _ (S22.pick [2, 3, 0, 1, 5] 6 (by decide) rfl))
            clear S20 S21 S22 hh b20 c0 f0 d0 g0 e3 hcat1 hcat2 hz1 hz2 hz3 ht1 ht2
            obtain ⟨x0, hx0⟩ : ∃ x0 : ByteArray, x0 = ⟨(logB nx [rec] a0).toArray⟩ := ⟨_, rfl⟩
            obtain ⟨x1, hx1⟩ : ∃ x1 : ByteArray, x1 = ⟨(a1).toArray⟩ := ⟨_, rfl⟩
            have hv0 : sv (logB nx [rec] a0) = .string x0 := by rw [hx0]; rfl
            have hv1 : sv (a1) = .string x1 := by rw [hx1]; rfl
            obtain ⟨sall, hsall⟩ : ∃ x : ByteArray, x = ⟨((logB nx [rec] a0) ++ ((a1) ++ List.replicate nr 0)).toArray⟩ := ⟨_, rfl⟩
            have hcat : x0 ++ x1 ++ sr = sall := by rw [hx0, hx1, HSR.out, cat_string, cat_string, hsall, List.append_assoc]
            obtain ⟨hz5, hhz⟩ : ∃ h, h = 512 * z := ⟨_, rfl⟩
            have hs0 : x0.size = hz5 := by rw [hx0, size_string, HKK.out.st.A0.len, hhz]
            have hs1' : x1.size = hz5 := by rw [hx1, size_string, HKK.out.st.A1.len, hhz]
            have hs01 : (x0 ++ x1).size = hz5 + hz5 := by rw [ByteArray.size_append, hs0, hs1']
            have hsr : sr.size = nr := by rw [HSR.out, size_string, List.length_replicate]
            have hb1 : ¬ 9223372036854775807 < hz5 + hz5 := by have := HN.out; omega
            have hb2 : ¬ 9223372036854775807 < hz5 + hz5 + nr := by have := HN.out; omega
            have hrm : ((s8.size : Int) - 1) * 512 - 16 - 8 = (nz : Int) - 24 := by rw [HKK.out.st.size]; have := HN.out; omega
            have hrmc := fun (W : World) (R : List Asn) (S : Sep W (storeA sp p s8 :: R)) => sRoom_sep S (by rw [HKK.out.st.size]; have := HN.out; omega)
            rw [hrm] at hrmc
            have HRM := Lib.hid hrmc
            have HV := Lib.hid (And.intro hv0 hv1)
            have HSALL := Lib.hid hsall
            clear hx0 hx1 hv0 hv1 hsall hhz hrm hrmc
            have hld := fun (W : World) (q : Nat) (t : Sto) (R : List Asn) (S : Sep W (storeA q p t :: R)) (h1 : t.broken = false) (h2 : t.is = s8.is) (h3 : t.thing = s8.thing) => (show Calls Try.prog 18 #[.pointer (some ⟨q, 0, none⟩)] W (fun e w' => ∃ g cap, e = .returned (.tuple #[.slice g s8.thing.length cap, .int .i64 0]) ∧ Sep w' (bytesA (.slice g s8.thing.length cap) s8.thing.length s8.thing :: storeA q p t :: R)) by rw [← h3]; exact sLoad_sep S h1 (by rw [h2]; exact (by rw [HI8.out]; decide)) (by rw [h3]; exact HTH8.out))
            have HLD := Lib.hid hld
            clear hld
            go_wp2_with fail
            refine (HLD.out _ _ _ _ HSa.out HKK.out.st.broken rfl rfl).mono ?_
            rintro e wB ⟨gB, cB, rfl, SB⟩
            have SB' : Sep wB (diskA p D8 :: storeA sp p s8 :: blkA hb #[sv (logB nx [rec] a0), sv (a1)] 34 :: blkA nb #[.int .u64 (s8.j0.next : Int), .int .u64 (s8.j1.next : Int)] 35 :: bytesA (.slice gB s8.thing.length cB) s8.thing.length s8.thing :: [oldA w]) := SB.pick [2, 1, 3, 4, 0, 5] 6 (by decide) rfl
            have HSB := Lib.hid SB'
            clear SB SB'
            go_wp2_with fail
            refine (kOpen HSB.out HKK.out.st (by unfold lastN; omega)).mono ?_
            rintro e wC ⟨sq, rfl, DC, j0, j1, -, hsmC, ⟨IC, -, -⟩, SC⟩
            have SC' : Sep wC (diskA p DC :: storeA sp p s8 :: storeA sq p (stoOf z j0 j1 (s8.is, s8.count, s8.thing)) :: blkA hb #[sv (logB nx [rec] a0), sv (a1)] 34 :: blkA nb #[.int .u64 (s8.j0.next : Int), .int .u64 (s8.j1.next : Int)] 35 :: bytesA (.slice gB s8.thing.length cB) s8.thing.length s8.thing :: [oldA w]) := SC.pick [1, 2, 0, 3, 4, 5, 6] 7 (by decide) rfl
            have c0 := SC'.up3.blk_cell 0
            have c1 := SC'.up3.blk_cell 1
            simp at c0 c1
            rw [HV.out.1] at c0
            rw [HV.out.2] at c1
            have har := area_sep SC'.drew IC.calm
            rw [IC.row, ← HSALL.out] at har
            have HAR := Lib.hid har
            have HSMC := Lib.hid hsmC
            obtain ⟨w1, w2, w3⟩ := HW.out
            clear SC SC' har hsmC HSB
            go_wp2_with fail
            go_region_held (fun w' => w'.cell? ⟨hb, 0, none⟩ = some (.string x0) ∧ w'.cell? ⟨hb, 1, none⟩ = some (.string x1)) (first | assumption | exact ⟨c0, c1⟩ | exact ⟨d0, d1⟩)
              (first
                | (go_at_call 20; refine HAR.out.mono ?_; rintro e w15 ⟨rfl, D5, hs5, S15⟩; have d0 := S15.up3.blk_cell 0; have d1 := S15.up3.blk_cell 1; simp at d0 d1; rw [HV.out.1] at d0; rw [HV.out.2] at d1; have HS15 := Lib.hid S15; have HS5 := Lib.hid hs5; clear S15 hs5)
                | (go_at_call 21; refine (HRM.out _ _ HS15.out.up1).mono ?_; rintro e w16 ⟨rfl, rfl⟩))
            clear w1 w2 w3 hcat hs01
            go_wp2_with fail
            refine (HLD.out _ _ _ _ HS15.out.up2 rfl rfl rfl).mono ?_
            rintro e wE ⟨gE, cE, rfl, SE⟩
            have tr1 : (convert 31 9 (.slice gB s8.thing.length cB)).run Try.prog wE = .ok (.string ⟨s8.thing.toArray⟩) wE := run_string SE.up6.bytes.reads _ cB rfl
            have tr2 : (convert 31 9 (.slice gE s8.thing.length cE)).run Try.prog wE = .ok (.string ⟨s8.thing.toArray⟩) wE := run_string SE.bytes.reads _ cE rfl
            rw [← HLS8.out] at tr1 tr2
            have hcp : 0 < cn1 := HCB.out
            have hcp2 : (0 : Int) < ((cn1 : Nat) : Int) := by omega
            have hcp3 : (((cn1 : Nat) : Int) == 0) = false := by simp; omega
            have HSE := Lib.hid SE
            clear SE hcp
            go_wp2_with fail
            go_roundw
            case rel =>
              refine ⟨k + 1, D5, s8, logB nx [rec] a0, a1, 0, by omega, by omega, by go_num, rfl, by rw [HCN8.out], by rw [HLS8.out]; rfl, .inl ⟨rfl, HI8.out⟩, ?_, Lib.hid (plays_same0 HKK.out (HSMC.out.trans HS5.out))⟩
              exact HSE.out.pick [3, 2, 4, 5, 7] 8 (by decide) rfl
            case measure => simp [intOf]; omega
      · have hnf : (nz : Int) - 24 < (sz : Int) := by omega
        have S7 : Sep w6 (storeA sp p s :: [diskA p D, blkA hb #[sv a0, sv a1] 34, blkA nb #[.int .u64 (s.j0.next : Int), .int .u64 (s.j1.next : Int)] 35, oldA w]) := S6.pick [1, 2, 3, 4, 5] 6 (by decide) rfl
        have HS7 := Lib.hid S7
        clear S5 S6 S7 hcell hfit
        have hroom : ((s.size : Int) - 1) * 512 - 16 - 8 < (sz : Int) := by rw [HI.out.st.size]; omega
        have HROOM := Lib.hid hroom
        clear hroom
        go_wp2_with fail
        refine (sSave_full HS7.out HI.out.st.broken (by rw [HI.out.st.size]; omega) HROOM.out).mono ?_
        rintro e w8 ⟨rfl, S8⟩
        have HSa := Lib.hid S8
        clear S8 hcvt HS7
        by_cases h0 : s.count = 0
        · as_aux_lemma =>
            skip
            obtain ⟨x0, hx0⟩ : ∃ x0 : ByteArray, x0 = ⟨(a0).toArray⟩ := ⟨_, rfl⟩
            obtain ⟨x1, hx1⟩ : ∃ x1 : ByteArray, x1 = ⟨(a1).toArray⟩ := ⟨_, rfl⟩
            have hv0 : sv (a0) = .string x0 := by rw [hx0]; rfl
            have hv1 : sv (a1) = .string x1 := by rw [hx1]; rfl
            obtain ⟨sall, hsall⟩ : ∃ x : ByteArray, x = ⟨((a0) ++ ((a1) ++ List.replicate nr 0)).toArray⟩ := ⟨_, rfl⟩
            have hcat : x0 ++ x1 ++ sr = sall := by rw [hx0, hx1, HSR.out, cat_string, cat_string, hsall, List.append_assoc]
            obtain ⟨hz5, hhz⟩ : ∃ h, h = 512 * z := ⟨_, rfl⟩
            have hs0 : x0.size = hz5 := by rw [hx0, size_string, HI.out.st.A0.len, hhz]
            have hs1' : x1.size = hz5 := by rw [hx1, size_string, HI.out.st.A1.len, hhz]
            have hs01 : (x0 ++ x1).size = hz5 + hz5 := by rw [ByteArray.size_append, hs0, hs1']
            have hsr : sr.size = nr := by rw [HSR.out, size_string, List.length_replicate]
            have hb1 : ¬ 9223372036854775807 < hz5 + hz5 := by have := HN.out; omega
            have hb2 : ¬ 9223372036854775807 < hz5 + hz5 + nr := by have := HN.out; omega
            have hrm : ((s.size : Int) - 1) * 512 - 16 - 8 = (nz : Int) - 24 := by rw [HI.out.st.size]; have := HN.out; omega
            have hrmc := fun (W : World) (R : List Asn) (S : Sep W (storeA sp p s :: R)) => sRoom_sep S (by rw [HI.out.st.size]; have := HN.out; omega)
            rw [hrm] at hrmc
            have HRM := Lib.hid hrmc
            have HV := Lib.hid (And.intro hv0 hv1)
            have HSALL := Lib.hid hsall
            clear hx0 hx1 hv0 hv1 hsall hhz hrm hrmc
            go_wp2_with fail
            refine (sLoad_none HSa.out HI.out.st.broken (HI.out.neg h0)).mono ?_
            rintro e wB ⟨rfl, rfl⟩
            have SB := HSa.out
            have SB' : Sep _ (diskA p D :: storeA sp p s :: blkA hb #[sv (a0), sv (a1)] 34 :: blkA nb #[.int .u64 (s.j0.next : Int), .int .u64 (s.j1.next : Int)] 35 :: [oldA w]) := SB.pick [1, 0, 2, 3, 4] 5 (by decide) rfl
            have HSB := Lib.hid SB'
            clear SB SB'
            go_wp2_with fail
            refine (kOpen HSB.out HI.out.st (by unfold lastN; omega)).mono ?_
            rintro e wC ⟨sq, rfl, DC, j0, j1, -, hsmC, ⟨IC, -, -⟩, SC⟩
            have SC' : Sep wC (diskA p DC :: storeA sp p s :: storeA sq p (stoOf z j0 j1 (s.is, s.count, s.thing)) :: blkA hb #[sv (a0), sv (a1)] 34 :: blkA nb #[.int .u64 (s.j0.next : Int), .int .u64 (s.j1.next : Int)] 35 :: [oldA w]) := SC.pick [1, 2, 0, 3, 4, 5] 6 (by decide) rfl
            have c0 := SC'.up3.blk_cell 0
            have c1 := SC'.up3.blk_cell 1
            simp at c0 c1
            rw [HV.out.1] at c0
            rw [HV.out.2] at c1
            have har := area_sep SC'.drew IC.calm
            rw [IC.row, ← HSALL.out] at har
            have HAR := Lib.hid har
            have HSMC := Lib.hid hsmC
            obtain ⟨w1, w2, w3⟩ := HW.out
            clear SC SC' har hsmC HSB
            go_wp2_with fail
            go_region_held (fun w' => w'.cell? ⟨hb, 0, none⟩ = some (.string x0) ∧ w'.cell? ⟨hb, 1, none⟩ = some (.string x1)) (first | assumption | exact ⟨c0, c1⟩ | exact ⟨d0, d1⟩)
              (first
                | (go_at_call 20; refine HAR.out.mono ?_; rintro e w15 ⟨rfl, D5, hs5, S15⟩; have d0 := S15.up3.blk_cell 0; have d1 := S15.up3.blk_cell 1; simp at d0 d1; rw [HV.out.1] at d0; rw [HV.out.2] at d1; have HS15 := Lib.hid S15; have HS5 := Lib.hid hs5; clear S15 hs5)
                | (go_at_call 21; refine (HRM.out _ _ HS15.out.up1).mono ?_; rintro e w16 ⟨rfl, rfl⟩))
            clear w1 w2 w3 hcat hs01
            go_wp2_with fail
            refine (sLoad_none HS15.out.up2 rfl (HI.out.neg h0)).mono ?_
            rintro e wE ⟨rfl, rfl⟩
            have hc0 : cnt = 0 := by rw [HCN.out]; exact h0
            have hc1 : ((cnt : Nat) : Int) = 0 := by omega
            clear hc0
            go_wp2_with fail
            go_roundw
            case rel =>
              refine ⟨k + 1, D5, s, a0, a1, q, by omega, by omega, by go_num, rfl, by rw [h0]; rfl, by rw [HLS.out]; rfl, hq, ?_, Lib.hid (plays_same HI.out (HSMC.out.trans HS5.out))⟩
              exact HS15.out.pick [1, 0, 3, 4, 5] 6 (by decide) rfl
            case measure => simp [intOf]; omega
        · as_aux_lemma =>
            skip
            obtain ⟨x0, hx0⟩ : ∃ x0 : ByteArray, x0 = ⟨(a0).toArray⟩ := ⟨_, rfl⟩
            obtain ⟨x1, hx1⟩ : ∃ x1 : ByteArray, x1 = ⟨(a1).toArray⟩ := ⟨_, rfl⟩
            have hv0 : sv (a0) = .string x0 := by rw [hx0]; rfl
            have hv1 : sv (a1) = .string x1 := by rw [hx1]; rfl
            obtain ⟨sall, hsall⟩ : ∃ x : ByteArray, x = ⟨((a0) ++ ((a1) ++ List.replicate nr 0)).toArray⟩ := ⟨_, rfl⟩
            have hcat : x0 ++ x1 ++ sr = sall := by rw [hx0, hx1, HSR.out, cat_string, cat_string, hsall, List.append_assoc]
            obtain ⟨hz5, hhz⟩ : ∃ h, h = 512 * z := ⟨_, rfl⟩
            have hs0 : x0.size = hz5 := by rw [hx0, size_string, HI.out.st.A0.len, hhz]
            have hs1' : x1.size = hz5 := by rw [hx1, size_string, HI.out.st.A1.len, hhz]
            have hs01 : (x0 ++ x1).size = hz5 + hz5 := by rw [ByteArray.size_append, hs0, hs1']
            have hsr : sr.size = nr := by rw [HSR.out, size_string, List.length_replicate]
            have hb1 : ¬ 9223372036854775807 < hz5 + hz5 := by have := HN.out; omega
            have hb2 : ¬ 9223372036854775807 < hz5 + hz5 + nr := by have := HN.out; omega
            have hrm : ((s.size : Int) - 1) * 512 - 16 - 8 = (nz : Int) - 24 := by rw [HI.out.st.size]; have := HN.out; omega
            have hrmc := fun (W : World) (R : List Asn) (S : Sep W (storeA sp p s :: R)) => sRoom_sep S (by rw [HI.out.st.size]; have := HN.out; omega)
            rw [hrm] at hrmc
            have HRM := Lib.hid hrmc
            have HV := Lib.hid (And.intro hv0 hv1)
            have HSALL := Lib.hid hsall
            clear hx0 hx1 hv0 hv1 hsall hhz hrm hrmc
            have hld := fun (W : World) (q : Nat) (t : Sto) (R : List Asn) (S : Sep W (storeA q p t :: R)) (h1 : t.broken = false) (h2 : t.is = s.is) (h3 : t.thing = s.thing) => (show Calls Try.prog 18 #[.pointer (some ⟨q, 0, none⟩)] W (fun e w' => ∃ g cap, e = .returned (.tuple #[.slice g s.thing.length cap, .int .i64 0]) ∧ Sep w' (bytesA (.slice g s.thing.length cap) s.thing.length s.thing :: storeA q p t :: R)) by rw [← h3]; exact sLoad_sep S h1 (by rw [h2]; exact HI.out.pos (by omega)) (by rw [h3]; exact (by have := HI.out.len; omega)))
            have HLD := Lib.hid hld
            clear hld
            go_wp2_with fail
            refine (HLD.out _ _ _ _ HSa.out HI.out.st.broken rfl rfl).mono ?_
            rintro e wB ⟨gB, cB, rfl, SB⟩
            have SB' : Sep wB (diskA p D :: storeA sp p s :: blkA hb #[sv (a0), sv (a1)] 34 :: blkA nb #[.int .u64 (s.j0.next : Int), .int .u64 (s.j1.next : Int)] 35 :: bytesA (.slice gB s.thing.length cB) s.thing.length s.thing :: [oldA w]) := SB.pick [2, 1, 3, 4, 0, 5] 6 (by decide) rfl
            have HSB := Lib.hid SB'
            clear SB SB'
            go_wp2_with fail
            refine (kOpen HSB.out HI.out.st (by unfold lastN; omega)).mono ?_
            rintro e wC ⟨sq, rfl, DC, j0, j1, -, hsmC, ⟨IC, -, -⟩, SC⟩
            have SC' : Sep wC (diskA p DC :: storeA sp p s :: storeA sq p (stoOf z j0 j1 (s.is, s.count, s.thing)) :: blkA hb #[sv (a0), sv (a1)] 34 :: blkA nb #[.int .u64 (s.j0.next : Int), .int .u64 (s.j1.next : Int)] 35 :: bytesA (.slice gB s.thing.length cB) s.thing.length s.thing :: [oldA w]) := SC.pick [1, 2, 0, 3, 4, 5, 6] 7 (by decide) rfl
            have c0 := SC'.up3.blk_cell 0
            have c1 := SC'.up3.blk_cell 1
            simp at c0 c1
            rw [HV.out.1] at c0
            rw [HV.out.2] at c1
            have har := area_sep SC'.drew IC.calm
            rw [IC.row, ← HSALL.out] at har
            have HAR := Lib.hid har
            have HSMC := Lib.hid hsmC
            obtain ⟨w1, w2, w3⟩ := HW.out
            clear SC SC' har hsmC HSB
            go_wp2_with fail
            go_region_held (fun w' => w'.cell? ⟨hb, 0, none⟩ = some (.string x0) ∧ w'.cell? ⟨hb, 1, none⟩ = some (.string x1)) (first | assumption | exact ⟨c0, c1⟩ | exact ⟨d0, d1⟩)
              (first
                | (go_at_call 20; refine HAR.out.mono ?_; rintro e w15 ⟨rfl, D5, hs5, S15⟩; have d0 := S15.up3.blk_cell 0; have d1 := S15.up3.blk_cell 1; simp at d0 d1; rw [HV.out.1] at d0; rw [HV.out.2] at d1; have HS15 := Lib.hid S15; have HS5 := Lib.hid hs5; clear S15 hs5)
                | (go_at_call 21; refine (HRM.out _ _ HS15.out.up1).mono ?_; rintro e w16 ⟨rfl, rfl⟩))
            clear w1 w2 w3 hcat hs01
            go_wp2_with fail
            refine (HLD.out _ _ _ _ HS15.out.up2 rfl rfl rfl).mono ?_
            rintro e wE ⟨gE, cE, rfl, SE⟩
            have tr1 : (convert 31 9 (.slice gB s.thing.length cB)).run Try.prog wE = .ok (.string ⟨s.thing.toArray⟩) wE := run_string SE.up6.bytes.reads _ cB rfl
            have tr2 : (convert 31 9 (.slice gE s.thing.length cE)).run Try.prog wE = .ok (.string ⟨s.thing.toArray⟩) wE := run_string SE.bytes.reads _ cE rfl
            rw [← HLS.out] at tr1 tr2
            have hcp : 0 < cnt := by rw [HCN.out]; omega
            have hcp2 : (0 : Int) < ((cnt : Nat) : Int) := by omega
            have hcp3 : (((cnt : Nat) : Int) == 0) = false := by simp; omega
            have HSE := Lib.hid SE
            clear SE hcp
            go_wp2_with fail
            go_roundw
            case rel =>
              refine ⟨k + 1, D5, s, a0, a1, q, by omega, by omega, by go_num, rfl, by rw [HCN.out], by rw [HLS.out]; rfl, hq, ?_, Lib.hid (plays_same HI.out (HSMC.out.trans HS5.out))⟩
              exact HSE.out.pick [3, 2, 4, 5, 7] 8 (by decide) rfl
            case measure => simp [intOf]; omega
    · have HSr := Lib.hid Sr
      clear Sr
      by_cases h1 : k < na
      · have hl1 : (k : Int) < (na : Int) := by omega
        have hl8 : ¬ (k : Int) < 15 := by omega
        clear hlt
        go_wp2
        go_ret
        exact ⟨rfl, HSr.out.pick [4] 5 (by decide) rfl⟩
      · have hl1 : ¬ (k : Int) < (na : Int) := by omega
        clear hlt
        go_wp2
        go_ret
        exact ⟨rfl, HSr.out.pick [4] 5 (by decide) rfl⟩
theorem StorePlays_walk (W : World) (nn : Int) (a : Option Addr) (la : List Int) (ca : Nat) (ha : NumsAt .i64 W a la) (hla : la.length ≤ 9223372036854775807) :
    Calls Try.prog 3 #[.int .i64 nn, .slice a la.length ca] W fun e w' => e = .returned (.bool true) ∧ Below W.heap.size W w' := by
  obtain ⟨k, h7, hk⟩ := and_i64 nn 65535 (by omega)
  exact (plays_walk W _ (Sep.start W) nn a la ca ha hla rfl k _ _ _ _ hk rfl rfl rfl rfl).mono fun e w' h => ⟨h.1, h.2.fin⟩
end Go.Proofs.Ytnekelndcpmonaa
