/- JournalApart: the walk. -/
import Derived.Test.YtoihfamiclbffaaLawC
import Derived.Test.YtoihfamiclbffaaLog
import Derived.Test.YtoihfamiclbffaaStr
import Derived.Deep.RegionHeld
import Derived.Deep.RegionLaw
import Derived.Deep.QuietTactic
import Derived.Deep.CutBlock
import Derived.Deep.DeepCutAuto
import Derived.RegionTactic
namespace Go.Proofs.Ytoihfamiclbffaa
open Go.RowKit
set_option linter.unusedVariables false

/-- Two journals on one disk. -/
structure Two (D D0 : Dk) (k : Nat) (xs ys : List (List UInt8)) : Prop where
  calm : Calm D 24 k
  a : Log D 0 12 1 xs (List.replicate 6144 0)
  b : Log D 12 12 1 ys (List.replicate 6144 0)
  secs : D.secs = D0.secs
  len : xs.length + ys.length ≤ k
  xle : ∀ b ∈ xs, b.length ≤ 300
  yle : ∀ b ∈ ys, b.length ≤ 300
/-- Nothing of it is lost by a crash that keeps none. -/
structure Safe (D : Dk) (xs ys : List (List UInt8)) : Prop where
  calm : Calm D 24 20
  a : Log (D.crash []).start 0 12 1 xs (List.replicate 6144 0)
  b : Log (D.crash []).start 12 12 1 ys (List.replicate 6144 0)
  len : xs.length ≤ 10 ∧ ys.length ≤ 10
  xle : ∀ b ∈ xs, b.length ≤ 300
  yle : ∀ b ∈ ys, b.length ≤ 300
theorem mem_snoc {P : List UInt8 → Prop} {l : List (List UInt8)} {x : List UInt8} (h : ∀ b ∈ l, P b) (hx : P x) : ∀ b ∈ l ++ [x], P b := fun b hb => by
  rcases List.mem_append.1 hb with hb | hb
  · exact h b hb
  · rw [List.mem_singleton.1 hb]; exact hx
theorem two_a {D D0 : Dk} {k : Nat} {xs ys : List (List UInt8)} (h : Two D D0 k xs ys) (hk : k < 10) (x : List UInt8) (hx : x.length ≤ 300) : ∃ D', appendJ D (jOf 0 12 1 xs) x = (0, D', jOf 0 12 1 (xs ++ [x])) ∧ Two D' D0 (k + 1) (xs ++ [x]) ys := by
  have hl := h.len
  obtain ⟨D', h1, h2, h3, h4, h5⟩ := log_small (b := x) h.calm h.a (by omega) (by unfold lastN; omega) (by omega) (fun b hb => by have := h.xle b hb; omega) (by omega)
  exact ⟨D', h1, h2, h3, h.b.congr (fun i hi => h4 _ (by omega) (by omega)), h5.trans h.secs, by rw [List.length_append, List.length_singleton]; omega, mem_snoc h.xle hx, h.yle⟩
theorem two_b {D D0 : Dk} {k : Nat} {xs ys : List (List UInt8)} (h : Two D D0 k xs ys) (hk : k < 10) (x : List UInt8) (hx : x.length ≤ 300) : ∃ D', appendJ D (jOf 12 12 1 ys) x = (0, D', jOf 12 12 1 (ys ++ [x])) ∧ Two D' D0 (k + 1) xs (ys ++ [x]) := by
  have hl := h.len
  obtain ⟨D', h1, h2, h3, h4, h5⟩ := log_small (b := x) h.calm h.b (by omega) (by unfold lastN; omega) (by omega) (fun b hb => by have := h.yle b hb; omega) (by omega)
  exact ⟨D', h1, h2, h.a.congr (fun i hi => h4 _ (by omega) (by omega)), h3, h5.trans h.secs, by rw [List.length_append, List.length_singleton]; omega, h.xle, mem_snoc h.yle hx⟩
/-- Both formatted. -/
def TwoFmt (D2 D3 D4 : Dk) : Prop :=
  resetJ D2 ⟨12, 12, 0, 1, false⟩ = (0, D3, jOf 12 12 1 []) ∧ commitJ D3 (jOf 12 12 1 []) = (0, D4, jOf 12 12 1 []) ∧ Two D4 D4 0 [] [] ∧ Safe D4 [] []
theorem two_fmt {D2 : Dk} (g3 : Calm D2 24 0) (g4 : Log D2 0 12 1 [] (rowD (Dk.new 24) 0 12)) (g5 : ∀ i, i < 24 → i ≠ 0 → D2.now i = (Dk.new 24).now i) (ok : D2.Ok) : ∃ D3 D4, TwoFmt D2 D3 D4 := by
  obtain ⟨D3, D4, f1, f2, f3, f4, f5, f6, f7⟩ := log_format g3 ok (f := 12) (z := 12) (by omega) (by omega)
  rw [row_new 24 0 12 (by omega)] at g4
  have e : rowD D2 12 12 = List.replicate (512 * 12) 0 := by
    rw [← row_new 24 12 12 (by omega)]
    have : ∀ k, k ≤ 12 → rowD D2 12 k = rowD (Dk.new 24) 12 k := by
      intro k
      induction k with
      | zero => intro _; rfl
      | succ k ih => intro hk; rw [rowD, rowD, ih (by omega), g5 _ (by omega) (by omega)]
    exact this 12 (by omega)
  rw [e] at f4
  have ga : Log D4 0 12 1 [] (List.replicate 6144 0) := g4.congr (fun i hi => f5 _ (by omega) (by omega))
  refine ⟨D3, D4, f1, f2, ⟨f3, ga, f4, rfl, Nat.le_refl _, (fun b hb => by simp at hb), (fun b hb => by simp at hb)⟩, ⟨f3.mono (by omega), ga.crash f3 (fun i hi => f6 _ (by omega)), f4.crash f3 (fun i hi => f6 _ (by omega)), ⟨by show 0 ≤ 10; omega, by show 0 ≤ 10; omega⟩, (fun b hb => by simp at hb), (fun b hb => by simp at hb)⟩⟩
theorem two_commit {D D0 : Dk} {k : Nat} {xs ys : List (List UInt8)} (h : Two D D0 k xs ys) (hk : k ≤ 10) : commitJ D (jOf 0 12 1 xs) = (0, D.barrier, jOf 0 12 1 xs) ∧ Safe D.barrier xs ys := by
  have hl := h.len
  have c2 := h.calm.barrier
  refine ⟨log_commit h.calm, c2.mono (by omega), (h.a.barrier h.calm (by omega)).crash c2 (fun i hi => ?_), (h.b.barrier h.calm (by omega)).crash c2 (fun i hi => ?_), ⟨by omega, by omega⟩, h.xle, h.yle⟩
  · rw [barrier_secs h.calm _ (by omega), now_barrier h.calm _ (by omega)]
  · rw [barrier_secs h.calm _ (by omega), now_barrier h.calm _ (by omega)]
theorem two_lost {D D0 : Dk} {k : Nat} {xs ys : List (List UInt8)} (h : Two D D0 k xs ys) (hk : k ≤ 10) (h0 : Safe D0 [] []) : Safe D [] [] := by
  have e : ∀ i, (D.crash []).start.now i = (D0.crash []).start.now i := fun i => by rw [(crash_none h.calm).2, (crash_none h0.calm).2, h.secs]
  exact ⟨h.calm.mono (by omega), h0.a.congr (fun i _ => e _), h0.b.congr (fun i _ => e _), h0.len, h0.xle, h0.yle⟩
theorem log_end (m : Nat) (xs : List (List UInt8)) (h : ∀ b ∈ xs, b.length ≤ 300) (hl : xs.length ≤ 10) (h1 : 1 ≤ m) : oneB ((List.replicate 6144 (0 : UInt8)).drop (512 * (1 + pages xs))) (m + 1 + xs.length) = none := by
  refine one_num ?_
  rw [List.drop_replicate, List.take_replicate, numL_zeros]
  omega
theorem safe_a {D D' : Dk} {xs ys : List (List UInt8)} (h : Safe D xs ys) (hs : Same (D.crash []).start D') : ∃ D2, opnJ D' 0 12 = .ok xs D2 (jOf 0 12 1 xs) ∧ Same D' D2 ∧ D'.secs.length = 24 := by
  have c := hs.calm (crash_none h.calm).1
  obtain ⟨D2, h1, h2⟩ := log_open c (h.a.same hs) (by omega) (by omega) (by have := h.len.1; unfold lastN; omega) (fun b hb => by have := h.xle b hb; omega) (log_end 1 xs h.xle h.len.1 (by omega))
  exact ⟨D2, h1, h2, c.len⟩
theorem safe_b {D D' : Dk} {xs ys : List (List UInt8)} (h : Safe D xs ys) (hs : Same (D.crash []).start D') : ∃ D2, opnJ D' 12 12 = .ok ys D2 (jOf 12 12 1 ys) ∧ Same D' D2 ∧ D'.secs.length = 24 := by
  have c := hs.calm (crash_none h.calm).1
  obtain ⟨D2, h1, h2⟩ := log_open c (h.b.same hs) (by omega) (by omega) (by have := h.len.2; unfold lastN; omega) (fun b hb => by have := h.yle b hb; omega) (log_end 1 ys h.yle h.len.2 (by omega))
  exact ⟨D2, h1, h2, c.len⟩

/-- Bytes as strings. -/
def strV (b : List UInt8) : Value := .string ⟨b.toArray⟩
def strs (l : List (List UInt8)) : List Value := l.map strV
theorem strs_snoc (l : List (List UInt8)) (b : List UInt8) : strs (l ++ [b]) = strs l ++ [.string ⟨b.toArray⟩] := by simp [strs, strV]
theorem strs_at (l : List (List UInt8)) (i : Nat) (b : List UInt8) (h : l[i]? = some b) : (strs l)[i]? = some (.string ⟨b.toArray⟩) := by simp [strs, strV, h]
theorem strs_cell {w : World} {R : List Asn} {a : Option Addr} {n c : Nat} {xs : List (List UInt8)} (S : Sep w (ownA 9 1 (.slice a n c) n (strs xs) :: R)) (hn : xs.length = n) (i : Nat) (b : List UInt8) (h : xs[i]? = some b) :
    ∃ g, a = some ⟨g, 0, none⟩ ∧ w.cell? ⟨g, i, none⟩ = some (.string ⟨b.toArray⟩) := by
  have hi : i < n := by rw [← hn]; exact (List.getElem?_eq_some_iff.1 h).1
  have ho := S.own
  rcases ho.2 with ⟨_, e0⟩ | ⟨g, cap', cur, e, _, _, _⟩
  · omega
  · simp only [Value.slice.injEq] at e
    obtain ⟨rfl, _, rfl⟩ := e
    refine ⟨g, rfl, ?_⟩
    rw [World.ownsRow.cellAt ho i (by omega)]
    exact strs_at xs i b h
theorem infoStr : (Try.prog.info? 9).map (fun i => (i.zero, i.size, i.bytes)) = some (some (.string ByteArray.empty), 1, 16) := by kernel_rfl
theorem conv_list (l : List UInt8) (n : Nat) (hl : l.length = n) (W : World) : (convert 9 33 (.string ⟨l.toArray⟩)).run Try.prog W = .ok (.slice (some ⟨W.heap.size, 0, none⟩) n (grownCap W n 0 5)) (Lib.bytesWorld W 5 ⟨l.toArray⟩) := by
  have h := conv_string W ⟨l.toArray⟩
  have e : (⟨l.toArray⟩ : ByteArray).size = n := hl
  rw [e] at h
  exact h
theorem conv_list_at (l : List UInt8) (W : World) : BytesAt (Lib.bytesWorld W 5 ⟨l.toArray⟩) (some ⟨W.heap.size, 0, none⟩) l := conv_bytes W ⟨l.toArray⟩

set_option maxRecDepth 20000 in
set_option maxHeartbeats 8000000 in
theorem apart_walk (w : World) (R : List Asn) (S : Sep w R) (tn : Int) (cm : Bool) (a : Option Addr) (la : List ByteArray) (ca : Nat) (ha : StrsAt w a la) (hla : la.length ≤ 9223372036854775807) (hR : R = [oldA w]) :
    Calls Try.prog 7 #[.slice a la.length ca, .int .i64 tn, .bool cm] w fun e w' => e = .returned (.bool true) ∧ Sep w' R := by
  subst hR
  obtain ⟨na, hna⟩ : ∃ na, na = la.length := ⟨_, rfl⟩
  rw [← hna]
  rw [← hna] at hla
  have HNA := Lib.hid hna
  have HA := Lib.hid ha
  have HS := Lib.hid S
  clear hna ha S
  go_enter Try.func7, Try.ntmps7
  go_wp2_with fail
  refine (shown3_sep HS.out).mono ?_
  rintro e w1 ⟨rfl, S1⟩
  have HS1 := Lib.hid S1
  clear S1
  go_wp2_with fail
  refine (new_sep HS1.out 24 24 rfl (by omega) (by omega)).mono ?_
  rintro e w2 ⟨p, rfl, S2⟩
  obtain ⟨D1, D2, g1, g2, g3, g4, g5, g6, g7⟩ := log_format (Calm.new 24) (dk_len S2).1 (f := 0) (z := 12) (by omega) (by omega)
  have HS2 := Lib.hid S2
  have G1 := Lib.hid g1
  have G2 := Lib.hid g2
  have G3 := Lib.hid g3
  have G4 := Lib.hid g4
  have G5 := Lib.hid g5
  clear S2 g1 g2 g3 g4 g5 g6 g7
  go_wp2_with fail
  refine (format_sep HS2.out 0 12 _ _ rfl rfl (by omega) (by rw [(Calm.new 24).len]; omega) (Nat.zero_le _) D1 D2 _ _ G1.out G2.out).mono ?_
  rintro e w3 ⟨qa, rfl, S3⟩
  obtain ⟨D3, D4, f1, f2, f3, f4⟩ := two_fmt G3.out G4.out G5.out (dk_len S3.up1).1
  have HS3 := Lib.hid S3.up1
  have F1 := Lib.hid f1
  have F2 := Lib.hid f2
  have F3 := Lib.hid f3
  have F4 := Lib.hid f4
  clear S3 HS1 HS2 G1 G2 G4 G5 f1 f2 f3 f4
  go_wp2_with fail
  refine (format_sep HS3.out 12 12 _ _ rfl rfl (by omega) (by rw [G3.out.len]; omega) (by have := G3.out.waits; omega) D3 D4 _ _ F1.out F2.out).mono ?_
  rintro e w4 ⟨qb, rfl, S4⟩
  have HS4 := Lib.hid S4
  clear S4 HS3 F1 F2 G3
  have S5 := HS4.out.alloc #[.slice none 0 0, .slice none 0 0] 58
  obtain ⟨w5, hw5⟩ : ∃ w5, w5 = w4.alloc (.cells #[.slice none 0 0, .slice none 0 0] 58) := ⟨_, rfl⟩
  obtain ⟨ow, how⟩ : ∃ ow, ow = w4.heap.size := ⟨_, rfl⟩
  rw [← hw5, ← how] at S5
  have HW5 := Lib.hid hw5
  have HOW := Lib.hid how
  have S6 := ((S5.nilOwn 9 1).nilOwn 9 1).up2
  have HS6 := Lib.hid S6.up5.up4.up1.up5.dn2
  clear S5 S6 hw5 how HS4
  go_upto_block 0 with fail
  rw [← HW5.out, ← HOW.out]
  go_cut [15, 16, 17, 18] from 55 to 97 (fun i u16 u17 u18 wx => ∃ (D : Dk) (xs ys : List (List UInt8)) (v0 v1 : Value), Sep wx [jnA qa p (jOf 0 12 1 xs), jnA qb p (jOf 12 12 1 ys), diskA p D, blkA ow #[v0, v1] 58, ownA 9 1 v0 xs.length (strs xs), ownA 9 1 v1 ys.length (strs ys), oldA w] ∧ Hid (Two D D4 10 xs ys))
  case first =>
    go_wp2_with fail
    go_loopw [15] (fun i wr => ∃ (k : Nat) (D : Dk) (xs ys : List (List UInt8)) (v0 v1 : Value), k ≤ na ∧ k ≤ 10 ∧ i = .int .i64 (k : Int) ∧ Sep wr [jnA qa p (jOf 0 12 1 xs), jnA qb p (jOf 12 12 1 ys), diskA p D, blkA ow #[v0, v1] 58, ownA 9 1 v0 xs.length (strs xs), ownA 9 1 v1 ys.length (strs ys), oldA w] ∧ Hid (Two D D4 k xs ys)) (fun i _ => na - (intOf i).toNat)
    case atStart => exact ⟨0, D4, [], [], _, _, Nat.zero_le _, Nat.zero_le _, rfl, HS6.out, F3⟩
    case round =>
      obtain ⟨k, D, xs, ys, v0, v1, hk, hk8, rfl, Sr, HI⟩ := hrel
      by_cases hlt : k < na ∧ k < 10
      · obtain ⟨hlt1, hlt8⟩ := hlt
        have hlt8i : (k : Int) < 10 := by omega
        have hk1 : (k : Int) < (na : Int) := by omega
        have hk0 : (0 : Int) ≤ (k : Int) := by omega
        obtain ⟨ab, ao, rfl, hc⟩ := HA.out k (by have := HNA.out; omega)
        obtain ⟨x, hx⟩ : ∃ x, x = la.getD k ByteArray.empty := ⟨_, rfl⟩
        rw [← hx] at hc
        have hcr := Sr.up6.arg hc
        have HSr := Lib.hid Sr.drew
        obtain ⟨nc, hmin, hn1, hn2, hn3, hn4, hn5⟩ := cut_string x 300
        have hmin' : (if (300 : Int) < (x.size : Int) then (300 : Int) else (x.size : Int)) = (nc : Int) := hmin
        have hn1' : (nc : Int) ≤ 300 := by omega
        have hn2' : (nc : Int) ≤ (x.size : Int) := by omega
        have hn0' : (0 : Int) ≤ (nc : Int) := by omega
        obtain ⟨t, ht⟩ : ∃ t, t = x.data.toList.take 300 := ⟨_, rfl⟩
        rw [← ht] at hn3 hn4
        have hsl := slice_cut x nc t hn4 hn2
        have hcv := conv_list t nc hn3
        have Hcb := Lib.hid (conv_list_at t)
        have Hlen : Hid (t.length = nc) := Lib.hid hn3
        clear hc Sr hx hmin hn1 hn2 hn3 hn4 hn5 ht
        go_wp2_with fail
        go_region_held (fun w' => w'.cell? ⟨ab, ao + k, none⟩ = some (.string x)) (first | assumption | exact hcr) (fail)
        obtain ⟨kk, hkk1, hkk⟩ := and_i64 (tn / 2 ^ k) 1 (by omega)
        have hkk' : Go.bits .and .i64 (tn / 2 ^ k) 1 = (kk : Int) := hkk
        rcases (show kk = 0 ∨ kk = 1 by omega) with rfl | rfl
        · have hk00 : Go.bits .and .i64 (tn / 2 ^ k) 1 = 0 := hkk'
          clear hkk hkk' hkk1
          obtain ⟨D5, e1, e2⟩ := two_a HI.out hlt8 t (by have := Hlen.out; omega)
          have E1 := Lib.hid e1
          have E2 := Lib.hid e2
          have hjs : (jOf 0 12 1 xs).size ≤ 4096 ∧ (jOf 0 12 1 xs).used ≤ (jOf 0 12 1 xs).size ∧ (jOf 0 12 1 xs).from_ + (jOf 0 12 1 xs).size ≤ D.secs.length ∧ D.waits.length ≤ 80000 :=
            ⟨by show 12 ≤ 4096; omega, HI.out.a.fits, by rw [HI.out.calm.len]; show 0 + 12 ≤ 24; omega, by have := HI.out.calm.waits; omega⟩
          have HJ := Lib.hid hjs
          have HS7 := Lib.hid (HSr.out.up2.up1.below (conv_below _ ⟨t.toArray⟩))
          have hmel : xs.length ≤ 10 := by have := HI.out.len; omega
          clear e1 e2 hjs hcr
          go_wp2_with fail
          refine (append_sep HS7.out (Hcb.out wr.drew) Hlen.out (by simp) (by omega) HJ.out.1 HJ.out.2.1 HJ.out.2.2.1 HJ.out.2.2.2).mono ?_
          rw [E1.out]
          rintro e w8 ⟨rfl, S8⟩
          have S9 := S8.up2.up1
          have T := (S9.up4.alloc #[.string ⟨t.toArray⟩] 9).up1
          obtain ⟨ga, gc, hvj, hgl1, hgl2⟩ := ownsRow_slice S9.up4.own
          subst hvj
          have hcb := S9.up3.blk_cell 0
          have hfb := S9.up3.blk_free 0
          have hone : (Value.string ⟨t.toArray⟩).oneCell' = true := by rfl
          have hnew := Lib.hid (Sep.cell_new w8 (.string ⟨t.toArray⟩) 9)
          obtain ⟨i0, hi, hz0, hz1, hz2⟩ := info_parts infoStr
          have Hi := Lib.hid hi
          have Hz0 := Lib.hid hz0
          have Hz1 := Lib.hid hz1
          have Hz2 := Lib.hid hz2
          have Hone := Lib.hid hone
          have HT := Lib.hid T
          have hcbl := S9.up3.blk_lt
          clear hi hz0 hz1 hz2 hone T S8 S9 HS7
          simp at hcb
          go_wp2_with (at_builtin; refine Sep.wpList_append Try.underlying46 Hi.out Hz0.out Hz1.out Hz2.out rfl (by decide) rfl (.tmp 93) (.tmp 95) rfl HT.out rfl ⟨w8.heap.size, 0, none⟩ 1 1 [.string ⟨t.toArray⟩] rfl rfl hnew.out (by intro u hu; simp at hu; subst hu; exact Hone.out) (by unfold maxLen; omega) (by omega) ?next0)
          case next0 =>
            intro ga2 ca2 w9 S10 _ _ _ _
            have S11 := S10.up1.drop.up4
            have hcb := S11.blk_cell 0
            have hfb := S11.blk_free 0
            simp at hcb
            have S12 := S11.blk_set 0 (.slice ga2 (xs.length + 1) ca2)
            rw [← strs_snoc] at S12
            have e9 : (xs ++ [t]).length = xs.length + 1 := by simp
            have HE9 := Lib.hid e9
            have HS12 := Lib.hid S12.dn4.dn4
            clear S10 S11 S12 HT e9
            go_wp2
            go_roundw
            case rel => exact ⟨k + 1, D5, xs ++ [t], ys, .slice ga2 (xs.length + 1) ca2, v1, by omega, by omega, by go_num, by rw [HE9.out]; exact HS12.out, E2⟩
            case measure => simp [intOf]; omega
        · have hk00 : Go.bits .and .i64 (tn / 2 ^ k) 1 = 1 := hkk'
          clear hkk hkk' hkk1
          obtain ⟨D5, e1, e2⟩ := two_b HI.out hlt8 t (by have := Hlen.out; omega)
          have E1 := Lib.hid e1
          have E2 := Lib.hid e2
          have hjs : (jOf 12 12 1 ys).size ≤ 4096 ∧ (jOf 12 12 1 ys).used ≤ (jOf 12 12 1 ys).size ∧ (jOf 12 12 1 ys).from_ + (jOf 12 12 1 ys).size ≤ D.secs.length ∧ D.waits.length ≤ 80000 :=
            ⟨by show 12 ≤ 4096; omega, HI.out.b.fits, by rw [HI.out.calm.len]; show 12 + 12 ≤ 24; omega, by have := HI.out.calm.waits; omega⟩
          have HJ := Lib.hid hjs
          have HS7 := Lib.hid (HSr.out.dn2.below (conv_below _ ⟨t.toArray⟩))
          have hmel : ys.length ≤ 10 := by have := HI.out.len; omega
          clear e1 e2 hjs hcr
          go_wp2_with fail
          refine (append_sep HS7.out (Hcb.out wr.drew) Hlen.out (by simp) (by omega) HJ.out.1 HJ.out.2.1 HJ.out.2.2.1 HJ.out.2.2.2).mono ?_
          rw [E1.out]
          rintro e w8 ⟨rfl, S8⟩
          have S9 := S8.up2
          have T := (S9.up5.alloc #[.string ⟨t.toArray⟩] 9).up1
          obtain ⟨ga, gc, hvj, hgl1, hgl2⟩ := ownsRow_slice S9.up5.own
          subst hvj
          have hcb := S9.up3.blk_cell 1
          have hfb := S9.up3.blk_free 1
          have hone : (Value.string ⟨t.toArray⟩).oneCell' = true := by rfl
          have hnew := Lib.hid (Sep.cell_new w8 (.string ⟨t.toArray⟩) 9)
          obtain ⟨i0, hi, hz0, hz1, hz2⟩ := info_parts infoStr
          have Hi := Lib.hid hi
          have Hz0 := Lib.hid hz0
          have Hz1 := Lib.hid hz1
          have Hz2 := Lib.hid hz2
          have Hone := Lib.hid hone
          have HT := Lib.hid T
          have hcbl := S9.up3.blk_lt
          clear hi hz0 hz1 hz2 hone T S8 S9 HS7
          simp at hcb
          go_wp2_with (at_builtin; refine Sep.wpList_append Try.underlying46 Hi.out Hz0.out Hz1.out Hz2.out rfl (by decide) rfl (.tmp 93) (.tmp 95) rfl HT.out rfl ⟨w8.heap.size, 0, none⟩ 1 1 [.string ⟨t.toArray⟩] rfl rfl hnew.out (by intro u hu; simp at hu; subst hu; exact Hone.out) (by unfold maxLen; omega) (by omega) ?next1)
          case next1 =>
            intro ga2 ca2 w9 S10 _ _ _ _
            have S11 := S10.up1.drop.up4
            have hcb := S11.blk_cell 1
            have hfb := S11.blk_free 1
            simp at hcb
            have S12 := S11.blk_set 1 (.slice ga2 (ys.length + 1) ca2)
            rw [← strs_snoc] at S12
            have e9 : (ys ++ [t]).length = ys.length + 1 := by simp
            have HE9 := Lib.hid e9
            have HS12 := Lib.hid S12.dn4.dn5
            clear S10 S11 S12 HT e9
            go_wp2
            go_roundw
            case rel => exact ⟨k + 1, D5, xs, ys ++ [t], v0, .slice ga2 (ys.length + 1) ca2, by omega, by omega, by go_num, by rw [HE9.out]; exact HS12.out, E2⟩
            case measure => simp [intOf]; omega
      · have HSr := Lib.hid Sr
        clear Sr
        have HI3 : Hid (Two D D4 10 xs ys) := Lib.hid ⟨HI.out.calm.mono hk8, HI.out.a, HI.out.b, HI.out.secs, by have := HI.out.len; omega, HI.out.xle, HI.out.yle⟩
        by_cases hkl : k < na
        · have hk50 : ¬ (k : Int) < 10 := by omega
          have hk51 : (k : Int) < (na : Int) := by omega
          clear hlt
          go_wp2_with fail
          go_meet
          exact ⟨D, xs, ys, v0, v1, HSr.out, HI3⟩
        · have hkl' : ¬ (k : Int) < (na : Int) := by omega
          clear hlt
          go_wp2_with fail
          go_meet
          exact ⟨D, xs, ys, v0, v1, HSr.out, HI3⟩
  case rest =>
    obtain ⟨D, xs, ys, v0, v1, S, HI⟩ := hcut
    have HS := Lib.hid S
    clear S HS6 HA HNA
    go_upto_if 98 with (fail)
    go_cut [] from 98 to 101 (fun wx => ∃ (D : Dk) (xs ys : List (List UInt8)) (v0 v1 : Value), Sep wx [diskA p D, blkA ow #[v0, v1] 58, ownA 9 1 v0 xs.length (strs xs), ownA 9 1 v1 ys.length (strs ys), oldA w] ∧ Hid (Safe D xs ys))
    case first =>
      cases cm with
      | true =>
        obtain ⟨c1, c2⟩ := two_commit HI.out (Nat.le_refl _)
        have HC1 := Lib.hid c1
        have HC2 := Lib.hid c2
        clear c1 c2
        go_wp2_with fail
        refine (commit_sep HS.out.up2.up1).mono ?_
        rw [HC1.out]
        rintro e w8 ⟨rfl, S8⟩
        have HS8 := Lib.hid S8.drop.up1.drop
        clear S8
        go_wp2
        go_meet
        exact ⟨_, xs, ys, v0, v1, HS8.out, HC2⟩
      | false =>
        have HL := Lib.hid (two_lost HI.out (Nat.le_refl _) F4.out)
        have S8 := HS.out.drop.drop.up1
        have hcb0 := S8.blk_cell 0
        have hcb1 := S8.blk_cell 1
        have hfb0 := S8.blk_free 0
        have hfb1 := S8.blk_free 1
        simp at hcb0 hcb1
        have S9 := (S8.blk_set 0 (.slice none 0 0)).blk_set 1 (.slice none 0 0)
        have HS9 := Lib.hid (((S9.up2.drop.up2.drop.nilOwn 9 1).nilOwn 9 1)).up3.up3.up1
        clear S8 S9
        go_wp2
        go_meet
        exact ⟨_, [], [], _, _, HS9.out, HL⟩
    case rest =>
      obtain ⟨D, xs, ys, v0, v1, S, HI2⟩ := hcut
      obtain ⟨a0, c0, hv0, _, _⟩ := ownsRow_slice S.up2.own
      obtain ⟨a1, c1, hv1, _, _⟩ := ownsRow_slice S.up3.own
      subst hv0 hv1
      obtain ⟨nx, hnx⟩ : ∃ nx, nx = xs.length := ⟨_, rfl⟩
      obtain ⟨ny, hny⟩ : ∃ ny, ny = ys.length := ⟨_, rfl⟩
      rw [← hnx, ← hny] at S
      have hnx10 : (nx : Int) ≤ 10 := by have := HI2.out.len.1; omega
      have hny10 : (ny : Int) ≤ 10 := by have := HI2.out.len.2; omega
      have Hnx := Lib.hid hnx.symm
      have Hny := Lib.hid hny.symm
      have HS := Lib.hid S
      clear S hnx hny
      go_wp2_with fail
      refine (crash_nil HS.out).mono ?_
      rintro e w6 ⟨rfl, S6⟩
      have HS6 := Lib.hid S6
      clear S6
      go_wp2_with fail
      refine (start_sep HS6.out).mono ?_
      rintro e w7 ⟨rfl, S7⟩
      have HS7 := Lib.hid S7
      clear S7 HS6 HS
      go_wp2_with fail
      go_loopw [19] (fun i wr => ∃ (K : Int) (Dx : Dk), (K = 0 ∨ K = 1 ∨ K = 2) ∧ i = .int .i64 K ∧ Same (D.crash []).start Dx ∧ Sep wr [diskA p Dx, blkA ow #[.slice a0 nx c0, .slice a1 ny c1] 58, ownA 9 1 (.slice a0 nx c0) nx (strs xs), ownA 9 1 (.slice a1 ny c1) ny (strs ys), oldA w]) (fun i _ => 2 - (intOf i).toNat)
      case atStart => exact ⟨0, _, .inl rfl, rfl, Same.refl _, HS7.out⟩
      case round =>
        obtain ⟨K, Dx, hK, rfl, hsm, Sr⟩ := hrel
        rcases hK with rfl | rfl | rfl
        · obtain ⟨D6, e1, e2, e3⟩ := safe_a HI2.out hsm
          have E1 := Lib.hid e1
          have E2 := Lib.hid (hsm.trans e2)
          have E3 := Lib.hid e3
          have HSr := Lib.hid Sr
          clear e1 e2 e3 Sr hsm
          go_wp2_with fail
          refine (open_sep HSr.out 0 12 _ _ rfl rfl (by omega) (by omega) (by rw [E3.out]; omega)).mono ?_
          rw [E1.out]
          rintro e w8 ⟨q2, v, rs, rfl, hl, hok, ⟨ra, rcap, rfl⟩, S8⟩
          have hrl : rs.length = nx := by rw [← Hnx.out, ← hl, List.length_map]
          rw [hrl]
          rw [hrl] at S8
          have hcb := S8.up3.blk_cell 0
          have hfb := S8.up3.blk_free 0
          simp at hcb
          have HL := Lib.hid hl
          have HOK := Lib.hid hok
          have HRL := Lib.hid hrl
          have HS8 := Lib.hid S8
          clear hl hok hrl S8
          go_wp2_with fail
          go_loopw [23] (fun i wr => ∃ i' : Nat, i' ≤ nx ∧ i = .int .i64 (i' : Int) ∧ Sep wr [jnA q2 p (jOf 0 12 1 xs), recsA (.slice ra nx rcap) rs, diskA p D6, blkA ow #[.slice a0 nx c0, .slice a1 ny c1] 58, ownA 9 1 (.slice a0 nx c0) nx (strs xs), ownA 9 1 (.slice a1 ny c1) ny (strs ys), oldA w]) (fun i _ => nx - (intOf i).toNat)
          case atStart => exact ⟨0, Nat.zero_le _, rfl, HS8.out⟩
          case round =>
            obtain ⟨i, hi, rfl, Sr⟩ := hrel
            by_cases hlt : i < nx
            · have hlt1 : (i : Int) < (nx : Int) := by omega
              have hi0 : (0 : Int) ≤ (i : Int) := by omega
              obtain ⟨r, hr⟩ : ∃ r, rs[i]? = some r := ⟨rs[i]'(by rw [HRL.out]; exact hlt), List.getElem?_eq_getElem _⟩
              obtain ⟨g, rfl, hgc, hgb, hgl⟩ := recs_at Sr.up1 HOK.out i r hr
              have hrx : xs[i]? = some r.bytes := by rw [← HL.out, List.getElem?_map, hr]; rfl
              obtain ⟨g2, rfl, hsc⟩ := strs_cell Sr.up4 Hnx.out i r.bytes hrx
              have hbc := Sr.up3.blk_cell 0
              simp at hbc
              obtain ⟨t, ht⟩ : ∃ t, t = r.bytes := ⟨_, rfl⟩
              rw [← ht] at hgb hgl hsc
              have tr : ∀ W', Below wr.heap.size wr W' → (convert 33 9 (.slice (some ⟨r.g, 16, none⟩) r.n (r.cap - 16))).run Try.prog W' = .ok (.string ⟨t.toArray⟩) W' := fun W' h => run_string (hgb.below h) r.n _ hgl
              have HSr := Lib.hid Sr
              clear hr hrx hgb hgl ht Sr hcb hfb
              go_wp2_with fail
              go_region_held (fun w' => Below wr.heap.size wr w' ∧ w'.cell? ⟨ow, 0, none⟩ = some (.slice (some ⟨g2, 0, none⟩) nx c0) ∧ w'.cell? ⟨g2, i, none⟩ = some (.string ⟨t.toArray⟩) ∧ w'.cell? ⟨g, i, none⟩ = some (.slice (some ⟨r.g, 16, none⟩) r.n (r.cap - 16))) (first | exact ⟨(Below.refl _ _).drew, hbc, hsc, hgc⟩ | exact ⟨Below.refl _ _, hbc, hsc, hgc⟩) (fail)
              have HS12 := Lib.hid HSr.out.drew
              go_wp2
              go_roundw
              case rel => exact ⟨i + 1, by omega, by go_num, HS12.out⟩
              case measure => simp [intOf]; omega
            · have hlt1 : ¬ (i : Int) < (nx : Int) := by omega
              have HS9 := Lib.hid Sr.drop.drop
              clear Sr hcb hfb
              go_wp2_with fail
              go_roundw
              case rel => exact ⟨1, D6, .inr (.inl rfl), rfl, E2.out, HS9.out⟩
              case measure => simp [intOf]
        · obtain ⟨D6, e1, e2, e3⟩ := safe_b HI2.out hsm
          have E1 := Lib.hid e1
          have E2 := Lib.hid (hsm.trans e2)
          have E3 := Lib.hid e3
          have HSr := Lib.hid Sr
          clear e1 e2 e3 Sr hsm
          go_wp2_with fail
          refine (open_sep HSr.out 12 12 _ _ rfl rfl (by omega) (by omega) (by rw [E3.out]; omega)).mono ?_
          rw [E1.out]
          rintro e w8 ⟨q2, v, rs, rfl, hl, hok, ⟨ra, rcap, rfl⟩, S8⟩
          have hrl : rs.length = ny := by rw [← Hny.out, ← hl, List.length_map]
          rw [hrl]
          rw [hrl] at S8
          have hcb := S8.up3.blk_cell 1
          have hfb := S8.up3.blk_free 1
          simp at hcb
          have HL := Lib.hid hl
          have HOK := Lib.hid hok
          have HRL := Lib.hid hrl
          have HS8 := Lib.hid S8
          clear hl hok hrl S8
          go_wp2_with fail
          go_loopw [23] (fun i wr => ∃ i' : Nat, i' ≤ ny ∧ i = .int .i64 (i' : Int) ∧ Sep wr [jnA q2 p (jOf 12 12 1 ys), recsA (.slice ra ny rcap) rs, diskA p D6, blkA ow #[.slice a0 nx c0, .slice a1 ny c1] 58, ownA 9 1 (.slice a0 nx c0) nx (strs xs), ownA 9 1 (.slice a1 ny c1) ny (strs ys), oldA w]) (fun i _ => ny - (intOf i).toNat)
          case atStart => exact ⟨0, Nat.zero_le _, rfl, HS8.out⟩
          case round =>
            obtain ⟨i, hi, rfl, Sr⟩ := hrel
            by_cases hlt : i < ny
            · have hlt1 : (i : Int) < (ny : Int) := by omega
              have hi0 : (0 : Int) ≤ (i : Int) := by omega
              obtain ⟨r, hr⟩ : ∃ r, rs[i]? = some r := ⟨rs[i]'(by rw [HRL.out]; exact hlt), List.getElem?_eq_getElem _⟩
              obtain ⟨g, rfl, hgc, hgb, hgl⟩ := recs_at Sr.up1 HOK.out i r hr
              have hrx : ys[i]? = some r.bytes := by rw [← HL.out, List.getElem?_map, hr]; rfl
              obtain ⟨g2, rfl, hsc⟩ := strs_cell Sr.up5 Hny.out i r.bytes hrx
              have hbc := Sr.up3.blk_cell 1
              simp at hbc
              obtain ⟨t, ht⟩ : ∃ t, t = r.bytes := ⟨_, rfl⟩
              rw [← ht] at hgb hgl hsc
              have tr : ∀ W', Below wr.heap.size wr W' → (convert 33 9 (.slice (some ⟨r.g, 16, none⟩) r.n (r.cap - 16))).run Try.prog W' = .ok (.string ⟨t.toArray⟩) W' := fun W' h => run_string (hgb.below h) r.n _ hgl
              have HSr := Lib.hid Sr
              clear hr hrx hgb hgl ht Sr hcb hfb
              go_wp2_with fail
              go_region_held (fun w' => Below wr.heap.size wr w' ∧ w'.cell? ⟨ow, 1, none⟩ = some (.slice (some ⟨g2, 0, none⟩) ny c1) ∧ w'.cell? ⟨g2, i, none⟩ = some (.string ⟨t.toArray⟩) ∧ w'.cell? ⟨g, i, none⟩ = some (.slice (some ⟨r.g, 16, none⟩) r.n (r.cap - 16))) (first | exact ⟨(Below.refl _ _).drew, hbc, hsc, hgc⟩ | exact ⟨Below.refl _ _, hbc, hsc, hgc⟩) (fail)
              have HS12 := Lib.hid HSr.out.drew
              go_wp2
              go_roundw
              case rel => exact ⟨i + 1, by omega, by go_num, HS12.out⟩
              case measure => simp [intOf]; omega
            · have hlt1 : ¬ (i : Int) < (ny : Int) := by omega
              have HS9 := Lib.hid Sr.drop.drop
              clear Sr hcb hfb
              go_wp2_with fail
              go_roundw
              case rel => exact ⟨2, D6, .inr (.inr rfl), rfl, E2.out, HS9.out⟩
              case measure => simp [intOf]
        · have HS9 := Lib.hid Sr.drop.drop.drop.drop
          clear Sr
          go_wp2
          go_ret
          exact ⟨rfl, HS9.out⟩
theorem JournalApart_walk (W : World) (a : Option Addr) (la : List ByteArray) (ca : Nat) (tn : Int) (cm : Bool) (ha : StrsAt W a la) (hla : la.length ≤ 9223372036854775807) :
    Calls Try.prog 7 #[.slice a la.length ca, .int .i64 tn, .bool cm] W fun e w' => e = .returned (.bool true) ∧ Below W.heap.size W w' :=
  (apart_walk W _ (Sep.start W) tn cm a la ca ha hla rfl).mono fun e w' h => ⟨h.1, h.2.fin⟩
end Go.Proofs.Ytoihfamiclbffaa
