/- Assertions in another order; some of them alone. The store's Open. The store's both, where a half may answer an error; Open. A store as one assertion; its functions in that form. -/
import Derived.Test.YtnekelndcpmonaaMg4
import Derived.Test.YtnekelndcpmonaaMg12
import Derived.Test.YtnekelndcpmonaaMg13
set_option linter.all false
namespace Go.Proofs.Ytnekelndcpmonaa

theorem SepIn.perm {w : World} {L L' : List Asn} (h : L.Perm L') : ∀ {U : Nat → Prop}, SepIn w L U → SepIn w L' U := by
  induction h with
  | nil => exact fun h => h
  | cons a _ ih => exact fun h => Sep.consI (fun U hu => ih hu) h
  | swap a b l => exact fun h => SepIn.swap h
  | trans _ _ ih1 ih2 => exact fun h => ih2 (ih1 h)
theorem SepIn.less {w : World} : ∀ {A B R : List Asn} {U : Nat → Prop}, SepIn w (A ++ (B ++ R)) U → SepIn w (A ++ R) U
  | [], [], _, _, h => h
  | [], _ :: B, _, _, h => SepIn.less (A := []) (B := B) (SepIn.tail h)
  | _ :: _, _, _, _, h => Sep.consI (fun _ hu => SepIn.less hu) h
def nthL : List Asn → Nat → Asn
  | A :: _, 0 => A
  | _ :: L, i + 1 => nthL L i
  | [], _ => packA []
def dropL : Nat → List Asn → List Asn
  | 0, L => L
  | n + 1, _ :: L => dropL n L
  | _ + 1, [] => []
def geL : Nat → List Asn → Bool
  | 0, _ => true
  | n + 1, _ :: L => geL n L
  | _ + 1, [] => false
def pickL : List Nat → Nat → List Asn → List Asn
  | [], n, L => dropL n L
  | i :: l, n, L => nthL L i :: pickL l n L
theorem pickL_eq : ∀ (l : List Nat) (n : Nat) (L : List Asn), pickL l n L = l.map (nthL L) ++ dropL n L
  | [], _, _ => rfl
  | i :: l, n, L => by rw [pickL, pickL_eq l n L]; rfl
theorem take_nth : ∀ (n : Nat) (L : List Asn), geL n L = true → L = (List.range n).map (nthL L) ++ dropL n L
  | 0, _, _ => rfl
  | n + 1, [], h => by cases h
  | n + 1, A :: L, h => by
    have ih := take_nth n L h
    rw [List.range_succ_eq_map, List.map_cons, List.map_map]
    show A :: L = A :: ((List.range n).map (nthL L) ++ dropL n L)
    rw [← ih]
def checkL (l : List Nat) (n : Nat) : Bool := (l ++ (List.range n).filter (fun i => !l.contains i)).isPerm (List.range n)
/-- Those of the first n, in that order; the rest as it is. -/
theorem Sep.pick {w : World} {L : List Asn} (h : Sep w L) (l : List Nat) (n : Nat) (hc : checkL l n = true) (hg : geL n L = true) : Sep w (pickL l n L) := by
  rw [pickL_eq]
  have hp := List.isPerm_iff.1 hc
  unfold Sep at h
  rw [take_nth n L hg] at h
  have h2 : SepIn w ((l.map (nthL L) ++ ((List.range n).filter (fun i => !l.contains i)).map (nthL L)) ++ dropL n L) (fun _ => True) := by
    refine SepIn.perm ?_ h
    rw [← List.map_append]
    exact (List.Perm.map _ hp.symm).append_right _
  rw [List.append_assoc] at h2
  exact SepIn.less h2
end Go.Proofs.Ytnekelndcpmonaa
namespace Go.Proofs.Ytnekelndcpmonaa
open Go.RowKit
set_option linter.unusedVariables false

/-- What a half's records make of what is kept. -/
def pickS (h is : Int) (count : Nat) (th : List UInt8) : List (List UInt8) → Int × Nat × List UInt8
  | [] => (is, count, th)
  | x :: _ => if 8 ≤ x.length ∧ numL (x.take 8) ≤ lastN ∧ (is < 0 ∨ count < numL (x.take 8)) then (h, numL (x.take 8), x.drop 8) else (is, count, th)
theorem pick_take {h is : Int} {count : Nat} {th x : List UInt8} {ls : List (List UInt8)} (h8 : 8 ≤ x.length) (hl : numL (x.take 8) ≤ lastN) (hc : is < 0 ∨ count < numL (x.take 8)) : pickS h is count th (x :: ls) = (h, numL (x.take 8), x.drop 8) := by
  exact if_pos ⟨h8, hl, hc⟩
theorem pick_not {h is : Int} {count : Nat} {th x : List UInt8} {ls : List (List UInt8)} (hn : ¬ (8 ≤ x.length ∧ numL (x.take 8) ≤ lastN ∧ (is < 0 ∨ count < numL (x.take 8)))) : pickS h is count th (x :: ls) = (is, count, th) := by
  exact if_neg hn
/-- One of the records: where its header lies, and where its bytes. -/
theorem recs_at {w : World} {a : Option Addr} {n cap : Nat} {rs : List Rec} {R : List Asn} (h : Sep w (recsA (.slice a n cap) rs :: R)) (hok : ∀ r ∈ rs, r.ok) (i : Nat) (r : Rec) (hi : rs[i]? = some r) :
    ∃ g, a = some ⟨g, 0, none⟩ ∧ w.cell? ⟨g, i, none⟩ = some (.slice (some ⟨r.g, 16, none⟩) r.n (r.cap - 16)) ∧ BytesAt w (some ⟨r.g, 16, none⟩) r.bytes ∧ r.bytes.length = r.n := by
  have h1 := recs_open h
  obtain ⟨hil, hir⟩ := List.getElem?_eq_some_iff.1 hi
  have hrok := hok r (by rw [← hir]; exact List.getElem_mem hil)
  have ho := h1.own
  have h2 := Sep.pull i (by simpa using hil) h1.drop
  rw [List.getElem_map, hir] at h2
  have hb := h2.bytes
  have hbl := hb.len
  refine (?_ : ∃ g, a = some ⟨g, 0, none⟩ ∧ w.cell? ⟨g, i, none⟩ = some (.slice (some ⟨r.g, 16, none⟩) r.n (r.cap - 16))).elim fun g hg => ⟨g, hg.1, hg.2, hb.sub 16 r.n (by have := hrok.1; omega), ?_⟩
  · rcases ho.2 with ⟨_, e0⟩ | ⟨g, cap', cur, e, _, _, _⟩
    · omega
    · simp only [Value.slice.injEq] at e
      obtain ⟨rfl, _, rfl⟩ := e
      refine ⟨g, rfl, ?_⟩
      have ho2 := ho
      rename_i hlen
      have hn : n = rs.length := by omega
      subst hn
      rw [World.ownsRow.cellAt ho2 i (by omega)]
      simp [hi, Rec.val]
  · unfold Rec.bytes; rw [List.length_take, List.length_drop, hbl]; have := hrok.1; omega
theorem slice_8 (g o n cap : Nat) (h1 : 8 ≤ n) (h2 : n ≤ cap) : ∃ o', (∀ W : World, (Instr.sliceAt 31 (.slice (some ⟨g, o, none⟩) n cap) (some (.int .i64 8)) none none).run Try.prog W = .ok (.slice (some ⟨g, o', none⟩) (n - 8) (cap - 8)) W) ∧ (o' = o + 8 ∨ (n = 8 ∧ o' = o)) := by
  by_cases h3 : cap = 8
  · obtain rfl : n = 8 := by omega
    subst h3
    exact ⟨o, fun W => by go_simp, .inr ⟨rfl, rfl⟩⟩
  · refine ⟨o + 8, fun W => ?_, .inl rfl⟩
    have a1 : (8 : Int) ≤ (n : Int) := by omega
    have a2 : (n : Int) ≤ (cap : Int) := by omega
    have a3 : (8 : Int) ≤ (cap : Int) := by omega
    clear h1 h2
    go_simp
/-- The first record's bytes, behind its count. -/
theorem recs_first {w : World} {v : Value} {r : Rec} {rs : List Rec} {R : List Asn} (S : Sep w (recsA v (r :: rs) :: R)) (hok : r.ok) (o' : Nat) (ho : o' = 16 + 8 ∨ (r.n = 8 ∧ o' = 16)) (h8 : 8 ≤ r.n) (cap' : Nat) :
    Sep w (thA (.slice (some ⟨r.g, o', none⟩) (r.n - 8) cap') (r.bytes.drop 8) :: R) := by
  have h1 := (recs_open S).drop
  have h2 : Sep w (r.asn :: (rs.map Rec.asn ++ R)) := h1
  have h3 : Sep w (r.asn :: R) := SepIn.less (A := [r.asn]) h2
  have h4 := Sep.hold (show Sep w (bytesA (.slice (some ⟨r.g, 0, none⟩) r.m r.cap) r.m r.pl :: R) from h3) o' (r.n - 8) (by have := hok.1; omega) cap'
  have e : (r.pl.drop o').take (r.n - 8) = r.bytes.drop 8 := by
    unfold Rec.bytes
    rw [List.drop_take, List.drop_drop]
    rcases ho with rfl | ⟨e, rfl⟩
    · rfl
    · rw [e]; rfl
  rw [e] at h4
  exact h4
/-- What Open's closure leaves. -/
def Open1Post (half sp p bx : Nat) (h0 h1 : Value) (s : St) (tv : Value) (l : List UInt8) (R : List Asn) : OpnR → Ending → World → Prop
  | .err x D', e, w' => e = .returned (.int .i64 x) ∧ Sep w' (stA sp h0 h1 s tv :: thA tv l :: blkA bx #[.pointer (some ⟨p, 0, none⟩)] 24 :: diskA p D' :: R)
  | .ok ls D' j, e, w' => e = .returned (.int .i64 0) ∧ ∃ q tv', Sep w' (stA sp (if half = 0 then pV q else h0) (if half = 1 then pV q else h1) ⟨s.size, (pickS half s.is s.count l ls).1, (pickS half s.is s.count l ls).2.1, s.broken⟩ tv' :: thA tv' (pickS half s.is s.count l ls).2.2 :: jnA q p j :: blkA bx #[.pointer (some ⟨p, 0, none⟩)] 24 :: diskA p D' :: R)
theorem opn_err {D D' : Dk} {f z : Nat} {x : Int} (h : opnJ D f z = .err x D') : x = 11 ∨ x = 2 := by
  unfold opnJ at h
  split at h
  · cases h; exact .inl rfl
  · dsimp only at h
    split at h
    · cases h; exact .inr rfl
    · split at h
      · cases h; exact .inl rfl
      · cases h
section
variable {w : World} {R : List Asn} {p sp bx : Nat} {D : Dk} {h0 h1 tv : Value} {s : St} {l : List UInt8}
set_option maxRecDepth 20000 in
set_option maxHeartbeats 4000000 in
theorem open1_0 (S : Sep w (stA sp h0 h1 s tv :: thA tv l :: blkA bx #[.pointer (some ⟨p, 0, none⟩)] 24 :: diskA p D :: R)) (from_ size : Nat) (F Z : Int) (hF : F = (from_ : Int)) (hZ : Z = (size : Int)) (h2 : 2 ≤ size) (hz : size ≤ 1000) (hs : from_ + size ≤ D.secs.length) :
    Calls Try.prog 38 #[.pointer (some ⟨sp, 0, none⟩), .int .i64 0, .int .i64 F, .int .i64 Z, .pointer (some ⟨bx, 0, none⟩)] w (Open1Post 0 sp p bx h0 h1 s tv l R (opnJ D from_ size)) := by
  subst hF hZ
  have cb := S.up2.blk_cell 0
  simp at cb
  have hopn := open_sep S.up3 from_ size _ _ rfl rfl h2 hz hs
  obtain ⟨r, hr⟩ : ∃ r, r = opnJ D from_ size := ⟨_, rfl⟩
  rw [← hr] at hopn ⊢
  have HO := Lib.hid hopn
  have HR := Lib.hid hr.symm
  clear hopn hr S h2 hz hs
  cases r with
  | err x D' =>
    have hx : x = 11 ∨ x = 2 := opn_err HR.out
    go_enter Try.func38, Try.ntmps38
    go_wp2_with fail
    refine HO.out.mono ?_
    rintro e w1 ⟨rfl, S1⟩
    have HS := Lib.hid S1.up3.up3.up3
    clear S1
    rcases hx with rfl | rfl
    · go_wp2
      go_ret
      exact ⟨rfl, HS.out⟩
    · go_wp2
      go_ret
      exact ⟨rfl, HS.out⟩
  | ok ls D' j =>
    go_enter Try.func38, Try.ntmps38
    go_wp2_with fail
    refine HO.out.mono ?_
    rintro e w1 ⟨q, v, rs, rfl, hl, hok, ⟨a, cap, rfl⟩, S1⟩
    have S2 : Sep (w1.setCell ⟨sp, 0, none⟩ (.pointer (some ⟨q, 0, none⟩))) (stA sp (pV q) h1 s tv :: jnA q p j :: recsA (.slice a rs.length cap) rs :: diskA p D' :: thA tv l :: blkA bx #[.pointer (some ⟨p, 0, none⟩)] 24 :: R) := S1.up3.blk_set 0 (.pointer (some ⟨q, 0, none⟩))
    have fr := S1.up3.blk_free 0
    have cs := S1.up3.blk_cell 0
    simp [stC] at cs
    have HL := Lib.hid hl
    have HOK := Lib.hid hok
    clear S1 hl hok
    cases rs with
    | nil =>
      have hls : ls = [] := HL.out.symm
      subst hls
      have HS := Lib.hid S2
      clear S2
      go_wp2
      go_ret
      exact ⟨rfl, q, tv, HS.out.pick [0, 4, 1, 5, 3] 6 (by decide) rfl⟩
    | cons r rs =>
      have hls : ls = r.bytes :: rs.map Rec.bytes := HL.out.symm
      subst hls
      obtain ⟨g, rfl, c0, hb, hbl⟩ := recs_at S2.up2 HOK.out 0 r rfl
      have hrok := HOK.out r List.mem_cons_self
      obtain ⟨_, _, _, t3, t4, _, _⟩ := S2.st
      have f3 := S2.blk_free 3
      have f4 := S2.blk_free 4
      have f5 := S2.blk_free 5
      rw [List.length_cons] at *
      obtain ⟨m, hm⟩ : ∃ m, m = rs.length + 1 := ⟨_, rfl⟩
      have hm0 : (0 : Int) < (m : Int) := by omega
      rw [← hm] at S2 ⊢
      have HS := Lib.hid S2
      have HB := Lib.hid hb
      have HBL := Lib.hid hbl
      have HROK := Lib.hid hrok
      clear S2 hb hbl hrok hm HOK HL
      by_cases h8 : r.n < 8
      · have h8' : ¬ (8 : Int) ≤ (r.n : Int) := by omega
        have hpk := pick_not (h := 0) (is := s.is) (count := s.count) (th := l) (ls := rs.map Rec.bytes) (x := r.bytes) (fun h => by have := h.1; rw [HBL.out] at this; omega)
        have HPK := Lib.hid hpk
        clear h8 hpk
        go_wp2
        go_ret
        refine ⟨rfl, q, tv, ?_⟩
        rw [show ((0 : Nat) : Int) = 0 from rfl, HPK.out]
        exact HS.out.pick [0, 4, 1, 5, 3] 6 (by decide) rfl
      · have h8' : (8 : Int) ≤ (r.n : Int) := by omega
        obtain ⟨N, hN⟩ : ∃ N, N = numL (r.bytes.take 8) := ⟨_, rfl⟩
        have hcount := fun (W : World) (hb : BytesAt W (some ⟨r.g, 16, none⟩) r.bytes) => count_calls (w := W) (some ⟨r.g, 16, none⟩) r.n (r.cap - 16) r.bytes hb HBL.out (by omega)
        rw [← hN] at hcount
        have hN0 : (0 : Int) ≤ (N : Int) := by omega
        obtain ⟨o', hsl, ho'⟩ := slice_8 r.g 16 r.n (r.cap - 16) (by omega) (by have := HROK.out; obtain ⟨_, _, _⟩ := this; omega)
        have HO' := Lib.hid ho'
        clear ho'
        have HC := Lib.hid hcount
        have h8n : 8 ≤ r.bytes.length := by rw [HBL.out]; omega
        have HH8 := Lib.hid h8n
        have HN := Lib.hid hN
        obtain ⟨ct, hct⟩ : ∃ ct, ct = s.count := ⟨_, rfl⟩
        have HCT := Lib.hid hct
        rw [← hct] at t4
        obtain ⟨si, hsi⟩ : ∃ si, si = s.is := ⟨_, rfl⟩
        have HSI := Lib.hid hsi
        rw [← hsi] at t3
        clear h8 hcount h8n hN hct hsi
        go_wp2_with fail
        refine (HC.out _ HB.out).mono ?_
        rintro e w2 ⟨rfl, rfl⟩
        by_cases hle : N ≤ lastN
        · have hle' : (N : Int) ≤ 4611686018427387904 := by unfold lastN at hle; omega
          have HLE := Lib.hid hle
          clear hle
          by_cases hneg : si < 0
          · skip
            have hpk := pick_take (h := 0) (is := s.is) (count := s.count) (th := l) (ls := rs.map Rec.bytes) (x := r.bytes) HH8.out (by rw [← HN.out]; exact HLE.out) (by rw [← HN.out, ← HSI.out, ← HCT.out]; exact .inl hneg)
            rw [← HN.out] at hpk
            have HPK := Lib.hid hpk
            clear hpk
            go_wp2_with fail
            clear hle' h8' hN0 cs fr
            go_region
            have S3 : Sep ((((w1.setCell ⟨sp, 0, none⟩ (.pointer (some ⟨q, 0, none⟩))).setCell ⟨sp, 3, none⟩ (.int .i64 0)).setCell ⟨sp, 4, none⟩ (.int .u64 (N : Int))).setCell ⟨sp, 5, none⟩ (.slice (some ⟨r.g, o', none⟩) (r.n - 8) (r.cap - 16 - 8))).drew (stA sp (pV q) h1 ⟨s.size, 0, N, s.broken⟩ (.slice (some ⟨r.g, o', none⟩) (r.n - 8) (r.cap - 16 - 8)) :: _) := (((HS.out.blk_set 3 (.int .i64 0)).blk_set 4 (.int .u64 (N : Int))).blk_set 5 (.slice (some ⟨r.g, o', none⟩) (r.n - 8) (r.cap - 16 - 8))).drew
            have S4 := recs_first S3.up2 HROK.out o' HO'.out (by have := HH8.out; have := HBL.out; omega) (r.cap - 16 - 8)
            have HS4 := Lib.hid S4
            clear S3 S4
            go_wp2
            go_ret
            refine ⟨rfl, q, .slice (some ⟨r.g, o', none⟩) (r.n - 8) (r.cap - 16 - 8), ?_⟩
            rw [show ((0 : Nat) : Int) = 0 from rfl, HPK.out]
            exact HS4.out.pick [1, 0, 2, 5, 3] 6 (by decide) rfl
          · by_cases hlt : ct < N
            · have hlt' : (ct : Int) < (N : Int) := by omega
              have hpk := pick_take (h := 0) (is := s.is) (count := s.count) (th := l) (ls := rs.map Rec.bytes) (x := r.bytes) HH8.out (by rw [← HN.out]; exact HLE.out) (by rw [← HN.out, ← HSI.out, ← HCT.out]; exact .inr hlt)
              rw [← HN.out] at hpk
              have HPK := Lib.hid hpk
              clear hpk
              go_wp2_with fail
              clear hle' h8' hN0 cs fr
              go_region
              have S3 : Sep ((((w1.setCell ⟨sp, 0, none⟩ (.pointer (some ⟨q, 0, none⟩))).setCell ⟨sp, 3, none⟩ (.int .i64 0)).setCell ⟨sp, 4, none⟩ (.int .u64 (N : Int))).setCell ⟨sp, 5, none⟩ (.slice (some ⟨r.g, o', none⟩) (r.n - 8) (r.cap - 16 - 8))).drew (stA sp (pV q) h1 ⟨s.size, 0, N, s.broken⟩ (.slice (some ⟨r.g, o', none⟩) (r.n - 8) (r.cap - 16 - 8)) :: _) := (((HS.out.blk_set 3 (.int .i64 0)).blk_set 4 (.int .u64 (N : Int))).blk_set 5 (.slice (some ⟨r.g, o', none⟩) (r.n - 8) (r.cap - 16 - 8))).drew
              have S4 := recs_first S3.up2 HROK.out o' HO'.out (by have := HH8.out; have := HBL.out; omega) (r.cap - 16 - 8)
              have HS4 := Lib.hid S4
              clear S3 S4
              go_wp2
              go_ret
              refine ⟨rfl, q, .slice (some ⟨r.g, o', none⟩) (r.n - 8) (r.cap - 16 - 8), ?_⟩
              rw [show ((0 : Nat) : Int) = 0 from rfl, HPK.out]
              exact HS4.out.pick [1, 0, 2, 5, 3] 6 (by decide) rfl
            · have hlt' : ¬ (ct : Int) < (N : Int) := by omega
              have hpk := pick_not (h := 0) (is := s.is) (count := s.count) (th := l) (ls := rs.map Rec.bytes) (x := r.bytes) (fun h => by have := h.2.2; rw [← HN.out, ← HSI.out, ← HCT.out] at this; omega)
              have HPK := Lib.hid hpk
              clear hlt hpk
              go_wp2
              go_ret
              refine ⟨rfl, q, tv, ?_⟩
              rw [show ((0 : Nat) : Int) = 0 from rfl, HPK.out]
              exact HS.out.pick [0, 4, 1, 5, 3] 6 (by decide) rfl
        · have hle' : ¬ (N : Int) ≤ 4611686018427387904 := by unfold lastN at hle; omega
          have hpk := pick_not (h := 0) (is := s.is) (count := s.count) (th := l) (ls := rs.map Rec.bytes) (x := r.bytes) (fun h => by have := h.2.1; rw [← HN.out] at this; omega)
          have HPK := Lib.hid hpk
          clear hle hpk
          go_wp2
          go_ret
          refine ⟨rfl, q, tv, ?_⟩
          rw [show ((0 : Nat) : Int) = 0 from rfl, HPK.out]
          exact HS.out.pick [0, 4, 1, 5, 3] 6 (by decide) rfl
set_option maxRecDepth 20000 in
set_option maxHeartbeats 4000000 in
theorem open1_1 (S : Sep w (stA sp h0 h1 s tv :: thA tv l :: blkA bx #[.pointer (some ⟨p, 0, none⟩)] 24 :: diskA p D :: R)) (from_ size : Nat) (F Z : Int) (hF : F = (from_ : Int)) (hZ : Z = (size : Int)) (h2 : 2 ≤ size) (hz : size ≤ 1000) (hs : from_ + size ≤ D.secs.length) :
    Calls Try.prog 38 #[.pointer (some ⟨sp, 0, none⟩), .int .i64 1, .int .i64 F, .int .i64 Z, .pointer (some ⟨bx, 0, none⟩)] w (Open1Post 1 sp p bx h0 h1 s tv l R (opnJ D from_ size)) := by
  subst hF hZ
  have cb := S.up2.blk_cell 0
  simp at cb
  have hopn := open_sep S.up3 from_ size _ _ rfl rfl h2 hz hs
  obtain ⟨r, hr⟩ : ∃ r, r = opnJ D from_ size := ⟨_, rfl⟩
  rw [← hr] at hopn ⊢
  have HO := Lib.hid hopn
  have HR := Lib.hid hr.symm
  clear hopn hr S h2 hz hs
  cases r with
  | err x D' =>
    have hx : x = 11 ∨ x = 2 := opn_err HR.out
    go_enter Try.func38, Try.ntmps38
    go_wp2_with fail
    refine HO.out.mono ?_
    rintro e w1 ⟨rfl, S1⟩
    have HS := Lib.hid S1.up3.up3.up3
    clear S1
    rcases hx with rfl | rfl
    · go_wp2
      go_ret
      exact ⟨rfl, HS.out⟩
    · go_wp2
      go_ret
      exact ⟨rfl, HS.out⟩
  | ok ls D' j =>
    go_enter Try.func38, Try.ntmps38
    go_wp2_with fail
    refine HO.out.mono ?_
    rintro e w1 ⟨q, v, rs, rfl, hl, hok, ⟨a, cap, rfl⟩, S1⟩
    have S2 : Sep (w1.setCell ⟨sp, 1, none⟩ (.pointer (some ⟨q, 0, none⟩))) (stA sp h0 (pV q) s tv :: jnA q p j :: recsA (.slice a rs.length cap) rs :: diskA p D' :: thA tv l :: blkA bx #[.pointer (some ⟨p, 0, none⟩)] 24 :: R) := S1.up3.blk_set 1 (.pointer (some ⟨q, 0, none⟩))
    have fr := S1.up3.blk_free 1
    have cs := S1.up3.blk_cell 1
    simp [stC] at cs
    have HL := Lib.hid hl
    have HOK := Lib.hid hok
    clear S1 hl hok
    cases rs with
    | nil =>
      have hls : ls = [] := HL.out.symm
      subst hls
      have HS := Lib.hid S2
      clear S2
      go_wp2
      go_ret
      exact ⟨rfl, q, tv, HS.out.pick [0, 4, 1, 5, 3] 6 (by decide) rfl⟩
    | cons r rs =>
      have hls : ls = r.bytes :: rs.map Rec.bytes := HL.out.symm
      subst hls
      obtain ⟨g, rfl, c0, hb, hbl⟩ := recs_at S2.up2 HOK.out 0 r rfl
      have hrok := HOK.out r List.mem_cons_self
      obtain ⟨_, _, _, t3, t4, _, _⟩ := S2.st
      have f3 := S2.blk_free 3
      have f4 := S2.blk_free 4
      have f5 := S2.blk_free 5
      rw [List.length_cons] at *
      obtain ⟨m, hm⟩ : ∃ m, m = rs.length + 1 := ⟨_, rfl⟩
      have hm0 : (0 : Int) < (m : Int) := by omega
      rw [← hm] at S2 ⊢
      have HS := Lib.hid S2
      have HB := Lib.hid hb
      have HBL := Lib.hid hbl
      have HROK := Lib.hid hrok
      clear S2 hb hbl hrok hm HOK HL
      by_cases h8 : r.n < 8
      · have h8' : ¬ (8 : Int) ≤ (r.n : Int) := by omega
        have hpk := pick_not (h := 1) (is := s.is) (count := s.count) (th := l) (ls := rs.map Rec.bytes) (x := r.bytes) (fun h => by have := h.1; rw [HBL.out] at this; omega)
        have HPK := Lib.hid hpk
        clear h8 hpk
        go_wp2
        go_ret
        refine ⟨rfl, q, tv, ?_⟩
        rw [show ((1 : Nat) : Int) = 1 from rfl, HPK.out]
        exact HS.out.pick [0, 4, 1, 5, 3] 6 (by decide) rfl
      · have h8' : (8 : Int) ≤ (r.n : Int) := by omega
        obtain ⟨N, hN⟩ : ∃ N, N = numL (r.bytes.take 8) := ⟨_, rfl⟩
        have hcount := fun (W : World) (hb : BytesAt W (some ⟨r.g, 16, none⟩) r.bytes) => count_calls (w := W) (some ⟨r.g, 16, none⟩) r.n (r.cap - 16) r.bytes hb HBL.out (by omega)
        rw [← hN] at hcount
        have hN0 : (0 : Int) ≤ (N : Int) := by omega
        obtain ⟨o', hsl, ho'⟩ := slice_8 r.g 16 r.n (r.cap - 16) (by omega) (by have := HROK.out; obtain ⟨_, _, _⟩ := this; omega)
        have HO' := Lib.hid ho'
        clear ho'
        have HC := Lib.hid hcount
        have h8n : 8 ≤ r.bytes.length := by rw [HBL.out]; omega
        have HH8 := Lib.hid h8n
        have HN := Lib.hid hN
        obtain ⟨ct, hct⟩ : ∃ ct, ct = s.count := ⟨_, rfl⟩
        have HCT := Lib.hid hct
        rw [← hct] at t4
        obtain ⟨si, hsi⟩ : ∃ si, si = s.is := ⟨_, rfl⟩
        have HSI := Lib.hid hsi
        rw [← hsi] at t3
        clear h8 hcount h8n hN hct hsi
        go_wp2_with fail
        refine (HC.out _ HB.out).mono ?_
        rintro e w2 ⟨rfl, rfl⟩
        by_cases hle : N ≤ lastN
        · have hle' : (N : Int) ≤ 4611686018427387904 := by unfold lastN at hle; omega
          have HLE := Lib.hid hle
          clear hle
          by_cases hneg : si < 0
          · skip
            have hpk := pick_take (h := 1) (is := s.is) (count := s.count) (th := l) (ls := rs.map Rec.bytes) (x := r.bytes) HH8.out (by rw [← HN.out]; exact HLE.out) (by rw [← HN.out, ← HSI.out, ← HCT.out]; exact .inl hneg)
            rw [← HN.out] at hpk
            have HPK := Lib.hid hpk
            clear hpk
            go_wp2_with fail
            clear hle' h8' hN0 cs fr
            go_region
            have S3 : Sep ((((w1.setCell ⟨sp, 1, none⟩ (.pointer (some ⟨q, 0, none⟩))).setCell ⟨sp, 3, none⟩ (.int .i64 1)).setCell ⟨sp, 4, none⟩ (.int .u64 (N : Int))).setCell ⟨sp, 5, none⟩ (.slice (some ⟨r.g, o', none⟩) (r.n - 8) (r.cap - 16 - 8))).drew (stA sp h0 (pV q) ⟨s.size, 1, N, s.broken⟩ (.slice (some ⟨r.g, o', none⟩) (r.n - 8) (r.cap - 16 - 8)) :: _) := (((HS.out.blk_set 3 (.int .i64 1)).blk_set 4 (.int .u64 (N : Int))).blk_set 5 (.slice (some ⟨r.g, o', none⟩) (r.n - 8) (r.cap - 16 - 8))).drew
            have S4 := recs_first S3.up2 HROK.out o' HO'.out (by have := HH8.out; have := HBL.out; omega) (r.cap - 16 - 8)
            have HS4 := Lib.hid S4
            clear S3 S4
            go_wp2
            go_ret
            refine ⟨rfl, q, .slice (some ⟨r.g, o', none⟩) (r.n - 8) (r.cap - 16 - 8), ?_⟩
            rw [show ((1 : Nat) : Int) = 1 from rfl, HPK.out]
            exact HS4.out.pick [1, 0, 2, 5, 3] 6 (by decide) rfl
          · by_cases hlt : ct < N
            · have hlt' : (ct : Int) < (N : Int) := by omega
              have hpk := pick_take (h := 1) (is := s.is) (count := s.count) (th := l) (ls := rs.map Rec.bytes) (x := r.bytes) HH8.out (by rw [← HN.out]; exact HLE.out) (by rw [← HN.out, ← HSI.out, ← HCT.out]; exact .inr hlt)
              rw [← HN.out] at hpk
              have HPK := Lib.hid hpk
              clear hpk
              go_wp2_with fail
              clear hle' h8' hN0 cs fr
              go_region
              have S3 : Sep ((((w1.setCell ⟨sp, 1, none⟩ (.pointer (some ⟨q, 0, none⟩))).setCell ⟨sp, 3, none⟩ (.int .i64 1)).setCell ⟨sp, 4, none⟩ (.int .u64 (N : Int))).setCell ⟨sp, 5, none⟩ (.slice (some ⟨r.g, o', none⟩) (r.n - 8) (r.cap - 16 - 8))).drew (stA sp h0 (pV q) ⟨s.size, 1, N, s.broken⟩ (.slice (some ⟨r.g, o', none⟩) (r.n - 8) (r.cap - 16 - 8)) :: _) := (((HS.out.blk_set 3 (.int .i64 1)).blk_set 4 (.int .u64 (N : Int))).blk_set 5 (.slice (some ⟨r.g, o', none⟩) (r.n - 8) (r.cap - 16 - 8))).drew
              have S4 := recs_first S3.up2 HROK.out o' HO'.out (by have := HH8.out; have := HBL.out; omega) (r.cap - 16 - 8)
              have HS4 := Lib.hid S4
              clear S3 S4
              go_wp2
              go_ret
              refine ⟨rfl, q, .slice (some ⟨r.g, o', none⟩) (r.n - 8) (r.cap - 16 - 8), ?_⟩
              rw [show ((1 : Nat) : Int) = 1 from rfl, HPK.out]
              exact HS4.out.pick [1, 0, 2, 5, 3] 6 (by decide) rfl
            · have hlt' : ¬ (ct : Int) < (N : Int) := by omega
              have hpk := pick_not (h := 1) (is := s.is) (count := s.count) (th := l) (ls := rs.map Rec.bytes) (x := r.bytes) (fun h => by have := h.2.2; rw [← HN.out, ← HSI.out, ← HCT.out] at this; omega)
              have HPK := Lib.hid hpk
              clear hlt hpk
              go_wp2
              go_ret
              refine ⟨rfl, q, tv, ?_⟩
              rw [show ((1 : Nat) : Int) = 1 from rfl, HPK.out]
              exact HS.out.pick [0, 4, 1, 5, 3] 6 (by decide) rfl
        · have hle' : ¬ (N : Int) ≤ 4611686018427387904 := by unfold lastN at hle; omega
          have hpk := pick_not (h := 1) (is := s.is) (count := s.count) (th := l) (ls := rs.map Rec.bytes) (x := r.bytes) (fun h => by have := h.2.1; rw [← HN.out] at this; omega)
          have HPK := Lib.hid hpk
          clear hle hpk
          go_wp2
          go_ret
          refine ⟨rfl, q, tv, ?_⟩
          rw [show ((1 : Nat) : Int) = 1 from rfl, HPK.out]
          exact HS.out.pick [0, 4, 1, 5, 3] 6 (by decide) rfl
end
end Go.Proofs.Ytnekelndcpmonaa
namespace Go.Proofs.Ytnekelndcpmonaa
open Go.RowKit
set_option linter.unusedVariables false

section
variable {w : World} {R : List Asn} {p : Nat} {D : Dk}
/-- What a half answers. -/
def HalfPost (size sp : Nat) (P : World → Prop) (E : Int → World → Prop) (e : Ending) (w2 : World) : Prop :=
  ∃ ev, e = .returned (.int .i64 ev) ∧ w2.cell? ⟨sp, 2, none⟩ = some (.int .i64 (size : Int)) ∧ (ev = 0 → P w2) ∧ (ev ≠ 0 → E ev w2)
set_option maxRecDepth 20000 in
set_option maxHeartbeats 4000000 in
theorem both_any (P0 P1 : Nat → World → Prop) (E : Nat → Int → World → Prop) (S : Sep w (diskA p D :: R)) (size : Nat) (h4 : 4 ≤ D.secs.length) (hsz : size = D.secs.length / 2) (f : Nat) (c : Value) (heg : ∀ args w, (callFunc f args).run Try.prog w = .ok (.enter f args) w)
    (hc0 : ∀ sp w, P0 sp w → w.cell? ⟨sp, 2, none⟩ = some (.int .i64 (size : Int))) (hd0 : ∀ sp w, P0 sp w → P0 sp w.drew)
    (h0 : ∀ sp w1, Sep w1 (stA sp (.pointer none) (.pointer none) ⟨size, -1, 0, false⟩ (.slice none 0 0) :: diskA p D :: R) → Calls Try.prog f #[.pointer (some ⟨sp, 0, none⟩), .int .i64 0, .int .i64 0, .int .i64 (size : Int), c] w1 (HalfPost size sp (P0 sp) (E sp)))
    (h1 : ∀ sp w1, P0 sp w1 → Calls Try.prog f #[.pointer (some ⟨sp, 0, none⟩), .int .i64 1, .int .i64 (size : Int), .int .i64 (size : Int), c] w1 (HalfPost size sp (P1 sp) (E sp))) :
    Calls Try.prog 28 #[.pointer (some ⟨p, 0, none⟩), .func (.func f) #[] #[c]] w fun e w' =>
      (∃ sp, e = .returned (.tuple #[.pointer (some ⟨sp, 0, none⟩), .int .i64 0]) ∧ P1 sp w') ∨ (∃ sp ev, ev ≠ 0 ∧ e = .returned (.tuple #[.pointer none, .int .i64 ev]) ∧ E sp ev w') := by
  obtain ⟨_, hl1, hl3⟩ := dk_len S
  obtain ⟨n, hn⟩ : ∃ n, n = D.secs.length := ⟨_, rfl⟩
  have hn4 : ¬ (n : Int) < 4 := by omega
  have hn0 : (0 : Int) ≤ (n : Int) := by omega
  have hnb : (n : Int) ≤ 4096 := by omega
  have hsd : (n : Int) / 2 = (size : Int) := by omega
  have hs0 : (0 : Int) ≤ (size : Int) := by omega
  have hsb : (size : Int) ≤ 2048 := by omega
  have HS := Lib.hid S
  have HN := Lib.hid hn.symm
  have HC0 := Lib.hid hc0
  have HD0 := Lib.hid hd0
  have H0 := Lib.hid h0
  have H1 := Lib.hid h1
  clear S hn hsz h4 hc0 hd0 h0 h1 hl1 hl3
  go_enter Try.func28, Try.ntmps28
  go_wp2_with fail
  refine (sectors_sep HS.out).mono ?_
  rw [HN.out]
  rintro e w1 ⟨rfl, rfl⟩
  go_wp2_with fail
  refine (sectors_sep HS.out).mono ?_
  rw [HN.out]
  rintro e w1 ⟨rfl, rfl⟩
  have S1 : Sep (w.alloc (.cells #[.pointer none, .pointer none, .int .i64 (size : Int), .int .i64 (-1), .int .u64 0, .slice none 0 0, .bool false] 72)) (stA w.heap.size (.pointer none) (.pointer none) ⟨size, -1, 0, false⟩ (.slice none 0 0) :: diskA p D :: R) := HS.out.alloc _ _
  obtain ⟨w2, hw2⟩ : ∃ w2, w2 = w.alloc (.cells #[.pointer none, .pointer none, .int .i64 (size : Int), .int .i64 (-1), .int .u64 0, .slice none 0 0, .bool false] 72) := ⟨_, rfl⟩
  obtain ⟨sp, hsp⟩ : ∃ sp, sp = w.heap.size := ⟨_, rfl⟩
  rw [← hw2, ← hsp] at S1
  have HW2 := Lib.hid hw2
  have HSP := Lib.hid hsp
  have HS1 := Lib.hid S1
  clear S1 hw2 hsp
  go_wp2_with fail
  rw [← HW2.out, ← HSP.out]
  go_loopw [17] (fun i wr => ∃ K : Int, (K = 0 ∨ K = 1 ∨ K = 2) ∧ i = .int .i64 K ∧ Hid ((K = 0 → Sep wr (stA sp (.pointer none) (.pointer none) ⟨size, -1, 0, false⟩ (.slice none 0 0) :: diskA p D :: R)) ∧ (K = 1 → P0 sp wr) ∧ (K = 2 → P1 sp wr))) (fun i _ => 2 - (intOf i).toNat)
  case atStart => exact ⟨0, .inl rfl, rfl, Lib.hid ⟨fun _ => HS1.out, (fun h => absurd h (by decide)), (fun h => absurd h (by decide))⟩⟩
  case round =>
    obtain ⟨K, hK, rfl, HI⟩ := hrel
    rcases hK with rfl | rfl | rfl
    · have S2 := HI.out.1 rfl
      have c2 := S2.st.2.2.1
      have HS2 := Lib.hid S2
      clear S2
      go_wp2_with fail
      go_region_held (fun w' => w'.cell? ⟨sp, 2, none⟩ = some (.int .i64 (size : Int))) (first | assumption | exact c2)
        ((refine (H0.out sp _ HS2.out.drew).mono ?_; rintro e w5 ⟨ev, rfl, hcc, hp, hE⟩))
      have HP := Lib.hid hp
      have HE := Lib.hid hE
      clear hp hcc c2 hE
      by_cases hz : ev = 0
      · subst hz
        have HP := Lib.hid (HP.out rfl)
        go_wp2_with fail
        go_roundw
        case rel => exact ⟨1, .inr (.inl rfl), rfl, Lib.hid ⟨(fun h => absurd h (by decide)), fun _ => HP.out, (fun h => absurd h (by decide))⟩⟩
        case measure => simp [intOf]
      · go_wp2
        go_ret2
        exact .inr ⟨sp, ev, hz, rfl, HE.out hz⟩
    · have hp0 := HI.out.2.1 rfl
      have c2 := HC0.out sp _ hp0
      have q1 : IntKind.i64.wrap (size : Int) = (size : Int) := by rw [IntKind.wrap_i64]; omega
      have HP0 := Lib.hid (HD0.out sp _ hp0)
      clear hp0
      go_wp2_with fail
      go_region_held (fun w' => w'.cell? ⟨sp, 2, none⟩ = some (.int .i64 (size : Int))) (first | assumption | exact c2)
        ((refine (H1.out sp _ HP0.out).mono ?_; rintro e w5 ⟨ev, rfl, hcc, hp, hE⟩))
      have HP := Lib.hid hp
      have HE := Lib.hid hE
      clear hp hcc c2 hE
      by_cases hz : ev = 0
      · subst hz
        have HP := Lib.hid (HP.out rfl)
        go_wp2_with fail
        go_roundw
        case rel => exact ⟨2, .inr (.inr rfl), rfl, Lib.hid ⟨(fun h => absurd h (by decide)), (fun h => absurd h (by decide)), fun _ => HP.out⟩⟩
        case measure => simp [intOf]
      · go_wp2
        go_ret2
        exact .inr ⟨sp, ev, hz, rfl, HE.out hz⟩
    · have HP := Lib.hid (HI.out.2.2 rfl)
      go_wp2
      go_ret2
      exact .inl ⟨sp, rfl, HP.out⟩
set_option maxHeartbeats 1600000 in
/-- A disk of fewer than four sectors. -/
theorem both_small (S : Sep w (diskA p D :: R)) (h4 : D.secs.length < 4) (fv : Value) :
    Calls Try.prog 28 #[.pointer (some ⟨p, 0, none⟩), fv] w fun e w' => e = .returned (.tuple #[.pointer none, .int .i64 1]) ∧ w = w' := by
  obtain ⟨n, hn⟩ : ∃ n, n = D.secs.length := ⟨_, rfl⟩
  have hn4 : (n : Int) < 4 := by omega
  have hn0 : (0 : Int) ≤ (n : Int) := by omega
  have HS := Lib.hid S
  have HN := Lib.hid hn.symm
  clear S hn h4
  go_enter Try.func28, Try.ntmps28
  go_wp2_with fail
  refine (sectors_sep HS.out).mono ?_
  rw [HN.out]
  rintro e w1 ⟨rfl, rfl⟩
  go_wp2
  go_ret2
  exact ⟨rfl, rfl⟩
set_option maxHeartbeats 1600000 in
theorem storeFormat_small (S : Sep w (diskA p D :: R)) (h4 : D.secs.length < 4) :
    Calls Try.prog 12 #[.pointer (some ⟨p, 0, none⟩)] w fun e w' => e = .returned (.tuple #[.pointer none, .int .i64 1]) ∧ Sep w' (diskA p D :: R) := by
  have S1 := (S.alloc #[.pointer (some ⟨p, 0, none⟩)] 24).up1
  have HB := Lib.hid (fun fv => both_small S1 h4 fv)
  have HS1 := Lib.hid S1.up1.drop
  clear S S1 h4
  go_enter Try.func12, Try.ntmps12
  go_wp2_with fail
  refine (HB.out _).mono ?_
  rintro e w2 ⟨rfl, rfl⟩
  go_wp2
  go_ret2
  exact ⟨rfl, HS1.out⟩
set_option maxHeartbeats 1600000 in
theorem storeOpen_small (S : Sep w (diskA p D :: R)) (h4 : D.secs.length < 4) :
    Calls Try.prog 19 #[.pointer (some ⟨p, 0, none⟩)] w fun e w' => e = .returned (.tuple #[.pointer none, .int .i64 1]) ∧ Sep w' (diskA p D :: R) := by
  have S1 := (S.alloc #[.pointer (some ⟨p, 0, none⟩)] 24).up1
  have HB := Lib.hid (fun fv => both_small S1 h4 fv)
  have HS1 := Lib.hid S1.up1.drop
  clear S S1 h4
  go_enter Try.func19, Try.ntmps19
  go_wp2_with fail
  refine (HB.out _).mono ?_
  rintro e w2 ⟨rfl, rfl⟩
  go_wp2
  go_ret2
  exact ⟨rfl, HS1.out⟩
end
/-- What both halves' records make of what is kept. -/
def pick2 (l0 l1 : List (List UInt8)) : Int × Nat × List UInt8 := pickS 1 (pickS 0 (-1) 0 [] l0).1 (pickS 0 (-1) 0 [] l0).2.1 (pickS 0 (-1) 0 [] l0).2.2 l1
/-- A store, opened: an error's number, or the journals and what is kept. -/
inductive SOpn where
  | err (e : Int) (D : Dk)
  | ok (D : Dk) (j0 j1 : Jn) (x : Int × Nat × List UInt8)
def sopnJ (D : Dk) (size : Nat) : SOpn := match opnJ D 0 size with
  | .err e D' => .err e D'
  | .ok l0 D1 j0 => match opnJ D1 size size with
    | .err e D' => .err e D'
    | .ok l1 D2 j1 => .ok D2 j0 j1 (pick2 l0 l1)
theorem sopn_err0 {D D' : Dk} {size : Nat} {e : Int} (h : opnJ D 0 size = .err e D') : sopnJ D size = .err e D' := by unfold sopnJ; rw [h]
theorem sopn_err1 {D D1 D' : Dk} {size : Nat} {l0 : List (List UInt8)} {j0 : Jn} {e : Int} (h : opnJ D 0 size = .ok l0 D1 j0) (h1 : opnJ D1 size size = .err e D') : sopnJ D size = .err e D' := by unfold sopnJ; rw [h]; dsimp only; rw [h1]
theorem sopn_ok {D D1 D2 : Dk} {size : Nat} {l0 l1 : List (List UInt8)} {j0 j1 : Jn} (h : opnJ D 0 size = .ok l0 D1 j0) (h1 : opnJ D1 size size = .ok l1 D2 j1) : sopnJ D size = .ok D2 j0 j1 (pick2 l0 l1) := by unfold sopnJ; rw [h]; dsimp only; rw [h1]
def SOpnPost (p size : Nat) (R : List Asn) : SOpn → Ending → World → Prop
  | .err x D', e, w' => e = .returned (.tuple #[.pointer none, .int .i64 x]) ∧ Sep w' (diskA p D' :: R)
  | .ok D' j0 j1 x, e, w' => ∃ sp q0 q1 tv, e = .returned (.tuple #[.pointer (some ⟨sp, 0, none⟩), .int .i64 0]) ∧ Sep w' (stA sp (pV q0) (pV q1) ⟨size, x.1, x.2.1, false⟩ tv :: jnA q0 p j0 :: jnA q1 p j1 :: diskA p D' :: thA tv x.2.2 :: R)
theorem opnL_len : ∀ (f : Nat) (D : Dk) (j : Jn) (l : List (List UInt8)) (r : Option (List (List UInt8) × Jn)) (D' : Dk), j.used ≤ j.size → opnL f D j l = (r, D') → D'.secs.length = D.secs.length
  | 0, D, j, l, r, D', _, h => by rw [opnL] at h; cases h; rfl
  | f + 1, D, j, l, r, D', hu, h => by
    rw [opnL] at h
    cases hr : recJ D j with
    | err D1 => rw [hr] at h; cases h; exact rec_err_len (.inl hr)
    | none D1 => rw [hr] at h; cases h; exact rec_err_len (.inr hr)
    | some b D1 j1 =>
      rw [hr] at h
      obtain ⟨h1, h2, h3, h4, h5, h6⟩ := rec_some hr hu
      rw [opnL_len f D1 j1 _ r D' (by omega) h, h5]
theorem opn_len {D D' : Dk} {f z : Nat} {ls : List (List UInt8)} {j : Jn} (h1 : 1 ≤ z) (h : opnJ D f z = .ok ls D' j) : D'.secs.length = D.secs.length := by
  unfold opnJ at h
  split at h
  · cases h
  · dsimp only at h
    split at h
    · cases h
    · split at h
      · cases h
      · rename_i hx
        cases h
        rw [opnL_len _ _ _ _ _ _ h1 hx, begun_len]
theorem opn_err_len {D D' : Dk} {f z : Nat} {e : Int} (h1 : 1 ≤ z) (h : opnJ D f z = .err e D') : D'.secs.length = D.secs.length := by
  unfold opnJ at h
  split at h
  · cases h; exact begun_len D
  · dsimp only at h
    split at h
    · cases h; exact begun_len D
    · split at h
      · rename_i hx
        cases h
        rw [opnL_len _ _ _ _ _ _ h1 hx, begun_len]
      · cases h
section
variable {w : World} {R : List Asn} {p : Nat} {D : Dk}
set_option maxHeartbeats 1600000 in
theorem storeOpen_sep (S : Sep w (diskA p D :: R)) (size : Nat) (h4 : 4 ≤ D.secs.length) (hz : D.secs.length ≤ 1000) (hsz : size = D.secs.length / 2) :
    Calls Try.prog 19 #[.pointer (some ⟨p, 0, none⟩)] w (SOpnPost p size R (sopnJ D size)) := by
  have S1 := (S.alloc #[.pointer (some ⟨p, 0, none⟩)] 24).up1
  obtain ⟨bx, hbx⟩ : ∃ bx, bx = w.heap.size := ⟨_, rfl⟩
  obtain ⟨w1, hw1⟩ : ∃ w1, w1 = w.alloc (.cells #[.pointer (some ⟨p, 0, none⟩)] 24) := ⟨_, rfl⟩
  rw [← hbx, ← hw1] at S1
  have hboth := both_any (R := blkA bx #[.pointer (some ⟨p, 0, none⟩)] 24 :: R)
    (fun sp w => ∃ l0 D1 j0, opnJ D 0 size = .ok l0 D1 j0 ∧ ∃ q tv, Sep w (stA sp (pV q) (.pointer none) ⟨size, (pickS 0 (-1) 0 [] l0).1, (pickS 0 (-1) 0 [] l0).2.1, false⟩ tv :: thA tv (pickS 0 (-1) 0 [] l0).2.2 :: jnA q p j0 :: blkA bx #[.pointer (some ⟨p, 0, none⟩)] 24 :: diskA p D1 :: R))
    (fun sp w => SOpnPost p size R (sopnJ D size) (.returned (.tuple #[.pointer (some ⟨sp, 0, none⟩), .int .i64 0])) w)
    (fun sp ev w => SOpnPost p size R (sopnJ D size) (.returned (.tuple #[.pointer none, .int .i64 ev])) w)
    S1 size h4 hsz 38 (.pointer (some ⟨bx, 0, none⟩)) (enters_of Try.func38 (by kernel_rfl) rfl)
    (fun sp w h => by obtain ⟨_, _, _, _, _, _, h⟩ := h; exact h.st.2.2.1) (fun sp w h => by obtain ⟨l0, D1, j0, ho, q, tv, h⟩ := h; exact ⟨l0, D1, j0, ho, q, tv, h.drew⟩)
    (fun sp w h => (open1_0 (l := []) (h.noThing.pick [1, 0, 3, 2] 4 (by decide) rfl) 0 size _ _ rfl rfl (by omega) (by omega) (by omega)).mono fun e w' h => by
      cases ho : opnJ D 0 size with
      | err x D' =>
        rw [ho] at h
        obtain ⟨rfl, h⟩ := h
        have hx := opn_err ho
        exact ⟨x, rfl, h.st.2.2.1, fun e => by omega, fun _ => by
          rw [sopn_err0 ho]
          exact ⟨rfl, h.pick [3] 4 (by decide) rfl⟩⟩
      | ok l0 D1 j0 =>
        rw [ho] at h
        obtain ⟨rfl, q, tv, h⟩ := h
        exact ⟨0, rfl, h.st.2.2.1, fun _ => ⟨l0, D1, j0, rfl, q, tv, h⟩, fun e => absurd rfl e⟩)
    (fun sp w h => by
      obtain ⟨l0, D1, j0, ho, q, tv, h⟩ := h
      have hD1 := opn_len (by omega) ho
      exact (open1_1 (R := jnA q p j0 :: R) (h.pick [0, 1, 3, 4, 2] 5 (by decide) rfl) size size _ _ rfl rfl (by omega) (by omega) (by omega)).mono fun e w' h => by
        cases ho1 : opnJ D1 size size with
        | err x D' =>
          rw [ho1] at h
          obtain ⟨rfl, h⟩ := h
          have hx := opn_err ho1
          exact ⟨x, rfl, h.st.2.2.1, fun e => by omega, fun _ => by
            rw [sopn_err1 ho ho1]
            exact ⟨rfl, h.pick [3] 5 (by decide) rfl⟩⟩
        | ok l1 D2 j1 =>
          rw [ho1] at h
          obtain ⟨rfl, q1, tv1, h⟩ := h
          refine ⟨0, rfl, h.st.2.2.1, fun _ => ?_, fun e => absurd rfl e⟩
          rw [sopn_ok ho ho1]
          exact ⟨sp, q, q1, tv1, rfl, h.pick [0, 5, 2, 4, 1] 6 (by decide) rfl⟩)
  have HB := Lib.hid hboth
  have HW1 := Lib.hid hw1
  have HBX := Lib.hid hbx
  clear hboth S1 S hw1 hbx h4 hsz hz
  go_enter Try.func19, Try.ntmps19
  go_wp2_with fail
  rw [← HW1.out, ← HBX.out]
  refine HB.out.mono ?_
  rintro e w2 (⟨sp, rfl, h⟩ | ⟨sp, ev, hev, rfl, h⟩)
  · have HS2 := Lib.hid h
    clear h
    go_wp2
    go_ret2
    exact HS2.out
  · have HS2 := Lib.hid h
    clear h
    go_wp2
    go_ret2
    exact HS2.out
end
end Go.Proofs.Ytnekelndcpmonaa
namespace Go.Proofs.Ytnekelndcpmonaa
open Go.RowKit
set_option linter.unusedVariables false

structure Sto where
  size : Nat
  is : Int
  count : Nat
  broken : Bool
  thing : List UInt8
  j0 : Jn
  j1 : Jn
def storeL (sp p : Nat) (s : Sto) (q0 q1 : Nat) (tv : Value) : List Asn := [stA sp (pV q0) (pV q1) ⟨s.size, s.is, s.count, s.broken⟩ tv, jnA q0 p s.j0, jnA q1 p s.j1, thA tv s.thing]
def storeA (sp p : Nat) (s : Sto) : Asn where
  holds w F := ∃ q0 q1 tv, (packA (storeL sp p s q0 q1 tv)).holds w F
  base := 0
  le := fun _ _ _ => Nat.zero_le _
  lt := fun w F ⟨_, _, _, h⟩ => (packA _).lt w F h
  cells := fun w F ⟨_, _, _, h⟩ => (packA _).cells w F h
  keep := fun w w' F ⟨q0, q1, tv, h⟩ e1 e2 e3 e4 e5 => ⟨q0, q1, tv, (packA _).keep w w' F h e1 e2 e3 e4 e5⟩
section
variable {w : World} {R : List Asn} {p sp : Nat} {D : Dk} {s : Sto}
theorem Sep.sto_open (S : Sep w (storeA sp p s :: R)) : ∃ q0 q1 tv, Sep w (stA sp (pV q0) (pV q1) ⟨s.size, s.is, s.count, s.broken⟩ tv :: jnA q0 p s.j0 :: jnA q1 p s.j1 :: thA tv s.thing :: R) := by
  obtain ⟨F, h1, ⟨q0, q1, tv, h2⟩, h3⟩ := S
  exact ⟨q0, q1, tv, Sep.unpack (L := storeL sp p s q0 q1 tv) ⟨F, h1, h2, h3⟩⟩
theorem Sep.sto_shut {q0 q1 : Nat} {tv : Value} (S : Sep w (stA sp (pV q0) (pV q1) ⟨s.size, s.is, s.count, s.broken⟩ tv :: jnA q0 p s.j0 :: jnA q1 p s.j1 :: thA tv s.thing :: R)) : Sep w (storeA sp p s :: R) := by
  have h : Sep w (packA (storeL sp p s q0 q1 tv) :: R) := Sep.pack (L := storeL sp p s q0 q1 tv) (fun A hA => by simp [storeL] at hA; rcases hA with rfl | rfl | rfl | rfl <;> rfl) S
  obtain ⟨F, h1, h2, h3⟩ := h
  exact ⟨F, h1, ⟨q0, q1, tv, h2⟩, h3⟩

/-! ### What one hands to Save -/
theorem holds_thA (ba : Option Addr) (bc : Nat) (b : List UInt8) : HoldsAt (thA (.slice ba b.length bc) b) ba b.length bc b := fun w R S => by
  obtain ⟨a, cap, e, h1, h2⟩ := S.thing
  cases e
  exact ⟨rfl, h1, h2⟩
theorem holds_bytes (ba : Option Addr) (n bc : Nat) (b : List UInt8) : HoldsAt (bytesA (.slice ba n bc) n b) ba n bc b := fun w R S => by
  refine ⟨S.bytes.len.symm, S.bytes.reads, fun e => ?_⟩
  subst e
  rcases S.own.2 with ⟨e, _⟩ | ⟨g2, _, _, e, _⟩
  · simp at e; exact e.2
  · cases e
/-- A string as bytes. -/
theorem Sep.conv (S : Sep w R) (x : ByteArray) (cap : Nat) : Sep (Lib.bytesWorld w 5 x) (thA (.slice (some ⟨w.heap.size, 0, none⟩) x.data.toList.length cap) x.data.toList :: R) := by
  refine Sep.stepNew (L' := [thA _ _]) S (conv_below w x) ⟨fun k => k = w.heap.size, fun k hk => by rw [hk]; exact Nat.le_refl _, .inr ⟨w.heap.size, 0, cap, _, _, rfl, Lib.bytesWorld_at_new w _ x, fun i hi => ?_, fun _ => Iff.rfl⟩, trivial⟩
  have h := Lib.bytesWorld_cell w 5 x i hi
  rw [cell_of (Lib.bytesWorld_at_new w _ x)] at h
  rw [Nat.zero_add]
  exact h

/-! ### The functions -/
theorem sRoom_sep (S : Sep w (storeA sp p s :: R)) (hs : s.size ≤ 4096) :
    Calls Try.prog 21 #[.pointer (some ⟨sp, 0, none⟩)] w fun e w' => e = .returned (.int .i64 (((s.size : Int) - 1) * 512 - 16 - 8)) ∧ w = w' := by
  obtain ⟨q0, q1, tv, S1⟩ := S.sto_open
  exact stRoom_sep S1 hs
theorem sLoad_sep (S : Sep w (storeA sp p s :: R)) (hb : s.broken = false) (hi : 0 ≤ s.is) (hl : s.thing.length ≤ 900000) :
    Calls Try.prog 18 #[.pointer (some ⟨sp, 0, none⟩)] w fun e w' => ∃ g cap, e = .returned (.tuple #[.slice g s.thing.length cap, .int .i64 0]) ∧ Sep w' (bytesA (.slice g s.thing.length cap) s.thing.length s.thing :: storeA sp p s :: R) := by
  obtain ⟨q0, q1, tv, S1⟩ := S.sto_open
  exact (load_sep (s := ⟨s.size, s.is, s.count, s.broken⟩) (S1.pick [0, 3, 1, 2] 4 (by decide) rfl) hb hi hl).mono fun e w' ⟨g, cap, he, h⟩ => ⟨g, cap, he, (Sep.sto_shut (R := bytesA _ _ _ :: R) (h.pick [1, 3, 4, 2, 0] 5 (by decide) rfl)).up1⟩
theorem sLoad_none (S : Sep w (storeA sp p s :: R)) (hb : s.broken = false) (hi : s.is = -1) :
    Calls Try.prog 18 #[.pointer (some ⟨sp, 0, none⟩)] w fun e w' => e = .returned (.tuple #[.slice none 0 0, .int .i64 3]) ∧ w = w' := by
  obtain ⟨q0, q1, tv, S1⟩ := S.sto_open
  exact load_none S1 hb hi
/-- What Format makes. -/
def stoNew (size : Nat) (j0 j1 : Jn) : Sto := ⟨size, -1, 0, false, [], j0, j1⟩
theorem sFormat_sep (S : Sep w (diskA p D :: R)) (size : Nat) (h4 : 4 ≤ D.secs.length) (hsz : size = D.secs.length / 2) (hw : D.waits.length ≤ 80000) (D4 : Dk) (j0 j1 : Jn) (hf : Fmt2 D D4 size j0 j1) :
    Calls Try.prog 12 #[.pointer (some ⟨p, 0, none⟩)] w fun e w' => ∃ sp, e = .returned (.tuple #[.pointer (some ⟨sp, 0, none⟩), .int .i64 0]) ∧ Sep w' (storeA sp p (stoNew size j0 j1) :: diskA p D4 :: R) :=
  (storeFormat_sep S size h4 hsz hw D4 j0 j1 hf).mono fun e w' ⟨sp, q0, q1, he, h⟩ => ⟨sp, he, Sep.sto_shut (s := stoNew size j0 j1) (h.noThing.pick [1, 2, 3, 0, 4] 5 (by decide) rfl)⟩
def stoOf (size : Nat) (j0 j1 : Jn) (x : Int × Nat × List UInt8) : Sto := ⟨size, x.1, x.2.1, false, x.2.2, j0, j1⟩
theorem sOpen_ok (S : Sep w (diskA p D :: R)) (size : Nat) (h4 : 4 ≤ D.secs.length) (hz : D.secs.length ≤ 1000) (hsz : size = D.secs.length / 2) (D' : Dk) (j0 j1 : Jn) (x : Int × Nat × List UInt8) (ho : sopnJ D size = .ok D' j0 j1 x) :
    Calls Try.prog 19 #[.pointer (some ⟨p, 0, none⟩)] w fun e w' => ∃ sp, e = .returned (.tuple #[.pointer (some ⟨sp, 0, none⟩), .int .i64 0]) ∧ Sep w' (storeA sp p (stoOf size j0 j1 x) :: diskA p D' :: R) := by
  refine (storeOpen_sep S size h4 hz hsz).mono fun e w' h => ?_
  rw [ho] at h
  obtain ⟨sp, q0, q1, tv, he, h⟩ := h
  exact ⟨sp, he, Sep.sto_shut (s := stoOf size j0 j1 x) (h.pick [0, 1, 2, 4, 3] 5 (by decide) rfl)⟩
theorem sOpen_err (S : Sep w (diskA p D :: R)) (size : Nat) (h4 : 4 ≤ D.secs.length) (hz : D.secs.length ≤ 1000) (hsz : size = D.secs.length / 2) (D' : Dk) (x : Int) (ho : sopnJ D size = .err x D') :
    Calls Try.prog 19 #[.pointer (some ⟨p, 0, none⟩)] w fun e w' => e = .returned (.tuple #[.pointer none, .int .i64 x]) ∧ Sep w' (diskA p D' :: R) := by
  refine (storeOpen_sep S size h4 hz hsz).mono fun e w' h => ?_
  rw [ho] at h
  exact h
/-- The half that is saved to. -/
def Sto.half (s : Sto) : Nat := if s.is = 0 then 1 else 0
def Sto.jn (s : Sto) : Jn := if s.is = 0 then s.j1 else s.j0
def Sto.saved (s : Sto) (j : Jn) (b : List UInt8) : Sto := if s.is = 0 then ⟨s.size, 1, s.count + 1, false, b, s.j0, j⟩ else ⟨s.size, 0, s.count + 1, false, b, j, s.j1⟩
def Sto.broke (s : Sto) (j : Jn) : Sto := if s.is = 0 then ⟨s.size, s.is, s.count, true, s.thing, s.j0, j⟩ else ⟨s.size, s.is, s.count, true, s.thing, j, s.j1⟩
def recS (n : Nat) (b : List UInt8) : List UInt8 := lowL n 8 ++ b
structure SaveOk (s : Sto) (D : Dk) (b : List UInt8) : Prop where
  len : b.length ≤ 800000
  broken : s.broken = false
  size : 1 ≤ s.size ∧ s.size ≤ 1000
  room : (b.length : Int) ≤ ((s.size : Int) - 1) * 512 - 16 - 8
  count : s.count < 4611686018427387904
  is : s.is = -1 ∨ s.is = 0 ∨ s.is = 1
  from_ : s.jn.from_ + 1 ≤ D.secs.length
  waits : D.waits.length ≤ 90000
  mid : (saveN D s.jn (recS (s.count + 1) b) 2).2.2.size ≤ 4096 ∧ (saveN D s.jn (recS (s.count + 1) b) 2).2.2.used ≤ (saveN D s.jn (recS (s.count + 1) b) 2).2.2.size ∧ (saveN D s.jn (recS (s.count + 1) b) 2).2.2.from_ + (saveN D s.jn (recS (s.count + 1) b) 2).2.2.size ≤ (saveN D s.jn (recS (s.count + 1) b) 2).2.1.secs.length ∧ (saveN D s.jn (recS (s.count + 1) b) 2).2.1.waits.length ≤ 80000
def SavePost (sp p : Nat) (s : Sto) (D : Dk) (B : Asn) (R : List Asn) (b : List UInt8) (e : Ending) (w' : World) : Prop :=
  (saveOk D s.jn (recS (s.count + 1) b) 4 ∧ e = .returned (.int .i64 0) ∧ Sep w' (storeA sp p (s.saved (saveN D s.jn (recS (s.count + 1) b) 4).2.2 b) :: diskA p (saveN D s.jn (recS (s.count + 1) b) 4).2.1 :: B :: R)) ∨
  (∃ n, n < 4 ∧ saveOk D s.jn (recS (s.count + 1) b) n ∧ (saveN D s.jn (recS (s.count + 1) b) (n + 1)).1 ≠ 0 ∧ e = .returned (.int .i64 11) ∧ Sep w' (storeA sp p (s.broke (saveN D s.jn (recS (s.count + 1) b) (n + 1)).2.2) :: diskA p (saveN D s.jn (recS (s.count + 1) b) (n + 1)).2.1 :: B :: R))
theorem sSave_sep {B : Asn} {ba : Option Addr} {bn bc : Nat} {b : List UInt8} (S : Sep w (storeA sp p s :: diskA p D :: B :: R)) (hB : HoldsAt B ba bn bc b) (hs : SaveOk s D b) :
    Calls Try.prog 15 #[.pointer (some ⟨sp, 0, none⟩), .slice ba bn bc] w (SavePost sp p s D B R b) := by
  have hbn : bn = b.length := by
    exact (hB w (storeA sp p s :: diskA p D :: R) (S.pick [2, 0, 1] 3 (by decide) rfl)).1
  subst hbn
  obtain ⟨q0, q1, tv, S1⟩ := S.sto_open
  obtain ⟨h1, h2, h3, h4, h5, h6, h7, h8, h9⟩ := hs
  rcases h6 with h6 | h6 | h6
  · have ej : s.jn = s.j0 := by unfold Sto.jn; rw [if_neg (by omega)]
    unfold SavePost
    rw [ej] at h7 h9 ⊢
    refine (save_first (s := ⟨s.size, s.is, s.count, s.broken⟩) (R := jnA q1 p s.j1 :: R) (S1.pick [0, 1, 4, 3, 5, 2] 6 (by decide) rfl) hB h1 h2 h3 h4 h5 h6 _ rfl h7 h8 h9).mono fun e w' h => ?_
    rcases h with ⟨g1, g2, tv', g3⟩ | ⟨n, g0, g1, g2, g3, g4⟩
    · refine .inl ⟨g1, g2, ?_⟩
      have e : s.saved (saveN D s.j0 (recS (s.count + 1) b) 4).2.2 b = _ := if_neg (by omega)
      rw [e]
      exact Sep.sto_shut (g3.pick [0, 1, 5, 3, 2, 4] 6 (by decide) rfl)
    · refine .inr ⟨n, g0, g1, g2, g3, ?_⟩
      have e : s.broke (saveN D s.j0 (recS (s.count + 1) b) (n + 1)).2.2 = _ := if_neg (by omega)
      rw [e]
      exact Sep.sto_shut (g4.pick [0, 1, 5, 3, 2, 4] 6 (by decide) rfl)
  · have ej : s.jn = s.j1 := by unfold Sto.jn; rw [if_pos h6]
    unfold SavePost
    rw [ej] at h7 h9 ⊢
    refine (save_odd (s := ⟨s.size, s.is, s.count, s.broken⟩) (R := jnA q0 p s.j0 :: R) (S1.pick [0, 2, 4, 3, 5, 1] 6 (by decide) rfl) hB h1 h2 h3 h4 h5 h6 _ rfl h7 h8 h9).mono fun e w' h => ?_
    rcases h with ⟨g1, g2, tv', g3⟩ | ⟨n, g0, g1, g2, g3, g4⟩
    · refine .inl ⟨g1, g2, ?_⟩
      have e : s.saved (saveN D s.j1 (recS (s.count + 1) b) 4).2.2 b = _ := if_pos h6
      rw [e]
      exact Sep.sto_shut (g3.pick [0, 5, 1, 3, 2, 4] 6 (by decide) rfl)
    · refine .inr ⟨n, g0, g1, g2, g3, ?_⟩
      have e : s.broke (saveN D s.j1 (recS (s.count + 1) b) (n + 1)).2.2 = _ := if_pos h6
      rw [e]
      exact Sep.sto_shut (g4.pick [0, 5, 1, 3, 2, 4] 6 (by decide) rfl)
  · have ej : s.jn = s.j0 := by unfold Sto.jn; rw [if_neg (by omega)]
    unfold SavePost
    rw [ej] at h7 h9 ⊢
    refine (save_even (s := ⟨s.size, s.is, s.count, s.broken⟩) (R := jnA q1 p s.j1 :: R) (S1.pick [0, 1, 4, 3, 5, 2] 6 (by decide) rfl) hB h1 h2 h3 h4 h5 h6 _ rfl h7 h8 h9).mono fun e w' h => ?_
    rcases h with ⟨g1, g2, tv', g3⟩ | ⟨n, g0, g1, g2, g3, g4⟩
    · refine .inl ⟨g1, g2, ?_⟩
      have e : s.saved (saveN D s.j0 (recS (s.count + 1) b) 4).2.2 b = _ := if_neg (by omega)
      rw [e]
      exact Sep.sto_shut (g3.pick [0, 1, 5, 3, 2, 4] 6 (by decide) rfl)
    · refine .inr ⟨n, g0, g1, g2, g3, ?_⟩
      have e : s.broke (saveN D s.j0 (recS (s.count + 1) b) (n + 1)).2.2 = _ := if_neg (by omega)
      rw [e]
      exact Sep.sto_shut (g4.pick [0, 1, 5, 3, 2, 4] 6 (by decide) rfl)
end
end Go.Proofs.Ytnekelndcpmonaa
