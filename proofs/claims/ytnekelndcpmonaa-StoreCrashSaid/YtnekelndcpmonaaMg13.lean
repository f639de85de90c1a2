/- The store's Save. -/
import Derived.Test.YtnekelndcpmonaaMg12
import Derived.Deep.QuietTactic
import Derived.BigQuiet
import Derived.Deep.CutBlock
import Derived.Deep.DeepCutAuto
set_option linter.all false
namespace Go.Proofs.Ytnekelndcpmonaa
open Go.RowKit
set_option linter.unusedVariables false

def fnReset (q : Nat) : Value := .func (.func 32) #[.pointer (some ⟨q, 0, none⟩)] #[]
def fnCommit (q : Nat) : Value := .func (.func 33) #[.pointer (some ⟨q, 0, none⟩)] #[]
def fnApp (jb sb bb : Nat) : Value := .func (.func 34) #[] #[.pointer (some ⟨jb, 0, none⟩), .pointer (some ⟨sb, 0, none⟩), .pointer (some ⟨bb, 0, none⟩)]
/-- What is handed to Save. -/
def HoldsAt (B : Asn) (ba : Option Addr) (bn bc : Nat) (b : List UInt8) : Prop := ∀ w R, Sep w (B :: R) → bn = b.length ∧ BytesAt w ba b ∧ (ba = none → bc = 0)
/-- The first n steps answer OK. -/
def saveOk (D : Dk) (j : Jn) (rec : List UInt8) (n : Nat) : Prop := ∀ i, 1 ≤ i → i ≤ n → (saveN D j rec i).1 = 0
theorem saveOk_succ {D : Dk} {j : Jn} {rec : List UInt8} {n : Nat} (h : saveOk D j rec n) (h1 : (saveN D j rec (n + 1)).1 = 0) : saveOk D j rec (n + 1) := by
  intro i hi hn
  by_cases h2 : i ≤ n
  · exact h i hi h2
  · have : i = n + 1 := by omega
    rw [this]; exact h1
theorem Sep.bytes_hold {w : World} {R : List Asn} {a : Option Addr} {n cap : Nat} {l : List UInt8} (S : Sep w (bytesA (.slice a n cap) n l :: R)) : Sep w (thA (.slice a n cap) l :: R) := by
  have hl : l.length = n := S.bytes.len
  obtain ⟨F, h1, ⟨⟨h2, h3⟩, h4⟩, h5⟩ := S
  rcases h3 with ⟨e, _⟩ | ⟨g2, cap2, cur, e, _, hh, hnc, _, hcs, htk⟩
  · cases e
    refine ⟨F, h1, .inl ⟨rfl, List.eq_nil_of_length_eq_zero hl, fun k hk => ?_⟩, h5⟩
    have := (h4 k).1 hk
    simp [Value.ownBlock] at this
  · cases e
    have S : Sep w (bytesA (.slice (some ⟨g2, 0, none⟩) n cap) n l :: R) := ⟨F, h1, ⟨⟨h2, .inr ⟨g2, cap, cur, rfl, by assumption, hh, hnc, by assumption, hcs, htk⟩⟩, h4⟩, h5⟩
    have := S.hold 0 n (by omega) cap
    simpa [← hl] using this
section
variable {w : World} {R : List Asn} {p sp q : Nat} {D : Dk} {j : Jn} {h0 h1 tv : Value} {s : St} {l : List UInt8}
set_option maxRecDepth 20000 in
set_option maxHeartbeats 8000000 in
theorem save_first {B : Asn} {ba : Option Addr} {bn bc : Nat} {b : List UInt8} (S : Sep w (stA sp (pV q) h1 s tv :: jnA q p j :: diskA p D :: thA tv l :: B :: R)) (hB : HoldsAt B ba bn bc b) (hbn : bn ≤ 800000)
    (hbr : s.broken = false) (hsz : 1 ≤ s.size ∧ s.size ≤ 1000) (hroom : (bn : Int) ≤ ((s.size : Int) - 1) * 512 - 16 - 8) (hcl : s.count < 4611686018427387904) (hh : s.is = (-1))
    (rec : List UInt8) (hrec : rec = lowL (s.count + 1) 8 ++ b)
    (hj : j.from_ + 1 ≤ D.secs.length) (hw : D.waits.length ≤ 90000)
    (h2 : (saveN D j rec 2).2.2.size ≤ 4096 ∧ (saveN D j rec 2).2.2.used ≤ (saveN D j rec 2).2.2.size ∧ (saveN D j rec 2).2.2.from_ + (saveN D j rec 2).2.2.size ≤ (saveN D j rec 2).2.1.secs.length ∧ (saveN D j rec 2).2.1.waits.length ≤ 80000) :
    Calls Try.prog 15 #[.pointer (some ⟨sp, 0, none⟩), .slice ba bn bc] w fun e w' =>
      (saveOk D j rec 4 ∧ e = .returned (.int .i64 0) ∧ ∃ tv', Sep w' (stA sp (pV q) h1 ⟨s.size, 0, s.count + 1, false⟩ tv' :: jnA q p (saveN D j rec 4).2.2 :: diskA p (saveN D j rec 4).2.1 :: thA tv' b :: B :: R)) ∨
      (∃ n, n < 4 ∧ saveOk D j rec n ∧ (saveN D j rec (n + 1)).1 ≠ 0 ∧ e = .returned (.int .i64 11) ∧ Sep w' (stA sp (pV q) h1 ⟨s.size, s.is, s.count, true⟩ tv :: jnA q p (saveN D j rec (n + 1)).2.2 :: diskA p (saveN D j rec (n + 1)).2.1 :: thA tv l :: B :: R)) := by
  obtain ⟨c0, c1, c2, c3, c4, c5, c6⟩ := S.st
  rw [hbr] at c6
  have hlt := S.blk_lt
  have S1 := (S.alloc #[.pointer (some ⟨sp, 0, none⟩)] 28).alloc #[.slice ba bn bc] 31
  simp only [World.size_alloc] at S1
  obtain ⟨sb, hsb⟩ : ∃ sb, sb = w.heap.size := ⟨_, rfl⟩
  obtain ⟨w1, hw1⟩ : ∃ w1, w1 = (w.alloc (.cells #[.pointer (some ⟨sp, 0, none⟩)] 28)).alloc (.cells #[.slice ba bn bc] 31) := ⟨_, rfl⟩
  rw [← hw1, ← hsb] at S1
  obtain ⟨rm, hrm⟩ : ∃ rm : Int, rm = ((s.size : Int) - 1) * 512 - 16 - 8 := ⟨_, rfl⟩
  have hgt : decide (rm < (bn : Int)) = false := by simp; omega
  have hge : decide ((4611686018427387904 : Int) ≤ (s.count : Int)) = false := by simp; omega
  have k1 := S1.up1.blk_cell 0
  have k2 := S1.blk_cell 0
  obtain ⟨d0, d1, d2, d3, d4, d5, d6⟩ := S1.up2.st
  simp at k1 k2
  have HW1 := Lib.hid hw1
  have HSB := Lib.hid hsb
  have HRM := Lib.hid hrm.symm
  have HS1 := Lib.hid S1
  have HH2 := Lib.hid h2
  have HREC := Lib.hid hrec
  have HSZ := Lib.hid hsz
  obtain ⟨ct, hct⟩ : ∃ ct, ct = s.count := ⟨_, rfl⟩
  have HCT := Lib.hid hct
  have HH := Lib.hid hh
  rw [← hct] at c4 d4 hge hcl
  rw [hh] at c3 d3
  rw [hbr] at d6
  have HC := Lib.hid hcl
  have HBR := Lib.hid hbr
  have HBB := Lib.hid hB
  clear S S1 hw1 hsb hrec h2 hrm hsz hct hh hroom hbr hB
  go_enter Try.func15, Try.ntmps15
  go_wp2_with fail
  rw [← HW1.out, ← HSB.out]
  clear c0 c1 c2 c3 c4 c5 c6 hlt
  go_region_held (fun w' => w'.cell? ⟨sb, 0, none⟩ = some (.pointer (some ⟨sp, 0, none⟩)) ∧ w'.cell? ⟨sb + 1, 0, none⟩ = some (.slice ba bn bc) ∧ w'.cell? ⟨sp, 4, none⟩ = some (.int .u64 (ct : Int))) (first | exact ⟨k1, k2, d4⟩)
    ((go_at_call 21; refine (stRoom_sep HS1.out.drew.up2 (by have := HSZ.out.2; omega)).mono ?_; rw [HRM.out]; rintro e w5 ⟨rfl, rfl⟩))
  clear k1 k2 d4
  have S5 := HS1.out.drew
  have k1 := S5.up1.blk_cell 0
  have k2 := S5.blk_cell 0
  obtain ⟨d0, d1, d2, d3, d4, d5, d6⟩ := S5.up2.st
  rw [← HCT.out] at d4
  rw [HH.out] at d3
  simp at k1 k2
  simp only [pV] at d0 d1
  have HS5 := Lib.hid S5
  clear S5
  go_wp2_with fail
  have S6 := ((HS1.out.alloc #[.pointer (some ⟨q, 0, none⟩)] 67).alloc #[fnReset q, fnCommit q, fnApp w1.heap.size sb (sb + 1), fnCommit q] 58).drew
  simp only [World.size_alloc] at S6
  obtain ⟨w2, hw2⟩ : ∃ w2, w2 = ((w1.alloc (.cells #[.pointer (some ⟨q, 0, none⟩)] 67)).alloc (.cells #[fnReset q, fnCommit q, fnApp w1.heap.size sb (sb + 1), fnCommit q] 58)).drew := ⟨_, rfl⟩
  obtain ⟨jb, hjb⟩ : ∃ jb, jb = w1.heap.size := ⟨_, rfl⟩
  rw [← hw2] at S6
  rw [← hjb] at S6 hw2
  have HW2 := Lib.hid hw2
  have HJB := Lib.hid hjb
  have HS6 := Lib.hid S6
  clear S6 hw2 hjb d0 d1 d2 d3 d4 d5 d6 k1 k2 HS5
  show Code.wp _ _ _ _ ((w1.alloc (.cells #[.pointer (some ⟨q, 0, none⟩)] 67)).alloc (.cells #[fnReset q, fnCommit q, fnApp w1.heap.size sb (sb + 1), fnCommit q] 58)).drew
  rw [← HJB.out, ← HW2.out]
  go_loopw [54] (fun i wr => ∃ (K : Int) (n : Nat), (K = 0 ∧ n = 0 ∨ K = 1 ∧ n = 1 ∨ K = 2 ∧ n = 2 ∨ K = 3 ∧ n = 3 ∨ K = 4 ∧ n = 4) ∧ i = .int .i64 K ∧ Hid (saveOk D j rec n ∧ Sep wr (jnA q p (saveN D j rec n).2.2 :: diskA p (saveN D j rec n).2.1 :: blkA jb #[.pointer (some ⟨q, 0, none⟩)] 67 :: blkA sb #[.pointer (some ⟨sp, 0, none⟩)] 28 :: blkA (sb + 1) #[.slice ba bn bc] 31 :: stA sp (pV q) h1 s tv :: blkA (jb + 1) #[fnReset q, fnCommit q, fnApp jb sb (sb + 1), fnCommit q] 58 :: thA tv l :: B :: R))) (fun i _ => 4 - (intOf i).toNat)
  case atStart => exact ⟨0, 0, .inl ⟨rfl, rfl⟩, rfl, Lib.hid ⟨(fun i h1 h2 => by omega), HS6.out.up4.up3.up4.up4.up6.up6⟩⟩
  case round =>
    obtain ⟨K, n, hK, rfl, HI⟩ := hrel
    clear HS1 HS6 HW1 HW2 HRM HSB HJB hgt hge
    rcases hK with ⟨rfl, rfl⟩ | ⟨rfl, rfl⟩ | ⟨rfl, rfl⟩ | ⟨rfl, rfl⟩ | ⟨rfl, rfl⟩
    · have S5 := HI.out.2
      have hok := HI.out.1
      have ck := S5.up6.blk_cell 0
      simp [fnReset] at ck
      have HS5 := Lib.hid S5
      clear S5
      go_wp2_with fail
      refine (reset_sep HS5.out hj hw).mono ?_
      rintro e w5 ⟨he, S7⟩
      skip
      replace S7 : Sep w5 (jnA q p (saveN D j rec 1).2.2 :: diskA p (saveN D j rec 1).2.1 :: _) := S7
      have k1 := S7.up3.blk_cell 0
      have f6 := S7.up5.blk_free 6
      have c6 := S7.up5.blk_cell 6
      simp [stC] at k1 c6
      obtain ⟨ev, hev⟩ : ∃ ev, ev = (saveN D j rec 1).1 := ⟨_, rfl⟩
      replace he : e = .returned (.int .i64 ev) := he.trans (by rw [hev]; rfl)
      subst he
      by_cases hz : ev = 0
      · have hok2 := Lib.hid (saveOk_succ HI.out.1 (hev.symm.trans hz))
        have HS7 := Lib.hid S7
        subst hz
        clear S7 k1 f6 c6 hev
        go_wp2_with fail
        go_roundw
        case rel => exact ⟨1, 1, by omega, rfl, Lib.hid ⟨hok2.out, HS7.out⟩⟩
        case measure => simp [intOf]
      · have HEV := Lib.hid hev
        have HS7 := Lib.hid (S7.up5.blk_set 6 (.bool true)).up3.drop.up3.drop.up3.drop.up3.drop
        clear S7 hev
        go_wp2
        go_ret
        exact .inr ⟨0, by omega, HI.out.1, by rw [← HEV.out]; exact hz, rfl, HS7.out⟩
    · have S5 := HI.out.2
      have hok := HI.out.1
      have ck := S5.up6.blk_cell 1
      simp [fnCommit] at ck
      have HS5 := Lib.hid S5
      clear S5
      go_wp2_with fail
      refine (commit_sep HS5.out).mono ?_
      rintro e w5 ⟨he, S7⟩
      skip
      replace S7 : Sep w5 (jnA q p (saveN D j rec 2).2.2 :: diskA p (saveN D j rec 2).2.1 :: _) := S7
      have k1 := S7.up3.blk_cell 0
      have f6 := S7.up5.blk_free 6
      have c6 := S7.up5.blk_cell 6
      simp [stC] at k1 c6
      obtain ⟨ev, hev⟩ : ∃ ev, ev = (saveN D j rec 2).1 := ⟨_, rfl⟩
      replace he : e = .returned (.int .i64 ev) := he.trans (by rw [hev]; rfl)
      subst he
      by_cases hz : ev = 0
      · have hok2 := Lib.hid (saveOk_succ HI.out.1 (hev.symm.trans hz))
        have HS7 := Lib.hid S7
        subst hz
        clear S7 k1 f6 c6 hev
        go_wp2_with fail
        go_roundw
        case rel => exact ⟨2, 2, by omega, rfl, Lib.hid ⟨hok2.out, HS7.out⟩⟩
        case measure => simp [intOf]
      · have HEV := Lib.hid hev
        have HS7 := Lib.hid (S7.up5.blk_set 6 (.bool true)).up3.drop.up3.drop.up3.drop.up3.drop
        clear S7 hev
        go_wp2
        go_ret
        exact .inr ⟨1, by omega, HI.out.1, by rw [← HEV.out]; exact hz, rfl, HS7.out⟩
    · have S5 := HI.out.2
      have hok := HI.out.1
      have ck := S5.up6.blk_cell 2
      simp [fnApp] at ck
      obtain ⟨hta2, htb, htn⟩ := HBB.out _ _ S5.up8
      subst hta2
      have HT := Lib.hid (And.intro htb (And.intro hbn htn))
      clear htb htn
      have HS5 := Lib.hid S5
      clear S5
      go_wp2_with fail
      refine (save1_sep HS5.out HT.out.1 rfl (by have := HT.out.2.1; omega) HT.out.2.2 (by have := HC.out; have := HCT.out; omega) _ rfl HH2.out.1 HH2.out.2.1 HH2.out.2.2.1 HH2.out.2.2.2).mono ?_
      rintro e w5 ⟨he, S7⟩
      rw [← HREC.out] at he S7
      replace S7 : Sep w5 (jnA q p (saveN D j rec 3).2.2 :: diskA p (saveN D j rec 3).2.1 :: _) := S7
      have k1 := S7.up3.blk_cell 0
      have f6 := S7.up5.blk_free 6
      have c6 := S7.up5.blk_cell 6
      simp [stC] at k1 c6
      obtain ⟨ev, hev⟩ : ∃ ev, ev = (saveN D j rec 3).1 := ⟨_, rfl⟩
      replace he : e = .returned (.int .i64 ev) := he.trans (by rw [hev]; rfl)
      subst he
      by_cases hz : ev = 0
      · have hok2 := Lib.hid (saveOk_succ HI.out.1 (hev.symm.trans hz))
        have HS7 := Lib.hid S7
        subst hz
        clear S7 k1 f6 c6 hev
        go_wp2_with fail
        go_roundw
        case rel => exact ⟨3, 3, by omega, rfl, Lib.hid ⟨hok2.out, HS7.out⟩⟩
        case measure => simp [intOf]
      · have HEV := Lib.hid hev
        have HS7 := Lib.hid (S7.up5.blk_set 6 (.bool true)).up3.drop.up3.drop.up3.drop.up3.drop
        clear S7 hev
        go_wp2
        go_ret
        exact .inr ⟨2, by omega, HI.out.1, by rw [← HEV.out]; exact hz, rfl, HS7.out⟩
    · have S5 := HI.out.2
      have hok := HI.out.1
      have ck := S5.up6.blk_cell 3
      simp [fnCommit] at ck
      have HS5 := Lib.hid S5
      clear S5
      go_wp2_with fail
      refine (commit_sep HS5.out).mono ?_
      rintro e w5 ⟨he, S7⟩
      skip
      replace S7 : Sep w5 (jnA q p (saveN D j rec 4).2.2 :: diskA p (saveN D j rec 4).2.1 :: _) := S7
      have k1 := S7.up3.blk_cell 0
      have f6 := S7.up5.blk_free 6
      have c6 := S7.up5.blk_cell 6
      simp [stC] at k1 c6
      obtain ⟨ev, hev⟩ : ∃ ev, ev = (saveN D j rec 4).1 := ⟨_, rfl⟩
      replace he : e = .returned (.int .i64 ev) := he.trans (by rw [hev]; rfl)
      subst he
      by_cases hz : ev = 0
      · have hok2 := Lib.hid (saveOk_succ HI.out.1 (hev.symm.trans hz))
        have HS7 := Lib.hid S7
        subst hz
        clear S7 k1 f6 c6 hev
        go_wp2_with fail
        go_roundw
        case rel => exact ⟨4, 4, by omega, rfl, Lib.hid ⟨hok2.out, HS7.out⟩⟩
        case measure => simp [intOf]
      · have HEV := Lib.hid hev
        have HS7 := Lib.hid (S7.up5.blk_set 6 (.bool true)).up3.drop.up3.drop.up3.drop.up3.drop
        clear S7 hev
        go_wp2
        go_ret
        exact .inr ⟨3, by omega, HI.out.1, by rw [← HEV.out]; exact hz, rfl, HS7.out⟩
    · obtain ⟨hta2, htb, htn⟩ := HBB.out _ _ HI.out.2.up8
      subst hta2
      have S5 := HI.out.2
      have HT := Lib.hid (And.intro htb htn)
      have k1 := S5.up3.blk_cell 0
      have k2 := S5.up4.blk_cell 0
      have d4 := S5.up5.blk_cell 4
      simp [stC] at k1 k2 d4
      obtain ⟨c1, hc1⟩ : ∃ c1, c1 = s.count + 1 := ⟨_, rfl⟩
      have q1 : IntKind.u64.wrap ((s.count : Int) + 1) = (c1 : Int) := by rw [IntKind.wrap_u64]; have := HC.out; have := HCT.out; omega
      have HC1 := Lib.hid hc1
      clear hc1
      have HS5 := Lib.hid S5
      clear htb htn S5
      go_wp2_with fail
      refine AnyK.start (S := lateS (fun w' => w'.cell? ⟨sb, 0, none⟩ = some (.pointer (some ⟨sp, 0, none⟩)) ∧ w'.cell? ⟨sb + 1, 0, none⟩ = some (.slice ba b.length bc)) []) (by kernel_rfl) ?_
      have hHeld : wr.drew.cell? ⟨sb, 0, none⟩ = some (.pointer (some ⟨sp, 0, none⟩)) ∧ wr.drew.cell? ⟨sb + 1, 0, none⟩ = some (.slice ba b.length bc) := ⟨k1, k2⟩
      refine AnyK.take (i := 0) (T := [11, 12, 13]) (v := ?vx0) rfl (by kernel_rfl) (by kernel_rfl) (by kernel_rfl) (by kernel_rfl) (by kernel_rfl) (by kernel_rfl) (by kernel_rfl) (fun _ _ _ h => h) (Or.inl ⟨by rfl, ?yx0⟩) hHeld ?rx0
      case yx0 => (intro w hSw; (try dsimp only at hSw); go_simp; (try with_reducible rfl))
      try simp only [Act.put, List.getElem_toArray, List.getElem_cons_zero, List.getElem_cons_succ, List.setIfInBounds_toArray, List.set_cons_zero, List.set_cons_succ]
      refine AnyK.take (i := 1) (T := [14, 15, 16]) (v := ?vx1) rfl (by kernel_rfl) (by kernel_rfl) (by kernel_rfl) (by kernel_rfl) (by kernel_rfl) (by kernel_rfl) (by kernel_rfl) (fun _ _ _ h => h) (Or.inl ⟨by rfl, ?yx1⟩) hHeld ?rx1
      case yx1 => (intro w hSw; (try dsimp only at hSw); go_simp; (try with_reducible rfl))
      try simp only [Act.put, List.getElem_toArray, List.getElem_cons_zero, List.getElem_cons_succ, List.setIfInBounds_toArray, List.set_cons_zero, List.set_cons_succ]
      refine AnyK.take (i := 2) (T := [17, 18, 19]) (v := ?vx2) rfl (by kernel_rfl) (by kernel_rfl) (by kernel_rfl) (by kernel_rfl) (by kernel_rfl) (by kernel_rfl) (by kernel_rfl) (fun _ _ _ h => h) (Or.inl ⟨by rfl, ?yx2⟩) hHeld ?rx2
      case yx2 => (intro w hSw; (try dsimp only at hSw); go_simp; (try with_reducible rfl))
      try simp only [Act.put, List.getElem_toArray, List.getElem_cons_zero, List.getElem_cons_succ, List.setIfInBounds_toArray, List.set_cons_zero, List.set_cons_succ]
      refine AnyK.take (i := 3) (T := [13]) (v := ?vx3) rfl (by kernel_rfl) (by kernel_rfl) (by kernel_rfl) (by kernel_rfl) (by kernel_rfl) (by kernel_rfl) (by kernel_rfl) (fun _ _ _ h => h) (Or.inl ⟨by rfl, ?yx3⟩) hHeld ?rx3
      case yx3 => (intro w hSw; (try dsimp only at hSw); go_simp; (try with_reducible rfl))
      try simp only [Act.put, List.getElem_toArray, List.getElem_cons_zero, List.getElem_cons_succ, List.setIfInBounds_toArray, List.set_cons_zero, List.set_cons_succ]
      refine AnyK.take (i := 4) (T := [5, 6, 7, 8, 16]) (v := ?vx4) rfl (by kernel_rfl) (by kernel_rfl) (by kernel_rfl) (by kernel_rfl) (by kernel_rfl) (by kernel_rfl) (by kernel_rfl) (fun _ _ _ h => h) (Or.inl ⟨by rfl, ?yx4⟩) hHeld ?rx4
      case yx4 => (intro w hSw; (try dsimp only at hSw); go_simp; (try with_reducible rfl))
      try simp only [Act.put, List.getElem_toArray, List.getElem_cons_zero, List.getElem_cons_succ, List.setIfInBounds_toArray, List.set_cons_zero, List.set_cons_succ]
      refine AnyK.take (i := 5) (T := [6, 7, 8, 16]) (v := ?vx5) rfl (by kernel_rfl) (by kernel_rfl) (by kernel_rfl) (by kernel_rfl) (by kernel_rfl) (by kernel_rfl) (by kernel_rfl) (fun _ _ _ h => h) (Or.inl ⟨by rfl, ?yx5⟩) hHeld ?rx5
      case yx5 => (intro w hSw; (try dsimp only at hSw); go_simp; (try with_reducible rfl))
      try simp only [Act.put, List.getElem_toArray, List.getElem_cons_zero, List.getElem_cons_succ, List.setIfInBounds_toArray, List.set_cons_zero, List.set_cons_succ]
      refine AnyK.take (i := 6) (T := [7, 8, 16]) (v := ?vx6) rfl (by kernel_rfl) (by kernel_rfl) (by kernel_rfl) (by kernel_rfl) (by kernel_rfl) (by kernel_rfl) (by kernel_rfl) (fun _ _ _ h => h) (Or.inl ⟨by rfl, ?yx6⟩) hHeld ?rx6
      case yx6 => (intro w hSw; (try dsimp only at hSw); go_simp; (try with_reducible rfl))
      try simp only [Act.put, List.getElem_toArray, List.getElem_cons_zero, List.getElem_cons_succ, List.setIfInBounds_toArray, List.set_cons_zero, List.set_cons_succ]
      refine AnyK.take (i := 9) (T := [10, 19]) (v := ?vx9) rfl (by kernel_rfl) (by kernel_rfl) (by kernel_rfl) (by kernel_rfl) (by kernel_rfl) (by kernel_rfl) (by kernel_rfl) (fun _ _ _ h => h) (Or.inl ⟨by rfl, ?yx9⟩) hHeld ?rx9
      case yx9 => (intro w hSw; (try dsimp only at hSw); go_simp; (try with_reducible rfl))
      try simp only [Act.put, List.getElem_toArray, List.getElem_cons_zero, List.getElem_cons_succ, List.setIfInBounds_toArray, List.set_cons_zero, List.set_cons_succ]
      refine AnyK.two (i := 7) (j := 10) (by kernel_rfl) rfl rfl (fun K hK => ?_) (fun K hK => ?_)
      · go_simp
        refine hK.out _ _ (.inr hHeld) ?_
        clear hK K
        refine AnyK.take (i := 8) (T := [16]) (v := ?va8) rfl (by kernel_rfl) (by kernel_rfl) (by kernel_rfl) (by kernel_rfl) (by kernel_rfl) (by kernel_rfl) (by kernel_rfl) (fun _ _ _ h => h) (Or.inl ⟨by rfl, ?ya8⟩) hHeld ?ra8
        case ya8 => (intro w hSw; (try dsimp only at hSw); go_simp; (try with_reducible rfl))
        try simp only [Act.put, List.getElem_toArray, List.getElem_cons_zero, List.getElem_cons_succ, List.setIfInBounds_toArray, List.set_cons_zero, List.set_cons_succ]
        refine AnyK.one (i := 10) (by kernel_rfl) rfl (fun K hK => ?_)
        go_simp
        refine (clone_calls _ ba b.length bc b (HT.out.1.below (Below.refl _ _).drew) rfl (by omega) HT.out.2).mono ?_
        rintro e w5 ⟨g, cap, rfl, ho, hb⟩
        have S8 := (HS5.out.drew.newBytes hb ho).bytes_hold
        have m1 := S8.up4.blk_cell 0
        have m2 := S8.up5.blk_cell 0
        have n0 := S8.up6.st
        have f3 := S8.up6.blk_free 3
        have f4 := S8.up6.blk_free 4
        have f5 := S8.up6.blk_free 5
        simp at m1 m2
        obtain ⟨n0, n1, n2, n3, n4, n5, n6⟩ := n0
        refine hK.out _ _ (.inr ⟨m1, m2⟩) ?_
        clear hK K
        have hHeld5 : w5.cell? ⟨sb, 0, none⟩ = some (.pointer (some ⟨sp, 0, none⟩)) ∧ w5.cell? ⟨sb + 1, 0, none⟩ = some (.slice ba b.length bc) := ⟨m1, m2⟩
        have HS8 := Lib.hid S8
        clear S8 ho hb
        refine AnyK.take (i := 11) (T := [12, 13]) (v := ?vta11) rfl (by kernel_rfl) (by kernel_rfl) (by kernel_rfl) (by kernel_rfl) (by kernel_rfl) (by kernel_rfl) (by kernel_rfl) (fun _ _ _ h => h) (Or.inl ⟨by rfl, ?yta11⟩) hHeld5 ?rta11
        case yta11 => (intro w hSw; (try dsimp only at hSw); go_simp; (try with_reducible rfl))
        try simp only [Act.put, List.getElem_toArray, List.getElem_cons_zero, List.getElem_cons_succ, List.setIfInBounds_toArray, List.set_cons_zero, List.set_cons_succ]
        refine AnyK.take (i := 12) (T := [13]) (v := ?vta12) rfl (by kernel_rfl) (by kernel_rfl) (by kernel_rfl) (by kernel_rfl) (by kernel_rfl) (by kernel_rfl) (by kernel_rfl) (fun _ _ _ h => h) (Or.inl ⟨by rfl, ?yta12⟩) hHeld5 ?rta12
        case yta12 => (intro w hSw; (try dsimp only at hSw); go_simp; (try with_reducible rfl))
        try simp only [Act.put, List.getElem_toArray, List.getElem_cons_zero, List.getElem_cons_succ, List.setIfInBounds_toArray, List.set_cons_zero, List.set_cons_succ]
        refine AnyK.one (i := 13) (by kernel_rfl) rfl (fun K hK => ?_)
        go_simp
        have S9 := HS8.out.up6.blk_set 3 (.int .i64 0)
        have hHeld6 : (w5.setCell ⟨sp, 3, none⟩ (.int .i64 0)).cell? ⟨sb, 0, none⟩ = some (.pointer (some ⟨sp, 0, none⟩)) ∧ (w5.setCell ⟨sp, 3, none⟩ (.int .i64 0)).cell? ⟨sb + 1, 0, none⟩ = some (.slice ba b.length bc) := ⟨by have := S9.up5.blk_cell 0; simpa using this, by have := S9.up6.blk_cell 0; simpa using this⟩
        have e4 := S9.blk_cell 4
        have f4 := S9.blk_free 4
        simp [stC] at e4
        refine hK.out _ _ (.inr hHeld6) ?_
        clear hK K f3 f5
        obtain ⟨w6, hw6⟩ : ∃ w6, w6 = w5.setCell ⟨sp, 3, none⟩ (.int .i64 0) := ⟨_, rfl⟩
        rw [← hw6] at S9 hHeld6 e4 f4
        have HW6 := Lib.hid hw6
        have HS9 := Lib.hid S9
        clear hw6 S9
        rw [← HW6.out]
        refine AnyK.take (i := 14) (T := [15, 16]) (v := ?vta14) rfl (by kernel_rfl) (by kernel_rfl) (by kernel_rfl) (by kernel_rfl) (by kernel_rfl) (by kernel_rfl) (by kernel_rfl) (fun _ _ _ h => h) (Or.inl ⟨by rfl, ?yta14⟩) hHeld6 ?rta14
        case yta14 => (intro w hSw; (try dsimp only at hSw); go_simp; (try with_reducible rfl))
        try simp only [Act.put, List.getElem_toArray, List.getElem_cons_zero, List.getElem_cons_succ, List.setIfInBounds_toArray, List.set_cons_zero, List.set_cons_succ]
        refine AnyK.take (i := 15) (T := [16]) (v := ?vta15) rfl (by kernel_rfl) (by kernel_rfl) (by kernel_rfl) (by kernel_rfl) (by kernel_rfl) (by kernel_rfl) (by kernel_rfl) (fun _ _ _ h => h) (Or.inl ⟨by rfl, ?yta15⟩) hHeld6 ?rta15
        case yta15 => (intro w hSw; (try dsimp only at hSw); go_simp; (try with_reducible rfl))
        try simp only [Act.put, List.getElem_toArray, List.getElem_cons_zero, List.getElem_cons_succ, List.setIfInBounds_toArray, List.set_cons_zero, List.set_cons_succ]
        refine AnyK.one (i := 16) (by kernel_rfl) rfl (fun K hK => ?_)
        go_simp
        have S10 := HS9.out.blk_set 4 (.int .u64 (c1 : Int))
        have hHeld7 : (w6.setCell ⟨sp, 4, none⟩ (.int .u64 (c1 : Int))).cell? ⟨sb, 0, none⟩ = some (.pointer (some ⟨sp, 0, none⟩)) ∧ (w6.setCell ⟨sp, 4, none⟩ (.int .u64 (c1 : Int))).cell? ⟨sb + 1, 0, none⟩ = some (.slice ba b.length bc) := ⟨by have := S10.up5.blk_cell 0; simpa using this, by have := S10.up6.blk_cell 0; simpa using this⟩
        have e5 := S10.blk_cell 5
        have f5 := S10.blk_free 5
        simp [stC] at e5
        refine hK.out _ _ (.inr hHeld7) ?_
        clear hK K f4 e4
        obtain ⟨w7, hw7⟩ : ∃ w7, w7 = w6.setCell ⟨sp, 4, none⟩ (.int .u64 (c1 : Int)) := ⟨_, rfl⟩
        rw [← hw7] at S10 hHeld7 e5 f5
        have HW7 := Lib.hid hw7
        have HS10 := Lib.hid S10
        clear hw7 S10
        rw [← HW7.out]
        refine AnyK.take (i := 17) (T := [18, 19]) (v := ?vta17) rfl (by kernel_rfl) (by kernel_rfl) (by kernel_rfl) (by kernel_rfl) (by kernel_rfl) (by kernel_rfl) (by kernel_rfl) (fun _ _ _ h => h) (Or.inl ⟨by rfl, ?yta17⟩) hHeld7 ?rta17
        case yta17 => (intro w hSw; (try dsimp only at hSw); go_simp; (try with_reducible rfl))
        try simp only [Act.put, List.getElem_toArray, List.getElem_cons_zero, List.getElem_cons_succ, List.setIfInBounds_toArray, List.set_cons_zero, List.set_cons_succ]
        refine AnyK.take (i := 18) (T := [19]) (v := ?vta18) rfl (by kernel_rfl) (by kernel_rfl) (by kernel_rfl) (by kernel_rfl) (by kernel_rfl) (by kernel_rfl) (by kernel_rfl) (fun _ _ _ h => h) (Or.inl ⟨by rfl, ?yta18⟩) hHeld7 ?rta18
        case yta18 => (intro w hSw; (try dsimp only at hSw); go_simp; (try with_reducible rfl))
        try simp only [Act.put, List.getElem_toArray, List.getElem_cons_zero, List.getElem_cons_succ, List.setIfInBounds_toArray, List.set_cons_zero, List.set_cons_succ]
        refine AnyK.one (i := 19) (by kernel_rfl) rfl (fun K hK => ?_)
        go_simp
        have S11 := HS10.out.blk_set 5 (.slice g b.length cap)
        have hHeld8 : (w7.setCell ⟨sp, 5, none⟩ (.slice g b.length cap)).cell? ⟨sb, 0, none⟩ = some (.pointer (some ⟨sp, 0, none⟩)) ∧ (w7.setCell ⟨sp, 5, none⟩ (.slice g b.length cap)).cell? ⟨sb + 1, 0, none⟩ = some (.slice ba b.length bc) := ⟨by have := S11.up5.blk_cell 0; simpa using this, by have := S11.up6.blk_cell 0; simpa using this⟩
        refine hK.out _ _ (.inr hHeld8) ?_
        clear hK K
        refine AnyK.done (by kernel_rfl) ?_ _
        have e1 := HC1.out
        subst e1
        have S12 : Sep (w7.setCell ⟨sp, 5, none⟩ (.slice g b.length cap)) (stA sp (pV q) h1 ⟨s.size, 0, s.count + 1, s.broken⟩ (.slice g b.length cap) :: _) := S11.up4.drop.up4.drop.up4.drop.up4.drop.up4.drop.up1.dn3
        rw [HBR.out] at S12
        have HS12 := Lib.hid S12
        clear S11 S12
        go_wp2
        go_ret
        exact .inl ⟨HI.out.1, rfl, _, HS12.out⟩
      · skip
        go_simp
        refine (clone_calls _ ba b.length bc b (HT.out.1.below (Below.refl _ _).drew) rfl (by omega) HT.out.2).mono ?_
        rintro e w5 ⟨g, cap, rfl, ho, hb⟩
        have S8 := (HS5.out.drew.newBytes hb ho).bytes_hold
        have m1 := S8.up4.blk_cell 0
        have m2 := S8.up5.blk_cell 0
        have n0 := S8.up6.st
        have f3 := S8.up6.blk_free 3
        have f4 := S8.up6.blk_free 4
        have f5 := S8.up6.blk_free 5
        simp at m1 m2
        obtain ⟨n0, n1, n2, n3, n4, n5, n6⟩ := n0
        refine hK.out _ _ (.inr ⟨m1, m2⟩) ?_
        clear hK K
        have hHeld5 : w5.cell? ⟨sb, 0, none⟩ = some (.pointer (some ⟨sp, 0, none⟩)) ∧ w5.cell? ⟨sb + 1, 0, none⟩ = some (.slice ba b.length bc) := ⟨m1, m2⟩
        have HS8 := Lib.hid S8
        clear S8 ho hb
        refine AnyK.one (i := 7) (by kernel_rfl) rfl (fun K hK => ?_)
        go_simp
        refine hK.out _ _ (.inr hHeld5) ?_
        clear hK K
        refine AnyK.take (i := 8) (T := [16]) (v := ?vb8) rfl (by kernel_rfl) (by kernel_rfl) (by kernel_rfl) (by kernel_rfl) (by kernel_rfl) (by kernel_rfl) (by kernel_rfl) (fun _ _ _ h => h) (Or.inl ⟨by rfl, ?yb8⟩) hHeld5 ?rb8
        case yb8 => (intro w hSw; (try dsimp only at hSw); go_simp; (try with_reducible rfl))
        try simp only [Act.put, List.getElem_toArray, List.getElem_cons_zero, List.getElem_cons_succ, List.setIfInBounds_toArray, List.set_cons_zero, List.set_cons_succ]
        refine AnyK.take (i := 11) (T := [12, 13]) (v := ?vtb11) rfl (by kernel_rfl) (by kernel_rfl) (by kernel_rfl) (by kernel_rfl) (by kernel_rfl) (by kernel_rfl) (by kernel_rfl) (fun _ _ _ h => h) (Or.inl ⟨by rfl, ?ytb11⟩) hHeld5 ?rtb11
        case ytb11 => (intro w hSw; (try dsimp only at hSw); go_simp; (try with_reducible rfl))
        try simp only [Act.put, List.getElem_toArray, List.getElem_cons_zero, List.getElem_cons_succ, List.setIfInBounds_toArray, List.set_cons_zero, List.set_cons_succ]
        refine AnyK.take (i := 12) (T := [13]) (v := ?vtb12) rfl (by kernel_rfl) (by kernel_rfl) (by kernel_rfl) (by kernel_rfl) (by kernel_rfl) (by kernel_rfl) (by kernel_rfl) (fun _ _ _ h => h) (Or.inl ⟨by rfl, ?ytb12⟩) hHeld5 ?rtb12
        case ytb12 => (intro w hSw; (try dsimp only at hSw); go_simp; (try with_reducible rfl))
        try simp only [Act.put, List.getElem_toArray, List.getElem_cons_zero, List.getElem_cons_succ, List.setIfInBounds_toArray, List.set_cons_zero, List.set_cons_succ]
        refine AnyK.one (i := 13) (by kernel_rfl) rfl (fun K hK => ?_)
        go_simp
        have S9 := HS8.out.up6.blk_set 3 (.int .i64 0)
        have hHeld6 : (w5.setCell ⟨sp, 3, none⟩ (.int .i64 0)).cell? ⟨sb, 0, none⟩ = some (.pointer (some ⟨sp, 0, none⟩)) ∧ (w5.setCell ⟨sp, 3, none⟩ (.int .i64 0)).cell? ⟨sb + 1, 0, none⟩ = some (.slice ba b.length bc) := ⟨by have := S9.up5.blk_cell 0; simpa using this, by have := S9.up6.blk_cell 0; simpa using this⟩
        have e4 := S9.blk_cell 4
        have f4 := S9.blk_free 4
        simp [stC] at e4
        refine hK.out _ _ (.inr hHeld6) ?_
        clear hK K f3 f5
        obtain ⟨w6, hw6⟩ : ∃ w6, w6 = w5.setCell ⟨sp, 3, none⟩ (.int .i64 0) := ⟨_, rfl⟩
        rw [← hw6] at S9 hHeld6 e4 f4
        have HW6 := Lib.hid hw6
        have HS9 := Lib.hid S9
        clear hw6 S9
        rw [← HW6.out]
        refine AnyK.take (i := 14) (T := [15, 16]) (v := ?vtb14) rfl (by kernel_rfl) (by kernel_rfl) (by kernel_rfl) (by kernel_rfl) (by kernel_rfl) (by kernel_rfl) (by kernel_rfl) (fun _ _ _ h => h) (Or.inl ⟨by rfl, ?ytb14⟩) hHeld6 ?rtb14
        case ytb14 => (intro w hSw; (try dsimp only at hSw); go_simp; (try with_reducible rfl))
        try simp only [Act.put, List.getElem_toArray, List.getElem_cons_zero, List.getElem_cons_succ, List.setIfInBounds_toArray, List.set_cons_zero, List.set_cons_succ]
        refine AnyK.take (i := 15) (T := [16]) (v := ?vtb15) rfl (by kernel_rfl) (by kernel_rfl) (by kernel_rfl) (by kernel_rfl) (by kernel_rfl) (by kernel_rfl) (by kernel_rfl) (fun _ _ _ h => h) (Or.inl ⟨by rfl, ?ytb15⟩) hHeld6 ?rtb15
        case ytb15 => (intro w hSw; (try dsimp only at hSw); go_simp; (try with_reducible rfl))
        try simp only [Act.put, List.getElem_toArray, List.getElem_cons_zero, List.getElem_cons_succ, List.setIfInBounds_toArray, List.set_cons_zero, List.set_cons_succ]
        refine AnyK.one (i := 16) (by kernel_rfl) rfl (fun K hK => ?_)
        go_simp
        have S10 := HS9.out.blk_set 4 (.int .u64 (c1 : Int))
        have hHeld7 : (w6.setCell ⟨sp, 4, none⟩ (.int .u64 (c1 : Int))).cell? ⟨sb, 0, none⟩ = some (.pointer (some ⟨sp, 0, none⟩)) ∧ (w6.setCell ⟨sp, 4, none⟩ (.int .u64 (c1 : Int))).cell? ⟨sb + 1, 0, none⟩ = some (.slice ba b.length bc) := ⟨by have := S10.up5.blk_cell 0; simpa using this, by have := S10.up6.blk_cell 0; simpa using this⟩
        have e5 := S10.blk_cell 5
        have f5 := S10.blk_free 5
        simp [stC] at e5
        refine hK.out _ _ (.inr hHeld7) ?_
        clear hK K f4 e4
        obtain ⟨w7, hw7⟩ : ∃ w7, w7 = w6.setCell ⟨sp, 4, none⟩ (.int .u64 (c1 : Int)) := ⟨_, rfl⟩
        rw [← hw7] at S10 hHeld7 e5 f5
        have HW7 := Lib.hid hw7
        have HS10 := Lib.hid S10
        clear hw7 S10
        rw [← HW7.out]
        refine AnyK.take (i := 17) (T := [18, 19]) (v := ?vtb17) rfl (by kernel_rfl) (by kernel_rfl) (by kernel_rfl) (by kernel_rfl) (by kernel_rfl) (by kernel_rfl) (by kernel_rfl) (fun _ _ _ h => h) (Or.inl ⟨by rfl, ?ytb17⟩) hHeld7 ?rtb17
        case ytb17 => (intro w hSw; (try dsimp only at hSw); go_simp; (try with_reducible rfl))
        try simp only [Act.put, List.getElem_toArray, List.getElem_cons_zero, List.getElem_cons_succ, List.setIfInBounds_toArray, List.set_cons_zero, List.set_cons_succ]
        refine AnyK.take (i := 18) (T := [19]) (v := ?vtb18) rfl (by kernel_rfl) (by kernel_rfl) (by kernel_rfl) (by kernel_rfl) (by kernel_rfl) (by kernel_rfl) (by kernel_rfl) (fun _ _ _ h => h) (Or.inl ⟨by rfl, ?ytb18⟩) hHeld7 ?rtb18
        case ytb18 => (intro w hSw; (try dsimp only at hSw); go_simp; (try with_reducible rfl))
        try simp only [Act.put, List.getElem_toArray, List.getElem_cons_zero, List.getElem_cons_succ, List.setIfInBounds_toArray, List.set_cons_zero, List.set_cons_succ]
        refine AnyK.one (i := 19) (by kernel_rfl) rfl (fun K hK => ?_)
        go_simp
        have S11 := HS10.out.blk_set 5 (.slice g b.length cap)
        have hHeld8 : (w7.setCell ⟨sp, 5, none⟩ (.slice g b.length cap)).cell? ⟨sb, 0, none⟩ = some (.pointer (some ⟨sp, 0, none⟩)) ∧ (w7.setCell ⟨sp, 5, none⟩ (.slice g b.length cap)).cell? ⟨sb + 1, 0, none⟩ = some (.slice ba b.length bc) := ⟨by have := S11.up5.blk_cell 0; simpa using this, by have := S11.up6.blk_cell 0; simpa using this⟩
        refine hK.out _ _ (.inr hHeld8) ?_
        clear hK K
        refine AnyK.done (by kernel_rfl) ?_ _
        have e1 := HC1.out
        subst e1
        have S12 : Sep (w7.setCell ⟨sp, 5, none⟩ (.slice g b.length cap)) (stA sp (pV q) h1 ⟨s.size, 0, s.count + 1, s.broken⟩ (.slice g b.length cap) :: _) := S11.up4.drop.up4.drop.up4.drop.up4.drop.up4.drop.up1.dn3
        rw [HBR.out] at S12
        have HS12 := Lib.hid S12
        clear S11 S12
        go_wp2
        go_ret
        exact .inl ⟨HI.out.1, rfl, _, HS12.out⟩
set_option maxRecDepth 20000 in
set_option maxHeartbeats 8000000 in
theorem save_even {B : Asn} {ba : Option Addr} {bn bc : Nat} {b : List UInt8} (S : Sep w (stA sp (pV q) h1 s tv :: jnA q p j :: diskA p D :: thA tv l :: B :: R)) (hB : HoldsAt B ba bn bc b) (hbn : bn ≤ 800000)
    (hbr : s.broken = false) (hsz : 1 ≤ s.size ∧ s.size ≤ 1000) (hroom : (bn : Int) ≤ ((s.size : Int) - 1) * 512 - 16 - 8) (hcl : s.count < 4611686018427387904) (hh : s.is = 1)
    (rec : List UInt8) (hrec : rec = lowL (s.count + 1) 8 ++ b)
    (hj : j.from_ + 1 ≤ D.secs.length) (hw : D.waits.length ≤ 90000)
    (h2 : (saveN D j rec 2).2.2.size ≤ 4096 ∧ (saveN D j rec 2).2.2.used ≤ (saveN D j rec 2).2.2.size ∧ (saveN D j rec 2).2.2.from_ + (saveN D j rec 2).2.2.size ≤ (saveN D j rec 2).2.1.secs.length ∧ (saveN D j rec 2).2.1.waits.length ≤ 80000) :
    Calls Try.prog 15 #[.pointer (some ⟨sp, 0, none⟩), .slice ba bn bc] w fun e w' =>
      (saveOk D j rec 4 ∧ e = .returned (.int .i64 0) ∧ ∃ tv', Sep w' (stA sp (pV q) h1 ⟨s.size, 0, s.count + 1, false⟩ tv' :: jnA q p (saveN D j rec 4).2.2 :: diskA p (saveN D j rec 4).2.1 :: thA tv' b :: B :: R)) ∨
      (∃ n, n < 4 ∧ saveOk D j rec n ∧ (saveN D j rec (n + 1)).1 ≠ 0 ∧ e = .returned (.int .i64 11) ∧ Sep w' (stA sp (pV q) h1 ⟨s.size, s.is, s.count, true⟩ tv :: jnA q p (saveN D j rec (n + 1)).2.2 :: diskA p (saveN D j rec (n + 1)).2.1 :: thA tv l :: B :: R)) := by
  obtain ⟨c0, c1, c2, c3, c4, c5, c6⟩ := S.st
  rw [hbr] at c6
  have hlt := S.blk_lt
  have S1 := (S.alloc #[.pointer (some ⟨sp, 0, none⟩)] 28).alloc #[.slice ba bn bc] 31
  simp only [World.size_alloc] at S1
  obtain ⟨sb, hsb⟩ : ∃ sb, sb = w.heap.size := ⟨_, rfl⟩
  obtain ⟨w1, hw1⟩ : ∃ w1, w1 = (w.alloc (.cells #[.pointer (some ⟨sp, 0, none⟩)] 28)).alloc (.cells #[.slice ba bn bc] 31) := ⟨_, rfl⟩
  rw [← hw1, ← hsb] at S1
  obtain ⟨rm, hrm⟩ : ∃ rm : Int, rm = ((s.size : Int) - 1) * 512 - 16 - 8 := ⟨_, rfl⟩
  have hgt : decide (rm < (bn : Int)) = false := by simp; omega
  have hge : decide ((4611686018427387904 : Int) ≤ (s.count : Int)) = false := by simp; omega
  have k1 := S1.up1.blk_cell 0
  have k2 := S1.blk_cell 0
  obtain ⟨d0, d1, d2, d3, d4, d5, d6⟩ := S1.up2.st
  simp at k1 k2
  have HW1 := Lib.hid hw1
  have HSB := Lib.hid hsb
  have HRM := Lib.hid hrm.symm
  have HS1 := Lib.hid S1
  have HH2 := Lib.hid h2
  have HREC := Lib.hid hrec
  have HSZ := Lib.hid hsz
  obtain ⟨ct, hct⟩ : ∃ ct, ct = s.count := ⟨_, rfl⟩
  have HCT := Lib.hid hct
  have HH := Lib.hid hh
  rw [← hct] at c4 d4 hge hcl
  rw [hh] at c3 d3
  rw [hbr] at d6
  have HC := Lib.hid hcl
  have HBR := Lib.hid hbr
  have HBB := Lib.hid hB
  clear S S1 hw1 hsb hrec h2 hrm hsz hct hh hroom hbr hB
  go_enter Try.func15, Try.ntmps15
  go_wp2_with fail
  rw [← HW1.out, ← HSB.out]
  clear c0 c1 c2 c3 c4 c5 c6 hlt
  go_region_held (fun w' => w'.cell? ⟨sb, 0, none⟩ = some (.pointer (some ⟨sp, 0, none⟩)) ∧ w'.cell? ⟨sb + 1, 0, none⟩ = some (.slice ba bn bc) ∧ w'.cell? ⟨sp, 4, none⟩ = some (.int .u64 (ct : Int))) (first | exact ⟨k1, k2, d4⟩)
    ((go_at_call 21; refine (stRoom_sep HS1.out.drew.up2 (by have := HSZ.out.2; omega)).mono ?_; rw [HRM.out]; rintro e w5 ⟨rfl, rfl⟩))
  clear k1 k2 d4
  have S5 := HS1.out.drew
  have k1 := S5.up1.blk_cell 0
  have k2 := S5.blk_cell 0
  obtain ⟨d0, d1, d2, d3, d4, d5, d6⟩ := S5.up2.st
  rw [← HCT.out] at d4
  rw [HH.out] at d3
  simp at k1 k2
  simp only [pV] at d0 d1
  have HS5 := Lib.hid S5
  clear S5
  go_wp2_with fail
  have S6 := ((HS1.out.alloc #[.pointer (some ⟨q, 0, none⟩)] 67).alloc #[fnReset q, fnCommit q, fnApp w1.heap.size sb (sb + 1), fnCommit q] 58).drew
  simp only [World.size_alloc] at S6
  obtain ⟨w2, hw2⟩ : ∃ w2, w2 = ((w1.alloc (.cells #[.pointer (some ⟨q, 0, none⟩)] 67)).alloc (.cells #[fnReset q, fnCommit q, fnApp w1.heap.size sb (sb + 1), fnCommit q] 58)).drew := ⟨_, rfl⟩
  obtain ⟨jb, hjb⟩ : ∃ jb, jb = w1.heap.size := ⟨_, rfl⟩
  rw [← hw2] at S6
  rw [← hjb] at S6 hw2
  have HW2 := Lib.hid hw2
  have HJB := Lib.hid hjb
  have HS6 := Lib.hid S6
  clear S6 hw2 hjb d0 d1 d2 d3 d4 d5 d6 k1 k2 HS5
  show Code.wp _ _ _ _ ((w1.alloc (.cells #[.pointer (some ⟨q, 0, none⟩)] 67)).alloc (.cells #[fnReset q, fnCommit q, fnApp w1.heap.size sb (sb + 1), fnCommit q] 58)).drew
  rw [← HJB.out, ← HW2.out]
  go_loopw [54] (fun i wr => ∃ (K : Int) (n : Nat), (K = 0 ∧ n = 0 ∨ K = 1 ∧ n = 1 ∨ K = 2 ∧ n = 2 ∨ K = 3 ∧ n = 3 ∨ K = 4 ∧ n = 4) ∧ i = .int .i64 K ∧ Hid (saveOk D j rec n ∧ Sep wr (jnA q p (saveN D j rec n).2.2 :: diskA p (saveN D j rec n).2.1 :: blkA jb #[.pointer (some ⟨q, 0, none⟩)] 67 :: blkA sb #[.pointer (some ⟨sp, 0, none⟩)] 28 :: blkA (sb + 1) #[.slice ba bn bc] 31 :: stA sp (pV q) h1 s tv :: blkA (jb + 1) #[fnReset q, fnCommit q, fnApp jb sb (sb + 1), fnCommit q] 58 :: thA tv l :: B :: R))) (fun i _ => 4 - (intOf i).toNat)
  case atStart => exact ⟨0, 0, .inl ⟨rfl, rfl⟩, rfl, Lib.hid ⟨(fun i h1 h2 => by omega), HS6.out.up4.up3.up4.up4.up6.up6⟩⟩
  case round =>
    obtain ⟨K, n, hK, rfl, HI⟩ := hrel
    clear HS1 HS6 HW1 HW2 HRM HSB HJB hgt hge
    rcases hK with ⟨rfl, rfl⟩ | ⟨rfl, rfl⟩ | ⟨rfl, rfl⟩ | ⟨rfl, rfl⟩ | ⟨rfl, rfl⟩
    · have S5 := HI.out.2
      have hok := HI.out.1
      have ck := S5.up6.blk_cell 0
      simp [fnReset] at ck
      have HS5 := Lib.hid S5
      clear S5
      go_wp2_with fail
      refine (reset_sep HS5.out hj hw).mono ?_
      rintro e w5 ⟨he, S7⟩
      skip
      replace S7 : Sep w5 (jnA q p (saveN D j rec 1).2.2 :: diskA p (saveN D j rec 1).2.1 :: _) := S7
      have k1 := S7.up3.blk_cell 0
      have f6 := S7.up5.blk_free 6
      have c6 := S7.up5.blk_cell 6
      simp [stC] at k1 c6
      obtain ⟨ev, hev⟩ : ∃ ev, ev = (saveN D j rec 1).1 := ⟨_, rfl⟩
      replace he : e = .returned (.int .i64 ev) := he.trans (by rw [hev]; rfl)
      subst he
      by_cases hz : ev = 0
      · have hok2 := Lib.hid (saveOk_succ HI.out.1 (hev.symm.trans hz))
        have HS7 := Lib.hid S7
        subst hz
        clear S7 k1 f6 c6 hev
        go_wp2_with fail
        go_roundw
        case rel => exact ⟨1, 1, by omega, rfl, Lib.hid ⟨hok2.out, HS7.out⟩⟩
        case measure => simp [intOf]
      · have HEV := Lib.hid hev
        have HS7 := Lib.hid (S7.up5.blk_set 6 (.bool true)).up3.drop.up3.drop.up3.drop.up3.drop
        clear S7 hev
        go_wp2
        go_ret
        exact .inr ⟨0, by omega, HI.out.1, by rw [← HEV.out]; exact hz, rfl, HS7.out⟩
    · have S5 := HI.out.2
      have hok := HI.out.1
      have ck := S5.up6.blk_cell 1
      simp [fnCommit] at ck
      have HS5 := Lib.hid S5
      clear S5
      go_wp2_with fail
      refine (commit_sep HS5.out).mono ?_
      rintro e w5 ⟨he, S7⟩
      skip
      replace S7 : Sep w5 (jnA q p (saveN D j rec 2).2.2 :: diskA p (saveN D j rec 2).2.1 :: _) := S7
      have k1 := S7.up3.blk_cell 0
      have f6 := S7.up5.blk_free 6
      have c6 := S7.up5.blk_cell 6
      simp [stC] at k1 c6
      obtain ⟨ev, hev⟩ : ∃ ev, ev = (saveN D j rec 2).1 := ⟨_, rfl⟩
      replace he : e = .returned (.int .i64 ev) := he.trans (by rw [hev]; rfl)
      subst he
      by_cases hz : ev = 0
      · have hok2 := Lib.hid (saveOk_succ HI.out.1 (hev.symm.trans hz))
        have HS7 := Lib.hid S7
        subst hz
        clear S7 k1 f6 c6 hev
        go_wp2_with fail
        go_roundw
        case rel => exact ⟨2, 2, by omega, rfl, Lib.hid ⟨hok2.out, HS7.out⟩⟩
        case measure => simp [intOf]
      · have HEV := Lib.hid hev
        have HS7 := Lib.hid (S7.up5.blk_set 6 (.bool true)).up3.drop.up3.drop.up3.drop.up3.drop
        clear S7 hev
        go_wp2
        go_ret
        exact .inr ⟨1, by omega, HI.out.1, by rw [← HEV.out]; exact hz, rfl, HS7.out⟩
    · have S5 := HI.out.2
      have hok := HI.out.1
      have ck := S5.up6.blk_cell 2
      simp [fnApp] at ck
      obtain ⟨hta2, htb, htn⟩ := HBB.out _ _ S5.up8
      subst hta2
      have HT := Lib.hid (And.intro htb (And.intro hbn htn))
      clear htb htn
      have HS5 := Lib.hid S5
      clear S5
      go_wp2_with fail
      refine (save1_sep HS5.out HT.out.1 rfl (by have := HT.out.2.1; omega) HT.out.2.2 (by have := HC.out; have := HCT.out; omega) _ rfl HH2.out.1 HH2.out.2.1 HH2.out.2.2.1 HH2.out.2.2.2).mono ?_
      rintro e w5 ⟨he, S7⟩
      rw [← HREC.out] at he S7
      replace S7 : Sep w5 (jnA q p (saveN D j rec 3).2.2 :: diskA p (saveN D j rec 3).2.1 :: _) := S7
      have k1 := S7.up3.blk_cell 0
      have f6 := S7.up5.blk_free 6
      have c6 := S7.up5.blk_cell 6
      simp [stC] at k1 c6
      obtain ⟨ev, hev⟩ : ∃ ev, ev = (saveN D j rec 3).1 := ⟨_, rfl⟩
      replace he : e = .returned (.int .i64 ev) := he.trans (by rw [hev]; rfl)
      subst he
      by_cases hz : ev = 0
      · have hok2 := Lib.hid (saveOk_succ HI.out.1 (hev.symm.trans hz))
        have HS7 := Lib.hid S7
        subst hz
        clear S7 k1 f6 c6 hev
        go_wp2_with fail
        go_roundw
        case rel => exact ⟨3, 3, by omega, rfl, Lib.hid ⟨hok2.out, HS7.out⟩⟩
        case measure => simp [intOf]
      · have HEV := Lib.hid hev
        have HS7 := Lib.hid (S7.up5.blk_set 6 (.bool true)).up3.drop.up3.drop.up3.drop.up3.drop
        clear S7 hev
        go_wp2
        go_ret
        exact .inr ⟨2, by omega, HI.out.1, by rw [← HEV.out]; exact hz, rfl, HS7.out⟩
    · have S5 := HI.out.2
      have hok := HI.out.1
      have ck := S5.up6.blk_cell 3
      simp [fnCommit] at ck
      have HS5 := Lib.hid S5
      clear S5
      go_wp2_with fail
      refine (commit_sep HS5.out).mono ?_
      rintro e w5 ⟨he, S7⟩
      skip
      replace S7 : Sep w5 (jnA q p (saveN D j rec 4).2.2 :: diskA p (saveN D j rec 4).2.1 :: _) := S7
      have k1 := S7.up3.blk_cell 0
      have f6 := S7.up5.blk_free 6
      have c6 := S7.up5.blk_cell 6
      simp [stC] at k1 c6
      obtain ⟨ev, hev⟩ : ∃ ev, ev = (saveN D j rec 4).1 := ⟨_, rfl⟩
      replace he : e = .returned (.int .i64 ev) := he.trans (by rw [hev]; rfl)
      subst he
      by_cases hz : ev = 0
      · have hok2 := Lib.hid (saveOk_succ HI.out.1 (hev.symm.trans hz))
        have HS7 := Lib.hid S7
        subst hz
        clear S7 k1 f6 c6 hev
        go_wp2_with fail
        go_roundw
        case rel => exact ⟨4, 4, by omega, rfl, Lib.hid ⟨hok2.out, HS7.out⟩⟩
        case measure => simp [intOf]
      · have HEV := Lib.hid hev
        have HS7 := Lib.hid (S7.up5.blk_set 6 (.bool true)).up3.drop.up3.drop.up3.drop.up3.drop
        clear S7 hev
        go_wp2
        go_ret
        exact .inr ⟨3, by omega, HI.out.1, by rw [← HEV.out]; exact hz, rfl, HS7.out⟩
    · obtain ⟨hta2, htb, htn⟩ := HBB.out _ _ HI.out.2.up8
      subst hta2
      have S5 := HI.out.2
      have HT := Lib.hid (And.intro htb htn)
      have k1 := S5.up3.blk_cell 0
      have k2 := S5.up4.blk_cell 0
      have d4 := S5.up5.blk_cell 4
      simp [stC] at k1 k2 d4
      obtain ⟨c1, hc1⟩ : ∃ c1, c1 = s.count + 1 := ⟨_, rfl⟩
      have q1 : IntKind.u64.wrap ((s.count : Int) + 1) = (c1 : Int) := by rw [IntKind.wrap_u64]; have := HC.out; have := HCT.out; omega
      have HC1 := Lib.hid hc1
      clear hc1
      have HS5 := Lib.hid S5
      clear htb htn S5
      go_wp2_with fail
      refine AnyK.start (S := lateS (fun w' => w'.cell? ⟨sb, 0, none⟩ = some (.pointer (some ⟨sp, 0, none⟩)) ∧ w'.cell? ⟨sb + 1, 0, none⟩ = some (.slice ba b.length bc)) []) (by kernel_rfl) ?_
      have hHeld : wr.drew.cell? ⟨sb, 0, none⟩ = some (.pointer (some ⟨sp, 0, none⟩)) ∧ wr.drew.cell? ⟨sb + 1, 0, none⟩ = some (.slice ba b.length bc) := ⟨k1, k2⟩
      refine AnyK.take (i := 0) (T := [11, 12, 13]) (v := ?vx0) rfl (by kernel_rfl) (by kernel_rfl) (by kernel_rfl) (by kernel_rfl) (by kernel_rfl) (by kernel_rfl) (by kernel_rfl) (fun _ _ _ h => h) (Or.inl ⟨by rfl, ?yx0⟩) hHeld ?rx0
      case yx0 => (intro w hSw; (try dsimp only at hSw); go_simp; (try with_reducible rfl))
      try simp only [Act.put, List.getElem_toArray, List.getElem_cons_zero, List.getElem_cons_succ, List.setIfInBounds_toArray, List.set_cons_zero, List.set_cons_succ]
      refine AnyK.take (i := 1) (T := [14, 15, 16]) (v := ?vx1) rfl (by kernel_rfl) (by kernel_rfl) (by kernel_rfl) (by kernel_rfl) (by kernel_rfl) (by kernel_rfl) (by kernel_rfl) (fun _ _ _ h => h) (Or.inl ⟨by rfl, ?yx1⟩) hHeld ?rx1
      case yx1 => (intro w hSw; (try dsimp only at hSw); go_simp; (try with_reducible rfl))
      try simp only [Act.put, List.getElem_toArray, List.getElem_cons_zero, List.getElem_cons_succ, List.setIfInBounds_toArray, List.set_cons_zero, List.set_cons_succ]
      refine AnyK.take (i := 2) (T := [17, 18, 19]) (v := ?vx2) rfl (by kernel_rfl) (by kernel_rfl) (by kernel_rfl) (by kernel_rfl) (by kernel_rfl) (by kernel_rfl) (by kernel_rfl) (fun _ _ _ h => h) (Or.inl ⟨by rfl, ?yx2⟩) hHeld ?rx2
      case yx2 => (intro w hSw; (try dsimp only at hSw); go_simp; (try with_reducible rfl))
      try simp only [Act.put, List.getElem_toArray, List.getElem_cons_zero, List.getElem_cons_succ, List.setIfInBounds_toArray, List.set_cons_zero, List.set_cons_succ]
      refine AnyK.take (i := 3) (T := [13]) (v := ?vx3) rfl (by kernel_rfl) (by kernel_rfl) (by kernel_rfl) (by kernel_rfl) (by kernel_rfl) (by kernel_rfl) (by kernel_rfl) (fun _ _ _ h => h) (Or.inl ⟨by rfl, ?yx3⟩) hHeld ?rx3
      case yx3 => (intro w hSw; (try dsimp only at hSw); go_simp; (try with_reducible rfl))
      try simp only [Act.put, List.getElem_toArray, List.getElem_cons_zero, List.getElem_cons_succ, List.setIfInBounds_toArray, List.set_cons_zero, List.set_cons_succ]
      refine AnyK.take (i := 4) (T := [5, 6, 7, 8, 16]) (v := ?vx4) rfl (by kernel_rfl) (by kernel_rfl) (by kernel_rfl) (by kernel_rfl) (by kernel_rfl) (by kernel_rfl) (by kernel_rfl) (fun _ _ _ h => h) (Or.inl ⟨by rfl, ?yx4⟩) hHeld ?rx4
      case yx4 => (intro w hSw; (try dsimp only at hSw); go_simp; (try with_reducible rfl))
      try simp only [Act.put, List.getElem_toArray, List.getElem_cons_zero, List.getElem_cons_succ, List.setIfInBounds_toArray, List.set_cons_zero, List.set_cons_succ]
      refine AnyK.take (i := 5) (T := [6, 7, 8, 16]) (v := ?vx5) rfl (by kernel_rfl) (by kernel_rfl) (by kernel_rfl) (by kernel_rfl) (by kernel_rfl) (by kernel_rfl) (by kernel_rfl) (fun _ _ _ h => h) (Or.inl ⟨by rfl, ?yx5⟩) hHeld ?rx5
      case yx5 => (intro w hSw; (try dsimp only at hSw); go_simp; (try with_reducible rfl))
      try simp only [Act.put, List.getElem_toArray, List.getElem_cons_zero, List.getElem_cons_succ, List.setIfInBounds_toArray, List.set_cons_zero, List.set_cons_succ]
      refine AnyK.take (i := 6) (T := [7, 8, 16]) (v := ?vx6) rfl (by kernel_rfl) (by kernel_rfl) (by kernel_rfl) (by kernel_rfl) (by kernel_rfl) (by kernel_rfl) (by kernel_rfl) (fun _ _ _ h => h) (Or.inl ⟨by rfl, ?yx6⟩) hHeld ?rx6
      case yx6 => (intro w hSw; (try dsimp only at hSw); go_simp; (try with_reducible rfl))
      try simp only [Act.put, List.getElem_toArray, List.getElem_cons_zero, List.getElem_cons_succ, List.setIfInBounds_toArray, List.set_cons_zero, List.set_cons_succ]
      refine AnyK.take (i := 9) (T := [10, 19]) (v := ?vx9) rfl (by kernel_rfl) (by kernel_rfl) (by kernel_rfl) (by kernel_rfl) (by kernel_rfl) (by kernel_rfl) (by kernel_rfl) (fun _ _ _ h => h) (Or.inl ⟨by rfl, ?yx9⟩) hHeld ?rx9
      case yx9 => (intro w hSw; (try dsimp only at hSw); go_simp; (try with_reducible rfl))
      try simp only [Act.put, List.getElem_toArray, List.getElem_cons_zero, List.getElem_cons_succ, List.setIfInBounds_toArray, List.set_cons_zero, List.set_cons_succ]
      refine AnyK.two (i := 7) (j := 10) (by kernel_rfl) rfl rfl (fun K hK => ?_) (fun K hK => ?_)
      · go_simp
        refine hK.out _ _ (.inr hHeld) ?_
        clear hK K
        refine AnyK.take (i := 8) (T := [16]) (v := ?va8) rfl (by kernel_rfl) (by kernel_rfl) (by kernel_rfl) (by kernel_rfl) (by kernel_rfl) (by kernel_rfl) (by kernel_rfl) (fun _ _ _ h => h) (Or.inl ⟨by rfl, ?ya8⟩) hHeld ?ra8
        case ya8 => (intro w hSw; (try dsimp only at hSw); go_simp; (try with_reducible rfl))
        try simp only [Act.put, List.getElem_toArray, List.getElem_cons_zero, List.getElem_cons_succ, List.setIfInBounds_toArray, List.set_cons_zero, List.set_cons_succ]
        refine AnyK.one (i := 10) (by kernel_rfl) rfl (fun K hK => ?_)
        go_simp
        refine (clone_calls _ ba b.length bc b (HT.out.1.below (Below.refl _ _).drew) rfl (by omega) HT.out.2).mono ?_
        rintro e w5 ⟨g, cap, rfl, ho, hb⟩
        have S8 := (HS5.out.drew.newBytes hb ho).bytes_hold
        have m1 := S8.up4.blk_cell 0
        have m2 := S8.up5.blk_cell 0
        have n0 := S8.up6.st
        have f3 := S8.up6.blk_free 3
        have f4 := S8.up6.blk_free 4
        have f5 := S8.up6.blk_free 5
        simp at m1 m2
        obtain ⟨n0, n1, n2, n3, n4, n5, n6⟩ := n0
        refine hK.out _ _ (.inr ⟨m1, m2⟩) ?_
        clear hK K
        have hHeld5 : w5.cell? ⟨sb, 0, none⟩ = some (.pointer (some ⟨sp, 0, none⟩)) ∧ w5.cell? ⟨sb + 1, 0, none⟩ = some (.slice ba b.length bc) := ⟨m1, m2⟩
        have HS8 := Lib.hid S8
        clear S8 ho hb
        refine AnyK.take (i := 11) (T := [12, 13]) (v := ?vta11) rfl (by kernel_rfl) (by kernel_rfl) (by kernel_rfl) (by kernel_rfl) (by kernel_rfl) (by kernel_rfl) (by kernel_rfl) (fun _ _ _ h => h) (Or.inl ⟨by rfl, ?yta11⟩) hHeld5 ?rta11
        case yta11 => (intro w hSw; (try dsimp only at hSw); go_simp; (try with_reducible rfl))
        try simp only [Act.put, List.getElem_toArray, List.getElem_cons_zero, List.getElem_cons_succ, List.setIfInBounds_toArray, List.set_cons_zero, List.set_cons_succ]
        refine AnyK.take (i := 12) (T := [13]) (v := ?vta12) rfl (by kernel_rfl) (by kernel_rfl) (by kernel_rfl) (by kernel_rfl) (by kernel_rfl) (by kernel_rfl) (by kernel_rfl) (fun _ _ _ h => h) (Or.inl ⟨by rfl, ?yta12⟩) hHeld5 ?rta12
        case yta12 => (intro w hSw; (try dsimp only at hSw); go_simp; (try with_reducible rfl))
        try simp only [Act.put, List.getElem_toArray, List.getElem_cons_zero, List.getElem_cons_succ, List.setIfInBounds_toArray, List.set_cons_zero, List.set_cons_succ]
        refine AnyK.one (i := 13) (by kernel_rfl) rfl (fun K hK => ?_)
        go_simp
        have S9 := HS8.out.up6.blk_set 3 (.int .i64 0)
        have hHeld6 : (w5.setCell ⟨sp, 3, none⟩ (.int .i64 0)).cell? ⟨sb, 0, none⟩ = some (.pointer (some ⟨sp, 0, none⟩)) ∧ (w5.setCell ⟨sp, 3, none⟩ (.int .i64 0)).cell? ⟨sb + 1, 0, none⟩ = some (.slice ba b.length bc) := ⟨by have := S9.up5.blk_cell 0; simpa using this, by have := S9.up6.blk_cell 0; simpa using this⟩
        have e4 := S9.blk_cell 4
        have f4 := S9.blk_free 4
        simp [stC] at e4
        refine hK.out _ _ (.inr hHeld6) ?_
        clear hK K f3 f5
        obtain ⟨w6, hw6⟩ : ∃ w6, w6 = w5.setCell ⟨sp, 3, none⟩ (.int .i64 0) := ⟨_, rfl⟩
        rw [← hw6] at S9 hHeld6 e4 f4
        have HW6 := Lib.hid hw6
        have HS9 := Lib.hid S9
        clear hw6 S9
        rw [← HW6.out]
        refine AnyK.take (i := 14) (T := [15, 16]) (v := ?vta14) rfl (by kernel_rfl) (by kernel_rfl) (by kernel_rfl) (by kernel_rfl) (by kernel_rfl) (by kernel_rfl) (by kernel_rfl) (fun _ _ _ h => h) (Or.inl ⟨by rfl, ?yta14⟩) hHeld6 ?rta14
        case yta14 => (intro w hSw; (try dsimp only at hSw); go_simp; (try with_reducible rfl))
        try simp only [Act.put, List.getElem_toArray, List.getElem_cons_zero, List.getElem_cons_succ, List.setIfInBounds_toArray, List.set_cons_zero, List.set_cons_succ]
        refine AnyK.take (i := 15) (T := [16]) (v := ?vta15) rfl (by kernel_rfl) (by kernel_rfl) (by kernel_rfl) (by kernel_rfl) (by kernel_rfl) (by kernel_rfl) (by kernel_rfl) (fun _ _ _ h => h) (Or.inl ⟨by rfl, ?yta15⟩) hHeld6 ?rta15
        case yta15 => (intro w hSw; (try dsimp only at hSw); go_simp; (try with_reducible rfl))
        try simp only [Act.put, List.getElem_toArray, List.getElem_cons_zero, List.getElem_cons_succ, List.setIfInBounds_toArray, List.set_cons_zero, List.set_cons_succ]
        refine AnyK.one (i := 16) (by kernel_rfl) rfl (fun K hK => ?_)
        go_simp
        have S10 := HS9.out.blk_set 4 (.int .u64 (c1 : Int))
        have hHeld7 : (w6.setCell ⟨sp, 4, none⟩ (.int .u64 (c1 : Int))).cell? ⟨sb, 0, none⟩ = some (.pointer (some ⟨sp, 0, none⟩)) ∧ (w6.setCell ⟨sp, 4, none⟩ (.int .u64 (c1 : Int))).cell? ⟨sb + 1, 0, none⟩ = some (.slice ba b.length bc) := ⟨by have := S10.up5.blk_cell 0; simpa using this, by have := S10.up6.blk_cell 0; simpa using this⟩
        have e5 := S10.blk_cell 5
        have f5 := S10.blk_free 5
        simp [stC] at e5
        refine hK.out _ _ (.inr hHeld7) ?_
        clear hK K f4 e4
        obtain ⟨w7, hw7⟩ : ∃ w7, w7 = w6.setCell ⟨sp, 4, none⟩ (.int .u64 (c1 : Int)) := ⟨_, rfl⟩
        rw [← hw7] at S10 hHeld7 e5 f5
        have HW7 := Lib.hid hw7
        have HS10 := Lib.hid S10
        clear hw7 S10
        rw [← HW7.out]
        refine AnyK.take (i := 17) (T := [18, 19]) (v := ?vta17) rfl (by kernel_rfl) (by kernel_rfl) (by kernel_rfl) (by kernel_rfl) (by kernel_rfl) (by kernel_rfl) (by kernel_rfl) (fun _ _ _ h => h) (Or.inl ⟨by rfl, ?yta17⟩) hHeld7 ?rta17
        case yta17 => (intro w hSw; (try dsimp only at hSw); go_simp; (try with_reducible rfl))
        try simp only [Act.put, List.getElem_toArray, List.getElem_cons_zero, List.getElem_cons_succ, List.setIfInBounds_toArray, List.set_cons_zero, List.set_cons_succ]
        refine AnyK.take (i := 18) (T := [19]) (v := ?vta18) rfl (by kernel_rfl) (by kernel_rfl) (by kernel_rfl) (by kernel_rfl) (by kernel_rfl) (by kernel_rfl) (by kernel_rfl) (fun _ _ _ h => h) (Or.inl ⟨by rfl, ?yta18⟩) hHeld7 ?rta18
        case yta18 => (intro w hSw; (try dsimp only at hSw); go_simp; (try with_reducible rfl))
        try simp only [Act.put, List.getElem_toArray, List.getElem_cons_zero, List.getElem_cons_succ, List.setIfInBounds_toArray, List.set_cons_zero, List.set_cons_succ]
        refine AnyK.one (i := 19) (by kernel_rfl) rfl (fun K hK => ?_)
        go_simp
        have S11 := HS10.out.blk_set 5 (.slice g b.length cap)
        have hHeld8 : (w7.setCell ⟨sp, 5, none⟩ (.slice g b.length cap)).cell? ⟨sb, 0, none⟩ = some (.pointer (some ⟨sp, 0, none⟩)) ∧ (w7.setCell ⟨sp, 5, none⟩ (.slice g b.length cap)).cell? ⟨sb + 1, 0, none⟩ = some (.slice ba b.length bc) := ⟨by have := S11.up5.blk_cell 0; simpa using this, by have := S11.up6.blk_cell 0; simpa using this⟩
        refine hK.out _ _ (.inr hHeld8) ?_
        clear hK K
        refine AnyK.done (by kernel_rfl) ?_ _
        have e1 := HC1.out
        subst e1
        have S12 : Sep (w7.setCell ⟨sp, 5, none⟩ (.slice g b.length cap)) (stA sp (pV q) h1 ⟨s.size, 0, s.count + 1, s.broken⟩ (.slice g b.length cap) :: _) := S11.up4.drop.up4.drop.up4.drop.up4.drop.up4.drop.up1.dn3
        rw [HBR.out] at S12
        have HS12 := Lib.hid S12
        clear S11 S12
        go_wp2
        go_ret
        exact .inl ⟨HI.out.1, rfl, _, HS12.out⟩
      · skip
        go_simp
        refine (clone_calls _ ba b.length bc b (HT.out.1.below (Below.refl _ _).drew) rfl (by omega) HT.out.2).mono ?_
        rintro e w5 ⟨g, cap, rfl, ho, hb⟩
        have S8 := (HS5.out.drew.newBytes hb ho).bytes_hold
        have m1 := S8.up4.blk_cell 0
        have m2 := S8.up5.blk_cell 0
        have n0 := S8.up6.st
        have f3 := S8.up6.blk_free 3
        have f4 := S8.up6.blk_free 4
        have f5 := S8.up6.blk_free 5
        simp at m1 m2
        obtain ⟨n0, n1, n2, n3, n4, n5, n6⟩ := n0
        refine hK.out _ _ (.inr ⟨m1, m2⟩) ?_
        clear hK K
        have hHeld5 : w5.cell? ⟨sb, 0, none⟩ = some (.pointer (some ⟨sp, 0, none⟩)) ∧ w5.cell? ⟨sb + 1, 0, none⟩ = some (.slice ba b.length bc) := ⟨m1, m2⟩
        have HS8 := Lib.hid S8
        clear S8 ho hb
        refine AnyK.one (i := 7) (by kernel_rfl) rfl (fun K hK => ?_)
        go_simp
        refine hK.out _ _ (.inr hHeld5) ?_
        clear hK K
        refine AnyK.take (i := 8) (T := [16]) (v := ?vb8) rfl (by kernel_rfl) (by kernel_rfl) (by kernel_rfl) (by kernel_rfl) (by kernel_rfl) (by kernel_rfl) (by kernel_rfl) (fun _ _ _ h => h) (Or.inl ⟨by rfl, ?yb8⟩) hHeld5 ?rb8
        case yb8 => (intro w hSw; (try dsimp only at hSw); go_simp; (try with_reducible rfl))
        try simp only [Act.put, List.getElem_toArray, List.getElem_cons_zero, List.getElem_cons_succ, List.setIfInBounds_toArray, List.set_cons_zero, List.set_cons_succ]
        refine AnyK.take (i := 11) (T := [12, 13]) (v := ?vtb11) rfl (by kernel_rfl) (by kernel_rfl) (by kernel_rfl) (by kernel_rfl) (by kernel_rfl) (by kernel_rfl) (by kernel_rfl) (fun _ _ _ h => h) (Or.inl ⟨by rfl, ?ytb11⟩) hHeld5 ?rtb11
        case ytb11 => (intro w hSw; (try dsimp only at hSw); go_simp; (try with_reducible rfl))
        try simp only [Act.put, List.getElem_toArray, List.getElem_cons_zero, List.getElem_cons_succ, List.setIfInBounds_toArray, List.set_cons_zero, List.set_cons_succ]
        refine AnyK.take (i := 12) (T := [13]) (v := ?vtb12) rfl (by kernel_rfl) (by kernel_rfl) (by kernel_rfl) (by kernel_rfl) (by kernel_rfl) (by kernel_rfl) (by kernel_rfl) (fun _ _ _ h => h) (Or.inl ⟨by rfl, ?ytb12⟩) hHeld5 ?rtb12
        case ytb12 => (intro w hSw; (try dsimp only at hSw); go_simp; (try with_reducible rfl))
        try simp only [Act.put, List.getElem_toArray, List.getElem_cons_zero, List.getElem_cons_succ, List.setIfInBounds_toArray, List.set_cons_zero, List.set_cons_succ]
        refine AnyK.one (i := 13) (by kernel_rfl) rfl (fun K hK => ?_)
        go_simp
        have S9 := HS8.out.up6.blk_set 3 (.int .i64 0)
        have hHeld6 : (w5.setCell ⟨sp, 3, none⟩ (.int .i64 0)).cell? ⟨sb, 0, none⟩ = some (.pointer (some ⟨sp, 0, none⟩)) ∧ (w5.setCell ⟨sp, 3, none⟩ (.int .i64 0)).cell? ⟨sb + 1, 0, none⟩ = some (.slice ba b.length bc) := ⟨by have := S9.up5.blk_cell 0; simpa using this, by have := S9.up6.blk_cell 0; simpa using this⟩
        have e4 := S9.blk_cell 4
        have f4 := S9.blk_free 4
        simp [stC] at e4
        refine hK.out _ _ (.inr hHeld6) ?_
        clear hK K f3 f5
        obtain ⟨w6, hw6⟩ : ∃ w6, w6 = w5.setCell ⟨sp, 3, none⟩ (.int .i64 0) := ⟨_, rfl⟩
        rw [← hw6] at S9 hHeld6 e4 f4
        have HW6 := Lib.hid hw6
        have HS9 := Lib.hid S9
        clear hw6 S9
        rw [← HW6.out]
        refine AnyK.take (i := 14) (T := [15, 16]) (v := ?vtb14) rfl (by kernel_rfl) (by kernel_rfl) (by kernel_rfl) (by kernel_rfl) (by kernel_rfl) (by kernel_rfl) (by kernel_rfl) (fun _ _ _ h => h) (Or.inl ⟨by rfl, ?ytb14⟩) hHeld6 ?rtb14
        case ytb14 => (intro w hSw; (try dsimp only at hSw); go_simp; (try with_reducible rfl))
        try simp only [Act.put, List.getElem_toArray, List.getElem_cons_zero, List.getElem_cons_succ, List.setIfInBounds_toArray, List.set_cons_zero, List.set_cons_succ]
        refine AnyK.take (i := 15) (T := [16]) (v := ?vtb15) rfl (by kernel_rfl) (by kernel_rfl) (by kernel_rfl) (by kernel_rfl) (by kernel_rfl) (by kernel_rfl) (by kernel_rfl) (fun _ _ _ h => h) (Or.inl ⟨by rfl, ?ytb15⟩) hHeld6 ?rtb15
        case ytb15 => (intro w hSw; (try dsimp only at hSw); go_simp; (try with_reducible rfl))
        try simp only [Act.put, List.getElem_toArray, List.getElem_cons_zero, List.getElem_cons_succ, List.setIfInBounds_toArray, List.set_cons_zero, List.set_cons_succ]
        refine AnyK.one (i := 16) (by kernel_rfl) rfl (fun K hK => ?_)
        go_simp
        have S10 := HS9.out.blk_set 4 (.int .u64 (c1 : Int))
        have hHeld7 : (w6.setCell ⟨sp, 4, none⟩ (.int .u64 (c1 : Int))).cell? ⟨sb, 0, none⟩ = some (.pointer (some ⟨sp, 0, none⟩)) ∧ (w6.setCell ⟨sp, 4, none⟩ (.int .u64 (c1 : Int))).cell? ⟨sb + 1, 0, none⟩ = some (.slice ba b.length bc) := ⟨by have := S10.up5.blk_cell 0; simpa using this, by have := S10.up6.blk_cell 0; simpa using this⟩
        have e5 := S10.blk_cell 5
        have f5 := S10.blk_free 5
        simp [stC] at e5
        refine hK.out _ _ (.inr hHeld7) ?_
        clear hK K f4 e4
        obtain ⟨w7, hw7⟩ : ∃ w7, w7 = w6.setCell ⟨sp, 4, none⟩ (.int .u64 (c1 : Int)) := ⟨_, rfl⟩
        rw [← hw7] at S10 hHeld7 e5 f5
        have HW7 := Lib.hid hw7
        have HS10 := Lib.hid S10
        clear hw7 S10
        rw [← HW7.out]
        refine AnyK.take (i := 17) (T := [18, 19]) (v := ?vtb17) rfl (by kernel_rfl) (by kernel_rfl) (by kernel_rfl) (by kernel_rfl) (by kernel_rfl) (by kernel_rfl) (by kernel_rfl) (fun _ _ _ h => h) (Or.inl ⟨by rfl, ?ytb17⟩) hHeld7 ?rtb17
        case ytb17 => (intro w hSw; (try dsimp only at hSw); go_simp; (try with_reducible rfl))
        try simp only [Act.put, List.getElem_toArray, List.getElem_cons_zero, List.getElem_cons_succ, List.setIfInBounds_toArray, List.set_cons_zero, List.set_cons_succ]
        refine AnyK.take (i := 18) (T := [19]) (v := ?vtb18) rfl (by kernel_rfl) (by kernel_rfl) (by kernel_rfl) (by kernel_rfl) (by kernel_rfl) (by kernel_rfl) (by kernel_rfl) (fun _ _ _ h => h) (Or.inl ⟨by rfl, ?ytb18⟩) hHeld7 ?rtb18
        case ytb18 => (intro w hSw; (try dsimp only at hSw); go_simp; (try with_reducible rfl))
        try simp only [Act.put, List.getElem_toArray, List.getElem_cons_zero, List.getElem_cons_succ, List.setIfInBounds_toArray, List.set_cons_zero, List.set_cons_succ]
        refine AnyK.one (i := 19) (by kernel_rfl) rfl (fun K hK => ?_)
        go_simp
        have S11 := HS10.out.blk_set 5 (.slice g b.length cap)
        have hHeld8 : (w7.setCell ⟨sp, 5, none⟩ (.slice g b.length cap)).cell? ⟨sb, 0, none⟩ = some (.pointer (some ⟨sp, 0, none⟩)) ∧ (w7.setCell ⟨sp, 5, none⟩ (.slice g b.length cap)).cell? ⟨sb + 1, 0, none⟩ = some (.slice ba b.length bc) := ⟨by have := S11.up5.blk_cell 0; simpa using this, by have := S11.up6.blk_cell 0; simpa using this⟩
        refine hK.out _ _ (.inr hHeld8) ?_
        clear hK K
        refine AnyK.done (by kernel_rfl) ?_ _
        have e1 := HC1.out
        subst e1
        have S12 : Sep (w7.setCell ⟨sp, 5, none⟩ (.slice g b.length cap)) (stA sp (pV q) h1 ⟨s.size, 0, s.count + 1, s.broken⟩ (.slice g b.length cap) :: _) := S11.up4.drop.up4.drop.up4.drop.up4.drop.up4.drop.up1.dn3
        rw [HBR.out] at S12
        have HS12 := Lib.hid S12
        clear S11 S12
        go_wp2
        go_ret
        exact .inl ⟨HI.out.1, rfl, _, HS12.out⟩
set_option maxRecDepth 20000 in
set_option maxHeartbeats 8000000 in
theorem save_odd {B : Asn} {ba : Option Addr} {bn bc : Nat} {b : List UInt8} (S : Sep w (stA sp h0 (pV q) s tv :: jnA q p j :: diskA p D :: thA tv l :: B :: R)) (hB : HoldsAt B ba bn bc b) (hbn : bn ≤ 800000)
    (hbr : s.broken = false) (hsz : 1 ≤ s.size ∧ s.size ≤ 1000) (hroom : (bn : Int) ≤ ((s.size : Int) - 1) * 512 - 16 - 8) (hcl : s.count < 4611686018427387904) (hh : s.is = 0)
    (rec : List UInt8) (hrec : rec = lowL (s.count + 1) 8 ++ b)
    (hj : j.from_ + 1 ≤ D.secs.length) (hw : D.waits.length ≤ 90000)
    (h2 : (saveN D j rec 2).2.2.size ≤ 4096 ∧ (saveN D j rec 2).2.2.used ≤ (saveN D j rec 2).2.2.size ∧ (saveN D j rec 2).2.2.from_ + (saveN D j rec 2).2.2.size ≤ (saveN D j rec 2).2.1.secs.length ∧ (saveN D j rec 2).2.1.waits.length ≤ 80000) :
    Calls Try.prog 15 #[.pointer (some ⟨sp, 0, none⟩), .slice ba bn bc] w fun e w' =>
      (saveOk D j rec 4 ∧ e = .returned (.int .i64 0) ∧ ∃ tv', Sep w' (stA sp h0 (pV q) ⟨s.size, 1, s.count + 1, false⟩ tv' :: jnA q p (saveN D j rec 4).2.2 :: diskA p (saveN D j rec 4).2.1 :: thA tv' b :: B :: R)) ∨
      (∃ n, n < 4 ∧ saveOk D j rec n ∧ (saveN D j rec (n + 1)).1 ≠ 0 ∧ e = .returned (.int .i64 11) ∧ Sep w' (stA sp h0 (pV q) ⟨s.size, s.is, s.count, true⟩ tv :: jnA q p (saveN D j rec (n + 1)).2.2 :: diskA p (saveN D j rec (n + 1)).2.1 :: thA tv l :: B :: R)) := by
  obtain ⟨c0, c1, c2, c3, c4, c5, c6⟩ := S.st
  rw [hbr] at c6
  have hlt := S.blk_lt
  have S1 := (S.alloc #[.pointer (some ⟨sp, 0, none⟩)] 28).alloc #[.slice ba bn bc] 31
  simp only [World.size_alloc] at S1
  obtain ⟨sb, hsb⟩ : ∃ sb, sb = w.heap.size := ⟨_, rfl⟩
  obtain ⟨w1, hw1⟩ : ∃ w1, w1 = (w.alloc (.cells #[.pointer (some ⟨sp, 0, none⟩)] 28)).alloc (.cells #[.slice ba bn bc] 31) := ⟨_, rfl⟩
  rw [← hw1, ← hsb] at S1
  obtain ⟨rm, hrm⟩ : ∃ rm : Int, rm = ((s.size : Int) - 1) * 512 - 16 - 8 := ⟨_, rfl⟩
  have hgt : decide (rm < (bn : Int)) = false := by simp; omega
  have hge : decide ((4611686018427387904 : Int) ≤ (s.count : Int)) = false := by simp; omega
  have k1 := S1.up1.blk_cell 0
  have k2 := S1.blk_cell 0
  obtain ⟨d0, d1, d2, d3, d4, d5, d6⟩ := S1.up2.st
  simp at k1 k2
  have HW1 := Lib.hid hw1
  have HSB := Lib.hid hsb
  have HRM := Lib.hid hrm.symm
  have HS1 := Lib.hid S1
  have HH2 := Lib.hid h2
  have HREC := Lib.hid hrec
  have HSZ := Lib.hid hsz
  obtain ⟨ct, hct⟩ : ∃ ct, ct = s.count := ⟨_, rfl⟩
  have HCT := Lib.hid hct
  have HH := Lib.hid hh
  rw [← hct] at c4 d4 hge hcl
  rw [hh] at c3 d3
  rw [hbr] at d6
  have HC := Lib.hid hcl
  have HBR := Lib.hid hbr
  have HBB := Lib.hid hB
  clear S S1 hw1 hsb hrec h2 hrm hsz hct hh hroom hbr hB
  go_enter Try.func15, Try.ntmps15
  go_wp2_with fail
  rw [← HW1.out, ← HSB.out]
  clear c0 c1 c2 c3 c4 c5 c6 hlt
  go_region_held (fun w' => w'.cell? ⟨sb, 0, none⟩ = some (.pointer (some ⟨sp, 0, none⟩)) ∧ w'.cell? ⟨sb + 1, 0, none⟩ = some (.slice ba bn bc) ∧ w'.cell? ⟨sp, 4, none⟩ = some (.int .u64 (ct : Int))) (first | exact ⟨k1, k2, d4⟩)
    ((go_at_call 21; refine (stRoom_sep HS1.out.drew.up2 (by have := HSZ.out.2; omega)).mono ?_; rw [HRM.out]; rintro e w5 ⟨rfl, rfl⟩))
  clear k1 k2 d4
  have S5 := HS1.out.drew
  have k1 := S5.up1.blk_cell 0
  have k2 := S5.blk_cell 0
  obtain ⟨d0, d1, d2, d3, d4, d5, d6⟩ := S5.up2.st
  rw [← HCT.out] at d4
  rw [HH.out] at d3
  simp at k1 k2
  simp only [pV] at d0 d1
  have HS5 := Lib.hid S5
  clear S5
  go_wp2_with fail
  have S6 := ((HS1.out.alloc #[.pointer (some ⟨q, 0, none⟩)] 67).alloc #[fnReset q, fnCommit q, fnApp w1.heap.size sb (sb + 1), fnCommit q] 58).drew
  simp only [World.size_alloc] at S6
  obtain ⟨w2, hw2⟩ : ∃ w2, w2 = ((w1.alloc (.cells #[.pointer (some ⟨q, 0, none⟩)] 67)).alloc (.cells #[fnReset q, fnCommit q, fnApp w1.heap.size sb (sb + 1), fnCommit q] 58)).drew := ⟨_, rfl⟩
  obtain ⟨jb, hjb⟩ : ∃ jb, jb = w1.heap.size := ⟨_, rfl⟩
  rw [← hw2] at S6
  rw [← hjb] at S6 hw2
  have HW2 := Lib.hid hw2
  have HJB := Lib.hid hjb
  have HS6 := Lib.hid S6
  clear S6 hw2 hjb d0 d1 d2 d3 d4 d5 d6 k1 k2 HS5
  show Code.wp _ _ _ _ ((w1.alloc (.cells #[.pointer (some ⟨q, 0, none⟩)] 67)).alloc (.cells #[fnReset q, fnCommit q, fnApp w1.heap.size sb (sb + 1), fnCommit q] 58)).drew
  rw [← HJB.out, ← HW2.out]
  go_loopw [54] (fun i wr => ∃ (K : Int) (n : Nat), (K = 0 ∧ n = 0 ∨ K = 1 ∧ n = 1 ∨ K = 2 ∧ n = 2 ∨ K = 3 ∧ n = 3 ∨ K = 4 ∧ n = 4) ∧ i = .int .i64 K ∧ Hid (saveOk D j rec n ∧ Sep wr (jnA q p (saveN D j rec n).2.2 :: diskA p (saveN D j rec n).2.1 :: blkA jb #[.pointer (some ⟨q, 0, none⟩)] 67 :: blkA sb #[.pointer (some ⟨sp, 0, none⟩)] 28 :: blkA (sb + 1) #[.slice ba bn bc] 31 :: stA sp h0 (pV q) s tv :: blkA (jb + 1) #[fnReset q, fnCommit q, fnApp jb sb (sb + 1), fnCommit q] 58 :: thA tv l :: B :: R))) (fun i _ => 4 - (intOf i).toNat)
  case atStart => exact ⟨0, 0, .inl ⟨rfl, rfl⟩, rfl, Lib.hid ⟨(fun i h1 h2 => by omega), HS6.out.up4.up3.up4.up4.up6.up6⟩⟩
  case round =>
    obtain ⟨K, n, hK, rfl, HI⟩ := hrel
    clear HS1 HS6 HW1 HW2 HRM HSB HJB hgt hge
    rcases hK with ⟨rfl, rfl⟩ | ⟨rfl, rfl⟩ | ⟨rfl, rfl⟩ | ⟨rfl, rfl⟩ | ⟨rfl, rfl⟩
    · have S5 := HI.out.2
      have hok := HI.out.1
      have ck := S5.up6.blk_cell 0
      simp [fnReset] at ck
      have HS5 := Lib.hid S5
      clear S5
      go_wp2_with fail
      refine (reset_sep HS5.out hj hw).mono ?_
      rintro e w5 ⟨he, S7⟩
      skip
      replace S7 : Sep w5 (jnA q p (saveN D j rec 1).2.2 :: diskA p (saveN D j rec 1).2.1 :: _) := S7
      have k1 := S7.up3.blk_cell 0
      have f6 := S7.up5.blk_free 6
      have c6 := S7.up5.blk_cell 6
      simp [stC] at k1 c6
      obtain ⟨ev, hev⟩ : ∃ ev, ev = (saveN D j rec 1).1 := ⟨_, rfl⟩
      replace he : e = .returned (.int .i64 ev) := he.trans (by rw [hev]; rfl)
      subst he
      by_cases hz : ev = 0
      · have hok2 := Lib.hid (saveOk_succ HI.out.1 (hev.symm.trans hz))
        have HS7 := Lib.hid S7
        subst hz
        clear S7 k1 f6 c6 hev
        go_wp2_with fail
        go_roundw
        case rel => exact ⟨1, 1, by omega, rfl, Lib.hid ⟨hok2.out, HS7.out⟩⟩
        case measure => simp [intOf]
      · have HEV := Lib.hid hev
        have HS7 := Lib.hid (S7.up5.blk_set 6 (.bool true)).up3.drop.up3.drop.up3.drop.up3.drop
        clear S7 hev
        go_wp2
        go_ret
        exact .inr ⟨0, by omega, HI.out.1, by rw [← HEV.out]; exact hz, rfl, HS7.out⟩
    · have S5 := HI.out.2
      have hok := HI.out.1
      have ck := S5.up6.blk_cell 1
      simp [fnCommit] at ck
      have HS5 := Lib.hid S5
      clear S5
      go_wp2_with fail
      refine (commit_sep HS5.out).mono ?_
      rintro e w5 ⟨he, S7⟩
      skip
      replace S7 : Sep w5 (jnA q p (saveN D j rec 2).2.2 :: diskA p (saveN D j rec 2).2.1 :: _) := S7
      have k1 := S7.up3.blk_cell 0
      have f6 := S7.up5.blk_free 6
      have c6 := S7.up5.blk_cell 6
      simp [stC] at k1 c6
      obtain ⟨ev, hev⟩ : ∃ ev, ev = (saveN D j rec 2).1 := ⟨_, rfl⟩
      replace he : e = .returned (.int .i64 ev) := he.trans (by rw [hev]; rfl)
      subst he
      by_cases hz : ev = 0
      · have hok2 := Lib.hid (saveOk_succ HI.out.1 (hev.symm.trans hz))
        have HS7 := Lib.hid S7
        subst hz
        clear S7 k1 f6 c6 hev
        go_wp2_with fail
        go_roundw
        case rel => exact ⟨2, 2, by omega, rfl, Lib.hid ⟨hok2.out, HS7.out⟩⟩
        case measure => simp [intOf]
      · have HEV := Lib.hid hev
        have HS7 := Lib.hid (S7.up5.blk_set 6 (.bool true)).up3.drop.up3.drop.up3.drop.up3.drop
        clear S7 hev
        go_wp2
        go_ret
        exact .inr ⟨1, by omega, HI.out.1, by rw [← HEV.out]; exact hz, rfl, HS7.out⟩
    · have S5 := HI.out.2
      have hok := HI.out.1
      have ck := S5.up6.blk_cell 2
      simp [fnApp] at ck
      obtain ⟨hta2, htb, htn⟩ := HBB.out _ _ S5.up8
      subst hta2
      have HT := Lib.hid (And.intro htb (And.intro hbn htn))
      clear htb htn
      have HS5 := Lib.hid S5
      clear S5
      go_wp2_with fail
      refine (save1_sep HS5.out HT.out.1 rfl (by have := HT.out.2.1; omega) HT.out.2.2 (by have := HC.out; have := HCT.out; omega) _ rfl HH2.out.1 HH2.out.2.1 HH2.out.2.2.1 HH2.out.2.2.2).mono ?_
      rintro e w5 ⟨he, S7⟩
      rw [← HREC.out] at he S7
      replace S7 : Sep w5 (jnA q p (saveN D j rec 3).2.2 :: diskA p (saveN D j rec 3).2.1 :: _) := S7
      have k1 := S7.up3.blk_cell 0
      have f6 := S7.up5.blk_free 6
      have c6 := S7.up5.blk_cell 6
      simp [stC] at k1 c6
      obtain ⟨ev, hev⟩ : ∃ ev, ev = (saveN D j rec 3).1 := ⟨_, rfl⟩
      replace he : e = .returned (.int .i64 ev) := he.trans (by rw [hev]; rfl)
      subst he
      by_cases hz : ev = 0
      · have hok2 := Lib.hid (saveOk_succ HI.out.1 (hev.symm.trans hz))
        have HS7 := Lib.hid S7
        subst hz
        clear S7 k1 f6 c6 hev
        go_wp2_with fail
        go_roundw
        case rel => exact ⟨3, 3, by omega, rfl, Lib.hid ⟨hok2.out, HS7.out⟩⟩
        case measure => simp [intOf]
      · have HEV := Lib.hid hev
        have HS7 := Lib.hid (S7.up5.blk_set 6 (.bool true)).up3.drop.up3.drop.up3.drop.up3.drop
        clear S7 hev
        go_wp2
        go_ret
        exact .inr ⟨2, by omega, HI.out.1, by rw [← HEV.out]; exact hz, rfl, HS7.out⟩
    · have S5 := HI.out.2
      have hok := HI.out.1
      have ck := S5.up6.blk_cell 3
      simp [fnCommit] at ck
      have HS5 := Lib.hid S5
      clear S5
      go_wp2_with fail
      refine (commit_sep HS5.out).mono ?_
      rintro e w5 ⟨he, S7⟩
      skip
      replace S7 : Sep w5 (jnA q p (saveN D j rec 4).2.2 :: diskA p (saveN D j rec 4).2.1 :: _) := S7
      have k1 := S7.up3.blk_cell 0
      have f6 := S7.up5.blk_free 6
      have c6 := S7.up5.blk_cell 6
      simp [stC] at k1 c6
      obtain ⟨ev, hev⟩ : ∃ ev, ev = (saveN D j rec 4).1 := ⟨_, rfl⟩
      replace he : e = .returned (.int .i64 ev) := he.trans (by rw [hev]; rfl)
      subst he
      by_cases hz : ev = 0
      · have hok2 := Lib.hid (saveOk_succ HI.out.1 (hev.symm.trans hz))
        have HS7 := Lib.hid S7
        subst hz
        clear S7 k1 f6 c6 hev
        go_wp2_with fail
        go_roundw
        case rel => exact ⟨4, 4, by omega, rfl, Lib.hid ⟨hok2.out, HS7.out⟩⟩
        case measure => simp [intOf]
      · have HEV := Lib.hid hev
        have HS7 := Lib.hid (S7.up5.blk_set 6 (.bool true)).up3.drop.up3.drop.up3.drop.up3.drop
        clear S7 hev
        go_wp2
        go_ret
        exact .inr ⟨3, by omega, HI.out.1, by rw [← HEV.out]; exact hz, rfl, HS7.out⟩
    · obtain ⟨hta2, htb, htn⟩ := HBB.out _ _ HI.out.2.up8
      subst hta2
      have S5 := HI.out.2
      have HT := Lib.hid (And.intro htb htn)
      have k1 := S5.up3.blk_cell 0
      have k2 := S5.up4.blk_cell 0
      have d4 := S5.up5.blk_cell 4
      simp [stC] at k1 k2 d4
      obtain ⟨c1, hc1⟩ : ∃ c1, c1 = s.count + 1 := ⟨_, rfl⟩
      have q1 : IntKind.u64.wrap ((s.count : Int) + 1) = (c1 : Int) := by rw [IntKind.wrap_u64]; have := HC.out; have := HCT.out; omega
      have HC1 := Lib.hid hc1
      clear hc1
      have HS5 := Lib.hid S5
      clear htb htn S5
      go_wp2_with fail
      refine AnyK.start (S := lateS (fun w' => w'.cell? ⟨sb, 0, none⟩ = some (.pointer (some ⟨sp, 0, none⟩)) ∧ w'.cell? ⟨sb + 1, 0, none⟩ = some (.slice ba b.length bc)) []) (by kernel_rfl) ?_
      have hHeld : wr.drew.cell? ⟨sb, 0, none⟩ = some (.pointer (some ⟨sp, 0, none⟩)) ∧ wr.drew.cell? ⟨sb + 1, 0, none⟩ = some (.slice ba b.length bc) := ⟨k1, k2⟩
      refine AnyK.take (i := 0) (T := [11, 12, 13]) (v := ?vx0) rfl (by kernel_rfl) (by kernel_rfl) (by kernel_rfl) (by kernel_rfl) (by kernel_rfl) (by kernel_rfl) (by kernel_rfl) (fun _ _ _ h => h) (Or.inl ⟨by rfl, ?yx0⟩) hHeld ?rx0
      case yx0 => (intro w hSw; (try dsimp only at hSw); go_simp; (try with_reducible rfl))
      try simp only [Act.put, List.getElem_toArray, List.getElem_cons_zero, List.getElem_cons_succ, List.setIfInBounds_toArray, List.set_cons_zero, List.set_cons_succ]
      refine AnyK.take (i := 1) (T := [14, 15, 16]) (v := ?vx1) rfl (by kernel_rfl) (by kernel_rfl) (by kernel_rfl) (by kernel_rfl) (by kernel_rfl) (by kernel_rfl) (by kernel_rfl) (fun _ _ _ h => h) (Or.inl ⟨by rfl, ?yx1⟩) hHeld ?rx1
      case yx1 => (intro w hSw; (try dsimp only at hSw); go_simp; (try with_reducible rfl))
      try simp only [Act.put, List.getElem_toArray, List.getElem_cons_zero, List.getElem_cons_succ, List.setIfInBounds_toArray, List.set_cons_zero, List.set_cons_succ]
      refine AnyK.take (i := 2) (T := [17, 18, 19]) (v := ?vx2) rfl (by kernel_rfl) (by kernel_rfl) (by kernel_rfl) (by kernel_rfl) (by kernel_rfl) (by kernel_rfl) (by kernel_rfl) (fun _ _ _ h => h) (Or.inl ⟨by rfl, ?yx2⟩) hHeld ?rx2
      case yx2 => (intro w hSw; (try dsimp only at hSw); go_simp; (try with_reducible rfl))
      try simp only [Act.put, List.getElem_toArray, List.getElem_cons_zero, List.getElem_cons_succ, List.setIfInBounds_toArray, List.set_cons_zero, List.set_cons_succ]
      refine AnyK.take (i := 3) (T := [13]) (v := ?vx3) rfl (by kernel_rfl) (by kernel_rfl) (by kernel_rfl) (by kernel_rfl) (by kernel_rfl) (by kernel_rfl) (by kernel_rfl) (fun _ _ _ h => h) (Or.inl ⟨by rfl, ?yx3⟩) hHeld ?rx3
      case yx3 => (intro w hSw; (try dsimp only at hSw); go_simp; (try with_reducible rfl))
      try simp only [Act.put, List.getElem_toArray, List.getElem_cons_zero, List.getElem_cons_succ, List.setIfInBounds_toArray, List.set_cons_zero, List.set_cons_succ]
      refine AnyK.take (i := 4) (T := [5, 6, 7, 8, 16]) (v := ?vx4) rfl (by kernel_rfl) (by kernel_rfl) (by kernel_rfl) (by kernel_rfl) (by kernel_rfl) (by kernel_rfl) (by kernel_rfl) (fun _ _ _ h => h) (Or.inl ⟨by rfl, ?yx4⟩) hHeld ?rx4
      case yx4 => (intro w hSw; (try dsimp only at hSw); go_simp; (try with_reducible rfl))
      try simp only [Act.put, List.getElem_toArray, List.getElem_cons_zero, List.getElem_cons_succ, List.setIfInBounds_toArray, List.set_cons_zero, List.set_cons_succ]
      refine AnyK.take (i := 5) (T := [6, 7, 8, 16]) (v := ?vx5) rfl (by kernel_rfl) (by kernel_rfl) (by kernel_rfl) (by kernel_rfl) (by kernel_rfl) (by kernel_rfl) (by kernel_rfl) (fun _ _ _ h => h) (Or.inl ⟨by rfl, ?yx5⟩) hHeld ?rx5
      case yx5 => (intro w hSw; (try dsimp only at hSw); go_simp; (try with_reducible rfl))
      try simp only [Act.put, List.getElem_toArray, List.getElem_cons_zero, List.getElem_cons_succ, List.setIfInBounds_toArray, List.set_cons_zero, List.set_cons_succ]
      refine AnyK.take (i := 6) (T := [7, 8, 16]) (v := ?vx6) rfl (by kernel_rfl) (by kernel_rfl) (by kernel_rfl) (by kernel_rfl) (by kernel_rfl) (by kernel_rfl) (by kernel_rfl) (fun _ _ _ h => h) (Or.inl ⟨by rfl, ?yx6⟩) hHeld ?rx6
      case yx6 => (intro w hSw; (try dsimp only at hSw); go_simp; (try with_reducible rfl))
      try simp only [Act.put, List.getElem_toArray, List.getElem_cons_zero, List.getElem_cons_succ, List.setIfInBounds_toArray, List.set_cons_zero, List.set_cons_succ]
      refine AnyK.take (i := 9) (T := [10, 19]) (v := ?vx9) rfl (by kernel_rfl) (by kernel_rfl) (by kernel_rfl) (by kernel_rfl) (by kernel_rfl) (by kernel_rfl) (by kernel_rfl) (fun _ _ _ h => h) (Or.inl ⟨by rfl, ?yx9⟩) hHeld ?rx9
      case yx9 => (intro w hSw; (try dsimp only at hSw); go_simp; (try with_reducible rfl))
      try simp only [Act.put, List.getElem_toArray, List.getElem_cons_zero, List.getElem_cons_succ, List.setIfInBounds_toArray, List.set_cons_zero, List.set_cons_succ]
      refine AnyK.two (i := 7) (j := 10) (by kernel_rfl) rfl rfl (fun K hK => ?_) (fun K hK => ?_)
      · go_simp
        refine hK.out _ _ (.inr hHeld) ?_
        clear hK K
        refine AnyK.take (i := 8) (T := [16]) (v := ?va8) rfl (by kernel_rfl) (by kernel_rfl) (by kernel_rfl) (by kernel_rfl) (by kernel_rfl) (by kernel_rfl) (by kernel_rfl) (fun _ _ _ h => h) (Or.inl ⟨by rfl, ?ya8⟩) hHeld ?ra8
        case ya8 => (intro w hSw; (try dsimp only at hSw); go_simp; (try with_reducible rfl))
        try simp only [Act.put, List.getElem_toArray, List.getElem_cons_zero, List.getElem_cons_succ, List.setIfInBounds_toArray, List.set_cons_zero, List.set_cons_succ]
        refine AnyK.one (i := 10) (by kernel_rfl) rfl (fun K hK => ?_)
        go_simp
        refine (clone_calls _ ba b.length bc b (HT.out.1.below (Below.refl _ _).drew) rfl (by omega) HT.out.2).mono ?_
        rintro e w5 ⟨g, cap, rfl, ho, hb⟩
        have S8 := (HS5.out.drew.newBytes hb ho).bytes_hold
        have m1 := S8.up4.blk_cell 0
        have m2 := S8.up5.blk_cell 0
        have n0 := S8.up6.st
        have f3 := S8.up6.blk_free 3
        have f4 := S8.up6.blk_free 4
        have f5 := S8.up6.blk_free 5
        simp at m1 m2
        obtain ⟨n0, n1, n2, n3, n4, n5, n6⟩ := n0
        refine hK.out _ _ (.inr ⟨m1, m2⟩) ?_
        clear hK K
        have hHeld5 : w5.cell? ⟨sb, 0, none⟩ = some (.pointer (some ⟨sp, 0, none⟩)) ∧ w5.cell? ⟨sb + 1, 0, none⟩ = some (.slice ba b.length bc) := ⟨m1, m2⟩
        have HS8 := Lib.hid S8
        clear S8 ho hb
        refine AnyK.take (i := 11) (T := [12, 13]) (v := ?vta11) rfl (by kernel_rfl) (by kernel_rfl) (by kernel_rfl) (by kernel_rfl) (by kernel_rfl) (by kernel_rfl) (by kernel_rfl) (fun _ _ _ h => h) (Or.inl ⟨by rfl, ?yta11⟩) hHeld5 ?rta11
        case yta11 => (intro w hSw; (try dsimp only at hSw); go_simp; (try with_reducible rfl))
        try simp only [Act.put, List.getElem_toArray, List.getElem_cons_zero, List.getElem_cons_succ, List.setIfInBounds_toArray, List.set_cons_zero, List.set_cons_succ]
        refine AnyK.take (i := 12) (T := [13]) (v := ?vta12) rfl (by kernel_rfl) (by kernel_rfl) (by kernel_rfl) (by kernel_rfl) (by kernel_rfl) (by kernel_rfl) (by kernel_rfl) (fun _ _ _ h => h) (Or.inl ⟨by rfl, ?yta12⟩) hHeld5 ?rta12
        case yta12 => (intro w hSw; (try dsimp only at hSw); go_simp; (try with_reducible rfl))
        try simp only [Act.put, List.getElem_toArray, List.getElem_cons_zero, List.getElem_cons_succ, List.setIfInBounds_toArray, List.set_cons_zero, List.set_cons_succ]
        refine AnyK.one (i := 13) (by kernel_rfl) rfl (fun K hK => ?_)
        go_simp
        have S9 := HS8.out.up6.blk_set 3 (.int .i64 1)
        have hHeld6 : (w5.setCell ⟨sp, 3, none⟩ (.int .i64 1)).cell? ⟨sb, 0, none⟩ = some (.pointer (some ⟨sp, 0, none⟩)) ∧ (w5.setCell ⟨sp, 3, none⟩ (.int .i64 1)).cell? ⟨sb + 1, 0, none⟩ = some (.slice ba b.length bc) := ⟨by have := S9.up5.blk_cell 0; simpa using this, by have := S9.up6.blk_cell 0; simpa using this⟩
        have e4 := S9.blk_cell 4
        have f4 := S9.blk_free 4
        simp [stC] at e4
        refine hK.out _ _ (.inr hHeld6) ?_
        clear hK K f3 f5
        obtain ⟨w6, hw6⟩ : ∃ w6, w6 = w5.setCell ⟨sp, 3, none⟩ (.int .i64 1) := ⟨_, rfl⟩
        rw [← hw6] at S9 hHeld6 e4 f4
        have HW6 := Lib.hid hw6
        have HS9 := Lib.hid S9
        clear hw6 S9
        rw [← HW6.out]
        refine AnyK.take (i := 14) (T := [15, 16]) (v := ?vta14) rfl (by kernel_rfl) (by kernel_rfl) (by kernel_rfl) (by kernel_rfl) (by kernel_rfl) (by kernel_rfl) (by kernel_rfl) (fun _ _ _ h => h) (Or.inl ⟨by rfl, ?yta14⟩) hHeld6 ?rta14
        case yta14 => (intro w hSw; (try dsimp only at hSw); go_simp; (try with_reducible rfl))
        try simp only [Act.put, List.getElem_toArray, List.getElem_cons_zero, List.getElem_cons_succ, List.setIfInBounds_toArray, List.set_cons_zero, List.set_cons_succ]
        refine AnyK.take (i := 15) (T := [16]) (v := ?vta15) rfl (by kernel_rfl) (by kernel_rfl) (by kernel_rfl) (by kernel_rfl) (by kernel_rfl) (by kernel_rfl) (by kernel_rfl) (fun _ _ _ h => h) (Or.inl ⟨by rfl, ?yta15⟩) hHeld6 ?rta15
        case yta15 => (intro w hSw; (try dsimp only at hSw); go_simp; (try with_reducible rfl))
        try simp only [Act.put, List.getElem_toArray, List.getElem_cons_zero, List.getElem_cons_succ, List.setIfInBounds_toArray, List.set_cons_zero, List.set_cons_succ]
        refine AnyK.one (i := 16) (by kernel_rfl) rfl (fun K hK => ?_)
        go_simp
        have S10 := HS9.out.blk_set 4 (.int .u64 (c1 : Int))
        have hHeld7 : (w6.setCell ⟨sp, 4, none⟩ (.int .u64 (c1 : Int))).cell? ⟨sb, 0, none⟩ = some (.pointer (some ⟨sp, 0, none⟩)) ∧ (w6.setCell ⟨sp, 4, none⟩ (.int .u64 (c1 : Int))).cell? ⟨sb + 1, 0, none⟩ = some (.slice ba b.length bc) := ⟨by have := S10.up5.blk_cell 0; simpa using this, by have := S10.up6.blk_cell 0; simpa using this⟩
        have e5 := S10.blk_cell 5
        have f5 := S10.blk_free 5
        simp [stC] at e5
        refine hK.out _ _ (.inr hHeld7) ?_
        clear hK K f4 e4
        obtain ⟨w7, hw7⟩ : ∃ w7, w7 = w6.setCell ⟨sp, 4, none⟩ (.int .u64 (c1 : Int)) := ⟨_, rfl⟩
        rw [← hw7] at S10 hHeld7 e5 f5
        have HW7 := Lib.hid hw7
        have HS10 := Lib.hid S10
        clear hw7 S10
        rw [← HW7.out]
        refine AnyK.take (i := 17) (T := [18, 19]) (v := ?vta17) rfl (by kernel_rfl) (by kernel_rfl) (by kernel_rfl) (by kernel_rfl) (by kernel_rfl) (by kernel_rfl) (by kernel_rfl) (fun _ _ _ h => h) (Or.inl ⟨by rfl, ?yta17⟩) hHeld7 ?rta17
        case yta17 => (intro w hSw; (try dsimp only at hSw); go_simp; (try with_reducible rfl))
        try simp only [Act.put, List.getElem_toArray, List.getElem_cons_zero, List.getElem_cons_succ, List.setIfInBounds_toArray, List.set_cons_zero, List.set_cons_succ]
        refine AnyK.take (i := 18) (T := [19]) (v := ?vta18) rfl (by kernel_rfl) (by kernel_rfl) (by kernel_rfl) (by kernel_rfl) (by kernel_rfl) (by kernel_rfl) (by kernel_rfl) (fun _ _ _ h => h) (Or.inl ⟨by rfl, ?yta18⟩) hHeld7 ?rta18
        case yta18 => (intro w hSw; (try dsimp only at hSw); go_simp; (try with_reducible rfl))
        try simp only [Act.put, List.getElem_toArray, List.getElem_cons_zero, List.getElem_cons_succ, List.setIfInBounds_toArray, List.set_cons_zero, List.set_cons_succ]
        refine AnyK.one (i := 19) (by kernel_rfl) rfl (fun K hK => ?_)
        go_simp
        have S11 := HS10.out.blk_set 5 (.slice g b.length cap)
        have hHeld8 : (w7.setCell ⟨sp, 5, none⟩ (.slice g b.length cap)).cell? ⟨sb, 0, none⟩ = some (.pointer (some ⟨sp, 0, none⟩)) ∧ (w7.setCell ⟨sp, 5, none⟩ (.slice g b.length cap)).cell? ⟨sb + 1, 0, none⟩ = some (.slice ba b.length bc) := ⟨by have := S11.up5.blk_cell 0; simpa using this, by have := S11.up6.blk_cell 0; simpa using this⟩
        refine hK.out _ _ (.inr hHeld8) ?_
        clear hK K
        refine AnyK.done (by kernel_rfl) ?_ _
        have e1 := HC1.out
        subst e1
        have S12 : Sep (w7.setCell ⟨sp, 5, none⟩ (.slice g b.length cap)) (stA sp h0 (pV q) ⟨s.size, 1, s.count + 1, s.broken⟩ (.slice g b.length cap) :: _) := S11.up4.drop.up4.drop.up4.drop.up4.drop.up4.drop.up1.dn3
        rw [HBR.out] at S12
        have HS12 := Lib.hid S12
        clear S11 S12
        go_wp2
        go_ret
        exact .inl ⟨HI.out.1, rfl, _, HS12.out⟩
      · skip
        go_simp
        refine (clone_calls _ ba b.length bc b (HT.out.1.below (Below.refl _ _).drew) rfl (by omega) HT.out.2).mono ?_
        rintro e w5 ⟨g, cap, rfl, ho, hb⟩
        have S8 := (HS5.out.drew.newBytes hb ho).bytes_hold
        have m1 := S8.up4.blk_cell 0
        have m2 := S8.up5.blk_cell 0
        have n0 := S8.up6.st
        have f3 := S8.up6.blk_free 3
        have f4 := S8.up6.blk_free 4
        have f5 := S8.up6.blk_free 5
        simp at m1 m2
        obtain ⟨n0, n1, n2, n3, n4, n5, n6⟩ := n0
        refine hK.out _ _ (.inr ⟨m1, m2⟩) ?_
        clear hK K
        have hHeld5 : w5.cell? ⟨sb, 0, none⟩ = some (.pointer (some ⟨sp, 0, none⟩)) ∧ w5.cell? ⟨sb + 1, 0, none⟩ = some (.slice ba b.length bc) := ⟨m1, m2⟩
        have HS8 := Lib.hid S8
        clear S8 ho hb
        refine AnyK.one (i := 7) (by kernel_rfl) rfl (fun K hK => ?_)
        go_simp
        refine hK.out _ _ (.inr hHeld5) ?_
        clear hK K
        refine AnyK.take (i := 8) (T := [16]) (v := ?vb8) rfl (by kernel_rfl) (by kernel_rfl) (by kernel_rfl) (by kernel_rfl) (by kernel_rfl) (by kernel_rfl) (by kernel_rfl) (fun _ _ _ h => h) (Or.inl ⟨by rfl, ?yb8⟩) hHeld5 ?rb8
        case yb8 => (intro w hSw; (try dsimp only at hSw); go_simp; (try with_reducible rfl))
        try simp only [Act.put, List.getElem_toArray, List.getElem_cons_zero, List.getElem_cons_succ, List.setIfInBounds_toArray, List.set_cons_zero, List.set_cons_succ]
        refine AnyK.take (i := 11) (T := [12, 13]) (v := ?vtb11) rfl (by kernel_rfl) (by kernel_rfl) (by kernel_rfl) (by kernel_rfl) (by kernel_rfl) (by kernel_rfl) (by kernel_rfl) (fun _ _ _ h => h) (Or.inl ⟨by rfl, ?ytb11⟩) hHeld5 ?rtb11
        case ytb11 => (intro w hSw; (try dsimp only at hSw); go_simp; (try with_reducible rfl))
        try simp only [Act.put, List.getElem_toArray, List.getElem_cons_zero, List.getElem_cons_succ, List.setIfInBounds_toArray, List.set_cons_zero, List.set_cons_succ]
        refine AnyK.take (i := 12) (T := [13]) (v := ?vtb12) rfl (by kernel_rfl) (by kernel_rfl) (by kernel_rfl) (by kernel_rfl) (by kernel_rfl) (by kernel_rfl) (by kernel_rfl) (fun _ _ _ h => h) (Or.inl ⟨by rfl, ?ytb12⟩) hHeld5 ?rtb12
        case ytb12 => (intro w hSw; (try dsimp only at hSw); go_simp; (try with_reducible rfl))
        try simp only [Act.put, List.getElem_toArray, List.getElem_cons_zero, List.getElem_cons_succ, List.setIfInBounds_toArray, List.set_cons_zero, List.set_cons_succ]
        refine AnyK.one (i := 13) (by kernel_rfl) rfl (fun K hK => ?_)
        go_simp
        have S9 := HS8.out.up6.blk_set 3 (.int .i64 1)
        have hHeld6 : (w5.setCell ⟨sp, 3, none⟩ (.int .i64 1)).cell? ⟨sb, 0, none⟩ = some (.pointer (some ⟨sp, 0, none⟩)) ∧ (w5.setCell ⟨sp, 3, none⟩ (.int .i64 1)).cell? ⟨sb + 1, 0, none⟩ = some (.slice ba b.length bc) := ⟨by have := S9.up5.blk_cell 0; simpa using this, by have := S9.up6.blk_cell 0; simpa using this⟩
        have e4 := S9.blk_cell 4
        have f4 := S9.blk_free 4
        simp [stC] at e4
        refine hK.out _ _ (.inr hHeld6) ?_
        clear hK K f3 f5
        obtain ⟨w6, hw6⟩ : ∃ w6, w6 = w5.setCell ⟨sp, 3, none⟩ (.int .i64 1) := ⟨_, rfl⟩
        rw [← hw6] at S9 hHeld6 e4 f4
        have HW6 := Lib.hid hw6
        have HS9 := Lib.hid S9
        clear hw6 S9
        rw [← HW6.out]
        refine AnyK.take (i := 14) (T := [15, 16]) (v := ?vtb14) rfl (by kernel_rfl) (by kernel_rfl) (by kernel_rfl) (by kernel_rfl) (by kernel_rfl) (by kernel_rfl) (by kernel_rfl) (fun _ _ _ h => h) (Or.inl ⟨by rfl, ?ytb14⟩) hHeld6 ?rtb14
        case ytb14 => (intro w hSw; (try dsimp only at hSw); go_simp; (try with_reducible rfl))
        try simp only [Act.put, List.getElem_toArray, List.getElem_cons_zero, List.getElem_cons_succ, List.setIfInBounds_toArray, List.set_cons_zero, List.set_cons_succ]
        refine AnyK.take (i := 15) (T := [16]) (v := ?vtb15) rfl (by kernel_rfl) (by kernel_rfl) (by kernel_rfl) (by kernel_rfl) (by kernel_rfl) (by kernel_rfl) (by kernel_rfl) (fun _ _ _ h => h) (Or.inl ⟨by rfl, ?ytb15⟩) hHeld6 ?rtb15
        case ytb15 => (intro w hSw; (try dsimp only at hSw); go_simp; (try with_reducible rfl))
        try simp only [Act.put, List.getElem_toArray, List.getElem_cons_zero, List.getElem_cons_succ, List.setIfInBounds_toArray, List.set_cons_zero, List.set_cons_succ]
        refine AnyK.one (i := 16) (by kernel_rfl) rfl (fun K hK => ?_)
        go_simp
        have S10 := HS9.out.blk_set 4 (.int .u64 (c1 : Int))
        have hHeld7 : (w6.setCell ⟨sp, 4, none⟩ (.int .u64 (c1 : Int))).cell? ⟨sb, 0, none⟩ = some (.pointer (some ⟨sp, 0, none⟩)) ∧ (w6.setCell ⟨sp, 4, none⟩ (.int .u64 (c1 : Int))).cell? ⟨sb + 1, 0, none⟩ = some (.slice ba b.length bc) := ⟨by have := S10.up5.blk_cell 0; simpa using this, by have := S10.up6.blk_cell 0; simpa using this⟩
        have e5 := S10.blk_cell 5
        have f5 := S10.blk_free 5
        simp [stC] at e5
        refine hK.out _ _ (.inr hHeld7) ?_
        clear hK K f4 e4
        obtain ⟨w7, hw7⟩ : ∃ w7, w7 = w6.setCell ⟨sp, 4, none⟩ (.int .u64 (c1 : Int)) := ⟨_, rfl⟩
        rw [← hw7] at S10 hHeld7 e5 f5
        have HW7 := Lib.hid hw7
        have HS10 := Lib.hid S10
        clear hw7 S10
        rw [← HW7.out]
        refine AnyK.take (i := 17) (T := [18, 19]) (v := ?vtb17) rfl (by kernel_rfl) (by kernel_rfl) (by kernel_rfl) (by kernel_rfl) (by kernel_rfl) (by kernel_rfl) (by kernel_rfl) (fun _ _ _ h => h) (Or.inl ⟨by rfl, ?ytb17⟩) hHeld7 ?rtb17
        case ytb17 => (intro w hSw; (try dsimp only at hSw); go_simp; (try with_reducible rfl))
        try simp only [Act.put, List.getElem_toArray, List.getElem_cons_zero, List.getElem_cons_succ, List.setIfInBounds_toArray, List.set_cons_zero, List.set_cons_succ]
        refine AnyK.take (i := 18) (T := [19]) (v := ?vtb18) rfl (by kernel_rfl) (by kernel_rfl) (by kernel_rfl) (by kernel_rfl) (by kernel_rfl) (by kernel_rfl) (by kernel_rfl) (fun _ _ _ h => h) (Or.inl ⟨by rfl, ?ytb18⟩) hHeld7 ?rtb18
        case ytb18 => (intro w hSw; (try dsimp only at hSw); go_simp; (try with_reducible rfl))
        try simp only [Act.put, List.getElem_toArray, List.getElem_cons_zero, List.getElem_cons_succ, List.setIfInBounds_toArray, List.set_cons_zero, List.set_cons_succ]
        refine AnyK.one (i := 19) (by kernel_rfl) rfl (fun K hK => ?_)
        go_simp
        have S11 := HS10.out.blk_set 5 (.slice g b.length cap)
        have hHeld8 : (w7.setCell ⟨sp, 5, none⟩ (.slice g b.length cap)).cell? ⟨sb, 0, none⟩ = some (.pointer (some ⟨sp, 0, none⟩)) ∧ (w7.setCell ⟨sp, 5, none⟩ (.slice g b.length cap)).cell? ⟨sb + 1, 0, none⟩ = some (.slice ba b.length bc) := ⟨by have := S11.up5.blk_cell 0; simpa using this, by have := S11.up6.blk_cell 0; simpa using this⟩
        refine hK.out _ _ (.inr hHeld8) ?_
        clear hK K
        refine AnyK.done (by kernel_rfl) ?_ _
        have e1 := HC1.out
        subst e1
        have S12 : Sep (w7.setCell ⟨sp, 5, none⟩ (.slice g b.length cap)) (stA sp h0 (pV q) ⟨s.size, 1, s.count + 1, s.broken⟩ (.slice g b.length cap) :: _) := S11.up4.drop.up4.drop.up4.drop.up4.drop.up4.drop.up1.dn3
        rw [HBR.out] at S12
        have HS12 := Lib.hid S12
        clear S11 S12
        go_wp2
        go_ret
        exact .inl ⟨HI.out.1, rfl, _, HS12.out⟩
end
end Go.Proofs.Ytnekelndcpmonaa
