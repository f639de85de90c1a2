/- The reference's disk: op, Arm, Read, Barrier's sectors. -/
import Derived.Test.YtgicpialopccpaaRd2
namespace Go.Proofs.Ytgicpialopccpaa
open Go.RowKit
set_option linter.unusedVariables false

section
variable {w : World} {R : List Asn} {r : Nat} {D : Dk}
theorem rCrash_sep {K : Asn} {ka : Option Addr} {kc : Nat} {keep : List Bool} (S : Sep w (rdA r D :: K :: R)) (hK : HoldsB K ka kc keep) (ok : D.Ok) (hkn : keep.length ≤ 1000000) (hwn : D.waits.length ≤ 100000) (hsn : D.secs.length ≤ 4096) :
    Calls Try.prog 33 #[.pointer (some ⟨r, 0, none⟩), .slice ka keep.length kc] w fun e w' => e = .returned (.tuple #[]) ∧ Sep w' (rdA r (D.crash keep) :: K :: R) := by
  obtain ⟨dv, wv, kv, kp, h0, S1⟩ := S.rd_open
  exact (rCrash_parts (K := K) (R := boolsA kv kp :: R) (S1.pick [0, 1, 2, 4, 3] 5 (by decide) rfl) hK ok hkn hwn hsn).mono fun e w' ⟨he, h⟩ => ⟨he, Sep.rd_shut (D := D.crash keep) (fun x hx => by cases hx) (h.pick [0, 1, 2, 4, 3] 5 (by decide) rfl)⟩
set_option maxRecDepth 20000 in
set_option maxHeartbeats 4000000 in
theorem rOp_sep (S : Sep w (rdA r D :: R)) (ok : D.Ok) (hlb : ∀ x, D.armed = some x → x.1 ≤ 9223372036854775807) (hkp : D.keeps.length ≤ 1000000) (hwn : D.waits.length ≤ 100000) (hsn : D.secs.length ≤ 4096) :
    Calls Try.prog 37 #[.pointer (some ⟨r, 0, none⟩)] w fun e w' => e = .returned (.bool (!D.fell.down)) ∧ Sep w' (rdA r D.begun :: R) := by
  obtain ⟨dv, wv, kv, kp, h0, S1⟩ := S.rd_open
  obtain ⟨c0, c1, c2, c3, c4, c5⟩ := S1.rd
  have f3 := S1.blk_free 3
  have f4 := S1.blk_free 4
  have S2 := rd_set3 S1 (wrap64 (D.ops + 1))
  have HS := Lib.hid S
  have HS1 := Lib.hid S1
  have HS2 := Lib.hid S2
  have H0 := Lib.hid h0
  clear S S1 S2 h0 c0 c1
  cases hx : D.armed with
  | none =>
    have hl : leftOf D = -1 := by simp [leftOf, hx]
    rw [hl] at c4
    have hfell : D.fell = D := by simp [Dk.fell, Dk.due, hx]
    rw [hfell]
    cases hd : D.down with
    | true =>
      have e2 : D.begun = D := by simp [Dk.begun, hfell, hd]
      rw [hd] at c2
      rw [e2]
      clear hfell e2 hx hd hl
      go_enter Try.func37, Try.ntmps37
      go_wp2
      go_ret
      exact ⟨rfl, HS.out⟩
    | false =>
      have e2 : D.begun = { D with ops := Dk.wrapI (D.ops + 1) } := by simp [Dk.begun, hfell, hd, Dk.counted, hx]
      rw [hd] at c2
      rw [e2, ← wrap64_eq]
      have HX := Lib.hid hx
      clear hfell e2 hx hd hl
      go_enter Try.func37, Try.ntmps37
      go_wp2
      go_ret
      exact ⟨rfl, Sep.rd_shut (D := { D with ops := wrap64 (D.ops + 1) }) H0.out HS2.out⟩
  | some x =>
    obtain ⟨left, keep⟩ := x
    have hl : leftOf D = (left : Int) := by simp [leftOf, hx]
    have hkk : kp = keep := H0.out _ hx
    rw [hl] at c4
    cases hd : D.down with
    | true =>
      have hfell : D.fell = D := by unfold Dk.fell Dk.due; rw [hx, hd]; cases left <;> rfl
      have e2 : D.begun = D := by simp [Dk.begun, hfell, hd]
      rw [hd] at c2
      rw [e2, hfell, hd]
      clear hfell e2 hx hd hl
      by_cases hl0 : left = 0
      · subst hl0
        go_enter Try.func37, Try.ntmps37
        go_wp2
        go_ret
        exact ⟨rfl, HS.out⟩
      · have hl1 : ((left : Int) == 0) = false := by simp; omega
        go_enter Try.func37, Try.ntmps37
        go_wp2
        go_ret
        exact ⟨rfl, HS.out⟩
    | false =>
      rw [hd] at c2
      by_cases hl0 : left = 0
      · subst hl0
        have hfell : D.fell = D.crash keep := by simp [Dk.fell, Dk.due, Dk.keeps, hx, hd]
        have e2 : D.begun = D.crash keep := by simp [Dk.begun, hfell, Dk.crash]
        have hkp2 : kp.length ≤ 1000000 := by rw [hkk]; simpa [Dk.keeps, hx] using hkp
        rw [e2, hfell, ← hkk]
        obtain ⟨ka, kc, hkv, _⟩ := HS1.out.up3.own_slice
        subst hkv
        have hcr := rCrash_parts (K := boolsA (.slice ka kp.length kc) kp) HS1.out (holds_boolsA ka kc kp) ok hkp2 hwn hsn
        have HCR := Lib.hid hcr
        clear hfell e2 hx hl hkk hcr hd
        obtain ⟨kn, hkn⟩ : ∃ kn, kn = kp.length := ⟨_, rfl⟩
        rw [← hkn] at c5 HCR
        have HKN := Lib.hid hkn
        clear hkn hkp2 hkp
        go_enter Try.func37, Try.ntmps37
        go_wp2_with fail
        refine HCR.out.mono ?_
        rintro e w1 ⟨rfl, S3⟩
        have d2 : w1.cell? ⟨r, 2, none⟩ = some (.bool true) := S3.rd.2.2.1
        have HS3 := Lib.hid S3
        clear S3 c2 c3 c4 c5
        go_wp2
        go_ret
        exact ⟨rfl, Sep.rd_shut (D := D.crash kp) (fun x hx => by cases hx) HS3.out⟩
      · obtain ⟨l1, rfl⟩ : ∃ l1, left = l1 + 1 := ⟨left - 1, by omega⟩
        have hfell : D.fell = D := by simp [Dk.fell, Dk.due, hx]
        have e2 : D.begun = { D with ops := Dk.wrapI (D.ops + 1), armed := some (l1, keep) } := by simp [Dk.begun, hfell, hd, Dk.counted, hx]
        have hnd : (!D.down) = true := by rw [hd]; rfl
        rw [e2, hfell, hnd, ← wrap64_eq]
        have hl1 : (((l1 : Int) + 1) == 0) = false := by simp; omega
        have hlb1 : (l1 : Int) ≤ 9223372036854775806 := by have := hlb _ hx; dsimp only at this; omega
        have hlb0 : (0 : Int) ≤ (l1 : Int) := by omega
        have a0' : w.cell? ⟨r, 4, none⟩ = some (.int .i64 ((l1 : Int) + 1)) := by rw [c4]; simp
        have S4 := rd_set4 HS2.out (some (l1, keep)) (l1 : Int) rfl
        have HS4 := Lib.hid S4
        have HKK := Lib.hid hkk
        clear e2 hfell hx hl hkk S4 c4 hd hlb hnd
        go_enter Try.func37, Try.ntmps37
        go_wp2
        go_ret
        exact ⟨rfl, Sep.rd_shut (D := { D with ops := wrap64 (D.ops + 1), armed := some (l1, keep) }) (fun x hx => by cases hx; exact HKK.out) HS4.out⟩
set_option maxHeartbeats 1600000 in
theorem rRead_arg (S : Sep w (rdA r D :: R)) (I : Int) (h : ¬ (0 ≤ I ∧ I < (D.secs.length : Int))) (hsn : D.secs.length ≤ 4096) :
    Calls Try.prog 30 #[.pointer (some ⟨r, 0, none⟩), .int .i64 I] w fun e w' => e = .returned (.tuple #[.string ⟨#[]⟩, .int .i64 1]) ∧ Sep w' (rdA r D :: R) := by
  obtain ⟨dv, wv, kv, kp, h0, S1⟩ := S.rd_open
  obtain ⟨c0, _⟩ := S1.rd
  obtain ⟨da, dc, hdv, _⟩ := S1.up1.own_slice
  subst hdv
  have HS := Lib.hid S
  obtain ⟨n, hn⟩ : ∃ n, n = D.secs.length := ⟨_, rfl⟩
  rw [← hn] at c0 h hsn
  have hn0 : (0 : Int) ≤ (n : Int) := by omega
  clear S S1 h0 hn
  by_cases h1 : I < 0
  · clear h
    go_enter Try.func30, Try.ntmps30
    go_wp2
    go_ret2
    exact ⟨rfl, HS.out⟩
  · have h2 : (n : Int) ≤ I := by omega
    clear h
    go_enter Try.func30, Try.ntmps30
    go_wp2
    go_ret2
    exact ⟨rfl, HS.out⟩
/-- What Read answers. -/
def readV (D : Dk) (i : Nat) : Value := if D.fell.down then .tuple #[.string ⟨#[]⟩, .int .i64 11] else .tuple #[strV (D.begun.now i), .int .i64 0]
theorem begun_waits (D : Dk) : D.begun.waits.length ≤ D.waits.length := by
  unfold Dk.begun Dk.fell
  split <;> split <;> simp [Dk.crash, Dk.counted]
set_option maxHeartbeats 1600000 in
theorem rRead_sep (S : Sep w (rdA r D :: R)) (i : Nat) (I : Int) (hI : I = (i : Int)) (hi : i < D.secs.length) (ok : D.Ok) (hlb : ∀ x, D.armed = some x → x.1 ≤ 9223372036854775807) (hkp : D.keeps.length ≤ 1000000) (hwn : D.waits.length ≤ 100000) (hsn : D.secs.length ≤ 4096) :
    Calls Try.prog 30 #[.pointer (some ⟨r, 0, none⟩), .int .i64 I] w fun e w' => e = .returned (readV D i) ∧ Sep w' (rdA r D.begun :: R) := by
  subst hI
  obtain ⟨dv, wv, kv, kp, h0, S1⟩ := S.rd_open
  obtain ⟨c0, _⟩ := S1.rd
  obtain ⟨da, dc, hdv, _⟩ := S1.up1.own_slice
  subst hdv
  have HOP := Lib.hid (rOp_sep S ok hlb hkp hwn hsn)
  have hbl : D.begun.secs.length = D.secs.length := begun_len D
  have hbw := begun_waits D
  obtain ⟨n, hn⟩ : ∃ n, n = D.secs.length := ⟨_, rfl⟩
  rw [← hn] at c0 hi hsn
  have hi0 : (0 : Int) ≤ (i : Int) := by omega
  have hi1 : (i : Int) < (n : Int) := by omega
  have hi2 : ¬ (n : Int) ≤ (i : Int) := by omega
  have HB : Hid (i < D.begun.secs.length ∧ D.begun.waits.length ≤ 100000 ∧ D.begun.secs.length ≤ 4096) := Lib.hid (by omega)
  clear S S1 h0 hn hbl hbw hlb
  unfold readV
  cases hd : D.fell.down with
  | true =>
    rw [hd] at HOP
    rw [if_pos rfl]
    clear hd
    go_enter Try.func30, Try.ntmps30
    go_wp2_with fail
    refine HOP.out.mono ?_
    simp only [Bool.not_true]
    rintro e w1 ⟨rfl, S2⟩
    have HS2 := Lib.hid S2
    clear S2
    go_wp2
    go_ret2
    exact ⟨rfl, HS2.out⟩
  | false =>
    rw [hd] at HOP
    rw [if_neg (by simp)]
    clear hd
    go_enter Try.func30, Try.ntmps30
    go_wp2_with fail
    refine HOP.out.mono ?_
    simp only [Bool.not_false]
    rintro e w1 ⟨rfl, S2⟩
    obtain ⟨dv2, wv2, kv2, kp2, h02, S3⟩ := S2.rd_open
    have hnow := rNow_calls (rd_at S3) i (i : Int) rfl HB.out.1 HB.out.2.1 HB.out.2.2
    have HN := Lib.hid hnow
    have HS2 := Lib.hid S2
    clear S2 S3 hnow h02
    go_wp2_with fail
    refine HN.out.mono ?_
    rintro e w2 ⟨rfl, rfl⟩
    go_wp2
    go_ret2
    exact ⟨rfl, HS2.out⟩
end
end Go.Proofs.Ytgicpialopccpaa
