/- The reference's disk: Start, Arm, Crash, op. -/
import Derived.Test.YtgicpialopccpaaRd1
import Derived.Deep.RegionHeld
import Derived.RegionTactic
namespace Go.Proofs.Ytgicpialopccpaa
open Go.RowKit
set_option linter.unusedVariables false

section
variable {w : World} {R : List Asn} {r : Nat} {D : Dk}
theorem rd_set2 {dv wv kv : Value} (S : Sep w (rdB r D dv wv kv :: R)) (b : Bool) : Sep (w.setCell ⟨r, 2, none⟩ (.bool b)) (rdB r { D with down := b } dv wv kv :: R) := S.blk_set 2 _
theorem rd_set1 {dv wv kv : Value} (S : Sep w (rdB r D dv wv kv :: R)) (v : Value) : Sep (w.setCell ⟨r, 1, none⟩ v) (rdB r D dv v kv :: R) := S.blk_set 1 _
theorem rd_set0 {dv wv kv : Value} (S : Sep w (rdB r D dv wv kv :: R)) (v : Value) : Sep (w.setCell ⟨r, 0, none⟩ v) (rdB r D v wv kv :: R) := S.blk_set 0 _
theorem rd_set5 {dv wv kv : Value} (S : Sep w (rdB r D dv wv kv :: R)) (v : Value) : Sep (w.setCell ⟨r, 5, none⟩ v) (rdB r D dv wv v :: R) := S.blk_set 5 _
theorem rd_set3 {dv wv kv : Value} (S : Sep w (rdB r D dv wv kv :: R)) (n : Int) : Sep (w.setCell ⟨r, 3, none⟩ (.int .i64 n)) (rdB r { D with ops := n } dv wv kv :: R) := S.blk_set 3 _
theorem rd_set4 {dv wv kv : Value} (S : Sep w (rdB r D dv wv kv :: R)) (a : Option (Nat × List Bool)) (n : Int) (hn : n = leftOf { D with armed := a }) : Sep (w.setCell ⟨r, 4, none⟩ (.int .i64 n)) (rdB r { D with armed := a } dv wv kv :: R) := by
  subst hn
  exact S.blk_set 4 _
set_option maxHeartbeats 1600000 in
theorem rStart_sep (S : Sep w (rdA r D :: R)) :
    Calls Try.prog 34 #[.pointer (some ⟨r, 0, none⟩)] w fun e w' => e = .returned (.int .i64 (startE D)) ∧ Sep w' (rdA r D.start :: R) := by
  obtain ⟨dv, wv, kv, kp, h0, S1⟩ := S.rd_open
  obtain ⟨c0, c1, c2, c3, c4, c5⟩ := S1.rd
  have f2 := S1.blk_free 2
  have hlt := S1.blk_lt
  have S2 := rd_set2 S1 false
  have HS := Lib.hid S
  have HS2 := Lib.hid S2
  have H0 := Lib.hid h0
  clear S S1 S2 h0
  cases hd : D.down with
  | true =>
    have e1 : startE D = 0 := by simp [startE, hd]
    have e2 : D.start = { D with down := false } := if_pos hd
    rw [e1, e2]
    rw [hd] at c2
    clear e1 e2 hd
    go_enter Try.func34, Try.ntmps34
    go_wp2
    go_ret
    exact ⟨rfl, Sep.rd_shut (D := { D with down := false }) H0.out HS2.out⟩
  | false =>
    have e1 : startE D = 10 := by simp [startE, hd]
    have e2 : D.start = D := if_neg (by simp [hd])
    rw [e1, e2]
    rw [hd] at c2
    clear e1 e2 hd
    go_enter Try.func34, Try.ntmps34
    go_wp2
    go_ret
    exact ⟨rfl, HS.out⟩
/-- What is handed over to keep. -/
def HoldsB (K : Asn) (ka : Option Addr) (kc : Nat) (keep : List Bool) : Prop := ∀ w R, Sep w (K :: R) → BoolsAt w ka keep ∧ (ka = none → kc = 0)
theorem holds_boolsA (ka : Option Addr) (kc : Nat) (l : List Bool) : HoldsB (boolsA (.slice ka l.length kc) l) ka kc l := fun w R S => by
  obtain ⟨a, cap, e, h1, h2⟩ := S.own_slice
  cases e
  refine ⟨fun i hi => ?_, h2⟩
  obtain ⟨g, rfl, hc, _⟩ := S.own_at (by omega)
  refine ⟨g, 0, rfl, ?_⟩
  rw [Nat.zero_add, hc i (by omega)]
  simp [List.getD, hi]
theorem holds_old {w0 : World} {ka : Option Addr} {kc : Nat} {keep : List Bool} (hA : BoolsAt w0 ka keep) (hn : ka = none → kc = 0) : HoldsB (oldA w0) ka kc keep := fun w R S => by
  refine ⟨fun i hi => ?_, hn⟩
  obtain ⟨b, o, e, h⟩ := hA i hi
  exact ⟨b, o, e, (S.old.cell (p := ⟨b, o + i, none⟩) (World.block_lt_of_cell? _ _ h)).trans h⟩
/-- The sectors behind the first k writes. -/
def crN (keep : List Bool) (D : Dk) (k : Nat) : List (List UInt8) := Dk.keepFrom keep 0 (D.waits.take k) D.secs
theorem crN_len (keep : List Bool) (D : Dk) (k : Nat) : (crN keep D k).length = D.secs.length := Dk.keepFrom_len _ _ _ _
theorem crN_end (keep : List Bool) (D : Dk) : ∀ m k, D.waits.length ≤ k + m → k ≤ D.waits.length → keep.length ≤ k → crN keep D k = crN keep D D.waits.length
  | 0, k, h1, h2, _ => by rw [show k = D.waits.length by omega]
  | m + 1, k, h1, h2, h3 => by
    by_cases hk : k < D.waits.length
    · have e : crN keep D (k + 1) = crN keep D k := by
        unfold crN
        rw [Dk.keepFrom_take keep D.waits k hk, if_neg (by simp [List.getD, show keep.length ≤ k from h3])]
      rw [← e]
      exact crN_end keep D m (k + 1) (by omega) (by omega) (by omega)
    · rw [show k = D.waits.length by omega]
set_option maxRecDepth 20000 in
set_option maxHeartbeats 8000000 in
theorem rCrash_parts {K : Asn} {dv wv kv : Value} {ka : Option Addr} {kc : Nat} {keep : List Bool} (S : Sep w (rdB r D dv wv kv :: strsA dv D.secs :: wtsA wv D.waits :: K :: R)) (hK : HoldsB K ka kc keep) (ok : D.Ok) (hkn : keep.length ≤ 1000000) (hwn : D.waits.length ≤ 100000) (hsn : D.secs.length ≤ 4096) :
    Calls Try.prog 33 #[.pointer (some ⟨r, 0, none⟩), .slice ka keep.length kc] w fun e w' => e = .returned (.tuple #[]) ∧
      Sep w' (rdB r (D.crash keep) dv (.slice none 0 0) kv :: strsA dv (D.crash keep).secs :: wtsA (.slice none 0 0) [] :: K :: R) := by
  obtain ⟨da, dc, hdv, _⟩ := S.up1.own_slice
  subst hdv
  obtain ⟨wa, wc, hwv, _⟩ := S.up2.own_slice
  subst hwv
  obtain ⟨kn, hkn'⟩ : ∃ kn, kn = keep.length := ⟨_, rfl⟩
  obtain ⟨wn, hwn'⟩ : ∃ wn, wn = D.waits.length := ⟨_, rfl⟩
  obtain ⟨sn, hsn'⟩ : ∃ sn, sn = D.secs.length := ⟨_, rfl⟩
  rw [← hkn'] at hkn ⊢
  rw [← hwn'] at hwn
  rw [← hsn'] at hsn
  have hkb : (kn : Int) ≤ 1000000 := by omega
  have hwb : (wn : Int) ≤ 100000 := by omega
  have hsb : (sn : Int) ≤ 4096 := by omega
  have HS := Lib.hid S
  have HK := Lib.hid hK
  have HOK := Lib.hid ok
  have HKN := Lib.hid hkn'
  have HWN := Lib.hid hwn'
  have HSN := Lib.hid hsn'
  clear S hK ok hkn' hwn' hsn' hkn hwn hsn
  have HS0 : Hid (Sep w (rdB r D (.slice da sn dc) (.slice wa wn wc) kv :: ownA 9 1 (.slice da sn dc) sn ((crN keep D 0).map strV) :: wtsA (.slice wa wn wc) D.waits :: K :: R)) := by
    have h := HS.out
    unfold strsA at h
    rw [← HWN.out, ← HSN.out] at h
    exact Lib.hid h
  go_enter Try.func33, Try.ntmps33
  go_wp2
  go_loopw [4] (fun i wr => ∃ k : Nat, k ≤ wn ∧ k ≤ kn ∧ i = .int .i64 (k : Int) ∧ Sep wr (rdB r D (.slice da sn dc) (.slice wa wn wc) kv :: ownA 9 1 (.slice da sn dc) sn ((crN keep D k).map strV) :: wtsA (.slice wa wn wc) D.waits :: K :: R)) (fun i _ => wn - (intOf i).toNat)
  case atStart => exact ⟨0, Nat.zero_le _, Nat.zero_le _, rfl, HS0.out⟩
  case round =>
    obtain ⟨k, hk, hk2, rfl, Sr⟩ := hrel
    obtain ⟨c0, c1, c2, c3, c4, c5⟩ := Sr.rd
    have hk0 : (0 : Int) ≤ (k : Int) := by omega
    by_cases hlt : k < wn ∧ k < kn
    · obtain ⟨hlt1, hlt2⟩ := hlt
      have hl1 : (k : Int) < (wn : Int) := by omega
      have hl2 : (k : Int) < (kn : Int) := by omega
      obtain ⟨kb, ko, rfl, hkc⟩ := (HK.out wr _ Sr.up3).1 k (by rw [← HKN.out]; exact hlt2)
      obtain ⟨gw, rfl, h1, h2⟩ := Sr.up2.wts_at HWN.out k (by rw [← HWN.out]; exact hlt1)
      obtain ⟨x, hx⟩ : ∃ x, x = D.waits.getD k (0, []) := ⟨_, rfl⟩
      rw [← hx] at h1 h2
      have hxs : x.1 < sn := by
        have hm : x ∈ D.waits := by rw [hx]; have : k < D.waits.length := by rw [← HWN.out]; exact hlt1
                                    simp [List.getD, this]
        rw [HSN.out]
        exact (HOK.out.waits x hm).2
      have hx0 : (0 : Int) ≤ (x.1 : Int) := by omega
      have hx1 : (x.1 : Int) < (sn : Int) := by omega
      obtain ⟨gd, rfl, hdc, hdf⟩ := Sr.up1.own_at (by omega)
      have hdc1 := hdc x.1 (by omega)
      have hdl : x.1 < (crN keep D k).length := by rw [crN_len, ← HSN.out]; exact hxs
      rw [show ((crN keep D k).map strV)[x.1]? = some (strV ((crN keep D k).getD x.1 [])) by simp [List.getD, hdl]] at hdc1
      have hdf1 := hdf x.1
      have hst : crN keep D (k + 1) = if keep.getD k false then (crN keep D k).set x.1 x.2 else crN keep D k := by
        unfold crN; rw [Dk.keepFrom_take keep D.waits k (by rw [← HWN.out]; exact hlt1), hx]
      have HST := Lib.hid hst
      have HSr := Lib.hid Sr
      clear hst hx hdf hxs hdc hdl
      cases hb : keep.getD k false with
      | false =>
        rw [hb] at hkc
        have HB := Lib.hid hb
        clear hb Sr
        go_wp2
        go_roundw
        case rel => exact ⟨k + 1, by omega, by omega, by go_num, by rw [HST.out, HB.out, if_neg (by simp)]; exact HSr.out⟩
        case measure => simp [intOf]; omega
      | true =>
        rw [hb] at hkc
        have HB := Lib.hid hb
        obtain ⟨sx, hsx⟩ : ∃ sx : ByteArray, strV x.2 = .string sx := ⟨_, rfl⟩
        rw [hsx] at h2
        have S2 := Sr.up1.own_set x.1 (.string sx)
        rw [← hsx] at S2
        have HSX := Lib.hid hsx
        have HS2 := Lib.hid S2
        clear hb Sr S2 hsx
        go_wp2_with fail
        go_region
        all_goals
          go_wp2
          go_roundw
          case rel =>
            refine ⟨k + 1, by omega, by omega, by go_num, ?_⟩
            rw [HST.out, HB.out, if_pos rfl]
            rw [List.map_set, ← HSX.out]
            exact HS2.out.drew.up1
          case measure => simp [intOf]; omega
    · have hend : crN keep D k = (D.crash keep).secs := by
        show _ = Dk.keepFrom keep 0 D.waits D.secs
        have e : crN keep D D.waits.length = Dk.keepFrom keep 0 D.waits D.secs := by unfold crN; rw [List.take_length]
        rw [← e]
        by_cases h1 : k < wn
        · exact crN_end keep D (D.waits.length) k (by omega) (by rw [← HWN.out]; exact hk) (by rw [← HKN.out]; omega)
        · rw [show k = D.waits.length by rw [← HWN.out]; omega]
      have hend2 : ownA 9 1 (.slice da sn dc) sn ((crN keep D k).map strV) = strsA (.slice da sn dc) (D.crash keep).secs := by
        rw [hend]
        unfold strsA
        rw [show (D.crash keep).secs.length = sn by rw [HSN.out]; exact Dk.keepFrom_len _ _ _ _]
      rw [hend2] at Sr
      have f1 := Sr.blk_free 1
      have f2 := Sr.blk_free 2
      have f4 := Sr.blk_free 4
      have S3 := (((rd_set4 (rd_set2 (rd_set1 Sr (.slice none 0 0)) true) none (-1) rfl).up2.drop).nilOwn 83 2)
      have HS3 := Lib.hid (S3.pick [1, 2, 0] 3 (by decide) rfl)
      clear Sr S3 hend hend2
      by_cases h1 : k < wn
      · have hl1 : (k : Int) < (wn : Int) := by omega
        have hl2 : ¬ (k : Int) < (kn : Int) := by omega
        clear hlt
        go_wp2
        go_end0
        rw [← HSN.out]
        exact ⟨rfl, HS3.out⟩
      · have hl1 : ¬ (k : Int) < (wn : Int) := by omega
        clear hlt
        go_wp2
        go_end0
        rw [← HSN.out]
        exact ⟨rfl, HS3.out⟩
end
end Go.Proofs.Ytgicpialopccpaa
