/- The walk of a law on sums. -/
import Derived.Test.YtmfghlblpebedaaCrcS
import Derived.BigRegion
import Derived.RegionTactic
import Derived.Deep.RegionHeld3
namespace Go.Proofs.Ytmfghlblpebedaa
open Go.RowKit Crc

set_option maxHeartbeats 400000 in
theorem CrcMixes_walk (a b c : Option Addr) (capa capb capc : Nat) (la lb lc : List UInt8) (w : World) (hA : BytesAt w a la) (hB : BytesAt w b lb) (hC : BytesAt w c lc) (hla : la.length ≤ capa) (hlb : lb.length ≤ capb) (hlc : lc.length ≤ capc) :
    Calls Try.prog 6 #[.slice a la.length capa, .slice b lb.length capb, .slice c lc.length capc] w fun e w' => e = .returned (.bool true) ∧ Below w.heap.size w w' := by
  obtain ⟨n, hn⟩ : ∃ n, n = min (min (min la.length lb.length) lc.length) 500 := ⟨_, rfl⟩
  have hmn := fun W => run_min4 (P := Try.prog) #[3, 3, 3, 3] 3 .i64 la.length lb.length lc.length 500 n 500 rfl hn W
  have hna : n ≤ la.length := by omega
  have hnb : n ≤ lb.length := by omega
  have hnc : n ≤ lc.length := by omega
  have hn5 : n ≤ 500 := by omega
  clear hn
  go_enter Try.func6, Try.ntmps6
  go_wp2_with fail
  refine (shown_calls _).mono ?_
  rintro e w1 ⟨rfl, hb1⟩
  go_wp2_with (at_make; refine wpList_make_bytes w1 rfl _ _ rfl .i64 .i64 _ _ n rfl rfl rfl rfl (by omega) ?mk)
  case mk =>
  intro w2 hown hb2
  clear hmn
  go_wp2
  go_loopw [10] (fun i wr => ∃ (k : Nat) (xl : List UInt8), k ≤ n ∧ i = .int .i64 k ∧ OwnsB wr w1.heap.size (.slice (some ⟨w1.heap.size, 0, none⟩) n n) n xl ∧ Below w1.heap.size w1 wr ∧ Hid (∀ i, i < k → xl.getD i 0 = la.getD i 0 ^^^ lb.getD i 0 ^^^ lc.getD i 0)) (fun i _ => n - (intOf i).toNat)
  case atStart => exact ⟨0, _, Nat.zero_le _, rfl, hown, hb2, Lib.hid (fun i hi => absurd hi (Nat.not_lt_zero i))⟩
  case round =>
    obtain ⟨k, xl, hk, rfl, hown, hbel, Hr⟩ := hrel
    by_cases hlt : k < n
    · obtain ⟨ba, oa, rfl, hca⟩ := hA k (by omega)
      obtain ⟨bb, ob, rfl, hcb⟩ := hB k (by omega)
      obtain ⟨bc, oc, rfl, hcc⟩ := hC k (by omega)
      have hbw := hb1.trans (hbel.mono hb1.size)
      have hca := (hbw.cell (p := ⟨ba, oa + k, none⟩) (World.block_lt_of_cell? _ _ hca)).trans hca
      have hcb := (hbw.cell (p := ⟨bb, ob + k, none⟩) (World.block_lt_of_cell? _ _ hcb)).trans hcb
      have hcc := (hbw.cell (p := ⟨bc, oc + k, none⟩) (World.block_lt_of_cell? _ _ hcc)).trans hcc
      obtain ⟨x1, hx1⟩ : ∃ x, x = la.getD k 0 := ⟨_, rfl⟩
      obtain ⟨x2, hx2⟩ : ∃ x, x = lb.getD k 0 := ⟨_, rfl⟩
      obtain ⟨x3, hx3⟩ : ∃ x, x = lc.getD k 0 := ⟨_, rfl⟩
      rw [← hx1] at hca
      rw [← hx2] at hcb
      rw [← hx3] at hcc
      obtain ⟨_, e, _, _, hgc, hgf⟩ := hown.at (by omega)
      cases e
      have hgk := hgc k hlt
      have hfk := hgf k
      have hnew : ∀ i, i < k + 1 → (xl.set k (x1 ^^^ x2 ^^^ x3)).getD i 0 = la.getD i 0 ^^^ lb.getD i 0 ^^^ lc.getD i 0 := by
        intro i hi
        have hxl := hown.len
        by_cases hik : i = k
        · subst hik
          rw [← hx1, ← hx2, ← hx3]
          simp [List.getD, show i < xl.length by omega]
        · rw [← Hr.out i (by omega)]
          simp [List.getD, Ne.symm hik]
      have Hnew := Lib.hid hnew
      have ex := xor_u8' x1 x2
      have ey := xor_u8' (x1 ^^^ x2) x3
      clear hgc hgf hA hB hC hnew hx1 hx2 hx3 Hr
      generalize x1 ^^^ x2 ^^^ x3 = z at *
      generalize x1 ^^^ x2 = y at *
      have hown' := hown.set k z
      have hbel' := hbel.setCell (p := ⟨w1.heap.size, k, none⟩) (Nat.le_refl _) (.int .u8 z.toNat)
      clear hbel
      go_wp2
      go_region
      go_wp2
      go_roundw
      case rel => exact ⟨k + 1, _, by omega, by go_num, hown', hbel'.drew, Hnew⟩
      case measure => simp [intOf]; omega
    · have ek : k = n := by omega
      subst ek
      have hG := hown.reads
      have hxl := hown.len
      have hbw := hb1.trans (hbel.mono hb1.size)
      have hAr := (hA.below hbw).take k
      have hBr := (hB.below hbw).take k
      have hCr := (hC.below hbw).take k
      have hla' : (la.take k).length = k := by rw [List.length_take]; omega
      have hlb' : (lb.take k).length = k := by rw [List.length_take]; omega
      have hlc' : (lc.take k).length = k := by rw [List.length_take]; omega
      have hmix : (num (more 0#32 xl) == num (more 0#32 (la.take k) ^^^ more 0#32 (lb.take k) ^^^ more 0#32 (lc.take k))) = true := by
        rw [num_beq, beq_iff_eq]
        have e : xl = List.zipWith (· ^^^ ·) (List.zipWith (· ^^^ ·) (la.take k) (lb.take k)) (lc.take k) := by
          apply List.ext_getElem
          · simp; omega
          · intro i h1 h2
            have := Hr.out i (by omega)
            simp [List.getD, show i < xl.length by omega, show i < la.length by omega, show i < lb.length by omega, show i < lc.length by omega] at this
            simp [this]
        exact more_mix _ _ _ _ e (by omega) (by omega)
      generalize la.take k = pa at *
      generalize lb.take k = pb at *
      generalize lc.take k = pc at *
      have Hxl := Lib.hid hxl
      have Ha := Lib.hid hla'
      have Hb := Lib.hid hlb'
      have Hc := Lib.hid hlc'
      clear hxl hla' hlb' hlc' Hr hA hB hC
      have e1 := bits_xor_u32 (more 0#32 pa) (more 0#32 pb)
      have e2 := bits_xor_u32 (more 0#32 pa ^^^ more 0#32 pb) (more 0#32 pc)
      have i0 : (0 : Int) ≤ (k : Int) := by omega
      have ia : (k : Int) ≤ (capa : Int) := by omega
      have ib : (k : Int) ≤ (capb : Int) := by omega
      have ic : (k : Int) ≤ (capc : Int) := by omega
      go_wp2_with fail
      go_region_held3 (fun w' => Below wr.heap.size wr w') (first | assumption | exact (Below.refl _ _).drew | exact bgo (by assumption) (by assumption)) (first | (go_at_call_of 10 w1.heap.size; refine (sum_calls _ k _ xl _ Hxl.out.symm (by have := Hxl.out; omega) (hG.below (by assumption))).mono ?_; rintro e w9 ⟨rfl, hb9⟩) | (go_at_call_of 10 a; refine (sum_calls _ k _ pa _ Ha.out.symm (by have := Ha.out; omega) (hAr.below (by assumption))).mono ?_; rintro e w9 ⟨rfl, hb9⟩) | (go_at_call_of 10 b; refine (sum_calls _ k _ pb _ Hb.out.symm (by have := Hb.out; omega) (hBr.below (by assumption))).mono ?_; rintro e w9 ⟨rfl, hb9⟩) | (go_at_call_of 10 c; refine (sum_calls _ k _ pc _ Hc.out.symm (by have := Hc.out; omega) (hCr.below (by assumption))).mono ?_; rintro e w9 ⟨rfl, hb9⟩))
      have hheld : Below wr.heap.size wr w9 := by assumption
      go_wp2
      go_ret
      exact ⟨rfl, bgo hbw hheld⟩
end Go.Proofs.Ytmfghlblpebedaa
