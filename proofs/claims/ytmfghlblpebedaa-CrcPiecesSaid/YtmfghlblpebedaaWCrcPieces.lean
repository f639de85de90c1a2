/- The walk of a law on sums. -/
import Derived.Test.YtmfghlblpebedaaCrcS
import Derived.BigRegion
import Derived.RegionTactic
namespace Go.Proofs.Ytmfghlblpebedaa
open Go.RowKit Crc

def cat (L : List (List UInt8)) (k : Nat) : List UInt8 := ((L.take k).map (·.take 200)).flatten
theorem cat_zero (L : List (List UInt8)) : cat L 0 = [] := rfl
theorem cat_succ (L : List (List UInt8)) (k : Nat) (h : k < L.length) : cat L (k + 1) = cat L k ++ (L.getD k []).take 200 := by
  unfold cat
  rw [List.take_succ_eq_append_getElem h, List.map_append, List.flatten_append]
  simp [List.getD, h]
theorem cat_len (L : List (List UInt8)) (k : Nat) : (cat L k).length ≤ 200 * k := by
  induction k with
  | zero => simp [cat_zero]
  | succ k ih =>
    by_cases h : k < L.length
    · rw [cat_succ L k h, List.length_append, List.length_take]; omega
    · have : cat L (k + 1) = cat L k := by unfold cat; rw [List.take_of_length_le (by omega), List.take_of_length_le (by omega)]
      rw [this]; omega

set_option maxHeartbeats 400000 in
theorem CrcPieces_walk (a : Option Addr) (cap : Nat) (L : List (List UInt8)) (w : World) (hA : RowsAt w a L) (_hl : L.length ≤ 9223372036854775807) :
    Calls Try.prog 4 #[.slice a L.length cap] w fun e w' => e = .returned (.bool true) ∧ Below w.heap.size w w' := by
  go_enter Try.func4, Try.ntmps4
  go_wp2_with fail
  refine (shown_calls _).mono ?_
  rintro e w1 ⟨rfl, hb1⟩
  go_wp2_with fail
  refine (sum_calls _ 0 _ [] _ rfl (by decide) (BytesAt.nil _ _)).mono ?_
  rintro e w2 ⟨rfl, hb2⟩
  go_wp2
  have hb2' := bgo hb1 hb2
  go_loopw [4, 5, 6] (fun s v i wr => ∃ (k n cap' : Nat) (g : Option Addr), k ≤ L.length ∧ k ≤ 30 ∧ i = .int .i64 k ∧ s = .int .u32 (num (more 0#32 (cat L k))) ∧ v = .slice g n cap' ∧ OwnsB wr w2.heap.size v n (cat L k) ∧ Below w2.heap.size w2 wr) (fun _ _ i _ => 30 - (intOf i).toNat)
  case atStart => exact ⟨0, 0, 0, _, Nat.zero_le _, by omega, rfl, by rw [cat_zero], rfl, OwnsB.empty _, (Below.refl _ _).alloc (Nat.le_refl _) _⟩
  case round =>
    obtain ⟨k, n, cap', g, hkl, hk, rfl, rfl, rfl, hown, hbel⟩ := hrel
    have hlen := hown.len
    have hcl := cat_len L k
    have hbw := hb2'.trans (hbel.mono hb2'.size)
    by_cases hlt : k < L.length ∧ k < 30
    · obtain ⟨hlt, hlt30⟩ := hlt
      obtain ⟨b, o, ai, ci, rfl, hc, hp, hpc, hpn⟩ := hA k hlt
      have hcr := (hbw.cell (p := ⟨b, o + k, none⟩) (World.block_lt_of_cell? _ _ hc)).trans hc
      have hpr := hp.below hbw
      obtain ⟨p, hpp⟩ : ∃ p, p = L.getD k [] := ⟨_, rfl⟩
      have hcat := cat_succ L k hlt
      rw [← hpp] at hcr hpr hpc hcat
      obtain ⟨m, hm⟩ : ∃ m, m = min p.length 200 := ⟨_, rfl⟩
      have hmin : (if (200 : Int) < (p.length : Int) then (200 : Int) else (p.length : Int)) = (m : Int) := by rw [hm]; split <;> omega
      have hmt : (p.take 200).length = m := by rw [List.length_take]; omega
      have hm2 : m ≤ 200 := by omega
      have hmc : m ≤ ci := by omega
      have i0 : (0 : Int) ≤ (m : Int) := by omega
      have ia : (m : Int) ≤ (ci : Int) := by omega
      have Hcat := Lib.hid hcat
      have Hmt := Lib.hid hmt
      have Hlen := Lib.hid hlen
      clear hA hc hp hpp hm hmt hlen hcat
      go_wp2
      go_region
      go_wp2_with fail
      have hpt : BytesAt wr.drew ai (p.take 200) := hpr.take 200
      refine (more_at _ (more 0#32 (cat L k)) _ m _ (p.take 200) _ rfl Hmt.out (by have := Hmt.out; omega) hpt).mono ?_
      rintro e w4 ⟨rfl, hb4⟩
      have hb4' : Below wr.heap.size wr w4 := (Below.refl wr.heap.size wr).drew.trans hb4
      rw [more_append, ← Hcat.out]
      have hown4 := hown.below hb4'
      have hpt4 := hpt.below hb4
      clear hown hpt hpr hcr
      go_wp2_with (at_builtin; refine wpList_append_bytes rfl (.tmp 35) (.tmp 36) rfl w2.heap.size _ n (cat L k) rfl hown4 ai m ci (p.take 200) rfl hpn hpt4 Hmt.out (by have := Hlen.out; omega) (by have := hbel.size; have := hb4'.size; omega) ?next)
      case next =>
      intro g' cap2 w5 hown5 hgrow _ _
      rw [← Hcat.out] at hown5
      have hb5 : Below w2.heap.size w4 w5 := (Below.refl _ _).grown hgrow (by have := hbel.size; have := hb4'.size; omega) (fun k h => (World.ownsRow.lt hown4 k h).1)
      have hbel5 := (hbel.trans (hb4'.mono hbel.size)).trans hb5
      clear hown4 hgrow hb4 hb4' hbel hb5 hpt4
      go_wp2
      go_roundw
      case rel => exact ⟨k + 1, _, _, _, by omega, by omega, by go_num, rfl, rfl, hown5, hbel5⟩
      case measure => simp [intOf]; omega
    · have hdec : k = L.length ∨ k = 30 := by omega
      have hG := hown.reads
      have Hlen := Lib.hid hlen
      clear hlen
      rcases hdec with h | h
      all_goals
        first
          | (have hnlt : ¬ k < L.length := by omega
             clear h
             go_wp2_with fail)
          | (subst h
             go_wp2_with fail)
      all_goals
        refine (sum_calls _ n _ _ _ Hlen.out.symm (by have := Hlen.out; omega) hG).mono ?_
        rintro e w8 ⟨rfl, hb8⟩
        go_wp2_with fail
        go_ret
        exact ⟨rfl, bgo hbw hb8⟩
end Go.Proofs.Ytmfghlblpebedaa
