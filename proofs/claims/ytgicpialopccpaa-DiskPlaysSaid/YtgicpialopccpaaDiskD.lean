/- The waiting writes, from the last on: what slices.Backward hands out. -/
import Derived.Test.YtgicpialopccpaaDiskC
import Derived.RangeFuncNested
import Derived.RangeFuncBound
import Derived.RangeFuncCalls
import Derived.RangeFuncLeaves
import Derived.Shelf.Abstract
import Derived.WalkKit
import Derived.OwnWalkIn
import Derived.TacticsInMore
import Derived.LoopNIn
import Derived.LoopIn
import Derived.Laws.CopyOwn
namespace Go.Proofs.Ytgicpialopccpaa
open Go.RowKit Go.Shelf
attribute [local go_sem] Oper.semAt_some

/-- What has come when k rounds are over. -/
def came (m k : Nat) : List (Fin m) := (List.finRange m).reverse.take k
theorem came_len {m k : Nat} (h : k ≤ m) : (came m k).length = k := by simp [came]; omega
theorem came_succ {m k : Nat} (h : k < m) (r : Nat) (hrm : r < m) (hr : r = m - 1 - k) : came m (k + 1) = came m k ++ [⟨r, hrm⟩] := by
  unfold came
  rw [List.take_succ_eq_append_getElem (by simpa using h)]
  congr 1
  simp [hr]

set_option maxRecDepth 100000 in
set_option maxHeartbeats 2000000 in
theorem backward1_in (F : Fence) (n : Nat) (h7 : F.fn 36) (hro : F.round = none) (hn : 1 ≤ n) (l Bs n₀ m cap : Nat) (a : Option Addr) (at_ : Fin m → Int) (dv : Fin m → Value)
    (J Jx : List (Fin m) → World → Prop) (hBs0 : Bs < n₀) (hm : m ≤ 9223372036854775807)
    (hY : ∀ pre x W, J pre W → pre.length < m → YieldAt F (n - 1) Try.prog l #[.int .i64 ((x.1 : Nat) : Int), .agg #[.int .i64 (at_ x), dv x]] W fun e W' =>
      (e = .returned (.bool true) ∧ J (pre ++ [x]) W' ∧ Below n₀ W W') ∨ (e = .returned (.bool false) ∧ Jx (pre ++ [x]) W'))
    (W : World) (hBs : W.cell? ⟨Bs, 0, none⟩ = some (.slice a m cap)) (hone : ∀ x, (dv x).oneCell' = true)
    (hc : ∀ x : Fin m, ∃ g, a = some ⟨g, 0, none⟩ ∧ g < n₀ ∧ W.cell? ⟨g, x.1 * 2, none⟩ = some (.int .i64 (at_ x)) ∧ W.cell? ⟨g, x.1 * 2 + 1, none⟩ = some (dv x)) (h0 : J [] W) :
    CallsIn F n Try.prog 36 #[.func (.yield l) #[] #[], .pointer (some ⟨Bs, 0, none⟩)] W fun e W' => (∃ v, e = .returned v) ∧
      ((∃ ys, ys = came m m ∧ J ys W') ∨ (∃ pre, (∃ k, k ≤ m ∧ pre = came m k) ∧ Jx pre W')) := by
  refine callsIn_of_wp Try.func36 rfl h7 ?_ hro
  simp only [Try.ntmps36, List.size_toArray, List.length_cons, List.length_nil, Nat.reduceAdd, Nat.reduceSub, Array.replicate_succ, Array.replicate_zero, List.push_toArray, List.append_toArray, List.nil_append, List.cons_append]
  gi_wp2
  gi_loopw [3] (fun i wr => ∃ (k : Nat) (i0 : Int), k ≤ m ∧ i0 = (m : Int) - 1 - k ∧ i = .int .i64 i0 ∧ J (came m k) wr ∧ Below n₀ W wr)
    (fun i _ => (intOf i + 1).toNat)
  case atStart => exact ⟨0, _, Nat.zero_le _, rfl, by go_num, h0, Below.refl _ _⟩
  case round =>
    obtain ⟨k, i0, hk, hi0, rfl, hJs, hnx⟩ := hrel
    have hBr : wr.cell? ⟨Bs, 0, none⟩ = some (.slice a m cap) := (hnx.cell (p := ⟨Bs, 0, none⟩) hBs0).trans hBs
    by_cases hlt : k < m
    · obtain ⟨r, hr⟩ : ∃ r : Nat, r = m - 1 - k := ⟨_, rfl⟩
      have hi1 : i0 = (r : Int) := by omega
      subst hi1
      have hrm : r < m := by omega
      have hrk : (r : Int) - 1 = (m : Int) - 1 - ((k + 1 : Nat) : Int) := by omega
      have Hrk := Lib.hid hrk
      clear hrk
      obtain ⟨g, rfl, hg, c1, c2⟩ := hc ⟨r, hrm⟩
      have c1' := (hnx.cell (p := ⟨g, r * 2, none⟩) hg).trans c1
      have c2' := (hnx.cell (p := ⟨g, r * 2 + 1, none⟩) hg).trans c2
      have ho := hone ⟨r, hrm⟩
      obtain ⟨fn, tmps, assign, body, hy, hR⟩ := hY _ ⟨r, hrm⟩ wr hJs (by rw [came_len hk]; exact hlt)
      have hcs := came_succ hlt r hrm hr
      dsimp only at hy
      obtain ⟨av, hav⟩ : ∃ av, av = at_ ⟨r, hrm⟩ := ⟨_, rfl⟩
      obtain ⟨v, hv⟩ : ∃ v, v = dv ⟨r, hrm⟩ := ⟨_, rfl⟩
      rw [← hav, ← hv] at hy
      rw [← hav] at c1'
      rw [← hv] at c2' ho
      have hge : (0 : Int) ≤ (r : Int) := by omega
      have hrl : (r : Int) < (m : Int) := by omega
      clear hc c1 c2 hav hv hr hi0
      gi_wp2
      refine hR.mono ?_
      rintro e W3 (⟨rfl, hJ3, hk3⟩ | ⟨rfl, hJx3⟩)
      · gi_wp2
        go_roundw
        case rel => exact ⟨k + 1, (r : Int) - 1, by omega, Hrk.out, by go_num, by rw [hcs]; exact hJ3, hnx.trans hk3⟩
        case measure => simp [intOf]
      · gi_wp2
        refine bodyPost_ret (results_none rfl _ _ _) rfl ?_
        exact ⟨⟨_, rfl⟩, .inr ⟨_, ⟨k + 1, by omega, hcs.symm⟩, hJx3⟩⟩
    · obtain rfl : k = m := by omega
      obtain rfl : i0 = -1 := by omega
      gi_wp2
      go_end0
      exact ⟨⟨_, rfl⟩, .inl ⟨_, rfl, hJs⟩⟩

set_option maxHeartbeats 1000000 in
theorem backward_in (F : Fence) (n : Nat) (h5 : F.fn 28) (hro : F.round = none) (a : Option Addr) (len cap : Nat) (w : World) :
    CallsIn F n Try.prog 28 #[.slice a len cap] w fun e w' => e = .returned (.func (.func 36) #[] #[.pointer (some ⟨w.heap.size, 0, none⟩)]) ∧ w' = w.alloc (.cells #[.slice a len cap] 62) := by
  refine callsIn_of_wp Try.func28 rfl h5 ?_ hro
  simp only [Try.ntmps28, List.size_toArray, List.length_cons, List.length_nil, Nat.reduceAdd, Nat.reduceSub, Array.replicate_succ, Array.replicate_zero, List.push_toArray, List.append_toArray, List.nil_append, List.cons_append]
  gi_wp2
  go_ret
  exact ⟨rfl, rfl⟩

theorem backward_stops (F : Fence) (n : Nat) (h7 : F.fn 36) (hro : F.round = none) (hn : 1 ≤ n) (Bs m cap : Nat) (a : Option Addr) (at_ : Fin m → Int) (dv : Fin m → Value) (w : World) (hBs0 : Bs < w.heap.size) (hm : m ≤ 9223372036854775807)
    (hBs : w.cell? ⟨Bs, 0, none⟩ = some (.slice a m cap)) (hone : ∀ x, (dv x).oneCell' = true)
    (hc : ∀ x : Fin m, ∃ g, a = some ⟨g, 0, none⟩ ∧ g < w.heap.size ∧ w.cell? ⟨g, x.1 * 2, none⟩ = some (.int .i64 (at_ x)) ∧ w.cell? ⟨g, x.1 * 2 + 1, none⟩ = some (dv x)) :
    SeqStopsK F n Try.prog 36 #[.pointer (some ⟨Bs, 0, none⟩)] (fun x : Fin m => #[Value.int .i64 ((x.1 : Nat) : Int), .agg #[.int .i64 (at_ x), dv x]]) (Below w.heap.size)
      (fun ys => ys = came m m) (fun pre => ∃ k, k ≤ m ∧ pre = came m k) m w := fun l J Jx W hW _ _ hY h0 =>
  backward1_in F n h7 hro hn l Bs w.heap.size m cap a at_ dv J Jx hBs0 hm hY W ((hW.cell (p := ⟨Bs, 0, none⟩) hBs0).trans hBs) hone
    (fun x => by
      obtain ⟨g, e, hg, c1, c2⟩ := hc x
      exact ⟨g, e, hg, (hW.cell (p := ⟨g, x.1 * 2, none⟩) hg).trans c1, (hW.cell (p := ⟨g, x.1 * 2 + 1, none⟩) hg).trans c2⟩) h0
end Go.Proofs.Ytgicpialopccpaa
