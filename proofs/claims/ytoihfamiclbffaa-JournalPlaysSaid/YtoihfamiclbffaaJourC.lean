/- Bytes, from the last on: what slices.Backward hands out. -/
import Derived.Test.YtoihfamiclbffaaLib
import Derived.RangeFuncNested
import Derived.RangeFuncBound
import Derived.RangeFuncCalls
import Derived.RangeFuncLeaves
import Derived.Shelf.Abstract
import Derived.WalkKit
import Derived.OwnWalkIn
import Derived.TacticsInMore
import Derived.LoopNIn
import Derived.LoopIn
import Derived.Laws.CopyOwn
namespace Go.Proofs.Ytoihfamiclbffaa
open Go.RowKit Go.Shelf
attribute [local go_sem] Oper.semAt_some

/-- What has come when k rounds are over. -/
def bcame (m k : Nat) : List (Fin m) := (List.finRange m).reverse.take k
/-- What lay below n₀ stands, and the iterator's own box. -/
def KeepsBox (n₀ Bs : Nat) (W W' : World) : Prop := Below n₀ W W' ∧ W'.heap[Bs]? = W.heap[Bs]?
theorem KeepsBox.refl (n₀ Bs : Nat) (W : World) : KeepsBox n₀ Bs W W := ⟨Below.refl _ _, rfl⟩
theorem KeepsBox.trans {n₀ Bs : Nat} {A B C : World} (h : KeepsBox n₀ Bs A B) (k : KeepsBox n₀ Bs B C) : KeepsBox n₀ Bs A C := ⟨h.1.trans k.1, k.2.trans h.2⟩
theorem keepsBox_b {n₀ Bs : Nat} {w : World} (hn : n₀ ≤ w.heap.size) (hB : Bs < w.heap.size) (W : World) (l : Nat) (o o' : Obj) (hl : w.heap.size ≤ l) (h : W.heap[l]? = some o) (h1 : o.isCells = false) (h2 : o.isWalk = false) : KeepsBox n₀ Bs W (W.putObj l o') :=
  ⟨belowK_b hn W l o o' hl h h1 h2, (grownBy_putObj' W l o').block Bs (by have := (Array.getElem?_eq_some_iff.1 h).1; omega) (fun e => by cases e; omega)⟩
theorem bcame_len {m k : Nat} (h : k ≤ m) : (bcame m k).length = k := by simp [bcame]; omega
theorem bcame_succ {m k : Nat} (h : k < m) (r : Nat) (hrm : r < m) (hr : r = m - 1 - k) : bcame m (k + 1) = bcame m k ++ [⟨r, hrm⟩] := by
  unfold bcame
  rw [List.take_succ_eq_append_getElem (by simpa using h)]
  congr 1
  simp [hr]

set_option maxRecDepth 100000 in
set_option maxHeartbeats 2000000 in
theorem bbackward1_in (F : Fence) (n : Nat) (h7 : F.fn 61) (hro : F.round = none) (hn : 1 ≤ n) (l Bs n₀ m cap : Nat) (a : Option Addr) (dv : Fin m → UInt8)
    (J Jx : List (Fin m) → World → Prop) (hm : m ≤ 9223372036854775807)
    (hY : ∀ pre x W, J pre W → pre.length < m → YieldAt F (n - 1) Try.prog l #[.int .i64 ((x.1 : Nat) : Int), .int .u8 ((dv x).toNat : Int)] W fun e W' =>
      (e = .returned (.bool true) ∧ J (pre ++ [x]) W' ∧ KeepsBox n₀ Bs W W') ∨ (e = .returned (.bool false) ∧ Jx (pre ++ [x]) W'))
    (W : World) (hBs : W.cell? ⟨Bs, 0, none⟩ = some (.slice a m cap))
    (hc : ∀ x : Fin m, ∃ g o, a = some ⟨g, o, none⟩ ∧ g < n₀ ∧ W.cell? ⟨g, o + x.1, none⟩ = some (.int .u8 ((dv x).toNat : Int))) (h0 : J [] W) :
    CallsIn F n Try.prog 61 #[.func (.yield l) #[] #[], .pointer (some ⟨Bs, 0, none⟩)] W fun e W' => (∃ v, e = .returned v) ∧
      ((∃ ys, ys = bcame m m ∧ J ys W') ∨ (∃ pre, (∃ k, k ≤ m ∧ pre = bcame m k) ∧ Jx pre W')) := by
  refine callsIn_of_wp Try.func61 rfl h7 ?_ hro
  simp only [Try.ntmps61, List.size_toArray, List.length_cons, List.length_nil, Nat.reduceAdd, Nat.reduceSub, Array.replicate_succ, Array.replicate_zero, List.push_toArray, List.append_toArray, List.nil_append, List.cons_append]
  gi_wp2
  gi_loopw [3] (fun i wr => ∃ (k : Nat) (i0 : Int), k ≤ m ∧ i0 = (m : Int) - 1 - k ∧ i = .int .i64 i0 ∧ J (bcame m k) wr ∧ KeepsBox n₀ Bs W wr)
    (fun i _ => (intOf i + 1).toNat)
  case atStart => exact ⟨0, _, Nat.zero_le _, rfl, by go_num, h0, KeepsBox.refl _ _ _⟩
  case round =>
    obtain ⟨k, i0, hk, hi0, rfl, hJs, hnx⟩ := hrel
    have hBr : wr.cell? ⟨Bs, 0, none⟩ = some (.slice a m cap) := (World.cell?_of_block (w := W) hnx.2).trans hBs
    by_cases hlt : k < m
    · obtain ⟨r, hr⟩ : ∃ r : Nat, r = m - 1 - k := ⟨_, rfl⟩
      have hi1 : i0 = (r : Int) := by omega
      subst hi1
      have hrm : r < m := by omega
      have hrk : (r : Int) - 1 = (m : Int) - 1 - ((k + 1 : Nat) : Int) := by omega
      have Hrk := Lib.hid hrk
      clear hrk
      obtain ⟨g, o, rfl, hg, c1⟩ := hc ⟨r, hrm⟩
      have c1' := (hnx.1.cell (p := ⟨g, o + r, none⟩) hg).trans c1
      obtain ⟨fn, tmps, assign, body, hy, hR⟩ := hY _ ⟨r, hrm⟩ wr hJs (by rw [bcame_len hk]; exact hlt)
      have hcs := bcame_succ hlt r hrm hr
      dsimp only at hy
      obtain ⟨v, hv⟩ : ∃ v, v = dv ⟨r, hrm⟩ := ⟨_, rfl⟩
      rw [← hv] at hy c1'
      have hge : (0 : Int) ≤ (r : Int) := by omega
      have hrl : (r : Int) < (m : Int) := by omega
      clear hc c1 hv hr hi0
      gi_wp2
      refine hR.mono ?_
      rintro e W3 (⟨rfl, hJ3, hk3⟩ | ⟨rfl, hJx3⟩)
      · gi_wp2
        go_roundw
        case rel => exact ⟨k + 1, (r : Int) - 1, by omega, Hrk.out, by go_num, by rw [hcs]; exact hJ3, hnx.trans hk3⟩
        case measure => simp [intOf]
      · gi_wp2
        refine bodyPost_ret (results_none rfl _ _ _) rfl ?_
        exact ⟨⟨_, rfl⟩, .inr ⟨_, ⟨k + 1, by omega, hcs.symm⟩, hJx3⟩⟩
    · obtain rfl : k = m := by omega
      obtain rfl : i0 = -1 := by omega
      gi_wp2
      go_end0
      exact ⟨⟨_, rfl⟩, .inl ⟨_, rfl, hJs⟩⟩

set_option maxHeartbeats 1000000 in
theorem bbackward_in (F : Fence) (n : Nat) (h5 : F.fn 56) (hro : F.round = none) (a : Option Addr) (len cap : Nat) (w : World) :
    CallsIn F n Try.prog 56 #[.slice a len cap] w fun e w' => e = .returned (.func (.func 61) #[] #[.pointer (some ⟨w.heap.size, 0, none⟩)]) ∧ w' = w.alloc (.cells #[.slice a len cap] 33) := by
  refine callsIn_of_wp Try.func56 rfl h5 ?_ hro
  simp only [Try.ntmps56, List.size_toArray, List.length_cons, List.length_nil, Nat.reduceAdd, Nat.reduceSub, Array.replicate_succ, Array.replicate_zero, List.push_toArray, List.append_toArray, List.nil_append, List.cons_append]
  gi_wp2
  go_ret
  exact ⟨rfl, rfl⟩

theorem bbackward_stops (F : Fence) (n : Nat) (h7 : F.fn 61) (hro : F.round = none) (hn : 1 ≤ n) (Bs n₀ m cap : Nat) (a : Option Addr) (dv : Fin m → UInt8) (w : World) (hBs0 : Bs < w.heap.size) (hn₀ : n₀ ≤ w.heap.size) (hm : m ≤ 9223372036854775807)
    (hBs : w.cell? ⟨Bs, 0, none⟩ = some (.slice a m cap))
    (hc : ∀ x : Fin m, ∃ g o, a = some ⟨g, o, none⟩ ∧ g < n₀ ∧ w.cell? ⟨g, o + x.1, none⟩ = some (.int .u8 ((dv x).toNat : Int))) :
    SeqStopsK F n Try.prog 61 #[.pointer (some ⟨Bs, 0, none⟩)] (fun x : Fin m => #[Value.int .i64 ((x.1 : Nat) : Int), .int .u8 ((dv x).toNat : Int)]) (KeepsBox n₀ Bs)
      (fun ys => ys = bcame m m) (fun pre => ∃ k, k ≤ m ∧ pre = bcame m k) m w := fun l J Jx W hW _ _ hY h0 =>
  bbackward1_in F n h7 hro hn l Bs n₀ m cap a dv J Jx hm hY W ((hW.cell (p := ⟨Bs, 0, none⟩) hBs0).trans hBs)
    (fun x => by
      obtain ⟨g, o, e, hg, c1⟩ := hc x
      exact ⟨g, o, e, hg, (hW.cell (p := ⟨g, o + x.1, none⟩) (Nat.lt_of_lt_of_le hg hn₀)).trans c1⟩) h0
end Go.Proofs.Ytoihfamiclbffaa
