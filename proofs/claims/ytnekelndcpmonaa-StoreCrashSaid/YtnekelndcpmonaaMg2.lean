/- What Crash and begin come to. What begin comes to. The waiting writes, from the last on: what slices.Backward hands out. What Read comes to. What Read tells. What slices.Clone and append come to. -/
import Derived.Test.YtnekelndcpmonaaMg1
import Derived.BigRegion
import Derived.RegionTactic
import Derived.RangeFuncNested
import Derived.RangeFuncBound
import Derived.RangeFuncCalls
import Derived.RangeFuncLeaves
import Derived.Shelf.Abstract
import Derived.WalkKit
import Derived.OwnWalkIn
import Derived.TacticsInMore
import Derived.LoopNIn
import Derived.LoopIn
import Derived.Laws.CopyOwn
import Derived.BigRegionIn
import Derived.Deep.RegionHeld3
import Derived.Lib.LazyBuf
set_option linter.all false
namespace Go.Proofs.Ytnekelndcpmonaa
open Go.RowKit

/-- The disk when so many of the writes that wait have been looked at. -/
def part (D : Dk) (keep : List Bool) (k : Nat) : Dk := { D with secs := Dk.keepFrom keep 0 (D.waits.take k) D.secs }

set_option maxHeartbeats 400000 in
theorem crash_calls (w : World) (p : Nat) (D : Dk) (M : Nat → Prop) (ka : Option Addr) (kn kc : Nat) (keep : List Bool) (hD : DiskAt w p D M) (hK : KBools w M ka keep) (hn : keep.length = kn) (hkn : kn ≤ 9223372036854775807) :
    Calls Try.prog 27 #[.pointer (some ⟨p, 0, none⟩), .slice ka kn kc] w fun e w' => e = .returned (.tuple #[]) ∧ DiskAt w' p (D.crash keep) M ∧ Keeps M w w' := by
  obtain ⟨sb, scs, wv, dvs, av, h⟩ := hD
  obtain ⟨c0, c1, c2, c3, c4, hf⟩ := h.cells
  have hsl := h.hw.1
  obtain ⟨wa, wc, hwv, _⟩ := ownsRow_slice hsl
  subst hwv
  have hwl : D.waits.length ≤ 9223372036854775807 := by obtain ⟨a, c, e, h1, h2⟩ := ownsRow_slice hsl; unfold maxLen at h2; omega
  go_enter Try.func27, Try.ntmps27
  go_wp2
  go_loopw [11] (fun i wr => ∃ (k : Nat) (scs' : List Value), k ≤ D.waits.length ∧ i = .int .i64 k ∧ DiskIn wr p sb scs' (.slice wa D.waits.length wc) dvs av (part D keep k) M ∧ Keeps M w wr) (fun i _ => D.waits.length - (intOf i).toNat)
  case atStart => exact ⟨0, scs, Nat.zero_le _, rfl, h, Keeps.refl _ _⟩
  case round =>
    obtain ⟨k, scs', hk, rfl, hr, hkeep⟩ := hrel
    by_cases hlt : k < D.waits.length
    · obtain ⟨wg, wc', e, hmg, hwc⟩ := hr.waitAt (by show 0 < D.waits.length; omega)
      cases e
      obtain ⟨cw1, cw2⟩ := hwc k hlt
      obtain ⟨db, dc, hdv, hdm, hdc⟩ := hr.datAt k hlt
      obtain ⟨r0, r1, r2, r3, r4, rf⟩ := hr.cells
      have hpl : p < wr.heap.size := World.block_lt_of_cell? _ _ r0
      have hsl' : sb < wr.heap.size := (Array.getElem?_eq_some_iff.1 hr.hs).1
      obtain ⟨at_, hat⟩ : ∃ a, a = (D.waits.getD k (0, [])).1 := ⟨_, rfl⟩
      have cw1' : wr.cell? ⟨wg, k * 2, none⟩ = some (.int .i64 ((at_ : Nat) : Int)) := by rw [hat]; exact cw1
      rw [hdv] at cw2
      have hKr := hK.keeps hkeep
      have hwk : (D.waits.getD k (0, [])) ∈ D.waits := by simp [List.getD, hlt]
      have hatl : at_ < D.secs.length := by rw [hat]; exact (h.ok.waits _ hwk).2
      have hsl4 := h.len
      have hsn : scs'.length = D.secs.length := by have := hr.sl; unfold part at this; rw [Dk.keepFrom_len] at this; exact this
      have cs : wr.cell? ⟨sb, at_, none⟩ = some (scs'.getD at_ undef) := by rw [cell_of hr.hs]; simp [List.getD, show at_ < scs'.length by omega]
      have fs : wr.frozen? ⟨sb, at_, none⟩ = false := free_of hr.hs
      have hlp : (part D keep k).secs.length = D.secs.length := by unfold part; rw [Dk.keepFrom_len]
      rw [hlp] at r0
      obtain ⟨sv, hsv⟩ : ∃ sv, sv = scs'.getD at_ undef := ⟨_, rfl⟩
      rw [← hsv] at cs
      have a0 : (0 : Int) ≤ (at_ : Int) := by omega
      have a1 : (at_ : Int) < (D.secs.length : Int) := by omega
      have Hat := Lib.hid hat
      have Hdv := Lib.hid hdv
      clear hat hsv hdv cw1 hwc rf r2 r3 r4 r1 c0 c1 c2 c3 c4 hf hsl hlp
      by_cases hkl : k < kn
      · obtain ⟨kb, ko, rfl, hkc⟩ := hKr.1 k (by omega)
        have hkbl := World.block_lt_of_cell? _ _ hkc
        cases hkv : keep.getD k false with
        | true =>
          rw [hkv] at hkc
          have hr1 := hr.setSec at_ k (by show at_ < (part D keep k).secs.length; unfold part; rw [Dk.keepFrom_len]; exact hatl) hlt
          have hpart : part D keep (k + 1) = { part D keep k with secs := (part D keep k).secs.set at_ ((part D keep k).waits.getD k (0, [])).2 } := by
            unfold part
            rw [Dk.keepFrom_take keep _ _ hlt, if_pos hkv, Hat.out]
          rw [← hpart, Hdv.out] at hr1
          have hr2 := hr1.frame (w' := ((wr.setCell ⟨sb, at_, none⟩ (Value.slice (some ⟨db, 0, none⟩) 512 dc)).alloc (Obj.cells #[Value.int .i64 (at_ : Int), Value.slice (some ⟨db, 0, none⟩) 512 dc] 83)).drew) (fun k hk _ => Below.heap_alloc _ _ _ hk) (by simp)
          have hk2 : Keeps M w (((wr.setCell ⟨sb, at_, none⟩ (Value.slice (some ⟨db, 0, none⟩) 512 dc)).alloc (Obj.cells #[Value.int .i64 (at_ : Int), Value.slice (some ⟨db, 0, none⟩) 512 dc] 83)).drew) := ((hkeep.setHot (p := ⟨sb, at_, none⟩) h.hs h.msb rfl _).alloc _).drew
          clear hpart hr1 hr hkeep hwk hkv hK hKr
          go_wp2
          go_region
          go_wp2
          go_roundw
          case rel => exact ⟨k + 1, _, by omega, by go_num, hr2, hk2⟩
          case measure => simp [intOf]; omega
        | false =>
          rw [hkv] at hkc
          have hr1 := hr.frame (w' := wr.alloc (Obj.cells #[Value.int .i64 (at_ : Int), Value.slice (some ⟨db, 0, none⟩) 512 dc] 83)) (fun k hk _ => Below.heap_alloc _ _ _ hk) (by simp)
          have hpart : part D keep (k + 1) = part D keep k := by
            unfold part
            rw [Dk.keepFrom_take keep _ _ hlt, if_neg (by rw [hkv]; simp)]
          rw [← hpart] at hr1
          have hk2 : Keeps M w (wr.alloc (Obj.cells #[Value.int .i64 (at_ : Int), Value.slice (some ⟨db, 0, none⟩) 512 dc] 83)) := hkeep.alloc _
          clear hpart hr hkeep hwk hkv hK hKr
          go_wp2
          go_roundw
          case rel => exact ⟨k + 1, _, by omega, by go_num, hr1, hk2⟩
          case measure => simp [intOf]; omega
      · have hkv : keep.getD k false = false := by simp [List.getD, show ¬ k < keep.length by omega]
        have hr1 := hr.frame (w' := wr.alloc (Obj.cells #[Value.int .i64 (at_ : Int), Value.slice (some ⟨db, 0, none⟩) 512 dc] 83)) (fun k hk _ => Below.heap_alloc _ _ _ hk) (by simp)
        have hpart : part D keep (k + 1) = part D keep k := by
          unfold part
          rw [Dk.keepFrom_take keep _ _ hlt, if_neg (by rw [hkv]; simp)]
        rw [← hpart] at hr1
        have hk2 : Keeps M w (wr.alloc (Obj.cells #[Value.int .i64 (at_ : Int), Value.slice (some ⟨db, 0, none⟩) 512 dc] 83)) := hkeep.alloc _
        clear hpart hr hkeep hwk hkv hK hKr
        go_wp2
        go_roundw
        case rel => exact ⟨k + 1, _, by omega, by go_num, hr1, hk2⟩
        case measure => simp [intOf]; omega
    · have ek : k = D.waits.length := by omega
      subst ek
      have hall : part D keep D.waits.length = { D with secs := Dk.keepFrom keep 0 D.waits D.secs } := by unfold part; rw [List.take_length]
      rw [hall] at hr
      obtain ⟨r0, r1, r2, r3, r4, rf⟩ := hr.cells
      have f1 := rf 1
      have f2 := rf 2
      have f4 := rf 4
      clear hall rf hK c0 c1 c2 c3 c4 hf
      go_wp2
      go_end0
      refine ⟨rfl, ⟨sb, scs', .slice none 0 0, [], .pointer none, hr.atP (D' := D.crash keep) (fun k _ hk => ?_) (by simp) _ _ _ ?_ rfl (.inr ⟨rfl, rfl, rfl⟩) (.inr ⟨rfl, rfl⟩) hr.ops⟩, ((hkeep.setHot (p := ⟨p, 1, none⟩) h.hp h.mp rfl _).setHot (p := ⟨p, 2, none⟩) h.hp h.mp rfl _).setHot (p := ⟨p, 4, none⟩) h.hp h.mp rfl _⟩
      · rw [heap_set_other hk, heap_set_other hk, heap_set_other hk]
      · rw [heap_set (heap_set (heap_set hr.hp))]; rfl
end Go.Proofs.Ytnekelndcpmonaa
namespace Go.Proofs.Ytnekelndcpmonaa
open Go.RowKit

theorem wrap64_eq (n : Int) : wrap64 n = Dk.wrapI n := by unfold wrap64 Dk.wrapI; omega
/-- The answer of an operation that begins. -/
def beginE (D : Dk) : Int := if D.fell.down then 11 else 0

set_option maxHeartbeats 800000 in
theorem begin_calls (w : World) (p : Nat) (D : Dk) (M : Nat → Prop) (hD : DiskAt w p D M) :
    Calls Try.prog 44 #[.pointer (some ⟨p, 0, none⟩)] w fun e w' => e = .returned (.int .i64 (beginE D)) ∧ DiskAt w' p D.begun M ∧ Keeps M w w' := by
  obtain ⟨sb, scs, wv, dvs, av, h⟩ := id hD
  obtain ⟨c0, c1, c2, c3, c4, hf⟩ := h.cells
  have f3 := hf 3
  have hops := h.ops
  have hpl : p < w.heap.size := World.block_lt_of_cell? _ _ c0
  clear hf c0 c1
  cases hx : D.armed with
  | none =>
    have hav : av = .pointer none := by have := h.arm; rw [hx] at this; exact this
    subst hav
    have hfell : D.fell = D := by simp [Dk.fell, Dk.due, hx]
    cases hd : D.down with
    | true =>
      rw [hd] at c2
      have e1 : beginE D = 11 := by simp [beginE, hfell, hd]
      have e2 : D.begun = D := by simp [Dk.begun, hfell, hd]
      rw [e1, e2]
      clear e1 e2 hfell hx hops
      go_enter Try.func44, Try.ntmps44
      go_wp2
      go_ret
      exact ⟨rfl, hD, Keeps.refl _ _⟩
    | false =>
      rw [hd] at c2
      have e1 : beginE D = 0 := by simp [beginE, hfell, hd]
      have e2 : D.begun = { D with ops := Dk.wrapI (D.ops + 1) } := by simp [Dk.begun, hfell, hd, Dk.counted, hx]
      rw [e1, e2]
      clear e1 e2 hfell hops
      have Hx := Lib.hid hx
      clear hx
      go_enter Try.func44, Try.ntmps44
      go_wp2
      go_ret
      refine ⟨rfl, ⟨sb, scs, wv, dvs, .pointer none, h.atP (fun k _ hk => heap_set_other hk) (by simp) wv dvs _ _ ?_ rfl (.inl ⟨rfl, rfl, rfl⟩) (.inl ⟨rfl, rfl⟩) (Dk.wrapI_range _)⟩, (Keeps.refl _ _).setHot h.hp h.mp rfl _⟩
      rw [heap_set h.hp, ← wrap64_eq]; simp
  | some x =>
    obtain ⟨left, keep⟩ := x
    obtain ⟨ab, ka, kc, hav, hmab, hne, hab, hK, hlb, hkb⟩ := h.armAt left keep hx
    subst hav
    have a0 : w.cell? ⟨ab, 0, none⟩ = some (.int .i64 (left : Int)) := cell_of hab
    have a1 : w.cell? ⟨ab, 1, none⟩ = some (.slice ka keep.length kc) := cell_of hab
    have fa : w.frozen? ⟨ab, 0, none⟩ = false := free_of hab
    have habl : ab < w.heap.size := World.block_lt_of_cell? _ _ a0
    cases hd : D.down with
    | true =>
      rw [hd] at c2
      have hfell : D.fell = D := by unfold Dk.fell Dk.due; rw [hx, hd]; cases left <;> rfl
      have e1 : beginE D = 11 := by simp [beginE, hfell, hd]
      have e2 : D.begun = D := by simp [Dk.begun, hfell, hd]
      rw [e1, e2]
      clear e1 e2 hfell hx hops
      by_cases hl0 : left = 0
      · subst hl0
        go_enter Try.func44, Try.ntmps44
        go_wp2
        go_ret
        exact ⟨rfl, hD, Keeps.refl _ _⟩
      · have hl1 : ((left : Int) == 0) = false := by simp; omega
        go_enter Try.func44, Try.ntmps44
        go_wp2
        go_ret
        exact ⟨rfl, hD, Keeps.refl _ _⟩
    | false =>
      rw [hd] at c2
      by_cases hl0 : left = 0
      · subst hl0
        have hfell : D.fell = D.crash keep := by simp [Dk.fell, Dk.due, Dk.keeps, hx, hd]
        have e1 : beginE D = 11 := by simp [beginE, hfell, Dk.crash]
        have e2 : D.begun = D.crash keep := by simp [Dk.begun, hfell, Dk.crash]
        rw [e1, e2]
        clear e1 e2 hfell hx hops
        go_enter Try.func44, Try.ntmps44
        go_wp2_with fail
        refine (crash_calls _ p D M ka _ kc keep hD hK rfl hkb).mono ?_
        rintro e w1 ⟨rfl, hD1, hk1⟩
        obtain ⟨sb1, scs1, wv1, dvs1, av1, h1⟩ := id hD1
        obtain ⟨_, _, d2, _⟩ := h1.cells
        have d2' : w1.cell? ⟨p, 2, none⟩ = some (.bool true) := d2
        clear c2 c3 c4 a0 a1 d2
        go_wp2
        go_ret
        exact ⟨rfl, hD1, hk1⟩
      · obtain ⟨l1, rfl⟩ : ∃ l1, left = l1 + 1 := ⟨left - 1, by omega⟩
        have hfell : D.fell = D := by simp [Dk.fell, Dk.due, hx]
        have e1 : beginE D = 0 := by simp [beginE, hfell, hd]
        have e2 : D.begun = { D with ops := Dk.wrapI (D.ops + 1), armed := some (l1, keep) } := by simp [Dk.begun, hfell, hd, Dk.counted, hx]
        rw [e1, e2]
        have hl1 : (((l1 : Int) + 1) == 0) = false := by simp; omega
        have a0' : w.cell? ⟨ab, 0, none⟩ = some (.int .i64 ((l1 : Int) + 1)) := by rw [a0]; simp
        have hs1 := h.atP (w' := w.setCell ⟨p, 3, none⟩ (.int .i64 (wrap64 (D.ops + 1)))) (D' := { D with ops := Dk.wrapI (D.ops + 1) }) (fun k _ hk => heap_set_other hk) (by simp) wv dvs _ (by rw [heap_set h.hp, ← wrap64_eq]; simp) rfl (.inl ⟨rfl, rfl, rfl⟩) (.inl ⟨rfl, rfl⟩) (Dk.wrapI_range _)
        have hs2 := hs1.setLeft (l1 + 1) l1 keep hx (by omega)
        rw [hd] at hs2
        have hk2 : Keeps M w ((w.setCell ⟨p, 3, none⟩ (.int .i64 (wrap64 (D.ops + 1)))).setCell ⟨ab, 0, none⟩ (.int .i64 (l1 : Int))) := ((Keeps.refl _ _).setHot (p := ⟨p, 3, none⟩) h.hp h.mp rfl _).setHot (p := ⟨ab, 0, none⟩) hab hmab rfl _
        clear e1 e2 hfell hx hops a0 hs1
        go_enter Try.func44, Try.ntmps44
        go_wp2
        go_ret
        exact ⟨rfl, ⟨_, _, _, _, _, hs2⟩, hk2⟩
end Go.Proofs.Ytnekelndcpmonaa
namespace Go.Proofs.Ytnekelndcpmonaa
open Go.RowKit Go.Shelf
attribute [local go_sem] Oper.semAt_some

/-- What has come when k rounds are over. -/
def came (m k : Nat) : List (Fin m) := (List.finRange m).reverse.take k
theorem came_len {m k : Nat} (h : k ≤ m) : (came m k).length = k := by simp [came]; omega
theorem came_succ {m k : Nat} (h : k < m) (r : Nat) (hrm : r < m) (hr : r = m - 1 - k) : came m (k + 1) = came m k ++ [⟨r, hrm⟩] := by
  unfold came
  rw [List.take_succ_eq_append_getElem (by simpa using h)]
  congr 1
  simp [hr]

set_option maxRecDepth 100000 in
set_option maxHeartbeats 2000000 in
theorem backward1_in (F : Fence) (n : Nat) (h7 : F.fn 69) (hro : F.round = none) (hn : 1 ≤ n) (l Bs n₀ m cap : Nat) (a : Option Addr) (at_ : Fin m → Int) (dv : Fin m → Value)
    (J Jx : List (Fin m) → World → Prop) (hBs0 : Bs < n₀) (hm : m ≤ 9223372036854775807)
    (hY : ∀ pre x W, J pre W → pre.length < m → YieldAt F (n - 1) Try.prog l #[.int .i64 ((x.1 : Nat) : Int), .agg #[.int .i64 (at_ x), dv x]] W fun e W' =>
      (e = .returned (.bool true) ∧ J (pre ++ [x]) W' ∧ Below n₀ W W') ∨ (e = .returned (.bool false) ∧ Jx (pre ++ [x]) W'))
    (W : World) (hBs : W.cell? ⟨Bs, 0, none⟩ = some (.slice a m cap)) (hone : ∀ x, (dv x).oneCell' = true)
    (hc : ∀ x : Fin m, ∃ g, a = some ⟨g, 0, none⟩ ∧ g < n₀ ∧ W.cell? ⟨g, x.1 * 2, none⟩ = some (.int .i64 (at_ x)) ∧ W.cell? ⟨g, x.1 * 2 + 1, none⟩ = some (dv x)) (h0 : J [] W) :
    CallsIn F n Try.prog 69 #[.func (.yield l) #[] #[], .pointer (some ⟨Bs, 0, none⟩)] W fun e W' => (∃ v, e = .returned v) ∧
      ((∃ ys, ys = came m m ∧ J ys W') ∨ (∃ pre, (∃ k, k ≤ m ∧ pre = came m k) ∧ Jx pre W')) := by
  refine callsIn_of_wp Try.func69 rfl h7 ?_ hro
  simp only [Try.ntmps69, List.size_toArray, List.length_cons, List.length_nil, Nat.reduceAdd, Nat.reduceSub, Array.replicate_succ, Array.replicate_zero, List.push_toArray, List.append_toArray, List.nil_append, List.cons_append]
  gi_wp2
  gi_loopw [3] (fun i wr => ∃ (k : Nat) (i0 : Int), k ≤ m ∧ i0 = (m : Int) - 1 - k ∧ i = .int .i64 i0 ∧ J (came m k) wr ∧ Below n₀ W wr)
    (fun i _ => (intOf i + 1).toNat)
  case atStart => exact ⟨0, _, Nat.zero_le _, rfl, by go_num, h0, Below.refl _ _⟩
  case round =>
    obtain ⟨k, i0, hk, hi0, rfl, hJs, hnx⟩ := hrel
    have hBr : wr.cell? ⟨Bs, 0, none⟩ = some (.slice a m cap) := (hnx.cell (p := ⟨Bs, 0, none⟩) hBs0).trans hBs
    by_cases hlt : k < m
    · obtain ⟨r, hr⟩ : ∃ r : Nat, r = m - 1 - k := ⟨_, rfl⟩
      have hi1 : i0 = (r : Int) := by omega
      subst hi1
      have hrm : r < m := by omega
      have hrk : (r : Int) - 1 = (m : Int) - 1 - ((k + 1 : Nat) : Int) := by omega
      have Hrk := Lib.hid hrk
      clear hrk
      obtain ⟨g, rfl, hg, c1, c2⟩ := hc ⟨r, hrm⟩
      have c1' := (hnx.cell (p := ⟨g, r * 2, none⟩) hg).trans c1
      have c2' := (hnx.cell (p := ⟨g, r * 2 + 1, none⟩) hg).trans c2
      have ho := hone ⟨r, hrm⟩
      obtain ⟨fn, tmps, assign, body, hy, hR⟩ := hY _ ⟨r, hrm⟩ wr hJs (by rw [came_len hk]; exact hlt)
      have hcs := came_succ hlt r hrm hr
      dsimp only at hy
      obtain ⟨av, hav⟩ : ∃ av, av = at_ ⟨r, hrm⟩ := ⟨_, rfl⟩
      obtain ⟨v, hv⟩ : ∃ v, v = dv ⟨r, hrm⟩ := ⟨_, rfl⟩
      rw [← hav, ← hv] at hy
      rw [← hav] at c1'
      rw [← hv] at c2' ho
      have hge : (0 : Int) ≤ (r : Int) := by omega
      have hrl : (r : Int) < (m : Int) := by omega
      clear hc c1 c2 hav hv hr hi0
      gi_wp2
      refine hR.mono ?_
      rintro e W3 (⟨rfl, hJ3, hk3⟩ | ⟨rfl, hJx3⟩)
      · gi_wp2
        go_roundw
        case rel => exact ⟨k + 1, (r : Int) - 1, by omega, Hrk.out, by go_num, by rw [hcs]; exact hJ3, hnx.trans hk3⟩
        case measure => simp [intOf]
      · gi_wp2
        refine bodyPost_ret (results_none rfl _ _ _) rfl ?_
        exact ⟨⟨_, rfl⟩, .inr ⟨_, ⟨k + 1, by omega, hcs.symm⟩, hJx3⟩⟩
    · obtain rfl : k = m := by omega
      obtain rfl : i0 = -1 := by omega
      gi_wp2
      go_end0
      exact ⟨⟨_, rfl⟩, .inl ⟨_, rfl, hJs⟩⟩

set_option maxHeartbeats 1000000 in
theorem backward_in (F : Fence) (n : Nat) (h5 : F.fn 60) (hro : F.round = none) (a : Option Addr) (len cap : Nat) (w : World) :
    CallsIn F n Try.prog 60 #[.slice a len cap] w fun e w' => e = .returned (.func (.func 69) #[] #[.pointer (some ⟨w.heap.size, 0, none⟩)]) ∧ w' = w.alloc (.cells #[.slice a len cap] 62) := by
  refine callsIn_of_wp Try.func60 rfl h5 ?_ hro
  simp only [Try.ntmps60, List.size_toArray, List.length_cons, List.length_nil, Nat.reduceAdd, Nat.reduceSub, Array.replicate_succ, Array.replicate_zero, List.push_toArray, List.append_toArray, List.nil_append, List.cons_append]
  gi_wp2
  go_ret
  exact ⟨rfl, rfl⟩

theorem backward_stops (F : Fence) (n : Nat) (h7 : F.fn 69) (hro : F.round = none) (hn : 1 ≤ n) (Bs m cap : Nat) (a : Option Addr) (at_ : Fin m → Int) (dv : Fin m → Value) (w : World) (hBs0 : Bs < w.heap.size) (hm : m ≤ 9223372036854775807)
    (hBs : w.cell? ⟨Bs, 0, none⟩ = some (.slice a m cap)) (hone : ∀ x, (dv x).oneCell' = true)
    (hc : ∀ x : Fin m, ∃ g, a = some ⟨g, 0, none⟩ ∧ g < w.heap.size ∧ w.cell? ⟨g, x.1 * 2, none⟩ = some (.int .i64 (at_ x)) ∧ w.cell? ⟨g, x.1 * 2 + 1, none⟩ = some (dv x)) :
    SeqStopsK F n Try.prog 69 #[.pointer (some ⟨Bs, 0, none⟩)] (fun x : Fin m => #[Value.int .i64 ((x.1 : Nat) : Int), .agg #[.int .i64 (at_ x), dv x]]) (Below w.heap.size)
      (fun ys => ys = came m m) (fun pre => ∃ k, k ≤ m ∧ pre = came m k) m w := fun l J Jx W hW _ _ hY h0 =>
  backward1_in F n h7 hro hn l Bs w.heap.size m cap a at_ dv J Jx hBs0 hm hY W ((hW.cell (p := ⟨Bs, 0, none⟩) hBs0).trans hBs) hone
    (fun x => by
      obtain ⟨g, e, hg, c1, c2⟩ := hc x
      exact ⟨g, e, hg, (hW.cell (p := ⟨g, x.1 * 2, none⟩) hg).trans c1, (hW.cell (p := ⟨g, x.1 * 2 + 1, none⟩) hg).trans c2⟩) h0
end Go.Proofs.Ytnekelndcpmonaa
namespace Go.Proofs.Ytnekelndcpmonaa
open Go.RowKit Go.Shelf
attribute [local go_sem] Oper.semAt_some

theorem Keeps.cool {M : Nat → Prop} {w w' : World} (h : Keeps M w w') {q : Nat} {c : Array Value} {t : TypeId} {f : Nat × Nat} (hb : w.heap[q]? = some (.cells c t f)) (ht : hot t = false) : w'.heap[q]? = some (.cells c t f) := by
  rw [h.block q (Array.getElem?_eq_some_iff.1 hb).1 (fun _ c' t' f' e => by rw [hb] at e; cases e; exact ht)]
  exact hb

/-- 'copy' of a whole sector's bytes over a row of as many. -/
theorem run_copy_full (W : World) (B : Nat) (cur : Array Value) (hB : W.heap[B]? = some (.cells cur 5 (0, 0))) (hcur : cur.size = 512) (g cap : Nat) (l : List UInt8) (hl : l.length = 512) (hg : ∀ i, i < 512 → W.cell? ⟨g, i, none⟩ = some (.int .u8 (l.getD i 0).toNat)) (ty : TypeId) :
    (Builtin.copy_ #[31, 31] ty #[.slice (some ⟨B, 0, none⟩) 512 512, .slice (some ⟨g, 0, none⟩) 512 cap]).run Try.prog W = .ok (goInt 512) (W.setRow B (l.map byteV).toArray) := by
  have h := run_copy_row (P := Try.prog) W 31 31 ty 5 B 0 512 512 ⟨g, 0, none⟩ 512 cap cur 5 (l.map byteV) Try.underlying31 (by kernel_rfl) hB (by simp [hl]) (fun j v hv => by
    rw [addr_add, Nat.zero_add]
    have hj : j < 512 := by have := (List.getElem?_eq_some_iff.1 hv).1; simpa [hl] using this
    rw [hg j hj]
    simp [List.getElem?_eq_getElem (show j < l.length by omega)] at hv
    rw [← hv]; simp [List.getD, show j < l.length by omega, byteV]) (by simp [hl, hcur]) (fun v hv => by simp at hv; obtain ⟨x, _, rfl⟩ := hv; rfl)
  simp only [List.length_map, hl, Nat.zero_add, List.take_zero, List.nil_append] at h
  rw [List.drop_eq_nil_of_le (by simp [hcur]), List.append_nil] at h
  exact h
/-- What lies behind it. -/
structure Copied (B : Nat) (l : List UInt8) (W W' : World) : Prop where
  at_ : W'.heap[B]? = some (.cells (l.map byteV).toArray 5 (0, 0))
  other : ∀ k, k ≠ B → W'.heap[k]? = W.heap[k]?
  size : W'.heap.size = W.heap.size
  os : W'.os = W.os
  tape : W'.tape = W.tape
  output : W'.output = W.output
theorem copied_setRow {W : World} {B : Nat} {cur : Array Value} (hB : W.heap[B]? = some (.cells cur 5 (0, 0))) (l : List UInt8) : Copied B l W (W.setRow B (l.map byteV).toArray) :=
  ⟨setRow_heap W B cur _ _ _ hB, fun k hk => setRow_other W B k _ hk, setRow_size _ _ _, rfl, rfl, rfl⟩
theorem OwnsM.at {w : World} {M : Nat → Prop} {v : Value} {l : List UInt8} (h : OwnsM w M 5 1 v 512 (l.map byteV)) :
    ∃ g c, v = .slice (some ⟨g, 0, none⟩) 512 c ∧ M g ∧ l.length = 512 ∧ g < w.heap.size ∧ ∀ i, i < 512 → w.cell? ⟨g, i, none⟩ = some (.int .u8 (l.getD i 0).toNat) := by
  obtain ⟨a, c, rfl, _⟩ := ownsRow_slice h.1
  have ho : OwnsB w 0 (.slice a 512 c) 512 l := h.1
  obtain ⟨g, rfl, _, hg, hc, _⟩ := ho.at (by omega)
  exact ⟨g, c, rfl, h.2 g rfl, ho.len, hg, hc⟩
theorem copy_sec (W : World) (M : Nat → Prop) (B : Nat) (v : Value) (l : List UInt8) (hB : W.heap[B]? = some (.cells (Dk.zero.map byteV).toArray 5 (0, 0))) (hv : SecAt W M v l) (ty : TypeId) :
    ∃ r W', (Builtin.copy_ #[31, 31] ty #[.slice (some ⟨B, 0, none⟩) 512 512, v]).run Try.prog W = .ok r W' ∧ Copied B l W W' := by
  rcases hv with ⟨rfl, rfl⟩ | ⟨hl, h⟩
  · exact ⟨_, W, run_copy_nil (P := Try.prog) W _ _ _ 5 _ 512 512 Try.underlying31 (by kernel_rfl), hB, fun _ _ => rfl, rfl, rfl, rfl, rfl⟩
  · obtain ⟨g, c, rfl, _, _, _, hc⟩ := h.at
    exact ⟨_, _, run_copy_full W B _ hB (by simp [Dk.zero_len]) g c l hl hc ty, copied_setRow hB l⟩
/-- The sector as the writes tell. -/
theorem now_hit (ws : List (Nat × List UInt8)) (at_ : Nat) (k r : Nat) (hk : k < ws.length) (hr : r = ws.length - 1 - k) (hall : ∀ j, r < j → j < ws.length → (ws.getD j (0, [])).1 ≠ at_) (hit : (ws.getD r (0, [])).1 = at_) : ws.reverse.find? (fun x => x.1 == at_) = some (ws.getD r (0, [])) := by
  rw [List.find?_eq_some_iff_getElem]
  refine ⟨by simpa using hit, k, by simpa using hk, ?_, ?_⟩
  · subst hr; simp [List.getD, show ws.length - 1 - k < ws.length by omega]
  · intro j hj
    have := hall (ws.length - 1 - j) (by omega) (by omega)
    simp [List.getD, show ws.length - 1 - j < ws.length by omega] at this
    simpa using this
theorem now_none (ws : List (Nat × List UInt8)) (at_ : Nat) (hall : ∀ j, j < ws.length → (ws.getD j (0, [])).1 ≠ at_) : ws.reverse.find? (fun x => x.1 == at_) = none := by
  rw [List.find?_eq_none]
  intro x hx
  obtain ⟨j, hj, rfl⟩ := List.getElem_of_mem (List.mem_reverse.1 hx)
  have := hall j hj
  simp [List.getD, hj] at this
  simpa using this

theorem run_make_sector (w : World) :
    (Instr.makeSlice 31 (.int .i64 512) (.int .i64 512)).run Try.prog w = .ok (.slice (some ⟨w.heap.size, 0, none⟩) 512 512) (w.alloc (.cells (Dk.zero.map byteV).toArray 5)) := by
  obtain ⟨i0, hi, hz0, hz1, hz2⟩ := info_parts info8
  have h := run_make (P := Try.prog) w 31 5 i0 (.int .u8 0) Try.underlying31 hi hz0 .i64 .i64 (512 : Int) (512 : Int) (by omega) (Int.le_refl _) (by rw [hz2]; omega) (by omega)
  rw [h, hz1]
  have e : madeCells (Value.int .u8 0).cells (512 * 1) = (Dk.zero.map byteV).toArray := by
    have := zeros_bytes 512
    apply Array.ext'
    rw [this]; rfl
  show Result.ok _ (w.alloc (.cells (madeCells (Value.int .u8 0).cells (512 * 1)) _)) = _
  rw [e]; rfl

set_option maxHeartbeats 800000 in
theorem read_arg (w : World) (p : Nat) (D : Dk) (M : Nat → Prop) (at_ : Int) (hD : DiskAt w p D M) (h : ¬ (0 ≤ at_ ∧ at_ < (D.secs.length : Int))) :
    Calls Try.prog 42 #[.pointer (some ⟨p, 0, none⟩), .int .i64 at_] w fun e w' => e = .returned (.tuple #[.slice none 0 0, .int .i64 1]) ∧ DiskAt w' p D M ∧ Below w.heap.size w w' := by
  have hb : Below w.heap.size w (w.alloc (.cells #[.int .i64 at_] 3)) := (Below.refl _ _).alloc (Nat.le_refl _) _
  have hD1 := hD.grow hb
  have hdec : decide (0 ≤ at_ ∧ at_ < (D.secs.length : Int)) = false := decide_eq_false h
  go_enter Try.func42, Try.ntmps42
  go_wp2_with fail
  refine (is_calls _ p D M at_ hD1).mono ?_
  rw [hdec]
  rintro e w1 ⟨rfl, rfl⟩
  clear hdec h
  go_wp2
  go_ret2
  exact ⟨rfl, hD1, hb⟩

set_option maxHeartbeats 800000 in
theorem read_down (w : World) (p : Nat) (D : Dk) (M : Nat → Prop) (at_ : Int) (hD : DiskAt w p D M) (h : 0 ≤ at_ ∧ at_ < (D.secs.length : Int)) (hd : D.fell.down = true) :
    Calls Try.prog 42 #[.pointer (some ⟨p, 0, none⟩), .int .i64 at_] w fun e w' => e = .returned (.tuple #[.slice none 0 0, .int .i64 11]) ∧ DiskAt w' p D.begun M ∧ Keeps M w w' := by
  have hb : Below w.heap.size w (w.alloc (.cells #[.int .i64 at_] 3)) := (Below.refl _ _).alloc (Nat.le_refl _) _
  have hD1 := hD.grow hb
  have hdec : decide (0 ≤ at_ ∧ at_ < (D.secs.length : Int)) = true := decide_eq_true h
  go_enter Try.func42, Try.ntmps42
  go_wp2_with fail
  refine (is_calls _ p D M at_ hD1).mono ?_
  rw [hdec]
  rintro e w1 ⟨rfl, rfl⟩
  clear hdec h
  go_wp2_with fail
  refine (begin_calls _ p D M hD1).mono ?_
  have eb : beginE D = 11 := by simp [beginE, hd]
  rw [eb]
  rintro e w2 ⟨rfl, hD2, hk⟩
  clear eb hd
  go_wp2
  go_ret2
  exact ⟨rfl, hD2, (Keeps.of_below hb).trans hk⟩
end Go.Proofs.Ytnekelndcpmonaa
namespace Go.Proofs.Ytnekelndcpmonaa
open Go.RowKit Go.Shelf
attribute [local go_sem] Oper.semAt_some

/-- The disk lies as it lay; what it may call its own may turn. -/
theorem DiskIn.frame' {w w' : World} {p sb : Nat} {scs : List Value} {wv : Value} {dvs : List Value} {av : Value} {D : Dk} {M M' : Nat → Prop} (h : DiskIn w p sb scs wv dvs av D M) (hk' : ∀ k, k < w.heap.size → M k → w'.heap[k]? = w.heap[k]? ∧ M' k) (hn : ∀ k, w'.heap.size ≤ k → M' k) : DiskIn w' p sb scs wv dvs av D M' := by
  have lt : ∀ {k o}, w.heap[k]? = some o → k < w.heap.size := fun hh => (Array.getElem?_eq_some_iff.1 hh).1
  exact ⟨by rw [(hk' p (lt h.hp) h.mp).1]; exact h.hp, (hk' p (lt h.hp) h.mp).2, (hk' sb (lt h.hs) h.msb).2, by rw [(hk' sb (lt h.hs) h.msb).1]; exact h.hs, h.sl,
    fun i hi => (h.sec i hi).frame hk', h.hw.frame hk', h.dl, fun i hi => (h.dat i hi).frame hk', h.arm.frame hk', hn, h.ok, h.len, h.ops⟩
/-- One row was written, and new blocks were made. -/
structure After (B : Nat) (l : List UInt8) (W W' : World) : Prop where
  at_ : W'.heap[B]? = some (.cells (l.map byteV).toArray 5 (0, 0))
  other : ∀ k, k < W.heap.size → k ≠ B → W'.heap[k]? = W.heap[k]?
  size : W.heap.size ≤ W'.heap.size
  os : W'.os = W.os
  tape : W'.tape = W.tape
  output : W'.output = W.output
theorem After.grown {B : Nat} {l : List UInt8} {W A A' : World} {row : Option Nat} (h : After B l W A) (hg : A.grownBy A' row) (hr : ∀ r, row = some r → W.heap.size ≤ r ∧ ∃ o : Obj, A.heap[r]? = some o ∧ o.isCells = false) : After B l W A' := by
  refine ⟨?_, fun k hk hB => ?_, Nat.le_trans h.size hg.size, hg.os.trans h.os, hg.tape.trans h.tape, hg.output.trans h.output⟩
  · rw [hg.block B (Array.getElem?_eq_some_iff.1 h.at_).1 (fun e => ?_)]
    · exact h.at_
    · obtain ⟨_, o, ho, hc⟩ := hr B e.symm
      rw [h.at_] at ho; cases ho; cases hc
  · rw [hg.block k (Nat.lt_of_lt_of_le hk h.size) (fun e => by have := (hr k e.symm).1; omega)]
    exact h.other k hk hB

set_option maxRecDepth 100000 in
set_option maxHeartbeats 2000000 in
theorem read_ok (w : World) (p : Nat) (D : Dk) (M : Nat → Prop) (i : Nat) (I : Int) (hI : I = (i : Int)) (hD : DiskAt w p D M) (hi : i < D.secs.length) (hd : D.fell.down = false) :
    Calls Try.prog 42 #[.pointer (some ⟨p, 0, none⟩), .int .i64 I] w fun e w' => ∃ B, w.heap.size ≤ B ∧ e = .returned (.tuple #[.slice (some ⟨B, 0, none⟩) 512 512, .int .i64 0]) ∧
      w'.heap[B]? = some (.cells ((D.begun.now i).map byteV).toArray 5 (0, 0)) ∧ DiskAt w' p D.begun (fun k => M k ∧ k ≠ B) ∧ Keeps M w w' := by
  subst hI
  obtain ⟨D2, hDe⟩ : ∃ D2, D2 = D.begun := ⟨_, rfl⟩
  rw [← hDe]
  obtain ⟨w0, hw0⟩ : ∃ w0, w0 = w.alloc (.cells #[.int .i64 (i : Int)] 3) := ⟨_, rfl⟩
  have hb : Below w.heap.size w w0 := by rw [hw0]; exact (Below.refl _ _).alloc (Nat.le_refl _) _
  have hq0 : w0.heap[w.heap.size]? = some (.cells #[.int .i64 (i : Int)] 3 (0, 0)) := by rw [hw0]; exact heap_alloc_new _ _
  have hD1 := hD.grow hb
  have hdec : decide ((0 : Int) ≤ (i : Int) ∧ (i : Int) < (D.secs.length : Int)) = true := decide_eq_true ⟨by omega, by omega⟩
  refine (callsIn_wide (n := 9)).1 ?_
  refine callsIn_of_wp_marks Try.func42 rfl trivial ?_ rfl
  simp only [Try.ntmps42, List.size_toArray, List.length_cons, List.length_nil, Nat.reduceAdd, Nat.reduceSub, Array.replicate_succ, Array.replicate_zero, List.push_toArray, List.append_toArray, List.nil_append, List.cons_append]
  gi_wp2_with fail
  rw [← hw0]
  have hsz : w0.heap.size = w.heap.size + 1 := by rw [hw0, World.size_alloc]
  clear hw0
  refine ⟨trivial, ?_⟩
  gi_at_call 43
  refine (callsIn_wide.2 (is_calls w0 p D M (i : Int) hD1)).mono ?_
  rw [hdec]
  rintro e w1 ⟨rfl, rfl⟩
  have c0 : w0.cell? ⟨w.heap.size, 0, none⟩ = some (.int .i64 (i : Int)) := cell_of hq0
  gi_wp2_with fail
  refine ⟨trivial, ?_⟩
  gi_at_call 44
  refine (callsIn_wide.2 (begin_calls w0 p D M hD1)).mono ?_
  have eb : beginE D = 0 := by simp [beginE, hd]
  rw [eb]
  rintro e w2 ⟨rfl, hD2, hk⟩
  have hq2 := hk.cool hq0 rfl
  rw [← hDe] at hD2
  obtain ⟨sb, scs, wv, dvs, av, h2⟩ := id hD2
  obtain ⟨wa, wc, hwv, hwcl⟩ := ownsRow_slice h2.hw.1
  have hwl : D2.waits.length ≤ 9223372036854775807 := by have := hwcl.1; have := hwcl.2; unfold maxLen at *; omega
  subst hwv
  have hlen : D2.secs.length = D.secs.length := by rw [hDe]; unfold Dk.begun; split <;> simp [Dk.counted, Dk.fell_len]
  have hi2 : i < D2.secs.length := by omega
  clear hDe hdec hd eb c0 hD hD1 hi hlen
  -- the world behind the make
  obtain ⟨W3, hW3⟩ : ∃ W3, W3 = (w2.alloc (.cells (Dk.zero.map byteV).toArray 5)).alloc (.cells #[.slice (some ⟨w2.heap.size, 0, none⟩) 512 512] 31) := ⟨_, rfl⟩
  have hmk := run_make_sector w2
  have hb3 : Below w2.heap.size w2 W3 := by rw [hW3]; exact ((Below.refl _ _).alloc (Nat.le_refl _) _).alloc (by simp) _
  have hB3 : W3.heap[w2.heap.size]? = some (.cells (Dk.zero.map byteV).toArray 5 (0, 0)) := by rw [hW3, Below.heap_alloc _ _ _ (by simp), heap_alloc_new]
  have hQ3 : W3.heap[w2.heap.size + 1]? = some (.cells #[.slice (some ⟨w2.heap.size, 0, none⟩) 512 512] 31 (0, 0)) := by
    rw [hW3]; have := heap_alloc_new (w2.alloc (.cells (Dk.zero.map byteV).toArray 5)) (.cells #[.slice (some ⟨w2.heap.size, 0, none⟩) 512 512] 31); rw [World.size_alloc] at this; exact this
  have h3 := h2.frame (w' := W3) (fun k hk _ => hb3.block k hk) hb3.size
  have hsz3 : W3.heap.size = w2.heap.size + 2 := by rw [hW3]; simp
  have hq3 : W3.heap[w.heap.size]? = some (.cells #[.int .i64 (i : Int)] 3 (0, 0)) := by rw [hb3.block _ (Array.getElem?_eq_some_iff.1 hq2).1]; exact hq2
  obtain ⟨d0, d1, _⟩ := h3.cells
  have hsl4 := h3.len
  have hsn := h3.sl
  obtain ⟨sv, hsv⟩ : ∃ sv, sv = scs.getD i undef := ⟨_, rfl⟩
  have cs : W3.cell? ⟨sb, i, none⟩ = some sv := by rw [cell_of h3.hs, hsv]; simp [List.getD, show i < scs.length by omega]
  have hsec := h3.sec i hi2
  rw [← hsv] at hsec
  obtain ⟨cr, W4, hcopy, hcd⟩ := copy_sec W3.drew M w2.heap.size sv _ hB3 hsec 3
  have ca : W3.cell? ⟨w.heap.size, 0, none⟩ = some (.int .i64 (i : Int)) := cell_of hq3
  have cb : W3.cell? ⟨w2.heap.size + 1, 0, none⟩ = some (.slice (some ⟨w2.heap.size, 0, none⟩) 512 512) := cell_of hQ3
  have HW3 := Lib.hid hW3
  have HB3 := Lib.hid hB3
  have i0 : (0 : Int) ≤ (i : Int) := by omega
  have i1 : (i : Int) < (D2.secs.length : Int) := by omega
  have hQ := Lib.hid hq3
  have hQQ := Lib.hid hQ3
  clear hW3 hB3 hsv hsz3 hq3 hQ3
  gi_wp2_with fail
  rw [← HW3.out]
  gi_region
  have h4 := h2.frame' (w' := W4) (M' := fun k => M k ∧ k ≠ w2.heap.size) (fun k hk hm => ⟨by rw [hcd.other k (by omega)]; exact hb3.block k hk, hm, by omega⟩) (fun k hk => ⟨h2.new k (by have := hcd.size; have := hb3.size; have : W3.drew.heap.size = W3.heap.size := rfl; omega), by have := hcd.size; have : W3.drew.heap.size = W3.heap.size := rfl; have := HW3.out; subst this; simp at *; omega⟩)
  obtain ⟨e0, e1, _⟩ := h4.cells
  have hq4 : W4.heap[w.heap.size]? = some (.cells #[.int .i64 (i : Int)] 3 (0, 0)) := by rw [hcd.other _ (by have := (Array.getElem?_eq_some_iff.1 hq2).1; omega)]; exact hQ.out
  have hQ4 : W4.heap[w2.heap.size + 1]? = some (.cells #[.slice (some ⟨w2.heap.size, 0, none⟩) 512 512] 31 (0, 0)) := by rw [hcd.other _ (by omega)]; exact hQQ.out
  have hB4 := hcd.at_
  clear d0 d1 cs ca cb hmk hcopy hsec
  gi_wp2_with fail
  refine ⟨trivial, ?_⟩
  gi_at_call 60
  refine (backward_in Fence.wide _ trivial rfl _ _ _ _).mono ?_
  rintro e W5 ⟨rfl, hW5⟩
  gi_wp2_with fail
  have hs5 : W5.heap.size = W4.heap.size + 1 := by rw [hW5, World.size_alloc]
  have hs4 : W4.heap.size = w2.heap.size + 2 := by rw [hcd.size]; show W3.heap.size = _; rw [HW3.out]; simp
  have hb5 : Below W4.heap.size W4 W5 := by rw [hW5]; exact (Below.refl _ _).alloc (Nat.le_refl _) _
  have hbox5 : W5.heap[W4.heap.size]? = some (.cells #[.slice wa D2.waits.length wc] 62 (0, 0)) := by rw [hW5]; exact heap_alloc_new _ _
  have h5 := h4.frame (w' := W5) (fun k hk _ => hb5.block k hk) hb5.size
  have hq5 : W5.heap[w.heap.size]? = some (.cells #[.int .i64 (i : Int)] 3 (0, 0)) := by rw [hb5.block _ (Array.getElem?_eq_some_iff.1 hq4).1]; exact hq4
  have hQ5 : W5.heap[w2.heap.size + 1]? = some (.cells #[.slice (some ⟨w2.heap.size, 0, none⟩) 512 512] 31 (0, 0)) := by rw [hb5.block _ (Array.getElem?_eq_some_iff.1 hQ4).1]; exact hQ4
  have hB5 : W5.heap[w2.heap.size]? = some (.cells ((D2.secs.getD i []).map byteV).toArray 5 (0, 0)) := by rw [hb5.block _ (by omega)]; exact hB4
  have hkeep : ∀ (W : World), (∀ k, k < W5.heap.size → k ≠ w2.heap.size → W.heap[k]? = W5.heap[k]?) → W5.heap.size ≤ W.heap.size → W.os = W5.os → W.tape = W5.tape → W.output = W5.output → Keeps M w W ∧ DiskAt W p D2 (fun k => M k ∧ k ≠ w2.heap.size) := by
    intro W hW hsz' ho ht hou
    have e5 : W5.os = w2.os ∧ W5.tape = w2.tape ∧ W5.output = w2.output := by
      refine ⟨?_, ?_, ?_⟩
      · rw [hb5.os, hcd.os]; exact hb3.os
      · rw [hb5.tape, hcd.tape]; exact hb3.tape
      · rw [hb5.output, hcd.output]; exact hb3.output
    refine ⟨((Keeps.of_below hb).trans hk).trans ⟨ho.trans e5.1, ht.trans e5.2.1, hou.trans e5.2.2, by omega, fun k hk' _ => ?_⟩, ?_⟩
    · rw [hW k (by omega) (by omega), hb5.block k (by omega), hcd.other k (by omega)]
      exact hb3.block k hk'
    · exact ⟨sb, scs, _, dvs, av, h5.frame' (fun k hk' hm => ⟨hW k hk' hm.2, hm⟩) (fun k hk' => ⟨(h5.new k (by omega)).1, by omega⟩)⟩
  have hone : ∀ x : Fin D2.waits.length, (dvs.getD x.1 undef).oneCell' = true := fun x => by
    obtain ⟨b, c, e, _⟩ := h5.datAt x.1 x.2
    rw [e]; rfl
  have hcells : ∀ x : Fin D2.waits.length, ∃ g, wa = some ⟨g, 0, none⟩ ∧ g < W5.heap.size ∧ W5.cell? ⟨g, x.1 * 2, none⟩ = some (.int .i64 (((D2.waits.getD x.1 (0, [])).1 : Nat) : Int)) ∧ W5.cell? ⟨g, x.1 * 2 + 1, none⟩ = some (dvs.getD x.1 undef) := fun x => by
    obtain ⟨wg, wc', e, hm, hh⟩ := h5.waitAt (by have := x.2; omega)
    simp only [Value.slice.injEq] at e
    obtain ⟨rfl, _, _⟩ := e
    obtain ⟨c1, c2⟩ := hh x.1 x.2
    exact ⟨wg, rfl, World.block_lt_of_cell? _ _ c1, c1, c2⟩
  have hle : w.heap.size ≤ w2.heap.size := by have := hk.size; omega
  have h0n : p < w2.heap.size ∧ sb < w2.heap.size := ⟨(Array.getElem?_eq_some_iff.1 h2.hp).1, (Array.getElem?_eq_some_iff.1 h2.hs).1⟩
  rw [← hW5]
  clear hW5 hb5 e0 e1 hq4 hQ4 hB4 h4 h3 hb3 hcd hb hq0 h2 hq2 HW3 HB3 hQ hQQ hD2 hk
  refine wpIn_rangeFunc_ownH rfl (by omega) (gf := 69) (lb := #[.pointer (some ⟨W4.heap.size, 0, none⟩)]) rfl trivial (enters_of Try.func69 (by kernel_rfl) rfl)
    (backward_stops Fence.wide _ trivial rfl (by omega) W4.heap.size D2.waits.length wc wa (fun x => (((D2.waits.getD x.1 (0, [])).1 : Nat) : Int)) (fun x => dvs.getD x.1 undef) W5 (by omega) hwl (cell_of hbox5) hone hcells)
    belowK_t (belowK_b (Nat.le_refl _)) (Below.refl _ _) (fun _ => rfl)
    (fun pre W => (∀ x ∈ pre, (D2.waits.getD x.1 (0, [])).1 ≠ i) ∧ Below W5.heap.size W5 W)
    (fun c pre W => c = .exit 0 ∧ ∃ ini last, pre = ini ++ [last] ∧ (∀ x ∈ ini, (D2.waits.getD x.1 (0, [])).1 ≠ i) ∧ (D2.waits.getD last.1 (0, [])).1 = i ∧ After w2.heap.size (D2.waits.getD last.1 (0, [])).2 W5 W)
    (OwnFrom.and (ownFrom_pure _ _) (ownFrom_below (Nat.le_refl _) (Nat.le_refl _)))
    (fun c pre A A' row h hg hr => by obtain ⟨e1, ini, last, e2, e3, e4, h⟩ := h; exact ⟨e1, ini, last, e2, e3, e4, h.grown hg hr⟩)
    ⟨by simp, Below.refl _ _⟩
    (fun x a' W => ∃ Bx, W5.heap.size ≤ Bx ∧ W.heap[Bx]? = some (.cells #[.int .i64 (((D2.waits.getD x.1 (0, [])).1 : Nat) : Int), dvs.getD x.1 undef] 83 (0, 0)) ∧
      a' = { tmps := #[Value.pointer (some { block := p, off := 0 }), Value.int IntKind.i64 ↑i, undef,
          Value.pointer (some { block := w.heap.size, off := 0 }), Value.slice none 0 0, Value.int IntKind.i64 0,
          Value.int IntKind.i64 0, Value.pointer (some { block := w2.heap.size + 1, off := 0 }), undef, Value.pointer (some { block := Bx, off := 0 }),
          Value.pointer (some { block := p, off := 0 }), Value.int IntKind.i64 ↑i, Value.bool true, Value.bool false,
          Value.pointer (some { block := p, off := 0 }), Value.int IntKind.i64 0, Value.int IntKind.i64 0,
          Value.bool false, undef, Value.slice (some { block := w2.heap.size, off := 0 }) 512 512,
          Value.slice (some { block := w2.heap.size, off := 0 }) 512 512, Value.pointer (some { block := p, off := 0 }),
          Value.pointer (some { block := p, off := 0 }), Value.pointer (some { block := p, off := 0 }),
          Value.slice (some { block := sb, off := 0 }) D2.secs.length D2.secs.length, Value.int IntKind.i64 ↑i,
          Value.pointer (some { block := sb, off := i }), sv, cr, Value.pointer (some { block := p, off := 0 }),
          Value.pointer (some { block := p, off := 0 }), Value.pointer (some { block := p, off := 1 }), Value.slice wa D2.waits.length wc,
          Value.func (.func 69) #[] #[.pointer (some ⟨W4.heap.size, 0, none⟩)], .int .i64 ((x.1 : Nat) : Int), .agg #[.int .i64 (((D2.waits.getD x.1 (0, [])).1 : Nat) : Int), dvs.getD x.1 undef], undef, undef,
          undef, undef, undef, undef, undef, undef, undef], defers := [] })
    (fun x a' u A A' row h hg hr => by
      obtain ⟨Bx, e1, e2, e3⟩ := h
      refine ⟨Bx, e1, ?_, e3⟩
      rw [hg.block Bx (Array.getElem?_eq_some_iff.1 e2).1 (fun e => ?_)]
      · exact e2
      · obtain ⟨_, o, ho, hc⟩ := hr Bx e.symm
        rw [e2] at ho; cases ho; cases hc) ?assign ?body ?done ?stop
  case assign =>
    rintro l pre x W K ⟨hp1, hp2⟩ hK
    obtain ⟨b, c, e, _⟩ := h5.datAt x.1 x.2
    rw [e] at hK ⊢
    obtain ⟨at_, hat⟩ : ∃ at_, at_ = (D2.waits.getD x.1 (0, [])).1 := ⟨_, rfl⟩
    rw [← hat] at hK ⊢
    clear hat e hs4 hs5 hone hcells
    gi_wp2
    exact hK _ _ ((KeepsOthers.alloc _ _).from _) ((Below.refl _ W).alloc hp2.size _) ⟨hp1, hp2.alloc hp2.size _⟩ ⟨W.heap.size, hp2.size, heap_alloc_new _ _, rfl⟩
  case body =>
    rintro l pre x a' W hl ⟨r, hr⟩ ⟨hne, hB⟩ ⟨Bx, hBx, bX, rfl⟩ hlt
    have cX : W.cell? ⟨Bx, 0, none⟩ = some (.int .i64 (((D2.waits.getD x.1 (0, [])).1 : Nat) : Int)) := cell_of bX
    have cX1 : W.cell? ⟨Bx, 1, none⟩ = some (dvs.getD x.1 undef) := cell_of bX
    have cq : W.cell? ⟨w.heap.size, 0, none⟩ = some (.int .i64 (i : Int)) := by rw [World.cell?_of_block (w := W5) (hB.block _ (Array.getElem?_eq_some_iff.1 hq5).1)]; exact cell_of hq5
    have cQ : W.cell? ⟨w2.heap.size + 1, 0, none⟩ = some (.slice (some ⟨w2.heap.size, 0, none⟩) 512 512) := by rw [World.cell?_of_block (w := W5) (hB.block _ (Array.getElem?_eq_some_iff.1 hQ5).1)]; exact cell_of hQ5
    have hBW : W.heap[w2.heap.size]? = some (.cells ((D2.secs.getD i []).map byteV).toArray 5 (0, 0)) := by rw [hB.block _ (by omega)]; exact hB5
    obtain ⟨at_, hat⟩ : ∃ at_, at_ = (D2.waits.getD x.1 (0, [])).1 := ⟨_, rfl⟩
    rw [← hat] at cX
    obtain ⟨g, gc, hgv, hgm, hgl, hg5, hgc⟩ := (h5.dat x.1 x.2).at
    rw [hgv] at cX1
    have hgW : ∀ j, j < 512 → W.cell? ⟨g, j, none⟩ = some (.int .u8 ((D2.waits.getD x.1 (0, [])).2.getD j 0).toNat) := fun j hj => by rw [World.cell?_of_block (w := W5) (hB.block _ hg5)]; exact hgc j hj
    have hsecl : (D2.secs.getD i []).length = 512 := h5.ok.secs _ (by simp [List.getD, hi2])
    have hrun := run_copy_full W w2.heap.size _ hBW (by rw [List.size_toArray, List.length_map]; exact hsecl) g gc _ hgl hgW 3
    obtain ⟨W7, hW7⟩ : ∃ W7, W7 = W.setRow w2.heap.size (((D2.waits.getD x.1 (0, [])).2).map byteV).toArray := ⟨_, rfl⟩
    rw [← hW7] at hrun
    have hc7 : Copied w2.heap.size (D2.waits.getD x.1 (0, [])).2 W W7 := by rw [hW7]; exact copied_setRow hBW _
    have hw25 : w2.heap.size < W5.heap.size := by omega
    have Hat := Lib.hid hat
    clear hat hgW hgc hW7 hBW hone hcells hgv hB5 hQ5 hq5 hs4 hs5
    by_cases hx : at_ = i
    · subst hx
      gi_wp2
      refine ⟨⟨by rw [hc7.size]; exact Nat.le_refl _, fun k o hk ho hco => ?_⟩, rfl, pre, x, rfl, hne, Hat.out.symm, hc7.at_, fun k hk hkB => by rw [hc7.other k hkB]; exact hB.block k hk, by rw [hc7.size]; exact hB.size, by rw [hc7.os]; exact hB.os, by rw [hc7.tape]; exact hB.tape, by rw [hc7.output]; exact hB.output⟩
      rw [hc7.other k (by omega)]; exact ho
    · gi_wp2
      exact ⟨KeepsFrom.refl _ _, Below.refl _ _, ⟨fun y hy => (List.mem_append.1 hy).elim (hne y) (fun e => by simp at e; subst e; rw [← Hat.out]; exact hx), hB⟩⟩
  case done =>
    rintro D' ys W hD' rfl ⟨hne, hB⟩ hK
    have cQ : W.cell? ⟨w2.heap.size + 1, 0, none⟩ = some (.slice (some ⟨w2.heap.size, 0, none⟩) 512 512) := by rw [World.cell?_of_block (w := W5) (hB.block _ (Array.getElem?_eq_some_iff.1 hQ5).1)]; exact cell_of hQ5
    have hbl := hB.trans (belowK_b (w := W5) (Nat.le_refl _) W D' _ (.deferred none) hD' hK rfl rfl)
    have hnow : D2.now i = D2.secs.getD i [] := by
      unfold Dk.now
      rw [now_none D2.waits i (fun j hj => hne ⟨j, hj⟩ (by unfold came; rw [List.take_of_length_le (by simp)]; simp))]
    obtain ⟨k1, k2⟩ := hkeep _ (fun k hk _ => hbl.block k hk) hbl.size hbl.os hbl.tape hbl.output
    have hBf := (hbl.block w2.heap.size (by omega)).trans hB5
    rw [← hnow] at hBf
    clear hnow hB5 hkeep
    gi_wp2
    refine ⟨by simp, .inl ⟨_, _, rfl, run_takeDeferred hK, ?_⟩⟩
    exact ⟨_, results_tmp2 rfl _ _ _, _, by omega, rfl, hBf, k2, k1⟩
  case stop =>
    rintro D' c pre W hD' ⟨k, hk, rfl⟩ ⟨rfl, ini, last, e1, e2, e3, hA⟩ hK
    have cQ : W.cell? ⟨w2.heap.size + 1, 0, none⟩ = some (.slice (some ⟨w2.heap.size, 0, none⟩) 512 512) := by rw [World.cell?_of_block (w := W5) (hA.other (w2.heap.size + 1) (Array.getElem?_eq_some_iff.1 hQ5).1 (by omega))]; exact cell_of hQ5
    have hA2 := hA.grown (grownBy_putObj' W D' (.deferred none)) (fun r e => by cases e; exact ⟨hD', _, hK, rfl⟩)
    obtain ⟨k', rfl⟩ : ∃ k', k = k' + 1 := by
      cases k with
      | zero => simp [came] at e1
      | succ k' => exact ⟨k', rfl⟩
    rw [came_succ (by omega) (D2.waits.length - 1 - k') (by omega) rfl] at e1
    obtain ⟨rfl, e5⟩ := List.append_inj' e1 rfl
    have e6 : last.1 = D2.waits.length - 1 - k' := by
      have := congrArg (fun l => l.map Fin.val) e5
      simpa using this.symm
    clear e5
    rw [e6] at e3
    have hnow : D2.now i = (D2.waits.getD (D2.waits.length - 1 - k') (0, [])).2 := by
      unfold Dk.now
      rw [now_hit D2.waits i k' _ (by omega) rfl (fun j h1 h2 => e2 ⟨j, h2⟩ ?_) e3]
      unfold came
      rw [List.mem_take_iff_getElem]
      refine ⟨D2.waits.length - 1 - j, by simp; omega, ?_⟩
      simp
      omega
    obtain ⟨k1, k2⟩ := hkeep _ hA2.other hA2.size hA2.os hA2.tape hA2.output
    have hBf := hA2.at_
    rw [e6, ← hnow] at hBf
    clear hnow hB5 hkeep
    gi_wp2
    refine ⟨by simp, .inl ⟨_, _, rfl, run_takeDeferred hK, ?_⟩⟩
    exact ⟨_, results_tmp2 rfl _ _ _, _, by omega, rfl, hBf, k2, k1⟩
end Go.Proofs.Ytnekelndcpmonaa
namespace Go.Proofs.Ytnekelndcpmonaa
open Go.RowKit

set_option maxHeartbeats 800000 in
theorem clone_calls (w : World) (a : Option Addr) (n c : Nat) (l : List UInt8) (ha : BytesAt w a l) (hl : l.length = n) (hn : n ≤ 1000000) (hnil : a = none → c = 0) :
    Calls Try.prog 37 #[.slice a n c] w fun e w' => ∃ g cap, e = .returned (.slice g n cap) ∧ OwnsB w' w.heap.size (.slice g n cap) n l ∧ Below w.heap.size w w' := by
  cases a with
  | none =>
    have h0 : n = 0 := by
      cases l with
      | nil => simpa using hl.symm
      | cons y p => obtain ⟨b, o, e, _⟩ := ha 0 (by simp); cases e
    subst h0
    have hl0 : l = [] := by simpa using hl
    subst hl0
    obtain rfl := hnil rfl
    have heq := fun (a : Option Addr) (l c : Nat) => run_eql_slice_nil (P := Try.prog) w 31 _ a l c Try.underlying31
    go_enter Try.func37, Try.ntmps37
    go_wp2
    go_ret
    exact ⟨_, _, rfl, OwnsB.nil _ _, Below.refl _ _⟩
  | some ad =>
    have heq := fun (a : Option Addr) (l c : Nat) => run_eql_slice_nil (P := Try.prog) w 31 _ a l c Try.underlying31
    go_enter Try.func37, Try.ntmps37
    have hown := OwnsB.empty w
    have hb : Below w.heap.size w (w.alloc (.cells #[] 5)) := (Below.refl _ _).alloc (Nat.le_refl _) _
    have ha1 := ha.below hb
    have hnil' : (some ad : Option Addr) = none → c = 0 := fun h => by cases h
    have hsz : w.heap.size ≤ (w.alloc (.cells #[] 5)).heap.size := by simp
    clear ha
    go_wp2_with (at_builtin; refine wpList_append_bytes rfl (.tmp 5) (.tmp 6) rfl w.heap.size _ 0 [] rfl hown (some ad) n c l rfl hnil' ha1 hl (by omega) hsz ?next)
    case next =>
      intro g cap w' hown' hgrow _ _
      go_wp2
      go_ret
      exact ⟨_, _, rfl, hown', hb.grown hgrow hb.size (fun k e => by cases e; exact Nat.le_refl _)⟩

/-- What a slice of bools of the caller's reads as. -/
theorem BoolsAt.below {w w' : World} {a : Option Addr} {l : List Bool} (h : BoolsAt w a l) (hb : Below w.heap.size w w') : BoolsAt w' a l := fun i hi => by
  obtain ⟨b, o, e, hc⟩ := h i hi
  exact ⟨b, o, e, (hb.cell (p := ⟨b, o + i, none⟩) (World.block_lt_of_cell? _ _ hc)).trans hc⟩
theorem infoB : (Try.prog.info? 4).map (fun i => (i.zero, i.size, i.bytes)) = some (some (.bool false), 1, 1) := by kernel_rfl
set_option maxHeartbeats 800000 in
theorem cloneb_calls (w : World) (a : Option Addr) (n c : Nat) (l : List Bool) (ha : BoolsAt w a l) (hl : l.length = n) (hn : n ≤ 1000000) (hnil : a = none → c = 0) :
    Calls Try.prog 46 #[.slice a n c] w fun e w' => ∃ g cap, e = .returned (.slice g n cap) ∧ w'.ownsRow w.heap.size 4 1 (.slice g n cap) n (l.map Value.bool) ∧ Below w.heap.size w w' := by
  cases a with
  | none =>
    have h0 : n = 0 := by
      cases l with
      | nil => simpa using hl.symm
      | cons y p => obtain ⟨b, o, e, _⟩ := ha 0 (by simp); cases e
    subst h0
    have hl0 : l = [] := by simpa using hl
    subst hl0
    obtain rfl := hnil rfl
    have heq := fun (a : Option Addr) (l c : Nat) => run_eql_slice_nil (P := Try.prog) w 54 _ a l c Try.underlying54
    go_enter Try.func46, Try.ntmps46
    go_wp2
    go_ret
    exact ⟨_, _, rfl, World.ownsRow_nil _ _ _ _, Below.refl _ _⟩
  | some ad =>
    have heq := fun (a : Option Addr) (l c : Nat) => run_eql_slice_nil (P := Try.prog) w 54 _ a l c Try.underlying54
    go_enter Try.func46, Try.ntmps46
    have hown : (w.alloc (.cells #[] 4)).ownsRow w.heap.size 4 1 (.slice (some ⟨w.heap.size, 0, none⟩) 0 0) 0 [] := World.ownsRow_made w #[] 0 (Nat.le_refl _) (by unfold maxLen; omega) rfl
    have hb : Below w.heap.size w (w.alloc (.cells #[] 4)) := (Below.refl _ _).alloc (Nat.le_refl _) _
    have ha1 := ha.below hb
    have hsz : w.heap.size ≤ (w.alloc (.cells #[] 4)).heap.size := by simp
    obtain ⟨i0, hi, hz0, hz1, hz2⟩ := info_parts infoB
    obtain ⟨news, hnews⟩ : ∃ news, news = l.map Value.bool := ⟨_, rfl⟩
    have hnl : news.length = n * 1 := by rw [hnews]; simp [hl]
    have hat : ∀ j u, news[j]? = some u → (w.alloc (.cells #[] 4)).cell? (ad.add j) = some u := by
      intro j u hu
      rw [hnews] at hu
      have hj : j < l.length := by have := (List.getElem?_eq_some_iff.1 hu).1; simpa using this
      obtain ⟨b, o, e, hcj⟩ := ha1 j hj
      cases e
      rw [addr_add, hcj]
      simp [hj] at hu
      rw [← hu]
      simp [List.getD, hj]
    have hone : ∀ u ∈ news, u.oneCell' = true := by
      rw [hnews]; intro u hu; obtain ⟨y, _, rfl⟩ := List.mem_map.1 hu; rfl
    rw [← hnews]
    clear ha ha1 hnews
    go_wp2_with (at_builtin; refine wpList_append_own _ rfl (.tmp 5) (.tmp 6) _ rfl w.heap.size 4 i0 (.bool false) 1 1 Try.underlying54 hi hz0 hz1 hz2 rfl (by decide) _ 0 [] rfl hown ad n c news rfl hnl hat hone (by unfold maxLen; omega) (by omega) hsz ?next)
    case next =>
      intro v' w' hown' hgrow _
      obtain ⟨g, cap, rfl, _⟩ := ownsRow_slice hown'
      go_wp2
      go_ret
      exact ⟨_, _, rfl, hown', hb.grown hgrow hb.size (fun k e => by cases e; exact Nat.le_refl _)⟩

theorem infoW : (Try.prog.info? 83).map (fun i => (i.zero, i.size, i.bytes)) = some (some (.agg #[.int .i64 0, .slice none 0 0]), 2, 32) := by kernel_rfl

/-- append of one write. -/
theorem run_append_wait (w : World) (M : Nat → Prop) (hM : ∀ k, w.heap.size ≤ k → M k) (ty : TypeId) (v : Value) (n : Nat) (xs : List Value) (hown : OwnsM w M 83 2 v n xs) (ad : Addr) (c : Nat) (u1 u2 : Value)
    (hc : ∀ j u, [u1, u2][j]? = some u → w.cell? (ad.add j) = some u) (h1 : ∀ u ∈ [u1, u2], u.oneCell' = true) (hn : n ≤ 1000000) :
    ∃ wa cap w', (Builtin.append_ #[62, 62] ty #[v, .slice (some ad) 1 c]).run Try.prog w = .ok (.slice wa (n + 1) cap) w' ∧ OwnsM w' M 83 2 (.slice wa (n + 1) cap) (n + 1) (xs ++ [u1, u2]) ∧ w.grownBy w' v.ownBlock := by
  obtain ⟨i0, hi, hz0, hz1, hz2⟩ := info_parts infoW
  obtain ⟨v', w', hr, h2, h3, h4⟩ := run_append_own (P := Try.prog) w 0 62 ty 83 i0 (.agg #[.int .i64 0, .slice none 0 0]) 2 32 Try.underlying62 hi hz0 hz1 hz2 rfl (by decide) v n xs hown.1 ad 1 c [u1, u2] rfl hc h1 (by unfold maxLen; omega) (by omega) (Nat.zero_le _)
  obtain ⟨wa, cap, rfl, _⟩ := ownsRow_slice h2
  refine ⟨wa, cap, w', hr, ⟨h2, ?_⟩, h3⟩
  intro g' hg'
  rcases hown.1.2 with ⟨rfl, rfl⟩ | ⟨g, cap0, cur, rfl, _, hg, hcap, hcm, hcs, htk⟩
  · obtain ⟨v2, w2, hr2, k2, _, _⟩ := run_append_own (P := Try.prog) w w.heap.size 62 ty 83 i0 (.agg #[.int .i64 0, .slice none 0 0]) 2 32 Try.underlying62 hi hz0 hz1 hz2 rfl (by decide) (.slice none 0 0) 0 [] (World.ownsRow_nil _ _ _ _) ad 1 c [u1, u2] rfl hc h1 (by unfold maxLen; omega) (by omega) (Nat.le_refl _)
    rw [hr] at hr2
    cases hr2
    rcases k2.2 with ⟨e, _⟩ | ⟨g2, _, _, e, hb, _⟩
    · rw [e] at hg'; cases hg'
    · rw [e] at hg'; cases hg'; exact hM _ hb
  · by_cases hroom : n + 1 ≤ cap0
    · have hr2 := run_append_room (P := Try.prog) (w := w) 62 ty 83 i0 Try.underlying62 hi g n cap0 cur hg ad 1 c [u1, u2] (by rw [hz1]; rfl) hc h1 hroom (by rw [hz1, hcs]; simp; omega)
      rw [hr] at hr2
      simp only [Result.ok.injEq, Value.slice.injEq] at hr2
      obtain ⟨⟨e, _⟩, _⟩ := hr2
      rw [e] at hg'
      cases hg'
      exact hown.2 g rfl
    · have hr2 := run_append_grow (P := Try.prog) (w := w) 62 ty 83 i0 _ Try.underlying62 hi hz0 ⟨g, 0, none⟩ n cap0 xs (by rw [hz1]; exact hown.1.1) (fun j u hu => hown.1.cells (g := g) rfl j u hu) ad 1 c [u1, u2] (by rw [hz1]; rfl) hc (by omega) (by omega) (by rw [hz2]; exact growslice_fits (by omega) (by omega))
      rw [hr] at hr2
      simp only [Result.ok.injEq, Value.slice.injEq] at hr2
      obtain ⟨⟨e, _⟩, _⟩ := hr2
      rw [e] at hg'
      cases hg'
      exact hM _ (Nat.le_refl _)
end Go.Proofs.Ytnekelndcpmonaa
