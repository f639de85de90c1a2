/- What New, is, Sectors, Down, Ops, Start come to. -/
import Derived.Test.YtgicpialopccpaaDiskMem
namespace Go.Proofs.Ytgicpialopccpaa
open Go.RowKit

theorem infoRow : (Try.prog.info? 30).map (fun i => (i.zero, i.size, i.bytes)) = some (some (.slice none 0 0), 1, 24) := by kernel_rfl
def rowsMade (n : Nat) : Array Value := madeCells (Value.slice none 0 0).cells (n * 1)
theorem rowsMade_list (n : Nat) : rowsMade n = (List.replicate n (Value.slice none 0 0)).toArray := by
  apply Array.ext
  · simp [rowsMade, madeCells]
  · intro i h1 h2
    simp [rowsMade, madeCells, Value.cells, Nat.mod_one]
theorem run_make_rows (n : Nat) (N : Int) (hN : N = (n : Int)) (hn : n ≤ 4096) (w : World) :
    (Instr.makeSlice 61 (.int .i64 N) (.int .i64 N)).run Try.prog w = .ok (.slice (some ⟨w.heap.size, 0, none⟩) n n) (w.alloc (.cells (rowsMade n) 30)) := by
  subst hN
  obtain ⟨i0, hi, hz0, hz1, hz2⟩ := info_parts infoRow
  have h := run_make (P := Try.prog) w 61 30 i0 (.slice none 0 0) Try.underlying61 hi hz0 .i64 .i64 (n : Int) (n : Int) (by omega) (Int.le_refl _) (by rw [hz2]; omega) (by omega)
  rw [h, hz1]
  rfl

set_option maxHeartbeats 400000 in
theorem new_calls (n : Nat) (N : Int) (hN : N = (n : Int)) (w : World) (M : Nat → Prop) (hM : ∀ k, w.heap.size ≤ k → M k) (h1 : 1 ≤ n) (h2 : n ≤ 4096) :
    Calls Try.prog 11 #[.int .i64 N] w fun e w' =>
      e = .returned (.tuple #[.pointer (some ⟨w.heap.size + 1, 0, none⟩), .int .i64 0]) ∧ DiskAt w' (w.heap.size + 1) (Dk.new n) M ∧ Below w.heap.size w w' ∧ w'.heap.size = w.heap.size + 2 := by
  subst hN
  have hmk := run_make_rows n (n : Int) rfl h2
  have l1 : ¬ (n : Int) < 1 := by omega
  have l2 : ¬ (4096 : Int) < (n : Int) := by omega
  go_enter Try.func11, Try.ntmps11
  go_wp2
  go_ret2
  refine ⟨rfl, ?_, (((Below.refl _ _).alloc (Nat.le_refl _) _).alloc (by simp) _), by simp⟩
  refine ⟨w.heap.size, List.replicate n (.slice none 0 0), .slice none 0 0, [], .pointer none, ?_⟩
  have hlen : (Dk.new n).secs.length = n := by simp [Dk.new]
  refine ⟨?_, hM _ (by omega), hM _ (Nat.le_refl _), ?_, by rw [hlen]; simp, ?_, ⟨World.ownsRow_nil _ _ _ _, fun g hg => by simp [Value.ownBlock] at hg⟩, rfl, fun i hi => absurd hi (Nat.not_lt_zero i), rfl, fun k hk => hM k (by simp at hk; omega), Dk.ok_new n, by rw [hlen]; exact ⟨h1, h2⟩, by simp [Dk.new]⟩
  · rw [hlen]
    have := heap_alloc_new (w.alloc (.cells (rowsMade n) 30)) (.cells #[Value.slice (some ⟨w.heap.size, 0, none⟩) n n, Value.slice none 0 0, Value.bool false, Value.int .i64 0, Value.pointer none] 65)
    rw [World.size_alloc] at this
    exact this
  · rw [Below.heap_alloc _ _ _ (by simp), heap_alloc_new, rowsMade_list]
  · intro i hi
    rw [hlen] at hi
    refine .inl ⟨by simp [List.getD, hi], ?_⟩
    have : (Dk.new n).secs = List.replicate n Dk.zero := rfl
    rw [this]
    rw [List.getD_eq_getElem?_getD, List.getElem?_replicate, if_pos hi]; rfl

set_option maxHeartbeats 400000 in
theorem new_not (n : Int) (w : World) (h : n < 1 ∨ 4096 < n) :
    Calls Try.prog 11 #[.int .i64 n] w fun e w' => e = .returned (.tuple #[.pointer none, .int .i64 1]) ∧ w = w' := by
  rcases h with h | h
  · go_enter Try.func11, Try.ntmps11
    go_wp2
    go_ret2
    exact ⟨rfl, rfl⟩
  · have l1 : ¬ n < 1 := by omega
    go_enter Try.func11, Try.ntmps11
    go_wp2
    go_ret2
    exact ⟨rfl, rfl⟩

/-- The five cells of a disk. -/
theorem DiskIn.cells {w : World} {p sb : Nat} {scs : List Value} {wv : Value} {dvs : List Value} {av : Value} {D : Dk} {M : Nat → Prop} (h : DiskIn w p sb scs wv dvs av D M) :
    w.cell? ⟨p, 0, none⟩ = some (.slice (some ⟨sb, 0, none⟩) D.secs.length D.secs.length) ∧ w.cell? ⟨p, 1, none⟩ = some wv ∧ w.cell? ⟨p, 2, none⟩ = some (.bool D.down) ∧
    w.cell? ⟨p, 3, none⟩ = some (.int .i64 D.ops) ∧ w.cell? ⟨p, 4, none⟩ = some av ∧ ∀ i, w.frozen? ⟨p, i, none⟩ = false :=
  ⟨cell_of h.hp, cell_of h.hp, cell_of h.hp, cell_of h.hp, cell_of h.hp, fun _ => free_of h.hp⟩

set_option maxHeartbeats 400000 in
theorem is_calls (w : World) (p : Nat) (D : Dk) (M : Nat → Prop) (at_ : Int) (hD : DiskAt w p D M) :
    Calls Try.prog 25 #[.pointer (some ⟨p, 0, none⟩), .int .i64 at_] w fun e w' => e = .returned (.bool (decide (0 ≤ at_ ∧ at_ < (D.secs.length : Int)))) ∧ w = w' := by
  obtain ⟨sb, scs, wv, dvs, av, h⟩ := hD
  obtain ⟨c0, _⟩ := h.cells
  have hl := h.len
  by_cases h0 : 0 ≤ at_
  · by_cases h1 : at_ < (D.secs.length : Int)
    · have e : decide (0 ≤ at_ ∧ at_ < (D.secs.length : Int)) = true := by simp [h0, h1]
      rw [e]
      clear e
      go_enter Try.func25, Try.ntmps25
      go_wp2
      go_ret
      exact ⟨rfl, rfl⟩
    · have e : decide (0 ≤ at_ ∧ at_ < (D.secs.length : Int)) = false := by simp [h1]
      rw [e]
      clear e
      go_enter Try.func25, Try.ntmps25
      go_wp2
      go_ret
      exact ⟨rfl, rfl⟩
  · have e : decide (0 ≤ at_ ∧ at_ < (D.secs.length : Int)) = false := by simp [h0]
    rw [e]
    clear e
    go_enter Try.func25, Try.ntmps25
    go_wp2
    go_ret
    exact ⟨rfl, rfl⟩

set_option maxHeartbeats 400000 in
theorem sectors_calls (w : World) (p : Nat) (D : Dk) (M : Nat → Prop) (hD : DiskAt w p D M) :
    Calls Try.prog 23 #[.pointer (some ⟨p, 0, none⟩)] w fun e w' => e = .returned (.int .i64 (D.secs.length : Int)) ∧ w = w' := by
  obtain ⟨sb, scs, wv, dvs, av, h⟩ := hD
  obtain ⟨c0, _⟩ := h.cells
  go_enter Try.func23, Try.ntmps23
  go_wp2
  go_ret
  exact ⟨rfl, rfl⟩

set_option maxHeartbeats 400000 in
theorem down_calls (w : World) (p : Nat) (D : Dk) (M : Nat → Prop) (hD : DiskAt w p D M) :
    Calls Try.prog 22 #[.pointer (some ⟨p, 0, none⟩)] w fun e w' => e = .returned (.bool D.down) ∧ w = w' := by
  obtain ⟨sb, scs, wv, dvs, av, h⟩ := hD
  obtain ⟨_, _, c2, _⟩ := h.cells
  go_enter Try.func22, Try.ntmps22
  go_wp2
  go_ret
  exact ⟨rfl, rfl⟩

set_option maxHeartbeats 400000 in
theorem ops_calls (w : World) (p : Nat) (D : Dk) (M : Nat → Prop) (hD : DiskAt w p D M) :
    Calls Try.prog 16 #[.pointer (some ⟨p, 0, none⟩)] w fun e w' => e = .returned (.int .i64 D.ops) ∧ w = w' := by
  obtain ⟨sb, scs, wv, dvs, av, h⟩ := hD
  obtain ⟨_, _, _, c3, _⟩ := h.cells
  go_enter Try.func16, Try.ntmps16
  go_wp2
  go_ret
  exact ⟨rfl, rfl⟩

/-- Start's answer. -/
def startE (D : Dk) : Int := if D.down then 0 else 10
set_option maxHeartbeats 400000 in
theorem start_calls (w : World) (p : Nat) (D : Dk) (M : Nat → Prop) (hD : DiskAt w p D M) :
    Calls Try.prog 19 #[.pointer (some ⟨p, 0, none⟩)] w fun e w' => e = .returned (.int .i64 (startE D)) ∧ DiskAt w' p D.start M ∧ Keeps M w w' := by
  obtain ⟨sb, scs, wv, dvs, av, h⟩ := hD
  obtain ⟨_, _, c2, _, _, hf⟩ := h.cells
  have f2 := hf 2
  clear hf
  cases hd : D.down with
  | false =>
    rw [hd] at c2
    have e1 : startE D = 10 := by simp [startE, hd]
    have e2 : D.start = D := by simp [Dk.start, hd]
    rw [e1, e2]
    clear e1 e2
    go_enter Try.func19, Try.ntmps19
    go_wp2
    go_ret
    exact ⟨rfl, ⟨sb, scs, wv, dvs, av, h⟩, Keeps.refl _ _⟩
  | true =>
    rw [hd] at c2
    have e1 : startE D = 0 := by simp [startE, hd]
    have e2 : D.start = { D with down := false } := by simp [Dk.start, hd]
    rw [e1, e2]
    clear e1 e2
    go_enter Try.func19, Try.ntmps19
    go_wp2
    go_ret
    refine ⟨rfl, ⟨sb, scs, wv, dvs, av, h.atP (fun k _ hk => heap_set_other hk) (by simp) wv dvs av _ ?_ rfl (.inl ⟨rfl, rfl, rfl⟩) (.inl ⟨rfl, rfl⟩) h.ops⟩, (Keeps.refl _ _).setHot h.hp h.mp rfl _⟩
    rw [heap_set h.hp]; rfl
end Go.Proofs.Ytgicpialopccpaa
