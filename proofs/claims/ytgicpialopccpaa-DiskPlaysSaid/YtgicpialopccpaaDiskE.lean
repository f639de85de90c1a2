/- What Read comes to. -/
import Derived.Test.YtgicpialopccpaaDiskD
namespace Go.Proofs.Ytgicpialopccpaa
open Go.RowKit Go.Shelf
attribute [local go_sem] Oper.semAt_some

theorem Keeps.cool {M : Nat → Prop} {w w' : World} (h : Keeps M w w') {q : Nat} {c : Array Value} {t : TypeId} {f : Nat × Nat} (hb : w.heap[q]? = some (.cells c t f)) (ht : hot t = false) : w'.heap[q]? = some (.cells c t f) := by
  rw [h.block q (Array.getElem?_eq_some_iff.1 hb).1 (fun _ c' t' f' e => by rw [hb] at e; cases e; exact ht)]
  exact hb

/-- 'copy' of a whole sector's bytes over a row of as many. -/
theorem run_copy_full (W : World) (B : Nat) (cur : Array Value) (hB : W.heap[B]? = some (.cells cur 5 (0, 0))) (hcur : cur.size = 512) (g cap : Nat) (l : List UInt8) (hl : l.length = 512) (hg : ∀ i, i < 512 → W.cell? ⟨g, i, none⟩ = some (.int .u8 (l.getD i 0).toNat)) (ty : TypeId) :
    (Builtin.copy_ #[30, 30] ty #[.slice (some ⟨B, 0, none⟩) 512 512, .slice (some ⟨g, 0, none⟩) 512 cap]).run Try.prog W = .ok (goInt 512) (W.setRow B (l.map byteV).toArray) := by
  have h := run_copy_row (P := Try.prog) W 30 30 ty 5 B 0 512 512 ⟨g, 0, none⟩ 512 cap cur 5 (l.map byteV) Try.underlying30 (by kernel_rfl) hB (by simp [hl]) (fun j v hv => by
    rw [addr_add, Nat.zero_add]
    have hj : j < 512 := by have := (List.getElem?_eq_some_iff.1 hv).1; simpa [hl] using this
    rw [hg j hj]
    simp [List.getElem?_eq_getElem (show j < l.length by omega)] at hv
    rw [← hv]; simp [List.getD, show j < l.length by omega, byteV]) (by simp [hl, hcur]) (fun v hv => by simp at hv; obtain ⟨x, _, rfl⟩ := hv; rfl)
  simp only [List.length_map, hl, Nat.zero_add, List.take_zero, List.nil_append] at h
  rw [List.drop_eq_nil_of_le (by simp [hcur]), List.append_nil] at h
  exact h
/-- What lies behind it. -/
structure Copied (B : Nat) (l : List UInt8) (W W' : World) : Prop where
  at_ : W'.heap[B]? = some (.cells (l.map byteV).toArray 5 (0, 0))
  other : ∀ k, k ≠ B → W'.heap[k]? = W.heap[k]?
  size : W'.heap.size = W.heap.size
  os : W'.os = W.os
  tape : W'.tape = W.tape
  output : W'.output = W.output
theorem copied_setRow {W : World} {B : Nat} {cur : Array Value} (hB : W.heap[B]? = some (.cells cur 5 (0, 0))) (l : List UInt8) : Copied B l W (W.setRow B (l.map byteV).toArray) :=
  ⟨setRow_heap W B cur _ _ _ hB, fun k hk => setRow_other W B k _ hk, setRow_size _ _ _, rfl, rfl, rfl⟩
theorem OwnsM.at {w : World} {M : Nat → Prop} {v : Value} {l : List UInt8} (h : OwnsM w M 5 1 v 512 (l.map byteV)) :
    ∃ g c, v = .slice (some ⟨g, 0, none⟩) 512 c ∧ M g ∧ l.length = 512 ∧ g < w.heap.size ∧ ∀ i, i < 512 → w.cell? ⟨g, i, none⟩ = some (.int .u8 (l.getD i 0).toNat) := by
  obtain ⟨a, c, rfl, _⟩ := ownsRow_slice h.1
  have ho : OwnsB w 0 (.slice a 512 c) 512 l := h.1
  obtain ⟨g, rfl, _, hg, hc, _⟩ := ho.at (by omega)
  exact ⟨g, c, rfl, h.2 g rfl, ho.len, hg, hc⟩
theorem copy_sec (W : World) (M : Nat → Prop) (B : Nat) (v : Value) (l : List UInt8) (hB : W.heap[B]? = some (.cells (Dk.zero.map byteV).toArray 5 (0, 0))) (hv : SecAt W M v l) (ty : TypeId) :
    ∃ r W', (Builtin.copy_ #[30, 30] ty #[.slice (some ⟨B, 0, none⟩) 512 512, v]).run Try.prog W = .ok r W' ∧ Copied B l W W' := by
  rcases hv with ⟨rfl, rfl⟩ | ⟨hl, h⟩
  · exact ⟨_, W, run_copy_nil (P := Try.prog) W _ _ _ 5 _ 512 512 Try.underlying30 (by kernel_rfl), hB, fun _ _ => rfl, rfl, rfl, rfl, rfl⟩
  · obtain ⟨g, c, rfl, _, _, _, hc⟩ := h.at
    exact ⟨_, _, run_copy_full W B _ hB (by simp [Dk.zero_len]) g c l hl hc ty, copied_setRow hB l⟩
/-- The sector as the writes tell. -/
theorem now_hit (ws : List (Nat × List UInt8)) (at_ : Nat) (k r : Nat) (hk : k < ws.length) (hr : r = ws.length - 1 - k) (hall : ∀ j, r < j → j < ws.length → (ws.getD j (0, [])).1 ≠ at_) (hit : (ws.getD r (0, [])).1 = at_) : ws.reverse.find? (fun x => x.1 == at_) = some (ws.getD r (0, [])) := by
  rw [List.find?_eq_some_iff_getElem]
  refine ⟨by simpa using hit, k, by simpa using hk, ?_, ?_⟩
  · subst hr; simp [List.getD, show ws.length - 1 - k < ws.length by omega]
  · intro j hj
    have := hall (ws.length - 1 - j) (by omega) (by omega)
    simp [List.getD, show ws.length - 1 - j < ws.length by omega] at this
    simpa using this
theorem now_none (ws : List (Nat × List UInt8)) (at_ : Nat) (hall : ∀ j, j < ws.length → (ws.getD j (0, [])).1 ≠ at_) : ws.reverse.find? (fun x => x.1 == at_) = none := by
  rw [List.find?_eq_none]
  intro x hx
  obtain ⟨j, hj, rfl⟩ := List.getElem_of_mem (List.mem_reverse.1 hx)
  have := hall j hj
  simp [List.getD, hj] at this
  simpa using this

theorem run_make_sector (w : World) :
    (Instr.makeSlice 30 (.int .i64 512) (.int .i64 512)).run Try.prog w = .ok (.slice (some ⟨w.heap.size, 0, none⟩) 512 512) (w.alloc (.cells (Dk.zero.map byteV).toArray 5)) := by
  obtain ⟨i0, hi, hz0, hz1, hz2⟩ := info_parts info8
  have h := run_make (P := Try.prog) w 30 5 i0 (.int .u8 0) Try.underlying30 hi hz0 .i64 .i64 (512 : Int) (512 : Int) (by omega) (Int.le_refl _) (by rw [hz2]; omega) (by omega)
  rw [h, hz1]
  have e : madeCells (Value.int .u8 0).cells (512 * 1) = (Dk.zero.map byteV).toArray := by
    have := zeros_bytes 512
    apply Array.ext'
    rw [this]; rfl
  show Result.ok _ (w.alloc (.cells (madeCells (Value.int .u8 0).cells (512 * 1)) _)) = _
  rw [e]; rfl

set_option maxHeartbeats 800000 in
theorem read_arg (w : World) (p : Nat) (D : Dk) (M : Nat → Prop) (at_ : Int) (hD : DiskAt w p D M) (h : ¬ (0 ≤ at_ ∧ at_ < (D.secs.length : Int))) :
    Calls Try.prog 15 #[.pointer (some ⟨p, 0, none⟩), .int .i64 at_] w fun e w' => e = .returned (.tuple #[.slice none 0 0, .int .i64 1]) ∧ DiskAt w' p D M ∧ Below w.heap.size w w' := by
  have hb : Below w.heap.size w (w.alloc (.cells #[.int .i64 at_] 3)) := (Below.refl _ _).alloc (Nat.le_refl _) _
  have hD1 := hD.grow hb
  have hdec : decide (0 ≤ at_ ∧ at_ < (D.secs.length : Int)) = false := decide_eq_false h
  go_enter Try.func15, Try.ntmps15
  go_wp2_with fail
  refine (is_calls _ p D M at_ hD1).mono ?_
  rw [hdec]
  rintro e w1 ⟨rfl, rfl⟩
  clear hdec h
  go_wp2
  go_ret2
  exact ⟨rfl, hD1, hb⟩

set_option maxHeartbeats 800000 in
theorem read_down (w : World) (p : Nat) (D : Dk) (M : Nat → Prop) (at_ : Int) (hD : DiskAt w p D M) (h : 0 ≤ at_ ∧ at_ < (D.secs.length : Int)) (hd : D.fell.down = true) :
    Calls Try.prog 15 #[.pointer (some ⟨p, 0, none⟩), .int .i64 at_] w fun e w' => e = .returned (.tuple #[.slice none 0 0, .int .i64 11]) ∧ DiskAt w' p D.begun M ∧ Keeps M w w' := by
  have hb : Below w.heap.size w (w.alloc (.cells #[.int .i64 at_] 3)) := (Below.refl _ _).alloc (Nat.le_refl _) _
  have hD1 := hD.grow hb
  have hdec : decide (0 ≤ at_ ∧ at_ < (D.secs.length : Int)) = true := decide_eq_true h
  go_enter Try.func15, Try.ntmps15
  go_wp2_with fail
  refine (is_calls _ p D M at_ hD1).mono ?_
  rw [hdec]
  rintro e w1 ⟨rfl, rfl⟩
  clear hdec h
  go_wp2_with fail
  refine (begin_calls _ p D M hD1).mono ?_
  have eb : beginE D = 11 := by simp [beginE, hd]
  rw [eb]
  rintro e w2 ⟨rfl, hD2, hk⟩
  clear eb hd
  go_wp2
  go_ret2
  exact ⟨rfl, hD2, (Keeps.of_below hb).trans hk⟩
end Go.Proofs.Ytgicpialopccpaa
