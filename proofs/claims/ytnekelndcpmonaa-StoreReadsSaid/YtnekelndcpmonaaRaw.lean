/- A row of bytes that came out of a string: known whole, marked at its end. -/
import Derived.Test.YtnekelndcpmonaaMg11
import Derived.Laws.IdiomCopy
set_option linter.all false
namespace Go.Proofs.Ytnekelndcpmonaa
open Go.RowKit
set_option linter.unusedVariables false

def rawA (g : Nat) (l : List UInt8) : Asn where
  holds w F := (∃ fz : Nat × Nat, (fz = (0, 0) ∨ l.length ≤ fz.1) ∧ w.heap[g]? = some (.cells (l.map byteV).toArray 5 fz)) ∧ ∀ k, F k ↔ k = g
  base := 0
  le := fun _ _ _ => Nat.zero_le _
  lt := fun w F h k hk => by obtain ⟨fz, _, e⟩ := h.1; rw [(h.2 k).1 hk]; exact (Array.getElem?_eq_some_iff.1 e).1
  cells := fun w F h k hk => by obtain ⟨fz, _, e⟩ := h.1; exact .inr ⟨_, _, _, by rw [(h.2 k).1 hk]; exact e⟩
  keep := fun w w' F h e1 e2 e3 e4 e5 => ⟨by obtain ⟨fz, h1, e⟩ := h.1; exact ⟨fz, h1, (e5 g ((h.2 g).2 rfl)).trans e⟩, h.2⟩
namespace Sep
variable {w : World} {R : List Asn} {g : Nat} {l : List UInt8}
theorem raw (S : Sep w (rawA g l :: R)) : ∃ fz : Nat × Nat, (fz = (0, 0) ∨ l.length ≤ fz.1) ∧ w.heap[g]? = some (.cells (l.map byteV).toArray 5 fz) := by obtain ⟨F, _, h, _⟩ := S; exact h.1
theorem raw_cell (S : Sep w (rawA g l :: R)) (i : Nat) (hi : i < l.length) : w.cell? ⟨g, i, none⟩ = some (.int .u8 ((l.getD i 0).toNat : Int)) := by
  obtain ⟨fz, _, e⟩ := S.raw
  rw [cell_of e]
  simp [List.getD, hi, byteV]
theorem raw_free (S : Sep w (rawA g l :: R)) (i : Nat) (hi : i < l.length) : w.frozen? ⟨g, i, none⟩ = false := by
  obtain ⟨⟨f1, f2⟩, h, e⟩ := S.raw
  simp only [World.frozen?, e]
  rcases h with h | h
  · cases h; simp
  · have : ¬ f1 ≤ i := by simp at h; omega
    simp [this]
theorem raw_reads (S : Sep w (rawA g l :: R)) (o m : Nat) (h : o + m ≤ l.length) : BytesAt w (some ⟨g, o, none⟩) ((l.drop o).take m) := fun i hi => by
  have hi' : i < m := by rw [List.length_take] at hi; omega
  refine ⟨g, o, rfl, ?_⟩
  rw [S.raw_cell (o + i) (by omega)]
  simp [List.getD, hi']
theorem raw_cold (S : Sep w (rawA g l :: R)) : Cold (w.heap[g]?) := by
  obtain ⟨fz, _, e⟩ := S.raw
  intro c t f e2
  rw [e] at e2
  cases e2
  rfl
theorem raw_set (S : Sep w (rawA g l :: R)) (i : Nat) (x : UInt8) : Sep (w.setCell ⟨g, i, none⟩ (.int .u8 (x.toNat : Int))) (rawA g (l.set i x) :: R) :=
  step (L' := [rawA g (l.set i x)]) S rfl rfl rfl (by simp) fun F hF => by
    obtain ⟨⟨fz, h1, e⟩, h2⟩ := hF
    refine ⟨fun k _ hk => heap_set_other (fun e => hk ((h2 k).2 e)), fun k => k = g, fun k hk => .inl ((h2 k).2 hk), ⟨⟨fz, by rw [List.length_set]; exact h1, ?_⟩, fun _ => Iff.rfl⟩, trivial⟩
    rw [heap_set e, List.map_set]
    simp [byteV]
theorem raw_sets : ∀ (p : List UInt8) (o : Nat) (w : World) (l : List UInt8), Sep w (rawA g l :: R) → o + p.length ≤ l.length → Sep (w.setCells g o (p.map byteV)) (rawA g (l.take o ++ (p ++ l.drop (o + p.length))) :: R)
  | [], o, w, l, S, h => by simpa [World.setCells] using S
  | x :: p, o, w, l, S, h => by
    rw [List.length_cons] at h
    have := raw_sets p (o + 1) _ _ (S.raw_set o x) (by rw [List.length_set]; omega)
    have e : (l.set o x).take (o + 1) ++ (p ++ (l.set o x).drop (o + 1 + p.length)) = l.take o ++ (x :: p ++ l.drop (o + (x :: p).length)) := by
      rw [List.take_succ_eq_append_getElem (by rw [List.length_set]; omega), List.getElem_set_self, List.take_set_of_le (Nat.le_refl _), List.drop_set_of_lt (by omega), List.append_assoc, List.length_cons, show o + 1 + p.length = o + (p.length + 1) by omega]
      rfl
    rw [e] at this
    exact this
end Sep
theorem conv_raw {w : World} {R : List Asn} (S : Sep w R) (s : ByteArray) : Sep (Lib.bytesWorld w 5 s) (rawA w.heap.size (s.data.toList ++ List.replicate (grownCap w s.size 0 5 - s.size) 0) :: R) :=
  Sep.stepNew (L' := [rawA _ _]) S (conv_below w s) ⟨fun k => k = w.heap.size, fun k hk => by rw [hk]; exact Nat.le_refl _, ⟨⟨((Lib.bytesCells w 5 s).size, (Lib.bytesCells w 5 s).size + 1), .inr (by
    show _ ≤ (Lib.bytesCells w 5 s).size
    simp [Lib.bytesCells]), by
    rw [Lib.bytesWorld_at_new]
    congr 2
    apply Array.ext'
    simp [Lib.bytesCells, byteV]⟩, fun _ => Iff.rfl⟩, trivial⟩
theorem append_raw {w : World} {R : List Asn} {g : Nat} {l : List UInt8} (S : Sep w (rawA g l :: R)) (n cap k : Nat) (hcap : l.length = cap) (hn : n ≤ cap) (hk : 0 < k) (hk2 : n + k ≤ 1000000) (ty : TypeId) :
    ∃ g' l' w', (Builtin.append_ #[31, 3] ty #[.slice (some ⟨g, 0, none⟩) n cap, .int .i64 (k : Int)]).run Try.prog w = .ok (.slice (some ⟨g', 0, none⟩) (n + k) l'.length) w' ∧
      l'.take (n + k) = l.take n ++ List.replicate k 0 ∧ n + k ≤ l'.length ∧ Sep w' (rawA g' l' :: R) := by
  obtain ⟨i0, hi, hz0, hz1, hz2⟩ := info_parts info8
  have hw : IntKind.i64.wrap (k : Int) = k := by rw [IntKind.wrap_i64]; omega
  have hneg : ¬ ((k : Int) < 0) := by omega
  have hbig : ¬ (281474976710656 < (k : Int)) := by omega
  have h0 : k ≠ 0 := by omega
  by_cases hroom : n + k ≤ cap
  · have hst := run_storeCells_cells (P := Try.prog) g n ((List.replicate k (0 : UInt8)).map byteV) 0 w (fun j hj => by
        rw [Nat.add_zero, S.raw_cell (n + j) (by simp at hj; omega)]; rfl) (fun j hj => by rw [Nat.add_zero]; exact S.raw_free (n + j) (by simp at hj; omega)) (fun v hv => by obtain ⟨x, _, rfl⟩ := List.mem_map.1 hv; rfl)
    rw [Nat.add_zero] at hst
    have S2 := Sep.raw_sets (List.replicate k (0 : UInt8)) n w l S (by rw [List.length_replicate]; omega)
    rw [List.length_replicate] at S2
    refine ⟨g, _, _, ?_, ?_, ?_, S2⟩
    · have hl : (l.take n ++ (List.replicate k (0 : UInt8) ++ l.drop (n + k))).length = cap := by simp; omega
      rw [hl]
      simp [Builtin.append_, run_underlying Try.underlying31, run_underlying Try.underlying3, sizeOf, typeInfo, zeroValue, hi, hz0, hz1, hz2, asInt, asIntOf, hw, hroom, hneg, hbig, h0, Addr.add_lit, zeroCells_bytes]
      have hz' : List.replicate k (byteV 0) = (List.replicate k (0 : UInt8)).map byteV := by simp
      rw [hz', hst]
      simp
    · have e : (l.take n ++ List.replicate k (0 : UInt8)).length = n + k := by simp; omega
      rw [← List.append_assoc, ← e, List.take_left]
    · simp; omega
  · have holds : ∀ j u, ((l.take n).map byteV)[j]? = some u → w.drew.cell? ((⟨g, 0, none⟩ : Addr).add j) = some u := fun j u hu => by
      have hj : j < n := by
        have := (List.getElem?_eq_some_iff.1 hu).1
        simp at this; omega
      rw [addr_add, Nat.zero_add]
      show w.cell? _ = _
      rw [S.raw_cell j (by omega), ← hu]
      simp [List.getElem?_take, hj, List.getD, show j < l.length by omega, byteV]
    have hr := Lib.run_append_grow_zeros (P := Try.prog) w 31 3 ty 5 i0 (.int .u8 0) .i64 .i64 Try.underlying31 Try.underlying3 hi hz0 (some ⟨g, 0, none⟩) n cap ((l.take n).map byteV)
      (run_firstCells_some (P := Try.prog) w.drew i0.size n ⟨g, 0, none⟩ n cap ((l.take n).map byteV) (by rw [hz1]; simp; omega) holds) k hk (by rw [hz1]; omega) (by omega) (by omega) (by rw [hz2]; omega) (by rw [hz2]; exact growslice_fits (by omega) (by omega))
    have hge := grownCap_ge w (n + k) cap 5
    obtain ⟨X, hX⟩ : ∃ X : List UInt8, X = (l.take n ++ List.replicate k (0 : UInt8)) ++ List.replicate (grownCap w (n + k) cap 5 - (n + k)) 0 := ⟨_, rfl⟩
    have hXl : X.length = grownCap w (n + k) cap 5 := by rw [hX]; simp; omega
    have e : ((l.take n).map byteV).toArray ++ Builtin.zeroCells (Value.int .u8 0).cells k ++ Builtin.zeroCells (Value.int .u8 0).cells (grownCap w (n + k) cap 5 - (n + k)) = (X.map byteV).toArray := by
      rw [zeroCells_bytes, zeroCells_bytes, hX]
      apply Array.ext'
      simp
    rw [e] at hr
    refine ⟨w.heap.size, X, _, by rw [hXl]; exact hr, ?_, by omega, ?_⟩
    · have h1 : (l.take n ++ List.replicate k (0 : UInt8)).length = n + k := by simp; omega
      rw [hX, ← h1, List.take_left]
    · obtain ⟨F, f1, f2, f3⟩ := S.drop.drew.alloc (X.map byteV).toArray 5
      exact ⟨F, f1, ⟨⟨(0, 0), .inl rfl, f2.1⟩, f2.2⟩, f3⟩
end Go.Proofs.Ytnekelndcpmonaa
