/- append of so many noughts (gc's append-of-make). -/
import Derived.Test.YtoihfamiclbffaaLib
import Derived.Lib.AppendZerosOnto
namespace Go.Proofs.Ytoihfamiclbffaa
open Go.RowKit

theorem zeroCells_bytes (k : Nat) : Builtin.zeroCells (Value.int .u8 0).cells k = ((List.replicate k (0 : UInt8)).map byteV).toArray := by
  apply Array.ext
  · simp [Builtin.zeroCells, Value.cells]
  · intro i h1 h2
    simp [Builtin.zeroCells, Value.cells, byteV, Nat.mod_one]
theorem run_append_zeros (w : World) (base g n cap : Nat) (l : List UInt8) (hown : OwnsB w base (.slice (some ⟨g, 0, none⟩) n cap) n l) (k : Nat) (hk : n + k ≤ 1000000) (hbase : base ≤ w.heap.size) (ty : TypeId) :
    ∃ g' cap' w', (Builtin.append_ #[33, 3] ty #[.slice (some ⟨g, 0, none⟩) n cap, .int .i64 (k : Int)]).run Try.prog w = .ok (.slice (some ⟨g', 0, none⟩) (n + k) cap') w' ∧
      OwnsB w' base (.slice (some ⟨g', 0, none⟩) (n + k) cap') (n + k) (l ++ List.replicate k 0) ∧ w.grownBy w' (some g) ∧ (g' = g ∨ g' = w.heap.size) := by
  obtain ⟨i0, hi, hz0, hz1, hz2⟩ := info_parts info8
  have hll := hown.len
  rcases hown.2 with ⟨e, _⟩ | ⟨g2, cap2, cur, e, hb, hh, hnc, hcm, hcs, htk⟩
  · cases e
  simp only [Value.slice.injEq, Option.some.injEq, Addr.mk.injEq] at e
  obtain ⟨⟨rfl, _⟩, _, rfl⟩ := e
  have hw : IntKind.i64.wrap (k : Int) = k := by rw [IntKind.wrap_i64]; omega
  have hneg : ¬ ((k : Int) < 0) := by omega
  have hbig : ¬ (281474976710656 < (k : Int)) := by omega
  obtain ⟨zs, hzs⟩ : ∃ zs : List Value, zs = (List.replicate k (0 : UInt8)).map byteV := ⟨_, rfl⟩
  have hzl : zs.length = k := by rw [hzs]; simp
  have hcs' : cur.size = cap := by omega
  by_cases hroom : n + k ≤ cap
  · have hst := run_storeCells_at Try.prog g n 5 zs 0 cur w hh (by omega) (fun v hv => by rw [hzs] at hv; obtain ⟨x, _, rfl⟩ := List.mem_map.1 hv; rfl)
    simp only [Nat.add_zero] at hst
    refine ⟨g, cap, w.setRow g (cur.toList.take n ++ zs ++ cur.toList.drop (n + zs.length)).toArray, ?_, ?_, ⟨rfl, rfl, rfl, by simp, fun j _ hj => setRow_other w g j _ (fun e => hj (by rw [e]))⟩, .inl rfl⟩
    · by_cases h0 : k = 0
      · subst h0
        have : zs = [] := List.eq_nil_of_length_eq_zero hzl
        subst this
        have hw0 : IntKind.i64.wrap 0 = 0 := by rw [IntKind.wrap_i64]; rfl
        have hnc' : n ≤ cap := hnc
        simp [Builtin.append_, run_underlying Try.underlying33, run_underlying Try.underlying3, sizeOf, typeInfo, zeroValue, hi, hz0, hz1, hz2, asInt, asIntOf, hw0, hnc', Addr.add_lit]
        rw [hst]
        simp
      · have hns : ¬ (k * 1 = 0) := by omega
        simp [Builtin.append_, run_underlying Try.underlying33, run_underlying Try.underlying3, sizeOf, typeInfo, zeroValue, hi, hz0, hz1, hz2, asInt, asIntOf, hw, hroom, hneg, hbig, h0, Addr.add_lit, zeroCells_bytes]
        have hz' : List.replicate k (byteV 0) = zs := by rw [hzs]; simp
        rw [hz', hst]
        simp
    · refine ⟨by simp [hll], .inr ⟨g, cap, _, rfl, hb, setRow_heap w g cur _ _ _ hh, hroom, hcm, ?_, ?_⟩⟩
      · simp [hzl]
        try omega
      · rw [Nat.mul_one]
        have h1 : (cur.toList.take n ++ zs).length = n + k := by simp [hzl]; omega
        rw [List.toList_toArray, ← h1, List.take_left, List.map_append, ← hzs]
        rw [Nat.mul_one] at htk
        rw [htk]
  · have hk0 : 0 < k := by omega
    have holds : ∀ j u, (l.map byteV)[j]? = some u → w.drew.cell? ((⟨g, 0, none⟩ : Addr).add j) = some u := hown.cells (g := g) rfl
    have hr := Lib.run_append_grow_zeros (P := Try.prog) w 33 3 ty 5 i0 (.int .u8 0) .i64 .i64 Try.underlying33 Try.underlying3 hi hz0 (some ⟨g, 0, none⟩) n cap (l.map byteV)
      (run_firstCells_some (P := Try.prog) w.drew i0.size n ⟨g, 0, none⟩ n cap (l.map byteV) (by rw [hz1]; simp [hll]) holds) k hk0 (by rw [hz1]; omega) (by omega) (by omega) (by rw [hz2]; omega) (by rw [hz2]; exact growslice_fits (by omega) (by omega))
    have hge := grownCap_ge w (n + k) cap 5
    have hcm2 : grownCap w (n + k) cap 5 ≤ maxLen := grownCap_le_maxLen w (n + k) cap 5 (by unfold maxLen; omega)
    refine ⟨_, _, _, hr, ⟨by simp [hll], .inr ⟨w.heap.size, _, _, rfl, hbase, heap_alloc_new w.drew _, hge, hcm2, ?_, ?_⟩⟩, ⟨rfl, rfl, rfl, by simp, fun j hj _ => Below.heap_alloc w.drew _ j hj⟩, .inr rfl⟩
    · simp only [Array.size_append, List.size_toArray, size_zeroCells, List.length_map, hll]
      show n + k * 1 + (grownCap w (n + k) cap _ - (n + k)) * 1 = _
      omega
    · rw [zeroCells_bytes, Nat.mul_one]
      simp only [Array.toList_append, List.append_assoc]
      rw [← List.append_assoc, ← List.map_append]
      have h1 : ((l ++ List.replicate k (0 : UInt8)).map byteV).length = n + k := by simp [hll]
      rw [← h1, List.take_left]
end Go.Proofs.Ytoihfamiclbffaa
