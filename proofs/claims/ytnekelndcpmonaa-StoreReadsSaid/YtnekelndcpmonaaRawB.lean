/- Bytes appended to a row that came out of a string. -/
import Derived.Test.YtnekelndcpmonaaRaw
set_option linter.all false
namespace Go.Proofs.Ytnekelndcpmonaa
open Go.RowKit
set_option linter.unusedVariables false
set_option linter.unusedSimpArgs false

theorem append_raw_bytes {w : World} {R : List Asn} {g : Nat} {l : List UInt8} (S : Sep w (rawA g l :: R)) (n cap : Nat) (hcap : l.length = cap) (hn : n ≤ cap) (p : List UInt8) (g2 m c : Nat) (hpm : p.length = m) (hp : BytesAt w (some ⟨g2, 0, none⟩) p) (hm : 0 < m) (hk2 : n + m ≤ 1000000) (ty : TypeId) :
    ∃ g' l' w', (Builtin.append_ #[31, 31] ty #[.slice (some ⟨g, 0, none⟩) n cap, .slice (some ⟨g2, 0, none⟩) m c]).run Try.prog w = .ok (.slice (some ⟨g', 0, none⟩) (n + m) l'.length) w' ∧
      l'.take (n + m) = l.take n ++ p ∧ n + m ≤ l'.length ∧ Sep w' (rawA g' l' :: R) := by
  obtain ⟨i0, hi, hz0, hz1, hz2⟩ := info_parts info8
  have hnews : ∀ j u, (p.map byteV)[j]? = some u → w.cell? ((⟨g2, 0, none⟩ : Addr).add j) = some u := fun j u hu => by
    have hj : j < p.length := by
      have := (List.getElem?_eq_some_iff.1 hu).1
      simpa using this
    obtain ⟨b, o, e, h⟩ := hp j hj
    cases e
    rw [addr_add, h, ← hu]
    simp [List.getD, hj, byteV]
  by_cases hroom : n + m ≤ cap
  · have hst := run_storeCells_cells (P := Try.prog) g n (p.map byteV) 0 w (fun j hj => by
        rw [Nat.add_zero, S.raw_cell (n + j) (by simp at hj; omega)]; rfl) (fun j hj => by rw [Nat.add_zero]; exact S.raw_free (n + j) (by simp at hj; omega)) (fun v hv => by obtain ⟨x, _, rfl⟩ := List.mem_map.1 hv; rfl)
    rw [Nat.add_zero] at hst
    have S2 := Sep.raw_sets p n w l S (by omega)
    have hf := run_firstCells_some (P := Try.prog) w 1 m ⟨g2, 0, none⟩ m c (p.map byteV) (by simp [hpm]) hnews
    refine ⟨g, _, _, ?_, ?_, ?_, S2⟩
    · have hl : (l.take n ++ (p ++ l.drop (n + p.length))).length = cap := by simp; omega
      rw [hl]
      simp [Builtin.append_, run_underlying Try.underlying31, sizeOf, typeInfo, hi, hz1, Builtin.lenOf, hroom, hf, Addr.add_lit, hst]
    · have e : (l.take n ++ p).length = n + m := by simp; omega
      rw [← List.append_assoc, ← e, List.take_left]
    · simp; omega
  · have holds : ∀ j u, ((l.take n).map byteV)[j]? = some u → w.cell? ((⟨g, 0, none⟩ : Addr).add j) = some u := fun j u hu => by
      have hj : j < n := by
        have := (List.getElem?_eq_some_iff.1 hu).1
        simp at this; omega
      rw [addr_add, Nat.zero_add, S.raw_cell j (by omega), ← hu]
      simp [List.getElem?_take, hj, List.getD, show j < l.length by omega, byteV]
    have hr := run_append_grow (P := Try.prog) (w := w) 31 ty 5 i0 (.int .u8 0) Try.underlying31 hi hz0 ⟨g, 0, none⟩ n cap ((l.take n).map byteV)
      (by rw [hz1]; simp; omega) holds ⟨g2, 0, none⟩ m c (p.map byteV) (by rw [hz1]; simp [hpm]) hnews (by omega) (by omega) (by rw [hz2]; exact growslice_fits (by omega) (by omega))
    have hge := grownCap_ge w (n + m) cap 5
    obtain ⟨X, hX⟩ : ∃ X : List UInt8, X = (l.take n ++ p) ++ List.replicate (grownCap w (n + m) cap 5 - (n + m)) 0 := ⟨_, rfl⟩
    have hXl : X.length = grownCap w (n + m) cap 5 := by rw [hX]; simp; omega
    have e : ((l.take n).map byteV).toArray ++ (p.map byteV).toArray ++ Builtin.zeroCells (Value.int .u8 0).cells (grownCap w (n + m) cap 5 - (n + m)) = (X.map byteV).toArray := by
      rw [zeroCells_bytes, hX]
      apply Array.ext'
      simp
    rw [e] at hr
    refine ⟨w.heap.size, X, _, by rw [hXl]; exact hr, ?_, by omega, ?_⟩
    · have h1 : (l.take n ++ p).length = n + m := by simp; omega
      rw [hX, ← h1, List.take_left]
    · obtain ⟨F, f1, f2, f3⟩ := S.drop.drew.alloc (X.map byteV).toArray 5
      exact ⟨F, f1, ⟨⟨(0, 0), .inl rfl, f2.1⟩, f2.2⟩, f3⟩
/-- 'append(raw, []byte(s)...)'. -/
theorem wpList_append_raw_bytes {w : World} {ops : Array Oper} {rest : List Oper} {o : Oper} {a : Act} {Q : Exit → Act → World → Prop} (hgd : o.guard = none) (s x : Operand)
    (ho : o.op = .call { callee := .builtin .append, args := #[s, x], argTypes := #[31, 31] })
    {R : List Asn} {g : Nat} {l : List UInt8} (S : Sep w (rawA g l :: R)) (n cap : Nat) (p : List UInt8) (g2 m c : Nat) (hs : a.eval s = .slice (some ⟨g, 0, none⟩) n cap) (hx : a.eval x = .slice (some ⟨g2, 0, none⟩) m c) (hcap : l.length = cap) (hn : n ≤ cap) (hpm : p.length = m) (hp : BytesAt w (some ⟨g2, 0, none⟩) p) (hk : 0 < m) (hk2 : n + m ≤ 1000000)
    (h : ∀ g' l' w', l'.take (n + m) = l.take n ++ p → n + m ≤ l'.length → Sep w' (rawA g' l' :: R) → wpList Try.prog ops Q rest (a.put o.dst (.slice (some ⟨g', 0, none⟩) (n + m) l'.length)) w') : wpList Try.prog ops Q (o :: rest) a w := by
  refine wpList_plain hgd fun K hK => ?_
  obtain ⟨g', l', w', hrun, h1, h2, h3⟩ := append_raw_bytes S n cap hcap hn p g2 m c hpm hp hk hk2 o.type
  unfold Oper.wp
  simp [execOp, ho, resolve, invoke, builtin, hs, hx, hrun, Result.andThen]
  exact hK _ _ (h g' l' w' h1 h2 h3)
theorem wpList_append_raw0 {w : World} {ops : Array Oper} {rest : List Oper} {o : Oper} {a : Act} {Q : Exit → Act → World → Prop} (hgd : o.guard = none) (s x : Operand)
    (ho : o.op = .call { callee := .builtin .append, args := #[s, x], argTypes := #[31, 3] })
    {R : List Asn} {g : Nat} {l : List UInt8} (S : Sep w (rawA g l :: R)) (n cap k : Nat) (hs : a.eval s = .slice (some ⟨g, 0, none⟩) n cap) (hx : a.eval x = .int .i64 (k : Int)) (hcap : l.length = cap) (hn : n ≤ cap) (hk : 0 < k) (hk2 : n + k ≤ 1000000)
    (h : ∀ g' l' w', l'.take (n + k) = l.take n ++ List.replicate k 0 → n + k ≤ l'.length → Sep w' (rawA g' l' :: R) → wpList Try.prog ops Q rest (a.put o.dst (.slice (some ⟨g', 0, none⟩) (n + k) l'.length)) w') : wpList Try.prog ops Q (o :: rest) a w := by
  refine wpList_plain hgd fun K hK => ?_
  obtain ⟨g', l', w', hrun, h1, h2, h3⟩ := append_raw S n cap k hcap hn hk hk2 o.type
  unfold Oper.wp
  simp [execOp, ho, resolve, invoke, builtin, hs, hx, hrun, Result.andThen]
  exact hK _ _ (h g' l' w' h1 h2 h3)
end Go.Proofs.Ytnekelndcpmonaa
