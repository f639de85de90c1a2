/- Sectors as they were written last; rows that stand. -/
import Derived.Test.YtgicpialopccpaaDiskQ
namespace Go.Proofs.Ytgicpialopccpaa
open Go.RowKit

theorem now_write {D : Dk} {n k : Nat} (h : Calm D n k) (at_ : Nat) (b : List UInt8) (i : Nat) : (D.write at_ b).now i = if at_ = i then b else D.now i := by
  have e : D.write at_ b = { D.counted with waits := D.counted.waits ++ [(at_, b)] } := by simp [Dk.write, h.fell, h.down]
  rw [e]
  unfold Dk.now
  simp only [Dk.counted, List.reverse_append, List.reverse_cons, List.reverse_nil, List.nil_append, List.singleton_append, List.find?_cons]
  by_cases e2 : at_ = i
  · subst e2; simp
  · have : (at_ == i) = false := by simpa using e2
    rw [this, if_neg e2]
theorem flush_getD (l : List (Nat × List UInt8)) (s : List (List UInt8)) (i : Nat) (hi : i < s.length) : (Dk.flush l.reverse s).getD i [] = match l.find? (fun x => x.1 == i) with
    | some x => x.2
    | none => s.getD i [] := by
  induction l with
  | nil => rfl
  | cons x l ih =>
    have e : Dk.flush (x :: l).reverse s = (Dk.flush l.reverse s).set x.1 x.2 := by
      unfold Dk.flush; rw [List.reverse_cons, List.foldl_append]; rfl
    rw [e, List.find?_cons]
    by_cases e2 : x.1 = i
    · subst e2
      simp [List.getD, Dk.flush_len, hi]
    · have : (x.1 == i) = false := by simpa using e2
      rw [this]
      simp only [List.getD, List.getElem?_set_ne e2] at ih ⊢
      exact ih
theorem now_barrier {D : Dk} {n k : Nat} (h : Calm D n k) (i : Nat) (hi : i < n) : D.barrier.now i = D.now i := by
  have e : D.barrier = { D.counted with secs := Dk.flush D.counted.waits D.counted.secs, waits := [] } := by simp [Dk.barrier, h.fell, h.down]
  rw [e]
  have hf := flush_getD D.waits.reverse D.secs i (by rw [h.len]; exact hi)
  rw [List.reverse_reverse] at hf
  unfold Dk.now
  exact hf
theorem now_begun {D : Dk} {n k : Nat} (h : Calm D n k) (i : Nat) : D.begun.now i = D.now i := by
  have e : D.begun = D.counted := by simp [Dk.begun, h.fell, h.down]
  rw [e]; rfl
theorem now_new (n i : Nat) (hi : i < n) : (Dk.new n).now i = full 0 := by
  show (Dk.new n).secs.getD i [] = full 0
  simp [Dk.new, List.getD, hi]
  rfl
theorem OwnsB.keeps {w w' : World} {M : Nat → Prop} {base n : Nat} {v : Value} {l : List UInt8} (h : OwnsB w base v n l) (hk : Keeps M w w') : OwnsB w' base v n l :=
  ⟨h.1, h.2.imp id fun ⟨g, cap, cur, e, hb, hh, r⟩ => ⟨g, cap, cur, e, hb, hk.cool hh rfl, r⟩⟩
theorem OwnsB.same {w w' : World} {base n g cap : Nat} {l : List UInt8} (h : OwnsB w base (.slice (some ⟨g, 0, none⟩) n cap) n l) (hk : w'.heap[g]? = w.heap[g]?) : OwnsB w' base (.slice (some ⟨g, 0, none⟩) n cap) n l := by
  refine ⟨h.1, h.2.imp id fun ⟨g2, cap2, cur, e, hb, hh, r⟩ => ⟨g2, cap2, cur, e, hb, ?_, r⟩⟩
  simp only [Value.slice.injEq, Option.some.injEq, Addr.mk.injEq] at e
  obtain ⟨⟨rfl, _⟩, _⟩ := e
  rw [hk]; exact hh
theorem DiskAt.new {w : World} {p : Nat} {D : Dk} {M : Nat → Prop} (h : DiskAt w p D M) : ∀ k, w.heap.size ≤ k → M k := by
  obtain ⟨sb, scs, wv, dvs, av, h'⟩ := h
  exact h'.new
/-- A store into a row that is not the disk's. -/
theorem DiskAt.store {w : World} {p : Nat} {D : Dk} {M : Nat → Prop} (h : DiskAt w p D M) (g i : Nat) (v : Value) (hg : ¬ M g) : DiskAt (w.setCell ⟨g, i, none⟩ v) p D M :=
  h.frame (fun k _ hm => ⟨heap_set_other (fun e => hg (e ▸ hm)), hm⟩) (fun k hk => h.new k (by simpa using hk))
theorem and_u16 (n : Int) (M : Nat) (hM : M < 65536) : ∃ k : Nat, k ≤ M ∧ Go.bits .and .u16 n (M : Int) = (k : Int) := by
  refine ⟨(BitVec.ofInt 16 n).toNat &&& M, Nat.and_le_right, ?_⟩
  unfold Go.bits
  rw [IntKind.wrap_u16, BitVec.ofInt_natCast]
  show ((((BitVec.ofInt 16 n) &&& (BitVec.ofNat 16 M)).toNat : Int)) % _ = _
  rw [BitVec.toNat_and, BitVec.toNat_ofNat, Nat.mod_eq_of_lt (by omega)]
  have : (BitVec.ofInt 16 n).toNat &&& M ≤ M := Nat.and_le_right
  omega

end Go.Proofs.Ytgicpialopccpaa
