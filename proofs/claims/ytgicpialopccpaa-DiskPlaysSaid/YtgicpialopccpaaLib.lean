/- Small laws of no function: bytes in memory. -/
import Derived.Test.YtgicpialopccpaaProg
import Derived.WalkKit
import Derived.KernelRfl
import Derived.Below
import Derived.Lib.Hide
import Derived.Lib.SlBytesConst
import Derived.Lib.ConvBytes
import Derived.Laws.IdiomStrings
import Derived.Laws.AppendOwnNone
namespace Go.Proofs.Ytgicpialopccpaa
open Go.RowKit

/-- One step behind another. -/
theorem bgo {w w1 w2 : World} (h : Below w.heap.size w w1) (k : Below w1.heap.size w1 w2) : Below w.heap.size w w2 := h.trans (k.mono h.size)

theorem grown_of_below {w w' : World} (h : Below w.heap.size w w') : w.grownBy w' none := ⟨h.os, h.tape, h.output, h.size, fun k hk _ => h.block k hk⟩
theorem ownsRow_below {w w' : World} {base e size n : Nat} {v : Value} {xs : List Value} (h : w.ownsRow base e size v n xs) (hb : Below w.heap.size w w') : w'.ownsRow base e size v n xs :=
  h.kept (grown_of_below hb) (by cases v.ownBlock <;> simp)

/-- A number behind a mask. -/
theorem and_i64 (n : Int) (M : Nat) (hM : M < 9223372036854775808) : ∃ k : Nat, k ≤ M ∧ Go.bits .and .i64 n (M : Int) = (k : Int) := by
  refine ⟨(BitVec.ofInt 64 n).toNat &&& M, Nat.and_le_right, ?_⟩
  unfold Go.bits
  rw [IntKind.wrap_i64, BitVec.ofInt_natCast]
  show ((((BitVec.ofInt 64 n) &&& (BitVec.ofNat 64 M)).toNat : Int) + _) % _ - _ = _
  rw [BitVec.toNat_and, BitVec.toNat_ofNat, Nat.mod_eq_of_lt (by omega)]
  have : (BitVec.ofInt 64 n).toNat &&& M ≤ M := Nat.and_le_right
  omega
theorem and_u8 (n : Int) (M : Nat) (hM : M < 256) : ∃ k : Nat, k ≤ M ∧ Go.bits .and .u8 n (M : Int) = (k : Int) := by
  refine ⟨(BitVec.ofInt 8 n).toNat &&& M, Nat.and_le_right, ?_⟩
  unfold Go.bits
  rw [IntKind.wrap_u8, BitVec.ofInt_natCast]
  show ((((BitVec.ofInt 8 n) &&& (BitVec.ofNat 8 M)).toNat : Int)) % _ = _
  rw [BitVec.toNat_and, BitVec.toNat_ofNat, Nat.mod_eq_of_lt (by omega)]
  have : (BitVec.ofInt 8 n).toNat &&& M ≤ M := Nat.and_le_right
  omega
/-- A byte as a value of the model. -/
def byteV (x : UInt8) : Value := .int .u8 (x.toNat : Int)
theorem zeros_bytes (n : Nat) : (madeCells (Value.int .u8 0).cells (n * 1)).toList = (List.replicate n (0 : UInt8)).map byteV := by
  apply List.ext_getElem
  · simp [madeCells]
  · intro i h1 h2
    simp [madeCells, Value.cells, byteV, Nat.mod_one]
/-- What a slice of bytes reads as. -/
def BytesAt (w : World) (a : Option Addr) (l : List UInt8) : Prop :=
  ∀ i, i < l.length → ∃ b o, a = some ⟨b, o, none⟩ ∧ w.cell? ⟨b, o + i, none⟩ = some (.int .u8 (l.getD i 0).toNat)
theorem BytesAt.nil (w : World) (a : Option Addr) : BytesAt w a [] := fun i h => absurd h (Nat.not_lt_zero i)
theorem BytesAt.below {w w' : World} {a : Option Addr} {l : List UInt8} (h : BytesAt w a l) (hb : Below w.heap.size w w') : BytesAt w' a l := fun i hi => by
  obtain ⟨b, o, e, hc⟩ := h i hi
  exact ⟨b, o, e, (hb.cell (p := ⟨b, o + i, none⟩) (World.block_lt_of_cell? _ _ hc)).trans hc⟩
theorem BytesAt.below' {w w' : World} {B b o : Nat} {l : List UInt8} (h : BytesAt w (some ⟨b, o, none⟩) l) (_hB : B ≤ w.heap.size) (hb' : b < B) (hb : Below B w w') : BytesAt w' (some ⟨b, o, none⟩) l := fun i hi => by
  obtain ⟨b', o', e, hc⟩ := h i hi
  cases e
  exact ⟨b, o, rfl, (hb.cell (p := ⟨b, o + i, none⟩) hb').trans hc⟩
theorem BytesAt.take {w : World} {a : Option Addr} {l : List UInt8} (h : BytesAt w a l) (m : Nat) : BytesAt w a (l.take m) := fun i hi => by
  have hi' : i < l.length := by rw [List.length_take] at hi; omega
  obtain ⟨b, o, e, hc⟩ := h i hi'
  refine ⟨b, o, e, ?_⟩
  rw [hc]
  have : i < m := by rw [List.length_take] at hi; omega
  simp [List.getD, this]
/-- The cells of a slice that is not empty. -/
theorem BytesAt.at {w : World} {a : Option Addr} {l : List UInt8} (h : BytesAt w a l) (h0 : l ≠ []) : ∃ b o, a = some ⟨b, o, none⟩ ∧ ∀ i, i < l.length → w.cell? ⟨b, o + i, none⟩ = some (.int .u8 (l.getD i 0).toNat) := by
  obtain ⟨b, o, e, _⟩ := h 0 (by cases l with | nil => exact absurd rfl h0 | cons x l => simp)
  refine ⟨b, o, e, fun i hi => ?_⟩
  obtain ⟨b', o', e', hc⟩ := h i hi
  rw [e] at e'
  simp only [Option.some.injEq, Addr.mk.injEq, and_true] at e'
  obtain ⟨rfl, rfl⟩ := e'
  exact hc
/-- What a slice of slices of bytes reads as. -/
def RowsAt (w : World) (a : Option Addr) (L : List (List UInt8)) : Prop :=
  ∀ i, i < L.length → ∃ b o ai ci, a = some ⟨b, o, none⟩ ∧ w.cell? ⟨b, o + i, none⟩ = some (.slice ai (L.getD i []).length ci) ∧ BytesAt w ai (L.getD i []) ∧ (L.getD i []).length ≤ ci ∧ (ai = none → ci = 0)
theorem addr_add (b o i : Nat) : (⟨b, o, none⟩ : Addr).add i = ⟨b, o + i, none⟩ := by unfold Addr.add; split <;> simp_all
theorem info8 : (Try.prog.info? 5).map (fun i => (i.zero, i.size, i.bytes)) = some (some (.int .u8 0), 1, 1) := by kernel_rfl

theorem BytesAt.made {w : World} {C : Array Value} {e : TypeId} {fr : Nat × Nat} (l : List UInt8) (hC : C = (l.map byteV).toArray) : BytesAt (w.alloc (.cells C e fr)) (some ⟨w.heap.size, 0, none⟩) l := fun i hi => by
  refine ⟨_, _, rfl, ?_⟩
  subst hC
  simp [World.cell?, World.alloc, -World.alloc_eq, hi, byteV]

theorem run_min4 {P : Program} (ats : Array TypeId) (ty : TypeId) (k : IntKind) (a b c d n : Nat) (D : Int) (hD : D = (d : Int)) (hn : n = min (min (min a b) c) d) (W : World) :
    (Builtin.min_ ats ty #[.int k (a : Int), .int k (b : Int), .int k (c : Int), .int k D]).run P W = .ok (.int k (n : Int)) W := by
  subst hD
  have e : Builtin.min_ ats ty #[.int k (a : Int), .int k (b : Int), .int k (c : Int), .int k (d : Int)] = pure (.int k (n : Int)) := by
    subst hn
    simp only [Builtin.min_, List.foldlM_cons, List.foldlM_nil, Builtin.min2, pure_bind]
    congr 2
    (repeat' split) <;> omega
  rw [e]; rfl

/-- 'string(b)'. -/
theorem run_string {w : World} {a : Option Addr} {l : List UInt8} (h : BytesAt w a l) (n cap : Nat) (hn : l.length = n) :
    (convert 30 9 (.slice a n cap)).run Try.prog w = .ok (.string ⟨l.toArray⟩) w := by
  subst hn
  by_cases h0 : l = []
  · subst h0
    cases a with
    | none => rw [run_convert_bytes_string w _ _ 5 none _ cap Try.underlying30 Try.underlying5 Try.underlying9]; rfl
    | some a => exact run_convert_bytes_back w _ _ 5 a cap [] Try.underlying30 Try.underlying5 Try.underlying9 (fun j hj => absurd hj (Nat.not_lt_zero j))
  · obtain ⟨b, o, rfl, hc⟩ := h.at h0
    exact run_convert_bytes_back w _ _ 5 _ cap l Try.underlying30 Try.underlying5 Try.underlying9 (fun j hj => by rw [addr_add, hc j hj]; simp [List.getD, hj])

/-- What is owned reads so. -/
theorem ownsRow_bytes {w : World} {base n cap : Nat} {a : Option Addr} {l : List UInt8} {e : TypeId} (h : w.ownsRow base e 1 (.slice a n cap) n (l.map byteV)) : BytesAt w a l ∧ l.length = n := by
  have hl : l.length = n := by have := h.1; simpa using this
  refine ⟨fun i hi => ?_, hl⟩
  rcases h.2 with ⟨e, e0⟩ | ⟨g, cap', cur, e, _⟩
  · omega
  · simp only [Value.slice.injEq] at e
    obtain ⟨rfl, _, rfl⟩ := e
    refine ⟨g, 0, rfl, ?_⟩
    have := h.cells (g := g) rfl i (byteV l[i]) (by simp [hi])
    rw [addr_add] at this
    rw [this]
    simp [byteV, List.getD, hi]
theorem ownsRow_slice {w : World} {base n : Nat} {v : Value} {xs : List Value} {e size : Nat} (h : w.ownsRow base e size v n xs) : ∃ a cap, v = .slice a n cap ∧ n ≤ cap ∧ cap ≤ maxLen := by
  rcases h.2 with ⟨rfl, rfl⟩ | ⟨g, cap', cur, rfl, _, _, h1, h2, _⟩
  · exact ⟨_, _, rfl, by omega, by unfold maxLen; omega⟩
  · exact ⟨_, _, rfl, h1, h2⟩

/-- A slice value of the call's own that holds bytes. -/
def OwnsB (w : World) (base : Nat) (v : Value) (n : Nat) (l : List UInt8) : Prop := w.ownsRow base 5 1 v n (l.map byteV)
theorem OwnsB.len {w : World} {base n : Nat} {v : Value} {l : List UInt8} (h : OwnsB w base v n l) : l.length = n := by have := h.1; simpa using this
theorem OwnsB.reads {w : World} {base n cap : Nat} {a : Option Addr} {l : List UInt8} (h : OwnsB w base (.slice a n cap) n l) : BytesAt w a l := (ownsRow_bytes h).1
theorem OwnsB.below {w w' : World} {base n : Nat} {v : Value} {l : List UInt8} (h : OwnsB w base v n l) (hb : Below w.heap.size w w') : OwnsB w' base v n l := ownsRow_below h hb
theorem OwnsB.alloc {w : World} {base n : Nat} {v : Value} {l : List UInt8} (h : OwnsB w base v n l) (o : Obj) : OwnsB (w.alloc o) base v n l := World.ownsRow.alloc h o
theorem OwnsB.empty (w : World) : OwnsB (w.alloc (.cells #[] 5)) w.heap.size (.slice (some ⟨w.heap.size, 0, none⟩) 0 0) 0 [] :=
  World.ownsRow_made w #[] 0 (Nat.le_refl _) (by unfold maxLen; omega) rfl
theorem OwnsB.nil (w : World) (base : Nat) : OwnsB w base (.slice none 0 0) 0 [] := World.ownsRow_nil w base _ _

/-- Where the bytes lie. -/
theorem OwnsB.at {w : World} {base n cap : Nat} {a : Option Addr} {l : List UInt8} (h : OwnsB w base (.slice a n cap) n l) (h0 : 0 < n) :
    ∃ g, a = some ⟨g, 0, none⟩ ∧ base ≤ g ∧ g < w.heap.size ∧ (∀ i, i < n → w.cell? ⟨g, i, none⟩ = some (.int .u8 (l.getD i 0).toNat)) ∧ (∀ i, w.frozen? ⟨g, i, none⟩ = false) := by
  have hl := h.len
  rcases h.2 with ⟨_, e0⟩ | ⟨g, cap', cur, e, hb, hh, _⟩
  · omega
  · simp only [Value.slice.injEq] at e
    obtain ⟨rfl, _, rfl⟩ := e
    refine ⟨g, rfl, hb, (Array.getElem?_eq_some_iff.1 hh).1, fun i hi => ?_, fun i => h.frozenAt i⟩
    rw [World.ownsRow.cellAt h i (by omega)]
    simp [byteV, List.getD, show i < l.length by omega]
theorem OwnsB.set {w : World} {base g n cap : Nat} {l : List UInt8} (h : OwnsB w base (.slice (some ⟨g, 0, none⟩) n cap) n l) (i : Nat) (x : UInt8) :
    OwnsB (w.setCell ⟨g, i, none⟩ (.int .u8 x.toNat)) base (.slice (some ⟨g, 0, none⟩) n cap) n (l.set i x) := by
  have := (World.ownsRow.stored h i (byteV x)).1
  unfold OwnsB
  rw [List.map_set]
  exact this

/-- 'make([]byte, n)'. -/
theorem wpList_make_bytes (w : World) {ops : Array Oper} {rest : List Oper} {o : Oper} {a : Act} {Q : Exit → Act → World → Prop}
    (hg : o.guard = none) (l c : Operand) (hop : o.op = Op.makeSlice 30 l c)
    (kl kc : IntKind) (L C : Int) (n : Nat) (hl : a.eval l = .int kl L) (hc : a.eval c = .int kc C) (hL : L = (n : Int)) (hC : C = (n : Int)) (b2 : n ≤ 281474976710656)
    (hK : ∀ w', OwnsB w' w.heap.size (.slice (some ⟨w.heap.size, 0, none⟩) n n) n (List.replicate n (0 : UInt8)) → Below w.heap.size w w' → wpList Try.prog ops Q rest (a.put o.dst (.slice (some ⟨w.heap.size, 0, none⟩) n n)) w') :
    wpList Try.prog ops Q (o :: rest) a w := by
  obtain ⟨i0, hi, hz0, hz1, hz2⟩ := info_parts info8
  refine wpList_make_full w hg l c 30 hop w.heap.size 5 i0 (.int .u8 0) 1 Try.underlying30 hi hz0 hz1 kl kc L C n hl hc hL hC (by rw [hz2]; omega) (by unfold maxLen; omega) (Nat.le_refl _) ?_
  intro w' h1 h2
  rw [zeros_bytes] at h1
  exact hK w' h1 ((Below.refl _ _).grown h2 (Nat.le_refl _) (fun k h => by cases h))

/-- 'append(out, p...)', out the call's own, p whatever bytes. -/
theorem wpList_append_bytes {w : World} {ops : Array Oper} {rest : List Oper} {o : Oper} {a : Act} {Q : Exit → Act → World → Prop} (hgd : Region.wanted o (yielded ops a.tmps) = true) (s x : Operand)
    (ho : o.op = .call { callee := .builtin .append, args := #[s, x], argTypes := #[30, 30] })
    (base : Nat) (v : Value) (n : Nat) (l : List UInt8) (hs : a.eval s = v) (hown : OwnsB w base v n l)
    (ad : Option Addr) (m c : Nat) (p : List UInt8) (hx : a.eval x = .slice ad m c) (hc : ad = none → c = 0) (hp : BytesAt w ad p) (hm : p.length = m)
    (hbytes : n + m ≤ 140737488355328) (hbase : base ≤ w.heap.size)
    (h : ∀ g cap w', OwnsB w' base (.slice g (n + m) cap) (n + m) (l ++ p) → w.grownBy w' v.ownBlock → n + m ≤ cap → cap ≤ maxLen → wpList Try.prog ops Q rest (a.put o.dst (.slice g (n + m) cap)) w') : wpList Try.prog ops Q (o :: rest) a w := by
  obtain ⟨i0, hi, hz0, hz1, hz2⟩ := info_parts info8
  cases ad with
  | none =>
    have hm0 : m = 0 := by
      cases p with
      | nil => simpa using hm.symm
      | cons y p => obtain ⟨b, o, e, _⟩ := hp 0 (by simp); cases e
    subst hm0
    have hp0 : p = [] := by simpa using hm
    subst hp0
    obtain rfl := hc rfl
    have hrun := run_append_owned_none (P := Try.prog) (w := w) base 30 o.type 5 i0 1 Try.underlying30 hi v n _ hown
    obtain ⟨g, cap, rfl, h1, h2⟩ := ownsRow_slice hown
    unfold wpList
    rw [if_pos hgd]
    refine .inl ?_
    unfold Oper.wp
    simp [execOp, ho, resolve, invoke, builtin, hs, hx, hrun, Result.andThen]
    exact h g cap w (by simpa [OwnsB] using hown) (World.grownBy.refl _ _) (by simpa using h1) h2
  | some ad =>
    unfold wpList
    rw [if_pos hgd]
    refine .inl ?_
    refine wp_append_own w s x _ ho base 5 i0 (.int .u8 0) 1 1 Try.underlying30 hi hz0 hz1 hz2 rfl (by decide) v n _ hs hown ad m c (p.map byteV) hx (by simpa using hm) ?_ ?_ (by unfold maxLen; omega) (by omega) hbase ?_
    · intro j u hu
      have hj : j < p.length := by have := (List.getElem?_eq_some_iff.1 hu).1; simpa using this
      obtain ⟨b, o, e, hcj⟩ := hp j hj
      cases e
      rw [addr_add, hcj]
      simp [hj] at hu
      rw [← hu]
      simp [byteV, List.getD, hj]
    · intro u hu
      obtain ⟨y, _, rfl⟩ := List.mem_map.1 hu
      rfl
    · intro v' w' h1 h2 _
      obtain ⟨g, cap, rfl, h3, h4⟩ := ownsRow_slice h1
      exact h g cap w' (by unfold OwnsB; rw [List.map_append]; exact h1) h2 h3 h4
end Go.Proofs.Ytgicpialopccpaa
