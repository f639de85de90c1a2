/- Small laws of no function: bytes in memory. A disk, as plain data: of no program. How a disk lies in memory. What New, is, Sectors, Down, Ops, Start come to. -/
import Derived.Test.YtnekelndcpmonaaProg
import Derived.WalkKit
import Derived.KernelRfl
import Derived.Below
import Derived.Lib.Hide
import Derived.Lib.SlBytesConst
import Derived.Lib.ConvBytes
import Derived.Laws.IdiomStrings
import Derived.Laws.AppendOwnNone
set_option linter.all false
namespace Go.Proofs.Ytnekelndcpmonaa
open Go.RowKit

/-- One step behind another. -/
theorem bgo {w w1 w2 : World} (h : Below w.heap.size w w1) (k : Below w1.heap.size w1 w2) : Below w.heap.size w w2 := h.trans (k.mono h.size)

theorem grown_of_below {w w' : World} (h : Below w.heap.size w w') : w.grownBy w' none := ⟨h.os, h.tape, h.output, h.size, fun k hk _ => h.block k hk⟩
theorem ownsRow_below {w w' : World} {base e size n : Nat} {v : Value} {xs : List Value} (h : w.ownsRow base e size v n xs) (hb : Below w.heap.size w w') : w'.ownsRow base e size v n xs :=
  h.kept (grown_of_below hb) (by cases v.ownBlock <;> simp)

/-- A number behind a mask. -/
theorem and_i64 (n : Int) (M : Nat) (hM : M < 9223372036854775808) : ∃ k : Nat, k ≤ M ∧ Go.bits .and .i64 n (M : Int) = (k : Int) := by
  refine ⟨(BitVec.ofInt 64 n).toNat &&& M, Nat.and_le_right, ?_⟩
  unfold Go.bits
  rw [IntKind.wrap_i64, BitVec.ofInt_natCast]
  show ((((BitVec.ofInt 64 n) &&& (BitVec.ofNat 64 M)).toNat : Int) + _) % _ - _ = _
  rw [BitVec.toNat_and, BitVec.toNat_ofNat, Nat.mod_eq_of_lt (by omega)]
  have : (BitVec.ofInt 64 n).toNat &&& M ≤ M := Nat.and_le_right
  omega
theorem and_u8 (n : Int) (M : Nat) (hM : M < 256) : ∃ k : Nat, k ≤ M ∧ Go.bits .and .u8 n (M : Int) = (k : Int) := by
  refine ⟨(BitVec.ofInt 8 n).toNat &&& M, Nat.and_le_right, ?_⟩
  unfold Go.bits
  rw [IntKind.wrap_u8, BitVec.ofInt_natCast]
  show ((((BitVec.ofInt 8 n) &&& (BitVec.ofNat 8 M)).toNat : Int)) % _ = _
  rw [BitVec.toNat_and, BitVec.toNat_ofNat, Nat.mod_eq_of_lt (by omega)]
  have : (BitVec.ofInt 8 n).toNat &&& M ≤ M := Nat.and_le_right
  omega
/-- A byte as a value of the model. -/
def byteV (x : UInt8) : Value := .int .u8 (x.toNat : Int)
theorem zeros_bytes (n : Nat) : (madeCells (Value.int .u8 0).cells (n * 1)).toList = (List.replicate n (0 : UInt8)).map byteV := by
  apply List.ext_getElem
  · simp [madeCells]
  · intro i h1 h2
    simp [madeCells, Value.cells, byteV, Nat.mod_one]
/-- What a slice of bytes reads as. -/
def BytesAt (w : World) (a : Option Addr) (l : List UInt8) : Prop :=
  ∀ i, i < l.length → ∃ b o, a = some ⟨b, o, none⟩ ∧ w.cell? ⟨b, o + i, none⟩ = some (.int .u8 (l.getD i 0).toNat)
theorem BytesAt.nil (w : World) (a : Option Addr) : BytesAt w a [] := fun i h => absurd h (Nat.not_lt_zero i)
theorem BytesAt.below {w w' : World} {a : Option Addr} {l : List UInt8} (h : BytesAt w a l) (hb : Below w.heap.size w w') : BytesAt w' a l := fun i hi => by
  obtain ⟨b, o, e, hc⟩ := h i hi
  exact ⟨b, o, e, (hb.cell (p := ⟨b, o + i, none⟩) (World.block_lt_of_cell? _ _ hc)).trans hc⟩
theorem BytesAt.below' {w w' : World} {B b o : Nat} {l : List UInt8} (h : BytesAt w (some ⟨b, o, none⟩) l) (_hB : B ≤ w.heap.size) (hb' : b < B) (hb : Below B w w') : BytesAt w' (some ⟨b, o, none⟩) l := fun i hi => by
  obtain ⟨b', o', e, hc⟩ := h i hi
  cases e
  exact ⟨b, o, rfl, (hb.cell (p := ⟨b, o + i, none⟩) hb').trans hc⟩
theorem BytesAt.take {w : World} {a : Option Addr} {l : List UInt8} (h : BytesAt w a l) (m : Nat) : BytesAt w a (l.take m) := fun i hi => by
  have hi' : i < l.length := by rw [List.length_take] at hi; omega
  obtain ⟨b, o, e, hc⟩ := h i hi'
  refine ⟨b, o, e, ?_⟩
  rw [hc]
  have : i < m := by rw [List.length_take] at hi; omega
  simp [List.getD, this]
/-- The cells of a slice that is not empty. -/
theorem BytesAt.at {w : World} {a : Option Addr} {l : List UInt8} (h : BytesAt w a l) (h0 : l ≠ []) : ∃ b o, a = some ⟨b, o, none⟩ ∧ ∀ i, i < l.length → w.cell? ⟨b, o + i, none⟩ = some (.int .u8 (l.getD i 0).toNat) := by
  obtain ⟨b, o, e, _⟩ := h 0 (by cases l with | nil => exact absurd rfl h0 | cons x l => simp)
  refine ⟨b, o, e, fun i hi => ?_⟩
  obtain ⟨b', o', e', hc⟩ := h i hi
  rw [e] at e'
  simp only [Option.some.injEq, Addr.mk.injEq, and_true] at e'
  obtain ⟨rfl, rfl⟩ := e'
  exact hc
/-- What a slice of slices of bytes reads as. -/
def RowsAt (w : World) (a : Option Addr) (L : List (List UInt8)) : Prop :=
  ∀ i, i < L.length → ∃ b o ai ci, a = some ⟨b, o, none⟩ ∧ w.cell? ⟨b, o + i, none⟩ = some (.slice ai (L.getD i []).length ci) ∧ BytesAt w ai (L.getD i []) ∧ (L.getD i []).length ≤ ci ∧ (ai = none → ci = 0)
theorem addr_add (b o i : Nat) : (⟨b, o, none⟩ : Addr).add i = ⟨b, o + i, none⟩ := by unfold Addr.add; split <;> simp_all
theorem info8 : (Try.prog.info? 5).map (fun i => (i.zero, i.size, i.bytes)) = some (some (.int .u8 0), 1, 1) := by kernel_rfl

theorem BytesAt.made {w : World} {C : Array Value} {e : TypeId} {fr : Nat × Nat} (l : List UInt8) (hC : C = (l.map byteV).toArray) : BytesAt (w.alloc (.cells C e fr)) (some ⟨w.heap.size, 0, none⟩) l := fun i hi => by
  refine ⟨_, _, rfl, ?_⟩
  subst hC
  simp [World.cell?, World.alloc, -World.alloc_eq, hi, byteV]

theorem run_min4 {P : Program} (ats : Array TypeId) (ty : TypeId) (k : IntKind) (a b c d n : Nat) (D : Int) (hD : D = (d : Int)) (hn : n = min (min (min a b) c) d) (W : World) :
    (Builtin.min_ ats ty #[.int k (a : Int), .int k (b : Int), .int k (c : Int), .int k D]).run P W = .ok (.int k (n : Int)) W := by
  subst hD
  have e : Builtin.min_ ats ty #[.int k (a : Int), .int k (b : Int), .int k (c : Int), .int k (d : Int)] = pure (.int k (n : Int)) := by
    subst hn
    simp only [Builtin.min_, List.foldlM_cons, List.foldlM_nil, Builtin.min2, pure_bind]
    congr 2
    (repeat' split) <;> omega
  rw [e]; rfl

/-- 'string(b)'. -/
theorem run_string {w : World} {a : Option Addr} {l : List UInt8} (h : BytesAt w a l) (n cap : Nat) (hn : l.length = n) :
    (convert 31 9 (.slice a n cap)).run Try.prog w = .ok (.string ⟨l.toArray⟩) w := by
  subst hn
  by_cases h0 : l = []
  · subst h0
    cases a with
    | none => rw [run_convert_bytes_string w _ _ 5 none _ cap Try.underlying31 Try.underlying5 Try.underlying9]; rfl
    | some a => exact run_convert_bytes_back w _ _ 5 a cap [] Try.underlying31 Try.underlying5 Try.underlying9 (fun j hj => absurd hj (Nat.not_lt_zero j))
  · obtain ⟨b, o, rfl, hc⟩ := h.at h0
    exact run_convert_bytes_back w _ _ 5 _ cap l Try.underlying31 Try.underlying5 Try.underlying9 (fun j hj => by rw [addr_add, hc j hj]; simp [List.getD, hj])

/-- What is owned reads so. -/
theorem ownsRow_bytes {w : World} {base n cap : Nat} {a : Option Addr} {l : List UInt8} {e : TypeId} (h : w.ownsRow base e 1 (.slice a n cap) n (l.map byteV)) : BytesAt w a l ∧ l.length = n := by
  have hl : l.length = n := by have := h.1; simpa using this
  refine ⟨fun i hi => ?_, hl⟩
  rcases h.2 with ⟨e, e0⟩ | ⟨g, cap', cur, e, _⟩
  · omega
  · simp only [Value.slice.injEq] at e
    obtain ⟨rfl, _, rfl⟩ := e
    refine ⟨g, 0, rfl, ?_⟩
    have := h.cells (g := g) rfl i (byteV l[i]) (by simp [hi])
    rw [addr_add] at this
    rw [this]
    simp [byteV, List.getD, hi]
theorem ownsRow_slice {w : World} {base n : Nat} {v : Value} {xs : List Value} {e size : Nat} (h : w.ownsRow base e size v n xs) : ∃ a cap, v = .slice a n cap ∧ n ≤ cap ∧ cap ≤ maxLen := by
  rcases h.2 with ⟨rfl, rfl⟩ | ⟨g, cap', cur, rfl, _, _, h1, h2, _⟩
  · exact ⟨_, _, rfl, by omega, by unfold maxLen; omega⟩
  · exact ⟨_, _, rfl, h1, h2⟩

/-- A slice value of the call's own that holds bytes. -/
def OwnsB (w : World) (base : Nat) (v : Value) (n : Nat) (l : List UInt8) : Prop := w.ownsRow base 5 1 v n (l.map byteV)
theorem OwnsB.len {w : World} {base n : Nat} {v : Value} {l : List UInt8} (h : OwnsB w base v n l) : l.length = n := by have := h.1; simpa using this
theorem OwnsB.reads {w : World} {base n cap : Nat} {a : Option Addr} {l : List UInt8} (h : OwnsB w base (.slice a n cap) n l) : BytesAt w a l := (ownsRow_bytes h).1
theorem OwnsB.below {w w' : World} {base n : Nat} {v : Value} {l : List UInt8} (h : OwnsB w base v n l) (hb : Below w.heap.size w w') : OwnsB w' base v n l := ownsRow_below h hb
theorem OwnsB.alloc {w : World} {base n : Nat} {v : Value} {l : List UInt8} (h : OwnsB w base v n l) (o : Obj) : OwnsB (w.alloc o) base v n l := World.ownsRow.alloc h o
theorem OwnsB.empty (w : World) : OwnsB (w.alloc (.cells #[] 5)) w.heap.size (.slice (some ⟨w.heap.size, 0, none⟩) 0 0) 0 [] :=
  World.ownsRow_made w #[] 0 (Nat.le_refl _) (by unfold maxLen; omega) rfl
theorem OwnsB.nil (w : World) (base : Nat) : OwnsB w base (.slice none 0 0) 0 [] := World.ownsRow_nil w base _ _

/-- Where the bytes lie. -/
theorem OwnsB.at {w : World} {base n cap : Nat} {a : Option Addr} {l : List UInt8} (h : OwnsB w base (.slice a n cap) n l) (h0 : 0 < n) :
    ∃ g, a = some ⟨g, 0, none⟩ ∧ base ≤ g ∧ g < w.heap.size ∧ (∀ i, i < n → w.cell? ⟨g, i, none⟩ = some (.int .u8 (l.getD i 0).toNat)) ∧ (∀ i, w.frozen? ⟨g, i, none⟩ = false) := by
  have hl := h.len
  rcases h.2 with ⟨_, e0⟩ | ⟨g, cap', cur, e, hb, hh, _⟩
  · omega
  · simp only [Value.slice.injEq] at e
    obtain ⟨rfl, _, rfl⟩ := e
    refine ⟨g, rfl, hb, (Array.getElem?_eq_some_iff.1 hh).1, fun i hi => ?_, fun i => h.frozenAt i⟩
    rw [World.ownsRow.cellAt h i (by omega)]
    simp [byteV, List.getD, show i < l.length by omega]
theorem OwnsB.set {w : World} {base g n cap : Nat} {l : List UInt8} (h : OwnsB w base (.slice (some ⟨g, 0, none⟩) n cap) n l) (i : Nat) (x : UInt8) :
    OwnsB (w.setCell ⟨g, i, none⟩ (.int .u8 x.toNat)) base (.slice (some ⟨g, 0, none⟩) n cap) n (l.set i x) := by
  have := (World.ownsRow.stored h i (byteV x)).1
  unfold OwnsB
  rw [List.map_set]
  exact this

/-- 'make([]byte, n)'. -/
theorem wpList_make_bytes (w : World) {ops : Array Oper} {rest : List Oper} {o : Oper} {a : Act} {Q : Exit → Act → World → Prop}
    (hg : o.guard = none) (l c : Operand) (hop : o.op = Op.makeSlice 31 l c)
    (kl kc : IntKind) (L C : Int) (n : Nat) (hl : a.eval l = .int kl L) (hc : a.eval c = .int kc C) (hL : L = (n : Int)) (hC : C = (n : Int)) (b2 : n ≤ 281474976710656)
    (hK : ∀ w', OwnsB w' w.heap.size (.slice (some ⟨w.heap.size, 0, none⟩) n n) n (List.replicate n (0 : UInt8)) → Below w.heap.size w w' → wpList Try.prog ops Q rest (a.put o.dst (.slice (some ⟨w.heap.size, 0, none⟩) n n)) w') :
    wpList Try.prog ops Q (o :: rest) a w := by
  obtain ⟨i0, hi, hz0, hz1, hz2⟩ := info_parts info8
  refine wpList_make_full w hg l c 31 hop w.heap.size 5 i0 (.int .u8 0) 1 Try.underlying31 hi hz0 hz1 kl kc L C n hl hc hL hC (by rw [hz2]; omega) (by unfold maxLen; omega) (Nat.le_refl _) ?_
  intro w' h1 h2
  rw [zeros_bytes] at h1
  exact hK w' h1 ((Below.refl _ _).grown h2 (Nat.le_refl _) (fun k h => by cases h))

/-- 'append(out, p...)', out the call's own, p whatever bytes. -/
theorem wpList_append_bytes {w : World} {ops : Array Oper} {rest : List Oper} {o : Oper} {a : Act} {Q : Exit → Act → World → Prop} (hgd : Region.wanted o (yielded ops a.tmps) = true) (s x : Operand)
    (ho : o.op = .call { callee := .builtin .append, args := #[s, x], argTypes := #[31, 31] })
    (base : Nat) (v : Value) (n : Nat) (l : List UInt8) (hs : a.eval s = v) (hown : OwnsB w base v n l)
    (ad : Option Addr) (m c : Nat) (p : List UInt8) (hx : a.eval x = .slice ad m c) (hc : ad = none → c = 0) (hp : BytesAt w ad p) (hm : p.length = m)
    (hbytes : n + m ≤ 140737488355328) (hbase : base ≤ w.heap.size)
    (h : ∀ g cap w', OwnsB w' base (.slice g (n + m) cap) (n + m) (l ++ p) → w.grownBy w' v.ownBlock → n + m ≤ cap → cap ≤ maxLen → wpList Try.prog ops Q rest (a.put o.dst (.slice g (n + m) cap)) w') : wpList Try.prog ops Q (o :: rest) a w := by
  obtain ⟨i0, hi, hz0, hz1, hz2⟩ := info_parts info8
  cases ad with
  | none =>
    have hm0 : m = 0 := by
      cases p with
      | nil => simpa using hm.symm
      | cons y p => obtain ⟨b, o, e, _⟩ := hp 0 (by simp); cases e
    subst hm0
    have hp0 : p = [] := by simpa using hm
    subst hp0
    obtain rfl := hc rfl
    have hrun := run_append_owned_none (P := Try.prog) (w := w) base 31 o.type 5 i0 1 Try.underlying31 hi v n _ hown
    obtain ⟨g, cap, rfl, h1, h2⟩ := ownsRow_slice hown
    unfold wpList
    rw [if_pos hgd]
    refine .inl ?_
    unfold Oper.wp
    simp [execOp, ho, resolve, invoke, builtin, hs, hx, hrun, Result.andThen]
    exact h g cap w (by simpa [OwnsB] using hown) (World.grownBy.refl _ _) (by simpa using h1) h2
  | some ad =>
    unfold wpList
    rw [if_pos hgd]
    refine .inl ?_
    refine wp_append_own w s x _ ho base 5 i0 (.int .u8 0) 1 1 Try.underlying31 hi hz0 hz1 hz2 rfl (by decide) v n _ hs hown ad m c (p.map byteV) hx (by simpa using hm) ?_ ?_ (by unfold maxLen; omega) (by omega) hbase ?_
    · intro j u hu
      have hj : j < p.length := by have := (List.getElem?_eq_some_iff.1 hu).1; simpa using this
      obtain ⟨b, o, e, hcj⟩ := hp j hj
      cases e
      rw [addr_add, hcj]
      simp [hj] at hu
      rw [← hu]
      simp [byteV, List.getD, hj]
    · intro u hu
      obtain ⟨y, _, rfl⟩ := List.mem_map.1 hu
      rfl
    · intro v' w' h1 h2 _
      obtain ⟨g, cap, rfl, h3, h4⟩ := ownsRow_slice h1
      exact h g cap w' (by unfold OwnsB; rw [List.map_append]; exact h1) h2 h3 h4
end Go.Proofs.Ytnekelndcpmonaa
namespace Go.Proofs.Ytnekelndcpmonaa

/-- A disk: its sectors, the writes that wait, whether it is down, how many operations were done (as a number that wraps), the crash that is armed. -/
structure Dk where
  secs : List (List UInt8)
  waits : List (Nat × List UInt8)
  down : Bool
  ops : Int
  armed : Option (Nat × List Bool)

namespace Dk
def wrapI (n : Int) : Int := (n + 9223372036854775808) % 18446744073709551616 - 9223372036854775808
theorem wrapI_small {n : Int} (h0 : -9223372036854775808 ≤ n) (h1 : n ≤ 9223372036854775807) : wrapI n = n := by unfold wrapI; omega
theorem wrapI_range (n : Int) : -9223372036854775808 ≤ wrapI n ∧ wrapI n ≤ 9223372036854775807 := by unfold wrapI; omega
def zero : List UInt8 := List.replicate 512 0
def new (n : Nat) : Dk := { secs := List.replicate n zero, waits := [], down := false, ops := 0, armed := none }
/-- The sectors behind those waiting writes, from number i on, that are kept. -/
def keepFrom (keep : List Bool) : Nat → List (Nat × List UInt8) → List (List UInt8) → List (List UInt8)
  | _, [], s => s
  | i, x :: l, s => keepFrom keep (i + 1) l (if keep.getD i false then s.set x.1 x.2 else s)
def crash (d : Dk) (keep : List Bool) : Dk := { d with secs := keepFrom keep 0 d.waits d.secs, waits := [], down := true, armed := none }
/-- Is a crash due? -/
def due (d : Dk) : Bool := match d.armed with
  | some (0, _) => !d.down
  | _ => false
def keeps (d : Dk) : List Bool := match d.armed with
  | some (_, k) => k
  | none => []
/-- An operation begins: a crash that is due comes. -/
def fell (d : Dk) : Dk := if d.due then d.crash d.keeps else d
/-- It is counted. -/
def counted (d : Dk) : Dk := { d with ops := wrapI (d.ops + 1), armed := d.armed.map fun x => (x.1 - 1, x.2) }
def begun (d : Dk) : Dk := if d.fell.down then d.fell else d.fell.counted
/-- A sector as it was written last. -/
def now (d : Dk) (at_ : Nat) : List UInt8 := match d.waits.reverse.find? (fun x => x.1 == at_) with
  | some x => x.2
  | none => d.secs.getD at_ []
def write (d : Dk) (at_ : Nat) (b : List UInt8) : Dk := if d.fell.down then d.fell else { d.fell.counted with waits := d.fell.counted.waits ++ [(at_, b)] }
def flush (l : List (Nat × List UInt8)) (s : List (List UInt8)) : List (List UInt8) := l.foldl (fun s x => s.set x.1 x.2) s
def barrier (d : Dk) : Dk := if d.fell.down then d.fell else { d.fell.counted with secs := flush d.fell.counted.waits d.fell.counted.secs, waits := [] }
def arm (d : Dk) (n : Int) (keep : List Bool) : Dk := { d with armed := if 0 ≤ n then some (n.toNat, keep) else none }
def start (d : Dk) : Dk := if d.down then { d with down := false } else d

/-- What holds of every disk that was made: each sector, and each write, has its bytes; each write has its place. -/
structure Ok (d : Dk) : Prop where
  secs : ∀ s ∈ d.secs, s.length = 512
  waits : ∀ x ∈ d.waits, x.2.length = 512 ∧ x.1 < d.secs.length

theorem zero_len : zero.length = 512 := List.length_replicate
theorem ok_new (n : Nat) : (new n).Ok := ⟨fun s hs => by simp [new] at hs; rw [hs.2]; exact zero_len, fun x hx => by simp [new] at hx⟩
theorem keepFrom_len (keep : List Bool) (l : List (Nat × List UInt8)) : ∀ (i : Nat) (s : List (List UInt8)), (keepFrom keep i l s).length = s.length := by
  induction l with
  | nil => intro i s; rfl
  | cons x l ih => intro i s; rw [keepFrom, ih]; split <;> simp
theorem keepFrom_mem (keep : List Bool) (l : List (Nat × List UInt8)) : ∀ (i : Nat) (s : List (List UInt8)), (∀ y ∈ s, y.length = 512) → (∀ x ∈ l, x.2.length = 512) → ∀ y ∈ keepFrom keep i l s, y.length = 512 := by
  induction l with
  | nil => intro i s hs _ y hy; exact hs y hy
  | cons x l ih =>
    intro i s hs hl
    rw [keepFrom]
    refine ih _ _ ?_ (fun z hz => hl z (List.mem_cons_of_mem _ hz))
    intro y hy
    split at hy
    · rcases List.mem_or_eq_of_mem_set hy with h | h
      · exact hs y h
      · rw [h]; exact hl x List.mem_cons_self
    · exact hs y hy
theorem ok_crash {d : Dk} (h : d.Ok) (keep : List Bool) : (d.crash keep).Ok :=
  ⟨keepFrom_mem keep d.waits 0 d.secs h.secs (fun x hx => (h.waits x hx).1), fun x hx => by simp [crash] at hx⟩
theorem ok_fell {d : Dk} (h : d.Ok) : d.fell.Ok := by unfold fell; split; exact ok_crash h _; exact h
theorem ok_counted {d : Dk} (h : d.Ok) : d.counted.Ok := ⟨h.secs, h.waits⟩
theorem fell_len (d : Dk) : d.fell.secs.length = d.secs.length := by unfold fell; split <;> simp [crash, keepFrom_len]
theorem ok_begun {d : Dk} (h : d.Ok) : d.begun.Ok := by unfold begun; split; exact ok_fell h; exact ok_counted (ok_fell h)
theorem flush_len (l : List (Nat × List UInt8)) : ∀ s : List (List UInt8), (flush l s).length = s.length := by
  induction l with
  | nil => intro s; rfl
  | cons x l ih => intro s; show (flush l (s.set x.1 x.2)).length = _; rw [ih]; simp
theorem flush_mem (l : List (Nat × List UInt8)) : ∀ s : List (List UInt8), (∀ y ∈ s, y.length = 512) → (∀ x ∈ l, x.2.length = 512) → ∀ y ∈ flush l s, y.length = 512 := by
  induction l with
  | nil => intro s hs _ y hy; exact hs y hy
  | cons x l ih =>
    intro s hs hl
    refine ih _ ?_ (fun z hz => hl z (List.mem_cons_of_mem _ hz))
    intro y hy
    rcases List.mem_or_eq_of_mem_set hy with h | h
    · exact hs y h
    · rw [h]; exact hl x List.mem_cons_self
theorem ok_barrier {d : Dk} (h : d.Ok) : d.barrier.Ok := by
  unfold barrier
  split
  · exact ok_fell h
  · exact ⟨flush_mem _ _ (ok_fell h).secs (fun x hx => ((ok_fell h).waits x hx).1), fun x hx => by simp at hx⟩
theorem ok_write {d : Dk} (h : d.Ok) (at_ : Nat) (b : List UInt8) (hb : b.length = 512) (ha : at_ < d.secs.length) : (d.write at_ b).Ok := by
  unfold write
  split
  · exact ok_fell h
  · refine ⟨(ok_fell h).secs, ?_⟩
    intro x hx
    rcases List.mem_append.1 hx with hx | hx
    · exact (ok_fell h).waits x hx
    · simp at hx
      subst hx
      exact ⟨hb, by rw [← fell_len d] at ha; exact ha⟩
theorem ok_arm {d : Dk} (h : d.Ok) (n : Int) (keep : List Bool) : (d.arm n keep).Ok := ⟨h.secs, h.waits⟩
theorem ok_start {d : Dk} (h : d.Ok) : d.start.Ok := by unfold start; split; exact ⟨h.secs, h.waits⟩; exact h
theorem now_len {d : Dk} (h : d.Ok) (at_ : Nat) (ha : at_ < d.secs.length) : (d.now at_).length = 512 := by
  unfold now
  split
  · rename_i x hx
    exact (h.waits x (List.mem_reverse.1 (List.mem_of_find?_eq_some hx))).1
  · exact h.secs _ (by simp [List.getD, ha])
theorem keepFrom_append (keep : List Bool) (a b : List (Nat × List UInt8)) : ∀ (i : Nat) (s : List (List UInt8)), keepFrom keep i (a ++ b) s = keepFrom keep (i + a.length) b (keepFrom keep i a s) := by
  induction a with
  | nil => intro i s; rfl
  | cons x a ih =>
    intro i s
    rw [List.cons_append, keepFrom, keepFrom, ih]
    congr 1
    simp; omega
/-- One write more. -/
theorem keepFrom_take (keep : List Bool) (ws : List (Nat × List UInt8)) (k : Nat) (hk : k < ws.length) (s : List (List UInt8)) :
    keepFrom keep 0 (ws.take (k + 1)) s = if keep.getD k false then (keepFrom keep 0 (ws.take k) s).set (ws.getD k (0, [])).1 (ws.getD k (0, [])).2 else keepFrom keep 0 (ws.take k) s := by
  rw [List.take_succ_eq_append_getElem hk, keepFrom_append]
  have e : ws.getD k (0, []) = ws[k] := by simp [List.getD, hk]
  rw [e]
  simp only [keepFrom, List.length_take, Nat.zero_add, Nat.min_eq_left (Nat.le_of_lt hk)]
theorem flush_take (ws : List (Nat × List UInt8)) (k : Nat) (hk : k < ws.length) (s : List (List UInt8)) :
    flush (ws.take (k + 1)) s = (flush (ws.take k) s).set (ws.getD k (0, [])).1 (ws.getD k (0, [])).2 := by
  rw [List.take_succ_eq_append_getElem hk]
  have e : ws.getD k (0, []) = ws[k] := by simp [List.getD, hk]
  rw [e]
  unfold flush
  rw [List.foldl_append]
  rfl
end Dk
end Go.Proofs.Ytnekelndcpmonaa
namespace Go.Proofs.Ytnekelndcpmonaa
open Go.RowKit

/-- The types of the blocks that a disk's functions write to. -/
def hot (t : TypeId) : Bool := t == 65 || t == 31 || t == 83 || t == 88
/-- No block that they write to. -/
def Cold (o : Option Obj) : Prop := ∀ c t f, o = some (.cells c t f) → hot t = false
/-- What was there stands, but for the blocks of M that are hot. -/
structure Keeps (M : Nat → Prop) (w w' : World) : Prop where
  os : w'.os = w.os
  tape : w'.tape = w.tape
  output : w'.output = w.output
  size : w.heap.size ≤ w'.heap.size
  block : ∀ k, k < w.heap.size → (M k → Cold (w.heap[k]?)) → w'.heap[k]? = w.heap[k]?

theorem Keeps.refl (M : Nat → Prop) (w : World) : Keeps M w w := ⟨rfl, rfl, rfl, Nat.le_refl _, fun _ _ _ => rfl⟩
theorem Keeps.trans {M : Nat → Prop} {a b c : World} (h : Keeps M a b) (k : Keeps M b c) : Keeps M a c :=
  ⟨k.os.trans h.os, k.tape.trans h.tape, k.output.trans h.output, Nat.le_trans h.size k.size, fun i hi hc => by
    have e := h.block i hi hc
    rw [← e]
    exact k.block i (Nat.lt_of_lt_of_le hi h.size) (fun hm => by rw [e]; exact hc hm)⟩
theorem Keeps.drew {M : Nat → Prop} {a w : World} (h : Keeps M a w) : Keeps M a w.drew := ⟨h.os, h.tape, h.output, h.size, h.block⟩
theorem Keeps.alloc {M : Nat → Prop} {a w : World} (h : Keeps M a w) (o : Obj) : Keeps M a (w.alloc o) :=
  ⟨h.os, h.tape, h.output, by have := h.size; simp; omega, fun k hk hc => (Below.heap_alloc w o k (Nat.lt_of_lt_of_le hk h.size)).trans (h.block k hk hc)⟩
/-- A store into a block that was not there. -/
theorem Keeps.setNew {M : Nat → Prop} {a w : World} (h : Keeps M a w) {p : Addr} (hp : a.heap.size ≤ p.block) (v : Value) : Keeps M a (w.setCell p v) :=
  ⟨h.os, h.tape, h.output, by have := h.size; simp; omega, fun k hk hc => (Below.heap_setCell w p v k (by omega)).trans (h.block k hk hc)⟩
/-- A store into a hot block of M. -/
theorem Keeps.setHot {M : Nat → Prop} {a w : World} (h : Keeps M a w) {p : Addr} {c : Array Value} {t : TypeId} {f : Nat × Nat} (hp : a.heap[p.block]? = some (.cells c t f)) (hm : M p.block) (ht : hot t = true) (v : Value) : Keeps M a (w.setCell p v) :=
  ⟨h.os, h.tape, h.output, by have := h.size; simp; omega, fun k hk hc => (Below.heap_setCell w p v k (fun e => by
    subst e
    have := hc hm _ _ _ hp
    rw [this] at ht; cases ht)).trans (h.block k hk hc)⟩
theorem Keeps.below {M : Nat → Prop} {a w : World} (h : Keeps M a w) {B : Nat} (hB : ∀ k, M k → B ≤ k) (hs : B ≤ a.heap.size) : Below B a w :=
  ⟨h.os, h.tape, h.output, h.size, fun k hk => h.block k (by omega) (fun hm => by have := hB k hm; omega)⟩
theorem Keeps.of_below {M : Nat → Prop} {a w : World} (h : Below a.heap.size a w) : Keeps M a w := ⟨h.os, h.tape, h.output, h.size, fun k hk _ => h.block k hk⟩
theorem Keeps.mono {M M' : Nat → Prop} {a w : World} (h : Keeps M a w) (hm : ∀ k, k < a.heap.size → M k → M' k) : Keeps M' a w :=
  ⟨h.os, h.tape, h.output, h.size, fun k hk hc => h.block k hk (fun hx => hc (hm k hk hx))⟩

/-- A slice value whose row lies in M. -/
def OwnsM (w : World) (M : Nat → Prop) (e : TypeId) (size : Nat) (v : Value) (n : Nat) (xs : List Value) : Prop := w.ownsRow 0 e size v n xs ∧ ∀ g, v.ownBlock = some g → M g
theorem OwnsM.frame {w w' : World} {M M' : Nat → Prop} {e : TypeId} {size n : Nat} {v : Value} {xs : List Value} (h : OwnsM w M e size v n xs)
    (hk : ∀ k, k < w.heap.size → M k → w'.heap[k]? = w.heap[k]? ∧ M' k) : OwnsM w' M' e size v n xs := by
  refine ⟨⟨h.1.1, ?_⟩, fun g hg => ?_⟩
  · rcases h.1.2 with h2 | ⟨g, cap, cur, rfl, hb, hh, r⟩
    · exact .inl h2
    · exact .inr ⟨g, cap, cur, rfl, hb, by rw [(hk g (Array.getElem?_eq_some_iff.1 hh).1 (h.2 g rfl)).1]; exact hh, r⟩
  · exact (hk g ((h.1.lt g hg).2) (h.2 g hg)).2
/-- Another block, of another type, was written. -/
theorem OwnsM.other {w w' : World} {M : Nat → Prop} {e : TypeId} {size n : Nat} {v : Value} {xs : List Value} (h : OwnsM w M e size v n xs) {p : Nat} {c : Array Value} {t : TypeId} {f : Nat × Nat}
    (hp : w.heap[p]? = some (.cells c t f)) (ht : e ≠ t) (hk : ∀ k, k < w.heap.size → k ≠ p → w'.heap[k]? = w.heap[k]?) : OwnsM w' M e size v n xs := by
  refine ⟨⟨h.1.1, ?_⟩, h.2⟩
  rcases h.1.2 with h2 | ⟨g, cap, cur, rfl, hb, hh, r⟩
  · exact .inl h2
  · refine .inr ⟨g, cap, cur, rfl, hb, ?_, r⟩
    rw [hk g (Array.getElem?_eq_some_iff.1 hh).1 (fun e' => by subst e'; rw [hp] at hh; cases hh; exact ht rfl)]
    exact hh
theorem OwnsM.grow {w w' : World} {M : Nat → Prop} {e : TypeId} {size n : Nat} {v : Value} {xs : List Value} (h : OwnsM w M e size v n xs) (hk : ∀ k, k < w.heap.size → w'.heap[k]? = w.heap[k]?) : OwnsM w' M e size v n xs :=
  h.frame (fun k hk' hm => ⟨hk k hk', hm⟩)

/-- A sector: never written (nil), or its bytes. -/
def SecAt (w : World) (M : Nat → Prop) (v : Value) (l : List UInt8) : Prop := (v = .slice none 0 0 ∧ l = Dk.zero) ∨ (l.length = 512 ∧ OwnsM w M 5 1 v 512 (l.map byteV))
/-- The writes that wait, as cells. -/
def pairs (ws : List (Nat × List UInt8)) (dvs : List Value) : List Value := (List.zipWith (fun x v => [Value.int .i64 ((x.1 : Nat) : Int), v]) ws dvs).flatten
/-- The crash that is armed. -/
def ArmIn (w : World) (M : Nat → Prop) (av : Value) : Option (Nat × List Bool) → Prop
  | none => av = .pointer none
  | some (left, keep) => ∃ ab kv, av = .pointer (some ⟨ab, 0, none⟩) ∧ M ab ∧ w.heap[ab]? = some (.cells #[.int .i64 (left : Int), kv] 88 (0, 0)) ∧ OwnsM w M 4 1 kv keep.length (keep.map Value.bool) ∧ left ≤ 9223372036854775807

structure DiskIn (w : World) (p sb : Nat) (scs : List Value) (wv : Value) (dvs : List Value) (av : Value) (D : Dk) (M : Nat → Prop) : Prop where
  hp : w.heap[p]? = some (.cells #[.slice (some ⟨sb, 0, none⟩) D.secs.length D.secs.length, wv, .bool D.down, .int .i64 D.ops, av] 65 (0, 0))
  mp : M p
  msb : M sb
  hs : w.heap[sb]? = some (.cells scs.toArray 31 (0, 0))
  sl : scs.length = D.secs.length
  sec : ∀ i, i < D.secs.length → SecAt w M (scs.getD i undef) (D.secs.getD i [])
  hw : OwnsM w M 83 2 wv D.waits.length (pairs D.waits dvs)
  dl : dvs.length = D.waits.length
  dat : ∀ i, i < D.waits.length → OwnsM w M 5 1 (dvs.getD i undef) 512 ((D.waits.getD i (0, [])).2.map byteV)
  arm : ArmIn w M av D.armed
  new : ∀ k, w.heap.size ≤ k → M k
  ok : D.Ok
  len : 1 ≤ D.secs.length ∧ D.secs.length ≤ 4096
  ops : -9223372036854775808 ≤ D.ops ∧ D.ops ≤ 9223372036854775807

/-- A disk lies at p. -/
def DiskAt (w : World) (p : Nat) (D : Dk) (M : Nat → Prop) : Prop := ∃ sb scs wv dvs av, DiskIn w p sb scs wv dvs av D M

theorem SecAt.frame {w w' : World} {M M' : Nat → Prop} {v : Value} {l : List UInt8} (h : SecAt w M v l) (hk : ∀ k, k < w.heap.size → M k → w'.heap[k]? = w.heap[k]? ∧ M' k) : SecAt w' M' v l :=
  h.imp id fun h => ⟨h.1, h.2.frame hk⟩
theorem ArmIn.frame {w w' : World} {M M' : Nat → Prop} {v : Value} {x : Option (Nat × List Bool)} (h : ArmIn w M v x) (hk : ∀ k, k < w.heap.size → M k → w'.heap[k]? = w.heap[k]? ∧ M' k) : ArmIn w' M' v x := by
  match x, h with
  | none, h => exact h
  | some (left, keep), ⟨ab, kv, e, hm, hh, hr, hl⟩ => exact ⟨ab, kv, e, (hk ab (Array.getElem?_eq_some_iff.1 hh).1 hm).2, by rw [(hk ab (Array.getElem?_eq_some_iff.1 hh).1 hm).1]; exact hh, hr.frame hk, hl⟩
/-- The disk's own blocks stand: so does the disk. -/
theorem DiskAt.frame {w w' : World} {p : Nat} {D : Dk} {M M' : Nat → Prop} (h : DiskAt w p D M) (hk : ∀ k, k < w.heap.size → M k → w'.heap[k]? = w.heap[k]? ∧ M' k) (hn : ∀ k, w'.heap.size ≤ k → M' k) : DiskAt w' p D M' := by
  obtain ⟨sb, scs, wv, dvs, av, h⟩ := h
  have lt : ∀ {k o}, w.heap[k]? = some o → k < w.heap.size := fun hh => (Array.getElem?_eq_some_iff.1 hh).1
  exact ⟨sb, scs, wv, dvs, av, by rw [(hk p (lt h.hp) h.mp).1]; exact h.hp, (hk p (lt h.hp) h.mp).2, (hk sb (lt h.hs) h.msb).2, by rw [(hk sb (lt h.hs) h.msb).1]; exact h.hs, h.sl,
    fun i hi => (h.sec i hi).frame hk, h.hw.frame hk, h.dl, fun i hi => (h.dat i hi).frame hk, h.arm.frame hk, hn, h.ok, h.len, h.ops⟩
/-- New blocks alone. -/
theorem DiskAt.grow {w w' : World} {p : Nat} {D : Dk} {M : Nat → Prop} (h : DiskAt w p D M) (hb : Below w.heap.size w w') : DiskAt w' p D M := by
  obtain ⟨sb, scs, wv, dvs, av, h'⟩ := id h
  exact h.frame (fun k hk hm => ⟨hb.block k hk, hm⟩) (fun k hk => h'.new k (Nat.le_trans hb.size hk))

/-! ### A store into the disk's own block -/
theorem heap_set {w : World} {p i : Nat} {v : Value} {c : Array Value} {t : TypeId} {f : Nat × Nat} (h : w.heap[p]? = some (.cells c t f)) : (w.setCell ⟨p, i, none⟩ v).heap[p]? = some (.cells (c.setIfInBounds i v) t f) := by
  obtain ⟨hlt, hk'⟩ := Array.getElem?_eq_some_iff.1 h
  show (w.heap.modify p _)[p]? = _
  rw [Array.getElem?_eq_getElem (by rw [Array.size_modify]; exact hlt), Array.getElem_modify_self, hk']
  rfl
theorem heap_set_other {w : World} {p i k : Nat} {v : Value} (h : k ≠ p) : (w.setCell ⟨p, i, none⟩ v).heap[k]? = w.heap[k]? := Below.heap_setCell w _ v k h
theorem cell_of {w : World} {p i : Nat} {c : Array Value} {t : TypeId} {f : Nat × Nat} (h : w.heap[p]? = some (.cells c t f)) : w.cell? ⟨p, i, none⟩ = c[i]? := by simp [World.cell?, h]
theorem free_of {w : World} {p i : Nat} {c : Array Value} {t : TypeId} (h : w.heap[p]? = some (.cells c t (0, 0))) : w.frozen? ⟨p, i, none⟩ = false := by simp [World.frozen?, h]

theorem DiskIn.atP {w w' : World} {p sb : Nat} {scs : List Value} {wv : Value} {dvs : List Value} {av : Value} {D : Dk} {M : Nat → Prop} (h : DiskIn w p sb scs wv dvs av D M)
    (hk : ∀ k, k < w.heap.size → k ≠ p → w'.heap[k]? = w.heap[k]?) (hsz : w'.heap.size = w.heap.size) (wv' : Value) (dvs' : List Value) (av' : Value) (D' : Dk)
    (hp' : w'.heap[p]? = some (.cells #[.slice (some ⟨sb, 0, none⟩) D.secs.length D.secs.length, wv', .bool D'.down, .int .i64 D'.ops, av'] 65 (0, 0)))
    (hsecs : D'.secs = D.secs) (hw' : (wv' = wv ∧ dvs' = dvs ∧ D'.waits = D.waits) ∨ (wv' = .slice none 0 0 ∧ dvs' = [] ∧ D'.waits = []))
    (ha' : (av' = av ∧ D'.armed = D.armed) ∨ (av' = .pointer none ∧ D'.armed = none)) (ho : -9223372036854775808 ≤ D'.ops ∧ D'.ops ≤ 9223372036854775807) : DiskIn w' p sb scs wv' dvs' av' D' M := by
  have lt : ∀ {k o}, w.heap[k]? = some o → k < w.heap.size := fun hh => (Array.getElem?_eq_some_iff.1 hh).1
  have hsp : sb ≠ p := fun e => by have := h.hs; rw [e, h.hp] at this; simp at this
  refine ⟨by rw [hsecs]; exact hp', h.mp, h.msb, by rw [hk sb (lt h.hs) hsp]; exact h.hs, by rw [hsecs]; exact h.sl, ?_, ?_, ?_, ?_, ?_, fun k hk' => h.new k (by omega), ?_, by rw [hsecs]; exact h.len, ho⟩
  · intro i hi
    rw [hsecs] at hi ⊢
    exact (h.sec i hi).imp id fun x => ⟨x.1, x.2.other h.hp (by decide) hk⟩
  · rcases hw' with ⟨rfl, rfl, e⟩ | ⟨rfl, rfl, e⟩
    · rw [e]; exact h.hw.other h.hp (by decide) hk
    · rw [e]; exact ⟨World.ownsRow_nil _ _ _ _, fun g hg => by simp [Value.ownBlock] at hg⟩
  · rcases hw' with ⟨rfl, rfl, e⟩ | ⟨rfl, rfl, e⟩
    · rw [e]; exact h.dl
    · rw [e]; rfl
  · rcases hw' with ⟨rfl, rfl, e⟩ | ⟨rfl, rfl, e⟩
    · rw [e]; intro i hi; exact (h.dat i hi).other h.hp (by decide) hk
    · rw [e]; intro i hi; exact absurd hi (Nat.not_lt_zero i)
  · rcases ha' with ⟨rfl, e⟩ | ⟨rfl, e⟩
    · rw [e]
      have ha := h.arm
      cases hx : D.armed with
      | none => rw [hx] at ha; exact ha
      | some x =>
        obtain ⟨left, keep⟩ := x
        rw [hx] at ha
        obtain ⟨ab, kv, e1, hm, hh, hr, hl⟩ := ha
        have hap : ab ≠ p := fun e => by rw [e, h.hp] at hh; simp at hh
        exact ⟨ab, kv, e1, hm, by rw [hk ab (lt hh) hap]; exact hh, hr.other h.hp (by decide) hk, hl⟩
    · rw [e]; rfl
  · refine ⟨by rw [hsecs]; exact h.ok.secs, ?_⟩
    rcases hw' with ⟨_, _, e⟩ | ⟨_, _, e⟩
    · rw [e, hsecs]; exact h.ok.waits
    · rw [e]; intro x hx; simp at hx

/-- A store into the row of sectors: of a write that waits. -/
theorem DiskIn.setSec {w : World} {p sb : Nat} {scs : List Value} {wv : Value} {dvs : List Value} {av : Value} {D : Dk} {M : Nat → Prop} (h : DiskIn w p sb scs wv dvs av D M) (i k : Nat) (hi : i < D.secs.length) (hk : k < D.waits.length) :
    DiskIn (w.setCell ⟨sb, i, none⟩ (dvs.getD k undef)) p sb (scs.set i (dvs.getD k undef)) wv dvs av { D with secs := D.secs.set i (D.waits.getD k (0, [])).2 } M := by
  have lt : ∀ {k o}, w.heap[k]? = some o → k < w.heap.size := fun hh => (Array.getElem?_eq_some_iff.1 hh).1
  have hps : p ≠ sb := fun e => by have := h.hs; rw [← e, h.hp] at this; simp at this
  have ho : ∀ k, k < w.heap.size → k ≠ sb → (w.setCell ⟨sb, i, none⟩ (dvs.getD k undef)).heap[k]? = w.heap[k]? := fun k _ hk => heap_set_other hk
  have hwk : (D.waits.getD k (0, [])) ∈ D.waits := by simp [List.getD, hk]
  have hw5 := (h.ok.waits _ hwk).1
  refine ⟨by rw [heap_set_other hps]; simpa using h.hp, h.mp, h.msb, ?_, by simpa using h.sl, ?_, h.hw.other h.hs (by decide) (fun k _ hk => heap_set_other hk), h.dl,
    fun j hj => (h.dat j hj).other h.hs (by decide) (fun k _ hk => heap_set_other hk), ?_, fun k hk' => h.new k (by simpa using hk'), ?_, by simpa using h.len, h.ops⟩
  · rw [heap_set h.hs]; simp
  · intro j hj
    have hj' : j < D.secs.length := by simpa using hj
    by_cases e : j = i
    · subst e
      have e1 : (scs.set j (dvs.getD k undef)).getD j undef = dvs.getD k undef := by simp [List.getD, h.sl, hj']
      have e2 : (D.secs.set j (D.waits.getD k (0, [])).2).getD j [] = (D.waits.getD k (0, [])).2 := by simp [List.getD, hj']
      rw [e1, e2]
      exact .inr ⟨hw5, (h.dat k hk).other h.hs (by decide) (fun k _ hk => heap_set_other hk)⟩
    · have e1 : (scs.set i (dvs.getD k undef)).getD j undef = scs.getD j undef := by simp [List.getD, Ne.symm e]
      have e2 : (D.secs.set i (D.waits.getD k (0, [])).2).getD j [] = D.secs.getD j [] := by simp [List.getD, Ne.symm e]
      rw [e1, e2]
      exact (h.sec j hj').imp id fun x => ⟨x.1, x.2.other h.hs (by decide) (fun k _ hk => heap_set_other hk)⟩
  · have ha := h.arm
    show ArmIn _ M av D.armed
    cases hx : D.armed with
    | none => rw [hx] at ha; exact ha
    | some x =>
      obtain ⟨left, keep⟩ := x
      rw [hx] at ha
      obtain ⟨ab, kv, e1, hm, hh, hr, hl⟩ := ha
      have hap : ab ≠ sb := fun e => by rw [e, h.hs] at hh; simp at hh
      exact ⟨ab, kv, e1, hm, by rw [heap_set_other hap]; exact hh, hr.other h.hs (by decide) (fun k _ hk => heap_set_other hk), hl⟩
  · refine ⟨?_, fun x hx => by simpa using h.ok.waits x hx⟩
    intro y hy
    rcases List.mem_or_eq_of_mem_set hy with hy | hy
    · exact h.ok.secs y hy
    · rw [hy]; exact hw5
/-- New blocks, and writes to blocks outside M. -/
theorem DiskIn.frame {w w' : World} {p sb : Nat} {scs : List Value} {wv : Value} {dvs : List Value} {av : Value} {D : Dk} {M : Nat → Prop} (h : DiskIn w p sb scs wv dvs av D M) (hk : ∀ k, k < w.heap.size → M k → w'.heap[k]? = w.heap[k]?) (hs : w.heap.size ≤ w'.heap.size) : DiskIn w' p sb scs wv dvs av D M := by
  have lt : ∀ {k o}, w.heap[k]? = some o → k < w.heap.size := fun hh => (Array.getElem?_eq_some_iff.1 hh).1
  have hk' : ∀ k, k < w.heap.size → M k → w'.heap[k]? = w.heap[k]? ∧ M k := fun k a b => ⟨hk k a b, b⟩
  exact ⟨by rw [hk p (lt h.hp) h.mp]; exact h.hp, h.mp, h.msb, by rw [hk sb (lt h.hs) h.msb]; exact h.hs, h.sl,
    fun i hi => (h.sec i hi).frame hk', h.hw.frame hk', h.dl, fun i hi => (h.dat i hi).frame hk', h.arm.frame hk', fun k hk2 => h.new k (Nat.le_trans hs hk2), h.ok, h.len, h.ops⟩

theorem pairs_at (ws : List (Nat × List UInt8)) : ∀ (dvs : List Value) (k : Nat), dvs.length = ws.length → k < ws.length →
    (pairs ws dvs)[2 * k]? = some (Value.int .i64 (((ws.getD k (0, [])).1 : Nat) : Int)) ∧ (pairs ws dvs)[2 * k + 1]? = some (dvs.getD k undef) := by
  induction ws with
  | nil => intro dvs k _ hk; exact absurd hk (Nat.not_lt_zero k)
  | cons x ws ih =>
    intro dvs k hd hk
    match dvs, hd with
    | v :: dvs, hd =>
      cases k with
      | zero => exact ⟨rfl, rfl⟩
      | succ k =>
        have := ih dvs k (by simpa using hd) (by simpa using hk)
        have e : pairs (x :: ws) (v :: dvs) = Value.int .i64 ((x.1 : Nat) : Int) :: v :: pairs ws dvs := rfl
        rw [e]
        exact this
/-- The cells of a write that waits. -/
theorem DiskIn.waitAt {w : World} {p sb : Nat} {scs : List Value} {wv : Value} {dvs : List Value} {av : Value} {D : Dk} {M : Nat → Prop} (h : DiskIn w p sb scs wv dvs av D M) (h0 : 0 < D.waits.length) :
    ∃ wg wc, wv = .slice (some ⟨wg, 0, none⟩) D.waits.length wc ∧ M wg ∧ (∀ k, k < D.waits.length → w.cell? ⟨wg, k * 2, none⟩ = some (.int .i64 (((D.waits.getD k (0, [])).1 : Nat) : Int)) ∧ w.cell? ⟨wg, k * 2 + 1, none⟩ = some (dvs.getD k undef)) := by
  rcases h.hw.1.2 with ⟨_, e⟩ | ⟨g, cap, cur, e, hb, hh, _⟩
  · omega
  · refine ⟨g, cap, e, h.hw.2 g (by rw [e]; rfl), fun k hk => ?_⟩
    obtain ⟨p1, p2⟩ := pairs_at D.waits dvs k h.dl hk
    have c1 := h.hw.1.cells (g := g) (by rw [e]; rfl) (2 * k) _ p1
    have c2 := h.hw.1.cells (g := g) (by rw [e]; rfl) (2 * k + 1) _ p2
    rw [addr_add, Nat.zero_add, Nat.mul_comm] at c1 c2
    exact ⟨c1, c2⟩
/-- What a write holds is a slice. -/
theorem DiskIn.datAt {w : World} {p sb : Nat} {scs : List Value} {wv : Value} {dvs : List Value} {av : Value} {D : Dk} {M : Nat → Prop} (h : DiskIn w p sb scs wv dvs av D M) (k : Nat) (hk : k < D.waits.length) :
    ∃ b c, dvs.getD k undef = .slice (some ⟨b, 0, none⟩) 512 c ∧ M b ∧ 512 ≤ c := by
  have hd := h.dat k hk
  rcases hd.1.2 with ⟨_, e⟩ | ⟨g, cap, cur, e, hb, hh, hc, _⟩
  · omega
  · exact ⟨g, cap, e, hd.2 g (by rw [e]; rfl), hc⟩

/-- What a slice of bools reads as, that no function of a disk writes to. -/
def BoolsAt (w : World) (a : Option Addr) (l : List Bool) : Prop := ∀ i, i < l.length → ∃ b o, a = some ⟨b, o, none⟩ ∧ w.cell? ⟨b, o + i, none⟩ = some (.bool (l.getD i false))
def KBools (w : World) (M : Nat → Prop) (a : Option Addr) (l : List Bool) : Prop := BoolsAt w a l ∧ ∀ b o, a = some ⟨b, o, none⟩ → 0 < l.length → M b → Cold (w.heap[b]?)
theorem KBools.keeps {w w' : World} {M : Nat → Prop} {a : Option Addr} {l : List Bool} (h : KBools w M a l) (hk : Keeps M w w') : KBools w' M a l := by
  have same : ∀ b o, a = some ⟨b, o, none⟩ → 0 < l.length → w'.heap[b]? = w.heap[b]? := fun b o e h0 => by
    obtain ⟨b', o', e', hc⟩ := h.1 0 h0
    rw [e] at e'
    cases e'
    exact hk.block b (World.block_lt_of_cell? _ _ hc) (h.2 b o e h0)
  refine ⟨fun i hi => ?_, fun b o e h0 hm => by rw [same b o e h0]; exact h.2 b o e h0 hm⟩
  obtain ⟨b, o, e, hc⟩ := h.1 i hi
  exact ⟨b, o, e, (World.cell?_of_block (w := w) (same b o e (by omega))).trans hc⟩
theorem KBools.grow {w w' : World} {M : Nat → Prop} {a : Option Addr} {l : List Bool} (h : KBools w M a l) (hk : Below w.heap.size w w') : KBools w' M a l := h.keeps (Keeps.of_below hk)
theorem KBools.nil (w : World) (M : Nat → Prop) (a : Option Addr) : KBools w M a [] := ⟨fun i h => absurd h (Nat.not_lt_zero i), fun _ _ _ h => absurd h (Nat.not_lt_zero 0)⟩

/-- What is armed, as it lies. -/
theorem DiskIn.armAt {w : World} {p sb : Nat} {scs : List Value} {wv : Value} {dvs : List Value} {av : Value} {D : Dk} {M : Nat → Prop} (h : DiskIn w p sb scs wv dvs av D M) (left : Nat) (keep : List Bool) (hx : D.armed = some (left, keep)) :
    ∃ ab ka kc, av = .pointer (some ⟨ab, 0, none⟩) ∧ M ab ∧ ab ≠ p ∧ w.heap[ab]? = some (.cells #[.int .i64 (left : Int), .slice ka keep.length kc] 88 (0, 0)) ∧ KBools w M ka keep ∧ left ≤ 9223372036854775807 ∧ keep.length ≤ 9223372036854775807 := by
  have ha := h.arm
  rw [hx] at ha
  obtain ⟨ab, kv, e1, hm, hh, hr, hl⟩ := ha
  obtain ⟨ka, kc, rfl, h1, h2⟩ := ownsRow_slice hr.1
  have hap : ab ≠ p := fun e => by rw [e, h.hp] at hh; simp at hh
  refine ⟨ab, ka, kc, e1, hm, hap, hh, ⟨fun i hi => ?_, fun b o e h0 _ => ?_⟩, hl, by unfold maxLen at h2; omega⟩
  · rcases hr.1.2 with ⟨_, e⟩ | ⟨g, cap, cur, e, hb, hg, _⟩
    · omega
    · simp only [Value.slice.injEq] at e
      obtain ⟨rfl, _, rfl⟩ := e
      refine ⟨g, 0, rfl, ?_⟩
      have := hr.1.cells (g := g) rfl i (.bool keep[i]) (by simp [hi])
      rw [addr_add] at this
      rw [this]
      simp [List.getD, hi]
  · rcases hr.1.2 with ⟨_, e'⟩ | ⟨g, cap, cur, e', hb, hg, _⟩
    · omega
    · simp only [Value.slice.injEq] at e'
      obtain ⟨e'', _, _⟩ := e'
      rw [e''] at e
      cases e
      intro c t f hc
      rw [hg] at hc
      cases hc
      rfl
theorem DiskIn.setLeft {w : World} {p sb : Nat} {scs : List Value} {wv : Value} {dvs : List Value} {ab : Nat} {D : Dk} {M : Nat → Prop} (h : DiskIn w p sb scs wv dvs (.pointer (some ⟨ab, 0, none⟩)) D M) (left left' : Nat) (keep : List Bool) (hx : D.armed = some (left, keep)) (hl' : left' ≤ 9223372036854775807) :
    DiskIn (w.setCell ⟨ab, 0, none⟩ (.int .i64 (left' : Int))) p sb scs wv dvs (.pointer (some ⟨ab, 0, none⟩)) { D with armed := some (left', keep) } M := by
  have lt : ∀ {k o}, w.heap[k]? = some o → k < w.heap.size := fun hh => (Array.getElem?_eq_some_iff.1 hh).1
  have ha := h.arm
  rw [hx] at ha
  obtain ⟨ab', kv, e1, hm, hh, hr, hl⟩ := ha
  cases e1
  have hap : p ≠ ab := fun e => by have := h.hp; rw [e, hh] at this; simp at this
  have has : sb ≠ ab := fun e => by have := h.hs; rw [e, hh] at this; simp at this
  have ho : ∀ k, k < w.heap.size → k ≠ ab → (w.setCell ⟨ab, 0, none⟩ (.int .i64 (left' : Int))).heap[k]? = w.heap[k]? := fun k _ hk => heap_set_other hk
  refine ⟨by rw [heap_set_other hap]; exact h.hp, h.mp, h.msb, by rw [heap_set_other has]; exact h.hs, h.sl, fun i hi => (h.sec i hi).imp id fun x => ⟨x.1, x.2.other hh (by decide) ho⟩,
    h.hw.other hh (by decide) ho, h.dl, fun j hj => (h.dat j hj).other hh (by decide) ho, ?_, fun k hk' => h.new k (by simpa using hk'), ⟨h.ok.secs, h.ok.waits⟩, h.len, h.ops⟩
  exact ⟨ab, kv, rfl, hm, by rw [heap_set hh]; rfl, hr.other hh (by decide) ho, hl'⟩
end Go.Proofs.Ytnekelndcpmonaa
namespace Go.Proofs.Ytnekelndcpmonaa
open Go.RowKit

theorem infoRow : (Try.prog.info? 31).map (fun i => (i.zero, i.size, i.bytes)) = some (some (.slice none 0 0), 1, 24) := by kernel_rfl
def rowsMade (n : Nat) : Array Value := madeCells (Value.slice none 0 0).cells (n * 1)
theorem rowsMade_list (n : Nat) : rowsMade n = (List.replicate n (Value.slice none 0 0)).toArray := by
  apply Array.ext
  · simp [rowsMade, madeCells]
  · intro i h1 h2
    simp [rowsMade, madeCells, Value.cells, Nat.mod_one]
theorem run_make_rows (n : Nat) (N : Int) (hN : N = (n : Int)) (hn : n ≤ 4096) (w : World) :
    (Instr.makeSlice 61 (.int .i64 N) (.int .i64 N)).run Try.prog w = .ok (.slice (some ⟨w.heap.size, 0, none⟩) n n) (w.alloc (.cells (rowsMade n) 31)) := by
  subst hN
  obtain ⟨i0, hi, hz0, hz1, hz2⟩ := info_parts infoRow
  have h := run_make (P := Try.prog) w 61 31 i0 (.slice none 0 0) Try.underlying61 hi hz0 .i64 .i64 (n : Int) (n : Int) (by omega) (Int.le_refl _) (by rw [hz2]; omega) (by omega)
  rw [h, hz1]
  rfl

set_option maxHeartbeats 400000 in
theorem new_calls (n : Nat) (N : Int) (hN : N = (n : Int)) (w : World) (M : Nat → Prop) (hM : ∀ k, w.heap.size ≤ k → M k) (h1 : 1 ≤ n) (h2 : n ≤ 4096) :
    Calls Try.prog 11 #[.int .i64 N] w fun e w' =>
      e = .returned (.tuple #[.pointer (some ⟨w.heap.size + 1, 0, none⟩), .int .i64 0]) ∧ DiskAt w' (w.heap.size + 1) (Dk.new n) M ∧ Below w.heap.size w w' ∧ w'.heap.size = w.heap.size + 2 := by
  subst hN
  have hmk := run_make_rows n (n : Int) rfl h2
  have l1 : ¬ (n : Int) < 1 := by omega
  have l2 : ¬ (4096 : Int) < (n : Int) := by omega
  go_enter Try.func11, Try.ntmps11
  go_wp2
  go_ret2
  refine ⟨rfl, ?_, (((Below.refl _ _).alloc (Nat.le_refl _) _).alloc (by simp) _), by simp⟩
  refine ⟨w.heap.size, List.replicate n (.slice none 0 0), .slice none 0 0, [], .pointer none, ?_⟩
  have hlen : (Dk.new n).secs.length = n := by simp [Dk.new]
  refine ⟨?_, hM _ (by omega), hM _ (Nat.le_refl _), ?_, by rw [hlen]; simp, ?_, ⟨World.ownsRow_nil _ _ _ _, fun g hg => by simp [Value.ownBlock] at hg⟩, rfl, fun i hi => absurd hi (Nat.not_lt_zero i), rfl, fun k hk => hM k (by simp at hk; omega), Dk.ok_new n, by rw [hlen]; exact ⟨h1, h2⟩, by simp [Dk.new]⟩
  · rw [hlen]
    have := heap_alloc_new (w.alloc (.cells (rowsMade n) 31)) (.cells #[Value.slice (some ⟨w.heap.size, 0, none⟩) n n, Value.slice none 0 0, Value.bool false, Value.int .i64 0, Value.pointer none] 65)
    rw [World.size_alloc] at this
    exact this
  · rw [Below.heap_alloc _ _ _ (by simp), heap_alloc_new, rowsMade_list]
  · intro i hi
    rw [hlen] at hi
    refine .inl ⟨by simp [List.getD, hi], ?_⟩
    have : (Dk.new n).secs = List.replicate n Dk.zero := rfl
    rw [this]
    rw [List.getD_eq_getElem?_getD, List.getElem?_replicate, if_pos hi]; rfl

set_option maxHeartbeats 400000 in
theorem new_not (n : Int) (w : World) (h : n < 1 ∨ 4096 < n) :
    Calls Try.prog 11 #[.int .i64 n] w fun e w' => e = .returned (.tuple #[.pointer none, .int .i64 1]) ∧ w = w' := by
  rcases h with h | h
  · go_enter Try.func11, Try.ntmps11
    go_wp2
    go_ret2
    exact ⟨rfl, rfl⟩
  · have l1 : ¬ n < 1 := by omega
    go_enter Try.func11, Try.ntmps11
    go_wp2
    go_ret2
    exact ⟨rfl, rfl⟩

/-- The five cells of a disk. -/
theorem DiskIn.cells {w : World} {p sb : Nat} {scs : List Value} {wv : Value} {dvs : List Value} {av : Value} {D : Dk} {M : Nat → Prop} (h : DiskIn w p sb scs wv dvs av D M) :
    w.cell? ⟨p, 0, none⟩ = some (.slice (some ⟨sb, 0, none⟩) D.secs.length D.secs.length) ∧ w.cell? ⟨p, 1, none⟩ = some wv ∧ w.cell? ⟨p, 2, none⟩ = some (.bool D.down) ∧
    w.cell? ⟨p, 3, none⟩ = some (.int .i64 D.ops) ∧ w.cell? ⟨p, 4, none⟩ = some av ∧ ∀ i, w.frozen? ⟨p, i, none⟩ = false :=
  ⟨cell_of h.hp, cell_of h.hp, cell_of h.hp, cell_of h.hp, cell_of h.hp, fun _ => free_of h.hp⟩

set_option maxHeartbeats 400000 in
theorem is_calls (w : World) (p : Nat) (D : Dk) (M : Nat → Prop) (at_ : Int) (hD : DiskAt w p D M) :
    Calls Try.prog 43 #[.pointer (some ⟨p, 0, none⟩), .int .i64 at_] w fun e w' => e = .returned (.bool (decide (0 ≤ at_ ∧ at_ < (D.secs.length : Int)))) ∧ w = w' := by
  obtain ⟨sb, scs, wv, dvs, av, h⟩ := hD
  obtain ⟨c0, _⟩ := h.cells
  have hl := h.len
  by_cases h0 : 0 ≤ at_
  · by_cases h1 : at_ < (D.secs.length : Int)
    · have e : decide (0 ≤ at_ ∧ at_ < (D.secs.length : Int)) = true := by simp [h0, h1]
      rw [e]
      clear e
      go_enter Try.func43, Try.ntmps43
      go_wp2
      go_ret
      exact ⟨rfl, rfl⟩
    · have e : decide (0 ≤ at_ ∧ at_ < (D.secs.length : Int)) = false := by simp [h1]
      rw [e]
      clear e
      go_enter Try.func43, Try.ntmps43
      go_wp2
      go_ret
      exact ⟨rfl, rfl⟩
  · have e : decide (0 ≤ at_ ∧ at_ < (D.secs.length : Int)) = false := by simp [h0]
    rw [e]
    clear e
    go_enter Try.func43, Try.ntmps43
    go_wp2
    go_ret
    exact ⟨rfl, rfl⟩

set_option maxHeartbeats 400000 in
theorem sectors_calls (w : World) (p : Nat) (D : Dk) (M : Nat → Prop) (hD : DiskAt w p D M) :
    Calls Try.prog 41 #[.pointer (some ⟨p, 0, none⟩)] w fun e w' => e = .returned (.int .i64 (D.secs.length : Int)) ∧ w = w' := by
  obtain ⟨sb, scs, wv, dvs, av, h⟩ := hD
  obtain ⟨c0, _⟩ := h.cells
  go_enter Try.func41, Try.ntmps41
  go_wp2
  go_ret
  exact ⟨rfl, rfl⟩

set_option maxHeartbeats 400000 in
theorem down_calls (w : World) (p : Nat) (D : Dk) (M : Nat → Prop) (hD : DiskAt w p D M) :
    Calls Try.prog 25 #[.pointer (some ⟨p, 0, none⟩)] w fun e w' => e = .returned (.bool D.down) ∧ w = w' := by
  obtain ⟨sb, scs, wv, dvs, av, h⟩ := hD
  obtain ⟨_, _, c2, _⟩ := h.cells
  go_enter Try.func25, Try.ntmps25
  go_wp2
  go_ret
  exact ⟨rfl, rfl⟩


/-- Start's answer. -/
def startE (D : Dk) : Int := if D.down then 0 else 10
set_option maxHeartbeats 400000 in
theorem start_calls (w : World) (p : Nat) (D : Dk) (M : Nat → Prop) (hD : DiskAt w p D M) :
    Calls Try.prog 26 #[.pointer (some ⟨p, 0, none⟩)] w fun e w' => e = .returned (.int .i64 (startE D)) ∧ DiskAt w' p D.start M ∧ Keeps M w w' := by
  obtain ⟨sb, scs, wv, dvs, av, h⟩ := hD
  obtain ⟨_, _, c2, _, _, hf⟩ := h.cells
  have f2 := hf 2
  clear hf
  cases hd : D.down with
  | false =>
    rw [hd] at c2
    have e1 : startE D = 10 := by simp [startE, hd]
    have e2 : D.start = D := by simp [Dk.start, hd]
    rw [e1, e2]
    clear e1 e2
    go_enter Try.func26, Try.ntmps26
    go_wp2
    go_ret
    exact ⟨rfl, ⟨sb, scs, wv, dvs, av, h⟩, Keeps.refl _ _⟩
  | true =>
    rw [hd] at c2
    have e1 : startE D = 0 := by simp [startE, hd]
    have e2 : D.start = { D with down := false } := by simp [Dk.start, hd]
    rw [e1, e2]
    clear e1 e2
    go_enter Try.func26, Try.ntmps26
    go_wp2
    go_ret
    refine ⟨rfl, ⟨sb, scs, wv, dvs, av, h.atP (fun k _ hk => heap_set_other hk) (by simp) wv dvs av _ ?_ rfl (.inl ⟨rfl, rfl, rfl⟩) (.inl ⟨rfl, rfl⟩) h.ops⟩, (Keeps.refl _ _).setHot h.hp h.mp rfl _⟩
    rw [heap_set h.hp]; rfl
end Go.Proofs.Ytnekelndcpmonaa
