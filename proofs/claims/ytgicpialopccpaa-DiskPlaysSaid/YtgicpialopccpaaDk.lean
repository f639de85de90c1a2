/- A disk, as plain data: of no program. -/
namespace Go.Proofs.Ytgicpialopccpaa

/-- A disk: its sectors, the writes that wait, whether it is down, how many operations were done (as a number that wraps), the crash that is armed. -/
structure Dk where
  secs : List (List UInt8)
  waits : List (Nat × List UInt8)
  down : Bool
  ops : Int
  armed : Option (Nat × List Bool)

namespace Dk
def wrapI (n : Int) : Int := (n + 9223372036854775808) % 18446744073709551616 - 9223372036854775808
theorem wrapI_small {n : Int} (h0 : -9223372036854775808 ≤ n) (h1 : n ≤ 9223372036854775807) : wrapI n = n := by unfold wrapI; omega
theorem wrapI_range (n : Int) : -9223372036854775808 ≤ wrapI n ∧ wrapI n ≤ 9223372036854775807 := by unfold wrapI; omega
def zero : List UInt8 := List.replicate 512 0
def new (n : Nat) : Dk := { secs := List.replicate n zero, waits := [], down := false, ops := 0, armed := none }
/-- The sectors behind those waiting writes, from number i on, that are kept. -/
def keepFrom (keep : List Bool) : Nat → List (Nat × List UInt8) → List (List UInt8) → List (List UInt8)
  | _, [], s => s
  | i, x :: l, s => keepFrom keep (i + 1) l (if keep.getD i false then s.set x.1 x.2 else s)
def crash (d : Dk) (keep : List Bool) : Dk := { d with secs := keepFrom keep 0 d.waits d.secs, waits := [], down := true, armed := none }
/-- Is a crash due? -/
def due (d : Dk) : Bool := match d.armed with
  | some (0, _) => !d.down
  | _ => false
def keeps (d : Dk) : List Bool := match d.armed with
  | some (_, k) => k
  | none => []
/-- An operation begins: a crash that is due comes. -/
def fell (d : Dk) : Dk := if d.due then d.crash d.keeps else d
/-- It is counted. -/
def counted (d : Dk) : Dk := { d with ops := wrapI (d.ops + 1), armed := d.armed.map fun x => (x.1 - 1, x.2) }
def begun (d : Dk) : Dk := if d.fell.down then d.fell else d.fell.counted
/-- A sector as it was written last. -/
def now (d : Dk) (at_ : Nat) : List UInt8 := match d.waits.reverse.find? (fun x => x.1 == at_) with
  | some x => x.2
  | none => d.secs.getD at_ []
def write (d : Dk) (at_ : Nat) (b : List UInt8) : Dk := if d.fell.down then d.fell else { d.fell.counted with waits := d.fell.counted.waits ++ [(at_, b)] }
def flush (l : List (Nat × List UInt8)) (s : List (List UInt8)) : List (List UInt8) := l.foldl (fun s x => s.set x.1 x.2) s
def barrier (d : Dk) : Dk := if d.fell.down then d.fell else { d.fell.counted with secs := flush d.fell.counted.waits d.fell.counted.secs, waits := [] }
def arm (d : Dk) (n : Int) (keep : List Bool) : Dk := { d with armed := if 0 ≤ n then some (n.toNat, keep) else none }
def start (d : Dk) : Dk := if d.down then { d with down := false } else d

/-- What holds of every disk that was made: each sector, and each write, has its bytes; each write has its place. -/
structure Ok (d : Dk) : Prop where
  secs : ∀ s ∈ d.secs, s.length = 512
  waits : ∀ x ∈ d.waits, x.2.length = 512 ∧ x.1 < d.secs.length

theorem zero_len : zero.length = 512 := List.length_replicate
theorem ok_new (n : Nat) : (new n).Ok := ⟨fun s hs => by simp [new] at hs; rw [hs.2]; exact zero_len, fun x hx => by simp [new] at hx⟩
theorem keepFrom_len (keep : List Bool) (l : List (Nat × List UInt8)) : ∀ (i : Nat) (s : List (List UInt8)), (keepFrom keep i l s).length = s.length := by
  induction l with
  | nil => intro i s; rfl
  | cons x l ih => intro i s; rw [keepFrom, ih]; split <;> simp
theorem keepFrom_mem (keep : List Bool) (l : List (Nat × List UInt8)) : ∀ (i : Nat) (s : List (List UInt8)), (∀ y ∈ s, y.length = 512) → (∀ x ∈ l, x.2.length = 512) → ∀ y ∈ keepFrom keep i l s, y.length = 512 := by
  induction l with
  | nil => intro i s hs _ y hy; exact hs y hy
  | cons x l ih =>
    intro i s hs hl
    rw [keepFrom]
    refine ih _ _ ?_ (fun z hz => hl z (List.mem_cons_of_mem _ hz))
    intro y hy
    split at hy
    · rcases List.mem_or_eq_of_mem_set hy with h | h
      · exact hs y h
      · rw [h]; exact hl x List.mem_cons_self
    · exact hs y hy
theorem ok_crash {d : Dk} (h : d.Ok) (keep : List Bool) : (d.crash keep).Ok :=
  ⟨keepFrom_mem keep d.waits 0 d.secs h.secs (fun x hx => (h.waits x hx).1), fun x hx => by simp [crash] at hx⟩
theorem ok_fell {d : Dk} (h : d.Ok) : d.fell.Ok := by unfold fell; split; exact ok_crash h _; exact h
theorem ok_counted {d : Dk} (h : d.Ok) : d.counted.Ok := ⟨h.secs, h.waits⟩
theorem fell_len (d : Dk) : d.fell.secs.length = d.secs.length := by unfold fell; split <;> simp [crash, keepFrom_len]
theorem ok_begun {d : Dk} (h : d.Ok) : d.begun.Ok := by unfold begun; split; exact ok_fell h; exact ok_counted (ok_fell h)
theorem flush_len (l : List (Nat × List UInt8)) : ∀ s : List (List UInt8), (flush l s).length = s.length := by
  induction l with
  | nil => intro s; rfl
  | cons x l ih => intro s; show (flush l (s.set x.1 x.2)).length = _; rw [ih]; simp
theorem flush_mem (l : List (Nat × List UInt8)) : ∀ s : List (List UInt8), (∀ y ∈ s, y.length = 512) → (∀ x ∈ l, x.2.length = 512) → ∀ y ∈ flush l s, y.length = 512 := by
  induction l with
  | nil => intro s hs _ y hy; exact hs y hy
  | cons x l ih =>
    intro s hs hl
    refine ih _ ?_ (fun z hz => hl z (List.mem_cons_of_mem _ hz))
    intro y hy
    rcases List.mem_or_eq_of_mem_set hy with h | h
    · exact hs y h
    · rw [h]; exact hl x List.mem_cons_self
theorem ok_barrier {d : Dk} (h : d.Ok) : d.barrier.Ok := by
  unfold barrier
  split
  · exact ok_fell h
  · exact ⟨flush_mem _ _ (ok_fell h).secs (fun x hx => ((ok_fell h).waits x hx).1), fun x hx => by simp at hx⟩
theorem ok_write {d : Dk} (h : d.Ok) (at_ : Nat) (b : List UInt8) (hb : b.length = 512) (ha : at_ < d.secs.length) : (d.write at_ b).Ok := by
  unfold write
  split
  · exact ok_fell h
  · refine ⟨(ok_fell h).secs, ?_⟩
    intro x hx
    rcases List.mem_append.1 hx with hx | hx
    · exact (ok_fell h).waits x hx
    · simp at hx
      subst hx
      exact ⟨hb, by rw [← fell_len d] at ha; exact ha⟩
theorem ok_arm {d : Dk} (h : d.Ok) (n : Int) (keep : List Bool) : (d.arm n keep).Ok := ⟨h.secs, h.waits⟩
theorem ok_start {d : Dk} (h : d.Ok) : d.start.Ok := by unfold start; split; exact ⟨h.secs, h.waits⟩; exact h
theorem now_len {d : Dk} (h : d.Ok) (at_ : Nat) (ha : at_ < d.secs.length) : (d.now at_).length = 512 := by
  unfold now
  split
  · rename_i x hx
    exact (h.waits x (List.mem_reverse.1 (List.mem_of_find?_eq_some hx))).1
  · exact h.secs _ (by simp [List.getD, ha])
theorem keepFrom_append (keep : List Bool) (a b : List (Nat × List UInt8)) : ∀ (i : Nat) (s : List (List UInt8)), keepFrom keep i (a ++ b) s = keepFrom keep (i + a.length) b (keepFrom keep i a s) := by
  induction a with
  | nil => intro i s; rfl
  | cons x a ih =>
    intro i s
    rw [List.cons_append, keepFrom, keepFrom, ih]
    congr 1
    simp; omega
/-- One write more. -/
theorem keepFrom_take (keep : List Bool) (ws : List (Nat × List UInt8)) (k : Nat) (hk : k < ws.length) (s : List (List UInt8)) :
    keepFrom keep 0 (ws.take (k + 1)) s = if keep.getD k false then (keepFrom keep 0 (ws.take k) s).set (ws.getD k (0, [])).1 (ws.getD k (0, [])).2 else keepFrom keep 0 (ws.take k) s := by
  rw [List.take_succ_eq_append_getElem hk, keepFrom_append]
  have e : ws.getD k (0, []) = ws[k] := by simp [List.getD, hk]
  rw [e]
  simp only [keepFrom, List.length_take, Nat.zero_add, Nat.min_eq_left (Nat.le_of_lt hk)]
theorem flush_take (ws : List (Nat × List UInt8)) (k : Nat) (hk : k < ws.length) (s : List (List UInt8)) :
    flush (ws.take (k + 1)) s = (flush (ws.take k) s).set (ws.getD k (0, [])).1 (ws.getD k (0, [])).2 := by
  rw [List.take_succ_eq_append_getElem hk]
  have e : ws.getD k (0, []) = ws[k] := by simp [List.getD, hk]
  rw [e]
  unfold flush
  rw [List.foldl_append]
  rfl
end Dk
end Go.Proofs.Ytgicpialopccpaa
