/- How a disk lies in memory. -/
import Derived.Test.YtgicpialopccpaaLib
import Derived.Test.YtgicpialopccpaaDk
namespace Go.Proofs.Ytgicpialopccpaa
open Go.RowKit

/-- The types of the blocks that a disk's functions write to. -/
def hot (t : TypeId) : Bool := t == 65 || t == 30 || t == 70 || t == 68
/-- No block that they write to. -/
def Cold (o : Option Obj) : Prop := ∀ c t f, o = some (.cells c t f) → hot t = false
/-- What was there stands, but for the blocks of M that are hot. -/
structure Keeps (M : Nat → Prop) (w w' : World) : Prop where
  os : w'.os = w.os
  tape : w'.tape = w.tape
  output : w'.output = w.output
  size : w.heap.size ≤ w'.heap.size
  block : ∀ k, k < w.heap.size → (M k → Cold (w.heap[k]?)) → w'.heap[k]? = w.heap[k]?

theorem Keeps.refl (M : Nat → Prop) (w : World) : Keeps M w w := ⟨rfl, rfl, rfl, Nat.le_refl _, fun _ _ _ => rfl⟩
theorem Keeps.trans {M : Nat → Prop} {a b c : World} (h : Keeps M a b) (k : Keeps M b c) : Keeps M a c :=
  ⟨k.os.trans h.os, k.tape.trans h.tape, k.output.trans h.output, Nat.le_trans h.size k.size, fun i hi hc => by
    have e := h.block i hi hc
    rw [← e]
    exact k.block i (Nat.lt_of_lt_of_le hi h.size) (fun hm => by rw [e]; exact hc hm)⟩
theorem Keeps.drew {M : Nat → Prop} {a w : World} (h : Keeps M a w) : Keeps M a w.drew := ⟨h.os, h.tape, h.output, h.size, h.block⟩
theorem Keeps.alloc {M : Nat → Prop} {a w : World} (h : Keeps M a w) (o : Obj) : Keeps M a (w.alloc o) :=
  ⟨h.os, h.tape, h.output, by have := h.size; simp; omega, fun k hk hc => (Below.heap_alloc w o k (Nat.lt_of_lt_of_le hk h.size)).trans (h.block k hk hc)⟩
/-- A store into a block that was not there. -/
theorem Keeps.setNew {M : Nat → Prop} {a w : World} (h : Keeps M a w) {p : Addr} (hp : a.heap.size ≤ p.block) (v : Value) : Keeps M a (w.setCell p v) :=
  ⟨h.os, h.tape, h.output, by have := h.size; simp; omega, fun k hk hc => (Below.heap_setCell w p v k (by omega)).trans (h.block k hk hc)⟩
/-- A store into a hot block of M. -/
theorem Keeps.setHot {M : Nat → Prop} {a w : World} (h : Keeps M a w) {p : Addr} {c : Array Value} {t : TypeId} {f : Nat × Nat} (hp : a.heap[p.block]? = some (.cells c t f)) (hm : M p.block) (ht : hot t = true) (v : Value) : Keeps M a (w.setCell p v) :=
  ⟨h.os, h.tape, h.output, by have := h.size; simp; omega, fun k hk hc => (Below.heap_setCell w p v k (fun e => by
    subst e
    have := hc hm _ _ _ hp
    rw [this] at ht; cases ht)).trans (h.block k hk hc)⟩
theorem Keeps.below {M : Nat → Prop} {a w : World} (h : Keeps M a w) {B : Nat} (hB : ∀ k, M k → B ≤ k) (hs : B ≤ a.heap.size) : Below B a w :=
  ⟨h.os, h.tape, h.output, h.size, fun k hk => h.block k (by omega) (fun hm => by have := hB k hm; omega)⟩
theorem Keeps.of_below {M : Nat → Prop} {a w : World} (h : Below a.heap.size a w) : Keeps M a w := ⟨h.os, h.tape, h.output, h.size, fun k hk _ => h.block k hk⟩
theorem Keeps.mono {M M' : Nat → Prop} {a w : World} (h : Keeps M a w) (hm : ∀ k, k < a.heap.size → M k → M' k) : Keeps M' a w :=
  ⟨h.os, h.tape, h.output, h.size, fun k hk hc => h.block k hk (fun hx => hc (hm k hk hx))⟩

/-- A slice value whose row lies in M. -/
def OwnsM (w : World) (M : Nat → Prop) (e : TypeId) (size : Nat) (v : Value) (n : Nat) (xs : List Value) : Prop := w.ownsRow 0 e size v n xs ∧ ∀ g, v.ownBlock = some g → M g
theorem OwnsM.frame {w w' : World} {M M' : Nat → Prop} {e : TypeId} {size n : Nat} {v : Value} {xs : List Value} (h : OwnsM w M e size v n xs)
    (hk : ∀ k, k < w.heap.size → M k → w'.heap[k]? = w.heap[k]? ∧ M' k) : OwnsM w' M' e size v n xs := by
  refine ⟨⟨h.1.1, ?_⟩, fun g hg => ?_⟩
  · rcases h.1.2 with h2 | ⟨g, cap, cur, rfl, hb, hh, r⟩
    · exact .inl h2
    · exact .inr ⟨g, cap, cur, rfl, hb, by rw [(hk g (Array.getElem?_eq_some_iff.1 hh).1 (h.2 g rfl)).1]; exact hh, r⟩
  · exact (hk g ((h.1.lt g hg).2) (h.2 g hg)).2
/-- Another block, of another type, was written. -/
theorem OwnsM.other {w w' : World} {M : Nat → Prop} {e : TypeId} {size n : Nat} {v : Value} {xs : List Value} (h : OwnsM w M e size v n xs) {p : Nat} {c : Array Value} {t : TypeId} {f : Nat × Nat}
    (hp : w.heap[p]? = some (.cells c t f)) (ht : e ≠ t) (hk : ∀ k, k < w.heap.size → k ≠ p → w'.heap[k]? = w.heap[k]?) : OwnsM w' M e size v n xs := by
  refine ⟨⟨h.1.1, ?_⟩, h.2⟩
  rcases h.1.2 with h2 | ⟨g, cap, cur, rfl, hb, hh, r⟩
  · exact .inl h2
  · refine .inr ⟨g, cap, cur, rfl, hb, ?_, r⟩
    rw [hk g (Array.getElem?_eq_some_iff.1 hh).1 (fun e' => by subst e'; rw [hp] at hh; cases hh; exact ht rfl)]
    exact hh
theorem OwnsM.grow {w w' : World} {M : Nat → Prop} {e : TypeId} {size n : Nat} {v : Value} {xs : List Value} (h : OwnsM w M e size v n xs) (hk : ∀ k, k < w.heap.size → w'.heap[k]? = w.heap[k]?) : OwnsM w' M e size v n xs :=
  h.frame (fun k hk' hm => ⟨hk k hk', hm⟩)

/-- A sector: never written (nil), or its bytes. -/
def SecAt (w : World) (M : Nat → Prop) (v : Value) (l : List UInt8) : Prop := (v = .slice none 0 0 ∧ l = Dk.zero) ∨ (l.length = 512 ∧ OwnsM w M 5 1 v 512 (l.map byteV))
/-- The writes that wait, as cells. -/
def pairs (ws : List (Nat × List UInt8)) (dvs : List Value) : List Value := (List.zipWith (fun x v => [Value.int .i64 ((x.1 : Nat) : Int), v]) ws dvs).flatten
/-- The crash that is armed. -/
def ArmIn (w : World) (M : Nat → Prop) (av : Value) : Option (Nat × List Bool) → Prop
  | none => av = .pointer none
  | some (left, keep) => ∃ ab kv, av = .pointer (some ⟨ab, 0, none⟩) ∧ M ab ∧ w.heap[ab]? = some (.cells #[.int .i64 (left : Int), kv] 68 (0, 0)) ∧ OwnsM w M 4 1 kv keep.length (keep.map Value.bool) ∧ left ≤ 9223372036854775807

structure DiskIn (w : World) (p sb : Nat) (scs : List Value) (wv : Value) (dvs : List Value) (av : Value) (D : Dk) (M : Nat → Prop) : Prop where
  hp : w.heap[p]? = some (.cells #[.slice (some ⟨sb, 0, none⟩) D.secs.length D.secs.length, wv, .bool D.down, .int .i64 D.ops, av] 65 (0, 0))
  mp : M p
  msb : M sb
  hs : w.heap[sb]? = some (.cells scs.toArray 30 (0, 0))
  sl : scs.length = D.secs.length
  sec : ∀ i, i < D.secs.length → SecAt w M (scs.getD i undef) (D.secs.getD i [])
  hw : OwnsM w M 70 2 wv D.waits.length (pairs D.waits dvs)
  dl : dvs.length = D.waits.length
  dat : ∀ i, i < D.waits.length → OwnsM w M 5 1 (dvs.getD i undef) 512 ((D.waits.getD i (0, [])).2.map byteV)
  arm : ArmIn w M av D.armed
  new : ∀ k, w.heap.size ≤ k → M k
  ok : D.Ok
  len : 1 ≤ D.secs.length ∧ D.secs.length ≤ 4096
  ops : -9223372036854775808 ≤ D.ops ∧ D.ops ≤ 9223372036854775807

/-- A disk lies at p. -/
def DiskAt (w : World) (p : Nat) (D : Dk) (M : Nat → Prop) : Prop := ∃ sb scs wv dvs av, DiskIn w p sb scs wv dvs av D M

theorem SecAt.frame {w w' : World} {M M' : Nat → Prop} {v : Value} {l : List UInt8} (h : SecAt w M v l) (hk : ∀ k, k < w.heap.size → M k → w'.heap[k]? = w.heap[k]? ∧ M' k) : SecAt w' M' v l :=
  h.imp id fun h => ⟨h.1, h.2.frame hk⟩
theorem ArmIn.frame {w w' : World} {M M' : Nat → Prop} {v : Value} {x : Option (Nat × List Bool)} (h : ArmIn w M v x) (hk : ∀ k, k < w.heap.size → M k → w'.heap[k]? = w.heap[k]? ∧ M' k) : ArmIn w' M' v x := by
  match x, h with
  | none, h => exact h
  | some (left, keep), ⟨ab, kv, e, hm, hh, hr, hl⟩ => exact ⟨ab, kv, e, (hk ab (Array.getElem?_eq_some_iff.1 hh).1 hm).2, by rw [(hk ab (Array.getElem?_eq_some_iff.1 hh).1 hm).1]; exact hh, hr.frame hk, hl⟩
/-- The disk's own blocks stand: so does the disk. -/
theorem DiskAt.frame {w w' : World} {p : Nat} {D : Dk} {M M' : Nat → Prop} (h : DiskAt w p D M) (hk : ∀ k, k < w.heap.size → M k → w'.heap[k]? = w.heap[k]? ∧ M' k) (hn : ∀ k, w'.heap.size ≤ k → M' k) : DiskAt w' p D M' := by
  obtain ⟨sb, scs, wv, dvs, av, h⟩ := h
  have lt : ∀ {k o}, w.heap[k]? = some o → k < w.heap.size := fun hh => (Array.getElem?_eq_some_iff.1 hh).1
  exact ⟨sb, scs, wv, dvs, av, by rw [(hk p (lt h.hp) h.mp).1]; exact h.hp, (hk p (lt h.hp) h.mp).2, (hk sb (lt h.hs) h.msb).2, by rw [(hk sb (lt h.hs) h.msb).1]; exact h.hs, h.sl,
    fun i hi => (h.sec i hi).frame hk, h.hw.frame hk, h.dl, fun i hi => (h.dat i hi).frame hk, h.arm.frame hk, hn, h.ok, h.len, h.ops⟩
/-- New blocks alone. -/
theorem DiskAt.grow {w w' : World} {p : Nat} {D : Dk} {M : Nat → Prop} (h : DiskAt w p D M) (hb : Below w.heap.size w w') : DiskAt w' p D M := by
  obtain ⟨sb, scs, wv, dvs, av, h'⟩ := id h
  exact h.frame (fun k hk hm => ⟨hb.block k hk, hm⟩) (fun k hk => h'.new k (Nat.le_trans hb.size hk))

/-! ### A store into the disk's own block -/
theorem heap_set {w : World} {p i : Nat} {v : Value} {c : Array Value} {t : TypeId} {f : Nat × Nat} (h : w.heap[p]? = some (.cells c t f)) : (w.setCell ⟨p, i, none⟩ v).heap[p]? = some (.cells (c.setIfInBounds i v) t f) := by
  obtain ⟨hlt, hk'⟩ := Array.getElem?_eq_some_iff.1 h
  show (w.heap.modify p _)[p]? = _
  rw [Array.getElem?_eq_getElem (by rw [Array.size_modify]; exact hlt), Array.getElem_modify_self, hk']
  rfl
theorem heap_set_other {w : World} {p i k : Nat} {v : Value} (h : k ≠ p) : (w.setCell ⟨p, i, none⟩ v).heap[k]? = w.heap[k]? := Below.heap_setCell w _ v k h
theorem cell_of {w : World} {p i : Nat} {c : Array Value} {t : TypeId} {f : Nat × Nat} (h : w.heap[p]? = some (.cells c t f)) : w.cell? ⟨p, i, none⟩ = c[i]? := by simp [World.cell?, h]
theorem free_of {w : World} {p i : Nat} {c : Array Value} {t : TypeId} (h : w.heap[p]? = some (.cells c t (0, 0))) : w.frozen? ⟨p, i, none⟩ = false := by simp [World.frozen?, h]

theorem DiskIn.atP {w w' : World} {p sb : Nat} {scs : List Value} {wv : Value} {dvs : List Value} {av : Value} {D : Dk} {M : Nat → Prop} (h : DiskIn w p sb scs wv dvs av D M)
    (hk : ∀ k, k < w.heap.size → k ≠ p → w'.heap[k]? = w.heap[k]?) (hsz : w'.heap.size = w.heap.size) (wv' : Value) (dvs' : List Value) (av' : Value) (D' : Dk)
    (hp' : w'.heap[p]? = some (.cells #[.slice (some ⟨sb, 0, none⟩) D.secs.length D.secs.length, wv', .bool D'.down, .int .i64 D'.ops, av'] 65 (0, 0)))
    (hsecs : D'.secs = D.secs) (hw' : (wv' = wv ∧ dvs' = dvs ∧ D'.waits = D.waits) ∨ (wv' = .slice none 0 0 ∧ dvs' = [] ∧ D'.waits = []))
    (ha' : (av' = av ∧ D'.armed = D.armed) ∨ (av' = .pointer none ∧ D'.armed = none)) (ho : -9223372036854775808 ≤ D'.ops ∧ D'.ops ≤ 9223372036854775807) : DiskIn w' p sb scs wv' dvs' av' D' M := by
  have lt : ∀ {k o}, w.heap[k]? = some o → k < w.heap.size := fun hh => (Array.getElem?_eq_some_iff.1 hh).1
  have hsp : sb ≠ p := fun e => by have := h.hs; rw [e, h.hp] at this; simp at this
  refine ⟨by rw [hsecs]; exact hp', h.mp, h.msb, by rw [hk sb (lt h.hs) hsp]; exact h.hs, by rw [hsecs]; exact h.sl, ?_, ?_, ?_, ?_, ?_, fun k hk' => h.new k (by omega), ?_, by rw [hsecs]; exact h.len, ho⟩
  · intro i hi
    rw [hsecs] at hi ⊢
    exact (h.sec i hi).imp id fun x => ⟨x.1, x.2.other h.hp (by decide) hk⟩
  · rcases hw' with ⟨rfl, rfl, e⟩ | ⟨rfl, rfl, e⟩
    · rw [e]; exact h.hw.other h.hp (by decide) hk
    · rw [e]; exact ⟨World.ownsRow_nil _ _ _ _, fun g hg => by simp [Value.ownBlock] at hg⟩
  · rcases hw' with ⟨rfl, rfl, e⟩ | ⟨rfl, rfl, e⟩
    · rw [e]; exact h.dl
    · rw [e]; rfl
  · rcases hw' with ⟨rfl, rfl, e⟩ | ⟨rfl, rfl, e⟩
    · rw [e]; intro i hi; exact (h.dat i hi).other h.hp (by decide) hk
    · rw [e]; intro i hi; exact absurd hi (Nat.not_lt_zero i)
  · rcases ha' with ⟨rfl, e⟩ | ⟨rfl, e⟩
    · rw [e]
      have ha := h.arm
      cases hx : D.armed with
      | none => rw [hx] at ha; exact ha
      | some x =>
        obtain ⟨left, keep⟩ := x
        rw [hx] at ha
        obtain ⟨ab, kv, e1, hm, hh, hr, hl⟩ := ha
        have hap : ab ≠ p := fun e => by rw [e, h.hp] at hh; simp at hh
        exact ⟨ab, kv, e1, hm, by rw [hk ab (lt hh) hap]; exact hh, hr.other h.hp (by decide) hk, hl⟩
    · rw [e]; rfl
  · refine ⟨by rw [hsecs]; exact h.ok.secs, ?_⟩
    rcases hw' with ⟨_, _, e⟩ | ⟨_, _, e⟩
    · rw [e, hsecs]; exact h.ok.waits
    · rw [e]; intro x hx; simp at hx

/-- A store into the row of sectors: of a write that waits. -/
theorem DiskIn.setSec {w : World} {p sb : Nat} {scs : List Value} {wv : Value} {dvs : List Value} {av : Value} {D : Dk} {M : Nat → Prop} (h : DiskIn w p sb scs wv dvs av D M) (i k : Nat) (hi : i < D.secs.length) (hk : k < D.waits.length) :
    DiskIn (w.setCell ⟨sb, i, none⟩ (dvs.getD k undef)) p sb (scs.set i (dvs.getD k undef)) wv dvs av { D with secs := D.secs.set i (D.waits.getD k (0, [])).2 } M := by
  have lt : ∀ {k o}, w.heap[k]? = some o → k < w.heap.size := fun hh => (Array.getElem?_eq_some_iff.1 hh).1
  have hps : p ≠ sb := fun e => by have := h.hs; rw [← e, h.hp] at this; simp at this
  have ho : ∀ k, k < w.heap.size → k ≠ sb → (w.setCell ⟨sb, i, none⟩ (dvs.getD k undef)).heap[k]? = w.heap[k]? := fun k _ hk => heap_set_other hk
  have hwk : (D.waits.getD k (0, [])) ∈ D.waits := by simp [List.getD, hk]
  have hw5 := (h.ok.waits _ hwk).1
  refine ⟨by rw [heap_set_other hps]; simpa using h.hp, h.mp, h.msb, ?_, by simpa using h.sl, ?_, h.hw.other h.hs (by decide) (fun k _ hk => heap_set_other hk), h.dl,
    fun j hj => (h.dat j hj).other h.hs (by decide) (fun k _ hk => heap_set_other hk), ?_, fun k hk' => h.new k (by simpa using hk'), ?_, by simpa using h.len, h.ops⟩
  · rw [heap_set h.hs]; simp
  · intro j hj
    have hj' : j < D.secs.length := by simpa using hj
    by_cases e : j = i
    · subst e
      have e1 : (scs.set j (dvs.getD k undef)).getD j undef = dvs.getD k undef := by simp [List.getD, h.sl, hj']
      have e2 : (D.secs.set j (D.waits.getD k (0, [])).2).getD j [] = (D.waits.getD k (0, [])).2 := by simp [List.getD, hj']
      rw [e1, e2]
      exact .inr ⟨hw5, (h.dat k hk).other h.hs (by decide) (fun k _ hk => heap_set_other hk)⟩
    · have e1 : (scs.set i (dvs.getD k undef)).getD j undef = scs.getD j undef := by simp [List.getD, Ne.symm e]
      have e2 : (D.secs.set i (D.waits.getD k (0, [])).2).getD j [] = D.secs.getD j [] := by simp [List.getD, Ne.symm e]
      rw [e1, e2]
      exact (h.sec j hj').imp id fun x => ⟨x.1, x.2.other h.hs (by decide) (fun k _ hk => heap_set_other hk)⟩
  · have ha := h.arm
    show ArmIn _ M av D.armed
    cases hx : D.armed with
    | none => rw [hx] at ha; exact ha
    | some x =>
      obtain ⟨left, keep⟩ := x
      rw [hx] at ha
      obtain ⟨ab, kv, e1, hm, hh, hr, hl⟩ := ha
      have hap : ab ≠ sb := fun e => by rw [e, h.hs] at hh; simp at hh
      exact ⟨ab, kv, e1, hm, by rw [heap_set_other hap]; exact hh, hr.other h.hs (by decide) (fun k _ hk => heap_set_other hk), hl⟩
  · refine ⟨?_, fun x hx => by simpa using h.ok.waits x hx⟩
    intro y hy
    rcases List.mem_or_eq_of_mem_set hy with hy | hy
    · exact h.ok.secs y hy
    · rw [hy]; exact hw5
/-- New blocks, and writes to blocks outside M. -/
theorem DiskIn.frame {w w' : World} {p sb : Nat} {scs : List Value} {wv : Value} {dvs : List Value} {av : Value} {D : Dk} {M : Nat → Prop} (h : DiskIn w p sb scs wv dvs av D M) (hk : ∀ k, k < w.heap.size → M k → w'.heap[k]? = w.heap[k]?) (hs : w.heap.size ≤ w'.heap.size) : DiskIn w' p sb scs wv dvs av D M := by
  have lt : ∀ {k o}, w.heap[k]? = some o → k < w.heap.size := fun hh => (Array.getElem?_eq_some_iff.1 hh).1
  have hk' : ∀ k, k < w.heap.size → M k → w'.heap[k]? = w.heap[k]? ∧ M k := fun k a b => ⟨hk k a b, b⟩
  exact ⟨by rw [hk p (lt h.hp) h.mp]; exact h.hp, h.mp, h.msb, by rw [hk sb (lt h.hs) h.msb]; exact h.hs, h.sl,
    fun i hi => (h.sec i hi).frame hk', h.hw.frame hk', h.dl, fun i hi => (h.dat i hi).frame hk', h.arm.frame hk', fun k hk2 => h.new k (Nat.le_trans hs hk2), h.ok, h.len, h.ops⟩

theorem pairs_at (ws : List (Nat × List UInt8)) : ∀ (dvs : List Value) (k : Nat), dvs.length = ws.length → k < ws.length →
    (pairs ws dvs)[2 * k]? = some (Value.int .i64 (((ws.getD k (0, [])).1 : Nat) : Int)) ∧ (pairs ws dvs)[2 * k + 1]? = some (dvs.getD k undef) := by
  induction ws with
  | nil => intro dvs k _ hk; exact absurd hk (Nat.not_lt_zero k)
  | cons x ws ih =>
    intro dvs k hd hk
    match dvs, hd with
    | v :: dvs, hd =>
      cases k with
      | zero => exact ⟨rfl, rfl⟩
      | succ k =>
        have := ih dvs k (by simpa using hd) (by simpa using hk)
        have e : pairs (x :: ws) (v :: dvs) = Value.int .i64 ((x.1 : Nat) : Int) :: v :: pairs ws dvs := rfl
        rw [e]
        exact this
/-- The cells of a write that waits. -/
theorem DiskIn.waitAt {w : World} {p sb : Nat} {scs : List Value} {wv : Value} {dvs : List Value} {av : Value} {D : Dk} {M : Nat → Prop} (h : DiskIn w p sb scs wv dvs av D M) (h0 : 0 < D.waits.length) :
    ∃ wg wc, wv = .slice (some ⟨wg, 0, none⟩) D.waits.length wc ∧ M wg ∧ (∀ k, k < D.waits.length → w.cell? ⟨wg, k * 2, none⟩ = some (.int .i64 (((D.waits.getD k (0, [])).1 : Nat) : Int)) ∧ w.cell? ⟨wg, k * 2 + 1, none⟩ = some (dvs.getD k undef)) := by
  rcases h.hw.1.2 with ⟨_, e⟩ | ⟨g, cap, cur, e, hb, hh, _⟩
  · omega
  · refine ⟨g, cap, e, h.hw.2 g (by rw [e]; rfl), fun k hk => ?_⟩
    obtain ⟨p1, p2⟩ := pairs_at D.waits dvs k h.dl hk
    have c1 := h.hw.1.cells (g := g) (by rw [e]; rfl) (2 * k) _ p1
    have c2 := h.hw.1.cells (g := g) (by rw [e]; rfl) (2 * k + 1) _ p2
    rw [addr_add, Nat.zero_add, Nat.mul_comm] at c1 c2
    exact ⟨c1, c2⟩
/-- What a write holds is a slice. -/
theorem DiskIn.datAt {w : World} {p sb : Nat} {scs : List Value} {wv : Value} {dvs : List Value} {av : Value} {D : Dk} {M : Nat → Prop} (h : DiskIn w p sb scs wv dvs av D M) (k : Nat) (hk : k < D.waits.length) :
    ∃ b c, dvs.getD k undef = .slice (some ⟨b, 0, none⟩) 512 c ∧ M b ∧ 512 ≤ c := by
  have hd := h.dat k hk
  rcases hd.1.2 with ⟨_, e⟩ | ⟨g, cap, cur, e, hb, hh, hc, _⟩
  · omega
  · exact ⟨g, cap, e, hd.2 g (by rw [e]; rfl), hc⟩

/-- What a slice of bools reads as, that no function of a disk writes to. -/
def BoolsAt (w : World) (a : Option Addr) (l : List Bool) : Prop := ∀ i, i < l.length → ∃ b o, a = some ⟨b, o, none⟩ ∧ w.cell? ⟨b, o + i, none⟩ = some (.bool (l.getD i false))
def KBools (w : World) (M : Nat → Prop) (a : Option Addr) (l : List Bool) : Prop := BoolsAt w a l ∧ ∀ b o, a = some ⟨b, o, none⟩ → 0 < l.length → M b → Cold (w.heap[b]?)
theorem KBools.keeps {w w' : World} {M : Nat → Prop} {a : Option Addr} {l : List Bool} (h : KBools w M a l) (hk : Keeps M w w') : KBools w' M a l := by
  have same : ∀ b o, a = some ⟨b, o, none⟩ → 0 < l.length → w'.heap[b]? = w.heap[b]? := fun b o e h0 => by
    obtain ⟨b', o', e', hc⟩ := h.1 0 h0
    rw [e] at e'
    cases e'
    exact hk.block b (World.block_lt_of_cell? _ _ hc) (h.2 b o e h0)
  refine ⟨fun i hi => ?_, fun b o e h0 hm => by rw [same b o e h0]; exact h.2 b o e h0 hm⟩
  obtain ⟨b, o, e, hc⟩ := h.1 i hi
  exact ⟨b, o, e, (World.cell?_of_block (w := w) (same b o e (by omega))).trans hc⟩
theorem KBools.grow {w w' : World} {M : Nat → Prop} {a : Option Addr} {l : List Bool} (h : KBools w M a l) (hk : Below w.heap.size w w') : KBools w' M a l := h.keeps (Keeps.of_below hk)
theorem KBools.nil (w : World) (M : Nat → Prop) (a : Option Addr) : KBools w M a [] := ⟨fun i h => absurd h (Nat.not_lt_zero i), fun _ _ _ h => absurd h (Nat.not_lt_zero 0)⟩

/-- What is armed, as it lies. -/
theorem DiskIn.armAt {w : World} {p sb : Nat} {scs : List Value} {wv : Value} {dvs : List Value} {av : Value} {D : Dk} {M : Nat → Prop} (h : DiskIn w p sb scs wv dvs av D M) (left : Nat) (keep : List Bool) (hx : D.armed = some (left, keep)) :
    ∃ ab ka kc, av = .pointer (some ⟨ab, 0, none⟩) ∧ M ab ∧ ab ≠ p ∧ w.heap[ab]? = some (.cells #[.int .i64 (left : Int), .slice ka keep.length kc] 68 (0, 0)) ∧ KBools w M ka keep ∧ left ≤ 9223372036854775807 ∧ keep.length ≤ 9223372036854775807 := by
  have ha := h.arm
  rw [hx] at ha
  obtain ⟨ab, kv, e1, hm, hh, hr, hl⟩ := ha
  obtain ⟨ka, kc, rfl, h1, h2⟩ := ownsRow_slice hr.1
  have hap : ab ≠ p := fun e => by rw [e, h.hp] at hh; simp at hh
  refine ⟨ab, ka, kc, e1, hm, hap, hh, ⟨fun i hi => ?_, fun b o e h0 _ => ?_⟩, hl, by unfold maxLen at h2; omega⟩
  · rcases hr.1.2 with ⟨_, e⟩ | ⟨g, cap, cur, e, hb, hg, _⟩
    · omega
    · simp only [Value.slice.injEq] at e
      obtain ⟨rfl, _, rfl⟩ := e
      refine ⟨g, 0, rfl, ?_⟩
      have := hr.1.cells (g := g) rfl i (.bool keep[i]) (by simp [hi])
      rw [addr_add] at this
      rw [this]
      simp [List.getD, hi]
  · rcases hr.1.2 with ⟨_, e'⟩ | ⟨g, cap, cur, e', hb, hg, _⟩
    · omega
    · simp only [Value.slice.injEq] at e'
      obtain ⟨e'', _, _⟩ := e'
      rw [e''] at e
      cases e
      intro c t f hc
      rw [hg] at hc
      cases hc
      rfl
theorem DiskIn.setLeft {w : World} {p sb : Nat} {scs : List Value} {wv : Value} {dvs : List Value} {ab : Nat} {D : Dk} {M : Nat → Prop} (h : DiskIn w p sb scs wv dvs (.pointer (some ⟨ab, 0, none⟩)) D M) (left left' : Nat) (keep : List Bool) (hx : D.armed = some (left, keep)) (hl' : left' ≤ 9223372036854775807) :
    DiskIn (w.setCell ⟨ab, 0, none⟩ (.int .i64 (left' : Int))) p sb scs wv dvs (.pointer (some ⟨ab, 0, none⟩)) { D with armed := some (left', keep) } M := by
  have lt : ∀ {k o}, w.heap[k]? = some o → k < w.heap.size := fun hh => (Array.getElem?_eq_some_iff.1 hh).1
  have ha := h.arm
  rw [hx] at ha
  obtain ⟨ab', kv, e1, hm, hh, hr, hl⟩ := ha
  cases e1
  have hap : p ≠ ab := fun e => by have := h.hp; rw [e, hh] at this; simp at this
  have has : sb ≠ ab := fun e => by have := h.hs; rw [e, hh] at this; simp at this
  have ho : ∀ k, k < w.heap.size → k ≠ ab → (w.setCell ⟨ab, 0, none⟩ (.int .i64 (left' : Int))).heap[k]? = w.heap[k]? := fun k _ hk => heap_set_other hk
  refine ⟨by rw [heap_set_other hap]; exact h.hp, h.mp, h.msb, by rw [heap_set_other has]; exact h.hs, h.sl, fun i hi => (h.sec i hi).imp id fun x => ⟨x.1, x.2.other hh (by decide) ho⟩,
    h.hw.other hh (by decide) ho, h.dl, fun j hj => (h.dat j hj).other hh (by decide) ho, ?_, fun k hk' => h.new k (by simpa using hk'), ⟨h.ok.secs, h.ok.waits⟩, h.len, h.ops⟩
  exact ⟨ab, kv, rfl, hm, by rw [heap_set hh]; rfl, hr.other hh (by decide) ho, hl'⟩
end Go.Proofs.Ytgicpialopccpaa
