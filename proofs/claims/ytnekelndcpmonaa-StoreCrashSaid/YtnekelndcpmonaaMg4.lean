/- Assertions beside one another, each over blocks of its own. A range over a function whose iterator keeps its state in one box of its own: the iterator's contract, and the law for the caller. The disk's functions, by assertions. -/
import Derived.Test.YtnekelndcpmonaaMg3
import Derived.Maps.AppendAt
import Derived.RangeFuncNested
import Derived.BigQuiet
import Derived.RangeFuncBound
import Derived.RangeFuncCalls
import Derived.RangeFuncLeaves
import Derived.Shelf.Abstract
import Derived.WalkKit
import Derived.OwnWalkIn
import Derived.TacticsInMore
import Derived.LoopNIn
import Derived.LoopIn
import Derived.Deep.RegionHeld
set_option linter.all false
namespace Go.Proofs.Ytnekelndcpmonaa
set_option linter.unusedVariables false
open Go.RowKit

/-- What is said of a world, over a set of blocks. -/
structure Asn where
  holds : World → (Nat → Prop) → Prop
  base : Nat
  le : ∀ w F, holds w F → base ≤ w.heap.size
  lt : ∀ w F, holds w F → ∀ k, F k → k < w.heap.size
  cells : ∀ w F, holds w F → ∀ k, F k → k < base ∨ ∃ c t f, w.heap[k]? = some (.cells c t f)
  keep : ∀ w w' F, holds w F → w'.os = w.os → w'.tape = w.tape → w'.output = w.output → w.heap.size ≤ w'.heap.size → (∀ k, F k → w'.heap[k]? = w.heap[k]?) → holds w' F

/-- One behind another, out of the blocks U. -/
def SepIn (w : World) : List Asn → (Nat → Prop) → Prop
  | [], _ => True
  | A :: L, U => ∃ F : Nat → Prop, (∀ k, F k → U k) ∧ A.holds w F ∧ SepIn w L (fun k => U k ∧ ¬ F k)
def Sep (w : World) (L : List Asn) : Prop := SepIn w L (fun _ => True)

theorem SepIn.mono {w : World} : ∀ {L : List Asn} {U U' : Nat → Prop}, (∀ k, U k → U' k) → SepIn w L U → SepIn w L U'
  | [], _, _, _, _ => trivial
  | _ :: _, _, _, hU, ⟨F, h1, h2, h3⟩ => ⟨F, fun k hk => hU k (h1 k hk), h2, SepIn.mono (fun k hk => ⟨hU k hk.1, hk.2⟩) h3⟩
theorem SepIn.inter {w : World} : ∀ {L : List Asn} {U : Nat → Prop}, SepIn w L U → SepIn w L (fun k => U k ∧ k < w.heap.size)
  | [], _, _ => trivial
  | A :: _, _, ⟨F, h1, h2, h3⟩ => ⟨F, fun k hk => ⟨h1 k hk, A.lt _ _ h2 k hk⟩, h2, SepIn.mono (fun k hk => ⟨⟨hk.1.1, hk.2⟩, hk.1.2⟩) (SepIn.inter h3)⟩
theorem SepIn.keep {w w' : World} (e1 : w'.os = w.os) (e2 : w'.tape = w.tape) (e3 : w'.output = w.output) (e4 : w.heap.size ≤ w'.heap.size) :
    ∀ {L : List Asn} {U : Nat → Prop}, (∀ k, U k → k < w.heap.size → w'.heap[k]? = w.heap[k]?) → SepIn w L U → SepIn w' L U
  | [], _, _, _ => trivial
  | A :: _, _, hU, ⟨F, h1, h2, h3⟩ => ⟨F, h1, A.keep _ _ _ h2 e1 e2 e3 e4 (fun k hk => hU k (h1 k hk) (A.lt _ _ h2 k hk)), SepIn.keep e1 e2 e3 e4 (fun k hk => hU k hk.1) h3⟩
theorem SepIn.swap {w : World} {A B : Asn} {L : List Asn} {U : Nat → Prop} : SepIn w (A :: B :: L) U → SepIn w (B :: A :: L) U
  | ⟨F, h1, h2, G, h3, h4, h5⟩ => ⟨G, fun k hk => (h3 k hk).1, h4, F, fun k hk => ⟨h1 k hk, fun hg => (h3 k hg).2 hk⟩, h2, SepIn.mono (fun k hk => ⟨⟨hk.1.1, hk.2⟩, hk.1.2⟩) h5⟩
theorem SepIn.append {w : World} : ∀ {L R : List Asn} {U V X : Nat → Prop}, SepIn w L U → SepIn w R V → (∀ k, U k → ¬ V k) → (∀ k, U k → X k) → (∀ k, V k → X k) → SepIn w (L ++ R) X
  | [], _, _, _, _, _, h2, _, _, h5 => SepIn.mono h5 h2
  | _ :: _, _, _, _, _, ⟨F, h1, h2, h3⟩, h4, h5, h6, h7 =>
    ⟨F, fun k hk => h6 k (h1 k hk), h2, SepIn.append h3 h4 (fun k hk => h5 k hk.1) (fun k hk => ⟨h6 k hk.1, hk.2⟩) (fun k hk => ⟨h7 k hk, fun hf => h5 k (h1 k hf) hk⟩)⟩
theorem SepIn.tail {w : World} {A : Asn} {L : List Asn} {U : Nat → Prop} : SepIn w (A :: L) U → SepIn w L U
  | ⟨_, _, _, h3⟩ => SepIn.mono (fun _ hk => hk.1) h3

/-- What the first ones speak of. -/
theorem SepIn.split {w : World} {R : List Asn} : ∀ {L : List Asn} {U : Nat → Prop}, (∀ A ∈ L, A.base = 0) → SepIn w (L ++ R) U →
    ∃ F : Nat → Prop, (∀ k, F k → U k) ∧ (∀ k, F k → ∃ c t f, w.heap[k]? = some (.cells c t f)) ∧ SepIn w L F ∧ SepIn w R (fun k => U k ∧ ¬ F k)
  | [], _, _, h => ⟨fun _ => False, fun _ hk => hk.elim, fun _ hk => hk.elim, trivial, SepIn.mono (fun _ hk => ⟨hk, fun h => h⟩) h⟩
  | A :: L, U, hb, ⟨F, h1, h2, h3⟩ => by
    obtain ⟨G, g1, g2, g3, g4⟩ := SepIn.split (L := L) (fun B hB => hb B (List.mem_cons_of_mem _ hB)) h3
    have hA := hb A List.mem_cons_self
    refine ⟨fun k => F k ∨ G k, fun k hk => hk.elim (h1 k) (fun h => (g1 k h).1), fun k hk => hk.elim (fun h => ?_) (g2 k), ⟨F, fun k hk => .inl hk, h2, SepIn.mono (fun k hk => ⟨.inr hk, (g1 k hk).2⟩) g3⟩, SepIn.mono (fun k hk => ⟨hk.1.1, fun h => h.elim hk.1.2 hk.2⟩) g4⟩
    rcases A.cells _ _ h2 k h with h | h
    · omega
    · exact h
/-- Some assertions as one. -/
def packA (L : List Asn) : Asn where
  holds w F := (∀ k, F k → ∃ c t f, w.heap[k]? = some (.cells c t f)) ∧ SepIn w L F
  base := 0
  le := fun _ _ _ => Nat.zero_le _
  lt := fun w F h k hk => by obtain ⟨c, t, f, e⟩ := h.1 k hk; exact (Array.getElem?_eq_some_iff.1 e).1
  cells := fun w F h k hk => .inr (h.1 k hk)
  keep := fun w w' F h e1 e2 e3 e4 e5 => ⟨fun k hk => by obtain ⟨c, t, f, e⟩ := h.1 k hk; exact ⟨c, t, f, by rw [e5 k hk]; exact e⟩, SepIn.keep e1 e2 e3 e4 (fun k hk _ => e5 k hk) h.2⟩

namespace Sep
variable {w w' : World} {A B C D E G : Asn} {L R : List Asn}
theorem pack (hL : ∀ A ∈ L, A.base = 0) (h : Sep w (L ++ R)) : Sep w (packA L :: R) := by
  obtain ⟨F, h1, h2, h3, h4⟩ := SepIn.split hL h
  exact ⟨F, h1, ⟨h2, h3⟩, h4⟩
theorem unpack (h : Sep w (packA L :: R)) : Sep w (L ++ R) := by
  obtain ⟨F, h1, h2, h3⟩ := h
  exact SepIn.append h2.2 h3 (fun k hk hv => hv.2 hk) (fun _ _ => trivial) (fun _ _ => trivial)
theorem drop (h : Sep w (A :: L)) : Sep w L := SepIn.tail h
theorem up1 (h : Sep w (A :: B :: L)) : Sep w (B :: A :: L) := SepIn.swap h
theorem consI {U : Nat → Prop} {L' : List Asn} (hL : ∀ U, SepIn w L U → SepIn w L' U) : SepIn w (A :: L) U → SepIn w (A :: L') U
  | ⟨F, h1, h2, h3⟩ => ⟨F, h1, h2, hL _ h3⟩
theorem up2 (h : Sep w (A :: B :: C :: L)) : Sep w (C :: A :: B :: L) := SepIn.swap (consI (fun _ h => SepIn.swap h) h)
theorem up3 (h : Sep w (A :: B :: C :: D :: L)) : Sep w (D :: A :: B :: C :: L) := SepIn.swap (consI (fun _ h => SepIn.swap (consI (fun _ h => SepIn.swap h) h)) h)
theorem up4 (h : Sep w (A :: B :: C :: D :: E :: L)) : Sep w (E :: A :: B :: C :: D :: L) := SepIn.swap (consI (fun _ h => SepIn.swap (consI (fun _ h => SepIn.swap (consI (fun _ h => SepIn.swap h) h)) h)) h)
theorem up5 (h : Sep w (A :: B :: C :: D :: E :: G :: L)) : Sep w (G :: A :: B :: C :: D :: E :: L) :=
  SepIn.swap (consI (fun _ h => SepIn.swap (consI (fun _ h => SepIn.swap (consI (fun _ h => SepIn.swap (consI (fun _ h => SepIn.swap h) h)) h)) h)) h)
theorem dn2 (h : Sep w (A :: B :: C :: L)) : Sep w (B :: C :: A :: L) := consI (fun _ h => SepIn.swap h) (SepIn.swap h)
theorem dn3 (h : Sep w (A :: B :: C :: D :: L)) : Sep w (B :: C :: D :: A :: L) := consI (fun _ h => consI (fun _ h => SepIn.swap h) h) (dn2 h)
theorem dn4 (h : Sep w (A :: B :: C :: D :: E :: L)) : Sep w (B :: C :: D :: E :: A :: L) := consI (fun _ h => consI (fun _ h => consI (fun _ h => SepIn.swap h) h) h) (dn3 h)
theorem dn5 (h : Sep w (A :: B :: C :: D :: E :: G :: L)) : Sep w (B :: C :: D :: E :: G :: A :: L) := consI (fun _ h => consI (fun _ h => consI (fun _ h => consI (fun _ h => SepIn.swap h) h) h) h) (dn4 h)
theorem dn5I {U : Nat → Prop} (h : SepIn w (A :: B :: C :: D :: E :: G :: L) U) : SepIn w (B :: C :: D :: E :: G :: A :: L) U :=
  consI (fun _ h => consI (fun _ h => consI (fun _ h => consI (fun _ h => SepIn.swap h) (SepIn.swap h)) (SepIn.swap h)) (SepIn.swap h)) (SepIn.swap h)
theorem nil (w : World) : Sep w [] := trivial
theorem pullI {w : World} {R : List Asn} : ∀ {L : List Asn} {U : Nat → Prop} (i : Nat) (hi : i < L.length), SepIn w (L ++ R) U → SepIn w (L[i] :: (L.eraseIdx i ++ R)) U
  | _ :: _, _, 0, _, h => h
  | _ :: L, _, i + 1, hi, h => SepIn.swap (consI (fun _ h => pullI i (by simpa using hi) h) h)
theorem pushI {w : World} {R : List Asn} {A : Asn} : ∀ {L : List Asn} {U : Nat → Prop} (i : Nat), i < L.length → SepIn w (A :: (L.eraseIdx i ++ R)) U → SepIn w (L.set i A ++ R) U
  | _ :: _, _, 0, _, h => h
  | _ :: L, _, i + 1, hi, h => consI (fun _ h => pushI i (by simpa using hi) h) (SepIn.swap h)
/-- One of many comes to the front; and goes back. -/
theorem pull (i : Nat) (hi : i < L.length) (h : Sep w (L ++ R)) : Sep w (L[i] :: (L.eraseIdx i ++ R)) := pullI i hi h
theorem up6 {H : Asn} (h : Sep w (A :: B :: C :: D :: E :: G :: H :: L)) : Sep w (H :: A :: B :: C :: D :: E :: G :: L) := pull (L := [A, B, C, D, E, G, H]) (R := L) 6 (by simp) h
theorem up7 {H I : Asn} (h : Sep w (A :: B :: C :: D :: E :: G :: H :: I :: L)) : Sep w (I :: A :: B :: C :: D :: E :: G :: H :: L) := pull (L := [A, B, C, D, E, G, H, I]) (R := L) 7 (by simp) h
theorem up8 {H I J : Asn} (h : Sep w (A :: B :: C :: D :: E :: G :: H :: I :: J :: L)) : Sep w (J :: A :: B :: C :: D :: E :: G :: H :: I :: L) := pull (L := [A, B, C, D, E, G, H, I, J]) (R := L) 8 (by simp) h
theorem dn6 {H : Asn} (h : Sep w (A :: B :: C :: D :: E :: G :: H :: L)) : Sep w (B :: C :: D :: E :: G :: H :: A :: L) := consI (fun _ h => dn5I h) (SepIn.swap h)
theorem push (i : Nat) (hi : i < L.length) (h : Sep w (A :: (L.eraseIdx i ++ R))) : Sep w (L.set i A ++ R) := pushI i hi h

/-- Only blocks of the first, and new ones, turned. -/
theorem step {L' : List Asn} (h : Sep w (A :: R)) (e1 : w'.os = w.os) (e2 : w'.tape = w.tape) (e3 : w'.output = w.output) (e4 : w.heap.size ≤ w'.heap.size)
    (hs : ∀ F, A.holds w F → (∀ k, k < w.heap.size → ¬ F k → w'.heap[k]? = w.heap[k]?) ∧ SepIn w' L' (fun k => F k ∨ w.heap.size ≤ k)) : Sep w' (L' ++ R) := by
  obtain ⟨F, _, h2, h3⟩ := h
  obtain ⟨h4, h5⟩ := hs F h2
  refine SepIn.append h5 (SepIn.keep e1 e2 e3 e4 (fun k hk hl => h4 k hl hk.1.2) (SepIn.inter h3)) (fun k hk hv => ?_) (fun _ _ => trivial) (fun _ _ => trivial)
  rcases hk with hk | hk
  · exact hv.1.2 hk
  · have := hv.2; omega
/-- New blocks alone. -/
theorem stepNew {L' : List Asn} (h : Sep w R) (hb : Below w.heap.size w w') (hs : SepIn w' L' (fun k => w.heap.size ≤ k)) : Sep w' (L' ++ R) :=
  SepIn.append hs (SepIn.keep hb.os hb.tape hb.output hb.size (fun k _ hl => hb.block k hl) (SepIn.inter h)) (fun k hk hv => by have := hv.2; omega) (fun _ _ => trivial) (fun _ _ => trivial)
theorem below (h : Sep w R) (hb : Below w.heap.size w w') : Sep w' R := stepNew (L' := []) h hb trivial
theorem drew (h : Sep w R) : Sep w.drew R := h.below (Below.refl _ _).drew
theorem drewN (h : Sep w R) (n : Nat) : Sep (w.drewN n) R := h.below ⟨rfl, rfl, rfl, Nat.le_refl _, fun _ _ => rfl⟩
theorem alloc0 (h : Sep w R) (o : Obj) : Sep (w.alloc o) R := h.below ((Below.refl _ _).alloc (Nat.le_refl _) o)
end Sep

theorem SepIn.bases {w : World} : ∀ {L : List Asn} {U : Nat → Prop}, SepIn w L U → ∀ A ∈ L, A.base ≤ w.heap.size
  | [], _, _, _, hA => by simp at hA
  | B :: L, _, ⟨F, h1, h2, h3⟩, A, hA => by
    rcases List.mem_cons.1 hA with rfl | hA
    · exact A.le _ _ h2
    · exact SepIn.bases h3 A hA
theorem Sep.bases {w : World} {L : List Asn} (h : Sep w L) : ∀ A ∈ L, A.base ≤ w.heap.size := SepIn.bases h
/-- What is no cells, and lies beyond all bases, may turn. -/
theorem SepIn.grown {w w' : World} {row : Option Nat} {B : Nat} (hg : w.grownBy w' row) (hr : ∀ r, row = some r → B ≤ r ∧ ∃ o : Obj, w.heap[r]? = some o ∧ o.isCells = false) : ∀ {L : List Asn} {U : Nat → Prop}, (∀ A ∈ L, A.base ≤ B) → SepIn w L U → SepIn w' L U
  | [], _, _, _ => trivial
  | A :: L, _, hb, ⟨F, h1, h2, h3⟩ => ⟨F, h1, A.keep _ _ _ h2 hg.os hg.tape hg.output hg.size (fun k hk => hg.block k (A.lt _ _ h2 k hk) (fun e => by
      obtain ⟨h4, o, ho, hc⟩ := hr k e.symm
      rcases A.cells _ _ h2 k hk with h5 | ⟨c, t, f, h5⟩
      · have := hb A List.mem_cons_self; omega
      · rw [h5] at ho; cases ho; cases hc)), SepIn.grown hg hr (fun B hB => hb B (List.mem_cons_of_mem _ hB)) h3⟩
theorem sep_ownFrom {β : Type} (B : Nat) (L : β → List Asn) (hb : ∀ s, ∀ A ∈ L s, A.base ≤ B) : OwnFrom B (fun s W => Sep W (L s)) := fun s _ _ _ hs hg hr => SepIn.grown hg hr (hb s) hs

/-! ### The kinds of assertions -/
/-- What was there at the beginning stands. -/
def oldA (w0 : World) : Asn where
  holds w F := Below w0.heap.size w0 w ∧ ∀ k, F k ↔ k < w0.heap.size
  base := w0.heap.size
  le := fun w F h => h.1.size
  lt := fun w F h k hk => Nat.lt_of_lt_of_le ((h.2 k).1 hk) h.1.size
  cells := fun w F h k hk => .inl ((h.2 k).1 hk)
  keep := fun w w' F h e1 e2 e3 e4 e5 => ⟨⟨e1.trans h.1.os, e2.trans h.1.tape, e3.trans h.1.output, Nat.le_trans h.1.size e4, fun k hk => (e5 k ((h.2 k).2 hk)).trans (h.1.block k hk)⟩, h.2⟩
/-- A block. -/
def blkA (g : Nat) (c : Array Value) (t : TypeId) : Asn where
  holds w F := w.heap[g]? = some (.cells c t (0, 0)) ∧ ∀ k, F k ↔ k = g
  base := 0
  le := fun _ _ _ => Nat.zero_le _
  lt := fun w F h k hk => by rw [(h.2 k).1 hk]; exact (Array.getElem?_eq_some_iff.1 h.1).1
  cells := fun w F h k hk => .inr ⟨c, t, (0, 0), by rw [(h.2 k).1 hk]; exact h.1⟩
  keep := fun w w' F h e1 e2 e3 e4 e5 => ⟨(e5 g ((h.2 g).2 rfl)).trans h.1, h.2⟩
/-- A box, whatever it holds. -/
def anyA (g : Nat) (t : TypeId) : Asn where
  holds w F := (∃ v, w.heap[g]? = some (.cells #[v] t (0, 0))) ∧ ∀ k, F k ↔ k = g
  base := 0
  le := fun _ _ _ => Nat.zero_le _
  lt := fun w F h k hk => by obtain ⟨v, e⟩ := h.1; rw [(h.2 k).1 hk]; exact (Array.getElem?_eq_some_iff.1 e).1
  cells := fun w F h k hk => by obtain ⟨v, e⟩ := h.1; exact .inr ⟨#[v], t, (0, 0), by rw [(h.2 k).1 hk]; exact e⟩
  keep := fun w w' F h e1 e2 e3 e4 e5 => ⟨by obtain ⟨v, e⟩ := h.1; exact ⟨v, (e5 g ((h.2 g).2 rfl)).trans e⟩, h.2⟩
theorem Sep.any_open {w : World} {R : List Asn} {g : Nat} {t : TypeId} (h : Sep w (anyA g t :: R)) : ∃ v, Sep w (blkA g #[v] t :: R) := by
  obtain ⟨F, h1, ⟨⟨v, e⟩, h2⟩, h3⟩ := h
  exact ⟨v, F, h1, ⟨e, h2⟩, h3⟩
theorem Sep.any_shut {w : World} {R : List Asn} {g : Nat} {t : TypeId} {v : Value} (h : Sep w (blkA g #[v] t :: R)) : Sep w (anyA g t :: R) := by
  obtain ⟨F, h1, ⟨e, h2⟩, h3⟩ := h
  exact ⟨F, h1, ⟨⟨v, e⟩, h2⟩, h3⟩
theorem ownsRow_keep {w w' : World} {base e size n : Nat} {v : Value} {xs : List Value} (h : w.ownsRow base e size v n xs) (hk : ∀ g, v.ownBlock = some g → w'.heap[g]? = w.heap[g]?) : w'.ownsRow base e size v n xs :=
  ⟨h.1, h.2.imp id fun ⟨g, cap, cur, e, hb, hh, r⟩ => ⟨g, cap, cur, e, hb, by rw [hk g (by rw [e]; rfl)]; exact hh, r⟩⟩
theorem ownsRow_cells {w : World} {base e size n : Nat} {v : Value} {xs : List Value} (h : w.ownsRow base e size v n xs) (g : Nat) (hg : v.ownBlock = some g) : ∃ c t f, w.heap[g]? = some (.cells c t f) := by
  rcases h.2 with ⟨e, _⟩ | ⟨g2, _, cur, e, _, hh, _⟩
  · rw [e] at hg; cases hg
  · rw [e] at hg; cases hg; exact ⟨_, _, _, hh⟩
theorem ownsRow_zero {w : World} {base e size n : Nat} {v : Value} {xs : List Value} (h : w.ownsRow base e size v n xs) : w.ownsRow 0 e size v n xs :=
  ⟨h.1, h.2.imp id fun ⟨g, cap, cur, e, _, r⟩ => ⟨g, cap, cur, e, Nat.zero_le _, r⟩⟩
/-- A slice that is the call's own. -/
def ownA (t : TypeId) (sz : Nat) (v : Value) (n : Nat) (xs : List Value) : Asn where
  holds w F := w.ownsRow 0 t sz v n xs ∧ ∀ k, F k ↔ v.ownBlock = some k
  base := 0
  le := fun _ _ _ => Nat.zero_le _
  lt := fun w F h k hk => (h.1.lt k ((h.2 k).1 hk)).2
  cells := fun w F h k hk => .inr (ownsRow_cells h.1 k ((h.2 k).1 hk))
  keep := fun w w' F h e1 e2 e3 e4 e5 => ⟨ownsRow_keep h.1 (fun g hg => e5 g ((h.2 g).2 hg)), h.2⟩
def bytesA (v : Value) (n : Nat) (l : List UInt8) : Asn := ownA 5 1 v n (l.map byteV)

theorem OwnsM.frameC {w w' : World} {M M' : Nat → Prop} {e : TypeId} {size n : Nat} {v : Value} {xs : List Value} (h : OwnsM w M e size v n xs)
    (hk : ∀ k c t f, w.heap[k]? = some (.cells c t f) → M k → w'.heap[k]? = w.heap[k]? ∧ M' k) : OwnsM w' M' e size v n xs :=
  ⟨ownsRow_keep h.1 (fun g hg => by obtain ⟨c, t, f, hc⟩ := ownsRow_cells h.1 g hg; exact (hk g c t f hc (h.2 g hg)).1),
   fun g hg => by obtain ⟨c, t, f, hc⟩ := ownsRow_cells h.1 g hg; exact (hk g c t f hc (h.2 g hg)).2⟩
theorem DiskAt.frameC {w w' : World} {p : Nat} {D : Dk} {M M' : Nat → Prop} (h : DiskAt w p D M) (hk : ∀ k c t f, w.heap[k]? = some (.cells c t f) → M k → w'.heap[k]? = w.heap[k]? ∧ M' k) (hn : ∀ k, w'.heap.size ≤ k → M' k) : DiskAt w' p D M' := by
  obtain ⟨sb, scs, wv, dvs, av, h⟩ := h
  refine ⟨sb, scs, wv, dvs, av, by rw [(hk p _ _ _ h.hp h.mp).1]; exact h.hp, (hk p _ _ _ h.hp h.mp).2, (hk sb _ _ _ h.hs h.msb).2, by rw [(hk sb _ _ _ h.hs h.msb).1]; exact h.hs, h.sl,
    fun i hi => (h.sec i hi).imp id fun x => ⟨x.1, x.2.frameC hk⟩, h.hw.frameC hk, h.dl, fun i hi => (h.dat i hi).frameC hk, ?_, hn, h.ok, h.len, h.ops⟩
  have ha := h.arm
  cases hx : D.armed with
  | none => rw [hx] at ha; exact ha
  | some x =>
    obtain ⟨left, kp⟩ := x
    rw [hx] at ha
    obtain ⟨ab, kv, e1, hm, hh, hr, hl⟩ := ha
    exact ⟨ab, kv, e1, (hk ab _ _ _ hh hm).2, by rw [(hk ab _ _ _ hh hm).1]; exact hh, hr.frameC hk, hl⟩
/-- A disk. -/
def diskA (p : Nat) (D : Dk) : Asn where
  holds w F := DiskAt w p D (fun k => F k ∨ w.heap.size ≤ k) ∧ ∀ k, F k → ∃ c t f, w.heap[k]? = some (.cells c t f)
  base := 0
  le := fun _ _ _ => Nat.zero_le _
  lt := fun w F h k hk => by obtain ⟨c, t, f, e⟩ := h.2 k hk; exact (Array.getElem?_eq_some_iff.1 e).1
  cells := fun w F h k hk => .inr (h.2 k hk)
  keep := fun w w' F h e1 e2 e3 e4 e5 => ⟨h.1.frameC (fun k c t f hc hm => by
      have hlt := (Array.getElem?_eq_some_iff.1 hc).1
      rcases hm with hm | hm
      · exact ⟨e5 k hm, .inl hm⟩
      · omega) (fun k hk => .inr hk), fun k hk => by obtain ⟨c, t, f, hc⟩ := h.2 k hk; exact ⟨c, t, f, by rw [e5 k hk]; exact hc⟩⟩
theorem diskA_of {w : World} {p : Nat} {D : Dk} {M : Nat → Prop} (h : DiskAt w p D M) : (diskA p D).holds w (fun k => M k ∧ ∃ c t f, w.heap[k]? = some (.cells c t f)) :=
  ⟨h.frameC (fun k c t f hc hm => ⟨rfl, .inl ⟨hm, c, t, f, hc⟩⟩) (fun k hk => .inr hk), fun k hk => hk.2⟩

namespace Sep
variable {w w' : World} {R : List Asn}
theorem start (w : World) : Sep w [oldA w] := ⟨fun k => k < w.heap.size, fun _ _ => trivial, ⟨Below.refl _ _, fun _ => Iff.rfl⟩, trivial⟩
theorem old {w0 : World} (h : Sep w (oldA w0 :: R)) : Below w0.heap.size w0 w := by obtain ⟨F, _, h2, _⟩ := h; exact h2.1
theorem fin {w0 : World} (h : Sep w (oldA w0 :: R)) : Below w0.heap.size w0 w := h.old
/-- A new block. -/
theorem alloc (h : Sep w R) (c : Array Value) (t : TypeId) : Sep (w.alloc (.cells c t)) (blkA w.heap.size c t :: R) :=
  stepNew (L' := [blkA w.heap.size c t]) h ((Below.refl _ _).alloc (Nat.le_refl _) _) ⟨fun k => k = w.heap.size, fun k hk => by rw [hk]; exact Nat.le_refl _, ⟨heap_alloc_new w _, fun _ => Iff.rfl⟩, trivial⟩
theorem newBlk (h : Sep w R) (hb : Below w.heap.size w w') {g : Nat} {c : Array Value} {t : TypeId} (hg : w.heap.size ≤ g) (hh : w'.heap[g]? = some (.cells c t (0, 0))) : Sep w' (blkA g c t :: R) :=
  stepNew (L' := [blkA g c t]) h hb ⟨fun k => k = g, fun k hk => by rw [hk]; exact hg, ⟨hh, fun _ => Iff.rfl⟩, trivial⟩
theorem newOwn (h : Sep w R) (hb : Below w.heap.size w w') {t : TypeId} {sz n : Nat} {v : Value} {xs : List Value} (ho : w'.ownsRow w.heap.size t sz v n xs) : Sep w' (ownA t sz v n xs :: R) :=
  stepNew (L' := [ownA t sz v n xs]) h hb ⟨fun k => v.ownBlock = some k, fun k hk => (ho.lt k hk).1, ⟨ownsRow_zero ho, fun _ => Iff.rfl⟩, trivial⟩
theorem newBytes (h : Sep w R) (hb : Below w.heap.size w w') {n : Nat} {v : Value} {l : List UInt8} (ho : OwnsB w' w.heap.size v n l) : Sep w' (bytesA v n l :: R) := h.newOwn hb ho
theorem nilOwn (h : Sep w R) (t : TypeId) (sz : Nat) : Sep w (ownA t sz (.slice none 0 0) 0 [] :: R) :=
  stepNew (L' := [ownA t sz (.slice none 0 0) 0 []]) h (Below.refl _ _) ⟨fun _ => False, fun k hk => hk.elim, ⟨World.ownsRow_nil _ _ _ _, fun k => by simp [Value.ownBlock]⟩, trivial⟩

/-- A block's cells. -/
theorem blk {g : Nat} {c : Array Value} {t : TypeId} (h : Sep w (blkA g c t :: R)) : w.heap[g]? = some (.cells c t (0, 0)) := by obtain ⟨F, _, h2, _⟩ := h; exact h2.1
theorem blk_lt {g : Nat} {c : Array Value} {t : TypeId} (h : Sep w (blkA g c t :: R)) : g < w.heap.size := (Array.getElem?_eq_some_iff.1 h.blk).1
theorem blk_cell {g : Nat} {c : Array Value} {t : TypeId} (h : Sep w (blkA g c t :: R)) (i : Nat) : w.cell? ⟨g, i, none⟩ = c[i]? := cell_of h.blk
theorem blk_free {g : Nat} {c : Array Value} {t : TypeId} (h : Sep w (blkA g c t :: R)) (i : Nat) : w.frozen? ⟨g, i, none⟩ = false := free_of h.blk
theorem blk_set {g : Nat} {c : Array Value} {t : TypeId} (h : Sep w (blkA g c t :: R)) (i : Nat) (v : Value) : Sep (w.setCell ⟨g, i, none⟩ v) (blkA g (c.setIfInBounds i v) t :: R) :=
  step (L' := [blkA g (c.setIfInBounds i v) t]) h rfl rfl rfl (by simp) fun F hF => ⟨fun k _ hk => heap_set_other (fun e => hk ((hF.2 k).2 e)), fun k => k = g, fun k hk => .inl ((hF.2 k).2 hk), ⟨heap_set hF.1, fun _ => Iff.rfl⟩, trivial⟩

theorem any_set {g : Nat} {t : TypeId} (h : Sep w (anyA g t :: R)) (v : Value) : Sep (w.setCell ⟨g, 0, none⟩ v) (anyA g t :: R) := by
  obtain ⟨u, h⟩ := h.any_open
  exact (h.blk_set 0 v).any_shut
/-- An owned slice. -/
theorem own {t : TypeId} {sz n : Nat} {v : Value} {xs : List Value} (h : Sep w (ownA t sz v n xs :: R)) : w.ownsRow 0 t sz v n xs := by obtain ⟨F, _, h2, _⟩ := h; exact h2.1
theorem bytes {n : Nat} {v : Value} {l : List UInt8} (h : Sep w (bytesA v n l :: R)) : OwnsB w 0 v n l := h.own
theorem own_set {t : TypeId} {g cap n : Nat} {xs : List Value} (h : Sep w (ownA t 1 (.slice (some ⟨g, 0, none⟩) n cap) n xs :: R)) (i : Nat) (v : Value) : Sep (w.setCell ⟨g, i, none⟩ v) (ownA t 1 (.slice (some ⟨g, 0, none⟩) n cap) n (xs.set i v) :: R) :=
  step (L' := [ownA t 1 (.slice (some ⟨g, 0, none⟩) n cap) n (xs.set i v)]) h rfl rfl rfl (by simp) fun F hF => ⟨fun k _ hk => heap_set_other (fun e => hk ((hF.2 k).2 (by rw [e]; rfl))), F, fun k hk => .inl hk, ⟨(World.ownsRow.stored hF.1 i v).1, hF.2⟩, trivial⟩
theorem bytes_set {g cap n : Nat} {l : List UInt8} (h : Sep w (bytesA (.slice (some ⟨g, 0, none⟩) n cap) n l :: R)) (i : Nat) (x : UInt8) : Sep (w.setCell ⟨g, i, none⟩ (.int .u8 x.toNat)) (bytesA (.slice (some ⟨g, 0, none⟩) n cap) n (l.set i x) :: R) := by
  have := h.own_set i (byteV x)
  unfold bytesA
  rw [List.map_set]
  exact this
/-- Behind an append. -/
theorem appended {t : TypeId} {sz n n' : Nat} {v v' : Value} {xs xs' : List Value} (h : Sep w (ownA t sz v n xs :: R)) (hg : w.grownBy w' v.ownBlock) (ho : w'.ownsRow 0 t sz v' n' xs') (hv : v'.ownBlock = v.ownBlock ∨ v'.ownBlock = some w.heap.size) : Sep w' (ownA t sz v' n' xs' :: R) :=
  step (L' := [ownA t sz v' n' xs']) h hg.os hg.tape hg.output hg.size fun F hF => ⟨fun k hk hnk => hg.block k hk (fun e => hnk ((hF.2 k).2 e.symm)), fun k => v'.ownBlock = some k, fun k hk => by
    rcases hv with hv | hv
    · exact .inl ((hF.2 k).2 (hv ▸ hk))
    · rw [hv] at hk; cases hk; exact .inr (Nat.le_refl _), ⟨ho, fun _ => Iff.rfl⟩, trivial⟩

/-- A block as a slice. -/
theorem blkBytes {g : Nat} {l : List UInt8} (n : Nat) (hl : l.length = n) (hm : n ≤ 1000000) (h : Sep w (blkA g (l.map byteV).toArray 5 :: R)) : Sep w (bytesA (.slice (some ⟨g, 0, none⟩) n n) n l :: R) := by
  obtain ⟨F, h1, h2, h3⟩ := h
  refine ⟨F, h1, ⟨⟨by simp [hl], .inr ⟨g, n, _, rfl, Nat.zero_le _, h2.1, Nat.le_refl _, by unfold maxLen; omega, by simp [hl], by rw [Nat.mul_one, ← hl]; exact List.take_of_length_le (by simp)⟩⟩, fun k => (h2.2 k).trans ?_⟩, h3⟩
  simp [Value.ownBlock, eq_comm]
/-- append to a slice of one's own. -/
theorem run_append {t e : TypeId} {i : TypeInfo} {z : Value} {size bytes : Nat} (ht : Try.prog.underlying t = some (.slice e)) (hi : Try.prog.info? e = some i) (hz : i.zero = some z) (hsize : i.size = size) (hby : i.bytes = bytes) (hzs : z.cells.size = size) (hsz : 0 < size)
    {v : Value} {n : Nat} {xs : List Value} (h : Sep w (ownA e size v n xs :: R)) (ty : TypeId) (ad : Addr) (m c : Nat) (news : List Value) (hl : news.length = m * size) (hnews : ∀ j u, news[j]? = some u → w.cell? (ad.add j) = some u) (h1 : ∀ u ∈ news, u.oneCell' = true) (h63 : n + m ≤ maxLen) (hbytes : (n + m) * bytes ≤ 140737488355328) :
    ∃ g cap w', (Builtin.append_ #[t, t] ty #[v, .slice (some ad) m c]).run Try.prog w = .ok (.slice g (n + m) cap) w' ∧ Sep w' (ownA e size (.slice g (n + m) cap) (n + m) (xs ++ news) :: R) ∧ KeepsOthers w w' ∧ n + m ≤ cap ∧ cap ≤ maxLen ∧ (g = none → cap = 0) := by
  obtain ⟨v', w', hr, h2, h3, h4, h5⟩ := run_append_own_at (P := Try.prog) w 0 t ty e i z size bytes ht hi hz hsize hby hzs hsz v n xs h.own ad m c news hl hnews h1 h63 hbytes (Nat.zero_le _)
  have hS := h.appended h3 h2 h5
  have hko : KeepsOthers w w' := KeepsOthers.of_grownBy h3 (fun j o e ho => by
    obtain ⟨c, t, f, hc⟩ := ownsRow_cells h.own j e
    rw [hc] at ho; cases ho; rfl)
  obtain ⟨g, cap, rfl, h6, h7⟩ := ownsRow_slice h2
  refine ⟨g, cap, w', hr, hS, hko, h6, h7, fun e => ?_⟩
  subst e
  rcases h2.2 with ⟨e, _⟩ | ⟨g2, _, _, e, _⟩
  · simp at e; exact e.2
  · cases e
theorem wpList_append {t e : TypeId} {i : TypeInfo} {z : Value} {size bytes : Nat} {ops : Array Oper} {rest : List Oper} {o : Oper} {a : Act} {Q : Exit → Act → World → Prop}
    (ht : Try.prog.underlying t = some (.slice e)) (hi : Try.prog.info? e = some i) (hz : i.zero = some z) (hsize : i.size = size) (hby : i.bytes = bytes) (hzs : z.cells.size = size) (hsz : 0 < size)
    (hgd : o.guard = none) (s x : Operand) (ho : o.op = .call { callee := .builtin .append, args := #[s, x], argTypes := #[t, t] })
    {v : Value} {n : Nat} {xs : List Value} (h : Sep w (ownA e size v n xs :: R)) (hs : a.eval s = v) (ad : Addr) (m c : Nat) (news : List Value) (hx : a.eval x = .slice (some ad) m c) (hl : news.length = m * size) (hnews : ∀ j u, news[j]? = some u → w.cell? (ad.add j) = some u) (h1 : ∀ u ∈ news, u.oneCell' = true) (h63 : n + m ≤ maxLen) (hbytes : (n + m) * bytes ≤ 140737488355328)
    (hK : ∀ g cap w', Sep w' (ownA e size (.slice g (n + m) cap) (n + m) (xs ++ news) :: R) → KeepsOthers w w' → n + m ≤ cap → cap ≤ maxLen → (g = none → cap = 0) → wpList Try.prog ops Q rest (a.put o.dst (.slice g (n + m) cap)) w') : wpList Try.prog ops Q (o :: rest) a w := by
  refine wpList_plain hgd fun K hK' => ?_
  obtain ⟨g, cap, w', hrun, h2, h3, h4, h5, h6⟩ := run_append ht hi hz hsize hby hzs hsz h o.type ad m c news hl hnews h1 h63 hbytes
  unfold Oper.wp
  simp [execOp, ho, resolve, invoke, builtin, hs, hx, hrun, Result.andThen]
  exact hK' _ _ (hK g cap w' h2 h3 h4 h5 h6)
theorem step_append {t e : TypeId} {i : TypeInfo} {z : Value} {size bytes : Nat} {ops : Array Oper} {o : Oper} {a : Act} {K : Act → World → Prop} {Q : Exit → Act → World → Prop} {E : Prop}
    (ht : Try.prog.underlying t = some (.slice e)) (hi : Try.prog.info? e = some i) (hz : i.zero = some z) (hsize : i.size = size) (hby : i.bytes = bytes) (hzs : z.cells.size = size) (hsz : 0 < size)
    (hgd : o.guard = none) (s x : Operand) (ho : o.op = .call { callee := .builtin .append, args := #[s, x], argTypes := #[t, t] })
    {v : Value} {n : Nat} {xs : List Value} (h : Sep w (ownA e size v n xs :: R)) (hs : a.eval s = v) (ad : Addr) (m c : Nat) (news : List Value) (hx : a.eval x = .slice (some ad) m c) (hl : news.length = m * size) (hnews : ∀ j u, news[j]? = some u → w.cell? (ad.add j) = some u) (h1 : ∀ u ∈ news, u.oneCell' = true) (h63 : n + m ≤ maxLen) (hbytes : (n + m) * bytes ≤ 140737488355328)
    (hK : ∀ g cap w', Sep w' (ownA e size (.slice g (n + m) cap) (n + m) (xs ++ news) :: R) → KeepsOthers w w' → n + m ≤ cap → cap ≤ maxLen → (g = none → cap = 0) → K (a.put o.dst (.slice g (n + m) cap)) w') :
    if Region.wanted o (yielded ops a.tmps) = true then Oper.wp Try.prog o a w K Q else E := by
  have hw : Region.wanted o (yielded ops a.tmps) = true := by simp [Region.wanted, hgd]
  rw [if_pos hw]
  obtain ⟨g, cap, w', hrun, h2, h3, h4, h5, h6⟩ := run_append ht hi hz hsize hby hzs hsz h o.type ad m c news hl hnews h1 h63 hbytes
  unfold Oper.wp
  simp [execOp, ho, resolve, invoke, builtin, hs, hx, hrun, Result.andThen]
  exact hK g cap w' h2 h3 h4 h5 h6
theorem cell_new (w : World) (u : Value) (t : TypeId) : ∀ j x, [u][j]? = some x → (w.alloc (.cells #[u] t)).cell? ((⟨w.heap.size, 0, none⟩ : Addr).add j) = some x := fun j x hx => by
  rw [addr_add, Nat.zero_add, cell_of (heap_alloc_new _ _)]
  simpa using hx
/-- A disk: what a function of it asks, and what it leaves. -/
theorem disk {p : Nat} {D : Dk} (h : Sep w (diskA p D :: R)) : ∃ M : Nat → Prop, DiskAt w p D M ∧ (∀ w' D', DiskAt w' p D' M → Keeps M w w' → Sep w' (diskA p D' :: R)) ∧
    (∀ w' D' B c t, w.heap.size ≤ B → w'.heap[B]? = some (.cells c t (0, 0)) → DiskAt w' p D' (fun k => M k ∧ k ≠ B) → Keeps M w w' → Sep w' (blkA B c t :: diskA p D' :: R)) ∧
    (∀ w0 R', R = oldA w0 :: R' → ∀ k, M k → w0.heap.size ≤ k) := by
  obtain ⟨F, h1, h2, h3⟩ := id h
  have hkeep : ∀ w', Keeps (fun k => F k ∨ w.heap.size ≤ k) w w' → SepIn w' R (fun k => (True ∧ ¬ F k) ∧ k < w.heap.size) := fun w' hk =>
    SepIn.keep hk.os hk.tape hk.output hk.size (fun k hv hl => hk.block k hl (fun hm => by
      rcases hm with hm | hm
      · exact absurd hm hv.1.2
      · omega)) (SepIn.inter h3)
  have hdis : ∀ k, (F k ∨ w.heap.size ≤ k) → ¬ ((True ∧ ¬ F k) ∧ k < w.heap.size) := fun k hk hv => by
    rcases hk with hk | hk
    · exact hv.1.2 hk
    · have := hv.2; omega
  refine ⟨_, h2.1, ?_, ?_, ?_⟩
  · intro w' D' hD' hk
    exact SepIn.append (L := [diskA p D']) (U := fun k => F k ∨ w.heap.size ≤ k) ⟨_, fun k hk => hk.1, diskA_of hD', trivial⟩ (hkeep w' hk) hdis (fun _ _ => trivial) (fun _ _ => trivial)
  · intro w' D' B c t hB hBc hD' hk
    exact SepIn.append (L := [blkA B c t, diskA p D']) (U := fun k => F k ∨ w.heap.size ≤ k) ⟨fun k => k = B, fun k hk => by rw [hk]; exact .inr hB, ⟨hBc, fun _ => Iff.rfl⟩, _, fun k hk => ⟨hk.1.1, hk.1.2⟩, diskA_of hD', trivial⟩ (hkeep w' hk) hdis (fun _ _ => trivial) (fun _ _ => trivial)
  · rintro w0 R' rfl k hm
    obtain ⟨G, g1, g2, g3⟩ := h3
    rcases hm with hm | hm
    · exact Nat.le_of_not_lt fun hlt => (g1 k ((g2.2 k).2 hlt)).2 hm
    · exact Nat.le_trans g2.1.size hm
end Sep
end Go.Proofs.Ytnekelndcpmonaa
namespace Go.Proofs.Ytnekelndcpmonaa
open Go.RowKit Go.Shelf

variable {F : Fence} {n : Nat} {P : Program}

/-- The iterator's contract: between two rounds it may write its own box at Bp, of which the caller's word says nothing; a round leaves the box as it was. -/
def SeqBox {α : Type} (F : Fence) (n : Nat) (P : Program) (g : Nat) (lb : Array Value) (encs : α → Array Value) (Bp : Nat) (S Sp : List α → Prop) (N : Nat) (w : World) : Prop :=
  ∀ (l : Nat) (J Jx : List α → World → Prop) (W : World), W.heap[Bp]? = w.heap[Bp]? → (∀ pre W1 v, J pre W1 → J pre (W1.setCell ⟨Bp, 0, none⟩ v)) →
    (∀ pre x W1, J pre W1 → pre.length < N → YieldAt F (n - 1) P l (encs x) W1 fun e W' =>
      (e = .returned (.bool true) ∧ J (pre ++ [x]) W' ∧ W'.heap[Bp]? = W1.heap[Bp]?) ∨ (e = .returned (.bool false) ∧ Jx (pre ++ [x]) W')) →
    J [] W →
    CallsIn F n P g (#[.func (.yield l) #[] #[]] ++ lb) W fun e W' => (∃ v, e = .returned v) ∧ ((∃ xs, S xs ∧ J xs W') ∨ (∃ pre, Sp pre ∧ Jx pre W'))
/-- What a round that goes on leaves as it was. -/
def BoxKept (Bp : Nat) (A B : World) : Prop := B.heap[Bp]? = A.heap[Bp]?

/-- The loop's record. -/
def recOf (fn : FuncId) (a : Act) (ps : Array Tmp) (assign body : Code) (D : Nat) (st : LoopState) (pe : Option Code) : Loop := { state := st, pending := pe, fn, tmps := a.tmps, params := ps, assign, body, defers := D }

theorem wpIn_rangeFunc_box {α : Type} {g : Operand} {ps : Array Tmp} {assign body : Code} {Q : Exit → Act → World → Prop} {a : Act} {w : World}
    (hro : F.round = none) (h1 : 1 ≤ n) {gf : Nat} {lb : Array Value} (hg : a.eval g = .func (.func gf) #[] lb) (hFg : F.fn gf) (eg : ∀ args w, (callFunc gf args).run P w = .ok (.enter gf args) w)
    {encs : α → Array Value} {S Sp : List α → Prop} {N Bp : Nat} (hBp : Bp < w.heap.size) (hseq : SeqBox F (n - 1) P gf lb encs Bp S Sp N w) (hps : ∀ x, (encs x).size = ps.size)
    (I : List α → World → Prop) (Ix : Code → List α → World → Prop) (hI : OwnFrom w.heap.size I) (hIx : ∀ c, OwnFrom w.heap.size (Ix c)) (hIb : ∀ pre W v, I pre W → I pre (W.setCell ⟨Bp, 0, none⟩ v)) (h0 : I [] w) (a₁ : α → Act)
    (hassign : ∀ (l : Nat) (x : α) (W : World) (K : Act → World → Prop), K (a₁ x) W →
      assign.wpIn (F.inRound l) (n - 1 - 1) P (Exit.then K (fun _ _ _ => False)) { tmps := (ps.zip (encs x)).foldl (fun t (p, v) => t.setIfInBounds p v) a.tmps, defers := [] } W)
    (hbody : ∀ (l : Nat) (pre : List α) (x : α) (W : World), I pre W → pre.length < N → body.wpIn (F.inRound l) (n - 1 - 1) P (ownPostG w.heap.size (BoxKept Bp) I Ix (pre ++ [x]) W) (a₁ x) W)
    (hdone : ∀ (D : Nat) (xs : List α) (W : World), w.heap.size ≤ D → S xs → I xs W → W.heap[D]? = some (.deferred (some [])) → Q .normal { a with defers := { target := .collected D, args := #[] } :: a.defers } W)
    (hstop : ∀ (D : Nat) (c : Code) (pre : List α) (W : World), w.heap.size ≤ D → Sp pre → Ix c pre W → W.heap[D]? = some (.deferred (some [])) → c.wpIn F n P Q { a with defers := { target := .collected D, args := #[] } :: a.defers } W) :
    (Code.rangeFunc g ps assign body).wpIn F n P Q a w := by
  refine wpIn_rangeFunc ?_
  intro fn hfn
  rw [hro]
  obtain ⟨rc, hrc⟩ : ∃ rc, rc = recOf fn a ps assign body w.heap.size := ⟨_, rfl⟩
  obtain ⟨D, hD⟩ : ∃ D, D = w.heap.size := ⟨_, rfl⟩
  obtain ⟨W1, hW1⟩ : ∃ W1, W1 = (w.alloc (.deferred (some []))).alloc (.loop (rc .ready none)) := ⟨_, rfl⟩
  have hL1 : W1.heap[D + 1]? = some (.loop (rc .ready none)) := by
    have := World.alloc_heap_new (w.alloc (.deferred (some []))) (.loop (rc .ready none))
    rw [World.size_alloc] at this
    rw [hW1, hD]; exact this
  have hK1 : W1.heap[D]? = some (.deferred (some [])) := by
    rw [hW1, hD]; exact (Below.heap_alloc _ _ _ (by simp)).trans (World.alloc_heap_new w _)
  have hB1 : W1.heap[Bp]? = w.heap[Bp]? := by
    rw [hW1, Below.heap_alloc _ _ _ (by simp; omega), Below.heap_alloc _ _ _ hBp]
  have hI1 : I [] W1 := by rw [hW1]; exact hI.alloc _ (hI.alloc _ h0)
  refine ⟨D + 1, [{ target := .collected D, args := #[] }], W1, { target := .fn (.func gf) lb, args := #[.func (.yield (D + 1)) #[] #[]] }, W1, gf, #[.func (.yield (D + 1)) #[] #[]] ++ lb, W1, ?_, ?_, ?_, ?_, fun _ => h1, ?_⟩
  · rw [hW1, hrc, hD]; exact run_enterLoop_outer _ _ _ _ _
  · simp only [resolve, hg]
    simp [go_sem]
  · intro f' hf'; simp [Target.leads] at hf'; subst hf'; exact hFg
  · simp [invoke, go_sem, eg]
  -- the two facts of book-keeping, beside the caller's word
  have tr : ∀ {A B : World} {k : Nat} {o : Obj}, k ≠ Bp → (∃ v, B = A.setCell ⟨Bp, 0, none⟩ v) → A.heap[k]? = some o → B.heap[k]? = some o := fun hk ⟨v, e⟩ h => by rw [e, heap_set_other hk]; exact h
  have back : ∀ (st : LoopState) (pe : Option Code) (W : World), W.heap[D + 1]? = some (.loop (rc .ready none)) → W.heap[D]? = some (.deferred (some [])) → (W.putObj (D + 1) (.loop (rc st pe))).heap[D + 1]? = some (.loop (rc st pe)) ∧ (W.putObj (D + 1) (.loop (rc st pe))).heap[D]? = some (.deferred (some [])) :=
    fun st pe W hl hk => ⟨World.putObj_heap_same (Array.getElem?_eq_some_iff.1 hl).1, (World.putObj_heap_other (by omega)).trans hk⟩
  refine (hseq (D + 1)
    (fun pre W => I pre W ∧ W.heap[D + 1]? = some (.loop (rc .ready none)) ∧ W.heap[D]? = some (.deferred (some [])))
    (fun pre W => ∃ c, Ix c pre W ∧ W.heap[D + 1]? = some (.loop (rc .done (some c))) ∧ W.heap[D]? = some (.deferred (some [])))
    W1 hB1 (fun pre W v ⟨hi, hl, hk⟩ => ⟨hIb pre W v hi, tr (by omega) ⟨v, rfl⟩ hl, tr (by omega) ⟨v, rfl⟩ hk⟩) ?_ ⟨hI1, hL1, hK1⟩).mono ?_
  · rintro pre x W ⟨hi, hl, hk⟩ hlen
    have hy := run_yield (P := P) (args := encs x) hl (by rw [hrc]; exact hps x)
    rw [hrc] at hy
    refine ⟨fn, _, assign, body, hy, roundIn_of_wpIn hfn (hassign _ x W _ ⟨_, run_beginRound hl (by rw [hrc]; rfl), ?_⟩)⟩
    obtain ⟨hl2, hk2⟩ := back .busy none W hl hk
    have hpB : ∀ (W : World) (o : Obj), (W.putObj (D + 1) o).heap[Bp]? = W.heap[Bp]? := fun W o => World.putObj_heap_other (by omega)
    have e1 : ({ rc .ready none with state := .busy } : Loop) = rc .busy none := by rw [hrc]; rfl
    rw [e1]
    refine wpIn_mono (hbody _ pre x _ (hI.putObj _ hi (by omega) hl rfl) hlen) ?_
    have fin : ∀ (jump : Option Code) (W3 : World), KeepsFrom w.heap.size (W.putObj (D + 1) (.loop (rc .busy none))) W3 →
        (Instr.endRound (D + 1) jump).run P W3 = .ok (.bool jump.isNone) (W3.putObj (D + 1) (.loop (rc (if jump.isNone then .ready else .done) jump))) ∧
        W3.heap[D + 1]? = some (.loop (rc .busy none)) ∧
        (W3.putObj (D + 1) (.loop (rc (if jump.isNone then .ready else .done) jump))).heap[D + 1]? = some (.loop (rc (if jump.isNone then .ready else .done) jump)) ∧
        (W3.putObj (D + 1) (.loop (rc (if jump.isNone then .ready else .done) jump))).heap[D]? = some (.deferred (some [])) := fun jump W3 hk3 => by
      have hl3 := hk3.same _ _ (by omega) hl2 rfl
      have hk3' := hk3.same _ _ (by omega) hk2 rfl
      have hr := run_endRound (P := P) jump hl3
      refine ⟨?_, hl3, World.putObj_heap_same (Array.getElem?_eq_some_iff.1 hl3).1, (World.putObj_heap_other (by omega)).trans hk3'⟩
      rw [hr, hrc]; rfl
    rintro e a3 W3 hp
    cases e with
    | normal =>
      obtain ⟨hk3, hkp3, hi3⟩ := hp
      obtain ⟨hr, hl3, hl4, hk4⟩ := fin none W3 hk3
      exact ⟨_, _, hr, .inl ⟨rfl, ⟨hI.putObj _ hi3 (by omega) hl3 rfl, hl4, hk4⟩, (hpB _ _).trans (Eq.trans hkp3 (hpB _ _))⟩⟩
    | ret =>
      obtain ⟨hk3, hi3⟩ := hp
      obtain ⟨hr, hl3, hl4, hk4⟩ := fin (some .ret) W3 hk3
      exact ⟨_, _, hr, .inr ⟨rfl, .ret, (hIx _).putObj _ hi3 (by omega) hl3 rfl, hl4, hk4⟩⟩
    | exit id =>
      obtain ⟨hk3, hi3⟩ := hp
      obtain ⟨hr, hl3, hl4, hk4⟩ := fin (some (.exit id)) W3 hk3
      exact ⟨_, _, hr, .inr ⟨rfl, .exit id, (hIx _).putObj _ hi3 (by omega) hl3 rfl, hl4, hk4⟩⟩
    | goto t =>
      obtain ⟨hk3, hi3⟩ := hp
      obtain ⟨hr, hl3, hl4, hk4⟩ := fin (some (.goto t)) W3 hk3
      exact ⟨_, _, hr, .inr ⟨rfl, .goto t, (hIx _).putObj _ hi3 (by omega) hl3 rfl, hl4, hk4⟩⟩
    | panic ch => exact hp.elim
    | outgrown => exact hp.elim
  · rintro e W2 ⟨⟨v, rfl⟩, (⟨xs, hS, hi, hl, hk⟩ | ⟨pre, hSp, c, hi, hl, hk⟩)⟩
    · exact ⟨none, _, by have := run_endLoop (P := P) hl (by rw [hrc]; simp [recOf]); rw [hrc] at this; exact this, hdone D xs _ (by omega) hS (hI.putObj _ hi (by omega) hl rfl) ((World.putObj_heap_other (by omega)).trans hk)⟩
    · exact ⟨some c, _, by have := run_endLoop (P := P) hl (by rw [hrc]; simp [recOf]); rw [hrc] at this; exact this, hstop D c pre _ (by omega) hSp ((hIx c).putObj _ hi (by omega) hl rfl) ((World.putObj_heap_other (by omega)).trans hk)⟩

/-! ### A region that draws its order, in a round: as outside -/
theorem rowsIn_of_rows {n l : Nat} {row : String} {args : Array Value} {w : World} {R : Value → World → Prop} (h : Rows P row args w R) : RowsIn (Fence.wide.inRound l) n P row args w R := fun c cs _ => by
  obtain ⟨v, w', r, s⟩ := h c cs
  exact ⟨v, w', r, stepsIn_wide.2 s⟩
theorem operIn_of_wp {n l : Nat} {o : Oper} {a : Act} {w : World} {K K' : Act → World → Prop} {Q : Exit → Act → World → Prop} (ho : ∀ c, o.op ≠ .defer c) (hK : ∀ a w, K a w → K' a w) (h : o.wp P a w K Q) : o.wpIn (Fence.wide.inRound l) n P a w K' Q := by
  refine ⟨fun _ _ => trivial, ?_⟩
  rw [Oper.semAt_eq _ _ _ ho]
  unfold Oper.wp at h
  generalize (execOp a.eval o).run P w = r at h ⊢
  cases r with
  | ok x w' =>
    cases x <;> simp only [Oper.upon, Oper.uponIn] at h ⊢
    case value v => exact hK _ _ h
    case skip => exact hK _ _ h
    case defer d => exact hK _ _ h
    case enter f args =>
      refine ⟨fun h => by simp [Fence.wide] at h, CallsIn.inRound l (callsIn_wide.2 (h.mono fun e w'' he => ?_))⟩
      cases e <;> first | exact hK _ _ he | exact he
    case row r args => exact ⟨fun h => by simp [Fence.wide] at h, rowsIn_of_rows (h.mono fun v w'' he => hK _ _ he)⟩
  | halt x w' => cases x <;> simp only [Oper.upon, Oper.uponIn] at h ⊢ <;> exact h
theorem wpAnyIn_of_wpAny {n l : Nat} {md : Region.Mode} {ops : Array Oper} {Q : Exit → Act → World → Prop} (hd : ∀ o ∈ ops, ∀ c, o.op ≠ .defer c) (hQ : ¬ LetsOut Q) : ∀ (fuel : Nat) (listed : Array Bool) (a : Act) (w : World),
    wpAny P md ops Q fuel listed a w → wpAnyIn (Fence.wide.inRound l) n P md ops Q fuel listed a w
  | 0, _, _, _, h => h
  | fuel + 1, listed, a, w, h => ⟨h.1, fun i hi => by
      have h1 := h.2 i hi
      unfold wpOp at h1
      unfold wpOpIn
      cases ho : ops[i]? with
      | none => rw [ho] at h1; exact wpAnyIn_of_wpAny hd hQ fuel _ _ _ h1
      | some o =>
        rw [ho] at h1
        simp only at h1 ⊢
        split
        · rename_i hw
          rw [if_pos hw] at h1
          rcases h1 with h1 | ⟨_, h1⟩
          · exact operIn_of_wp (hd o (Array.mem_of_getElem? ho)) (fun a w h => wpAnyIn_of_wpAny hd hQ fuel _ a w h) h1
          · exact absurd h1 hQ
        · rename_i hw
          rw [if_neg hw] at h1
          exact ⟨fun _ _ => trivial, wpAnyIn_of_wpAny hd hQ fuel _ _ _ h1⟩⟩
/-- Held by S. -/
theorem wpIn_region_held {n l : Nat} {ops : Array Oper} {Q : Exit → Act → World → Prop} {S : World → Prop} {id : Nat} {a : Act} {w : World} (hm : P.follows .mixedOrders = true) (hd : ∀ o ∈ ops, ∀ c, o.op ≠ .defer c) (hQ : ¬ LetsOut Q) (hS : S w.drew)
    (h : S w.drew → wpAnyH P .any ops Q S ops.size (Array.replicate ops.size false) a w.drew) : (Code.region id ops true).wpIn (Fence.wide.inRound l) n P Q a w :=
  wpIn_region_any hm (wpAnyIn_of_wpAny hd hQ _ _ _ _ (wpAny_of_held _ _ _ _ (h hS)))
/-- No panic, no way out. -/
def NoPanic (Q : Exit → Act → World → Prop) : Exit → Act → World → Prop
  | .panic _, _, _ => False
  | .outgrown, _, _ => False
  | e, a, w => Q e a w
/-- A statement walked as outside. -/
theorem wpIn_np {n : Nat} {c : Code} {Q : Exit → Act → World → Prop} {a : Act} {w : World} (h : c.wp P (NoPanic Q) a w) : c.wpIn Fence.wide n P Q a w :=
  wpIn_mono (wpIn_wide.2 h) (fun e a w h => by cases e <;> first | exact h | exact h.elim)
end Go.Proofs.Ytnekelndcpmonaa
namespace Go.Proofs.Ytnekelndcpmonaa
open Go.RowKit

theorem Keeps.others {M : Nat → Prop} {w w' : World} (h : Keeps M w w') : KeepsOthers w w' :=
  ⟨h.size, fun k o hk ho => (h.block k (Array.getElem?_eq_some_iff.1 hk).1 (fun _ c t f e => by rw [hk] at e; cases e; cases ho)).trans hk⟩
theorem cold_blk {w : World} {g : Nat} {c : Array Value} {t : TypeId} (h : w.heap[g]? = some (.cells c t (0, 0))) (ht : hot t = false) : Cold (w.heap[g]?) := fun c' t' f' e => by rw [h] at e; cases e; exact ht
/-- Part of a row of one's own. -/
theorem OwnsB.sub {w : World} {base g n cap : Nat} {l : List UInt8} (h : OwnsB w base (.slice (some ⟨g, 0, none⟩) n cap) n l) (o m : Nat) (hm : o + m ≤ n) : BytesAt w (some ⟨g, o, none⟩) ((l.drop o).take m) := fun i hi => by
  have hi' : i < m := by rw [List.length_take] at hi; omega
  obtain ⟨_, e, _, _, hc, _⟩ := h.at (by omega)
  cases e
  refine ⟨g, o, rfl, ?_⟩
  rw [hc (o + i) (by omega)]
  simp [List.getD, hi']

section
variable {w : World} {R : List Asn} {p : Nat} {D : Dk}
theorem new_sep (S : Sep w R) (n : Nat) (N : Int) (hN : N = (n : Int)) (h1 : 1 ≤ n) (h2 : n ≤ 4096) :
    Calls Try.prog 11 #[.int .i64 N] w fun e w' => ∃ p, e = .returned (.tuple #[.pointer (some ⟨p, 0, none⟩), .int .i64 0]) ∧ Sep w' (diskA p (Dk.new n) :: R) := by
  refine (new_calls n N hN w (fun k => w.heap.size ≤ k) (fun _ hk => hk) h1 h2).mono ?_
  rintro e w' ⟨rfl, h, hb, -⟩
  exact ⟨_, rfl, Sep.stepNew (L' := [diskA _ _]) S hb ⟨_, fun k hk => hk.1, diskA_of h, trivial⟩⟩
theorem write_sep (S : Sep w (diskA p D :: R)) (i : Nat) (I : Int) (hI : I = (i : Int)) (b : List UInt8) (a : Option Addr) (c : Nat) (hi : i < D.secs.length) (hb : BytesAt w a b) (hbl : b.length = 512)
    (hcold : ∀ g o, a = some ⟨g, o, none⟩ → Cold (w.heap[g]?)) (hwn : D.fell.waits.length ≤ 100000) :
    Calls Try.prog 22 #[.pointer (some ⟨p, 0, none⟩), .int .i64 I, .slice a 512 c] w fun e w' => e = .returned (.int .i64 (rdE D)) ∧ Sep w' (diskA p (D.write i b) :: R) ∧ KeepsOthers w w' := by
  obtain ⟨M, hD, h1, _⟩ := S.disk
  cases hd : D.fell.down with
  | true =>
    have e : rdE D = 11 := by simp [rdE, hd]
    rw [e]
    exact (write_down w p D M i I hI b _ c hD hi hd).mono fun e w' h => ⟨h.1, h1 w' _ h.2.1 h.2.2, h.2.2.others⟩
  | false =>
    have e : rdE D = 0 := by simp [rdE, hd]
    rw [e]
    exact (write_ok w p D M i I hI b _ c hD hi hd hb hbl (fun g' o' e' _ => hcold g' o' e') hwn).mono fun e w' h => ⟨h.1, h1 w' _ h.2.1 h.2.2, h.2.2.others⟩
/-- A row of one's own is written. -/
theorem write_own {v : Value} {b : List UInt8} (S : Sep w (bytesA v 512 b :: diskA p D :: R)) (i : Nat) (I : Int) (hI : I = (i : Int)) (hi : i < D.secs.length) (hwn : D.fell.waits.length ≤ 100000) :
    Calls Try.prog 22 #[.pointer (some ⟨p, 0, none⟩), .int .i64 I, v] w fun e w' => e = .returned (.int .i64 (rdE D)) ∧ Sep w' (bytesA v 512 b :: diskA p (D.write i b) :: R) := by
  have ho := S.bytes
  obtain ⟨a, c, rfl, _⟩ := ownsRow_slice ho
  exact (write_sep S.up1 i I hI b a c hi ho.reads ho.len (fun g o e => by subst e; exact ho.cold) hwn).mono fun e w' h => ⟨h.1, h.2.1.up1⟩
theorem barrier_sep (S : Sep w (diskA p D :: R)) :
    Calls Try.prog 54 #[.pointer (some ⟨p, 0, none⟩)] w fun e w' => e = .returned (.int .i64 (rdE D)) ∧ Sep w' (diskA p D.barrier :: R) ∧ KeepsOthers w w' := by
  obtain ⟨M, hD, h1, _⟩ := S.disk
  exact (barrier_calls w p D M hD).mono fun e w' h => ⟨h.1, h1 w' _ h.2.1 h.2.2, h.2.2.others⟩
theorem read_sep_down (S : Sep w (diskA p D :: R)) (i : Nat) (I : Int) (hI : I = (i : Int)) (hi : i < D.secs.length) (hd : D.fell.down = true) :
    Calls Try.prog 42 #[.pointer (some ⟨p, 0, none⟩), .int .i64 I] w fun e w' => e = .returned (.tuple #[.slice none 0 0, .int .i64 11]) ∧ Sep w' (diskA p D.begun :: R) := by
  obtain ⟨M, hD, h1, _⟩ := S.disk
  exact (read_down w p D M I hD (by omega) hd).mono fun e w' h => ⟨h.1, h1 w' _ h.2.1 h.2.2⟩
theorem blk_bytes {B : Nat} {l : List UInt8} (hl : l.length = 512) (S : Sep w (blkA B (l.map byteV).toArray 5 :: R)) : Sep w (bytesA (.slice (some ⟨B, 0, none⟩) 512 512) 512 l :: R) := by
  obtain ⟨F, h1, h2, h3⟩ := S
  refine ⟨F, h1, ⟨cells_ownsB h2.1 (Nat.zero_le _) hl, fun k => (h2.2 k).trans ?_⟩, h3⟩
  simp [Value.ownBlock, eq_comm]
theorem dk_len (S : Sep w (diskA p D :: R)) : D.Ok ∧ 1 ≤ D.secs.length ∧ D.secs.length ≤ 4096 := by
  obtain ⟨M, ⟨sb, scs, wv, dvs, av, hD⟩, _⟩ := S.disk
  exact ⟨hD.ok, hD.len⟩
theorem begun_len (D : Dk) : D.begun.secs.length = D.secs.length := by unfold Dk.begun; split <;> simp [Dk.counted, Dk.fell_len]
theorem read_sep (S : Sep w (diskA p D :: R)) (i : Nat) (I : Int) (hI : I = (i : Int)) (hi : i < D.secs.length) (hd : D.fell.down = false) (l : List UInt8) (hl : D.begun.now i = l) :
    Calls Try.prog 42 #[.pointer (some ⟨p, 0, none⟩), .int .i64 I] w fun e w' => ∃ B, e = .returned (.tuple #[.slice (some ⟨B, 0, none⟩) 512 512, .int .i64 0]) ∧ Sep w' (bytesA (.slice (some ⟨B, 0, none⟩) 512 512) 512 l :: diskA p D.begun :: R) := by
  subst hl
  obtain ⟨M, hD, h1, h2, _⟩ := S.disk
  have hok := (dk_len S).1
  exact (read_ok w p D M i I hI hD hi hd).mono fun e w' ⟨B, hB, he, h3, h4, h5⟩ => ⟨B, he, blk_bytes (Dk.now_len (Dk.ok_begun hok) i (by rw [begun_len]; exact hi)) (h2 w' _ B _ _ hB h3 h4 h5)⟩
theorem read_arg_sep (S : Sep w (diskA p D :: R)) (I : Int) (h : ¬ (0 ≤ I ∧ I < (D.secs.length : Int))) :
    Calls Try.prog 42 #[.pointer (some ⟨p, 0, none⟩), .int .i64 I] w fun e w' => e = .returned (.tuple #[.slice none 0 0, .int .i64 1]) ∧ Sep w' (diskA p D :: R) := by
  obtain ⟨M, hD, h1, _⟩ := S.disk
  exact (read_arg w p D M I hD h).mono fun e w' ⟨he, _, hb⟩ => ⟨he, S.below hb⟩
/-- A crash that keeps what the call was handed. -/
theorem crash_sep {w0 : World} (S : Sep w (diskA p D :: oldA w0 :: R)) (ka : Option Addr) (kc : Nat) (kn : Nat) (keep : List Bool) (m : Nat) (hA : BoolsAt w0 ka keep) (hn : (keep.take m).length = kn) (hkn : kn ≤ 9223372036854775807) :
    Calls Try.prog 27 #[.pointer (some ⟨p, 0, none⟩), .slice ka kn kc] w fun e w' => e = .returned (.tuple #[]) ∧ Sep w' (diskA p (D.crash (keep.take m)) :: oldA w0 :: R) := by
  obtain ⟨M, hD, h1, _, h3⟩ := S.disk
  exact (crash_calls w p D M ka kn kc _ hD (kbools_arg (h3 w0 R rfl) S.drop.old hA m) hn hkn).mono fun e w' h => ⟨h.1, h1 w' _ h.2.1 h.2.2⟩
theorem crash_nil (S : Sep w (diskA p D :: R)) :
    Calls Try.prog 27 #[.pointer (some ⟨p, 0, none⟩), .slice none 0 0] w fun e w' => e = .returned (.tuple #[]) ∧ Sep w' (diskA p (D.crash []) :: R) := by
  obtain ⟨M, hD, h1, _⟩ := S.disk
  exact (crash_calls w p D M none 0 0 [] hD (KBools.nil _ _ _) rfl (by omega)).mono fun e w' h => ⟨h.1, h1 w' _ h.2.1 h.2.2⟩
theorem own_bools {n cap : Nat} {ka : Option Addr} {l : List Bool} (h : w.ownsRow 0 4 1 (.slice ka n cap) n (l.map Value.bool)) (M : Nat → Prop) : KBools w M ka l := by
  have hl : l.length = n := by have := h.1; simpa using this
  refine ⟨fun i hi => ?_, fun b o e h0 _ => ?_⟩
  · rcases h.2 with ⟨e, e0⟩ | ⟨g, cap', cur, e, _⟩
    · omega
    · simp only [Value.slice.injEq] at e
      obtain ⟨rfl, _, rfl⟩ := e
      refine ⟨g, 0, rfl, ?_⟩
      have := h.cells (g := g) rfl i (.bool l[i]) (by simp [hi])
      rw [addr_add] at this
      rw [this]
      simp [List.getD, hi]
  · rcases h.2 with ⟨e', _⟩ | ⟨g, _, cur, e', _, hh, _⟩
    · simp only [Value.slice.injEq] at e'; rw [e'.1] at e; cases e
    · simp only [Value.slice.injEq] at e'
      rw [e'.1] at e
      cases e
      exact cold_blk hh rfl
theorem crash_own {n cap : Nat} {ka : Option Addr} {l : List Bool} (S : Sep w (ownA 4 1 (.slice ka n cap) n (l.map Value.bool) :: diskA p D :: R)) (hn : n ≤ 9223372036854775807) :
    Calls Try.prog 27 #[.pointer (some ⟨p, 0, none⟩), .slice ka n cap] w fun e w' => e = .returned (.tuple #[]) ∧ Sep w' (ownA 4 1 (.slice ka n cap) n (l.map Value.bool) :: diskA p (D.crash l) :: R) := by
  have ho := S.own
  have hl : l.length = n := by have := ho.1; simpa using this
  obtain ⟨M, hD, h1, _⟩ := S.up1.disk
  exact (crash_calls w p D M ka n cap l hD (own_bools ho M) hl hn).mono fun e w' h => ⟨h.1, (h1 w' _ h.2.1 h.2.2).up1⟩
theorem start_sep (S : Sep w (diskA p D :: R)) :
    Calls Try.prog 26 #[.pointer (some ⟨p, 0, none⟩)] w fun e w' => e = .returned (.int .i64 (startE D)) ∧ Sep w' (diskA p D.start :: R) := by
  obtain ⟨M, hD, h1, _⟩ := S.disk
  exact (start_calls w p D M hD).mono fun e w' h => ⟨h.1, h1 w' _ h.2.1 h.2.2⟩
theorem sectors_sep (S : Sep w (diskA p D :: R)) :
    Calls Try.prog 41 #[.pointer (some ⟨p, 0, none⟩)] w fun e w' => e = .returned (.int .i64 (D.secs.length : Int)) ∧ w = w' := by
  obtain ⟨M, hD, _⟩ := S.disk
  exact sectors_calls w p D M hD
theorem down_sep (S : Sep w (diskA p D :: R)) :
    Calls Try.prog 25 #[.pointer (some ⟨p, 0, none⟩)] w fun e w' => e = .returned (.bool D.down) ∧ w = w' := by
  obtain ⟨M, hD, _⟩ := S.disk
  exact down_calls w p D M hD
theorem arm_sep {w0 : World} (S : Sep w (diskA p D :: oldA w0 :: R)) (n : Nat) (N : Int) (hN : N = (n : Int)) (keep : List Bool) (m : Nat) (a : Option Addr) (kn kc : Nat) (hA : BoolsAt w0 a keep) (hn : n ≤ 9223372036854775807) (hl : (keep.take m).length = kn) (hkn : kn ≤ 1000000) (hnil : a = none → kc = 0) :
    Calls Try.prog 24 #[.pointer (some ⟨p, 0, none⟩), .int .i64 N, .slice a kn kc] w fun e w' => e = .returned (.tuple #[]) ∧ Sep w' (diskA p (D.arm (n : Int) (keep.take m)) :: oldA w0 :: R) := by
  obtain ⟨M, hD, h1, _, h3⟩ := S.disk
  exact (arm_ok w p D M n N hN _ a kn kc hD hn (kbools_arg (h3 w0 R rfl) S.drop.old hA m) hl hkn hnil).mono fun e w' h => ⟨h.1, h1 w' _ h.2.1 h.2.2⟩
theorem arm_nil (S : Sep w (diskA p D :: R)) (n : Nat) (N : Int) (hN : N = (n : Int)) (hn : n ≤ 9223372036854775807) :
    Calls Try.prog 24 #[.pointer (some ⟨p, 0, none⟩), .int .i64 N, .slice none 0 0] w fun e w' => e = .returned (.tuple #[]) ∧ Sep w' (diskA p (D.arm (n : Int) []) :: R) := by
  obtain ⟨M, hD, h1, _⟩ := S.disk
  exact (arm_ok w p D M n N hN [] none 0 0 hD hn (KBools.nil _ _ _) rfl (by omega) (fun _ => rfl)).mono fun e w' h => ⟨h.1, h1 w' _ h.2.1 h.2.2⟩
theorem arm_own {n cap : Nat} {ka : Option Addr} {l : List Bool} (S : Sep w (ownA 4 1 (.slice ka n cap) n (l.map Value.bool) :: diskA p D :: R)) (x : Nat) (X : Int) (hX : X = (x : Int)) (hx : x ≤ 9223372036854775807) (hkn : n ≤ 1000000) (hnil : ka = none → cap = 0) :
    Calls Try.prog 24 #[.pointer (some ⟨p, 0, none⟩), .int .i64 X, .slice ka n cap] w fun e w' => e = .returned (.tuple #[]) ∧ Sep w' (ownA 4 1 (.slice ka n cap) n (l.map Value.bool) :: diskA p (D.arm (x : Int) l) :: R) := by
  have ho := S.own
  have hl : l.length = n := by have := ho.1; simpa using this
  obtain ⟨M, hD, h1, _⟩ := S.up1.disk
  exact (arm_ok w p D M x X hX l ka n cap hD hx (own_bools ho M) hl hkn hnil).mono fun e w' h => ⟨h.1, (h1 w' _ h.2.1 h.2.2).up1⟩
end
end Go.Proofs.Ytnekelndcpmonaa
