/- The disk's functions in one form. -/
import Derived.Test.YtgicpialopccpaaDiskF
import Derived.Test.YtgicpialopccpaaDiskH
import Derived.Test.YtgicpialopccpaaDiskI
import Derived.Test.YtgicpialopccpaaDiskJ
namespace Go.Proofs.Ytgicpialopccpaa
open Go.RowKit

def full (c : UInt8) : List UInt8 := List.replicate 512 c
theorem full_len (c : UInt8) : (full c).length = 512 := List.length_replicate
theorem full_set (c : UInt8) (k : Nat) (h : k < 512) : (List.replicate k c ++ List.replicate (512 - k) 0).set k c = List.replicate (k + 1) c ++ List.replicate (512 - (k + 1)) (0 : UInt8) := by
  apply List.ext_getElem
  · simp; omega
  · intro i h1 h2
    simp only [List.getElem_set, List.getElem_append, List.getElem_replicate, List.length_replicate]
    by_cases e : k = i
    · subst e; simp
    · by_cases e2 : i < k
      · simp [e, e2, show i < k + 1 by omega]
      · simp [e, e2, show ¬ i < k + 1 by omega]

/-- A disk, but for a row that is not its. -/
theorem DiskAt.but {w w' : World} {p : Nat} {D : Dk} {M : Nat → Prop} (h : DiskAt w p D M) (hb : Below w.heap.size w w') (g : Nat) (hg : w.heap.size ≤ g) (hg' : g < w'.heap.size) : DiskAt w' p D (fun k => M k ∧ k ≠ g) := by
  obtain ⟨sb, scs, wv, dvs, av, h'⟩ := id h
  exact h.frame (fun k hk hm => ⟨hb.block k hk, hm, by omega⟩) (fun k hk => ⟨h'.new k (Nat.le_trans hb.size hk), by omega⟩)
theorem OwnsB.cold {w : World} {base n cap g o : Nat} {l : List UInt8} (h : OwnsB w base (.slice (some ⟨g, o, none⟩) n cap) n l) : Cold (w.heap[g]?) := by
  rcases h.2 with ⟨e, _⟩ | ⟨g2, _, cur, e, _, hh, _⟩
  · cases e
  · simp only [Value.slice.injEq, Option.some.injEq, Addr.mk.injEq] at e
    obtain ⟨⟨rfl, _, _⟩, _⟩ := e
    intro c t f hc
    rw [hh] at hc; cases hc; rfl

/-- Read: its answer, told by the disk's picture. -/
def rdE (D : Dk) : Int := if D.fell.down then 11 else 0
/-- Write of a row of one's own. -/
theorem write_calls (w : World) (p : Nat) (D : Dk) (M : Nat → Prop) (i : Nat) (I : Int) (hI : I = (i : Int)) (b : List UInt8) (base g c : Nat) (hD : DiskAt w p D M) (hi : i < D.secs.length) (hb : OwnsB w base (.slice (some ⟨g, 0, none⟩) 512 c) 512 b) (hwn : D.fell.waits.length ≤ 100000) :
    Calls Try.prog 14 #[.pointer (some ⟨p, 0, none⟩), .int .i64 I, .slice (some ⟨g, 0, none⟩) 512 c] w fun e w' => e = .returned (.int .i64 (rdE D)) ∧ DiskAt w' p (D.write i b) M ∧ Keeps M w w' := by
  cases hd : D.fell.down with
  | true =>
    have e : rdE D = 11 := by simp [rdE, hd]
    rw [e]
    exact write_down w p D M i I hI b _ c hD hi hd
  | false =>
    have e : rdE D = 0 := by simp [rdE, hd]
    rw [e]
    exact write_ok w p D M i I hI b _ c hD hi hd hb.reads hb.len (fun g' o' e' _ => by cases e'; exact hb.cold) hwn
theorem barrier_calls (w : World) (p : Nat) (D : Dk) (M : Nat → Prop) (hD : DiskAt w p D M) :
    Calls Try.prog 18 #[.pointer (some ⟨p, 0, none⟩)] w fun e w' => e = .returned (.int .i64 (rdE D)) ∧ DiskAt w' p D.barrier M ∧ Keeps M w w' := by
  cases hd : D.fell.down with
  | true =>
    have e : rdE D = 11 := by simp [rdE, hd]
    rw [e]
    exact barrier_down w p D M hD hd
  | false =>
    have e : rdE D = 0 := by simp [rdE, hd]
    rw [e]
    exact barrier_ok w p D M hD hd
/-- Read, be the disk down or not. -/
theorem read_calls (w : World) (p : Nat) (D : Dk) (M : Nat → Prop) (i : Nat) (I : Int) (hI : I = (i : Int)) (hD : DiskAt w p D M) (hi : i < D.secs.length) :
    Calls Try.prog 15 #[.pointer (some ⟨p, 0, none⟩), .int .i64 I] w fun e w' => ∃ v, e = .returned (.tuple #[v, .int .i64 (rdE D)]) ∧ DiskAt w' p D.begun M ∧ Keeps M w w' ∧
      ((D.fell.down = true ∧ v = .slice none 0 0) ∨ (D.fell.down = false ∧ ∃ B, w.heap.size ≤ B ∧ B < w'.heap.size ∧ v = .slice (some ⟨B, 0, none⟩) 512 512 ∧ w'.heap[B]? = some (.cells ((D.begun.now i).map byteV).toArray 5 (0, 0)) ∧ DiskAt w' p D.begun (fun k => M k ∧ k ≠ B))) := by
  cases hd : D.fell.down with
  | true =>
    have e : rdE D = 11 := by simp [rdE, hd]
    rw [e]
    subst hI
    refine (read_down w p D M i hD ⟨by omega, by omega⟩ hd).mono ?_
    rintro e w' ⟨rfl, h1, h2⟩
    exact ⟨_, rfl, h1, h2, .inl ⟨rfl, rfl⟩⟩
  | false =>
    have e : rdE D = 0 := by simp [rdE, hd]
    rw [e]
    refine (read_ok w p D M i I hI hD hi hd).mono ?_
    rintro e w' ⟨B, hB, rfl, h1, h2, h3⟩
    have hn : ∀ k, w'.heap.size ≤ k → M k := by
      obtain ⟨sb, scs, wv, dvs, av, h'⟩ := hD
      exact fun k hk => h'.new k (Nat.le_trans h3.size hk)
    exact ⟨_, rfl, h2.frame (fun k _ hm => ⟨rfl, hm.1⟩) hn, h3, .inr ⟨rfl, B, hB, (Array.getElem?_eq_some_iff.1 h1).1, rfl, h1, h2⟩⟩
/-- What Read told reads so. -/
theorem cells_ownsB {w : World} {B base : Nat} {l : List UInt8} (h : w.heap[B]? = some (.cells (l.map byteV).toArray 5 (0, 0))) (hB : base ≤ B) (hl : l.length = 512) : OwnsB w base (.slice (some ⟨B, 0, none⟩) 512 512) 512 l :=
  ⟨by simp [hl], .inr ⟨B, 512, _, rfl, hB, h, Nat.le_refl _, by unfold maxLen; omega, by simp [hl], by simp [hl, List.take_of_length_le]⟩⟩
end Go.Proofs.Ytgicpialopccpaa
