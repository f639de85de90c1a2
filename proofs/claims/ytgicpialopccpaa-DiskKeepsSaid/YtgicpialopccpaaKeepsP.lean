/- DiskKeeps: the plain law. -/
import Derived.Test.YtgicpialopccpaaDiskQ
namespace Go.Proofs.Ytgicpialopccpaa
open Go.RowKit

/-- Behind the barrier, and some writes more: a, what was barriered; la, what was written last; s, what a crash that keeps ks would leave; may, what may be. -/
structure KInv (m : Nat) (D : Dk) (a la s : List UInt8) (may : List (List UInt8)) (ks : List Bool) : Prop where
  calm : Calm D 4 ks.length
  wl : D.waits.length = ks.length
  left : Dk.keepFrom ks 0 D.waits D.secs = s.map full
  al : a.length = 4
  ll : la.length = 4
  sl : s.length = 4
  ml : may.length = 4
  mem : ∀ i, i < 4 → s.getD i 0 ∈ may.getD i []
  all : m = 1 → s = la
  none : m = 2 → s = a
theorem keepFrom_more (ks : List Bool) (b : Bool) (ws : List (Nat × List UInt8)) : ∀ (i : Nat) (s : List (List UInt8)), i + ws.length ≤ ks.length → Dk.keepFrom (ks ++ [b]) i ws s = Dk.keepFrom ks i ws s := by
  induction ws with
  | nil => intro i s _; rfl
  | cons x ws ih =>
    intro i s h
    rw [List.length_cons] at h
    rw [Dk.keepFrom, Dk.keepFrom, ih (i + 1) _ (by omega)]
    have : (ks ++ [b]).getD i false = ks.getD i false := by simp [List.getD, List.getElem?_append_left (show i < ks.length by omega)]
    rw [this]
theorem KInv.step {m : Nat} {D : Dk} {a la s : List UInt8} {may : List (List UInt8)} {ks : List Bool} (h : KInv m D a la s may ks) (at_ : Nat) (c : UInt8) (one : Bool) (h1 : m = 1 → one = true) (h2 : m = 2 → one = false) :
    KInv m (D.write at_ (full c)) a (la.set at_ c) (if one then s.set at_ c else s) (may.set at_ (may.getD at_ [] ++ [c])) (ks ++ [one]) := by
  have e : D.write at_ (full c) = { D.counted with waits := D.counted.waits ++ [(at_, full c)] } := by simp [Dk.write, h.calm.fell, h.calm.down]
  have hc := h.calm.write at_ (full c)
  refine ⟨by rw [List.length_append]; exact hc, ?_, ?_, h.al, by simp [h.ll], by split <;> simp [h.sl], by simp [h.ml], ?_, ?_, ?_⟩
  · rw [e]; simp [Dk.counted, h.wl]
  · rw [e]
    show Dk.keepFrom (ks ++ [one]) 0 (D.waits ++ [(at_, full c)]) D.secs = _
    rw [Dk.keepFrom_append, keepFrom_more ks one D.waits 0 D.secs (by rw [h.wl]; omega), h.left, Dk.keepFrom, Dk.keepFrom, Nat.zero_add, h.wl]
    have : (ks ++ [one]).getD ks.length false = one := by simp [List.getD]
    rw [this]
    cases one
    · rfl
    · simp [List.map_set]
  · intro i hi
    have hm := h.mem i hi
    by_cases e2 : at_ = i
    · subst e2
      have e3 : (may.set at_ (may.getD at_ [] ++ [c])).getD at_ [] = may.getD at_ [] ++ [c] := by simp [List.getD, h.ml, hi]
      rw [e3]
      cases one
      · exact List.mem_append_left _ hm
      · have e4 : (s.set at_ c).getD at_ 0 = c := by simp [List.getD, h.sl, hi]
        show (s.set at_ c).getD at_ 0 ∈ _
        rw [e4]; simp
    · have e3 : (may.set at_ (may.getD at_ [] ++ [c])).getD i [] = may.getD i [] := by simp [List.getD, e2]
      rw [e3]
      cases one
      · exact hm
      · have e4 : (s.set at_ c).getD i 0 = s.getD i 0 := by simp [List.getD, e2]
        show (s.set at_ c).getD i 0 ∈ _
        rw [e4]; exact hm
  · intro hm; rw [h1 hm, h.all hm]; rfl
  · intro hm; rw [h2 hm]; exact h.none hm
theorem KInv.first {D : Dk} (m : Nat) (h : Calm D 4 0) (a : List UInt8) (ha : a.length = 4) (hnow : ∀ i, i < 4 → D.now i = full (a.getD i 0)) : KInv m D a a a (a.map fun x => [x]) [] := by
  have hw : D.waits = [] := List.eq_nil_of_length_eq_zero (Nat.le_zero.1 h.waits)
  refine ⟨h, by rw [hw]; rfl, ?_, ha, ha, ha, by simp [ha], ?_, fun _ => rfl, fun _ => rfl⟩
  · rw [hw]
    show D.secs = a.map full
    apply List.ext_getElem
    · rw [h.len, List.length_map, ha]
    · intro i h1 h2
      have hi : i < 4 := by rw [h.len] at h1; exact h1
      have := hnow i hi
      unfold Dk.now at this
      rw [hw] at this
      simp [List.getD, h1, show i < a.length by omega] at this
      simpa using this
  · intro i hi
    simp [List.getD, show i < a.length by omega]
/-- The crash and the start. -/
theorem KInv.crash {m : Nat} {D : Dk} {a la s : List UInt8} {may : List (List UInt8)} {ks : List Bool} (h : KInv m D a la s may ks) : Quiet (D.crash ks).start (s.map full) ∧ startE (D.crash ks) = 0 := by
  refine ⟨⟨rfl, rfl, rfl, ?_⟩, rfl⟩
  show Dk.keepFrom ks 0 D.waits D.secs = _
  exact h.left
end Go.Proofs.Ytgicpialopccpaa
