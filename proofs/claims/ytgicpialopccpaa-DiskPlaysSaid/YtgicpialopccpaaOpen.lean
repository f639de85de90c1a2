/- How a law's arguments are opened; what the rows share. -/
import Derived.Test.YtgicpialopccpaaRows
import Derived.WalkKit
import Derived.ProofKit
import Derived.OpenShut
import Derived.ShutString
import Derived.ChangeOld
import Derived.Below
import Derived.Deep.Slices
import Derived.Test.YtgicpialopccpaaLib
namespace Go.Proofs.Ytgicpialopccpaa
open Go.ChangeShapes Go.WideShapes Go.ChangeAt Go.RowKit
open Go.ChangeMaps (open_string shut_string)

theorem own : ownKnob Try.prog.godebug = none := by kernel_rfl
theorem laidOut : laidOutB Try.prog = true := by kernel_rfl

section
variable {H : Type} {enc : TypeId × Value → H} {w : World} {base : Nat} {spare : Nat → Bool} {held : Bool}

theorem open_bytes {fuel : Nat} {cs : List Value} {x : DataW H × List MemPlace} (h : DataW.trod enc Try.prog w base spare held fuel 30 cs = some x) :
    ∃ (a : Option Addr) (cap : Nat) (l : List UInt8), cs = [.slice a l.length cap] ∧ BytesAt w a l ∧ l.length ≤ cap ∧ cap ≤ maxLen ∧ (a = none → cap = 0) := by
  rcases open_ints Try.underlying30 Try.underlying5 (by kernel_rfl) h with ⟨hcs, _⟩ | ⟨a, len, cap, zs, hcs, _, hl, hm, hz, _, hcell, hwz⟩
  · exact ⟨none, 0, [], hcs, BytesAt.nil _ _, Nat.le_refl _, by unfold maxLen; omega, fun _ => rfl⟩
  · have hzl : len ≤ zs.length := by rw [hz]; split <;> omega
    have hll : ((zs.take len).map fun n => UInt8.ofNat n.toNat).length = len := by simp; omega
    refine ⟨some a, cap, (zs.take len).map fun n => UInt8.ofNat n.toNat, by rw [hll]; exact hcs, ?_, by rw [hll]; exact hl, hm, fun e => by cases e⟩
    intro i hi
    rw [hll] at hi
    have hc := hcell i (by omega)
    obtain ⟨b, o, spot⟩ := a
    have hspot : spot = none := by simpa [Addr.add] using World.cell?_spot (hcell 0 (by omega))
    subst hspot
    rw [addr_add] at hc
    refine ⟨b, o, rfl, ?_⟩
    rw [hc]
    have hw := hwz (zs.getD i 0) (by simp [List.getD, show i < zs.length by omega])
    have hb := bounds_u8 hw
    have e : ((zs.take len).map fun n => UInt8.ofNat n.toNat).getD i 0 = UInt8.ofNat (zs.getD i 0).toNat := by
      simp [List.getD, hi, show i < zs.length by omega]
    rw [e, UInt8.toNat_ofNat']
    congr 2
    omega
theorem arg_bytes {s : Option Addr} {t u : Nat} {d : DataW H} {p : List MemPlace} (h : DataW.Trod enc Try.prog w base spare held 30 (.slice s t u) d p) :
    ∃ l : List UInt8, t = l.length ∧ BytesAt w s l ∧ l.length ≤ u ∧ u ≤ maxLen ∧ (s = none → u = 0) := by
  obtain ⟨fuel, hf⟩ := h
  obtain ⟨a, cap, l, e, h1, h2, h3, h4⟩ := open_bytes hf
  simp [Value.cells] at e
  obtain ⟨rfl, rfl, rfl⟩ := e
  exact ⟨l, rfl, h1, h2, h3, h4⟩
theorem arg_rows {s : Option Addr} {t u : Nat} {d : DataW H} {p : List MemPlace} (h : DataW.Trod enc Try.prog w base spare held 61 (.slice s t u) d p) :
    ∃ L : List (List UInt8), t = L.length ∧ RowsAt w s L ∧ L.length ≤ u ∧ u ≤ maxLen := by
  obtain ⟨fuel, hf⟩ := h
  rcases Deep.open_slice1 Try.underlying61 (by kernel_rfl) hf with ⟨e, _⟩ | ⟨a, len, cap, m, n, V, D, Pl, e, _, hl, hm, hmm, _, hx⟩
  · simp [Value.cells] at e
    obtain ⟨rfl, rfl, rfl⟩ := e
    exact ⟨[], rfl, fun i hi => absurd hi (Nat.not_lt_zero i), Nat.le_refl _, by unfold maxLen; omega⟩
  · simp [Value.cells] at e
    obtain ⟨rfl, rfl, rfl⟩ := e
    have hlm : t ≤ m := by rw [hmm]; split <;> omega
    obtain ⟨F, hF⟩ := Deep.choose_lt (α := List UInt8) (n := t) (p := fun i l => ∃ ai ci, V i = .slice ai l.length ci ∧ BytesAt w ai l ∧ l.length ≤ ci ∧ (ai = none → ci = 0)) (fun i hi => by
      obtain ⟨ai, ci, l, e, h1, h2, _, h4⟩ := open_bytes (hx i (by omega)).2
      simp at e
      exact ⟨l, ai, ci, e, h1, h2, h4⟩)
    refine ⟨(List.range t).map F, by simp, ?_, by simpa using hl, hm⟩
    intro i hi
    have hit : i < t := by simpa using hi
    obtain ⟨b, o, spot⟩ := a
    have hspot : spot = none := by simpa [Addr.add] using World.cell?_spot (hx 0 (by omega)).1
    subst hspot
    have hc := (hx i (by omega)).1
    rw [addr_add] at hc
    obtain ⟨ai, ci, e, h1, h2, h4⟩ := hF i hit
    have eF : ((List.range t).map F).getD i [] = F i := by simp [List.getD, hit]
    rw [eF]
    exact ⟨b, o, ai, ci, rfl, hc.trans (by rw [e]), h1, h2, h4⟩
end
end Go.Proofs.Ytgicpialopccpaa
