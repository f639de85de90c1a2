/- How the disk laws' arguments are opened. -/
import Derived.Test.YtnekelndcpmonaaMg11
import Derived.Test.YtnekelndcpmonaaMg15
import Derived.Test.YtnekelndcpmonaaMg1
import Derived.Deep.Grids
set_option linter.all false
namespace Go.Proofs.Ytnekelndcpmonaa
open Go.ChangeShapes Go.WideShapes Go.ChangeAt Go.RowKit

section
variable {H : Type} {enc : TypeId × Value → H} {w : World} {base : Nat} {spare : Nat → Bool} {held : Bool}

theorem open_nums {t e : TypeId} {k : IntKind} (ht : Try.prog.underlying t = some (.slice e)) (he : Try.prog.underlying e = some (.int k)) (hc : Try.prog.cellsOf e = 1) {fuel : Nat} {cs : List Value} {x : DataW H × List MemPlace} (h : DataW.trod enc Try.prog w base spare held fuel t cs = some x) :
    ∃ (a : Option Addr) (cap : Nat) (l : List Int), cs = [.slice a l.length cap] ∧ NumsAt k w a l ∧ l.length ≤ cap ∧ cap ≤ maxLen ∧ (a = none → cap = 0) ∧ ∀ n ∈ l, (Lit.int k n).wf = true := by
  rcases open_ints ht he hc h with ⟨hcs, _⟩ | ⟨a, len, cap, zs, hcs, _, hl, hm, hz, _, hcell, hwz⟩
  · exact ⟨none, 0, [], hcs, fun i hi => absurd hi (Nat.not_lt_zero i), Nat.le_refl _, by unfold maxLen; omega, fun _ => rfl, fun n hn => by simp at hn⟩
  · have hzl : len ≤ zs.length := by rw [hz]; split <;> omega
    have hll : (zs.take len).length = len := by simp; omega
    refine ⟨some a, cap, zs.take len, by rw [hll]; exact hcs, ?_, by rw [hll]; exact hl, hm, (fun e => by cases e), fun n hn => hwz n (List.mem_of_mem_take hn)⟩
    intro i hi
    rw [hll] at hi
    have hci := hcell i (by omega)
    obtain ⟨b, o, spot⟩ := a
    have hspot : spot = none := by simpa [Addr.add] using World.cell?_spot (hcell 0 (by omega))
    subst hspot
    rw [addr_add] at hci
    refine ⟨b, o, rfl, ?_⟩
    rw [hci]
    simp [List.getD, hi]
theorem arg_nums {t e : TypeId} {k : IntKind} (ht : Try.prog.underlying t = some (.slice e)) (he : Try.prog.underlying e = some (.int k)) (hc : Try.prog.cellsOf e = 1) {s : Option Addr} {n u : Nat} {d : DataW H} {p : List MemPlace} (h : DataW.Trod enc Try.prog w base spare held t (.slice s n u) d p) :
    ∃ l : List Int, n = l.length ∧ NumsAt k w s l ∧ l.length ≤ u ∧ u ≤ maxLen ∧ (s = none → u = 0) ∧ ∀ n ∈ l, (Lit.int k n).wf = true := by
  obtain ⟨fuel, hf⟩ := h
  obtain ⟨a, cap, l, e, h1, h2, h3, h4, h5⟩ := open_nums ht he hc hf
  simp [Value.cells] at e
  obtain ⟨rfl, rfl, rfl⟩ := e
  exact ⟨l, rfl, h1, h2, h3, h4, h5⟩
theorem arg_ints {s : Option Addr} {n u : Nat} {d : DataW H} {p : List MemPlace} (h : DataW.Trod enc Try.prog w base spare held 22 (.slice s n u) d p) :
    ∃ l : List Int, n = l.length ∧ NumsAt .i64 w s l ∧ l.length ≤ u ∧ u ≤ maxLen ∧ (s = none → u = 0) ∧ ∀ n ∈ l, (Lit.int .i64 n).wf = true := arg_nums Try.underlying22 Try.underlying3 (by kernel_rfl) h
theorem arg_bools {s : Option Addr} {n u : Nat} {d : DataW H} {p : List MemPlace} (h : DataW.Trod enc Try.prog w base (fun _ => true) held 54 (.slice s n u) d p) :
    ∃ l : List Bool, n = l.length ∧ BoolsAt w s l ∧ l.length ≤ u ∧ u ≤ maxLen ∧ (s = none → u = 0) := by
  obtain ⟨fuel, hf⟩ := h
  rcases Deep.open_bools Try.underlying54 Try.underlying4 (by kernel_rfl) hf with ⟨e, _⟩ | ⟨a, len, cap, B, e, _, hl, hm, _, hc⟩
  · simp [Value.cells] at e
    obtain ⟨rfl, rfl, rfl⟩ := e
    exact ⟨[], rfl, fun i hi => absurd hi (Nat.not_lt_zero i), Nat.le_refl _, by unfold maxLen; omega, fun _ => rfl⟩
  · simp [Value.cells] at e
    obtain ⟨rfl, rfl, rfl⟩ := e
    refine ⟨(List.range n).map B, by simp, fun i hi => ?_, by simpa using hl, hm, fun e => by cases e⟩
    have hi' : i < n := by simpa using hi
    have hci := hc i (by omega)
    obtain ⟨b, o, spot⟩ := a
    have hspot : spot = none := by simpa [Addr.add] using World.cell?_spot (hc 0 (by omega))
    subst hspot
    rw [addr_add] at hci
    refine ⟨b, o, rfl, ?_⟩
    rw [hci]
    simp [List.getD, hi']
end
end Go.Proofs.Ytnekelndcpmonaa
