/- How law04's tries are opened. -/
import Derived.Test.YtnekelndcpmonaaMg11
import Derived.Test.YtnekelndcpmonaaMg1
import Derived.Deep.Grids
import Derived.Deep.Slices
import Derived.Deep.Fields
set_option linter.all false
namespace Go.Proofs.Ytnekelndcpmonaa
open Go.ChangeShapes Go.WideShapes Go.ChangeAt Go.RowKit
set_option linter.unusedVariables false

structure TryD where
  n : Int
  at_ : Int
  ka : Option Addr
  kc : Nat
  keep : List Bool
def tryN : TryD := ⟨0, 0, none, 0, []⟩
instance : Inhabited TryD := ⟨tryN⟩
/-- What a try reads as. -/
structure TryAt (w : World) (b o : Nat) (x : TryD) : Prop where
  n : w.cell? ⟨b, o, none⟩ = some (.int .i64 x.n)
  at_ : w.cell? ⟨b, o + 1, none⟩ = some (.int .i64 x.at_)
  keep : w.cell? ⟨b, o + 2, none⟩ = some (.slice x.ka x.keep.length x.kc)
  bools : BoolsAt w x.ka x.keep
  cap : x.keep.length ≤ x.kc ∧ x.kc ≤ maxLen ∧ (x.ka = none → x.kc = 0)
def TriesAt (w : World) (a : Option Addr) (l : List TryD) : Prop := ∀ i, i < l.length → ∃ b o, a = some ⟨b, o, none⟩ ∧ TryAt w b (o + i * 3) (l.getD i tryN)

section
variable {H : Type} {enc : TypeId × Value → H} {w : World} {base : Nat} {spare : Nat → Bool} {held : Bool}
/-- The cells of a struct, each read as its field. -/
theorem fields_of {t : TypeId} {fs : Array Field} {fuel : Nat} {cs : List Value} {x : DataW H × List MemPlace} (he : Try.prog.underlying t = some (.struct fs)) (hone : Deep.oneCellFields Try.prog fs = true) (hl : fs.size ≤ cs.length) (h : DataW.trod enc Try.prog w base spare held fuel t cs = some x) (j : Nat) (f : Field) (hj : fs[j]? = some f) :
    ∃ (v : Value) (y : DataW H × List MemPlace) (n : Nat), cs[j]? = some v ∧ DataW.trod enc Try.prog w base spare held n f.type [v] = some y := by
  obtain ⟨xs, n, _, _, _, hxl, hf⟩ := DataW.trod_struct he h
  obtain ⟨ho, hk⟩ := Deep.hone_of hone j f hj
  have hjl : j < fs.size := (Array.getElem?_eq_some_iff.1 hj).1
  have hjc : j < cs.length := by omega
  have h1 := hf j f hj
  rw [ho, hk, List.drop_eq_getElem_cons hjc] at h1
  exact ⟨cs[j], xs[j]'(by omega), n, List.getElem?_eq_getElem hjc, h1.trans (List.getElem?_eq_getElem _)⟩
theorem bools_of {fuel : Nat} {v : Value} {y : DataW H × List MemPlace} (hf : DataW.trod enc Try.prog w base (fun _ => true) held fuel 54 [v] = some y) :
    ∃ (a : Option Addr) (cap : Nat) (l : List Bool), v = .slice a l.length cap ∧ BoolsAt w a l ∧ l.length ≤ cap ∧ cap ≤ maxLen ∧ (a = none → cap = 0) := by
  rcases Deep.open_bools Try.underlying54 Try.underlying4 (by kernel_rfl) hf with ⟨e, _⟩ | ⟨a, len, cap, B, e, _, hl, hm, _, hc⟩
  · simp at e
    exact ⟨none, 0, [], e, fun i hi => absurd hi (Nat.not_lt_zero i), Nat.le_refl _, by unfold maxLen; omega, fun _ => rfl⟩
  · simp at e
    refine ⟨some a, cap, (List.range len).map B, by simp [e], fun i hi => ?_, by simpa using hl, hm, fun e => by cases e⟩
    have hi' : i < len := by simpa using hi
    have hci := hc i (by omega)
    obtain ⟨b, o, spot⟩ := a
    have hspot : spot = none := by simpa [Addr.add] using World.cell?_spot (hc 0 (by omega))
    subst hspot
    rw [addr_add] at hci
    refine ⟨b, o, rfl, ?_⟩
    rw [hci]
    simp [List.getD, hi']
theorem arg_tries {s : Option Addr} {t u : Nat} {d : DataW H} {p : List MemPlace} (h : DataW.Trod enc Try.prog w base (fun _ => true) held 53 (.slice s t u) d p) :
    ∃ l : List TryD, t = l.length ∧ TriesAt w s l ∧ l.length ≤ u ∧ u ≤ maxLen := by
  obtain ⟨fuel, hf⟩ := h
  rcases Deep.open_slice Try.underlying53 hf with ⟨e, _⟩ | ⟨a, len, cap, m, n, D, Pl, e, _, hl, hm, hmm, _, hx⟩
  · simp [Value.cells] at e
    obtain ⟨rfl, rfl, rfl⟩ := e
    exact ⟨[], rfl, fun i hi => absurd hi (Nat.not_lt_zero i), Nat.le_refl _, by unfold maxLen; omega⟩
  · simp [Value.cells] at e
    obtain ⟨rfl, rfl, rfl⟩ := e
    have hcs : Try.prog.cellsOf 56 = 3 := by kernel_rfl
    have hlm : t ≤ m := by rw [hmm]; split <;> omega
    rw [hcs] at hx
    obtain ⟨F, hF⟩ := Deep.choose_lt (α := TryD) (n := t) (p := fun i x => ∃ b o, a = ⟨b, o, none⟩ ∧ TryAt w b (o + i * 3) x) (fun i hi => by
      obtain ⟨cs', hc, ht'⟩ := hx i (by omega)
      obtain ⟨_, hcl, hat⟩ := World.cells?_some hc
      have F := fields_of Try.underlying56 (by kernel_rfl) (by rw [hcl]; decide) ht'
      obtain ⟨v0, y0, n0, g0, e0⟩ := F 0 _ rfl
      obtain ⟨v1, y1, n1, g1, e1⟩ := F 1 _ rfl
      obtain ⟨v5, y5, n5, g5, e5⟩ := F 2 _ rfl
      obtain ⟨k0, h0, _, _⟩ := DataW.trod_int (k := .i64) Try.underlying3 e0
      obtain ⟨k1, h1, _, _⟩ := DataW.trod_int (k := .i64) Try.underlying3 e1
      obtain ⟨ka, kc, kl, h5, hb5, hl5, hm5, hn5⟩ := bools_of e5
      simp at h0 h1
      have c0 := hat 0 (by omega)
      have c1 := hat 1 (by omega)
      have c5 := hat 2 (by omega)
      obtain ⟨b, o, spot⟩ := a
      rw [g0, h0] at c0
      have hspot : spot = none := by
        obtain ⟨cs0, hc0, ht0⟩ := hx 0 (by omega)
        obtain ⟨_, hcl0, hat0⟩ := World.cells?_some hc0
        have h := hat0 0 (by omega)
        rw [List.getElem?_eq_getElem (by omega)] at h
        simpa [Addr.add] using World.cell?_spot h
      subst hspot
      refine ⟨⟨k0, k1, ka, kc, kl⟩, b, o, rfl, ?_, ?_, ?_, hb5, ⟨hl5, hm5, hn5⟩⟩
      · rw [addr_add, addr_add] at c0; simpa using c0
      · rw [g1, h1] at c1; rw [addr_add, addr_add] at c1; exact c1
      · rw [g5, h5] at c5; rw [addr_add, addr_add] at c5; exact c5)
    refine ⟨(List.range t).map F, by simp, ?_, by simpa using hl, hm⟩
    intro i hi
    have hit : i < t := by simpa using hi
    obtain ⟨b, o, e, hs⟩ := hF i hit
    have eF : ((List.range t).map F).getD i tryN = F i := by simp [List.getD, hit]
    rw [eF]
    exact ⟨b, o, by rw [e], hs⟩
end
end Go.Proofs.Ytnekelndcpmonaa
