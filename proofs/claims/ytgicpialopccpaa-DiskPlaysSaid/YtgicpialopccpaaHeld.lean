/- A region that draws its order, where a late operation (a call that writes, a store) may undo what the loads ahead of it read: each operation names what it leaves true. -/
import Derived.Deep.RegionHeld
import Derived.RegionTactic
import Derived.Test.YtgicpialopccpaaLib
namespace Go.Proofs.Ytgicpialopccpaa
open Go

section
variable {P : Program} {ops : Array Oper} {Q : Exit → Act → World → Prop} {md : Region.Mode}

/-- Whatever order is picked from here on; behind operation i 'S i' holds. -/
def AnyK (P : Program) (md : Region.Mode) (ops : Array Oper) (Q : Exit → Act → World → Prop) (S : Nat → World → Prop) : Nat → Array Bool → Act → World → Prop
  | 0, listed, a, w => Region.ready md ops listed = [] ∧ Q .normal a w
  | fuel + 1, listed, a, w =>
    (Region.ready md ops listed = [] → Q .normal a w) ∧
    ∀ i ∈ Region.ready md ops listed, wpOp P ops Q i (fun a' w' => S i w' ∧ AnyK P md ops Q S fuel (listed.setIfInBounds i true) a' w') a w

theorem any_of_K {S : Nat → World → Prop} : ∀ (fuel : Nat) (listed : Array Bool) (a : Act) (w : World), AnyK P md ops Q S fuel listed a w → wpAny P md ops Q fuel listed a w
  | 0, _, _, _, h => h
  | fuel + 1, _, _, _, h => ⟨h.1, fun i hi => wpOp_mono (fun a' w' h' => any_of_K fuel _ a' w' h'.2) (h.2 i hi)⟩

/-- The operations T wait for i, each directly or through another of T. -/
def Waits (md : Region.Mode) (ops : Array Oper) (i : Nat) (T : List Nat) : Prop := ∀ j ∈ T, ∀ oj, ops[j]? = some oj → ∃ e ∈ oj.after, Region.binds md e = true ∧ (e.on = i ∨ e.on ∈ T)
theorem Waits.not_ready {i : Nat} {T : List Nat} {listed : Array Bool} (h : Waits md ops i T) (hi : listed.getD i false = false) (hT : ∀ j ∈ T, listed.getD j false = false) : ∀ j ∈ T, j ∉ Region.ready md ops listed := fun j hj hr => by
  obtain ⟨_, o, ho, hall⟩ := mem_ready.1 hr
  obtain ⟨e, he, hb, h2⟩ := h j hj o ho
  have := hall e he hb
  rcases h2 with h2 | h2
  · rw [h2, hi] at this; cases this
  · rw [hT _ h2] at this; cases this

theorem getD_set_ne' {listed : Array Bool} {i j : Nat} (d : Bool) (h : i ≠ j) : (listed.setIfInBounds i true).getD j d = listed.getD j d := by
  simp [Array.getElem?_setIfInBounds_ne h]

theorem AnyK.first {S : Nat → World → Prop} {S0 : World → Prop} {i : Nat} {oi : Oper} {v : Value} {T : List Nat} (hi : ops[i]? = some oi) (hsel : ∀ (j : Nat) (o : Oper) cs b, ops[j]? = some o → o.op ≠ .select cs b)
    (hQ : ∀ c a w, Q (.panic c) (a.put oi.dst v) w → Q (.panic c) a w) (hW : Waits md ops i T) (hSi : ∀ w, S0 w → S i w) :
    ∀ (fuel : Nat) (listed : Array Bool) (a : Act) (w : World),
      (∀ j oj, ops[j]? = some oj → j ≠ i → listed.getD j true = false → (∀ e ∈ oj.after, Region.binds md e = true → e.on ≠ i) → oi.apart ops oj = true) →
      (∀ j, j ≠ i → listed.getD j true = false → j ∉ T → ∀ w, S j w → S0 w) → (∀ j ∈ T, listed.getD j false = false) →
      i ∈ Region.ready md ops listed → YieldsIf P ops S0 oi v a → S0 w →
      AnyK P md ops Q S fuel (listed.setIfInBounds i true) (a.put oi.dst v) w → AnyK P md ops Q S (fuel + 1) listed a w := by
  intro fuel
  induction fuel with
  | zero =>
    intro listed a w _ _ _ hr hy hS H
    refine ⟨fun h => (by rw [h] at hr; cases hr), fun j hj => ?_⟩
    by_cases hji : j = i
    · subst hji; exact hy.wpOp hi hS ⟨hSi w hS, H⟩
    · have := ready_mono hj hji
      rw [H.1] at this
      cases this
  | succ fuel ih =>
    intro listed a w hfree hkeep hun hr hy hS H
    refine ⟨fun h => (by rw [h] at hr; cases hr), fun j hj => ?_⟩
    by_cases hji : j = i
    · subst hji; exact hy.wpOp hi hS ⟨hSi w hS, H⟩
    · have hil : listed.getD i false = false := by
        have h0 := (mem_ready.1 hr).1
        rcases Nat.lt_or_ge i listed.size with h' | h'
        · simp [h'] at h0 ⊢; exact h0
        · simp [Array.getElem?_eq_none h']
      have hjT : j ∉ T := fun hjT => hW.not_ready hil hun j hjT hj
      have h1 := H.2 j (ready_mono hj hji)
      obtain ⟨hjun, oj, hoj, hall⟩ := mem_ready.1 hj
      have hnot : ∀ e ∈ oj.after, Region.binds md e = true → e.on ≠ i := fun e he hb heq => by
        have h1 := hall e he hb
        rw [heq, hil] at h1
        cases h1
      have h2 := wpOp_putIf hoj (hfree j oj hoj hji hjun hnot) (fun cs b => hsel i oi cs b hi) (fun cs b => hsel j oj cs b hoj) hQ hy h1
      have hset : ∀ k, (listed.setIfInBounds j true).getD k true = false → listed.getD k true = false := fun k hk => by
        by_cases hjk : j = k
        · subst hjk; exact hjun
        · rw [getD_set_ne' true hjk] at hk; exact hk
      refine wpOp_mono (fun a' w' h3 => ⟨h3.2.1, ih (listed.setIfInBounds j true) a' w' (fun k ok hk hki hu hno => hfree k ok hk hki (hset k hu) hno) (fun k hki hu hkT => hkeep k hki (hset k hu) hkT)
        (fun k hkT => by rw [getD_set_ne' false (fun e : j = k => hjT (by rw [e]; exact hkT))]; exact hun k hkT) (ready_mono hr (Ne.symm hji)) h3.1 (hkeep j hji hjun hjT w' h3.2.1) ?_⟩) h2
      rw [Array.setIfInBounds_comm _ _ hji]
      exact h3.2.2

/-! The side conditions as Bools. -/
def waitsB (md : Region.Mode) (ops : Array Oper) (i : Nat) (T : List Nat) : Bool := T.all fun j => match ops[j]? with
  | some oj => oj.after.any fun e => Region.binds md e && (e.on == i || T.contains e.on)
  | none => true
theorem waits_spec {i : Nat} {T : List Nat} (h : waitsB md ops i T = true) : Waits md ops i T := fun j hj oj ho => by
  have := List.all_eq_true.1 h j hj
  simp only [ho, Array.any_eq_true'] at this
  obtain ⟨e, he, hb⟩ := this
  simp only [Bool.and_eq_true, Bool.or_eq_true, beq_iff_eq, List.contains_iff_mem] at hb
  exact ⟨e, he, hb.1, hb.2⟩
def unlistedB (listed : Array Bool) (T : List Nat) : Bool := T.all fun j => !listed.getD j false
/-- All that may come between, other than i: none of the late ones. -/
def earlyB (ops : Array Oper) (listed : Array Bool) (i : Nat) (T Late : List Nat) : Bool := (List.range ops.size).all fun j => j == i || listed.getD j true || T.contains j || !Late.contains j

/-- Each operation leaves S0 true, but for the late ones. -/
def lateS (S0 : World → Prop) (Late : List Nat) : Nat → World → Prop := fun j w => j ∈ Late ∨ S0 w
theorem AnyK.take {S0 : World → Prop} {Late T : List Nat} {i : Nat} {oi : Oper} {v : Value} {fuel : Nat} {listed : Array Bool} {a : Act} {w : World} (hi : ops[i]? = some oi)
    (hs : Region.noSelect ops = true) (hf : Region.free md ops listed i = true) (hr : (Region.ready md ops listed).contains i = true) (hw : waitsB md ops i T = true) (hu : unlistedB listed T = true) (he : earlyB ops listed i T Late = true) (hsz : ops.size = listed.size)
    (hQ : ∀ c a w, Q (.panic c) (a.put oi.dst v) w → Q (.panic c) a w) (hy : YieldsIf P ops S0 oi v a) (hS : S0 w)
    (h : AnyK P md ops Q (lateS S0 Late) fuel (listed.setIfInBounds i true) (a.put oi.dst v) w) : AnyK P md ops Q (lateS S0 Late) (fuel + 1) listed a w :=
  AnyK.first hi (Region.noSelect_spec hs) hQ (waits_spec hw) (fun w h => .inr h) fuel listed a w (Region.free_spec hi hf) (fun j hji hun hjT w hSj => by
      rcases hSj with hL | hS
      · have hj : j < ops.size := by
          rw [hsz]
          rcases Nat.lt_or_ge j listed.size with h' | h'
          · exact h'
          · simp [Array.getElem?_eq_none h'] at hun
        have := List.all_eq_true.1 he j (List.mem_range.2 hj)
        simp [hji, hun, hjT, hL] at this
      · exact hS) (fun j hj => by
      have := List.all_eq_true.1 hu j hj
      simpa using this) (by simpa using hr) hy hS h
/-- The one that may come up. -/
theorem AnyK.one {S0 : World → Prop} {Late : List Nat} {i : Nat} {oi : Oper} {fuel : Nat} {listed : Array Bool} {a : Act} {w : World} (hr : Region.ready md ops listed = [i]) (hi : ops[i]? = some oi)
    (h : ∀ K' : Act → World → Prop, Shut (∀ a w, lateS S0 Late i w → AnyK P md ops Q (lateS S0 Late) fuel (listed.setIfInBounds i true) a w → K' a w) → if Region.wanted oi (yielded ops a.tmps) = true then Oper.wp P oi a w K' Q else K' (a.put oi.dst undef) w) :
    AnyK P md ops Q (lateS S0 Late) (fuel + 1) listed a w := by
  refine ⟨fun h0 => (by rw [hr] at h0; cases h0), fun j hj => ?_⟩
  rw [hr] at hj
  obtain rfl := List.mem_singleton.1 hj
  exact wpOp_step hi (fun K' hK => h K' (fun a w h1 h2 => hK a w ⟨h1, h2⟩))
/-- One of two. -/
theorem AnyK.two {S0 : World → Prop} {Late : List Nat} {i j : Nat} {oi oj : Oper} {fuel : Nat} {listed : Array Bool} {a : Act} {w : World} (hr : Region.ready md ops listed = [i, j]) (hi : ops[i]? = some oi) (hj : ops[j]? = some oj)
    (h : ∀ K' : Act → World → Prop, Shut (∀ a w, lateS S0 Late i w → AnyK P md ops Q (lateS S0 Late) fuel (listed.setIfInBounds i true) a w → K' a w) → if Region.wanted oi (yielded ops a.tmps) = true then Oper.wp P oi a w K' Q else K' (a.put oi.dst undef) w)
    (h' : ∀ K' : Act → World → Prop, Shut (∀ a w, lateS S0 Late j w → AnyK P md ops Q (lateS S0 Late) fuel (listed.setIfInBounds j true) a w → K' a w) → if Region.wanted oj (yielded ops a.tmps) = true then Oper.wp P oj a w K' Q else K' (a.put oj.dst undef) w) :
    AnyK P md ops Q (lateS S0 Late) (fuel + 1) listed a w := by
  refine ⟨fun h0 => (by rw [hr] at h0; cases h0), fun k hk => ?_⟩
  rw [hr] at hk
  rcases List.mem_cons.1 hk with rfl | hk
  · exact wpOp_step hi (fun K' hK => h K' (fun a w h1 h2 => hK a w ⟨h1, h2⟩))
  · obtain rfl := List.mem_singleton.1 hk
    exact wpOp_step hj (fun K' hK => h' K' (fun a w h1 h2 => hK a w ⟨h1, h2⟩))
theorem AnyK.done {S : Nat → World → Prop} {listed : Array Bool} {a : Act} {w : World} (hr : Region.ready md ops listed = []) (h : Q .normal a w) : ∀ fuel, AnyK P md ops Q S fuel listed a w
  | 0 => ⟨hr, h⟩
  | _ + 1 => ⟨fun _ => h, by rw [hr]; simp⟩
/-- The beginning. -/
theorem AnyK.start {S : Nat → World → Prop} {id : Nat} {a : Act} {w : World} (hm : P.follows .mixedOrders = true) (h : AnyK P .any ops Q S ops.size (Array.replicate ops.size false) a w.drew) : (Code.region id ops true).wp P Q a w :=
  wp_region_any hm (any_of_K _ _ _ _ h)
end
end Go.Proofs.Ytgicpialopccpaa
