/- Open, of any sectors on a calm disk; and what ref04's Kept says of them. -/
import Derived.Test.YtnekelndcpmonaaMg15
import Derived.Test.YtnekelndcpmonaaRefL
set_option linter.all false
namespace Go.Proofs.Ytnekelndcpmonaa
set_option linter.unusedVariables false

theorem oneB_le {s b : List UInt8} {n k : Nat} (h : oneB s n = some (b, k)) : b.length ≤ s.length := by
  unfold oneB at h
  split at h
  · cases h
  · split at h
    · cases h
    · split at h
      · cases h
      · simp only [Option.some.injEq, Prod.mk.injEq] at h
        rw [← h.1, List.length_take, List.length_drop]
        omega
theorem replL_le (s : List UInt8) : ∀ (f u n : Nat) (acc : List (List UInt8)) (b : List UInt8), b ∈ (replL s f u n acc).1 → b ∈ acc ∨ b.length ≤ s.length
  | 0, u, n, acc, b, h => .inl h
  | f + 1, u, n, acc, b, h => by
    rw [replL] at h
    cases ho : oneB (s.drop (512 * u)) n with
    | none => rw [ho] at h; exact .inl h
    | some x =>
      obtain ⟨c, k⟩ := x
      rw [ho] at h
      rcases replL_le s f (u + k) (n + 1) (acc ++ [c]) b h with h | h
      · rcases List.mem_append.1 h with h | h
        · exact .inl h
        · have e : b = c := by simpa using h
          have := oneB_le ho
          rw [List.length_drop] at this
          exact .inr (by rw [e]; omega)
      · exact .inr h
theorem replB_le {s : List UInt8} {l : List (List UInt8)} {n u : Nat} (h : replB s = some (l, n, u)) : ∀ b ∈ l, b.length ≤ s.length := by
  unfold replB at h
  split at h
  · cases h
  · simp only [Option.some.injEq] at h
    intro b hb
    rcases replL_le s _ _ _ _ b (by rw [h]; exact hb) with h | h
    · cases h
    · exact h
theorem pickS_le {h is : Int} {c B : Nat} {th : List UInt8} {l : List (List UInt8)} (h0 : th.length ≤ B) (h1 : ∀ b ∈ l, b.length ≤ B) : (pickS h is c th l).2.2.length ≤ B := by
  cases l with
  | nil => exact h0
  | cons x l =>
    by_cases hc : 8 ≤ x.length ∧ numL (x.take 8) ≤ lastN ∧ (is < 0 ∨ c < numL (x.take 8))
    · rw [pick_take hc.1 hc.2.1 hc.2.2]
      have := h1 x (List.mem_cons_self ..)
      show (x.drop 8).length ≤ B
      rw [List.length_drop]
      omega
    · rw [pick_not hc]; exact h0
theorem pick2_le {B : Nat} {l0 l1 : List (List UInt8)} (h0 : ∀ b ∈ l0, b.length ≤ B) (h1 : ∀ b ∈ l1, b.length ≤ B) : (pick2 l0 l1).2.2.length ≤ B :=
  pickS_le (pickS_le (by simp) h0) h1
theorem sopn_any {D : Dk} {n k z : Nat} {a0 a1 : List UInt8} (c : Calm D n k) (A0 : Area D 0 z a0) (A1 : Area D z z a1) (hz : 2 ≤ z) :
    (∃ D', sopnJ D z = .err 2 D' ∧ keptO (halfV (replB a0)) (halfV (replB a1)) = ([], 0, -1, false)) ∨
    (∃ D' j0 j1 x cc, sopnJ D z = .ok D' j0 j1 x ∧ keptO (halfV (replB a0)) (halfV (replB a1)) = (x.2.2, cc, x.1, true) ∧ (x.1 = -1 ∨ x.1 = 0 ∨ x.1 = 1) ∧ x.2.2.length ≤ 512 * z) := by
  cases r0 : replB a0 with
  | none =>
    obtain ⟨D1, h, -⟩ := open_none c A0 hz r0
    exact .inl ⟨D1, sopn_err0 h, kept_none0⟩
  | some X =>
    obtain ⟨l0, n0, u0⟩ := X
    obtain ⟨D1, p1, p2, -⟩ := open_some c A0 hz r0
    cases r1 : replB a1 with
    | none =>
      obtain ⟨D2, h, -⟩ := open_none (p2.calm c) (A1.same p2) hz r1
      exact .inl ⟨D2, sopn_err1 p1 h, kept_none1⟩
    | some Y =>
      obtain ⟨l1, n1, u1⟩ := Y
      obtain ⟨D2, q1, q2, -⟩ := open_some (p2.calm c) (A1.same p2) hz r1
      obtain ⟨cc, e, h⟩ := kept_pick l0 l1 n0 u0 n1 u1
      exact .inr ⟨D2, _, _, _, cc, sopn_ok p1 q1, e, h, pick2_le (fun b hb => by have := replB_le r0 b hb; rw [A0.len] at this; exact this) (fun b hb => by have := replB_le r1 b hb; rw [A1.len] at this; exact this)⟩
end Go.Proofs.Ytnekelndcpmonaa
