/- How many noughts a picture wants. -/
import Derived.Test.YtoihfamiclbffaaJourB
namespace Go.Proofs.Ytoihfamiclbffaa
open Go.RowKit

theorem and511 (n k : Nat) (hn : n ≤ 1000000) (hk : k = (512 - n % 512) % 512) : Go.bits .and .i64 (-(n : Int)) 511 = (k : Int) := by
  unfold Go.bits
  rw [IntKind.wrap_i64]
  show ((((BitVec.ofInt 64 (-(n : Int))) &&& (BitVec.ofInt 64 511)).toNat : Int) + _) % _ - _ = _
  have e5 : BitVec.ofInt 64 511 = BitVec.ofNat 64 511 := rfl
  rw [e5, BitVec.toNat_and, BitVec.toNat_ofInt, BitVec.toNat_ofNat]
  have h2 : (511 : Nat) % 2 ^ 64 = 2 ^ 9 - 1 := by omega
  rw [h2, Nat.and_two_pow_sub_one_eq_mod]
  omega

/-- 'append(p, make([]byte, k)...)', p the call's own, not nil. -/
theorem wpList_append_zeros {w : World} {ops : Array Oper} {rest : List Oper} {o : Oper} {a : Act} {Q : Exit → Act → World → Prop} (hgd : o.guard = none) (s x : Operand)
    (ho : o.op = .call { callee := .builtin .append, args := #[s, x], argTypes := #[33, 3] })
    (base g n cap : Nat) (l : List UInt8) (hs : a.eval s = .slice (some ⟨g, 0, none⟩) n cap) (hown : OwnsB w base (.slice (some ⟨g, 0, none⟩) n cap) n l) (k : Nat) (hx : a.eval x = .int .i64 (k : Int)) (hk : n + k ≤ 1000000) (hbase : base ≤ w.heap.size)
    (h : ∀ g' cap' w', OwnsB w' base (.slice (some ⟨g', 0, none⟩) (n + k) cap') (n + k) (l ++ List.replicate k 0) → w.grownBy w' (some g) → wpList Try.prog ops Q rest (a.put o.dst (.slice (some ⟨g', 0, none⟩) (n + k) cap')) w') : wpList Try.prog ops Q (o :: rest) a w := by
  refine wpList_plain hgd fun K hK => ?_
  obtain ⟨g', cap', w', hrun, h2, h3, _⟩ := run_append_zeros w base g n cap l hown k hk hbase o.type
  unfold Oper.wp
  simp [execOp, ho, resolve, invoke, builtin, hs, hx, hrun, Result.andThen]
  exact hK _ _ (h g' cap' w' h2 h3)
end Go.Proofs.Ytoihfamiclbffaa
