/- Journals, as plain data: numbers as bytes, pictures. -/
import Derived.Test.YtoihfamiclbffaaMath
import Derived.Test.YtoihfamiclbffaaDk
namespace Go.Proofs.Ytoihfamiclbffaa

/-- A number as so many bytes, the lowest first. -/
def lowL (n k : Nat) : List UInt8 := (List.range k).map fun i => UInt8.ofNat (n / 256 ^ i)
theorem lowL_len (n k : Nat) : (lowL n k).length = k := by simp [lowL]
theorem lowL_succ (n k : Nat) : lowL n (k + 1) = lowL n k ++ [UInt8.ofNat (n / 256 ^ k)] := by simp [lowL, List.range_succ]
theorem lowL_zero (n : Nat) : lowL n 0 = [] := rfl
/-- The number that bytes tell. -/
def numL : List UInt8 → Nat
  | [] => 0
  | c :: l => c.toNat + 256 * numL l
theorem numL_lt : ∀ l : List UInt8, numL l < 256 ^ l.length
  | [] => by simp [numL]
  | c :: l => by
    have := numL_lt l
    have hc := c.toNat_lt
    rw [numL, List.length_cons, Nat.pow_succ]
    omega
theorem lowL_cons (n k : Nat) : lowL n (k + 1) = UInt8.ofNat n :: lowL (n / 256) k := by
  unfold lowL
  rw [List.range_succ_eq_map, List.map_cons, List.map_map]
  simp only [Nat.pow_zero, Nat.div_one, List.cons.injEq, true_and]
  apply List.map_congr_left
  intro i _
  show UInt8.ofNat (n / 256 ^ (i + 1)) = UInt8.ofNat (n / 256 / 256 ^ i)
  rw [Nat.div_div_eq_div_mul, Nat.pow_succ, Nat.mul_comm]
theorem numL_lowL (k : Nat) : ∀ n, n < 256 ^ k → numL (lowL n k) = n := by
  induction k with
  | zero => intro n h; simp at h; subst h; rfl
  | succ k ih =>
    intro n h
    rw [lowL_cons, numL, ih (n / 256) (by rw [Nat.pow_succ] at h; omega), UInt8.toNat_ofNat']
    omega
/-- Noughts to the sector's end. -/
def padTo (p : List UInt8) : List UInt8 := p ++ List.replicate ((512 - p.length % 512) % 512) 0
theorem padTo_len (p : List UInt8) : (padTo p).length = (p.length + 511) / 512 * 512 := by
  unfold padTo
  rw [List.length_append, List.length_replicate]
  omega
end Go.Proofs.Ytoihfamiclbffaa
