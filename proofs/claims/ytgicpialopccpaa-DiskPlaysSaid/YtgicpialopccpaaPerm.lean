/- Assertions in another order; some of them alone. -/
import Derived.Test.YtgicpialopccpaaSep
namespace Go.Proofs.Ytgicpialopccpaa

theorem SepIn.perm {w : World} {L L' : List Asn} (h : L.Perm L') : ∀ {U : Nat → Prop}, SepIn w L U → SepIn w L' U := by
  induction h with
  | nil => exact fun h => h
  | cons a _ ih => exact fun h => Sep.consI (fun U hu => ih hu) h
  | swap a b l => exact fun h => SepIn.swap h
  | trans _ _ ih1 ih2 => exact fun h => ih2 (ih1 h)
theorem SepIn.less {w : World} : ∀ {A B R : List Asn} {U : Nat → Prop}, SepIn w (A ++ (B ++ R)) U → SepIn w (A ++ R) U
  | [], [], _, _, h => h
  | [], _ :: B, _, _, h => SepIn.less (A := []) (B := B) (SepIn.tail h)
  | _ :: _, _, _, _, h => Sep.consI (fun _ hu => SepIn.less hu) h
def nthL : List Asn → Nat → Asn
  | A :: _, 0 => A
  | _ :: L, i + 1 => nthL L i
  | [], _ => packA []
def dropL : Nat → List Asn → List Asn
  | 0, L => L
  | n + 1, _ :: L => dropL n L
  | _ + 1, [] => []
def geL : Nat → List Asn → Bool
  | 0, _ => true
  | n + 1, _ :: L => geL n L
  | _ + 1, [] => false
def pickL : List Nat → Nat → List Asn → List Asn
  | [], n, L => dropL n L
  | i :: l, n, L => nthL L i :: pickL l n L
theorem pickL_eq : ∀ (l : List Nat) (n : Nat) (L : List Asn), pickL l n L = l.map (nthL L) ++ dropL n L
  | [], _, _ => rfl
  | i :: l, n, L => by rw [pickL, pickL_eq l n L]; rfl
theorem take_nth : ∀ (n : Nat) (L : List Asn), geL n L = true → L = (List.range n).map (nthL L) ++ dropL n L
  | 0, _, _ => rfl
  | n + 1, [], h => by cases h
  | n + 1, A :: L, h => by
    have ih := take_nth n L h
    rw [List.range_succ_eq_map, List.map_cons, List.map_map]
    show A :: L = A :: ((List.range n).map (nthL L) ++ dropL n L)
    rw [← ih]
def checkL (l : List Nat) (n : Nat) : Bool := (l ++ (List.range n).filter (fun i => !l.contains i)).isPerm (List.range n)
/-- Those of the first n, in that order; the rest as it is. -/
theorem Sep.pick {w : World} {L : List Asn} (h : Sep w L) (l : List Nat) (n : Nat) (hc : checkL l n = true) (hg : geL n L = true) : Sep w (pickL l n L) := by
  rw [pickL_eq]
  have hp := List.isPerm_iff.1 hc
  unfold Sep at h
  rw [take_nth n L hg] at h
  have h2 : SepIn w ((l.map (nthL L) ++ ((List.range n).filter (fun i => !l.contains i)).map (nthL L)) ++ dropL n L) (fun _ => True) := by
    refine SepIn.perm ?_ h
    rw [← List.map_append]
    exact (List.Perm.map _ hp.symm).append_right _
  rw [List.append_assoc] at h2
  exact SepIn.less h2
end Go.Proofs.Ytgicpialopccpaa
