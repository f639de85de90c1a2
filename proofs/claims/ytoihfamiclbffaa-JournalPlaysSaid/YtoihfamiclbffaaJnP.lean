/- Journals, as plain data: what their functions do to a disk. -/
import Derived.Test.YtoihfamiclbffaaDiskQ
import Derived.Test.YtoihfamiclbffaaJourP
namespace Go.Proofs.Ytoihfamiclbffaa
open Go.RowKit

structure Jn where
  from_ : Nat
  size : Nat
  used : Nat
  next : Nat
  broken : Bool

def lastN : Nat := 4611686018427387904
def startN : Nat := 4294967295
def sumN (l : List UInt8) : Nat := (Crc.more 0#32 l).toNat
def preL (n len : Nat) : List UInt8 := lowL n 8 ++ lowL len 4
def headL (n len : Nat) (b : List UInt8) : List UInt8 := preL n len ++ lowL (sumN (preL n len ++ b)) 4
/-- A record's picture. -/
def pic (n len : Nat) (b : List UInt8) : List UInt8 := padTo (headL n len b ++ b)
theorem preL_len (n len : Nat) : (preL n len).length = 12 := by simp [preL, lowL_len]
theorem headL_len (n len : Nat) (b : List UInt8) : (headL n len b).length = 16 := by simp [headL, preL_len, lowL_len]
theorem pic_len (n len : Nat) (b : List UInt8) : (pic n len b).length = (b.length + 527) / 512 * 512 := by unfold pic; rw [padTo_len, List.length_append, headL_len]; congr 1; congr 1; omega
theorem pic_eq (n len : Nat) (b : List UInt8) : pic n len b = headL n len b ++ (b ++ List.replicate ((512 - (headL n len b ++ b).length % 512) % 512) 0) := by unfold pic padTo; rw [List.append_assoc]
theorem pic_head (n len : Nat) (b : List UInt8) : (pic n len b).take 16 = headL n len b := by rw [pic_eq, ← headL_len n len b, List.take_left]
/-- A picture's sectors. -/
def secsOf (p : List UInt8) : List (List UInt8) := (List.range (p.length / 512)).map fun i => (p.drop (512 * i)).take 512
theorem secsOf_len (p : List UInt8) : (secsOf p).length = p.length / 512 := by simp [secsOf]
theorem secsOf_getD (p : List UInt8) (i : Nat) (h : i < p.length / 512) : (secsOf p).getD i [] = (p.drop (512 * i)).take 512 := by simp [secsOf, List.getD, h]

/-- Some sectors are written, one behind another: to the first that fails. -/
def wrs : Dk → Nat → List (List UInt8) → Bool × Dk
  | D, _, [] => (true, D)
  | D, at_, s :: l => if D.fell.down then (false, D.write at_ s) else wrs (D.write at_ s) (at_ + 1) l
def eOf (ok : Bool) : Int := if ok then 0 else 11
def putJ (D : Dk) (j : Jn) (p : List UInt8) : Bool × Dk × Jn :=
  let r := secsOf (p.drop 512)
  let x := wrs D (j.from_ + j.used + 1) r
  if x.1 = false then (false, x.2, j) else
  let y : Bool × Dk := if r.length = 0 then (true, x.2) else (!x.2.fell.down, x.2.barrier)
  if y.1 = false then (false, y.2, j) else
  if y.2.fell.down then (false, y.2.write (j.from_ + j.used) (p.take 512), j)
  else (true, y.2.write (j.from_ + j.used) (p.take 512), { j with used := j.used + r.length + 1, next := j.next + 1 })
def roomJ (j : Jn) : Int := max (-1) (((j.size : Int) - j.used) * 512 - 16)
def doneJ (x : Bool × Dk × Jn) : Int × Dk × Jn := (eOf x.1, x.2.1, { x.2.2 with broken := !x.1 })
def commitJ (D : Dk) (j : Jn) : Int × Dk × Jn := if j.broken then (11, D, j) else doneJ (!D.fell.down, D.barrier, j)
def resetJ (D : Dk) (j : Jn) : Int × Dk × Jn :=
  if j.broken then (11, D, j) else if lastN < j.next then (5, D, j) else doneJ (putJ D { j with used := 0 } (pic j.next startN []))
def appendJ (D : Dk) (j : Jn) (b : List UInt8) : Int × Dk × Jn :=
  if j.broken then (11, D, j) else if roomJ j < b.length ∨ lastN < j.next then (5, D, j) else doneJ (putJ D j (pic j.next b.length b))

/-- Some sectors are read. -/
def rds : Nat → Dk → Nat → List UInt8 → Bool × List UInt8 × Dk
  | 0, D, _, p => (true, p, D)
  | k + 1, D, at_, p => if D.fell.down then (false, p, D.begun) else rds k D.begun (at_ + 1) (p ++ D.begun.now at_)
inductive RecR where
  | err (D : Dk)
  | none (D : Dk)
  | some (b : List UInt8) (D : Dk) (j : Jn)
def recJ (D : Dk) (j : Jn) : RecR :=
  if j.used = j.size ∨ lastN < j.next then .none D else
  if D.fell.down then .err D.begun else
  let p := D.begun.now (j.from_ + j.used)
  let len := numL ((p.drop 8).take 4)
  if numL (p.take 8) ≠ j.next ∨ roomJ j < len then .none D.begun else
  let x := rds ((len + 527) / 512 - 1) D.begun (j.from_ + j.used + 1) p
  if x.1 = false then .err x.2.2 else
  if headL j.next len ((x.2.1.drop 16).take len) ≠ x.2.1.take 16 then .none x.2.2 else
  .some ((x.2.1.drop 16).take len) x.2.2 { j with used := j.used + (len + 527) / 512, next := j.next + 1 }
def opnL : Nat → Dk → Jn → List (List UInt8) → Option (List (List UInt8) × Jn) × Dk
  | 0, D, j, l => (some (l, j), D)
  | f + 1, D, j, l => match recJ D j with
    | .err D' => (none, D')
    | .none D' => (some (l, j), D')
    | .some b D' j' => opnL f D' j' (l ++ [b])
/-- Open: an error's number, or the records and the journal. -/
inductive OpnR where
  | err (e : Int) (D : Dk)
  | ok (l : List (List UInt8)) (D : Dk) (j : Jn)
def openJ (D : Dk) (from_ size : Nat) : OpnR :=
  if D.fell.down then .err 11 D.begun else
  let p := D.begun.now from_
  let n := numL (p.take 8)
  if n < 1 ∨ lastN < n ∨ headL n startN [] ≠ p.take 16 then .err 3 D.begun else
  match opnL size D.begun ⟨from_, size, 1, n + 1, false⟩ [] with
  | (none, D') => .err 11 D'
  | (some (l, j), D') => .ok l D' j
/-- Format. -/
def formatJ (D : Dk) (from_ size : Nat) : Int × Dk × Jn :=
  let x := resetJ D ⟨from_, size, 0, 1, false⟩
  if x.1 ≠ 0 then x else commitJ x.2.1 x.2.2
end Go.Proofs.Ytoihfamiclbffaa
