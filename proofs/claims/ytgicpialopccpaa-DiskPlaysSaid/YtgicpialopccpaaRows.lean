/-
  No cell of these rows narrows 'for every input' (looked for: loops, veiled, ifaces, maps, wideKeys, modest, calm, conditions, laid).
  DERIVED. THE GIVEN ROWS OF THIS SEAT. 7 by the template 'for every input the law returns true; each argument reads behind the call as it read before'; 0 by the template 'total and deterministic' (their statements: YtgicpialopccpaaTotals.lean).
  GIVEN WITH THE SEED: the statements are not yours to turn. If you find one false, say at which input.
  Laid BY PROGRAM, IN A SANDBOX (cutbox-rows.mjs): the forced cells as the released guide's own fill.sh prints them over the translation 416fa2c3d16900ea… (all of the seat's roots in one cut). By AI agents, Wed Nov 11 2026. No macro, syntax, notation, axiom, sorry.
-/
import Derived.Test.YtgicpialopccpaaChecked
import GoSem.Claim
import GoSem.ClaimJoined
import GoSem.ClaimMapViews
import Derived.JoinedTies
import Derived.KernelRfl
namespace Go.Proofs.Ytgicpialopccpaa
/- THE CELL 'sum', in the pinned program and in every row, IS THE sha256 OF THE DUMP (.gsa) THAT YtgicpialopccpaaProg.lean LOADS. Nothing in Lean hashes anything: it is a label: what it is worth is what the hold of that sum in a sandbox is worth. -/
noncomputable def Try.pinned : Pinned := { name := "ytgicpialopccpaa", sum := "416fa2c3d16900ead01df7bcd50d4343d9afd33440fa38bd33cbde00fb689191", checked := Try.checked }
namespace Rows
def none {H : Type} : Left H := { results := [], args := [] }

/-- 'swingbridgelaw01.DiskArgs': WHATEVER THE INPUT: true; the input reads as it did. -/
def diskArgsSpec : ChangeSpec := { name := "diskArgs", fn := fun _ => fun
  | [d1, d2, d3, d4] => { results := [.lit (.bool true)], args := [d1, d2, d3, d4] }
  | _ => none }
def diskArgsRow : OpenClaim := { program := "ytgicpialopccpaa", sum := "416fa2c3d16900ead01df7bcd50d4343d9afd33440fa38bd33cbde00fb689191", func := "swingbridge/swingbridgelaw01.DiskArgs", spec := "diskArgs", unfollowed := true, recurses := true, apart := false }
def DiskArgsSaid : Prop := diskArgsRow.holds Try.pinned (OpenSpec.ofChange diskArgsSpec)

/-- ITS FALSE NEIGHBOUR: 'it returns false'. Refute it at one input. -/
def diskArgsWrong : ChangeSpec := { name := "diskArgs", fn := fun _ => fun
  | [d1, d2, d3, d4] => { results := [.lit (.bool false)], args := [d1, d2, d3, d4] }
  | _ => none }
def DiskArgsWrongFalsely : Prop := diskArgsRow.holds Try.pinned (OpenSpec.ofChange diskArgsWrong)

/-- 'swingbridgelaw01.DiskKeeps': WHATEVER THE INPUT: true; the input reads as it did. -/
def diskKeepsSpec : ChangeSpec := { name := "diskKeeps", fn := fun _ => fun
  | [d1, d2, d3, d4] => { results := [.lit (.bool true)], args := [d1, d2, d3, d4] }
  | _ => none }
def diskKeepsRow : OpenClaim := { program := "ytgicpialopccpaa", sum := "416fa2c3d16900ead01df7bcd50d4343d9afd33440fa38bd33cbde00fb689191", func := "swingbridge/swingbridgelaw01.DiskKeeps", spec := "diskKeeps", unfollowed := true, recurses := true, apart := false }
def DiskKeepsSaid : Prop := diskKeepsRow.holds Try.pinned (OpenSpec.ofChange diskKeepsSpec)

/-- ITS FALSE NEIGHBOUR: 'it returns false'. Refute it at one input. -/
def diskKeepsWrong : ChangeSpec := { name := "diskKeeps", fn := fun _ => fun
  | [d1, d2, d3, d4] => { results := [.lit (.bool false)], args := [d1, d2, d3, d4] }
  | _ => none }
def DiskKeepsWrongFalsely : Prop := diskKeepsRow.holds Try.pinned (OpenSpec.ofChange diskKeepsWrong)

/-- 'swingbridgelaw01.DiskApart': WHATEVER THE INPUT: true; the input reads as it did. -/
def diskApartSpec : ChangeSpec := { name := "diskApart", fn := fun _ => fun
  | [d1, d2] => { results := [.lit (.bool true)], args := [d1, d2] }
  | _ => none }
def diskApartRow : OpenClaim := { program := "ytgicpialopccpaa", sum := "416fa2c3d16900ead01df7bcd50d4343d9afd33440fa38bd33cbde00fb689191", func := "swingbridge/swingbridgelaw01.DiskApart", spec := "diskApart", unfollowed := true, recurses := true, apart := false }
def DiskApartSaid : Prop := diskApartRow.holds Try.pinned (OpenSpec.ofChange diskApartSpec)

/-- ITS FALSE NEIGHBOUR: 'it returns false'. Refute it at one input. -/
def diskApartWrong : ChangeSpec := { name := "diskApart", fn := fun _ => fun
  | [d1, d2] => { results := [.lit (.bool false)], args := [d1, d2] }
  | _ => none }
def DiskApartWrongFalsely : Prop := diskApartRow.holds Try.pinned (OpenSpec.ofChange diskApartWrong)

/-- 'swingbridgelaw01.DiskOrder': WHATEVER THE INPUT: true; the input reads as it did. -/
def diskOrderSpec : ChangeSpec := { name := "diskOrder", fn := fun _ => fun
  | [d1, d2, d3] => { results := [.lit (.bool true)], args := [d1, d2, d3] }
  | _ => none }
def diskOrderRow : OpenClaim := { program := "ytgicpialopccpaa", sum := "416fa2c3d16900ead01df7bcd50d4343d9afd33440fa38bd33cbde00fb689191", func := "swingbridge/swingbridgelaw01.DiskOrder", spec := "diskOrder", unfollowed := true, recurses := true, apart := false }
def DiskOrderSaid : Prop := diskOrderRow.holds Try.pinned (OpenSpec.ofChange diskOrderSpec)

/-- ITS FALSE NEIGHBOUR: 'it returns false'. Refute it at one input. -/
def diskOrderWrong : ChangeSpec := { name := "diskOrder", fn := fun _ => fun
  | [d1, d2, d3] => { results := [.lit (.bool false)], args := [d1, d2, d3] }
  | _ => none }
def DiskOrderWrongFalsely : Prop := diskOrderRow.holds Try.pinned (OpenSpec.ofChange diskOrderWrong)

/-- 'swingbridgelaw01.DiskTwice': WHATEVER THE INPUT: true; the input reads as it did. -/
def diskTwiceSpec : ChangeSpec := { name := "diskTwice", fn := fun _ => fun
  | [d1, d2, d3, d4] => { results := [.lit (.bool true)], args := [d1, d2, d3, d4] }
  | _ => none }
def diskTwiceRow : OpenClaim := { program := "ytgicpialopccpaa", sum := "416fa2c3d16900ead01df7bcd50d4343d9afd33440fa38bd33cbde00fb689191", func := "swingbridge/swingbridgelaw01.DiskTwice", spec := "diskTwice", unfollowed := true, recurses := true, apart := false }
def DiskTwiceSaid : Prop := diskTwiceRow.holds Try.pinned (OpenSpec.ofChange diskTwiceSpec)

/-- ITS FALSE NEIGHBOUR: 'it returns false'. Refute it at one input. -/
def diskTwiceWrong : ChangeSpec := { name := "diskTwice", fn := fun _ => fun
  | [d1, d2, d3, d4] => { results := [.lit (.bool false)], args := [d1, d2, d3, d4] }
  | _ => none }
def DiskTwiceWrongFalsely : Prop := diskTwiceRow.holds Try.pinned (OpenSpec.ofChange diskTwiceWrong)

/-- 'swingbridgelaw01.DiskPlays': WHATEVER THE INPUT: true; the input reads as it did. -/
def diskPlaysSpec : ChangeSpec := { name := "diskPlays", fn := fun _ => fun
  | [d1, d2] => { results := [.lit (.bool true)], args := [d1, d2] }
  | _ => none }
def diskPlaysRow : OpenClaim := { program := "ytgicpialopccpaa", sum := "416fa2c3d16900ead01df7bcd50d4343d9afd33440fa38bd33cbde00fb689191", func := "swingbridge/swingbridgelaw01.DiskPlays", spec := "diskPlays", unfollowed := true, recurses := true, apart := false }
def DiskPlaysSaid : Prop := diskPlaysRow.holds Try.pinned (OpenSpec.ofChange diskPlaysSpec)

/-- ITS FALSE NEIGHBOUR: 'it returns false'. Refute it at one input. -/
def diskPlaysWrong : ChangeSpec := { name := "diskPlays", fn := fun _ => fun
  | [d1, d2] => { results := [.lit (.bool false)], args := [d1, d2] }
  | _ => none }
def DiskPlaysWrongFalsely : Prop := diskPlaysRow.holds Try.pinned (OpenSpec.ofChange diskPlaysWrong)

/-- 'swingbridgelaw01.DiskArms': WHATEVER THE INPUT: true; the input reads as it did. -/
def diskArmsSpec : ChangeSpec := { name := "diskArms", fn := fun _ => fun
  | [d1, d2] => { results := [.lit (.bool true)], args := [d1, d2] }
  | _ => none }
def diskArmsRow : OpenClaim := { program := "ytgicpialopccpaa", sum := "416fa2c3d16900ead01df7bcd50d4343d9afd33440fa38bd33cbde00fb689191", func := "swingbridge/swingbridgelaw01.DiskArms", spec := "diskArms", unfollowed := true, recurses := true, apart := false }
def DiskArmsSaid : Prop := diskArmsRow.holds Try.pinned (OpenSpec.ofChange diskArmsSpec)

/-- ITS FALSE NEIGHBOUR: 'it returns false'. Refute it at one input. -/
def diskArmsWrong : ChangeSpec := { name := "diskArms", fn := fun _ => fun
  | [d1, d2] => { results := [.lit (.bool false)], args := [d1, d2] }
  | _ => none }
def DiskArmsWrongFalsely : Prop := diskArmsRow.holds Try.pinned (OpenSpec.ofChange diskArmsWrong)

/- THE SECOND FORM. 'bulk': how many values and letters a reading holds, each counted each time it is reached (what is shared counts as often as it is met; a slice's spare places count too). A statement '..UptoSaid' is the law's where the arguments, and the package variables that the reading takes, are together of bulk at most 1048576: NARROWER than '..Said'. Prove '..Said' where nothing that the law and all that it calls make is longer than what came in: it says more and counts as full. Else prove '..UptoSaid'. A law counts once. -/
mutual
def uptoBulk {H : Type} : DataW H → Nat
  | .lit (.string bytes) => bytes.length + 1
  | .lit _ => 1
  | .nil => 1
  | .ptr d => uptoBulk d + 1
  | .slice elems spare => uptoBulkAll elems + uptoBulkAll spare + 1
  | .agg parts => uptoBulkAll parts + 1
  | .iface _ d => uptoBulk d + 1
  | .map entries => uptoBulkEntries entries + 1
  | .held _ => 1
def uptoBulkAll {H : Type} : List (DataW H) → Nat
  | [] => 0
  | d :: r => uptoBulk d + uptoBulkAll r
def uptoBulkEntries {H : Type} : List (Lit × DataW H) → Nat
  | [] => 0
  | x :: r => uptoBulkEntry x + uptoBulkEntries r
def uptoBulkEntry {H : Type} : Lit × DataW H → Nat
  | (.string bytes, d) => bytes.length + uptoBulk d + 1
  | (_, d) => uptoBulk d + 1
 end
def uptoSmall : (H : Type) → List (DataW H) → Bool := fun _ ds => decide (uptoBulkAll ds ≤ 1048576)
def OpenSpec.upto (s : _root_.Go.ChangeSpec) : _root_.Go.OpenSpec := { _root_.Go.OpenSpec.ofChange s with cond := some uptoSmall }

/-- 'swingbridgelaw01.DiskArgs', WHERE WHAT IT READS IS OF BULK AT MOST 1048576: true; the input reads as it did. -/
def diskArgsUptoRow : OpenClaim := { program := "ytgicpialopccpaa", sum := "416fa2c3d16900ead01df7bcd50d4343d9afd33440fa38bd33cbde00fb689191", func := "swingbridge/swingbridgelaw01.DiskArgs", spec := "diskArgs", unfollowed := true, recurses := true, apart := false, narrowed := true }
def DiskArgsUptoSaid : Prop := diskArgsUptoRow.holds Try.pinned (OpenSpec.upto diskArgsSpec)

/-- 'swingbridgelaw01.DiskKeeps', WHERE WHAT IT READS IS OF BULK AT MOST 1048576: true; the input reads as it did. -/
def diskKeepsUptoRow : OpenClaim := { program := "ytgicpialopccpaa", sum := "416fa2c3d16900ead01df7bcd50d4343d9afd33440fa38bd33cbde00fb689191", func := "swingbridge/swingbridgelaw01.DiskKeeps", spec := "diskKeeps", unfollowed := true, recurses := true, apart := false, narrowed := true }
def DiskKeepsUptoSaid : Prop := diskKeepsUptoRow.holds Try.pinned (OpenSpec.upto diskKeepsSpec)

/-- 'swingbridgelaw01.DiskApart', WHERE WHAT IT READS IS OF BULK AT MOST 1048576: true; the input reads as it did. -/
def diskApartUptoRow : OpenClaim := { program := "ytgicpialopccpaa", sum := "416fa2c3d16900ead01df7bcd50d4343d9afd33440fa38bd33cbde00fb689191", func := "swingbridge/swingbridgelaw01.DiskApart", spec := "diskApart", unfollowed := true, recurses := true, apart := false, narrowed := true }
def DiskApartUptoSaid : Prop := diskApartUptoRow.holds Try.pinned (OpenSpec.upto diskApartSpec)

/-- 'swingbridgelaw01.DiskOrder', WHERE WHAT IT READS IS OF BULK AT MOST 1048576: true; the input reads as it did. -/
def diskOrderUptoRow : OpenClaim := { program := "ytgicpialopccpaa", sum := "416fa2c3d16900ead01df7bcd50d4343d9afd33440fa38bd33cbde00fb689191", func := "swingbridge/swingbridgelaw01.DiskOrder", spec := "diskOrder", unfollowed := true, recurses := true, apart := false, narrowed := true }
def DiskOrderUptoSaid : Prop := diskOrderUptoRow.holds Try.pinned (OpenSpec.upto diskOrderSpec)

/-- 'swingbridgelaw01.DiskTwice', WHERE WHAT IT READS IS OF BULK AT MOST 1048576: true; the input reads as it did. -/
def diskTwiceUptoRow : OpenClaim := { program := "ytgicpialopccpaa", sum := "416fa2c3d16900ead01df7bcd50d4343d9afd33440fa38bd33cbde00fb689191", func := "swingbridge/swingbridgelaw01.DiskTwice", spec := "diskTwice", unfollowed := true, recurses := true, apart := false, narrowed := true }
def DiskTwiceUptoSaid : Prop := diskTwiceUptoRow.holds Try.pinned (OpenSpec.upto diskTwiceSpec)

/-- 'swingbridgelaw01.DiskPlays', WHERE WHAT IT READS IS OF BULK AT MOST 1048576: true; the input reads as it did. -/
def diskPlaysUptoRow : OpenClaim := { program := "ytgicpialopccpaa", sum := "416fa2c3d16900ead01df7bcd50d4343d9afd33440fa38bd33cbde00fb689191", func := "swingbridge/swingbridgelaw01.DiskPlays", spec := "diskPlays", unfollowed := true, recurses := true, apart := false, narrowed := true }
def DiskPlaysUptoSaid : Prop := diskPlaysUptoRow.holds Try.pinned (OpenSpec.upto diskPlaysSpec)

/-- 'swingbridgelaw01.DiskArms', WHERE WHAT IT READS IS OF BULK AT MOST 1048576: true; the input reads as it did. -/
def diskArmsUptoRow : OpenClaim := { program := "ytgicpialopccpaa", sum := "416fa2c3d16900ead01df7bcd50d4343d9afd33440fa38bd33cbde00fb689191", func := "swingbridge/swingbridgelaw01.DiskArms", spec := "diskArms", unfollowed := true, recurses := true, apart := false, narrowed := true }
def DiskArmsUptoSaid : Prop := diskArmsUptoRow.holds Try.pinned (OpenSpec.upto diskArmsSpec)

end Rows
end Go.Proofs.Ytgicpialopccpaa
