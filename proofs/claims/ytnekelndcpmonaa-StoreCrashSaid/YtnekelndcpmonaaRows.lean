/-
  No cell of these rows narrows 'for every input' (looked for: loops, veiled, ifaces, maps, wideKeys, modest, calm, conditions, laid).
  DERIVED. THE GIVEN ROWS OF THIS SEAT. 7 by the template 'for every input the law returns true; each argument reads behind the call as it read before'; 0 by the template 'total and deterministic' (their statements: YtnekelndcpmonaaTotals.lean).
  GIVEN WITH THE SEED: the statements are not yours to turn. If you find one false, say at which input.
  Laid BY PROGRAM, IN A SANDBOX (cutbox-rows.mjs): the forced cells as the released guide's own fill.sh prints them over the translation 80b93aeaeb8ef9a3… (all of the seat's roots in one cut). By AI agents, Wed Nov 11 2026. No macro, syntax, notation, axiom, sorry.
-/
import Derived.Test.YtnekelndcpmonaaChecked
import GoSem.Claim
import GoSem.ClaimJoined
import GoSem.ClaimMapViews
import Derived.JoinedTies
import Derived.KernelRfl
namespace Go.Proofs.Ytnekelndcpmonaa
/- THE CELL 'sum', in the pinned program and in every row, IS THE sha256 OF THE DUMP (.gsa) THAT YtnekelndcpmonaaProg.lean LOADS. Nothing in Lean hashes anything: it is a label: what it is worth is what the hold of that sum in a sandbox is worth. -/
noncomputable def Try.pinned : Pinned := { name := "ytnekelndcpmonaa", sum := "80b93aeaeb8ef9a3acb302bb22ddd421a9b9e4ea49d6deaee091f5da8edb8e07", checked := Try.checked }
namespace Rows
def none {H : Type} : Left H := { results := [], args := [] }

/-- 'swingbridgelaw04.StorePlays': WHATEVER THE INPUT: true; the input reads as it did. -/
def storePlaysSpec : ChangeSpec := { name := "storePlays", fn := fun _ => fun
  | [d1, d2] => { results := [.lit (.bool true)], args := [d1, d2] }
  | _ => none }
def storePlaysRow : OpenClaim := { program := "ytnekelndcpmonaa", sum := "80b93aeaeb8ef9a3acb302bb22ddd421a9b9e4ea49d6deaee091f5da8edb8e07", func := "swingbridge/swingbridgelaw04.StorePlays", spec := "storePlays", unfollowed := true, recurses := true, apart := false }
def StorePlaysSaid : Prop := storePlaysRow.holds Try.pinned (OpenSpec.ofChange storePlaysSpec)

/-- ITS FALSE NEIGHBOUR: 'it returns false'. Refute it at one input. -/
def storePlaysWrong : ChangeSpec := { name := "storePlays", fn := fun _ => fun
  | [d1, d2] => { results := [.lit (.bool false)], args := [d1, d2] }
  | _ => none }
def StorePlaysWrongFalsely : Prop := storePlaysRow.holds Try.pinned (OpenSpec.ofChange storePlaysWrong)

/-- 'swingbridgelaw04.StoreReads': WHATEVER THE INPUT: true; the input reads as it did. -/
def storeReadsSpec : ChangeSpec := { name := "storeReads", fn := fun _ => fun
  | [d1, d2, d3, d4, d5, d6] => { results := [.lit (.bool true)], args := [d1, d2, d3, d4, d5, d6] }
  | _ => none }
def storeReadsRow : OpenClaim := { program := "ytnekelndcpmonaa", sum := "80b93aeaeb8ef9a3acb302bb22ddd421a9b9e4ea49d6deaee091f5da8edb8e07", func := "swingbridge/swingbridgelaw04.StoreReads", spec := "storeReads", unfollowed := true, recurses := true, apart := false }
def StoreReadsSaid : Prop := storeReadsRow.holds Try.pinned (OpenSpec.ofChange storeReadsSpec)

/-- ITS FALSE NEIGHBOUR: 'it returns false'. Refute it at one input. -/
def storeReadsWrong : ChangeSpec := { name := "storeReads", fn := fun _ => fun
  | [d1, d2, d3, d4, d5, d6] => { results := [.lit (.bool false)], args := [d1, d2, d3, d4, d5, d6] }
  | _ => none }
def StoreReadsWrongFalsely : Prop := storeReadsRow.holds Try.pinned (OpenSpec.ofChange storeReadsWrong)

/-- 'swingbridgelaw04.StoreSmall': WHATEVER THE INPUT: true; the input reads as it did. -/
def storeSmallSpec : ChangeSpec := { name := "storeSmall", fn := fun _ => fun
  | [d] => { results := [.lit (.bool true)], args := [d] }
  | _ => none }
def storeSmallRow : OpenClaim := { program := "ytnekelndcpmonaa", sum := "80b93aeaeb8ef9a3acb302bb22ddd421a9b9e4ea49d6deaee091f5da8edb8e07", func := "swingbridge/swingbridgelaw04.StoreSmall", spec := "storeSmall", unfollowed := true, recurses := true, apart := false }
def StoreSmallSaid : Prop := storeSmallRow.holds Try.pinned (OpenSpec.ofChange storeSmallSpec)

/-- ITS FALSE NEIGHBOUR: 'it returns false'. Refute it at one input. -/
def storeSmallWrong : ChangeSpec := { name := "storeSmall", fn := fun _ => fun
  | [d] => { results := [.lit (.bool false)], args := [d] }
  | _ => none }
def StoreSmallWrongFalsely : Prop := storeSmallRow.holds Try.pinned (OpenSpec.ofChange storeSmallWrong)

/-- 'swingbridgelaw04.StoreHalves': WHATEVER THE INPUT: true; the input reads as it did. -/
def storeHalvesSpec : ChangeSpec := { name := "storeHalves", fn := fun _ => fun
  | [d1, d2] => { results := [.lit (.bool true)], args := [d1, d2] }
  | _ => none }
def storeHalvesRow : OpenClaim := { program := "ytnekelndcpmonaa", sum := "80b93aeaeb8ef9a3acb302bb22ddd421a9b9e4ea49d6deaee091f5da8edb8e07", func := "swingbridge/swingbridgelaw04.StoreHalves", spec := "storeHalves", unfollowed := true, recurses := true, apart := false }
def StoreHalvesSaid : Prop := storeHalvesRow.holds Try.pinned (OpenSpec.ofChange storeHalvesSpec)

/-- ITS FALSE NEIGHBOUR: 'it returns false'. Refute it at one input. -/
def storeHalvesWrong : ChangeSpec := { name := "storeHalves", fn := fun _ => fun
  | [d1, d2] => { results := [.lit (.bool false)], args := [d1, d2] }
  | _ => none }
def StoreHalvesWrongFalsely : Prop := storeHalvesRow.holds Try.pinned (OpenSpec.ofChange storeHalvesWrong)

/-- 'swingbridgelaw04.StoreOwn': WHATEVER THE INPUT: true; the input reads as it did. -/
def storeOwnSpec : ChangeSpec := { name := "storeOwn", fn := fun _ => fun
  | [d] => { results := [.lit (.bool true)], args := [d] }
  | _ => none }
def storeOwnRow : OpenClaim := { program := "ytnekelndcpmonaa", sum := "80b93aeaeb8ef9a3acb302bb22ddd421a9b9e4ea49d6deaee091f5da8edb8e07", func := "swingbridge/swingbridgelaw04.StoreOwn", spec := "storeOwn", unfollowed := true, recurses := true, apart := false }
def StoreOwnSaid : Prop := storeOwnRow.holds Try.pinned (OpenSpec.ofChange storeOwnSpec)

/-- ITS FALSE NEIGHBOUR: 'it returns false'. Refute it at one input. -/
def storeOwnWrong : ChangeSpec := { name := "storeOwn", fn := fun _ => fun
  | [d] => { results := [.lit (.bool false)], args := [d] }
  | _ => none }
def StoreOwnWrongFalsely : Prop := storeOwnRow.holds Try.pinned (OpenSpec.ofChange storeOwnWrong)

/-- 'swingbridgelaw04.StoreAgain': WHATEVER THE INPUT: true; the input reads as it did. -/
def storeAgainSpec : ChangeSpec := { name := "storeAgain", fn := fun _ => fun
  | [d1, d2] => { results := [.lit (.bool true)], args := [d1, d2] }
  | _ => none }
def storeAgainRow : OpenClaim := { program := "ytnekelndcpmonaa", sum := "80b93aeaeb8ef9a3acb302bb22ddd421a9b9e4ea49d6deaee091f5da8edb8e07", func := "swingbridge/swingbridgelaw04.StoreAgain", spec := "storeAgain", unfollowed := true, recurses := true, apart := false }
def StoreAgainSaid : Prop := storeAgainRow.holds Try.pinned (OpenSpec.ofChange storeAgainSpec)

/-- ITS FALSE NEIGHBOUR: 'it returns false'. Refute it at one input. -/
def storeAgainWrong : ChangeSpec := { name := "storeAgain", fn := fun _ => fun
  | [d1, d2] => { results := [.lit (.bool false)], args := [d1, d2] }
  | _ => none }
def StoreAgainWrongFalsely : Prop := storeAgainRow.holds Try.pinned (OpenSpec.ofChange storeAgainWrong)

/-- 'swingbridgelaw04.StoreCrash': WHATEVER THE INPUT: true; the input reads as it did. -/
def storeCrashSpec : ChangeSpec := { name := "storeCrash", fn := fun _ => fun
  | [d1, d2, d3] => { results := [.lit (.bool true)], args := [d1, d2, d3] }
  | _ => none }
def storeCrashRow : OpenClaim := { program := "ytnekelndcpmonaa", sum := "80b93aeaeb8ef9a3acb302bb22ddd421a9b9e4ea49d6deaee091f5da8edb8e07", func := "swingbridge/swingbridgelaw04.StoreCrash", spec := "storeCrash", unfollowed := true, recurses := true, apart := false }
def StoreCrashSaid : Prop := storeCrashRow.holds Try.pinned (OpenSpec.ofChange storeCrashSpec)

/-- ITS FALSE NEIGHBOUR: 'it returns false'. Refute it at one input. -/
def storeCrashWrong : ChangeSpec := { name := "storeCrash", fn := fun _ => fun
  | [d1, d2, d3] => { results := [.lit (.bool false)], args := [d1, d2, d3] }
  | _ => none }
def StoreCrashWrongFalsely : Prop := storeCrashRow.holds Try.pinned (OpenSpec.ofChange storeCrashWrong)

/- THE SECOND FORM. 'bulk': how many values and letters a reading holds, each counted each time it is reached (what is shared counts as often as it is met; a slice's spare places count too). A statement '..UptoSaid' is the law's where the arguments, and the package variables that the reading takes, are together of bulk at most 1048576: NARROWER than '..Said'. Prove '..Said' where nothing that the law and all that it calls make is longer than what came in: it says more and counts as full. Else prove '..UptoSaid'. A law counts once. -/
mutual
def uptoBulk {H : Type} : DataW H → Nat
  | .lit (.string bytes) => bytes.length + 1
  | .lit _ => 1
  | .nil => 1
  | .ptr d => uptoBulk d + 1
  | .slice elems spare => uptoBulkAll elems + uptoBulkAll spare + 1
  | .agg parts => uptoBulkAll parts + 1
  | .iface _ d => uptoBulk d + 1
  | .map entries => uptoBulkEntries entries + 1
  | .held _ => 1
def uptoBulkAll {H : Type} : List (DataW H) → Nat
  | [] => 0
  | d :: r => uptoBulk d + uptoBulkAll r
def uptoBulkEntries {H : Type} : List (Lit × DataW H) → Nat
  | [] => 0
  | x :: r => uptoBulkEntry x + uptoBulkEntries r
def uptoBulkEntry {H : Type} : Lit × DataW H → Nat
  | (.string bytes, d) => bytes.length + uptoBulk d + 1
  | (_, d) => uptoBulk d + 1
 end
def uptoSmall : (H : Type) → List (DataW H) → Bool := fun _ ds => decide (uptoBulkAll ds ≤ 1048576)
def OpenSpec.upto (s : _root_.Go.ChangeSpec) : _root_.Go.OpenSpec := { _root_.Go.OpenSpec.ofChange s with cond := some uptoSmall }

/-- 'swingbridgelaw04.StorePlays', WHERE WHAT IT READS IS OF BULK AT MOST 1048576: true; the input reads as it did. -/
def storePlaysUptoRow : OpenClaim := { program := "ytnekelndcpmonaa", sum := "80b93aeaeb8ef9a3acb302bb22ddd421a9b9e4ea49d6deaee091f5da8edb8e07", func := "swingbridge/swingbridgelaw04.StorePlays", spec := "storePlays", unfollowed := true, recurses := true, apart := false, narrowed := true }
def StorePlaysUptoSaid : Prop := storePlaysUptoRow.holds Try.pinned (OpenSpec.upto storePlaysSpec)

/-- 'swingbridgelaw04.StoreReads', WHERE WHAT IT READS IS OF BULK AT MOST 1048576: true; the input reads as it did. -/
def storeReadsUptoRow : OpenClaim := { program := "ytnekelndcpmonaa", sum := "80b93aeaeb8ef9a3acb302bb22ddd421a9b9e4ea49d6deaee091f5da8edb8e07", func := "swingbridge/swingbridgelaw04.StoreReads", spec := "storeReads", unfollowed := true, recurses := true, apart := false, narrowed := true }
def StoreReadsUptoSaid : Prop := storeReadsUptoRow.holds Try.pinned (OpenSpec.upto storeReadsSpec)

/-- 'swingbridgelaw04.StoreSmall', WHERE WHAT IT READS IS OF BULK AT MOST 1048576: true; the input reads as it did. -/
def storeSmallUptoRow : OpenClaim := { program := "ytnekelndcpmonaa", sum := "80b93aeaeb8ef9a3acb302bb22ddd421a9b9e4ea49d6deaee091f5da8edb8e07", func := "swingbridge/swingbridgelaw04.StoreSmall", spec := "storeSmall", unfollowed := true, recurses := true, apart := false, narrowed := true }
def StoreSmallUptoSaid : Prop := storeSmallUptoRow.holds Try.pinned (OpenSpec.upto storeSmallSpec)

/-- 'swingbridgelaw04.StoreHalves', WHERE WHAT IT READS IS OF BULK AT MOST 1048576: true; the input reads as it did. -/
def storeHalvesUptoRow : OpenClaim := { program := "ytnekelndcpmonaa", sum := "80b93aeaeb8ef9a3acb302bb22ddd421a9b9e4ea49d6deaee091f5da8edb8e07", func := "swingbridge/swingbridgelaw04.StoreHalves", spec := "storeHalves", unfollowed := true, recurses := true, apart := false, narrowed := true }
def StoreHalvesUptoSaid : Prop := storeHalvesUptoRow.holds Try.pinned (OpenSpec.upto storeHalvesSpec)

/-- 'swingbridgelaw04.StoreOwn', WHERE WHAT IT READS IS OF BULK AT MOST 1048576: true; the input reads as it did. -/
def storeOwnUptoRow : OpenClaim := { program := "ytnekelndcpmonaa", sum := "80b93aeaeb8ef9a3acb302bb22ddd421a9b9e4ea49d6deaee091f5da8edb8e07", func := "swingbridge/swingbridgelaw04.StoreOwn", spec := "storeOwn", unfollowed := true, recurses := true, apart := false, narrowed := true }
def StoreOwnUptoSaid : Prop := storeOwnUptoRow.holds Try.pinned (OpenSpec.upto storeOwnSpec)

/-- 'swingbridgelaw04.StoreAgain', WHERE WHAT IT READS IS OF BULK AT MOST 1048576: true; the input reads as it did. -/
def storeAgainUptoRow : OpenClaim := { program := "ytnekelndcpmonaa", sum := "80b93aeaeb8ef9a3acb302bb22ddd421a9b9e4ea49d6deaee091f5da8edb8e07", func := "swingbridge/swingbridgelaw04.StoreAgain", spec := "storeAgain", unfollowed := true, recurses := true, apart := false, narrowed := true }
def StoreAgainUptoSaid : Prop := storeAgainUptoRow.holds Try.pinned (OpenSpec.upto storeAgainSpec)

/-- 'swingbridgelaw04.StoreCrash', WHERE WHAT IT READS IS OF BULK AT MOST 1048576: true; the input reads as it did. -/
def storeCrashUptoRow : OpenClaim := { program := "ytnekelndcpmonaa", sum := "80b93aeaeb8ef9a3acb302bb22ddd421a9b9e4ea49d6deaee091f5da8edb8e07", func := "swingbridge/swingbridgelaw04.StoreCrash", spec := "storeCrash", unfollowed := true, recurses := true, apart := false, narrowed := true }
def StoreCrashUptoSaid : Prop := storeCrashUptoRow.holds Try.pinned (OpenSpec.upto storeCrashSpec)

end Rows
end Go.Proofs.Ytnekelndcpmonaa
