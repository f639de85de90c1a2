/-
  No cell of these rows narrows 'for every input' (looked for: loops, veiled, ifaces, maps, wideKeys, modest, calm, conditions, laid).
  DERIVED. THE GIVEN ROWS OF THIS SEAT. 7 by the template 'for every input the law returns true; each argument reads behind the call as it read before'; 0 by the template 'total and deterministic' (their statements: YtoihfamiclbffaaTotals.lean).
  GIVEN WITH THE SEED: the statements are not yours to turn. If you find one false, say at which input.
  Laid BY PROGRAM, IN A SANDBOX (cutbox-rows.mjs): the forced cells as the released guide's own fill.sh prints them over the translation 86238286a1bafb21… (all of the seat's roots in one cut). By AI agents, Wed Nov 11 2026. No macro, syntax, notation, axiom, sorry.
-/
import Derived.Test.YtoihfamiclbffaaChecked
import GoSem.Claim
import GoSem.ClaimJoined
import GoSem.ClaimMapViews
import Derived.JoinedTies
import Derived.KernelRfl
namespace Go.Proofs.Ytoihfamiclbffaa
/- THE CELL 'sum', in the pinned program and in every row, IS THE sha256 OF THE DUMP (.gsa) THAT YtoihfamiclbffaaProg.lean LOADS. Nothing in Lean hashes anything: it is a label: what it is worth is what the hold of that sum in a sandbox is worth. -/
noncomputable def Try.pinned : Pinned := { name := "ytoihfamiclbffaa", sum := "86238286a1bafb217dc86e96f0371ed7bfd39209b82f92e9bb9cca576e4d09d5", checked := Try.checked }
namespace Rows
def none {H : Type} : Left H := { results := [], args := [] }

/-- 'swingbridgelaw03.JournalPlays': WHATEVER THE INPUT: true; the input reads as it did. -/
def journalPlaysSpec : ChangeSpec := { name := "journalPlays", fn := fun _ => fun
  | [d1, d2, d3] => { results := [.lit (.bool true)], args := [d1, d2, d3] }
  | _ => none }
def journalPlaysRow : OpenClaim := { program := "ytoihfamiclbffaa", sum := "86238286a1bafb217dc86e96f0371ed7bfd39209b82f92e9bb9cca576e4d09d5", func := "swingbridge/swingbridgelaw03.JournalPlays", spec := "journalPlays", unfollowed := true, recurses := true, apart := false }
def JournalPlaysSaid : Prop := journalPlaysRow.holds Try.pinned (OpenSpec.ofChange journalPlaysSpec)

/-- ITS FALSE NEIGHBOUR: 'it returns false'. Refute it at one input. -/
def journalPlaysWrong : ChangeSpec := { name := "journalPlays", fn := fun _ => fun
  | [d1, d2, d3] => { results := [.lit (.bool false)], args := [d1, d2, d3] }
  | _ => none }
def JournalPlaysWrongFalsely : Prop := journalPlaysRow.holds Try.pinned (OpenSpec.ofChange journalPlaysWrong)

/-- 'swingbridgelaw03.JournalReads': WHATEVER THE INPUT: true; the input reads as it did. -/
def journalReadsSpec : ChangeSpec := { name := "journalReads", fn := fun _ => fun
  | [d1, d2, d3, d4] => { results := [.lit (.bool true)], args := [d1, d2, d3, d4] }
  | _ => none }
def journalReadsRow : OpenClaim := { program := "ytoihfamiclbffaa", sum := "86238286a1bafb217dc86e96f0371ed7bfd39209b82f92e9bb9cca576e4d09d5", func := "swingbridge/swingbridgelaw03.JournalReads", spec := "journalReads", unfollowed := true, recurses := true, apart := false }
def JournalReadsSaid : Prop := journalReadsRow.holds Try.pinned (OpenSpec.ofChange journalReadsSpec)

/-- ITS FALSE NEIGHBOUR: 'it returns false'. Refute it at one input. -/
def journalReadsWrong : ChangeSpec := { name := "journalReads", fn := fun _ => fun
  | [d1, d2, d3, d4] => { results := [.lit (.bool false)], args := [d1, d2, d3, d4] }
  | _ => none }
def JournalReadsWrongFalsely : Prop := journalReadsRow.holds Try.pinned (OpenSpec.ofChange journalReadsWrong)

/-- 'swingbridgelaw03.JournalPlaces': WHATEVER THE INPUT: true; the input reads as it did. -/
def journalPlacesSpec : ChangeSpec := { name := "journalPlaces", fn := fun _ => fun
  | [d1, d2, d3, d4] => { results := [.lit (.bool true)], args := [d1, d2, d3, d4] }
  | _ => none }
def journalPlacesRow : OpenClaim := { program := "ytoihfamiclbffaa", sum := "86238286a1bafb217dc86e96f0371ed7bfd39209b82f92e9bb9cca576e4d09d5", func := "swingbridge/swingbridgelaw03.JournalPlaces", spec := "journalPlaces", unfollowed := true, recurses := true, apart := false }
def JournalPlacesSaid : Prop := journalPlacesRow.holds Try.pinned (OpenSpec.ofChange journalPlacesSpec)

/-- ITS FALSE NEIGHBOUR: 'it returns false'. Refute it at one input. -/
def journalPlacesWrong : ChangeSpec := { name := "journalPlaces", fn := fun _ => fun
  | [d1, d2, d3, d4] => { results := [.lit (.bool false)], args := [d1, d2, d3, d4] }
  | _ => none }
def JournalPlacesWrongFalsely : Prop := journalPlacesRow.holds Try.pinned (OpenSpec.ofChange journalPlacesWrong)

/-- 'swingbridgelaw03.JournalResets': WHATEVER THE INPUT: true; the input reads as it did. -/
def journalResetsSpec : ChangeSpec := { name := "journalResets", fn := fun _ => fun
  | [d1, d2] => { results := [.lit (.bool true)], args := [d1, d2] }
  | _ => none }
def journalResetsRow : OpenClaim := { program := "ytoihfamiclbffaa", sum := "86238286a1bafb217dc86e96f0371ed7bfd39209b82f92e9bb9cca576e4d09d5", func := "swingbridge/swingbridgelaw03.JournalResets", spec := "journalResets", unfollowed := true, recurses := true, apart := false }
def JournalResetsSaid : Prop := journalResetsRow.holds Try.pinned (OpenSpec.ofChange journalResetsSpec)

/-- ITS FALSE NEIGHBOUR: 'it returns false'. Refute it at one input. -/
def journalResetsWrong : ChangeSpec := { name := "journalResets", fn := fun _ => fun
  | [d1, d2] => { results := [.lit (.bool false)], args := [d1, d2] }
  | _ => none }
def JournalResetsWrongFalsely : Prop := journalResetsRow.holds Try.pinned (OpenSpec.ofChange journalResetsWrong)

/-- 'swingbridgelaw03.JournalApart': WHATEVER THE INPUT: true; the input reads as it did. -/
def journalApartSpec : ChangeSpec := { name := "journalApart", fn := fun _ => fun
  | [d1, d2, d3] => { results := [.lit (.bool true)], args := [d1, d2, d3] }
  | _ => none }
def journalApartRow : OpenClaim := { program := "ytoihfamiclbffaa", sum := "86238286a1bafb217dc86e96f0371ed7bfd39209b82f92e9bb9cca576e4d09d5", func := "swingbridge/swingbridgelaw03.JournalApart", spec := "journalApart", unfollowed := true, recurses := true, apart := false }
def JournalApartSaid : Prop := journalApartRow.holds Try.pinned (OpenSpec.ofChange journalApartSpec)

/-- ITS FALSE NEIGHBOUR: 'it returns false'. Refute it at one input. -/
def journalApartWrong : ChangeSpec := { name := "journalApart", fn := fun _ => fun
  | [d1, d2, d3] => { results := [.lit (.bool false)], args := [d1, d2, d3] }
  | _ => none }
def JournalApartWrongFalsely : Prop := journalApartRow.holds Try.pinned (OpenSpec.ofChange journalApartWrong)

/-- 'swingbridgelaw03.JournalRooms': WHATEVER THE INPUT: true; the input reads as it did. -/
def journalRoomsSpec : ChangeSpec := { name := "journalRooms", fn := fun _ => fun
  | [d1, d2] => { results := [.lit (.bool true)], args := [d1, d2] }
  | _ => none }
def journalRoomsRow : OpenClaim := { program := "ytoihfamiclbffaa", sum := "86238286a1bafb217dc86e96f0371ed7bfd39209b82f92e9bb9cca576e4d09d5", func := "swingbridge/swingbridgelaw03.JournalRooms", spec := "journalRooms", unfollowed := true, recurses := true, apart := false }
def JournalRoomsSaid : Prop := journalRoomsRow.holds Try.pinned (OpenSpec.ofChange journalRoomsSpec)

/-- ITS FALSE NEIGHBOUR: 'it returns false'. Refute it at one input. -/
def journalRoomsWrong : ChangeSpec := { name := "journalRooms", fn := fun _ => fun
  | [d1, d2] => { results := [.lit (.bool false)], args := [d1, d2] }
  | _ => none }
def JournalRoomsWrongFalsely : Prop := journalRoomsRow.holds Try.pinned (OpenSpec.ofChange journalRoomsWrong)

/-- 'swingbridgelaw03.JournalDown': WHATEVER THE INPUT: true; the input reads as it did. -/
def journalDownSpec : ChangeSpec := { name := "journalDown", fn := fun _ => fun
  | [d1, d2] => { results := [.lit (.bool true)], args := [d1, d2] }
  | _ => none }
def journalDownRow : OpenClaim := { program := "ytoihfamiclbffaa", sum := "86238286a1bafb217dc86e96f0371ed7bfd39209b82f92e9bb9cca576e4d09d5", func := "swingbridge/swingbridgelaw03.JournalDown", spec := "journalDown", unfollowed := true, recurses := true, apart := false }
def JournalDownSaid : Prop := journalDownRow.holds Try.pinned (OpenSpec.ofChange journalDownSpec)

/-- ITS FALSE NEIGHBOUR: 'it returns false'. Refute it at one input. -/
def journalDownWrong : ChangeSpec := { name := "journalDown", fn := fun _ => fun
  | [d1, d2] => { results := [.lit (.bool false)], args := [d1, d2] }
  | _ => none }
def JournalDownWrongFalsely : Prop := journalDownRow.holds Try.pinned (OpenSpec.ofChange journalDownWrong)

/- THE SECOND FORM. 'bulk': how many values and letters a reading holds, each counted each time it is reached (what is shared counts as often as it is met; a slice's spare places count too). A statement '..UptoSaid' is the law's where the arguments, and the package variables that the reading takes, are together of bulk at most 1048576: NARROWER than '..Said'. Prove '..Said' where nothing that the law and all that it calls make is longer than what came in: it says more and counts as full. Else prove '..UptoSaid'. A law counts once. -/
mutual
def uptoBulk {H : Type} : DataW H → Nat
  | .lit (.string bytes) => bytes.length + 1
  | .lit _ => 1
  | .nil => 1
  | .ptr d => uptoBulk d + 1
  | .slice elems spare => uptoBulkAll elems + uptoBulkAll spare + 1
  | .agg parts => uptoBulkAll parts + 1
  | .iface _ d => uptoBulk d + 1
  | .map entries => uptoBulkEntries entries + 1
  | .held _ => 1
def uptoBulkAll {H : Type} : List (DataW H) → Nat
  | [] => 0
  | d :: r => uptoBulk d + uptoBulkAll r
def uptoBulkEntries {H : Type} : List (Lit × DataW H) → Nat
  | [] => 0
  | x :: r => uptoBulkEntry x + uptoBulkEntries r
def uptoBulkEntry {H : Type} : Lit × DataW H → Nat
  | (.string bytes, d) => bytes.length + uptoBulk d + 1
  | (_, d) => uptoBulk d + 1
 end
def uptoSmall : (H : Type) → List (DataW H) → Bool := fun _ ds => decide (uptoBulkAll ds ≤ 1048576)
def OpenSpec.upto (s : _root_.Go.ChangeSpec) : _root_.Go.OpenSpec := { _root_.Go.OpenSpec.ofChange s with cond := some uptoSmall }

/-- 'swingbridgelaw03.JournalPlays', WHERE WHAT IT READS IS OF BULK AT MOST 1048576: true; the input reads as it did. -/
def journalPlaysUptoRow : OpenClaim := { program := "ytoihfamiclbffaa", sum := "86238286a1bafb217dc86e96f0371ed7bfd39209b82f92e9bb9cca576e4d09d5", func := "swingbridge/swingbridgelaw03.JournalPlays", spec := "journalPlays", unfollowed := true, recurses := true, apart := false, narrowed := true }
def JournalPlaysUptoSaid : Prop := journalPlaysUptoRow.holds Try.pinned (OpenSpec.upto journalPlaysSpec)

/-- 'swingbridgelaw03.JournalReads', WHERE WHAT IT READS IS OF BULK AT MOST 1048576: true; the input reads as it did. -/
def journalReadsUptoRow : OpenClaim := { program := "ytoihfamiclbffaa", sum := "86238286a1bafb217dc86e96f0371ed7bfd39209b82f92e9bb9cca576e4d09d5", func := "swingbridge/swingbridgelaw03.JournalReads", spec := "journalReads", unfollowed := true, recurses := true, apart := false, narrowed := true }
def JournalReadsUptoSaid : Prop := journalReadsUptoRow.holds Try.pinned (OpenSpec.upto journalReadsSpec)

/-- 'swingbridgelaw03.JournalPlaces', WHERE WHAT IT READS IS OF BULK AT MOST 1048576: true; the input reads as it did. -/
def journalPlacesUptoRow : OpenClaim := { program := "ytoihfamiclbffaa", sum := "86238286a1bafb217dc86e96f0371ed7bfd39209b82f92e9bb9cca576e4d09d5", func := "swingbridge/swingbridgelaw03.JournalPlaces", spec := "journalPlaces", unfollowed := true, recurses := true, apart := false, narrowed := true }
def JournalPlacesUptoSaid : Prop := journalPlacesUptoRow.holds Try.pinned (OpenSpec.upto journalPlacesSpec)

/-- 'swingbridgelaw03.JournalResets', WHERE WHAT IT READS IS OF BULK AT MOST 1048576: true; the input reads as it did. -/
def journalResetsUptoRow : OpenClaim := { program := "ytoihfamiclbffaa", sum := "86238286a1bafb217dc86e96f0371ed7bfd39209b82f92e9bb9cca576e4d09d5", func := "swingbridge/swingbridgelaw03.JournalResets", spec := "journalResets", unfollowed := true, recurses := true, apart := false, narrowed := true }
def JournalResetsUptoSaid : Prop := journalResetsUptoRow.holds Try.pinned (OpenSpec.upto journalResetsSpec)

/-- 'swingbridgelaw03.JournalApart', WHERE WHAT IT READS IS OF BULK AT MOST 1048576: true; the input reads as it did. -/
def journalApartUptoRow : OpenClaim := { program := "ytoihfamiclbffaa", sum := "86238286a1bafb217dc86e96f0371ed7bfd39209b82f92e9bb9cca576e4d09d5", func := "swingbridge/swingbridgelaw03.JournalApart", spec := "journalApart", unfollowed := true, recurses := true, apart := false, narrowed := true }
def JournalApartUptoSaid : Prop := journalApartUptoRow.holds Try.pinned (OpenSpec.upto journalApartSpec)

/-- 'swingbridgelaw03.JournalRooms', WHERE WHAT IT READS IS OF BULK AT MOST 1048576: true; the input reads as it did. -/
def journalRoomsUptoRow : OpenClaim := { program := "ytoihfamiclbffaa", sum := "86238286a1bafb217dc86e96f0371ed7bfd39209b82f92e9bb9cca576e4d09d5", func := "swingbridge/swingbridgelaw03.JournalRooms", spec := "journalRooms", unfollowed := true, recurses := true, apart := false, narrowed := true }
def JournalRoomsUptoSaid : Prop := journalRoomsUptoRow.holds Try.pinned (OpenSpec.upto journalRoomsSpec)

/-- 'swingbridgelaw03.JournalDown', WHERE WHAT IT READS IS OF BULK AT MOST 1048576: true; the input reads as it did. -/
def journalDownUptoRow : OpenClaim := { program := "ytoihfamiclbffaa", sum := "86238286a1bafb217dc86e96f0371ed7bfd39209b82f92e9bb9cca576e4d09d5", func := "swingbridge/swingbridgelaw03.JournalDown", spec := "journalDown", unfollowed := true, recurses := true, apart := false, narrowed := true }
def JournalDownUptoSaid : Prop := journalDownUptoRow.holds Try.pinned (OpenSpec.upto journalDownSpec)

end Rows
end Go.Proofs.Ytoihfamiclbffaa
