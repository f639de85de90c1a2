/- sector, by assertions. -/
import Derived.Test.YtgicpialopccpaaDiskSep
import Derived.Test.YtgicpialopccpaaDiskS
import Derived.Test.YtgicpialopccpaaDiskL
import Derived.Test.YtgicpialopccpaaNums
namespace Go.Proofs.Ytgicpialopccpaa
open Go.RowKit

theorem sector_sep {w : World} {R : List Asn} (S : Sep w R) (c : UInt8) (C : Int) (hC : C = (c.toNat : Int)) :
    Calls Try.prog 17 #[.int .u8 C] w fun e w' => ∃ g, e = .returned (.slice (some ⟨g, 0, none⟩) 512 512) ∧ Sep w' (bytesA (.slice (some ⟨g, 0, none⟩) 512 512) 512 (full c) :: R) :=
  (sector_calls w c C hC).mono fun e w' ⟨he, ho, hb⟩ => ⟨_, he, S.newBytes hb ho⟩
theorem shown_sep {w : World} {R : List Asn} (S : Sep w R) : Calls Try.prog 10 #[] w fun e w' => e = .returned (.bool true) ∧ Sep w' R :=
  (shown_calls w).mono fun e w' ⟨he, hb⟩ => ⟨he, S.below hb⟩
/-- A cell of an argument. -/
theorem Sep.arg {w0 w : World} {R : List Asn} (S : Sep w (oldA w0 :: R)) {b o : Nat} {v : Value} (h : w0.cell? ⟨b, o, none⟩ = some v) : w.cell? ⟨b, o, none⟩ = some v :=
  (S.old.cell (p := ⟨b, o, none⟩) (World.block_lt_of_cell? _ _ h)).trans h
end Go.Proofs.Ytgicpialopccpaa
