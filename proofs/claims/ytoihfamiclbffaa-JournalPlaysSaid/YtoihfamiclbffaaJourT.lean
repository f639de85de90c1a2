/- made, Room, Next. -/
import Derived.Test.YtoihfamiclbffaaJourS
import Derived.BigRegion
import Derived.RegionTactic
import Derived.Deep.QuietTactic
import Derived.BigQuiet
namespace Go.Proofs.Ytoihfamiclbffaa
open Go.RowKit

/-- A journal's cells. -/
def jnC (p : Nat) (j : Jn) : Array Value := #[.pointer (some ⟨p, 0, none⟩), .int .i64 (j.from_ : Int), .int .i64 (j.size : Int), .int .i64 (j.used : Int), .int .u64 (j.next : Int), .bool j.broken]
/-- A journal, on the disk at p. -/
def jnA (q p : Nat) (j : Jn) : Asn := blkA q (jnC p j) 69

section
variable {w : World} {R : List Asn} {q p : Nat} {j : Jn} {D : Dk}
theorem Sep.jn (S : Sep w (jnA q p j :: R)) : w.cell? ⟨q, 0, none⟩ = some (.pointer (some ⟨p, 0, none⟩)) ∧ w.cell? ⟨q, 1, none⟩ = some (.int .i64 (j.from_ : Int)) ∧ w.cell? ⟨q, 2, none⟩ = some (.int .i64 (j.size : Int)) ∧
    w.cell? ⟨q, 3, none⟩ = some (.int .i64 (j.used : Int)) ∧ w.cell? ⟨q, 4, none⟩ = some (.int .u64 (j.next : Int)) ∧ w.cell? ⟨q, 5, none⟩ = some (.bool j.broken) ∧ (∀ i, w.frozen? ⟨q, i, none⟩ = false) ∧ q < w.heap.size :=
  ⟨S.blk_cell 0, S.blk_cell 1, S.blk_cell 2, S.blk_cell 3, S.blk_cell 4, S.blk_cell 5, S.blk_free, S.blk_lt⟩
theorem Sep.jn_used (S : Sep w (jnA q p j :: R)) (u : Nat) : Sep (w.setCell ⟨q, 3, none⟩ (.int .i64 (u : Int))) (jnA q p { j with used := u } :: R) := S.blk_set 3 _
theorem Sep.jn_next (S : Sep w (jnA q p j :: R)) (u : Nat) : Sep (w.setCell ⟨q, 4, none⟩ (.int .u64 (u : Int))) (jnA q p { j with next := u } :: R) := S.blk_set 4 _
theorem Sep.jn_broken (S : Sep w (jnA q p j :: R)) (b : Bool) : Sep (w.setCell ⟨q, 5, none⟩ (.bool b)) (jnA q p { j with broken := b } :: R) := S.blk_set 5 _

set_option maxHeartbeats 1600000 in
theorem made_sep (S : Sep w (diskA p D :: R)) (from_ size : Nat) (F Z : Int) (hF : F = (from_ : Int)) (hZ : Z = (size : Int)) (h2 : 2 ≤ size) (hs : from_ + size ≤ D.secs.length) :
    Calls Try.prog 31 #[.pointer (some ⟨p, 0, none⟩), .int .i64 F, .int .i64 Z] w fun e w' => ∃ q, e = .returned (.tuple #[.pointer (some ⟨q, 0, none⟩), .int .i64 0]) ∧ Sep w' (jnA q p ⟨from_, size, 0, 1, false⟩ :: diskA p D :: R) := by
  subst hF hZ
  obtain ⟨_, hl1, hl2⟩ := dk_len S
  obtain ⟨n, hn⟩ : ∃ n, n = D.secs.length := ⟨_, rfl⟩
  have S2 := S.alloc (jnC p ⟨from_, size, 0, 1, false⟩) 69
  have hsec := sectors_sep S
  rw [← hn] at hsec hs hl1 hl2
  clear hn
  have HS := Lib.hid hsec
  have l1 : ¬ (size : Int) < 2 := by omega
  have l2 : ¬ (from_ : Int) < 0 := by omega
  have l3 : ¬ (n : Int) < (size : Int) := by omega
  have l4 : ¬ (n : Int) - (size : Int) < (from_ : Int) := by omega
  clear hsec
  go_enter Try.func31, Try.ntmps31
  go_wp2_with (first | (go_at_call 49; refine HS.out.mono ?_; rintro e w' ⟨rfl, rfl⟩))
  go_ret2
  exact ⟨_, rfl, S2⟩
set_option maxHeartbeats 1600000 in
theorem made_not (S : Sep w (diskA p D :: R)) (F Z : Int) (h : ¬ (2 ≤ Z ∧ 0 ≤ F ∧ Z ≤ (D.secs.length : Int) ∧ F ≤ (D.secs.length : Int) - Z)) :
    Calls Try.prog 31 #[.pointer (some ⟨p, 0, none⟩), .int .i64 F, .int .i64 Z] w fun e w' => e = .returned (.tuple #[.pointer none, .int .i64 1]) ∧ w = w' := by
  obtain ⟨_, hl1, hl2⟩ := dk_len S
  obtain ⟨n, hn⟩ : ∃ n, n = D.secs.length := ⟨_, rfl⟩
  have hsec := sectors_sep S
  rw [← hn] at hsec h hl1 hl2
  clear hn
  have HS := Lib.hid hsec
  have H := Lib.hid h
  clear hsec h
  by_cases l1 : Z < 2
  · go_enter Try.func31, Try.ntmps31
    go_wp2_with (first | (go_at_call 49; refine HS.out.mono ?_; rintro e w' ⟨rfl, rfl⟩))
    go_ret2
    exact ⟨rfl, rfl⟩
  · by_cases l2 : F < 0
    · go_enter Try.func31, Try.ntmps31
      go_wp2_with (first | (go_at_call 49; refine HS.out.mono ?_; rintro e w' ⟨rfl, rfl⟩))
      go_ret2
      exact ⟨rfl, rfl⟩
    · by_cases l3 : (n : Int) < Z
      · go_enter Try.func31, Try.ntmps31
        go_wp2_with (first | (go_at_call 49; refine HS.out.mono ?_; rintro e w' ⟨rfl, rfl⟩))
        go_ret2
        exact ⟨rfl, rfl⟩
      · have l4 : (n : Int) - Z < F := by
          have := H.out
          omega
        have z0 : 0 ≤ Z := by omega
        go_enter Try.func31, Try.ntmps31
        go_wp2_with (first | (go_at_call 49; refine HS.out.mono ?_; rintro e w' ⟨rfl, rfl⟩))
        go_ret2
        exact ⟨rfl, rfl⟩
set_option maxHeartbeats 1600000 in
theorem next_sep (S : Sep w (jnA q p j :: R)) :
    Calls Try.prog 24 #[.pointer (some ⟨q, 0, none⟩)] w fun e w' => e = .returned (.int .u64 (j.next : Int)) ∧ w = w' := by
  obtain ⟨c0, c1, c2, c3, c4, c5, _, hq⟩ := S.jn
  go_enter Try.func24, Try.ntmps24
  go_wp2
  go_ret
  exact ⟨rfl, rfl⟩
set_option maxHeartbeats 1600000 in
theorem room_sep (S : Sep w (jnA q p j :: R)) (hs : j.size ≤ 4096) (hu : j.used ≤ j.size) :
    Calls Try.prog 25 #[.pointer (some ⟨q, 0, none⟩)] w fun e w' => e = .returned (.int .i64 (roomJ j)) ∧ w' = w.drew := by
  obtain ⟨c0, c1, c2, c3, c4, c5, _, hq⟩ := S.jn
  have HS := Lib.hid S
  clear S
  obtain ⟨r, hr⟩ : ∃ r : Int, r = roomJ j := ⟨_, rfl⟩
  have hr2 : r = max (-1) (((j.size : Int) - (j.used : Int)) * 512 - 16) := hr
  rw [← hr]
  clear hr
  have Hr := Lib.hid hr2
  clear hr2
  go_enter Try.func25, Try.ntmps25
  go_wp2
  go_region
  have e : (if -1 < ((j.size : Int) - (j.used : Int)) * 512 - 16 then ((j.size : Int) - (j.used : Int)) * 512 - 16 else -1) = r := by
    rw [Hr.out]; split <;> omega
  rw [e]
  clear e c0 c1 c2 c3 c4 c5
  go_wp2
  go_ret
  exact ⟨rfl, rfl⟩
end
end Go.Proofs.Ytoihfamiclbffaa
