/- The reference's disk: New. -/
import Derived.Test.YtgicpialopccpaaRd4
import Derived.Deep.RegionLaw
namespace Go.Proofs.Ytgicpialopccpaa
open Go.RowKit
set_option linter.unusedVariables false

section
variable {w : World} {R : List Asn}
set_option maxHeartbeats 1600000 in
theorem rNew_arg (w : World) (N : Int) (h : ¬ (1 ≤ N ∧ N ≤ 4096)) :
    Calls Try.prog 20 #[.int .i64 N] w fun e w' => e = .returned (.tuple #[.pointer none, .int .i64 1]) ∧ w = w' := by
  by_cases h1 : N < 1
  · clear h
    go_enter Try.func20, Try.ntmps20
    go_wp2
    go_ret2
    exact ⟨rfl, rfl⟩
  · have h2 : 4096 < N := by omega
    clear h
    go_enter Try.func20, Try.ntmps20
    go_wp2
    go_ret2
    exact ⟨rfl, rfl⟩
set_option maxRecDepth 20000 in
set_option maxHeartbeats 4000000 in
theorem rNew_sep (S : Sep w R) (n : Nat) (N : Int) (hN : N = (n : Int)) (h1 : 1 ≤ n) (h2 : n ≤ 4096) :
    Calls Try.prog 20 #[.int .i64 N] w fun e w' => ∃ r, e = .returned (.tuple #[.pointer (some ⟨r, 0, none⟩), .int .i64 0]) ∧ Sep w' (rdA r (Dk.new n) :: R) := by
  subst hN
  have n1 : ¬ (n : Int) < 1 := by omega
  have n2 : ¬ (4096 : Int) < (n : Int) := by omega
  have S1 : Sep (w.alloc (.cells #[.slice none 0 0, .slice none 0 0, .bool false, .int .i64 0, .int .i64 (-1), .slice none 0 0] 57)) (ownA 9 1 (.slice none 0 0) 0 [] :: rdB w.heap.size (Dk.new n) (.slice none 0 0) (.slice none 0 0) (.slice none 0 0) :: R) :=
    Sep.nilOwn (S.alloc _ _) 9 1
  obtain ⟨w2, hw2⟩ : ∃ w2, w2 = w.alloc (.cells #[.slice none 0 0, .slice none 0 0, .bool false, .int .i64 0, .int .i64 (-1), .slice none 0 0] 57) := ⟨_, rfl⟩
  obtain ⟨r, hr⟩ : ∃ r, r = w.heap.size := ⟨_, rfl⟩
  rw [← hw2, ← hr] at S1
  have HW2 := Lib.hid hw2
  have HR := Lib.hid hr
  have HS1 := Lib.hid S1
  have HN : Hid (n ≤ 4096) := Lib.hid h2
  obtain ⟨i0, hi', hz0, hz1, hz2⟩ := info_parts infoSt
  have Hi := Lib.hid hi'
  have Hz0 := Lib.hid hz0
  have Hz1 := Lib.hid hz1
  have Hz2 := Lib.hid hz2
  clear S S1 hw2 hr h1 h2 hi' hz0 hz1 hz2
  go_enter Try.func20, Try.ntmps20
  go_wp2_with fail
  rw [← HW2.out, ← HR.out]
  go_loopw [5] (fun i wr => ∃ (k : Nat) (dv : Value), k ≤ n ∧ i = .int .i64 (k : Int) ∧ Sep wr (ownA 9 1 dv k (List.replicate k (strV Dk.zero)) :: rdB r (Dk.new n) dv (.slice none 0 0) (.slice none 0 0) :: R)) (fun i _ => n - (intOf i).toNat)
  case atStart => exact ⟨0, _, Nat.zero_le _, rfl, HS1.out⟩
  case round =>
    obtain ⟨k, dv, hk, rfl, Sr⟩ := hrel
    by_cases hlt : k < n
    · have hl1 : (k : Int) < (n : Int) := by omega
      obtain ⟨c0, _⟩ := Sr.up1.rd
      have f0 := Sr.up1.blk_free 0
      obtain ⟨sx, hsx⟩ : ∃ sx : ByteArray, strV Dk.zero = .string sx := ⟨_, rfl⟩
      have hzc := zero_below wr.drew
      rw [hsx] at hzc Sr
      have HZ := Lib.hid hzc
      have HSr := Lib.hid Sr
      have HSX := Lib.hid hsx
      have hrl := Sr.up1.blk_lt
      clear hzc Sr hsx
      go_wp2_with fail
      go_region_law (first
        | (go_simp; go_at_call 29; refine HZ.out.mono ?_; rintro e w9 ⟨rfl, hb9⟩; have S9 := HSr.out.drew.below hb9; have c9 := S9.up1.blk_cell 0; have f9 := S9.up1.blk_free 0; simp [rdC] at c9; have S10 := (S9.alloc #[.string sx] 9).up1; have hnew := Sep.cell_new w9 (.string sx) 9; have c10 := S10.up2.blk_cell 0; simp [rdC] at c10; have HS10 := Lib.hid S10; clear S9 S10)
        | (refine Sep.step_append Try.underlying54 Hi.out Hz0.out Hz1.out Hz2.out rfl (by decide) rfl (.tmp 23) (.tmp 25) rfl HS10.out rfl ⟨w9.heap.size, 0, none⟩ 1 1 [.string sx] rfl rfl hnew (by intro u hu; simp at hu; subst hu; rfl) (by have := HN.out; unfold maxLen; omega) (by have := HN.out; omega) ?_; intro g cap w10 S11 _ _ _ _; have c11 := S11.up2.blk_cell 0; have f11 := S11.up2.blk_free 0; simp [rdC] at c11; have HS11 := Lib.hid S11; clear S11))
      all_goals
        have S12 := rd_set0 HS11.out.up2 (.slice g (k + 1) cap)
        have HS12 := Lib.hid (S12.pick [1, 0] 3 (by decide) rfl)
        clear S12
        go_wp2_with fail
        go_roundw
        case rel =>
          refine ⟨k + 1, .slice g (k + 1) cap, by omega, by go_num, ?_⟩
          rw [List.replicate_succ', HSX.out]
          exact HS12.out
        case measure => simp [intOf]; omega
    · obtain rfl : k = n := by omega
      have S3 : Sep wr (rdA r (Dk.new k) :: R) := by
        refine Sep.rd_shut (D := Dk.new k) (dv := dv) (wv := .slice none 0 0) (kv := .slice none 0 0) (kp := []) (fun x hx => by cases hx) ?_
        have S4 := (Sr.nilOwn 83 2).nilOwn 4 1
        have e : strsA dv (Dk.new k).secs = ownA 9 1 dv k (List.replicate k (strV Dk.zero)) := by unfold strsA Dk.new; simp
        rw [e]
        exact S4.pick [3, 2, 1, 0] 4 (by decide) rfl
      have HS3 := Lib.hid S3
      clear Sr S3
      go_wp2
      go_ret2
      exact ⟨r, rfl, HS3.out⟩
end
end Go.Proofs.Ytgicpialopccpaa
