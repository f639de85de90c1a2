/- does; Reset, Commit, Append, Format. Format; slices.Equal. -/
import Derived.Test.YtnekelndcpmonaaMg7
import Derived.Deep.RegionHeld3
set_option linter.all false
namespace Go.Proofs.Ytnekelndcpmonaa
set_option linter.unusedVariables false
open Go.RowKit

section
variable {w : World} {R R' : List Asn} {q p : Nat} {j j' : Jn} {D : Dk}
theorem eOf_beq (b : Bool) : ((eOf b : Int) != 0) = !b := by cases b <;> rfl

set_option maxHeartbeats 1600000 in
theorem does_broken (S : Sep w (jnA q p j :: R)) (hb : j.broken = true) (f : Value) :
    Calls Try.prog 50 #[.pointer (some ⟨q, 0, none⟩), f] w fun e w' => e = .returned (.int .i64 11) ∧ w = w' := by
  obtain ⟨c0, c1, c2, c3, c4, c5, _, hq⟩ := S.jn
  rw [hb] at c5
  go_enter Try.func50, Try.ntmps50
  go_wp2
  go_ret
  exact ⟨rfl, rfl⟩
set_option maxHeartbeats 1600000 in
theorem does_sep (S : Sep w (jnA q p j :: R)) (hb : j.broken = false) (f : Nat) (bound caps : Array Value) (ok : Bool) (heg : ∀ args w, (callFunc f args).run Try.prog w = .ok (.enter f args) w)
    (hdo : Calls Try.prog f (bound ++ caps) w fun e w' => e = .returned (.int .i64 (eOf ok)) ∧ Sep w' (jnA q p j' :: R')) :
    Calls Try.prog 50 #[.pointer (some ⟨q, 0, none⟩), .func (.func f) bound caps] w fun e w' => e = .returned (.int .i64 (eOf ok)) ∧ Sep w' (jnA q p { j' with broken := !ok } :: R') := by
  obtain ⟨c0, c1, c2, c3, c4, c5, _, hq⟩ := S.jn
  rw [hb] at c5
  have Hdo := Lib.hid hdo
  clear hdo
  go_enter Try.func50, Try.ntmps50
  go_wp2_with fail
  refine Hdo.out.mono ?_
  rintro e w' ⟨rfl, S'⟩
  obtain ⟨d0, d1, d2, d3, d4, d5, fq, hq'⟩ := S'.jn
  have f5 := fq 5
  have S2 := S'.jn_broken (!ok)
  have HS2 := Lib.hid S2
  clear S' S2 fq
  cases ok with
  | true =>
    have he : eOf true = 0 := rfl
    rw [he]
    go_wp2
    go_ret
    exact ⟨rfl, HS2.out⟩
  | false =>
    have he : eOf false = 11 := rfl
    rw [he]
    go_wp2
    go_ret
    exact ⟨rfl, HS2.out⟩
set_option maxHeartbeats 1600000 in
theorem reset1_sep {b : Nat} (S : Sep w (blkA b #[.pointer (some ⟨q, 0, none⟩)] 67 :: jnA q p j :: diskA p D :: R)) (hn : j.next ≤ lastN) (hs : j.from_ + 1 ≤ D.secs.length) (hw : D.waits.length ≤ 90000) :
    Calls Try.prog 51 #[.pointer (some ⟨b, 0, none⟩)] w fun e w' => e = .returned (.int .i64 (eOf (putJ D { j with used := 0 } (pic j.next startN [])).1)) ∧
      Sep w' (blkA b #[.pointer (some ⟨q, 0, none⟩)] 67 :: jnA q p (putJ D { j with used := 0 } (pic j.next startN [])).2.2 :: diskA p (putJ D { j with used := 0 } (pic j.next startN [])).2.1 :: R) := by
  have cb := S.blk_cell 0
  obtain ⟨c0, c1, c2, c3, c4, c5, fq, hq⟩ := S.up1.jn
  have f3 := fq 3
  have S2 := (S.up1.jn_used 0).up1
  have hz : ((0 : Nat) : Int) = 0 := rfl
  rw [hz] at S2
  obtain ⟨w2, hw2⟩ : ∃ w2, w2 = w.setCell ⟨q, 3, none⟩ (.int .i64 0) := ⟨_, rfl⟩
  rw [← hw2] at S2
  have Hw2 := Lib.hid hw2
  have cb2 := S2.blk_cell 0
  obtain ⟨_, _, _, _, d4, _, _, _⟩ := S2.up1.jn
  have HS2 := Lib.hid S2
  have hnl : j.next < 18446744073709551616 := by unfold lastN at hn; omega
  clear hw2 hz fq S2 S
  go_enter Try.func51, Try.ntmps51
  go_wp2_with fail
  rw [← Hw2.out]
  refine AnyK.start (S := lateS (fun w' => w'.cell? ⟨b, 0, none⟩ = some (.pointer (some ⟨q, 0, none⟩)) ∧ w'.cell? ⟨q, 4, none⟩ = some (.int .u64 (j.next : Int))) [6, 7]) (by kernel_rfl) ?_
  have hHeld : w2.drew.cell? ⟨b, 0, none⟩ = some (.pointer (some ⟨q, 0, none⟩)) ∧ w2.drew.cell? ⟨q, 4, none⟩ = some (.int .u64 (j.next : Int)) := ⟨cb2, d4⟩
  refine AnyK.take (i := 0) (T := [6, 7]) (v := ?v0) rfl (by kernel_rfl) (by kernel_rfl) (by kernel_rfl) (by kernel_rfl) (by kernel_rfl) (by kernel_rfl) (by kernel_rfl) (fun _ _ _ h => h) (Or.inl ⟨by rfl, ?y0⟩) hHeld ?r0
  case y0 => (intro w hSw; (try dsimp only at hSw); go_simp; (try with_reducible rfl))
  try simp only [Act.put, List.setIfInBounds_toArray]
  refine AnyK.take (i := 1) (T := [2, 3, 4, 5, 6, 7]) (v := ?v1) rfl (by kernel_rfl) (by kernel_rfl) (by kernel_rfl) (by kernel_rfl) (by kernel_rfl) (by kernel_rfl) (by kernel_rfl) (fun _ _ _ h => h) (Or.inl ⟨by rfl, ?y1⟩) hHeld ?r1
  case y1 => (intro w hSw; (try dsimp only at hSw); go_simp; (try with_reducible rfl))
  try simp only [Act.put]
  refine AnyK.take (i := 2) (T := [3, 4, 5, 6, 7]) (v := ?v2) rfl (by kernel_rfl) (by kernel_rfl) (by kernel_rfl) (by kernel_rfl) (by kernel_rfl) (by kernel_rfl) (by kernel_rfl) (fun _ _ _ h => h) (Or.inl ⟨by rfl, ?y2⟩) hHeld ?r2
  case y2 => (intro w hSw; (try dsimp only at hSw); go_simp; (try with_reducible rfl))
  try simp only [Act.put]
  refine AnyK.take (i := 3) (T := [4, 5, 6, 7]) (v := ?v3) rfl (by kernel_rfl) (by kernel_rfl) (by kernel_rfl) (by kernel_rfl) (by kernel_rfl) (by kernel_rfl) (by kernel_rfl) (fun _ _ _ h => h) (Or.inl ⟨by rfl, ?y3⟩) hHeld ?r3
  case y3 => (intro w hSw; (try dsimp only at hSw); go_simp; (try with_reducible rfl))
  try simp only [Act.put]
  refine AnyK.take (i := 4) (T := [5, 6, 7]) (v := ?v4) rfl (by kernel_rfl) (by kernel_rfl) (by kernel_rfl) (by kernel_rfl) (by kernel_rfl) (by kernel_rfl) (by kernel_rfl) (fun _ _ _ h => h) (Or.inl ⟨by rfl, ?y4⟩) hHeld ?r4
  case y4 => (intro w hSw; (try dsimp only at hSw); go_simp; (try with_reducible rfl))
  try simp only [Act.put]
  refine AnyK.one (i := 5) (by kernel_rfl) rfl (fun K hK => ?_)
  go_simp
  refine (picture_sep HS2.out.drew j.next _ rfl startN _ rfl hnl (by unfold startN; omega) none 0 0 [] (BytesAt.nil _ _) rfl (by omega) (fun _ => rfl)).mono ?_
  rintro e w3 ⟨g, m, cap, rfl, S3, hm1, hm2⟩
  have hml := S3.bytes.len
  rw [pic_len] at hml
  have S4 := S3.up3.up3.up2
  have cb3 := S3.up1.blk_cell 0
  obtain ⟨_, _, _, _, e4, _, _, _⟩ := S3.up2.jn
  have hm3 : m = 512 * 0 + 512 := by rw [← hml]; rfl
  have hfit : ({ j with used := 0 } : Jn).from_ + ({ j with used := 0 } : Jn).used + 0 + 1 ≤ D.secs.length := by show j.from_ + 0 + 0 + 1 ≤ _; omega
  have Hm3 := Lib.hid hm3
  refine hK.out _ _ (.inr ⟨cb3, e4⟩) ?_
  clear hK K hml hm3 S3
  refine AnyK.one (i := 6) (by kernel_rfl) rfl (fun K hK => ?_)
  go_simp
  refine (put_sep S4 0 Hm3.out hfit hw hn).mono ?_
  rintro e w4 ⟨rfl, S5⟩
  have S6 := S5.drop.up2
  refine hK.out _ _ (.inl (by simp)) ?_
  clear hK K S5
  refine AnyK.one (i := 7) (by kernel_rfl) rfl (fun K hK => ?_)
  go_simp
  refine hK.out _ _ (.inl (by simp)) ?_
  clear hK K
  refine AnyK.done (by kernel_rfl) ?_ _
  have HS6 := Lib.hid S6
  clear S6 S4
  go_wp2
  go_ret
  exact ⟨rfl, HS6.out⟩
theorem rd_eOf (D : Dk) : rdE D = eOf (!D.fell.down) := by unfold rdE eOf; cases D.fell.down <;> rfl
theorem reset_broken (hb : j.broken = true) : resetJ D j = (11, D, j) := by simp [resetJ, hb]
theorem reset_full (hb : j.broken = false) (h : lastN < j.next) : resetJ D j = (5, D, j) := by simp [resetJ, hb, h]
theorem reset_ok (hb : j.broken = false) (h : ¬ lastN < j.next) : resetJ D j = doneJ (putJ D { j with used := 0 } (pic j.next startN [])) := by simp [resetJ, hb, h]

set_option maxHeartbeats 1600000 in
theorem reset_sep (S : Sep w (jnA q p j :: diskA p D :: R)) (hs : j.from_ + 1 ≤ D.secs.length) (hw : D.waits.length ≤ 90000) :
    Calls Try.prog 32 #[.pointer (some ⟨q, 0, none⟩)] w fun e w' => e = .returned (.int .i64 (resetJ D j).1) ∧ Sep w' (jnA q p (resetJ D j).2.2 :: diskA p (resetJ D j).2.1 :: R) := by
  obtain ⟨c0, c1, c2, c3, c4, c5, _, hq⟩ := S.jn
  have S1 := S.alloc #[.pointer (some ⟨q, 0, none⟩)] 67
  obtain ⟨w1, hw1⟩ : ∃ w1, w1 = w.alloc (.cells #[.pointer (some ⟨q, 0, none⟩)] 67) := ⟨_, rfl⟩
  rw [← hw1] at S1
  have Hw1 := Lib.hid hw1
  have HS1 := Lib.hid S1
  clear hw1 S1
  cases hb : j.broken with
  | true =>
    rw [hb] at c5
    rw [reset_broken hb]
    have hdo := does_broken HS1.out.up1 hb (.func (.func 51) #[] #[.pointer (some ⟨w.heap.size, 0, none⟩)])
    have Hdo := Lib.hid hdo
    clear hdo
    go_enter Try.func32, Try.ntmps32
    go_wp2_with fail
    rw [← Hw1.out]
    refine Hdo.out.mono ?_
    rintro e w' ⟨rfl, rfl⟩
    go_wp2
    go_ret
    exact ⟨rfl, HS1.out.drop⟩
  | false =>
    rw [hb] at c5
    by_cases hl : lastN < j.next
    · have hl2 : (4611686018427387904 : Int) < (j.next : Int) := by unfold lastN at hl; omega
      rw [reset_full hb hl]
      have S' := S.alloc0 (.cells #[.pointer (some ⟨q, 0, none⟩)] 67)
      clear S hl
      go_enter Try.func32, Try.ntmps32
      go_wp2
      go_ret
      exact ⟨rfl, S'⟩
    · have hl2 : ¬ (4611686018427387904 : Int) < (j.next : Int) := by unfold lastN at hl; omega
      rw [reset_ok hb hl]
      have hdo := does_sep HS1.out.up1 hb 51 #[] #[.pointer (some ⟨w.heap.size, 0, none⟩)] (putJ D { j with used := 0 } (pic j.next startN [])).1 (enters_of Try.func51 (by kernel_rfl) rfl)
        ((reset1_sep HS1.out (by omega) hs hw).mono fun e w' h => ⟨h.1, h.2.up1⟩)
      have Hdo := Lib.hid hdo
      clear hdo S hl hb
      go_enter Try.func32, Try.ntmps32
      go_wp2_with fail
      rw [← Hw1.out]
      refine Hdo.out.mono ?_
      rintro e w' ⟨rfl, S'⟩
      have HS' := Lib.hid S'
      clear S'
      go_wp2
      go_ret
      exact ⟨rfl, HS'.out.up1.drop⟩

theorem commit_broken (hb : j.broken = true) : commitJ D j = (11, D, j) := by simp [commitJ, hb]
theorem commit_ok (hb : j.broken = false) : commitJ D j = doneJ (!D.fell.down, D.barrier, j) := by simp [commitJ, hb]
set_option maxHeartbeats 1600000 in
theorem commit_sep (S : Sep w (jnA q p j :: diskA p D :: R)) :
    Calls Try.prog 33 #[.pointer (some ⟨q, 0, none⟩)] w fun e w' => e = .returned (.int .i64 (commitJ D j).1) ∧ Sep w' (jnA q p (commitJ D j).2.2 :: diskA p (commitJ D j).2.1 :: R) := by
  obtain ⟨c0, c1, c2, c3, c4, c5, _, hq⟩ := S.jn
  cases hb : j.broken with
  | true =>
    rw [commit_broken hb]
    have Hdo := Lib.hid (does_broken S hb (.func (.func 54) #[.pointer (some ⟨p, 0, none⟩)] #[]))
    have HS := Lib.hid S
    clear S
    go_enter Try.func33, Try.ntmps33
    go_wp2_with fail
    refine Hdo.out.mono ?_
    rintro e w' ⟨rfl, rfl⟩
    go_wp2
    go_ret
    exact ⟨rfl, HS.out⟩
  | false =>
    rw [commit_ok hb]
    have Hdo := Lib.hid (does_sep S hb 54 #[.pointer (some ⟨p, 0, none⟩)] #[] (!D.fell.down) (enters_of Try.func54 (by kernel_rfl) rfl)
        ((barrier_sep S.up1).mono fun e w' h => ⟨by rw [h.1, rd_eOf], h.2.1.up1⟩))
    clear S
    go_enter Try.func33, Try.ntmps33
    go_wp2_with fail
    refine Hdo.out.mono ?_
    rintro e w' ⟨rfl, S'⟩
    have HS' := Lib.hid S'
    clear S'
    go_wp2
    go_ret
    exact ⟨rfl, HS'.out⟩

set_option maxHeartbeats 1600000 in
theorem append1_sep {bj bb n cp c : Nat} {ba : Option Addr} {b : List UInt8} (S : Sep w (blkA bj #[.pointer (some ⟨q, 0, none⟩)] 67 :: blkA bb #[.slice ba n cp] 31 :: jnA q p j :: diskA p D :: R)) (hb : BytesAt w ba b) (hbl : b.length = n) (hnil : ba = none → cp = 0) (hbn : n ≤ 900000)
    (hn : j.next ≤ lastN) (hc : c = (n + 527) / 512 - 1) (hs : j.from_ + j.used + c + 1 ≤ D.secs.length) (hw : D.waits.length + c ≤ 90000) :
    Calls Try.prog 56 #[.pointer (some ⟨bj, 0, none⟩), .pointer (some ⟨bb, 0, none⟩)] w fun e w' => e = .returned (.int .i64 (eOf (putJ D j (pic j.next n b)).1)) ∧
      Sep w' (jnA q p (putJ D j (pic j.next n b)).2.2 :: diskA p (putJ D j (pic j.next n b)).2.1 :: R) := by
  have cj := S.blk_cell 0
  have cb := S.up1.blk_cell 0
  obtain ⟨c0, c1, c2, c3, c4, c5, _, hq⟩ := S.up2.jn
  have hnl : j.next < 18446744073709551616 := by unfold lastN at hn; omega
  have hn0 : (0 : Int) ≤ (n : Int) := by omega
  have hn1 : (n : Int) < 18446744073709551616 := by omega
  have HS := Lib.hid S
  have Hc := Lib.hid hc
  have Hbl := Lib.hid hbl
  clear S hc hbl
  go_enter Try.func56, Try.ntmps56
  go_wp2_with fail
  refine AnyK.start (S := lateS (fun w' => w'.cell? ⟨bj, 0, none⟩ = some (.pointer (some ⟨q, 0, none⟩)) ∧ w'.cell? ⟨q, 4, none⟩ = some (.int .u64 (j.next : Int)) ∧ w'.cell? ⟨bb, 0, none⟩ = some (.slice ba n cp)) [10, 11]) (by kernel_rfl) ?_
  have hHeld : w.drew.cell? ⟨bj, 0, none⟩ = some (.pointer (some ⟨q, 0, none⟩)) ∧ w.drew.cell? ⟨q, 4, none⟩ = some (.int .u64 (j.next : Int)) ∧ w.drew.cell? ⟨bb, 0, none⟩ = some (.slice ba n cp) := ⟨cj, c4, cb⟩
  refine AnyK.take (i := 0) (T := [10, 11]) (v := ?vc0) rfl (by kernel_rfl) (by kernel_rfl) (by kernel_rfl) (by kernel_rfl) (by kernel_rfl) (by kernel_rfl) (by kernel_rfl) (fun _ _ _ h => h) (Or.inl ⟨by rfl, ?yc0⟩) hHeld ?rc0
  case yc0 => (intro w hSw; (try dsimp only at hSw); go_simp; (try with_reducible rfl))
  try simp only [Act.put, List.setIfInBounds_toArray]
  refine AnyK.take (i := 1) (T := [2, 3, 4, 9, 10, 11]) (v := ?vc1) rfl (by kernel_rfl) (by kernel_rfl) (by kernel_rfl) (by kernel_rfl) (by kernel_rfl) (by kernel_rfl) (by kernel_rfl) (fun _ _ _ h => h) (Or.inl ⟨by rfl, ?yc1⟩) hHeld ?rc1
  case yc1 => (intro w hSw; (try dsimp only at hSw); go_simp; (try with_reducible rfl))
  try simp only [Act.put]
  refine AnyK.take (i := 2) (T := [3, 4, 9, 10, 11]) (v := ?vc2) rfl (by kernel_rfl) (by kernel_rfl) (by kernel_rfl) (by kernel_rfl) (by kernel_rfl) (by kernel_rfl) (by kernel_rfl) (fun _ _ _ h => h) (Or.inl ⟨by rfl, ?yc2⟩) hHeld ?rc2
  case yc2 => (intro w hSw; (try dsimp only at hSw); go_simp; (try with_reducible rfl))
  try simp only [Act.put]
  refine AnyK.take (i := 3) (T := [4, 9, 10, 11]) (v := ?vc3) rfl (by kernel_rfl) (by kernel_rfl) (by kernel_rfl) (by kernel_rfl) (by kernel_rfl) (by kernel_rfl) (by kernel_rfl) (fun _ _ _ h => h) (Or.inl ⟨by rfl, ?yc3⟩) hHeld ?rc3
  case yc3 => (intro w hSw; (try dsimp only at hSw); go_simp; (try with_reducible rfl))
  try simp only [Act.put]
  refine AnyK.take (i := 4) (T := [9, 10, 11]) (v := ?vc4) rfl (by kernel_rfl) (by kernel_rfl) (by kernel_rfl) (by kernel_rfl) (by kernel_rfl) (by kernel_rfl) (by kernel_rfl) (fun _ _ _ h => h) (Or.inl ⟨by rfl, ?yc4⟩) hHeld ?rc4
  case yc4 => (intro w hSw; (try dsimp only at hSw); go_simp; (try with_reducible rfl))
  try simp only [Act.put]
  refine AnyK.take (i := 5) (T := [6, 7, 9, 10, 11]) (v := ?vc5) rfl (by kernel_rfl) (by kernel_rfl) (by kernel_rfl) (by kernel_rfl) (by kernel_rfl) (by kernel_rfl) (by kernel_rfl) (fun _ _ _ h => h) (Or.inl ⟨by rfl, ?yc5⟩) hHeld ?rc5
  case yc5 => (intro w hSw; (try dsimp only at hSw); go_simp; (try with_reducible rfl))
  try simp only [Act.put]
  refine AnyK.take (i := 6) (T := [7, 9, 10, 11]) (v := ?vc6) rfl (by kernel_rfl) (by kernel_rfl) (by kernel_rfl) (by kernel_rfl) (by kernel_rfl) (by kernel_rfl) (by kernel_rfl) (fun _ _ _ h => h) (Or.inl ⟨by rfl, ?yc6⟩) hHeld ?rc6
  case yc6 => (intro w hSw; (try dsimp only at hSw); go_simp; (try with_reducible rfl))
  try simp only [Act.put]
  refine AnyK.take (i := 7) (T := [9, 10, 11]) (v := ?vc7) rfl (by kernel_rfl) (by kernel_rfl) (by kernel_rfl) (by kernel_rfl) (by kernel_rfl) (by kernel_rfl) (by kernel_rfl) (fun _ _ _ h => h) (Or.inl ⟨by rfl, ?yc7⟩) hHeld ?rc7
  case yc7 => (intro w hSw; (try dsimp only at hSw); go_simp; (try with_reducible rfl))
  try simp only [Act.put]
  refine AnyK.take (i := 8) (T := [9, 10, 11]) (v := ?vc8) rfl (by kernel_rfl) (by kernel_rfl) (by kernel_rfl) (by kernel_rfl) (by kernel_rfl) (by kernel_rfl) (by kernel_rfl) (fun _ _ _ h => h) (Or.inl ⟨by rfl, ?yc8⟩) hHeld ?rc8
  case yc8 => (intro w hSw; (try dsimp only at hSw); go_simp; (try with_reducible rfl))
  try simp only [Act.put]
  refine AnyK.one (i := 9) (by kernel_rfl) rfl (fun K hK => ?_)
  go_simp
  refine (picture_sep HS.out.drew j.next _ rfl n _ ?hL hnl (by omega) ba n cp b hb Hbl.out hbn hnil).mono ?_
  case hL => first | rfl | (simp [IntKind.wrap_u64]; omega)
  rintro e w3 ⟨g, m, cap, rfl, S3, hm1, hm2⟩
  have hml := S3.bytes.len
  rw [pic_len, Hbl.out] at hml
  have S4 := S3.up1.drop.up1.drop
  have cj3 := S3.up1.blk_cell 0
  have cb3 := S3.up2.blk_cell 0
  obtain ⟨_, _, _, _, e4, _, _, _⟩ := S3.up3.jn
  have hm3 : m = 512 * c + 512 := by rw [← hml, Hc.out]; omega
  have Hm3 := Lib.hid hm3
  refine hK.out _ _ (.inr ⟨cj3, e4, cb3⟩) ?_
  clear hK K hml hm3 S3
  refine AnyK.one (i := 10) (by kernel_rfl) rfl (fun K hK => ?_)
  go_simp
  refine (put_sep S4 c Hm3.out hs hw hn).mono ?_
  rintro e w4 ⟨rfl, S5⟩
  have S6 := S5.drop
  refine hK.out _ _ (.inl (by simp)) ?_
  clear hK K S5
  refine AnyK.one (i := 11) (by kernel_rfl) rfl (fun K hK => ?_)
  go_simp
  refine hK.out _ _ (.inl (by simp)) ?_
  clear hK K
  refine AnyK.done (by kernel_rfl) ?_ _
  have HS6 := Lib.hid S6
  clear S6 S4
  go_wp2
  go_ret
  exact ⟨rfl, HS6.out⟩
theorem append_broken (b : List UInt8) (hb : j.broken = true) : appendJ D j b = (11, D, j) := by simp [appendJ, hb]
theorem append_full (b : List UInt8) (hb : j.broken = false) (h : roomJ j < b.length ∨ lastN < j.next) : appendJ D j b = (5, D, j) := by unfold appendJ; rw [if_neg (by simp [hb]), if_pos h]
theorem append_ok (b : List UInt8) (hb : j.broken = false) (h : ¬ (roomJ j < b.length ∨ lastN < j.next)) : appendJ D j b = doneJ (putJ D j (pic j.next b.length b)) := by unfold appendJ; rw [if_neg (by simp [hb]), if_neg h]

set_option maxHeartbeats 3200000 in
theorem append_sep {n cp : Nat} {ba : Option Addr} {b : List UInt8} (S : Sep w (jnA q p j :: diskA p D :: R)) (hb : BytesAt w ba b) (hbl : b.length = n) (hnil : ba = none → cp = 0) (hbn : n ≤ 900000)
    (hsz : j.size ≤ 4096) (hu : j.used ≤ j.size) (hs : j.from_ + j.size ≤ D.secs.length) (hw : D.waits.length ≤ 80000) :
    Calls Try.prog 35 #[.pointer (some ⟨q, 0, none⟩), .slice ba n cp] w fun e w' => e = .returned (.int .i64 (appendJ D j b).1) ∧ Sep w' (jnA q p (appendJ D j b).2.2 :: diskA p (appendJ D j b).2.1 :: R) := by
  obtain ⟨c0, c1, c2, c3, c4, c5, _, hq⟩ := S.jn
  have S1 := (S.alloc #[.pointer (some ⟨q, 0, none⟩)] 67).alloc #[.slice ba n cp] 31
  simp only [World.size_alloc] at S1
  replace S1 := S1.up1
  obtain ⟨w1, hw1⟩ : ∃ w1, w1 = (w.alloc (.cells #[.pointer (some ⟨q, 0, none⟩)] 67)).alloc (.cells #[.slice ba n cp] 31) := ⟨_, rfl⟩
  rw [← hw1] at S1
  have hb1 : BytesAt w1 ba b := hb.below (by rw [hw1]; exact ((Below.refl _ _).alloc (Nat.le_refl _) _).alloc (by simp) _)
  have cj := S1.blk_cell 0
  have cb := S1.up1.blk_cell 0
  obtain ⟨d0, d1, d2, d3, d4, d5, _, dq⟩ := S1.up2.jn
  have Hw1 := Lib.hid hw1
  have HS1 := Lib.hid S1
  have hroomw := fun (W : World) (SW : Sep W (jnA q p j :: diskA p D :: R)) => room_sep SW hsz hu
  clear hw1
  cases hbr : j.broken with
  | true =>
    rw [append_broken b hbr]
    rw [hbr] at c5 d5
    have Hdo := fun (W : World) (SW : Sep W (jnA q p j :: blkA w.heap.size #[.pointer (some ⟨q, 0, none⟩)] 67 :: blkA (w.heap.size + 1) #[.slice ba n cp] 31 :: diskA p D :: R)) => does_broken SW hbr (.func (.func 56) #[] #[.pointer (some ⟨w.heap.size, 0, none⟩), .pointer (some ⟨w.heap.size + 1, 0, none⟩)])
    have HDo := Lib.hid Hdo
    clear Hdo S1 S hbr hroomw
    go_enter Try.func35, Try.ntmps35
    go_wp2_with fail
    rw [← Hw1.out]
    go_quiet (fail)
    go_wp2_with fail
    refine (HDo.out _ (by first | exact (HS1.out.drewN _).up2 | exact HS1.out.drew.up2)).mono ?_
    rintro e w' ⟨rfl, rfl⟩
    go_wp2
    go_ret
    exact ⟨rfl, by first | exact (HS1.out.drewN _).drop.drop | exact HS1.out.drew.drop.drop⟩
  | false =>
    rw [hbr] at c5 d5
    obtain ⟨r, hr⟩ : ∃ r, r = roomJ j := ⟨_, rfl⟩
    rw [← hr] at hroomw
    have HRoom := Lib.hid hroomw
    have hb0 : (0 : Int) ≤ (n : Int) := by omega
    by_cases h1 : r < (n : Int)
    · rw [append_full b hbr (.inl (by rw [hbl, ← hr]; exact h1))]
      have hdec : decide (r < (n : Int)) = true := by simpa using h1
      have Hb1 := Lib.hid hb1
      clear S1 S hbr hroomw hr hb hb1 hbl
      go_enter Try.func35, Try.ntmps35
      go_wp2_with fail
      rw [← Hw1.out]
      go_quiet ((go_at_call 55; refine Calls.quiet_of ((HRoom.out _ ((HS1.out.drewN _).drop.drop)).mono fun e w' h => ⟨h.1, 1, by rw [h.2]; rfl⟩)))
      go_wp2
      go_ret
      exact ⟨rfl, by first | exact (HS1.out.drewN _).drop.drop | exact HS1.out.drew.drop.drop⟩
    · have hdec : decide (r < (n : Int)) = false := by simpa using h1
      by_cases hl : lastN < j.next
      · have hl2 : (4611686018427387904 : Int) < (j.next : Int) := by unfold lastN at hl; omega
        have hdec2 : decide ((4611686018427387904 : Int) < (j.next : Int)) = true := by simpa using hl2
        rw [append_full b hbr (.inr hl)]
        clear hl
        have Hb1 := Lib.hid hb1
        clear S1 S hbr hroomw hr hb hb1 hbl
        go_enter Try.func35, Try.ntmps35
        go_wp2_with fail
        rw [← Hw1.out]
        go_quiet ((go_at_call 55; refine Calls.quiet_of ((HRoom.out _ ((HS1.out.drewN _).drop.drop)).mono fun e w' h => ⟨h.1, 1, by rw [h.2]; rfl⟩)))
        go_wp2
        go_ret
        exact ⟨rfl, by first | exact (HS1.out.drewN _).drop.drop | exact HS1.out.drew.drop.drop⟩
      · have hl2 : ¬ (4611686018427387904 : Int) < (j.next : Int) := by unfold lastN at hl; omega
        have hdec2 : decide ((4611686018427387904 : Int) < (j.next : Int)) = false := by simpa using hl2
        rw [append_ok b hbr (by rw [hbl, ← hr]; intro h; rcases h with h | h; exact h1 h; exact hl h)]
        have Hdo := fun (W : World) (bW : BytesAt W ba b) (SW : Sep W (blkA w.heap.size #[.pointer (some ⟨q, 0, none⟩)] 67 :: blkA (w.heap.size + 1) #[.slice ba n cp] 31 :: jnA q p j :: diskA p D :: R)) =>
          does_sep SW.up2 hbr 56 #[] #[.pointer (some ⟨w.heap.size, 0, none⟩), .pointer (some ⟨w.heap.size + 1, 0, none⟩)] (putJ D j (pic j.next n b)).1 (enters_of Try.func56 (by kernel_rfl) rfl)
            (append1_sep SW bW hbl hnil hbn (by omega) rfl (by rw [hr] at h1; unfold roomJ at h1; omega) (by rw [hr] at h1; unfold roomJ at h1; omega))
        rw [hbl]
        have HDo := Lib.hid Hdo
        clear Hdo hl h1
        have Hb1 := Lib.hid hb1
        clear S1 S hbr hroomw hr hb hb1 hbl
        go_enter Try.func35, Try.ntmps35
        go_wp2_with fail
        rw [← Hw1.out]
        go_quiet ((go_at_call 55; refine Calls.quiet_of ((HRoom.out _ ((HS1.out.drewN _).drop.drop)).mono fun e w' h => ⟨h.1, 1, by rw [h.2]; rfl⟩)))
        go_wp2_with fail
        refine (HDo.out _ (by first | exact Hb1.out.below (Below.refl _ _).drew | exact Hb1.out) (by first | exact HS1.out.drewN _ | exact HS1.out.drew)).mono ?_
        rintro e w' ⟨rfl, S'⟩
        have HS' := Lib.hid S'
        clear S'
        go_wp2
        go_ret
        exact ⟨rfl, HS'.out⟩
end
end Go.Proofs.Ytnekelndcpmonaa
namespace Go.Proofs.Ytnekelndcpmonaa
open Go.RowKit

section
variable {w : World} {R : List Asn} {q p : Nat} {j : Jn} {D : Dk}
set_option maxHeartbeats 1600000 in
theorem format_sep (S : Sep w (diskA p D :: R)) (from_ size : Nat) (F Z : Int) (hF : F = (from_ : Int)) (hZ : Z = (size : Int)) (h2 : 2 ≤ size) (hs : from_ + size ≤ D.secs.length) (hw : D.waits.length ≤ 80000)
    (D1 D2 : Dk) (j1 j2 : Jn) (hr : resetJ D ⟨from_, size, 0, 1, false⟩ = (0, D1, j1)) (hc : commitJ D1 j1 = (0, D2, j2)) :
    Calls Try.prog 30 #[.pointer (some ⟨p, 0, none⟩), .int .i64 F, .int .i64 Z] w fun e w' => ∃ q, e = .returned (.tuple #[.pointer (some ⟨q, 0, none⟩), .int .i64 0]) ∧ Sep w' (jnA q p j2 :: diskA p D2 :: R) := by
  subst hF hZ
  go_enter Try.func30, Try.ntmps30
  go_wp2_with fail
  refine (made_sep S from_ size _ _ rfl rfl h2 hs).mono ?_
  rintro e w1 ⟨q, rfl, S1⟩
  have Hc := Lib.hid hc
  have Hr := Lib.hid hr
  clear hc hr S
  go_wp2_with fail
  refine (reset_sep S1 (by show from_ + 1 ≤ _; omega) (by omega)).mono ?_
  rw [Hr.out]
  dsimp only
  rintro e w2 ⟨rfl, S2⟩
  clear S1
  go_wp2_with fail
  refine (commit_sep S2).mono ?_
  rw [Hc.out]
  dsimp only
  rintro e w3 ⟨rfl, S3⟩
  clear S2
  go_wp2
  go_ret2
  exact ⟨_, rfl, S3⟩
set_option maxHeartbeats 1600000 in
theorem format_not (S : Sep w (diskA p D :: R)) (F Z : Int) (h : ¬ (2 ≤ Z ∧ 0 ≤ F ∧ Z ≤ (D.secs.length : Int) ∧ F ≤ (D.secs.length : Int) - Z)) :
    Calls Try.prog 30 #[.pointer (some ⟨p, 0, none⟩), .int .i64 F, .int .i64 Z] w fun e w' => e = .returned (.tuple #[.pointer none, .int .i64 1]) ∧ w = w' := by
  go_enter Try.func30, Try.ntmps30
  go_wp2_with fail
  refine (made_not S F Z h).mono ?_
  rintro e w1 ⟨rfl, rfl⟩
  clear h S
  go_wp2
  go_ret2
  exact ⟨rfl, rfl⟩

set_option maxHeartbeats 1600000 in
theorem equal_sep (a : Option Addr) (n cp : Nat) (l : List UInt8) (a' : Option Addr) (cp' : Nat) (l' : List UInt8) (hA : BytesAt w a l) (hA' : BytesAt w a' l') (hl : l.length = n) (hl' : l'.length = n) (hn9 : n ≤ 1000000000) (S : Sep w R) :
    Calls Try.prog 58 #[.slice a n cp, .slice a' n cp'] w fun e w' => e = .returned (.bool (decide (l = l'))) ∧ Sep w' R := by
  go_enter Try.func58, Try.ntmps58
  have hn : ((n : Int) != (n : Int)) = false := by simp
  go_wp2
  go_loopw [13] (fun i wr => ∃ k : Nat, k ≤ n ∧ i = .int .i64 k ∧ l.take k = l'.take k ∧ Sep wr R ∧ Below w.heap.size w wr) (fun i _ => n - (intOf i).toNat)
  case atStart => exact ⟨0, Nat.zero_le _, rfl, by simp, S, Below.refl _ _⟩
  case round =>
    obtain ⟨k, hk, rfl, he, Sr, hb⟩ := hrel
    have HSr := Lib.hid Sr
    have He := Lib.hid he
    clear Sr he S
    by_cases hlt : k < n
    · obtain ⟨b, o, rfl, hc⟩ := hA k (by omega)
      obtain ⟨b', o', rfl, hc'⟩ := hA' k (by omega)
      have hcr := (hb.cell (p := ⟨b, o + k, none⟩) (World.block_lt_of_cell? _ _ hc)).trans hc
      have hcr' := (hb.cell (p := ⟨b', o' + k, none⟩) (World.block_lt_of_cell? _ _ hc')).trans hc'
      obtain ⟨x, hx⟩ : ∃ x, x = l.getD k 0 := ⟨_, rfl⟩
      obtain ⟨y, hy⟩ : ∃ y, y = l'.getD k 0 := ⟨_, rfl⟩
      rw [← hx] at hcr
      rw [← hy] at hcr'
      have hk0 : (0 : Int) ≤ (k : Int) := by omega
      have hk1 : (k : Int) < (n : Int) := by omega
      have e1 : l.take (k + 1) = l.take k ++ [x] := by rw [List.take_succ_eq_append_getElem (by omega), hx]; simp [List.getD, show k < l.length by omega]
      have e2 : l'.take (k + 1) = l'.take k ++ [y] := by rw [List.take_succ_eq_append_getElem (by omega), hy]; simp [List.getD, show k < l'.length by omega]
      have E1 := Lib.hid e1
      have E2 := Lib.hid e2
      have HA := Lib.hid hA
      clear e1 e2 hx hy hc hc' hA hA'
      by_cases hxy : x = y
      · have hd : (((x.toNat : Nat) : Int) != (y.toNat : Int)) = false := by rw [hxy]; simp
        have Hxy := Lib.hid hxy
        clear hxy
        go_wp2_with fail
        go_quiet (fail)
        go_wp2
        go_roundw
        case rel => exact ⟨k + 1, by omega, by go_num, by rw [E1.out, E2.out, He.out, Hxy.out], by first | exact HSr.out.drewN _ | exact HSr.out.drew, hb.trans ⟨rfl, rfl, rfl, Nat.le_refl _, fun _ _ => rfl⟩⟩
        case measure => simp [intOf]; omega
      · have hd : (((x.toNat : Nat) : Int) != (y.toNat : Int)) = true := by
          simp only [bne_iff_ne, ne_eq]; intro h; exact hxy (UInt8.toNat_inj.1 (by omega))
        have hne : decide (l = l') = false := by
          simp only [decide_eq_false_iff_not]
          intro h
          have := E1.out
          rw [h, E2.out] at this
          have := List.append_inj_right' this rfl
          simp at this
          exact hxy this.symm
        have Hne := Lib.hid hne
        clear hxy hne
        go_wp2_with fail
        go_quiet (fail)
        go_wp2
        go_ret
        exact ⟨by rw [Hne.out]; rfl, by first | exact HSr.out.drewN _ | exact HSr.out.drew⟩
    · have hk1 : ¬ (k : Int) < (n : Int) := by omega
      have heq : decide (l = l') = true := by
        have := He.out
        rw [List.take_of_length_le (by omega), List.take_of_length_le (by omega)] at this
        simpa using this
      have Heq := Lib.hid heq
      clear heq hA hA'
      go_wp2
      go_ret
      exact ⟨by rw [Heq.out]; rfl, HSr.out⟩
end
end Go.Proofs.Ytnekelndcpmonaa
