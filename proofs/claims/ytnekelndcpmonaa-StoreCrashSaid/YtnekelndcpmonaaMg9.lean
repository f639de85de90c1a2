/- record. -/
import Derived.Test.YtnekelndcpmonaaMg8
set_option linter.all false
namespace Go.Proofs.Ytnekelndcpmonaa
set_option linter.unusedVariables false
open Go.RowKit

/-- What record leaves. -/
def RecPost (q p : Nat) (j : Jn) (R : List Asn) (r : RecR) (e : Ending) (w' : World) : Prop := match r with
  | .err D' => e = .returned (.tuple #[.slice none 0 0, .bool false, .int .i64 11]) ∧ Sep w' (jnA q p j :: diskA p D' :: R)
  | .none D' => e = .returned (.tuple #[.slice none 0 0, .bool false, .int .i64 0]) ∧ Sep w' (jnA q p j :: diskA p D' :: R)
  | .some b D' j' => ∃ g m cap pl, e = .returned (.tuple #[.slice (some ⟨g, 16, none⟩) b.length (cap - 16), .bool true, .int .i64 0]) ∧ b.length + 16 ≤ m ∧ m ≤ cap ∧ cap ≤ maxLen ∧ (pl.drop 16).take b.length = b ∧ Sep w' (bytesA (.slice (some ⟨g, 0, none⟩) m cap) m pl :: jnA q p j' :: diskA p D' :: R)

section
variable {w : World} {R : List Asn} {q p : Nat} {j : Jn} {D : Dk}
theorem rds_snoc : ∀ (k : Nat) (D : Dk) (at_ : Nat) (p pl : List UInt8) (Dk : Dk), rds k D at_ p = (true, pl, Dk) → rds (k + 1) D at_ p = if Dk.fell.down then (false, pl, Dk.begun) else (true, pl ++ Dk.begun.now (at_ + k), Dk.begun)
  | 0, D, at_, p, pl, Dk, h => by
    simp [rds] at h
    obtain ⟨rfl, rfl⟩ := h
    simp [rds]
  | k + 1, D, at_, p, pl, Dk, h => by
    rw [rds] at h
    rw [rds]
    by_cases hd : D.fell.down = true
    · rw [if_pos hd] at h; cases h
    · rw [if_neg hd] at h ⊢
      have := rds_snoc k _ _ _ _ _ h
      rw [this]
      have e : at_ + 1 + k = at_ + (k + 1) := by omega
      rw [e]
theorem rds_more : ∀ (k n : Nat) (D : Dk) (at_ : Nat) (p pl : List UInt8) (Dk : Dk), rds k D at_ p = (false, pl, Dk) → rds (k + n) D at_ p = (false, pl, Dk)
  | 0, n, D, at_, p, pl, Dk, h => by simp [rds] at h
  | k + 1, n, D, at_, p, pl, Dk, h => by
    have e : k + 1 + n = (k + n) + 1 := by omega
    rw [e, rds]
    rw [rds] at h
    by_cases hd : D.fell.down = true
    · rw [if_pos hd] at h ⊢; exact h
    · rw [if_neg hd] at h ⊢; exact rds_more k n _ _ _ _ _ h
theorem rds_len : ∀ (k : Nat) (D : Dk) (at_ : Nat) (p pl : List UInt8) (b : Bool) (Dk : Dk), rds k D at_ p = (b, pl, Dk) → Dk.secs.length = D.secs.length
  | 0, D, at_, p, pl, b, Dk, h => by cases h; rfl
  | k + 1, D, at_, p, pl, b, Dk, h => by
    rw [rds] at h
    split at h
    · cases h; exact begun_len D
    · rw [rds_len k _ _ _ _ _ _ h, begun_len]
theorem rec_end (h : j.used = j.size ∨ lastN < j.next) : recJ D j = .none D := by unfold recJ; rw [if_pos h]
theorem rec_err (h : ¬ (j.used = j.size ∨ lastN < j.next)) (hd : D.fell.down = true) : recJ D j = .err D.begun := by unfold recJ; rw [if_neg h, if_pos hd]
theorem rec_no (h : ¬ (j.used = j.size ∨ lastN < j.next)) (hd : D.fell.down = false) (p : List UInt8) (hp : D.begun.now (j.from_ + j.used) = p) (hn : numL (p.take 8) ≠ j.next ∨ roomJ j < numL ((p.drop 8).take 4)) : recJ D j = .none D.begun := by
  unfold recJ; rw [if_neg h, if_neg (by simp [hd])]; simp only [hp]; rw [if_pos hn]
theorem rec_go (h : ¬ (j.used = j.size ∨ lastN < j.next)) (hd : D.fell.down = false) (p : List UInt8) (hp : D.begun.now (j.from_ + j.used) = p) (len : Nat) (hl : numL ((p.drop 8).take 4) = len) (hn : ¬ (numL (p.take 8) ≠ j.next ∨ roomJ j < len))
    (ok : Bool) (pl : List UInt8) (D2 : Dk) (hx : rds ((len + 527) / 512 - 1) D.begun (j.from_ + j.used + 1) p = (ok, pl, D2)) :
    recJ D j = if ok = false then .err D2 else if headL j.next len ((pl.drop 16).take len) ≠ pl.take 16 then .none D2 else .some ((pl.drop 16).take len) D2 { j with used := j.used + (len + 527) / 512, next := j.next + 1 } := by
  unfold recJ; rw [if_neg h, if_neg (by simp [hd])]; simp only [hp, hl]; rw [if_neg hn, hx]

theorem slice_16 (g m cap len : Nat) (h1 : 16 + len ≤ cap) (h2 : 512 ≤ cap) (h3 : len < 4294967296) (h4 : m ≤ cap) (W : World) :
    (Instr.sliceAt 31 (.slice (some ⟨g, 0, none⟩) m cap) (some (.int .i64 16)) (some (.int .i64 (16 + (len : Int)))) none).run Try.prog W = .ok (.slice (some ⟨g, 16, none⟩) len (cap - 16)) W := by
  have a1 : (16 : Int) + (len : Int) ≤ (cap : Int) := by omega
  have a2 : (16 : Int) ≤ (cap : Int) := by omega
  have a3 : ((16 : Int) + (len : Int)).toNat = 16 + len := by omega
  have a4 : (0 : Int) ≤ 16 + (len : Int) := by omega
  have a5 : (16 : Int) ≤ 16 + (len : Int) := by omega
  have a6 : cap ≠ 16 := by omega
  have a7 : 16 + len - 16 = len := by omega
  clear h1 h2 h3 h4
  go_simp

theorem slice_h16 (g m cap : Nat) (h1 : 16 ≤ cap) (W : World) :
    (Instr.sliceAt 31 (.slice (some ⟨g, 0, none⟩) m cap) none (some (.int .i64 16)) none).run Try.prog W = .ok (.slice (some ⟨g, 0, none⟩) 16 cap) W := by
  have a1 : (16 : Int) ≤ (cap : Int) := by omega
  clear h1
  go_simp

set_option maxRecDepth 20000 in
set_option maxHeartbeats 4000000 in
theorem record_sep (S : Sep w (jnA q p j :: diskA p D :: R)) (hu : j.used ≤ j.size) (hsz : j.size ≤ 1000) (hs : j.from_ + j.size ≤ D.secs.length) :
    Calls Try.prog 59 #[.pointer (some ⟨q, 0, none⟩)] w (RecPost q p j R (recJ D j)) := by
  obtain ⟨c0, c1, c2, c3, c4, c5, _, hq⟩ := S.jn
  obtain ⟨_, _, hl3⟩ := dk_len S.up1
  have HS := Lib.hid S
  clear S
  by_cases h1 : j.used = j.size
  · rw [rec_end (.inl h1)]
    have hb1 : ((j.used : Int) == (j.size : Int)) = true := by rw [h1]; simp
    have H1 := Lib.hid h1
    clear h1
    go_enter Try.func59, Try.ntmps59
    go_wp2_with fail
    go_quiet (fail)
    go_wp2
    go_ret3
    exact ⟨rfl, by first | exact HS.out.drewN _ | exact HS.out.drew⟩
  have hb1 : ((j.used : Int) == (j.size : Int)) = false := by simp; omega
  by_cases h2 : lastN < j.next
  · rw [rec_end (.inr h2)]
    have hl2 : (4611686018427387904 : Int) < (j.next : Int) := by unfold lastN at h2; omega
    have hdec2 : decide ((4611686018427387904 : Int) < (j.next : Int)) = true := by simpa using hl2
    clear h1 h2
    go_enter Try.func59, Try.ntmps59
    go_wp2_with fail
    go_quiet (fail)
    go_wp2
    go_ret3
    exact ⟨rfl, by first | exact HS.out.drewN _ | exact HS.out.drew⟩
  have hl2 : ¬ (4611686018427387904 : Int) < (j.next : Int) := by unfold lastN at h2; omega
  have hdec2 : decide ((4611686018427387904 : Int) < (j.next : Int)) = false := by simpa using hl2
  have hno : ¬ (j.used = j.size ∨ lastN < j.next) := fun h => h.elim h1 h2
  have Hno := Lib.hid hno
  have hix : j.from_ + j.used < D.secs.length := by omega
  have Hn2 := Lib.hid h2
  clear h1 h2 hno
  have hwr : IntKind.i64.wrap ((j.from_ : Int) + (j.used : Int)) = ((j.from_ + j.used : Nat) : Int) := by rw [IntKind.wrap_i64]; omega
  have Hwr := Lib.hid hwr
  clear hwr
  cases hd : D.fell.down with
  | true =>
    rw [rec_err Hno.out hd]
    have Hd := Lib.hid hd
    clear hd
    go_enter Try.func59, Try.ntmps59
    go_wp2_with fail
    go_quiet (fail)
    go_wp2_with fail
    obtain ⟨w1, hw1, S1⟩ : ∃ w1, w1 = w.drewN nq ∧ Sep w1 (jnA q p j :: diskA p D :: R) := ⟨_, rfl, by first | exact HS.out.drewN _ | exact HS.out.drew⟩
    rw [← hw1]
    obtain ⟨d0, d1, d2, d3, d4, d5, _, dq⟩ := S1.jn
    have S1d := S1.drew.up1
    clear hw1 c0 c1 c2 c3 c4 c5 S1
    go_region_held (fun w' => w'.cell? ⟨q, 0, none⟩ = some (.pointer (some ⟨p, 0, none⟩)) ∧ w'.cell? ⟨q, 1, none⟩ = some (.int .i64 (j.from_ : Int)) ∧ w'.cell? ⟨q, 3, none⟩ = some (.int .i64 (j.used : Int))) (first | exact ⟨d0, d1, d3⟩ | exact ⟨e0, e1, e3⟩)
      (first | (go_at_call 42; refine (read_sep_down S1d (j.from_ + j.used) _ Hwr.out hix Hd.out).mono ?_; rintro e w2 ⟨rfl, S2⟩; obtain ⟨e0, e1, _, e3, _⟩ := S2.up1.jn))
    have HS2 := Lib.hid S2.up1
    clear S2 S1d
    go_wp2
    go_ret3
    exact ⟨rfl, HS2.out⟩
  | false =>
    obtain ⟨pb, hpb⟩ : ∃ pb, pb = D.begun.now (j.from_ + j.used) := ⟨_, rfl⟩
    obtain ⟨len, hlen⟩ : ∃ len, len = numL ((pb.drop 8).take 4) := ⟨_, rfl⟩
    obtain ⟨nn, hnn⟩ : ∃ nn, nn = numL (pb.take 8) := ⟨_, rfl⟩
    obtain ⟨D1, hD1⟩ : ∃ D1, D1 = D.begun := ⟨_, rfl⟩
    obtain ⟨rm, hrm⟩ : ∃ rm, rm = roomJ j := ⟨_, rfl⟩
    have hpost : RecPost q p j R (recJ D j) = RecPost q p j R (recJ D j) := rfl
    obtain ⟨PO, hPO⟩ : ∃ PO, PO = RecPost q p j R (recJ D j) := ⟨_, rfl⟩
    rw [← hPO]
    have HPO := Lib.hid hPO
    have Hpb := Lib.hid hpb
    have Hlen := Lib.hid hlen
    have Hnn := Lib.hid hnn
    have HD1 := Lib.hid hD1
    have Hrm := Lib.hid hrm
    have Hd := Lib.hid hd
    clear hpost hPO hpb hlen hnn hD1 hrm hd
    go_enter Try.func59, Try.ntmps59
    go_wp2_with fail
    go_quiet (fail)
    go_wp2_with fail
    obtain ⟨w1, hw1, S1⟩ : ∃ w1, w1 = w.drewN nq ∧ Sep w1 (jnA q p j :: diskA p D :: R) := ⟨_, rfl, by first | exact HS.out.drewN _ | exact HS.out.drew⟩
    rw [← hw1]
    obtain ⟨d0, d1, d2, d3, d4, d5, _, dq⟩ := S1.jn
    have S1d := S1.drew.up1
    clear hw1 c0 c1 c2 c3 c4 c5 S1
    go_region_held (fun w' => w'.cell? ⟨q, 0, none⟩ = some (.pointer (some ⟨p, 0, none⟩)) ∧ w'.cell? ⟨q, 1, none⟩ = some (.int .i64 (j.from_ : Int)) ∧ w'.cell? ⟨q, 3, none⟩ = some (.int .i64 (j.used : Int))) (first | exact ⟨d0, d1, d3⟩ | exact ⟨e0, e1, e3⟩)
      (first | (go_at_call 42; refine (read_sep S1d (j.from_ + j.used) _ Hwr.out hix Hd.out pb Hpb.out.symm).mono ?_; rintro e w2 ⟨B, rfl, S2⟩; obtain ⟨e0, e1, _, e3, e4, _, _, eq⟩ := S2.up2.jn))
    rw [← HD1.out] at S2
    have hb8 := S2.bytes.sub 8 4 (by omega)
    have hpbl := S2.bytes.len
    have hll : ((pb.drop 8).take 4).length = 4 := by rw [List.length_take, List.length_drop, hpbl]; omega
    have Hpbl := Lib.hid hpbl
    clear S1d d0 d1 d2 d3 d4 d5 hpbl
    go_wp2_with fail
    refine (number_sep S2 (some ⟨B, 8, none⟩) 4 _ _ hb8 hll (by omega)).mono ?_
    rw [← Hlen.out]
    rintro e w3 ⟨rfl, S3⟩
    clear hb8 hll S2
    obtain ⟨f0, f1, f2, f3, f4, f5, _, fq⟩ := S3.up2.jn
    have hlb : len < 4294967296 := by
      rw [Hlen.out]
      have := numL_lt ((pb.drop 8).take 4)
      have h4 : ((pb.drop 8).take 4).length = 4 := by rw [List.length_take, List.length_drop, Hpbl.out]; omega
      rw [h4] at this
      exact this
    have hb0 := S3.bytes.sub 0 8 (by omega)
    have hl8 : ((pb.drop 0).take 8).length = 8 := by rw [List.length_take, List.length_drop, Hpbl.out]; omega
    have hnb : nn < 18446744073709551616 := by
      rw [Hnn.out]
      have := numL_lt (pb.take 8)
      have h4 : (pb.take 8).length = 8 := by rw [List.length_take, Hpbl.out]; omega
      rw [h4] at this
      exact this
    have hnn0 : numL ((pb.drop 0).take 8) = nn := by rw [List.drop_zero, Hnn.out]
    have Hb0 := Lib.hid hb0
    have Hl8 := Lib.hid hl8
    have Hnn0 := Lib.hid hnn0
    have HS3 := Lib.hid S3
    clear hb0 hl8 hnn0 S3 e0 e1 e3 e4
    have hrm0 : 496 ≤ rm ∧ rm ≤ 512000 := by rw [Hrm.out]; unfold roomJ; constructor <;> (have := hb1; simp at this; omega)
    have l0 : (0 : Int) ≤ (len : Int) := by omega
    have l1 : (len : Int) < 4294967296 := by omega
    go_wp2_with fail
    refine AnyK.start (S := lateS (fun w' => w'.cell? ⟨q, 4, none⟩ = some (.int .u64 (j.next : Int))) []) (by kernel_rfl) ?_
    have hHeld : w3.drew.cell? ⟨q, 4, none⟩ = some (.int .u64 (j.next : Int)) := f4
    refine AnyK.take (i := 0) (T := [1, 2, 7, 8, 9, 10, 11, 12, 13, 14]) (v := ?va0) rfl (by kernel_rfl) (by kernel_rfl) (by kernel_rfl) (by kernel_rfl) (by kernel_rfl) (by kernel_rfl) (by kernel_rfl) (fun _ _ _ h => h) (Or.inl ⟨by rfl, ?ya0⟩) hHeld ?ra0
    case ya0 => (intro w hSw; (try dsimp only at hSw); go_simp; (try with_reducible rfl))
    try simp only [Act.put, List.getElem_toArray, List.getElem_cons_zero, List.setIfInBounds_toArray, List.set_cons_zero, List.set_cons_succ]
    refine AnyK.take (i := 1) (T := [2, 7, 8, 9, 10, 11, 12, 13, 14]) (v := ?va1) rfl (by kernel_rfl) (by kernel_rfl) (by kernel_rfl) (by kernel_rfl) (by kernel_rfl) (by kernel_rfl) (by kernel_rfl) (fun _ _ _ h => h) (Or.inl ⟨by rfl, ?ya1⟩) hHeld ?ra1
    case ya1 => (intro w hSw; (try dsimp only at hSw); go_simp; (try with_reducible rfl))
    try simp only [Act.put, List.getElem_toArray, List.getElem_cons_zero, List.getElem_cons_succ, List.setIfInBounds_toArray, List.set_cons_zero, List.set_cons_succ]
    refine AnyK.take (i := 3) (T := [4, 5, 6, 7, 8, 9, 10, 11, 12, 13, 14]) (v := ?va3) rfl (by kernel_rfl) (by kernel_rfl) (by kernel_rfl) (by kernel_rfl) (by kernel_rfl) (by kernel_rfl) (by kernel_rfl) (fun _ _ _ h => h) (Or.inl ⟨by rfl, ?ya3⟩) hHeld ?ra3
    case ya3 => (intro w hSw; (try dsimp only at hSw); go_simp; (try with_reducible rfl))
    try simp only [Act.put, List.getElem_toArray, List.getElem_cons_zero, List.getElem_cons_succ, List.setIfInBounds_toArray, List.set_cons_zero, List.set_cons_succ]
    refine AnyK.take (i := 4) (T := [5, 6, 7, 8, 9, 10, 11, 12, 13, 14]) (v := ?va4) rfl (by kernel_rfl) (by kernel_rfl) (by kernel_rfl) (by kernel_rfl) (by kernel_rfl) (by kernel_rfl) (by kernel_rfl) (fun _ _ _ h => h) (Or.inl ⟨by rfl, ?ya4⟩) hHeld ?ra4
    case ya4 => (intro w hSw; (try dsimp only at hSw); go_simp; (try with_reducible rfl))
    try simp only [Act.put, List.getElem_toArray, List.getElem_cons_zero, List.getElem_cons_succ, List.setIfInBounds_toArray, List.set_cons_zero, List.set_cons_succ]
    refine AnyK.take (i := 5) (T := [6, 7, 8, 9, 10, 11, 12, 13, 14]) (v := ?va5) rfl (by kernel_rfl) (by kernel_rfl) (by kernel_rfl) (by kernel_rfl) (by kernel_rfl) (by kernel_rfl) (by kernel_rfl) (fun _ _ _ h => h) (Or.inl ⟨by rfl, ?ya5⟩) hHeld ?ra5
    case ya5 => (intro w hSw; (try dsimp only at hSw); go_simp; (try with_reducible rfl))
    try simp only [Act.put, List.getElem_toArray, List.getElem_cons_zero, List.getElem_cons_succ, List.setIfInBounds_toArray, List.set_cons_zero, List.set_cons_succ]
    refine AnyK.take (i := 6) (T := [7, 8, 9, 10, 11, 12, 13, 14]) (v := ?va6) rfl (by kernel_rfl) (by kernel_rfl) (by kernel_rfl) (by kernel_rfl) (by kernel_rfl) (by kernel_rfl) (by kernel_rfl) (fun _ _ _ h => h) (Or.inl ⟨by rfl, ?ya6⟩) hHeld ?ra6
    case ya6 => (intro w hSw; (try dsimp only at hSw); go_simp; (try with_reducible rfl))
    try simp only [Act.put, List.getElem_toArray, List.getElem_cons_zero, List.getElem_cons_succ, List.setIfInBounds_toArray, List.set_cons_zero, List.set_cons_succ]
    refine AnyK.one (i := 2) (by kernel_rfl) rfl (fun K hK => ?_)
    go_simp
    refine (number_sep HS3.out.drew (some ⟨B, 0, none⟩) 8 _ _ Hb0.out Hl8.out (by omega)).mono ?_
    rw [Hnn0.out]
    rintro e w4 ⟨rfl, S4⟩
    obtain ⟨g0, g1, g2, g3, g4, g5, _, gq⟩ := S4.up2.jn
    refine hK.out _ _ (.inr g4) ?_
    clear hK K hHeld f0 f1 f2 f3 f4 f5
    have hHeld := g4
    have HS4 := Lib.hid S4
    clear S4
    by_cases hne : nn = j.next
    · have hbn : (((nn : Nat) : Int) != (j.next : Int)) = false := by rw [hne]; simp
      have Hne := Lib.hid hne
      clear hne
      refine AnyK.take (i := 7) (T := [8, 9, 10, 11, 12, 13, 14]) (v := ?vb7) rfl (by kernel_rfl) (by kernel_rfl) (by kernel_rfl) (by kernel_rfl) (by kernel_rfl) (by kernel_rfl) (by kernel_rfl) (fun _ _ _ h => h) (Or.inl ⟨by rfl, ?yb7⟩) hHeld ?rb7
      case yb7 => (intro w hSw; (try dsimp only at hSw); go_simp; (try with_reducible rfl))
      try simp only [Act.put, List.getElem_toArray, List.getElem_cons_zero, List.getElem_cons_succ, List.setIfInBounds_toArray, List.set_cons_zero, List.set_cons_succ]
      refine AnyK.take (i := 8) (T := [9, 10, 11, 12, 13, 14]) (v := ?vb8) rfl (by kernel_rfl) (by kernel_rfl) (by kernel_rfl) (by kernel_rfl) (by kernel_rfl) (by kernel_rfl) (by kernel_rfl) (fun _ _ _ h => h) (Or.inl ⟨by rfl, ?yb8⟩) hHeld ?rb8
      case yb8 => (intro w hSw; (try dsimp only at hSw); go_simp; (try with_reducible rfl))
      try simp only [Act.put, List.getElem_toArray, List.getElem_cons_zero, List.getElem_cons_succ, List.setIfInBounds_toArray, List.set_cons_zero, List.set_cons_succ]
      refine AnyK.take (i := 9) (T := [13, 14]) (v := ?vb9) rfl (by kernel_rfl) (by kernel_rfl) (by kernel_rfl) (by kernel_rfl) (by kernel_rfl) (by kernel_rfl) (by kernel_rfl) (fun _ _ _ h => h) (Or.inl ⟨by rfl, ?yb9⟩) hHeld ?rb9
      case yb9 => (intro w hSw; (try dsimp only at hSw); go_simp; (try with_reducible rfl))
      try simp only [Act.put, List.getElem_toArray, List.getElem_cons_zero, List.getElem_cons_succ, List.setIfInBounds_toArray, List.set_cons_zero, List.set_cons_succ]
      refine AnyK.take (i := 10) (T := [11, 12, 13, 14]) (v := ?vb10) rfl (by kernel_rfl) (by kernel_rfl) (by kernel_rfl) (by kernel_rfl) (by kernel_rfl) (by kernel_rfl) (by kernel_rfl) (fun _ _ _ h => h) (Or.inl ⟨by rfl, ?yb10⟩) hHeld ?rb10
      case yb10 => (intro w hSw; (try dsimp only at hSw); go_simp; (try with_reducible rfl))
      try simp only [Act.put, List.getElem_toArray, List.getElem_cons_zero, List.getElem_cons_succ, List.setIfInBounds_toArray, List.set_cons_zero, List.set_cons_succ]
      refine AnyK.one (i := 11) (by kernel_rfl) rfl (fun K hK => ?_)
      go_simp
      refine (room_sep HS4.out.up2 (by omega) hu).mono ?_
      rw [← Hrm.out]
      rintro e w5 ⟨rfl, rfl⟩
      refine hK.out _ _ (.inr g4) ?_
      clear hK K hHeld
      have hHeld : w4.drew.cell? ⟨q, 4, none⟩ = some (.int .u64 (j.next : Int)) := g4
      have hrw : IntKind.u64.wrap rm = rm := by rw [IntKind.wrap_u64]; omega
      by_cases hro : rm < (len : Int)
      · have hdr : decide (rm < (len : Int)) = true := by simpa using hro
        have Hro := Lib.hid hro
        clear hro
        refine AnyK.take (i := 12) (T := [13, 14]) (v := ?vc12) rfl (by kernel_rfl) (by kernel_rfl) (by kernel_rfl) (by kernel_rfl) (by kernel_rfl) (by kernel_rfl) (by kernel_rfl) (fun _ _ _ h => h) (Or.inl ⟨by rfl, ?yc12⟩) hHeld ?rc12
        case yc12 => (intro w hSw; (try dsimp only at hSw); go_simp; (try with_reducible rfl))
        try simp only [Act.put, List.getElem_toArray, List.getElem_cons_zero, List.getElem_cons_succ, List.setIfInBounds_toArray, List.set_cons_zero, List.set_cons_succ]
        refine AnyK.take (i := 13) (T := [14]) (v := ?vc13) rfl (by kernel_rfl) (by kernel_rfl) (by kernel_rfl) (by kernel_rfl) (by kernel_rfl) (by kernel_rfl) (by kernel_rfl) (fun _ _ _ h => h) (Or.inl ⟨by rfl, ?yc13⟩) hHeld ?rc13
        case yc13 => (intro w hSw; (try dsimp only at hSw); go_simp; (try with_reducible rfl))
        try simp only [Act.put, List.getElem_toArray, List.getElem_cons_zero, List.getElem_cons_succ, List.setIfInBounds_toArray, List.set_cons_zero, List.set_cons_succ]
        refine AnyK.take (i := 14) (T := []) (v := ?vc14) rfl (by kernel_rfl) (by kernel_rfl) (by kernel_rfl) (by kernel_rfl) (by kernel_rfl) (by kernel_rfl) (by kernel_rfl) (fun _ _ _ h => h) (Or.inl ⟨by rfl, ?yc14⟩) hHeld ?rc14
        case yc14 => (intro w hSw; (try dsimp only at hSw); go_simp; (try with_reducible rfl))
        try simp only [Act.put, List.getElem_toArray, List.getElem_cons_zero, List.getElem_cons_succ, List.setIfInBounds_toArray, List.set_cons_zero, List.set_cons_succ]
        refine AnyK.done (by kernel_rfl) ?_ _
        go_wp2
        go_ret3
        rw [HPO.out, rec_no Hno.out Hd.out pb Hpb.out.symm (.inr (by rw [← Hlen.out, ← Hrm.out]; exact Hro.out)), ← HD1.out]
        exact ⟨rfl, HS4.out.drop.up1.drew⟩
      · have hdr : decide (rm < (len : Int)) = false := by simpa using hro
        have Hro := Lib.hid hro
        clear hro
        refine AnyK.take (i := 12) (T := [13, 14]) (v := ?vd12) rfl (by kernel_rfl) (by kernel_rfl) (by kernel_rfl) (by kernel_rfl) (by kernel_rfl) (by kernel_rfl) (by kernel_rfl) (fun _ _ _ h => h) (Or.inl ⟨by rfl, ?yd12⟩) hHeld ?rd12
        case yd12 => (intro w hSw; (try dsimp only at hSw); go_simp; (try with_reducible rfl))
        try simp only [Act.put, List.getElem_toArray, List.getElem_cons_zero, List.getElem_cons_succ, List.setIfInBounds_toArray, List.set_cons_zero, List.set_cons_succ]
        refine AnyK.take (i := 13) (T := [14]) (v := ?vd13) rfl (by kernel_rfl) (by kernel_rfl) (by kernel_rfl) (by kernel_rfl) (by kernel_rfl) (by kernel_rfl) (by kernel_rfl) (fun _ _ _ h => h) (Or.inl ⟨by rfl, ?yd13⟩) hHeld ?rd13
        case yd13 => (intro w hSw; (try dsimp only at hSw); go_simp; (try with_reducible rfl))
        try simp only [Act.put, List.getElem_toArray, List.getElem_cons_zero, List.getElem_cons_succ, List.setIfInBounds_toArray, List.set_cons_zero, List.set_cons_succ]
        refine AnyK.take (i := 14) (T := []) (v := ?vd14) rfl (by kernel_rfl) (by kernel_rfl) (by kernel_rfl) (by kernel_rfl) (by kernel_rfl) (by kernel_rfl) (by kernel_rfl) (fun _ _ _ h => h) (Or.inl ⟨by rfl, ?yd14⟩) hHeld ?rd14
        case yd14 => (intro w hSw; (try dsimp only at hSw); go_simp; (try with_reducible rfl))
        try simp only [Act.put, List.getElem_toArray, List.getElem_cons_zero, List.getElem_cons_succ, List.setIfInBounds_toArray, List.set_cons_zero, List.set_cons_succ]
        refine AnyK.done (by kernel_rfl) ?_ _
        obtain ⟨sc, hsc0⟩ : ∃ sc, sc = (len + 527) / 512 := ⟨_, rfl⟩
        have hsc : ((16 : Int) + (len : Int) + 512 - 1) / 512 = (sc : Int) := by omega
        have hsc1 : 1 ≤ sc := by omega
        have hsc2 : j.used + sc ≤ j.size := by have := Hro.out; have h2 := Hrm.out; unfold roomJ at h2; omega
        have hlsc : 16 + len ≤ 512 * sc := by omega
        have hgo : ¬ (numL (pb.take 8) ≠ j.next ∨ roomJ j < len) := by rw [← Hnn.out, ← Hrm.out]; have := Hne.out; have := Hro.out; omega
        have Hgo := Lib.hid hgo
        clear hgo
        have Hsc0 := Lib.hid hsc0
        clear hsc0
        go_wp2_with fail
        clear hsc
        have HS5 := Lib.hid HS4.out.drew
        clear hHeld g0 g1 g2 g3 g4 g5 HS4 HS3 Hb0 Hl8 Hnn0 hbn hdr hrw
        go_loopw [9, 5] (fun i pv wr => ∃ (k g cap m : Nat) (pl : List UInt8) (Dx : Dk), 1 ≤ k ∧ k ≤ sc ∧ m = 512 * k ∧ i = .int .i64 (k : Int) ∧ pv = .slice (some ⟨g, 0, none⟩) m cap ∧ m ≤ cap ∧ cap ≤ maxLen ∧ rds (k - 1) D1 (j.from_ + j.used + 1) pb = (true, pl, Dx) ∧ Sep wr (bytesA (.slice (some ⟨g, 0, none⟩) m cap) m pl :: diskA p Dx :: jnA q p j :: R)) (fun i _ _ => sc - (intOf i).toNat)
        case atStart => exact ⟨1, B, 512, 512, pb, D1, Nat.le_refl _, hsc1, rfl, rfl, rfl, by omega, by unfold maxLen; omega, rfl, HS5.out⟩
        case round =>
          obtain ⟨k, g, cap, m, pl, Dx, hk1, hk2, hm, rfl, rfl, hgc, hcm, hx, Sr⟩ := hrel
          have hDl : Dx.secs.length = D.secs.length := by rw [rds_len _ _ _ _ _ _ _ hx, HD1.out, begun_len]
          have Hx := Lib.hid hx
          have Hm := Lib.hid hm
          clear hx hm HS5
          obtain ⟨d0, d1, d2, d3, d4, d5, _, dq⟩ := Sr.up2.jn
          have hwk : IntKind.i64.wrap (IntKind.i64.wrap ((j.from_ : Int) + (j.used : Int)) + (k : Int)) = ((j.from_ + j.used + k : Nat) : Int) := by rw [Hwr.out, IntKind.wrap_i64]; omega
          have Hwk := Lib.hid hwk
          clear hwk
          have hixk : j.from_ + j.used + k < Dx.secs.length ∨ k = sc := by omega
          by_cases hlt : k < sc
          · have hlt1 : (k : Int) < (sc : Int) := by omega
            have hik : j.from_ + j.used + k < Dx.secs.length := by omega
            cases hdk : Dx.fell.down with
            | true =>
              have Hdk := Lib.hid hdk
              have Sd := Sr.drew.up1
              clear hdk Sr
              go_wp2_with fail
              go_region_held (fun w' => w'.cell? ⟨q, 0, none⟩ = some (.pointer (some ⟨p, 0, none⟩)) ∧ w'.cell? ⟨q, 1, none⟩ = some (.int .i64 (j.from_ : Int)) ∧ w'.cell? ⟨q, 3, none⟩ = some (.int .i64 (j.used : Int))) (first | exact ⟨d0, d1, d3⟩ | exact ⟨e0, e1, e3⟩)
                (first | (go_at_call 42; refine (read_sep_down Sd (j.from_ + j.used + k) _ Hwk.out hik Hdk.out).mono ?_; rintro e w2 ⟨rfl, S2⟩; obtain ⟨e0, e1, _, e3, _⟩ := S2.up2.jn))
              have HS2 := Lib.hid S2.up1.drop.up1
              clear S2 Sd
              go_wp2
              go_ret3
              have h1 := rds_snoc _ _ _ _ _ _ Hx.out
              rw [if_pos Hdk.out] at h1
              have h2 := rds_more _ (sc - 1 - (k - 1 + 1)) _ _ _ _ _ h1
              have e : k - 1 + 1 + (sc - 1 - (k - 1 + 1)) = (len + 527) / 512 - 1 := by rw [← Hsc0.out]; omega
              rw [e, HD1.out] at h2
              rw [HPO.out, rec_go Hno.out Hd.out pb Hpb.out.symm len Hlen.out.symm Hgo.out false pl Dx.begun h2]
              exact ⟨rfl, HS2.out⟩
            | false =>
              obtain ⟨l, hl⟩ : ∃ l, l = Dx.begun.now (j.from_ + j.used + k) := ⟨_, rfl⟩
              have Hl := Lib.hid hl
              have Hdk := Lib.hid hdk
              have Sd := Sr.drew.up1
              clear hdk Sr hl
              go_wp2_with fail
              go_region_held (fun w' => w'.cell? ⟨q, 0, none⟩ = some (.pointer (some ⟨p, 0, none⟩)) ∧ w'.cell? ⟨q, 1, none⟩ = some (.int .i64 (j.from_ : Int)) ∧ w'.cell? ⟨q, 3, none⟩ = some (.int .i64 (j.used : Int))) (first | exact ⟨d0, d1, d3⟩ | exact ⟨e0, e1, e3⟩)
                (first | (go_at_call 42; refine (read_sep Sd (j.from_ + j.used + k) _ Hwk.out hik Hdk.out l Hl.out.symm).mono ?_; rintro e w2 ⟨B2, rfl, S2⟩; obtain ⟨e0, e1, _, e3, _⟩ := S2.up3.jn))
              have S3 := S2.up2
              have hr2 := S2.bytes.reads
              have hl2 := S2.bytes.len
              clear S2 Sd
              go_wp2_with (at_builtin; refine wpList_append_b rfl (.tmp 100) (.tmp 101) rfl S3 rfl (some ⟨B2, 0, none⟩) 512 512 l rfl (by simp) hr2 hl2 (by have := Hm.out; omega) ?next)
              case next =>
                intro g' cap' w3 S4 _ hc' hm' _
                obtain ⟨g2, rfl, _⟩ := S4.bytes.at (by omega)
                have S5 := S4.up1.drop
                clear S3 S4 hr2 hl2 d0 d1 d2 d3 d4 d5 e0 e1 e3
                go_wp2
                go_roundw
                case rel =>
                  have h1 := rds_snoc _ _ _ _ _ _ Hx.out
                  rw [if_neg (by rw [Hdk.out]; simp)] at h1
                  have e : k - 1 + 1 = k + 1 - 1 := by omega
                  have e2 : j.from_ + j.used + 1 + (k - 1) = j.from_ + j.used + k := by omega
                  rw [e2, ← Hl.out, e] at h1
                  exact ⟨k + 1, g2, cap', m + 512, pl ++ l, Dx.begun, by omega, by omega, by have := Hm.out; omega, by go_num, rfl, hc', hm', h1, S5⟩
                case measure => simp [intOf]; omega
          · have hlt1 : ¬ (k : Int) < (sc : Int) := by omega
            have hks : k = sc := by omega
            have Hks := Lib.hid hks
            have hcl : 16 + len ≤ cap := by have := Hm.out; omega
            have hc5 : 512 ≤ cap := by have := Hm.out; omega
            have hm16 : 16 + len ≤ m := by have := Hm.out; omega
            have hsl := slice_16 g m cap len hcl hc5 hlb hgc
            have Hcl := Lib.hid hcl
            have Hgc := Lib.hid hgc
            have Hcm := Lib.hid hcm
            have Hm16 := Lib.hid hm16
            have Hhlb := Lib.hid hlb
            have Hrm0 := Lib.hid hrm0
            clear hks hixk hlt hk2 hlsc hsc1 hDl hcl hc5 hgc hcm hm16
            go_wp2_with fail
            have hpl := Sr.bytes.len
            obtain ⟨bb, hbb⟩ : ∃ bb, bb = (pl.drop 16).take len := ⟨_, rfl⟩
            have hbl : bb.length = len := by rw [hbb, List.length_take, List.length_drop, hpl]; have := Hm16.out; omega
            have hbat := Sr.drew.bytes.sub 16 len Hm16.out
            rw [← hbb] at hbat
            obtain ⟨L1, hL1⟩ : ∃ L1, L1 = (pic j.next len bb).take 16 := ⟨_, rfl⟩
            obtain ⟨L2, hL2⟩ : ∃ L2, L2 = pl.take 16 := ⟨_, rfl⟩
            have hL1l : L1.length = 16 := by rw [hL1, pic_head, headL_len]
            have hL2l : L2.length = 16 := by rw [hL2, List.length_take, hpl]; have := Hm16.out; omega
            have hrec : recJ D j = if headL j.next len bb ≠ L2 then .none Dx else .some bb Dx { j with used := j.used + sc, next := j.next + 1 } := by
              have h2 := Hx.out
              have e : k - 1 = (len + 527) / 512 - 1 := by rw [← Hsc0.out, Hks.out]
              rw [e, HD1.out] at h2
              rw [rec_go Hno.out Hd.out pb Hpb.out.symm len Hlen.out.symm Hgo.out true pl Dx h2, if_neg (by simp), ← Hsc0.out, ← hbb, ← hL2]
            rw [← pic_head, ← hL1] at hrec
            have Hrec := Lib.hid hrec
            have HL1 := Lib.hid hL1
            have HL2 := Lib.hid hL2
            have Hbb := Lib.hid hbb
            have Hbl := Lib.hid hbl
            have Hbat := Lib.hid hbat
            have HL1l := Lib.hid hL1l
            have HL2l := Lib.hid hL2l
            have Hpl := Lib.hid hpl
            have hnb2 : j.next < 18446744073709551616 := by omega
            have HSr := Lib.hid Sr.drew
            clear hrec hL1 hL2 hbb hbl hbat hL1l hL2l hpl hsl Sr d0 d1 d2 d3 d5
            have hs9 := slice_h16 g m cap (by have := Hcl.out; omega)
            refine AnyK.start (S := lateS (fun w' => w'.cell? ⟨q, 4, none⟩ = some (.int .u64 (j.next : Int))) []) (by kernel_rfl) ?_
            have hHeld : wr.drew.cell? ⟨q, 4, none⟩ = some (.int .u64 (j.next : Int)) := d4
            refine AnyK.take (i := 0) (T := [1, 2, 3, 6, 7, 10, 11]) (v := ?vp0) rfl (by kernel_rfl) (by kernel_rfl) (by kernel_rfl) (by kernel_rfl) (by kernel_rfl) (by kernel_rfl) (by kernel_rfl) (fun _ _ _ h => h) (Or.inl ⟨by rfl, ?yp0⟩) hHeld ?rp0
            case yp0 => (intro w hSw; (try dsimp only at hSw); go_simp; (try with_reducible rfl))
            try simp only [Act.put, List.getElem_toArray, List.getElem_cons_zero, List.setIfInBounds_toArray, List.set_cons_zero, List.set_cons_succ]
            refine AnyK.take (i := 1) (T := [2, 3, 6, 7, 10, 11]) (v := ?vp1) rfl (by kernel_rfl) (by kernel_rfl) (by kernel_rfl) (by kernel_rfl) (by kernel_rfl) (by kernel_rfl) (by kernel_rfl) (fun _ _ _ h => h) (Or.inl ⟨by rfl, ?yp1⟩) hHeld ?rp1
            case yp1 => (intro w hSw; (try dsimp only at hSw); go_simp; (try with_reducible rfl))
            try simp only [Act.put, List.getElem_toArray, List.getElem_cons_zero, List.getElem_cons_succ, List.setIfInBounds_toArray, List.set_cons_zero, List.set_cons_succ]
            refine AnyK.take (i := 2) (T := [3, 6, 7, 10, 11]) (v := ?vp2) rfl (by kernel_rfl) (by kernel_rfl) (by kernel_rfl) (by kernel_rfl) (by kernel_rfl) (by kernel_rfl) (by kernel_rfl) (fun _ _ _ h => h) (Or.inl ⟨by rfl, ?yp2⟩) hHeld ?rp2
            case yp2 => (intro w hSw; (try dsimp only at hSw); go_simp; (try with_reducible rfl))
            try simp only [Act.put, List.getElem_toArray, List.getElem_cons_zero, List.getElem_cons_succ, List.setIfInBounds_toArray, List.set_cons_zero, List.set_cons_succ]
            refine AnyK.take (i := 3) (T := [6, 7, 10, 11]) (v := ?vp3) rfl (by kernel_rfl) (by kernel_rfl) (by kernel_rfl) (by kernel_rfl) (by kernel_rfl) (by kernel_rfl) (by kernel_rfl) (fun _ _ _ h => h) (Or.inl ⟨by rfl, ?yp3⟩) hHeld ?rp3
            case yp3 => (intro w hSw; (try dsimp only at hSw); go_simp; (try with_reducible rfl))
            try simp only [Act.put, List.getElem_toArray, List.getElem_cons_zero, List.getElem_cons_succ, List.setIfInBounds_toArray, List.set_cons_zero, List.set_cons_succ]
            refine AnyK.take (i := 4) (T := [6, 7, 10, 11]) (v := ?vp4) rfl (by kernel_rfl) (by kernel_rfl) (by kernel_rfl) (by kernel_rfl) (by kernel_rfl) (by kernel_rfl) (by kernel_rfl) (fun _ _ _ h => h) (Or.inl ⟨by rfl, ?yp4⟩) hHeld ?rp4
            case yp4 => (intro w hSw; (try dsimp only at hSw); go_simp; (try with_reducible rfl))
            try simp only [Act.put, List.getElem_toArray, List.getElem_cons_zero, List.getElem_cons_succ, List.setIfInBounds_toArray, List.set_cons_zero, List.set_cons_succ]
            refine AnyK.take (i := 5) (T := [6, 7, 10, 11]) (v := ?vp5) rfl (by kernel_rfl) (by kernel_rfl) (by kernel_rfl) (by kernel_rfl) (by kernel_rfl) (by kernel_rfl) (by kernel_rfl) (fun _ _ _ h => h) (Or.inl ⟨by rfl, ?yp5⟩) hHeld ?rp5
            case yp5 => (intro w hSw; (try dsimp only at hSw); go_simp; (try with_reducible rfl))
            try simp only [Act.put, List.getElem_toArray, List.getElem_cons_zero, List.getElem_cons_succ, List.setIfInBounds_toArray, List.set_cons_zero, List.set_cons_succ]
            refine AnyK.take (i := 8) (T := [9, 10, 11]) (v := ?vp8) rfl (by kernel_rfl) (by kernel_rfl) (by kernel_rfl) (by kernel_rfl) (by kernel_rfl) (by kernel_rfl) (by kernel_rfl) (fun _ _ _ h => h) (Or.inl ⟨by rfl, ?yp8⟩) hHeld ?rp8
            case yp8 => (intro w hSw; (try dsimp only at hSw); go_simp; (try with_reducible rfl))
            try simp only [Act.put, List.getElem_toArray, List.getElem_cons_zero, List.getElem_cons_succ, List.setIfInBounds_toArray, List.set_cons_zero, List.set_cons_succ]
            refine AnyK.take (i := 9) (T := [10, 11]) (v := ?vp9) rfl (by kernel_rfl) (by kernel_rfl) (by kernel_rfl) (by kernel_rfl) (by kernel_rfl) (by kernel_rfl) (by kernel_rfl) (fun _ _ _ h => h) (Or.inl ⟨by rfl, ?yp9⟩) hHeld ?rp9
            case yp9 => (intro w hSw; (try dsimp only at hSw); go_simp; (try with_reducible rfl))
            try simp only [Act.put, List.getElem_toArray, List.getElem_cons_zero, List.getElem_cons_succ, List.setIfInBounds_toArray, List.set_cons_zero, List.set_cons_succ]
            refine AnyK.one (i := 6) (by kernel_rfl) rfl (fun K hK => ?_)
            go_simp
            refine (picture_sep HSr.out j.next _ rfl len _ rfl hnb2 (by have := Hhlb.out; omega) (some ⟨g, 16, none⟩) len (cap - 16) bb Hbat.out Hbl.out (by have := Hro.out; have := Hrm0.out; omega) (by simp)).mono ?_
            rintro e w5 ⟨g5, m5, c5, rfl, S5, hm5, hc5⟩
            have hp5 := S5.bytes.len
            have hge : 16 ≤ m5 := by rw [← hp5, pic_len]; omega
            have hsA := S5.bytes.sub 0 16 hge
            have hsB := S5.up1.bytes.sub 0 16 (by have := Hm16.out; omega)
            rw [List.drop_zero, ← HL1.out] at hsA
            rw [List.drop_zero, ← HL2.out] at hsB
            have f4 := S5.up3.jn.2.2.2.2.1
            refine hK.out _ _ (.inr f4) ?_
            clear hK K hHeld d4 hs9
            have hHeld := f4
            have HS5 := Lib.hid S5
            have hs7 := slice_h16 g5 m5 c5 (by omega)
            have HsA := Lib.hid hsA
            have HsB := Lib.hid hsB
            clear S5 hm5 hc5 hp5 hge hsA hsB f4
            refine AnyK.take (i := 7) (T := [10, 11]) (v := ?vp7) rfl (by kernel_rfl) (by kernel_rfl) (by kernel_rfl) (by kernel_rfl) (by kernel_rfl) (by kernel_rfl) (by kernel_rfl) (fun _ _ _ h => h) (Or.inl ⟨by rfl, ?yp7⟩) hHeld ?rp7
            case yp7 => (intro w hSw; (try dsimp only at hSw); go_simp; (try with_reducible rfl))
            try simp only [Act.put, List.getElem_toArray, List.getElem_cons_zero, List.getElem_cons_succ, List.setIfInBounds_toArray, List.set_cons_zero, List.set_cons_succ]
            refine AnyK.one (i := 10) (by kernel_rfl) rfl (fun K hK => ?_)
            go_simp
            refine (equal_sep _ 16 _ L1 _ _ L2 HsA.out HsB.out HL1l.out HL2l.out (by omega) HS5.out).mono ?_
            obtain ⟨bq, hbq⟩ : ∃ bq, bq = decide (L1 = L2) := ⟨_, rfl⟩
            rw [← hbq]
            have Hbq := Lib.hid hbq
            clear hbq
            rintro e w6 ⟨rfl, S6⟩
            have f4 := S6.up3.jn.2.2.2.2.1
            refine hK.out _ _ (.inr f4) ?_
            clear hK K hHeld hs7
            have hHeld := f4
            have HS6 := Lib.hid S6.drop
            clear S6
            refine AnyK.take (i := 11) (T := []) (v := ?vp11) rfl (by kernel_rfl) (by kernel_rfl) (by kernel_rfl) (by kernel_rfl) (by kernel_rfl) (by kernel_rfl) (by kernel_rfl) (fun _ _ _ h => h) (Or.inl ⟨by rfl, ?yp11⟩) hHeld ?rp11
            case yp11 => (intro w hSw; (try dsimp only at hSw); go_simp; (try with_reducible rfl))
            try simp only [Act.put, List.getElem_toArray, List.getElem_cons_zero, List.getElem_cons_succ, List.setIfInBounds_toArray, List.set_cons_zero, List.set_cons_succ]
            refine AnyK.done (by kernel_rfl) ?_ _
            cases bq with
            | true =>
              have heq : L1 = L2 := by simpa using Hbq.out.symm
              have hr2 := Hrec.out
              rw [if_neg (by simpa using heq)] at hr2
              have Hr2 := Lib.hid hr2
              have hws : IntKind.i64.wrap ((j.used : Int) + (sc : Int)) = ((j.used + sc : Nat) : Int) := by rw [IntKind.wrap_i64]; omega
              have hwn : IntKind.u64.wrap ((j.next : Int) + 1) = ((j.next + 1 : Nat) : Int) := by rw [IntKind.wrap_u64]; omega
              have hS7 := (HS6.out.up2.jn_used (j.used + sc)).jn_next (j.next + 1)
              have hn6 := HS6.out.up2.jn.2.2.2.2.2.2.1
              have hu6 := HS6.out.up2.jn.2.2.2.1
              have HS7 := Lib.hid hS7
              clear heq hr2 hS7 hnb2 f4
              simp only [Bool.not_true]
              go_wp2_with fail
              go_ret3
              rw [HPO.out, Hr2.out]
              have h7 := HS7.out.up1
              push_cast at h7
              exact ⟨g, m, cap, pl, by rw [Hbl.out]; rfl, by rw [Hbl.out]; have := Hm16.out; omega, Hgc.out, Hcm.out, by rw [Hbl.out]; exact Hbb.out.symm, h7⟩
            | false =>
              have heq : ¬ L1 = L2 := by simpa using Hbq.out.symm
              have hr2 := Hrec.out
              rw [if_pos heq] at hr2
              have Hr2 := Lib.hid hr2
              clear heq hr2
              simp only [Bool.not_false]
              go_wp2
              go_ret3
              rw [HPO.out, Hr2.out]
              exact ⟨rfl, HS6.out.drop.up1⟩
    · have hbn : (((nn : Nat) : Int) != (j.next : Int)) = true := by simp; omega
      have Hne := Lib.hid hne
      clear hne
      refine AnyK.take (i := 7) (T := [8, 9, 10, 11, 12, 13, 14]) (v := ?ve7) rfl (by kernel_rfl) (by kernel_rfl) (by kernel_rfl) (by kernel_rfl) (by kernel_rfl) (by kernel_rfl) (by kernel_rfl) (fun _ _ _ h => h) (Or.inl ⟨by rfl, ?ye7⟩) hHeld ?re7
      case ye7 => (intro w hSw; (try dsimp only at hSw); go_simp; (try with_reducible rfl))
      try simp only [Act.put, List.getElem_toArray, List.getElem_cons_zero, List.getElem_cons_succ, List.setIfInBounds_toArray, List.set_cons_zero, List.set_cons_succ]
      refine AnyK.take (i := 8) (T := [9, 10, 11, 12, 13, 14]) (v := ?ve8) rfl (by kernel_rfl) (by kernel_rfl) (by kernel_rfl) (by kernel_rfl) (by kernel_rfl) (by kernel_rfl) (by kernel_rfl) (fun _ _ _ h => h) (Or.inl ⟨by rfl, ?ye8⟩) hHeld ?re8
      case ye8 => (intro w hSw; (try dsimp only at hSw); go_simp; (try with_reducible rfl))
      try simp only [Act.put, List.getElem_toArray, List.getElem_cons_zero, List.getElem_cons_succ, List.setIfInBounds_toArray, List.set_cons_zero, List.set_cons_succ]
      refine AnyK.take (i := 9) (T := [13, 14]) (v := undef) rfl (by kernel_rfl) (by kernel_rfl) (by kernel_rfl) (by kernel_rfl) (by kernel_rfl) (by kernel_rfl) (by kernel_rfl) (fun _ _ _ h => h) (Or.inr ⟨by rfl, rfl⟩) hHeld ?se9
      try simp only [Act.put, List.getElem_toArray, List.getElem_cons_zero, List.getElem_cons_succ, List.setIfInBounds_toArray, List.set_cons_zero, List.set_cons_succ]
      refine AnyK.take (i := 10) (T := [11, 12, 13, 14]) (v := undef) rfl (by kernel_rfl) (by kernel_rfl) (by kernel_rfl) (by kernel_rfl) (by kernel_rfl) (by kernel_rfl) (by kernel_rfl) (fun _ _ _ h => h) (Or.inr ⟨by rfl, rfl⟩) hHeld ?se10
      try simp only [Act.put, List.getElem_toArray, List.getElem_cons_zero, List.getElem_cons_succ, List.setIfInBounds_toArray, List.set_cons_zero, List.set_cons_succ]
      refine AnyK.take (i := 11) (T := [12, 13, 14]) (v := undef) rfl (by kernel_rfl) (by kernel_rfl) (by kernel_rfl) (by kernel_rfl) (by kernel_rfl) (by kernel_rfl) (by kernel_rfl) (fun _ _ _ h => h) (Or.inr ⟨by rfl, rfl⟩) hHeld ?se11
      try simp only [Act.put, List.getElem_toArray, List.getElem_cons_zero, List.getElem_cons_succ, List.setIfInBounds_toArray, List.set_cons_zero, List.set_cons_succ]
      refine AnyK.take (i := 12) (T := [13, 14]) (v := undef) rfl (by kernel_rfl) (by kernel_rfl) (by kernel_rfl) (by kernel_rfl) (by kernel_rfl) (by kernel_rfl) (by kernel_rfl) (fun _ _ _ h => h) (Or.inr ⟨by rfl, rfl⟩) hHeld ?se12
      try simp only [Act.put, List.getElem_toArray, List.getElem_cons_zero, List.getElem_cons_succ, List.setIfInBounds_toArray, List.set_cons_zero, List.set_cons_succ]
      refine AnyK.take (i := 13) (T := [14]) (v := undef) rfl (by kernel_rfl) (by kernel_rfl) (by kernel_rfl) (by kernel_rfl) (by kernel_rfl) (by kernel_rfl) (by kernel_rfl) (fun _ _ _ h => h) (Or.inr ⟨by rfl, rfl⟩) hHeld ?se13
      try simp only [Act.put, List.getElem_toArray, List.getElem_cons_zero, List.getElem_cons_succ, List.setIfInBounds_toArray, List.set_cons_zero, List.set_cons_succ]
      refine AnyK.take (i := 14) (T := []) (v := ?ve14) rfl (by kernel_rfl) (by kernel_rfl) (by kernel_rfl) (by kernel_rfl) (by kernel_rfl) (by kernel_rfl) (by kernel_rfl) (fun _ _ _ h => h) (Or.inl ⟨by rfl, ?ye14⟩) hHeld ?re14
      case ye14 => (intro w hSw; (try dsimp only at hSw); go_simp; (try with_reducible rfl))
      try simp only [Act.put, List.getElem_toArray, List.getElem_cons_zero, List.getElem_cons_succ, List.setIfInBounds_toArray, List.set_cons_zero, List.set_cons_succ]
      refine AnyK.done (by kernel_rfl) ?_ _
      go_wp2
      go_ret3
      rw [HPO.out, rec_no Hno.out Hd.out pb Hpb.out.symm (.inl (by rw [← Hnn.out]; exact Hne.out)), ← HD1.out]
      exact ⟨rfl, HS4.out.drop.up1⟩
end
end Go.Proofs.Ytnekelndcpmonaa
