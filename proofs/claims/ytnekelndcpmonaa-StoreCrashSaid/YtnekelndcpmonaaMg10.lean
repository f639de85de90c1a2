/- Open. law03's helpers. -/
import Derived.Test.YtnekelndcpmonaaMg9
set_option linter.all false
namespace Go.Proofs.Ytnekelndcpmonaa
set_option linter.unusedVariables false
open Go.RowKit

/-- A record as Open hands it out: a piece of a block of its own. -/
structure Rec where
  g : Nat
  m : Nat
  cap : Nat
  n : Nat
  pl : List UInt8
def Rec.val (r : Rec) : Value := .slice (some ⟨r.g, 16, none⟩) r.n (r.cap - 16)
def Rec.asn (r : Rec) : Asn := bytesA (.slice (some ⟨r.g, 0, none⟩) r.m r.cap) r.m r.pl
def Rec.bytes (r : Rec) : List UInt8 := (r.pl.drop 16).take r.n
def Rec.ok (r : Rec) : Prop := r.n + 16 ≤ r.m ∧ r.m ≤ r.cap ∧ r.cap ≤ maxLen
def recsL (v : Value) (rs : List Rec) : List Asn := ownA 31 1 v rs.length (rs.map Rec.val) :: rs.map Rec.asn
def recsA (v : Value) (rs : List Rec) : Asn := packA (recsL v rs)
theorem recsL_base (v : Value) (rs : List Rec) : ∀ A ∈ recsL v rs, A.base = 0 := fun A hA => by
  rcases List.mem_cons.1 hA with rfl | hA
  · rfl
  · obtain ⟨r, _, rfl⟩ := List.mem_map.1 hA; rfl
theorem recs_pack {w : World} {v : Value} {rs : List Rec} {R : List Asn} (h : Sep w (recsL v rs ++ R)) : Sep w (recsA v rs :: R) := h.pack (recsL_base v rs)
theorem recs_open {w : World} {v : Value} {rs : List Rec} {R : List Asn} (h : Sep w (recsA v rs :: R)) : Sep w (ownA 31 1 v rs.length (rs.map Rec.val) :: (rs.map Rec.asn ++ R)) := h.unpack
theorem recs_nil {w : World} {R : List Asn} (h : Sep w R) : Sep w (recsA (.slice none 0 0) [] :: R) := recs_pack (rs := []) (h.nilOwn 31 1)
theorem recs_snoc {w : World} {v : Value} {rs : List Rec} {r : Rec} {R : List Asn} (h : Sep w (ownA 31 1 v (rs.length + 1) (rs.map Rec.val ++ [r.val]) :: (rs.map Rec.asn ++ r.asn :: R))) : Sep w (recsA v (rs ++ [r]) :: R) := by
  refine recs_pack ?_
  unfold recsL
  simp only [List.map_append, List.map_cons, List.map_nil, List.length_append, List.length_cons, List.length_nil, List.append_assoc, List.cons_append, List.nil_append] at h ⊢
  exact h

/-- What a record told changes. -/
theorem rec_some {D D' : Dk} {j j' : Jn} {b : List UInt8} (h : recJ D j = .some b D' j') (hu : j.used ≤ j.size) : j'.size = j.size ∧ j'.from_ = j.from_ ∧ j.used + 1 ≤ j'.used ∧ j'.used ≤ j.size ∧ D'.secs.length = D.secs.length ∧ j'.broken = j.broken := by
  unfold recJ at h
  split at h
  · cases h
  · split at h
    · cases h
    · simp only at h
      split at h
      · cases h
      · split at h
        · cases h
        · split at h
          · cases h
          · rename_i h1 _ h2 h3 _
            injection h with hb hD hj
            subst hj
            have h4 : rds ((numL (((D.begun.now (j.from_ + j.used)).drop 8).take 4) + 527) / 512 - 1) D.begun (j.from_ + j.used + 1) (D.begun.now (j.from_ + j.used)) = (true, (rds ((numL (((D.begun.now (j.from_ + j.used)).drop 8).take 4) + 527) / 512 - 1) D.begun (j.from_ + j.used + 1) (D.begun.now (j.from_ + j.used))).2.1, D') := by
              rw [← hD]; refine Prod.ext ?_ rfl; simpa using h3
            have h5 := rds_len _ _ _ _ _ _ _ h4
            have h6 : ¬ roomJ j < (numL (((D.begun.now (j.from_ + j.used)).drop 8).take 4) : Int) := fun h => h2 (.inr h)
            unfold roomJ at h6
            refine ⟨rfl, rfl, by simp only; omega, by simp only; omega, by rw [h5, begun_len], rfl⟩
theorem rec_err_len {D D' : Dk} {j : Jn} (h : recJ D j = .err D' ∨ recJ D j = .none D') : D'.secs.length = D.secs.length := by
  unfold recJ at h
  split at h
  · rcases h with h | h <;> cases h; rfl
  · split at h
    · rcases h with h | h <;> cases h; exact begun_len D
    · simp only at h
      split at h
      · rcases h with h | h <;> cases h; exact begun_len D
      · split at h
        · rcases h with h | h <;> cases h
          rw [rds_len _ _ _ _ _ _ _ (Prod.ext rfl (Prod.ext rfl rfl) : _ = (_, _, _)), begun_len]
        · split at h
          · rcases h with h | h <;> cases h
            rw [rds_len _ _ _ _ _ _ _ (Prod.ext rfl (Prod.ext rfl rfl) : _ = (_, _, _)), begun_len]
          · rcases h with h | h <;> cases h

/-- Open: an error's number, or the records and the journal. -/
def opnJ (D : Dk) (from_ size : Nat) : OpnR :=
  if D.fell.down then .err 11 D.begun else
  let p := D.begun.now from_
  let n := numL (p.take 8)
  if n < 1 ∨ lastN < n ∨ headL n startN [] ≠ p.take 16 then .err 2 D.begun else
  match opnL size D.begun ⟨from_, size, 1, n + 1, false⟩ [] with
  | (none, D') => .err 11 D'
  | (some (l, j), D') => .ok l D' j
theorem opn_step {f : Nat} {D : Dk} {j : Jn} {l : List (List UInt8)} (hf : j.size - j.used < f) (hu : j.used ≤ j.size) : opnL f D j l = match recJ D j with
    | .err D' => (none, D')
    | .none D' => (some (l, j), D')
    | .some b D' j' => opnL (f - 1) D' j' (l ++ [b]) := by
  cases f with
  | zero => omega
  | succ f => rfl
/-- What Open leaves. -/
def OpnPost (p : Nat) (R : List Asn) (r : OpnR) (e : Ending) (w' : World) : Prop := match r with
  | .err x D' => e = .returned (.tuple #[.pointer none, .slice none 0 0, .int .i64 x]) ∧ Sep w' (diskA p D' :: R)
  | .ok l D' j => ∃ q v rs, e = .returned (.tuple #[.pointer (some ⟨q, 0, none⟩), v, .int .i64 0]) ∧ rs.map Rec.bytes = l ∧ (∀ r ∈ rs, r.ok) ∧ (∃ a cap, v = .slice a rs.length cap) ∧ Sep w' (jnA q p j :: recsA v rs :: diskA p D' :: R)

def lenOf : Value → Nat | .slice _ n _ => n | _ => 0
theorem infoS : (Try.prog.info? 31).map (fun i => (i.zero, i.size, i.bytes)) = some (some (.slice none 0 0), 1, 24) := by kernel_rfl

section
variable {w : World} {R : List Asn} {p : Nat} {D : Dk}
set_option maxRecDepth 20000 in
set_option maxHeartbeats 4000000 in
theorem open_sep (S : Sep w (diskA p D :: R)) (from_ size : Nat) (F Z : Int) (hF : F = (from_ : Int)) (hZ : Z = (size : Int)) (h2 : 2 ≤ size) (hsz : size ≤ 1000) (hs : from_ + size ≤ D.secs.length) :
    Calls Try.prog 39 #[.pointer (some ⟨p, 0, none⟩), .int .i64 F, .int .i64 Z] w (OpnPost p R (opnJ D from_ size)) := by
  subst hF hZ
  obtain ⟨_, hl1, hl3⟩ := dk_len S
  have HS := Lib.hid S
  have hix : from_ < D.secs.length := by omega
  clear S
  cases hd : D.fell.down with
  | true =>
    have hop : opnJ D from_ size = .err 11 D.begun := by unfold opnJ; rw [if_pos hd]
    rw [hop]
    have Hd := Lib.hid hd
    clear hd hop
    go_enter Try.func39, Try.ntmps39
    go_wp2_with fail
    refine (made_sep HS.out from_ size _ _ rfl rfl h2 hs).mono ?_
    rintro e w1 ⟨q, rfl, S1⟩
    have HS1 := Lib.hid S1.up1
    clear S1
    go_wp2_with fail
    refine (read_sep_down HS1.out from_ _ rfl hix Hd.out).mono ?_
    rintro e w2 ⟨rfl, S2⟩
    have HS2 := Lib.hid S2.up1.drop
    clear S2
    go_wp2
    go_ret3
    exact ⟨rfl, HS2.out⟩
  | false =>
    obtain ⟨pb, hpb⟩ : ∃ pb, pb = D.begun.now from_ := ⟨_, rfl⟩
    obtain ⟨n, hn⟩ : ∃ n, n = numL (pb.take 8) := ⟨_, rfl⟩
    obtain ⟨D1, hD1⟩ : ∃ D1, D1 = D.begun := ⟨_, rfl⟩
    obtain ⟨L1, hL1⟩ : ∃ L1, L1 = (pic n startN []).take 16 := ⟨_, rfl⟩
    obtain ⟨L2, hL2⟩ : ∃ L2, L2 = pb.take 16 := ⟨_, rfl⟩
    have hop : opnJ D from_ size = if n < 1 ∨ lastN < n ∨ L1 ≠ L2 then .err 2 D1 else match opnL size D1 ⟨from_, size, 1, n + 1, false⟩ [] with | (none, D') => .err 11 D' | (some (l, j), D') => .ok l D' j := by rw [hL1, pic_head, hL2, hn, hpb, hD1]; unfold opnJ; rw [if_neg (by simp [hd])]
    obtain ⟨PO, hPO⟩ : ∃ PO, PO = OpnPost p R (opnJ D from_ size) := ⟨_, rfl⟩
    rw [← hPO]
    have Hop := Lib.hid hop
    have HPO := Lib.hid hPO
    have Hpb := Lib.hid hpb
    have Hn := Lib.hid hn
    have HD1 := Lib.hid hD1
    have HL1 := Lib.hid hL1
    have HL2 := Lib.hid hL2
    have Hd := Lib.hid hd
    clear hop hPO hpb hn hD1 hL1 hL2 hd
    go_enter Try.func39, Try.ntmps39
    go_wp2_with fail
    refine (made_sep HS.out from_ size _ _ rfl rfl h2 hs).mono ?_
    rintro e w1 ⟨q, rfl, S1⟩
    have HS1 := Lib.hid S1.up1
    clear S1
    go_wp2_with fail
    refine (read_sep HS1.out from_ _ rfl hix Hd.out pb Hpb.out.symm).mono ?_
    rw [← HD1.out]
    rintro e w2 ⟨B, rfl, S2⟩
    have hpbl := S2.bytes.len
    have hb8 := S2.bytes.sub 0 8 (by omega)
    have hl8 : (pb.take 8).length = 8 := by rw [List.length_take, hpbl]; omega
    rw [List.drop_zero] at hb8
    have hnb : n < 18446744073709551616 := by
      rw [Hn.out]
      have := numL_lt (pb.take 8)
      rw [hl8] at this
      exact this
    have Hpbl := Lib.hid hpbl
    clear hpbl
    go_wp2_with fail
    refine (number_sep S2 (some ⟨B, 0, none⟩) 8 _ _ hb8 hl8 (by omega)).mono ?_
    rw [← Hn.out]
    rintro e w3 ⟨rfl, S3⟩
    have HS3 := Lib.hid S3.drew
    clear hb8 hl8 S2 S3
    by_cases hn1 : n < 1
    · have hd1 : decide ((n : Int) < 1) = true := by simp; omega
      have Hn1 := Lib.hid hn1
      clear hn1
      go_wp2_with fail
      refine AnyK.start (S := lateS (fun _ => True) []) (by kernel_rfl) ?_
      have hHeld : True := trivial
      refine AnyK.take (i := 0) (T := [1, 2, 3, 4, 5, 6, 7, 8, 9, 10, 11, 12, 13, 14]) (v := ?va0) rfl (by kernel_rfl) (by kernel_rfl) (by kernel_rfl) (by kernel_rfl) (by kernel_rfl) (by kernel_rfl) (by kernel_rfl) (fun _ _ _ h => h) (Or.inl ⟨by rfl, ?ya0⟩) hHeld ?ra0
      case ya0 => (intro w hSw; (try dsimp only at hSw); go_simp; (try with_reducible rfl))
      try simp only [Act.put, List.getElem_toArray, List.getElem_cons_zero, List.setIfInBounds_toArray, List.set_cons_zero, List.set_cons_succ]
      refine AnyK.take (i := 1) (T := [2, 3, 4, 5, 6, 7, 8, 9, 10, 11, 12, 13, 14]) (v := ?va1) rfl (by kernel_rfl) (by kernel_rfl) (by kernel_rfl) (by kernel_rfl) (by kernel_rfl) (by kernel_rfl) (by kernel_rfl) (fun _ _ _ h => h) (Or.inl ⟨by rfl, ?ya1⟩) hHeld ?ra1
      case ya1 => (intro w hSw; (try dsimp only at hSw); go_simp; (try with_reducible rfl))
      try simp only [Act.put, List.getElem_toArray, List.getElem_cons_zero, List.getElem_cons_succ, List.setIfInBounds_toArray, List.set_cons_zero, List.set_cons_succ]
      refine AnyK.take (i := 2) (T := [3, 4, 5, 6, 7, 8, 9, 10, 11, 12, 13, 14]) (v := ?va2) rfl (by kernel_rfl) (by kernel_rfl) (by kernel_rfl) (by kernel_rfl) (by kernel_rfl) (by kernel_rfl) (by kernel_rfl) (fun _ _ _ h => h) (Or.inl ⟨by rfl, ?ya2⟩) hHeld ?ra2
      case ya2 => (intro w hSw; (try dsimp only at hSw); go_simp; (try with_reducible rfl))
      try simp only [Act.put, List.getElem_toArray, List.getElem_cons_zero, List.getElem_cons_succ, List.setIfInBounds_toArray, List.set_cons_zero, List.set_cons_succ]
      refine AnyK.take (i := 3) (T := [4, 5, 6, 7, 8, 9, 10, 11, 12, 13, 14]) (v := undef) rfl (by kernel_rfl) (by kernel_rfl) (by kernel_rfl) (by kernel_rfl) (by kernel_rfl) (by kernel_rfl) (by kernel_rfl) (fun _ _ _ h => h) (Or.inr ⟨by rfl, rfl⟩) hHeld ?sa3
      try simp only [Act.put, List.getElem_toArray, List.getElem_cons_zero, List.getElem_cons_succ, List.setIfInBounds_toArray, List.set_cons_zero, List.set_cons_succ]
      refine AnyK.take (i := 4) (T := [5, 6, 7, 8, 9, 10, 11, 12, 13, 14]) (v := undef) rfl (by kernel_rfl) (by kernel_rfl) (by kernel_rfl) (by kernel_rfl) (by kernel_rfl) (by kernel_rfl) (by kernel_rfl) (fun _ _ _ h => h) (Or.inr ⟨by rfl, rfl⟩) hHeld ?sa4
      try simp only [Act.put, List.getElem_toArray, List.getElem_cons_zero, List.getElem_cons_succ, List.setIfInBounds_toArray, List.set_cons_zero, List.set_cons_succ]
      refine AnyK.take (i := 5) (T := [6, 7, 8, 9, 10, 11, 12, 13, 14]) (v := ?va5) rfl (by kernel_rfl) (by kernel_rfl) (by kernel_rfl) (by kernel_rfl) (by kernel_rfl) (by kernel_rfl) (by kernel_rfl) (fun _ _ _ h => h) (Or.inl ⟨by rfl, ?ya5⟩) hHeld ?ra5
      case ya5 => (intro w hSw; (try dsimp only at hSw); go_simp; (try with_reducible rfl))
      try simp only [Act.put, List.getElem_toArray, List.getElem_cons_zero, List.getElem_cons_succ, List.setIfInBounds_toArray, List.set_cons_zero, List.set_cons_succ]
      refine AnyK.take (i := 6) (T := [7, 8, 9, 10, 11, 12, 13, 14]) (v := ?va6) rfl (by kernel_rfl) (by kernel_rfl) (by kernel_rfl) (by kernel_rfl) (by kernel_rfl) (by kernel_rfl) (by kernel_rfl) (fun _ _ _ h => h) (Or.inl ⟨by rfl, ?ya6⟩) hHeld ?ra6
      case ya6 => (intro w hSw; (try dsimp only at hSw); go_simp; (try with_reducible rfl))
      try simp only [Act.put, List.getElem_toArray, List.getElem_cons_zero, List.getElem_cons_succ, List.setIfInBounds_toArray, List.set_cons_zero, List.set_cons_succ]
      refine AnyK.take (i := 7) (T := [8, 9, 12, 13, 14]) (v := undef) rfl (by kernel_rfl) (by kernel_rfl) (by kernel_rfl) (by kernel_rfl) (by kernel_rfl) (by kernel_rfl) (by kernel_rfl) (fun _ _ _ h => h) (Or.inr ⟨by rfl, rfl⟩) hHeld ?sa7
      try simp only [Act.put, List.getElem_toArray, List.getElem_cons_zero, List.getElem_cons_succ, List.setIfInBounds_toArray, List.set_cons_zero, List.set_cons_succ]
      refine AnyK.take (i := 8) (T := [9, 12, 13, 14]) (v := undef) rfl (by kernel_rfl) (by kernel_rfl) (by kernel_rfl) (by kernel_rfl) (by kernel_rfl) (by kernel_rfl) (by kernel_rfl) (fun _ _ _ h => h) (Or.inr ⟨by rfl, rfl⟩) hHeld ?sa8
      try simp only [Act.put, List.getElem_toArray, List.getElem_cons_zero, List.getElem_cons_succ, List.setIfInBounds_toArray, List.set_cons_zero, List.set_cons_succ]
      refine AnyK.take (i := 9) (T := [12, 13, 14]) (v := undef) rfl (by kernel_rfl) (by kernel_rfl) (by kernel_rfl) (by kernel_rfl) (by kernel_rfl) (by kernel_rfl) (by kernel_rfl) (fun _ _ _ h => h) (Or.inr ⟨by rfl, rfl⟩) hHeld ?sa9
      try simp only [Act.put, List.getElem_toArray, List.getElem_cons_zero, List.getElem_cons_succ, List.setIfInBounds_toArray, List.set_cons_zero, List.set_cons_succ]
      refine AnyK.take (i := 10) (T := [11, 12, 13, 14]) (v := undef) rfl (by kernel_rfl) (by kernel_rfl) (by kernel_rfl) (by kernel_rfl) (by kernel_rfl) (by kernel_rfl) (by kernel_rfl) (fun _ _ _ h => h) (Or.inr ⟨by rfl, rfl⟩) hHeld ?sa10
      try simp only [Act.put, List.getElem_toArray, List.getElem_cons_zero, List.getElem_cons_succ, List.setIfInBounds_toArray, List.set_cons_zero, List.set_cons_succ]
      refine AnyK.take (i := 11) (T := [12, 13, 14]) (v := undef) rfl (by kernel_rfl) (by kernel_rfl) (by kernel_rfl) (by kernel_rfl) (by kernel_rfl) (by kernel_rfl) (by kernel_rfl) (fun _ _ _ h => h) (Or.inr ⟨by rfl, rfl⟩) hHeld ?sa11
      try simp only [Act.put, List.getElem_toArray, List.getElem_cons_zero, List.getElem_cons_succ, List.setIfInBounds_toArray, List.set_cons_zero, List.set_cons_succ]
      refine AnyK.take (i := 12) (T := [13, 14]) (v := undef) rfl (by kernel_rfl) (by kernel_rfl) (by kernel_rfl) (by kernel_rfl) (by kernel_rfl) (by kernel_rfl) (by kernel_rfl) (fun _ _ _ h => h) (Or.inr ⟨by rfl, rfl⟩) hHeld ?sa12
      try simp only [Act.put, List.getElem_toArray, List.getElem_cons_zero, List.getElem_cons_succ, List.setIfInBounds_toArray, List.set_cons_zero, List.set_cons_succ]
      refine AnyK.take (i := 13) (T := [14]) (v := undef) rfl (by kernel_rfl) (by kernel_rfl) (by kernel_rfl) (by kernel_rfl) (by kernel_rfl) (by kernel_rfl) (by kernel_rfl) (fun _ _ _ h => h) (Or.inr ⟨by rfl, rfl⟩) hHeld ?sa13
      try simp only [Act.put, List.getElem_toArray, List.getElem_cons_zero, List.getElem_cons_succ, List.setIfInBounds_toArray, List.set_cons_zero, List.set_cons_succ]
      refine AnyK.take (i := 14) (T := []) (v := ?va14) rfl (by kernel_rfl) (by kernel_rfl) (by kernel_rfl) (by kernel_rfl) (by kernel_rfl) (by kernel_rfl) (by kernel_rfl) (fun _ _ _ h => h) (Or.inl ⟨by rfl, ?ya14⟩) hHeld ?ra14
      case ya14 => (intro w hSw; (try dsimp only at hSw); go_simp; (try with_reducible rfl))
      try simp only [Act.put, List.getElem_toArray, List.getElem_cons_zero, List.getElem_cons_succ, List.setIfInBounds_toArray, List.set_cons_zero, List.set_cons_succ]
      refine AnyK.done (by kernel_rfl) ?_ _
      have HS4 := Lib.hid HS3.out.drop.up1.drop
      go_wp2
      go_ret3
      rw [HPO.out, Hop.out, if_pos (.inl Hn1.out)]
      exact ⟨rfl, HS4.out⟩
    have hd1 : decide ((n : Int) < 1) = false := by simp; omega
    have Hn1 := Lib.hid hn1
    clear hn1
    by_cases hn2 : lastN < n
    · have hd2 : decide ((4611686018427387904 : Int) < (n : Int)) = true := by unfold lastN at hn2; simp; omega
      have Hn2 := Lib.hid hn2
      clear hn2
      go_wp2_with fail
      refine AnyK.start (S := lateS (fun _ => True) []) (by kernel_rfl) ?_
      have hHeld : True := trivial
      refine AnyK.take (i := 0) (T := [1, 2, 3, 4, 5, 6, 7, 8, 9, 10, 11, 12, 13, 14]) (v := ?vb0) rfl (by kernel_rfl) (by kernel_rfl) (by kernel_rfl) (by kernel_rfl) (by kernel_rfl) (by kernel_rfl) (by kernel_rfl) (fun _ _ _ h => h) (Or.inl ⟨by rfl, ?yb0⟩) hHeld ?rb0
      case yb0 => (intro w hSw; (try dsimp only at hSw); go_simp; (try with_reducible rfl))
      try simp only [Act.put, List.getElem_toArray, List.getElem_cons_zero, List.setIfInBounds_toArray, List.set_cons_zero, List.set_cons_succ]
      refine AnyK.take (i := 1) (T := [2, 3, 4, 5, 6, 7, 8, 9, 10, 11, 12, 13, 14]) (v := ?vb1) rfl (by kernel_rfl) (by kernel_rfl) (by kernel_rfl) (by kernel_rfl) (by kernel_rfl) (by kernel_rfl) (by kernel_rfl) (fun _ _ _ h => h) (Or.inl ⟨by rfl, ?yb1⟩) hHeld ?rb1
      case yb1 => (intro w hSw; (try dsimp only at hSw); go_simp; (try with_reducible rfl))
      try simp only [Act.put, List.getElem_toArray, List.getElem_cons_zero, List.getElem_cons_succ, List.setIfInBounds_toArray, List.set_cons_zero, List.set_cons_succ]
      refine AnyK.take (i := 2) (T := [3, 4, 5, 6, 7, 8, 9, 10, 11, 12, 13, 14]) (v := ?vb2) rfl (by kernel_rfl) (by kernel_rfl) (by kernel_rfl) (by kernel_rfl) (by kernel_rfl) (by kernel_rfl) (by kernel_rfl) (fun _ _ _ h => h) (Or.inl ⟨by rfl, ?yb2⟩) hHeld ?rb2
      case yb2 => (intro w hSw; (try dsimp only at hSw); go_simp; (try with_reducible rfl))
      try simp only [Act.put, List.getElem_toArray, List.getElem_cons_zero, List.getElem_cons_succ, List.setIfInBounds_toArray, List.set_cons_zero, List.set_cons_succ]
      refine AnyK.take (i := 3) (T := [4, 5, 6, 7, 8, 9, 10, 11, 12, 13, 14]) (v := ?vb3) rfl (by kernel_rfl) (by kernel_rfl) (by kernel_rfl) (by kernel_rfl) (by kernel_rfl) (by kernel_rfl) (by kernel_rfl) (fun _ _ _ h => h) (Or.inl ⟨by rfl, ?yb3⟩) hHeld ?rb3
      case yb3 => (intro w hSw; (try dsimp only at hSw); go_simp; (try with_reducible rfl))
      try simp only [Act.put, List.getElem_toArray, List.getElem_cons_zero, List.getElem_cons_succ, List.setIfInBounds_toArray, List.set_cons_zero, List.set_cons_succ]
      refine AnyK.take (i := 4) (T := [5, 6, 7, 8, 9, 10, 11, 12, 13, 14]) (v := ?vb4) rfl (by kernel_rfl) (by kernel_rfl) (by kernel_rfl) (by kernel_rfl) (by kernel_rfl) (by kernel_rfl) (by kernel_rfl) (fun _ _ _ h => h) (Or.inl ⟨by rfl, ?yb4⟩) hHeld ?rb4
      case yb4 => (intro w hSw; (try dsimp only at hSw); go_simp; (try with_reducible rfl))
      try simp only [Act.put, List.getElem_toArray, List.getElem_cons_zero, List.getElem_cons_succ, List.setIfInBounds_toArray, List.set_cons_zero, List.set_cons_succ]
      refine AnyK.take (i := 5) (T := [6, 7, 8, 9, 10, 11, 12, 13, 14]) (v := ?vb5) rfl (by kernel_rfl) (by kernel_rfl) (by kernel_rfl) (by kernel_rfl) (by kernel_rfl) (by kernel_rfl) (by kernel_rfl) (fun _ _ _ h => h) (Or.inl ⟨by rfl, ?yb5⟩) hHeld ?rb5
      case yb5 => (intro w hSw; (try dsimp only at hSw); go_simp; (try with_reducible rfl))
      try simp only [Act.put, List.getElem_toArray, List.getElem_cons_zero, List.getElem_cons_succ, List.setIfInBounds_toArray, List.set_cons_zero, List.set_cons_succ]
      refine AnyK.take (i := 6) (T := [7, 8, 9, 10, 11, 12, 13, 14]) (v := ?vb6) rfl (by kernel_rfl) (by kernel_rfl) (by kernel_rfl) (by kernel_rfl) (by kernel_rfl) (by kernel_rfl) (by kernel_rfl) (fun _ _ _ h => h) (Or.inl ⟨by rfl, ?yb6⟩) hHeld ?rb6
      case yb6 => (intro w hSw; (try dsimp only at hSw); go_simp; (try with_reducible rfl))
      try simp only [Act.put, List.getElem_toArray, List.getElem_cons_zero, List.getElem_cons_succ, List.setIfInBounds_toArray, List.set_cons_zero, List.set_cons_succ]
      refine AnyK.take (i := 7) (T := [8, 9, 12, 13, 14]) (v := undef) rfl (by kernel_rfl) (by kernel_rfl) (by kernel_rfl) (by kernel_rfl) (by kernel_rfl) (by kernel_rfl) (by kernel_rfl) (fun _ _ _ h => h) (Or.inr ⟨by rfl, rfl⟩) hHeld ?sb7
      try simp only [Act.put, List.getElem_toArray, List.getElem_cons_zero, List.getElem_cons_succ, List.setIfInBounds_toArray, List.set_cons_zero, List.set_cons_succ]
      refine AnyK.take (i := 8) (T := [9, 12, 13, 14]) (v := undef) rfl (by kernel_rfl) (by kernel_rfl) (by kernel_rfl) (by kernel_rfl) (by kernel_rfl) (by kernel_rfl) (by kernel_rfl) (fun _ _ _ h => h) (Or.inr ⟨by rfl, rfl⟩) hHeld ?sb8
      try simp only [Act.put, List.getElem_toArray, List.getElem_cons_zero, List.getElem_cons_succ, List.setIfInBounds_toArray, List.set_cons_zero, List.set_cons_succ]
      refine AnyK.take (i := 9) (T := [12, 13, 14]) (v := undef) rfl (by kernel_rfl) (by kernel_rfl) (by kernel_rfl) (by kernel_rfl) (by kernel_rfl) (by kernel_rfl) (by kernel_rfl) (fun _ _ _ h => h) (Or.inr ⟨by rfl, rfl⟩) hHeld ?sb9
      try simp only [Act.put, List.getElem_toArray, List.getElem_cons_zero, List.getElem_cons_succ, List.setIfInBounds_toArray, List.set_cons_zero, List.set_cons_succ]
      refine AnyK.take (i := 10) (T := [11, 12, 13, 14]) (v := undef) rfl (by kernel_rfl) (by kernel_rfl) (by kernel_rfl) (by kernel_rfl) (by kernel_rfl) (by kernel_rfl) (by kernel_rfl) (fun _ _ _ h => h) (Or.inr ⟨by rfl, rfl⟩) hHeld ?sb10
      try simp only [Act.put, List.getElem_toArray, List.getElem_cons_zero, List.getElem_cons_succ, List.setIfInBounds_toArray, List.set_cons_zero, List.set_cons_succ]
      refine AnyK.take (i := 11) (T := [12, 13, 14]) (v := undef) rfl (by kernel_rfl) (by kernel_rfl) (by kernel_rfl) (by kernel_rfl) (by kernel_rfl) (by kernel_rfl) (by kernel_rfl) (fun _ _ _ h => h) (Or.inr ⟨by rfl, rfl⟩) hHeld ?sb11
      try simp only [Act.put, List.getElem_toArray, List.getElem_cons_zero, List.getElem_cons_succ, List.setIfInBounds_toArray, List.set_cons_zero, List.set_cons_succ]
      refine AnyK.take (i := 12) (T := [13, 14]) (v := undef) rfl (by kernel_rfl) (by kernel_rfl) (by kernel_rfl) (by kernel_rfl) (by kernel_rfl) (by kernel_rfl) (by kernel_rfl) (fun _ _ _ h => h) (Or.inr ⟨by rfl, rfl⟩) hHeld ?sb12
      try simp only [Act.put, List.getElem_toArray, List.getElem_cons_zero, List.getElem_cons_succ, List.setIfInBounds_toArray, List.set_cons_zero, List.set_cons_succ]
      refine AnyK.take (i := 13) (T := [14]) (v := undef) rfl (by kernel_rfl) (by kernel_rfl) (by kernel_rfl) (by kernel_rfl) (by kernel_rfl) (by kernel_rfl) (by kernel_rfl) (fun _ _ _ h => h) (Or.inr ⟨by rfl, rfl⟩) hHeld ?sb13
      try simp only [Act.put, List.getElem_toArray, List.getElem_cons_zero, List.getElem_cons_succ, List.setIfInBounds_toArray, List.set_cons_zero, List.set_cons_succ]
      refine AnyK.take (i := 14) (T := []) (v := ?vb14) rfl (by kernel_rfl) (by kernel_rfl) (by kernel_rfl) (by kernel_rfl) (by kernel_rfl) (by kernel_rfl) (by kernel_rfl) (fun _ _ _ h => h) (Or.inl ⟨by rfl, ?yb14⟩) hHeld ?rb14
      case yb14 => (intro w hSw; (try dsimp only at hSw); go_simp; (try with_reducible rfl))
      try simp only [Act.put, List.getElem_toArray, List.getElem_cons_zero, List.getElem_cons_succ, List.setIfInBounds_toArray, List.set_cons_zero, List.set_cons_succ]
      refine AnyK.done (by kernel_rfl) ?_ _
      have HS4 := Lib.hid HS3.out.drop.up1.drop
      go_wp2
      go_ret3
      rw [HPO.out, Hop.out, if_pos (.inr (.inl Hn2.out))]
      exact ⟨rfl, HS4.out⟩
    have hd2 : decide ((4611686018427387904 : Int) < (n : Int)) = false := by unfold lastN at hn2; simp; omega
    have hn3 : n ≤ 4611686018427387904 := by unfold lastN at hn2; omega
    have Hn2 := Lib.hid hn2
    clear hn2
    have hs11 := slice_h16 B 512 512 (by omega)
    go_wp2_with fail
    refine AnyK.start (S := lateS (fun _ => True) []) (by kernel_rfl) ?_
    have hHeld : True := trivial
    refine AnyK.take (i := 0) (T := [1, 2, 3, 4, 5, 6, 7, 8, 9, 10, 11, 12, 13, 14]) (v := ?vc0) rfl (by kernel_rfl) (by kernel_rfl) (by kernel_rfl) (by kernel_rfl) (by kernel_rfl) (by kernel_rfl) (by kernel_rfl) (fun _ _ _ h => h) (Or.inl ⟨by rfl, ?yc0⟩) hHeld ?rc0
    case yc0 => (intro w hSw; (try dsimp only at hSw); go_simp; (try with_reducible rfl))
    try simp only [Act.put, List.getElem_toArray, List.getElem_cons_zero, List.setIfInBounds_toArray, List.set_cons_zero, List.set_cons_succ]
    refine AnyK.take (i := 1) (T := [2, 3, 4, 5, 6, 7, 8, 9, 10, 11, 12, 13, 14]) (v := ?vc1) rfl (by kernel_rfl) (by kernel_rfl) (by kernel_rfl) (by kernel_rfl) (by kernel_rfl) (by kernel_rfl) (by kernel_rfl) (fun _ _ _ h => h) (Or.inl ⟨by rfl, ?yc1⟩) hHeld ?rc1
    case yc1 => (intro w hSw; (try dsimp only at hSw); go_simp; (try with_reducible rfl))
    try simp only [Act.put, List.getElem_toArray, List.getElem_cons_zero, List.getElem_cons_succ, List.setIfInBounds_toArray, List.set_cons_zero, List.set_cons_succ]
    refine AnyK.take (i := 2) (T := [3, 4, 5, 6, 7, 8, 9, 10, 11, 12, 13, 14]) (v := ?vc2) rfl (by kernel_rfl) (by kernel_rfl) (by kernel_rfl) (by kernel_rfl) (by kernel_rfl) (by kernel_rfl) (by kernel_rfl) (fun _ _ _ h => h) (Or.inl ⟨by rfl, ?yc2⟩) hHeld ?rc2
    case yc2 => (intro w hSw; (try dsimp only at hSw); go_simp; (try with_reducible rfl))
    try simp only [Act.put, List.getElem_toArray, List.getElem_cons_zero, List.getElem_cons_succ, List.setIfInBounds_toArray, List.set_cons_zero, List.set_cons_succ]
    refine AnyK.take (i := 3) (T := [4, 5, 6, 7, 8, 9, 10, 11, 12, 13, 14]) (v := ?vc3) rfl (by kernel_rfl) (by kernel_rfl) (by kernel_rfl) (by kernel_rfl) (by kernel_rfl) (by kernel_rfl) (by kernel_rfl) (fun _ _ _ h => h) (Or.inl ⟨by rfl, ?yc3⟩) hHeld ?rc3
    case yc3 => (intro w hSw; (try dsimp only at hSw); go_simp; (try with_reducible rfl))
    try simp only [Act.put, List.getElem_toArray, List.getElem_cons_zero, List.getElem_cons_succ, List.setIfInBounds_toArray, List.set_cons_zero, List.set_cons_succ]
    refine AnyK.take (i := 4) (T := [5, 6, 7, 8, 9, 10, 11, 12, 13, 14]) (v := ?vc4) rfl (by kernel_rfl) (by kernel_rfl) (by kernel_rfl) (by kernel_rfl) (by kernel_rfl) (by kernel_rfl) (by kernel_rfl) (fun _ _ _ h => h) (Or.inl ⟨by rfl, ?yc4⟩) hHeld ?rc4
    case yc4 => (intro w hSw; (try dsimp only at hSw); go_simp; (try with_reducible rfl))
    try simp only [Act.put, List.getElem_toArray, List.getElem_cons_zero, List.getElem_cons_succ, List.setIfInBounds_toArray, List.set_cons_zero, List.set_cons_succ]
    refine AnyK.take (i := 5) (T := [6, 7, 8, 9, 10, 11, 12, 13, 14]) (v := ?vc5) rfl (by kernel_rfl) (by kernel_rfl) (by kernel_rfl) (by kernel_rfl) (by kernel_rfl) (by kernel_rfl) (by kernel_rfl) (fun _ _ _ h => h) (Or.inl ⟨by rfl, ?yc5⟩) hHeld ?rc5
    case yc5 => (intro w hSw; (try dsimp only at hSw); go_simp; (try with_reducible rfl))
    try simp only [Act.put, List.getElem_toArray, List.getElem_cons_zero, List.getElem_cons_succ, List.setIfInBounds_toArray, List.set_cons_zero, List.set_cons_succ]
    refine AnyK.take (i := 6) (T := [7, 8, 9, 10, 11, 12, 13, 14]) (v := ?vc6) rfl (by kernel_rfl) (by kernel_rfl) (by kernel_rfl) (by kernel_rfl) (by kernel_rfl) (by kernel_rfl) (by kernel_rfl) (fun _ _ _ h => h) (Or.inl ⟨by rfl, ?yc6⟩) hHeld ?rc6
    case yc6 => (intro w hSw; (try dsimp only at hSw); go_simp; (try with_reducible rfl))
    try simp only [Act.put, List.getElem_toArray, List.getElem_cons_zero, List.getElem_cons_succ, List.setIfInBounds_toArray, List.set_cons_zero, List.set_cons_succ]
    refine AnyK.take (i := 7) (T := [8, 9, 12, 13, 14]) (v := ?vc7) rfl (by kernel_rfl) (by kernel_rfl) (by kernel_rfl) (by kernel_rfl) (by kernel_rfl) (by kernel_rfl) (by kernel_rfl) (fun _ _ _ h => h) (Or.inl ⟨by rfl, ?yc7⟩) hHeld ?rc7
    case yc7 => (intro w hSw; (try dsimp only at hSw); go_simp; (try with_reducible rfl))
    try simp only [Act.put, List.getElem_toArray, List.getElem_cons_zero, List.getElem_cons_succ, List.setIfInBounds_toArray, List.set_cons_zero, List.set_cons_succ]
    refine AnyK.take (i := 10) (T := [11, 12, 13, 14]) (v := ?vc10) rfl (by kernel_rfl) (by kernel_rfl) (by kernel_rfl) (by kernel_rfl) (by kernel_rfl) (by kernel_rfl) (by kernel_rfl) (fun _ _ _ h => h) (Or.inl ⟨by rfl, ?yc10⟩) hHeld ?rc10
    case yc10 => (intro w hSw; (try dsimp only at hSw); go_simp; (try with_reducible rfl))
    try simp only [Act.put, List.getElem_toArray, List.getElem_cons_zero, List.getElem_cons_succ, List.setIfInBounds_toArray, List.set_cons_zero, List.set_cons_succ]
    refine AnyK.take (i := 11) (T := [12, 13, 14]) (v := ?vc11) rfl (by kernel_rfl) (by kernel_rfl) (by kernel_rfl) (by kernel_rfl) (by kernel_rfl) (by kernel_rfl) (by kernel_rfl) (fun _ _ _ h => h) (Or.inl ⟨by rfl, ?yc11⟩) hHeld ?rc11
    case yc11 => (intro w hSw; (try dsimp only at hSw); go_simp; (try with_reducible rfl))
    try simp only [Act.put, List.getElem_toArray, List.getElem_cons_zero, List.getElem_cons_succ, List.setIfInBounds_toArray, List.set_cons_zero, List.set_cons_succ]
    refine AnyK.one (i := 8) (by kernel_rfl) rfl (fun K hK => ?_)
    go_simp
    refine (picture_sep HS3.out n _ rfl startN _ rfl hnb (by unfold startN; omega) none 0 0 [] (fun i hi => by simp at hi) rfl (by omega) (fun _ => rfl)).mono ?_
    rintro e w5 ⟨g5, m5, c5, rfl, S5, hm5, hc5⟩
    have hp5 := S5.bytes.len
    have hge : 16 ≤ m5 := by rw [← hp5, pic_len]; simp
    have hsA := S5.bytes.sub 0 16 hge
    have hsB := S5.up1.bytes.sub 0 16 (by omega)
    rw [List.drop_zero, ← HL1.out] at hsA
    rw [List.drop_zero, ← HL2.out] at hsB
    have hL1l : L1.length = 16 := by rw [HL1.out, pic_head, headL_len]
    have hL2l : L2.length = 16 := by rw [HL2.out, List.length_take, Hpbl.out]; rfl
    refine hK.out _ _ (.inr trivial) ?_
    clear hK K hs11
    have HS5 := Lib.hid S5
    have hs9 := slice_h16 g5 m5 c5 (by omega)
    have HsA := Lib.hid hsA
    have HsB := Lib.hid hsB
    have HL1l := Lib.hid hL1l
    have HL2l := Lib.hid hL2l
    clear S5 hm5 hc5 hp5 hge hsA hsB hL1l hL2l
    refine AnyK.take (i := 9) (T := [12, 13, 14]) (v := ?vc9) rfl (by kernel_rfl) (by kernel_rfl) (by kernel_rfl) (by kernel_rfl) (by kernel_rfl) (by kernel_rfl) (by kernel_rfl) (fun _ _ _ h => h) (Or.inl ⟨by rfl, ?yc9⟩) hHeld ?rc9
    case yc9 => (intro w hSw; (try dsimp only at hSw); go_simp; (try with_reducible rfl))
    try simp only [Act.put, List.getElem_toArray, List.getElem_cons_zero, List.getElem_cons_succ, List.setIfInBounds_toArray, List.set_cons_zero, List.set_cons_succ]
    refine AnyK.one (i := 12) (by kernel_rfl) rfl (fun K hK => ?_)
    go_simp
    obtain ⟨bq, hbq⟩ : ∃ bq, bq = decide (L1 = L2) := ⟨_, rfl⟩
    refine (equal_sep _ 16 _ L1 _ _ L2 HsA.out HsB.out HL1l.out HL2l.out (by omega) HS5.out).mono ?_
    rw [← hbq]
    have Hbq := Lib.hid hbq
    clear hbq
    rintro e w6 ⟨rfl, S6⟩
    refine hK.out _ _ (.inr trivial) ?_
    clear hK K hs9 HS3
    have HS3 := Lib.hid S6.drop
    clear S6
    refine AnyK.take (i := 13) (T := [14]) (v := ?vc13) rfl (by kernel_rfl) (by kernel_rfl) (by kernel_rfl) (by kernel_rfl) (by kernel_rfl) (by kernel_rfl) (by kernel_rfl) (fun _ _ _ h => h) (Or.inl ⟨by rfl, ?yc13⟩) hHeld ?rc13
    case yc13 => (intro w hSw; (try dsimp only at hSw); go_simp; (try with_reducible rfl))
    try simp only [Act.put, List.getElem_toArray, List.getElem_cons_zero, List.getElem_cons_succ, List.setIfInBounds_toArray, List.set_cons_zero, List.set_cons_succ]
    refine AnyK.take (i := 14) (T := []) (v := ?vc14) rfl (by kernel_rfl) (by kernel_rfl) (by kernel_rfl) (by kernel_rfl) (by kernel_rfl) (by kernel_rfl) (by kernel_rfl) (fun _ _ _ h => h) (Or.inl ⟨by rfl, ?yc14⟩) hHeld ?rc14
    case yc14 => (intro w hSw; (try dsimp only at hSw); go_simp; (try with_reducible rfl))
    try simp only [Act.put, List.getElem_toArray, List.getElem_cons_zero, List.getElem_cons_succ, List.setIfInBounds_toArray, List.set_cons_zero, List.set_cons_succ]
    cases bq with
    | false =>
      have hne : L1 ≠ L2 := by simpa using Hbq.out.symm
      have Hne := Lib.hid hne
      clear hne
      simp only [Bool.not_false]
      refine AnyK.done (by kernel_rfl) ?_ _
      have HS4 := Lib.hid HS3.out.drop.up1.drop
      go_wp2
      go_ret3
      rw [HPO.out, Hop.out, if_pos (.inr (.inr Hne.out))]
      exact ⟨rfl, HS4.out⟩
    | true =>
      have heq : L1 = L2 := by simpa using Hbq.out.symm
      have hop2 := Hop.out
      rw [if_neg (fun h => h.elim Hn1.out (fun h => h.elim Hn2.out (fun h => h heq)))] at hop2
      have Hop2 := Lib.hid hop2
      clear heq hop2
      simp only [Bool.not_true]
      refine AnyK.done (by kernel_rfl) ?_ _
      have hwn : IntKind.u64.wrap ((n : Int) + 1) = ((n + 1 : Nat) : Int) := by rw [IntKind.wrap_u64]; omega
      have hj6 := HS3.out.up2.jn
      obtain ⟨c0, c1, c2, c3, c4, c5, cf, cq⟩ := hj6
      have hS7 := (HS3.out.drop.up1.jn_used 1).jn_next (n + 1)
      have HS7 := Lib.hid hS7
      clear hS7 HS3
      go_wp2_with fail
      have hD1l : D1.secs.length = D.secs.length := by rw [HD1.out, begun_len]
      obtain ⟨OP, hOP⟩ : ∃ OP, OP = opnL size D1 ⟨from_, size, 1, n + 1, false⟩ [] := ⟨_, rfl⟩
      have HOP := Lib.hid hOP
      have hop3 := Hop2.out
      rw [← hOP] at hop3
      have Hop3 := Lib.hid hop3
      clear hop3 hOP c0 c1 c2 c3 c4 c5 cf cq hwn hd1 hd2 hn3 hHeld HS5 HsA HsB
      go_loopw [13] (fun pv wr => ∃ (f : Nat) (rs : List Rec) (Dx : Dk) (jx : Jn) (a : Option Addr) (cap : Nat), pv = .slice a rs.length cap ∧ (∀ r ∈ rs, r.ok) ∧ rs.length + 1 ≤ jx.used ∧ jx.used ≤ size ∧ jx.size = size ∧ jx.from_ = from_ ∧ jx.size - jx.used < f ∧ Dx.secs.length = D.secs.length ∧ OP = opnL f Dx jx (rs.map Rec.bytes) ∧ Sep wr (jnA q p jx :: diskA p Dx :: recsA pv rs :: R)) (fun pv _ => size - lenOf pv)
      case atStart =>
        have h7 := HS7.out
        push_cast at h7
        exact ⟨size, [], D1, ⟨from_, size, 1, n + 1, false⟩, none, 0, rfl, by simp, Nat.le_refl _, by show 1 ≤ size; omega, rfl, rfl, by show size - 1 < size; omega, hD1l, HOP.out, (recs_nil h7).dn2⟩
      case round =>
        obtain ⟨f, rs, Dx, jx, a, cap, rfl, hok, hrl, hux, hsx, hfx, hfu, hDl, hop, Sr⟩ := hrel
        have hopn := opn_step (l := rs.map Rec.bytes) (D := Dx) hfu (by omega)
        rw [← hop] at hopn
        have Hok := Lib.hid hok
        have HSr := Lib.hid Sr
        have Hfu := Lib.hid hfu
        have hcall := record_sep Sr (by omega) (by omega) (by omega)
        clear hop hok HS7 Sr hfu
        cases hr : recJ Dx jx with
        | err D' =>
          rw [hr] at hopn hcall
          have Hopn := Lib.hid hopn
          have Hcall := Lib.hid hcall
          clear hopn hr hcall
          go_wp2_with fail
          refine Hcall.out.mono ?_
          rintro e w2 ⟨rfl, S2⟩
          have HS2 := Lib.hid S2.drop.up1.drop
          clear S2
          go_wp2
          go_ret3
          rw [HPO.out, Hop3.out, Hopn.out]
          exact ⟨rfl, HS2.out⟩
        | none D' =>
          rw [hr] at hopn hcall
          have Hopn := Lib.hid hopn
          have Hcall := Lib.hid hcall
          clear hopn hr hcall
          go_wp2_with fail
          refine Hcall.out.mono ?_
          rintro e w2 ⟨rfl, S2⟩
          have HS2 := Lib.hid S2.up2.up1
          clear S2
          go_wp2
          go_ret3
          rw [HPO.out, Hop3.out, Hopn.out]
          exact ⟨q, _, rs, rfl, rfl, Hok.out, ⟨_, _, rfl⟩, HS2.out⟩
        | some b D' j' =>
          obtain ⟨g1, g2, g3, g4, g5', g6⟩ := rec_some hr (by omega)
          rw [hr] at hopn hcall
          have Hopn := Lib.hid hopn
          have Hcall := Lib.hid hcall
          clear hopn hr hcall
          have Hg := Lib.hid (⟨g1, g2, g3, g4, g5', g6⟩ : j'.size = jx.size ∧ j'.from_ = jx.from_ ∧ jx.used + 1 ≤ j'.used ∧ j'.used ≤ jx.size ∧ D'.secs.length = Dx.secs.length ∧ j'.broken = jx.broken)
          have Hx := Lib.hid (⟨hrl, hux, hsx, hfx, hDl⟩ : rs.length + 1 ≤ jx.used ∧ jx.used ≤ size ∧ jx.size = size ∧ jx.from_ = from_ ∧ Dx.secs.length = D.secs.length)
          have hrs : rs.length + 1 ≤ 1000 := by omega
          clear g1 g2 g3 g4 g5' g6 hrl hux hsx hfx hDl
          go_wp2_with fail
          refine Hcall.out.mono ?_
          rintro e w2 ⟨g, m, c, pl, rfl, k1, k2, k3, k4, S2⟩
          obtain ⟨r, hrr⟩ : ∃ r : Rec, r = ⟨g, m, c, b.length, pl⟩ := ⟨_, rfl⟩
          have hra : bytesA (.slice (some ⟨g, 0, none⟩) m c) m pl = r.asn := by rw [hrr]; rfl
          have hrv : Value.slice (some ⟨g, 16, none⟩) b.length (c - 16) = r.val := by rw [hrr]; rfl
          have hrb : b = r.bytes := by rw [hrr]; exact k4.symm
          have hrk : r.ok := by rw [hrr]; exact ⟨k1, k2, k3⟩
          rw [hra] at S2
          have T := ((recs_open S2.up3).alloc #[.slice (some ⟨g, 16, none⟩) b.length (c - 16)] 31).up1
          have hone : (Value.slice (some ⟨g, 16, none⟩) b.length (c - 16)).oneCell' = true := by rfl
          have Hrv := Lib.hid hrv
          have hnew := Lib.hid (Sep.cell_new w2 (.slice (some ⟨g, 16, none⟩) b.length (c - 16)) 31)
          obtain ⟨i0, hi, hz0, hz1, hz2⟩ := info_parts infoS
          have Hi := Lib.hid hi
          have Hz0 := Lib.hid hz0
          have Hz1 := Lib.hid hz1
          have Hz2 := Lib.hid hz2
          have Hrb := Lib.hid hrb
          have Hrk := Lib.hid hrk
          have Hone := Lib.hid hone
          clear hi hz0 hz1 hz2 hra hrv hrr hrb hrk hone k1 k2 k3 k4 S2
          go_wp2_with (at_builtin; refine Sep.wpList_append Try.underlying61 Hi.out Hz0.out Hz1.out Hz2.out rfl (by decide) rfl (.tmp 77) (.tmp 79) rfl T rfl ⟨w2.heap.size, 0, none⟩ 1 1 [.slice (some ⟨g, 16, none⟩) b.length (c - 16)] rfl rfl hnew.out (by intro u hu; simp at hu; subst hu; exact Hone.out) (by unfold maxLen; omega) (by omega) ?next)
          case next =>
            intro ga ca w3 S5 _ _ _ _
            rw [Hrv.out] at S5
            have S6 := (recs_snoc S5.up1.drop).dn2
            have HS6 := Lib.hid S6
            clear S5 S6 T
            go_wp2
            go_roundw
            case rel =>
              have h1 := Hg.out
              have h2 := Hx.out
              have h3 := Hfu.out
              refine ⟨f - 1, rs ++ [r], D', j', ga, ca, by simp, ?_, by simp; omega, by omega, by omega, by omega, by omega, by omega, ?_, HS6.out⟩
              · intro x hx
                rcases List.mem_append.1 hx with hx | hx
                · exact Hok.out x hx
                · rw [List.mem_singleton.1 hx]; exact Hrk.out
              · rw [Hopn.out]; simp only [List.map_append, List.map_cons, List.map_nil]; rw [← Hrb.out]
            case measure => have h2 := Hx.out; simp [lenOf]; omega
end
end Go.Proofs.Ytnekelndcpmonaa
namespace Go.Proofs.Ytnekelndcpmonaa
open Go.RowKit

section
variable {w : World} {R : List Asn} {p : Nat} {D : Dk}
theorem rds_add : ∀ (k n : Nat) (D : Dk) (at_ : Nat) (p pl : List UInt8) (Dx : Dk), rds k D at_ p = (true, pl, Dx) → rds (k + n) D at_ p = rds n Dx (at_ + k) pl
  | 0, n, D, at_, p, pl, Dx, h => by
    simp [rds] at h
    obtain ⟨rfl, rfl⟩ := h
    simp
  | k + 1, n, D, at_, p, pl, Dx, h => by
    rw [rds] at h
    have e : k + 1 + n = (k + n) + 1 := by omega
    rw [e, rds]
    by_cases hd : D.fell.down = true
    · rw [if_pos hd] at h; cases h
    · rw [if_neg hd] at h ⊢
      have := rds_add k n _ _ _ _ _ h
      rw [this]
      have e : at_ + 1 + k = at_ + (k + 1) := by omega
      rw [e]
theorem rds_bytes : ∀ (k : Nat) (D : Dk) (at_ : Nat) (p pl : List UInt8) (b : Bool) (Dx : Dk), D.Ok → at_ + k ≤ D.secs.length → rds k D at_ p = (b, pl, Dx) → pl.length ≤ p.length + 512 * k
  | 0, D, at_, p, pl, b, Dx, _, _, h => by simp [rds] at h; obtain ⟨_, rfl, _⟩ := h; omega
  | k + 1, D, at_, p, pl, b, Dx, hok, hs, h => by
    rw [rds] at h
    split at h
    · cases h; omega
    · have h1 := rds_bytes k _ _ _ _ _ _ (Dk.ok_begun hok) (by rw [begun_len]; omega) h
      rw [List.length_append, Dk.now_len (Dk.ok_begun hok) _ (by rw [begun_len]; omega)] at h1
      omega


/-- Open refuses. -/
theorem open_not (S : Sep w (diskA p D :: R)) (F Z : Int) (h : ¬ (2 ≤ Z ∧ 0 ≤ F ∧ Z ≤ (D.secs.length : Int) ∧ F ≤ (D.secs.length : Int) - Z)) :
    Calls Try.prog 39 #[.pointer (some ⟨p, 0, none⟩), .int .i64 F, .int .i64 Z] w fun e w' => e = .returned (.tuple #[.pointer none, .slice none 0 0, .int .i64 1]) ∧ Sep w' (diskA p D :: R) := by
  go_enter Try.func39, Try.ntmps39
  go_wp2_with fail
  refine (made_not S F Z h).mono ?_
  rintro e w1 ⟨rfl, rfl⟩
  have HS := Lib.hid S
  clear S h
  go_wp2
  go_ret3
  exact ⟨rfl, HS.out⟩
end
end Go.Proofs.Ytnekelndcpmonaa
