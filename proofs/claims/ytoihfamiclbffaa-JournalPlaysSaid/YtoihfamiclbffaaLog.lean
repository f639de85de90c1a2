/- A journal's area as a beginning and its records: what Append, Reset, Format and Open make of it. -/
import Derived.Test.YtoihfamiclbffaaPm
namespace Go.Proofs.Ytoihfamiclbffaa

theorem splice_at (x y p : List UInt8) : splice (x ++ y) x.length p = x ++ (p ++ y.drop p.length) := by
  unfold splice
  rw [List.take_left, ← List.drop_drop, List.drop_left]
/-- A beginning, records, and what stood there. -/
def logB (m : Nat) (bs : List (List UInt8)) (s : List UInt8) : List UInt8 := pic m startN [] ++ (recs (m + 1) bs ++ s.drop (512 * (1 + pages bs)))
def jOf (f z m : Nat) (bs : List (List UInt8)) : Jn := ⟨f, z, 1 + pages bs, m + 1 + bs.length, false⟩
structure Log (D : Dk) (f z m : Nat) (bs : List (List UInt8)) (s : List UInt8) : Prop where
  area : Area D f z (logB m bs s)
  fits : 1 + pages bs ≤ z
theorem Log.same {D D' : Dk} {f z m : Nat} {bs : List (List UInt8)} {s : List UInt8} (a : Log D f z m bs s) (h : Same D D') : Log D' f z m bs s := ⟨a.area.same h, a.fits⟩
theorem Log.congr {D D' : Dk} {f z m : Nat} {bs : List (List UInt8)} {s : List UInt8} (a : Log D f z m bs s) (h : ∀ i, i < z → D'.now (f + i) = D.now (f + i)) : Log D' f z m bs s := ⟨a.area.congr h, a.fits⟩
theorem pages_one (bs : List (List UInt8)) (h : ∀ b ∈ bs, b.length ≤ 496) : pages bs = bs.length := by
  induction bs with
  | nil => rfl
  | cons b bs ih => rw [pages, List.length_cons, ih (fun x hx => h x (List.mem_cons_of_mem _ hx))]; have := h b List.mem_cons_self; omega
theorem logB_snoc (m : Nat) (bs : List (List UInt8)) (s b : List UInt8) : splice (logB m bs s) (512 * (1 + pages bs)) (pic (m + 1 + bs.length) b.length b) = logB m (bs ++ [b]) s := by
  have e : logB m bs s = (pic m startN [] ++ recs (m + 1) bs) ++ s.drop (512 * (1 + pages bs)) := by unfold logB; rw [List.append_assoc]
  have hl : (pic m startN [] ++ recs (m + 1) bs).length = 512 * (1 + pages bs) := by rw [List.length_append, begin_len, recs_len]; omega
  rw [e, ← hl, splice_at, hl, List.drop_drop, pic_len]
  unfold logB
  rw [recs_append, pages_append]
  simp only [recs, pages, List.append_nil, Nat.add_zero, List.append_assoc]
  congr 5
  omega
theorem log_append {D : Dk} {n k f z m : Nat} {bs : List (List UInt8)} {s b : List UInt8} (c : Calm D n k) (a : Log D f z m bs s) (hz : f + z ≤ n) (hm : m + bs.length + 1 ≤ lastN) (hr : (b.length : Int) ≤ roomJ (jOf f z m bs)) :
    ∃ D', appendJ D (jOf f z m bs) b = (0, D', jOf f z m (bs ++ [b])) ∧ Calm D' n (k + (b.length + 527) / 512) ∧ Log D' f z m (bs ++ [b]) s ∧ (∀ i, i < n → i < f ∨ f + z ≤ i → D'.now i = D.now i) ∧ (b.length ≤ 496 → D'.secs = D.secs) := by
  obtain ⟨D', h1, h2, h3, h4, h5, h6, h7⟩ := append_calm c (j := jOf f z m bs) (b := b) a.area rfl (by show m + 1 + bs.length ≤ lastN; omega) hr hz
  have hp : pages (bs ++ [b]) = pages bs + (b.length + 527) / 512 := by rw [pages_append]; rfl
  refine ⟨D', ?_, h2, ⟨?_, ?_⟩, h4, fun hb => h5 (by omega)⟩
  · rw [h1]
    unfold jOf
    rw [hp, List.length_append, List.length_singleton]
    simp only [Nat.add_assoc]
  · have := logB_snoc m bs s b
    unfold jOf at h3
    dsimp only at h3
    rw [this] at h3
    exact h3
  · rw [hp]
    unfold jOf at h6
    dsimp only at h6
    omega
/-- A record of one sector. -/
theorem log_small {D : Dk} {n k f z m : Nat} {bs : List (List UInt8)} {s b : List UInt8} (c : Calm D n k) (a : Log D f z m bs s) (hz : f + z ≤ n) (hm : m + bs.length + 1 ≤ lastN) (hb : b.length ≤ 496) (hs : ∀ b ∈ bs, b.length ≤ 496) (hl : 1 + bs.length < z) :
    ∃ D', appendJ D (jOf f z m bs) b = (0, D', jOf f z m (bs ++ [b])) ∧ Calm D' n (k + 1) ∧ Log D' f z m (bs ++ [b]) s ∧ (∀ i, i < n → i < f ∨ f + z ≤ i → D'.now i = D.now i) ∧ D'.secs = D.secs := by
  have hp := pages_one bs hs
  obtain ⟨D', h1, h2, h3, h4, h5⟩ := log_append c a hz hm (b := b) (by unfold roomJ jOf; dsimp only; rw [hp]; omega)
  exact ⟨D', h1, by rw [show (b.length + 527) / 512 = 1 by omega] at h2; exact h2, h3, h4, h5 hb⟩
theorem log_full {D : Dk} {f z m : Nat} {bs : List (List UInt8)} {b : List UInt8} (hr : roomJ (jOf f z m bs) < b.length) : appendJ D (jOf f z m bs) b = (5, D, jOf f z m bs) := append_big rfl hr
theorem splice_begin (m : Nat) (s : List UInt8) : splice s 0 (pic m startN []) = logB m [] s := by
  unfold splice logB
  rw [begin_len]; rfl
theorem log_reset {D : Dk} {n k f z u m : Nat} {s : List UInt8} (c : Calm D n k) (a : Area D f z s) (hm : m ≤ lastN) (h1 : 1 ≤ z) (hz : f + z ≤ n) :
    ∃ D', resetJ D ⟨f, z, u, m, false⟩ = (0, D', jOf f z m []) ∧ Calm D' n (k + 1) ∧ Log D' f z m [] s ∧ (∀ i, i < n → i ≠ f → D'.now i = D.now i) ∧ D'.secs = D.secs := by
  obtain ⟨D', g1, g2, g3, g4, g5⟩ := reset_calm c (j := ⟨f, z, u, m, false⟩) a rfl hm h1 hz
  dsimp only at g1 g3 g4
  rw [splice_begin] at g3
  exact ⟨D', g1, g2, ⟨g3, h1⟩, g4, g5⟩
def LogFmt (D : Dk) (f z n : Nat) (D1 D2 : Dk) : Prop :=
  resetJ D ⟨f, z, 0, 1, false⟩ = (0, D1, jOf f z 1 []) ∧ commitJ D1 (jOf f z 1 []) = (0, D2, jOf f z 1 []) ∧ Calm D2 n 0 ∧ Log D2 f z 1 [] (rowD D f z) ∧
    (∀ i, i < n → i ≠ f → D2.now i = D.now i) ∧ (∀ i, i < n → D2.secs.getD i [] = D2.now i) ∧ D2.waits = []
theorem log_format {D : Dk} {n k f z : Nat} (c : Calm D n k) (ok : D.Ok) (h1 : 1 ≤ z) (hz : f + z ≤ n) : ∃ D1 D2, LogFmt D f z n D1 D2 := by
  obtain ⟨D1, D2, g1, g2, g3, g4, g5, g6, g7⟩ := format_calm c (Area.of ok f z (by rw [c.len]; exact hz)) h1 hz
  rw [splice_begin] at g4
  exact ⟨D1, D2, g1, g2, g3, ⟨g4, h1⟩, g5, g6, g7⟩
theorem log_commit {D : Dk} {n k f z m : Nat} {bs : List (List UInt8)} (c : Calm D n k) : commitJ D (jOf f z m bs) = (0, D.barrier, jOf f z m bs) := commit_calm c rfl
theorem Log.barrier {D : Dk} {n k f z m : Nat} {bs : List (List UInt8)} {s : List UInt8} (a : Log D f z m bs s) (c : Calm D n k) (hz : f + z ≤ n) : Log D.barrier f z m bs s := a.congr fun i hi => now_barrier c _ (by omega)
/-- All is safe: a crash that keeps none leaves it. -/
theorem Log.crash {D : Dk} {n k f z m : Nat} {bs : List (List UInt8)} {s : List UInt8} (a : Log D f z m bs s) (c : Calm D n k) (hs : ∀ i, i < z → D.secs.getD (f + i) [] = D.now (f + i)) : Log (D.crash []).start f z m bs s :=
  a.congr fun i hi => by rw [(crash_none c).2, hs i hi]
theorem log_open {D : Dk} {n k f z m : Nat} {bs : List (List UInt8)} {s : List UInt8} (c : Calm D n k) (a : Log D f z m bs s) (h2 : 2 ≤ z) (h1 : 1 ≤ m) (hm : m + bs.length ≤ lastN) (hb : ∀ b ∈ bs, b.length < 4294967296) (ho : oneB (s.drop (512 * (1 + pages bs))) (m + 1 + bs.length) = none) :
    ∃ D', opnJ D f z = .ok bs D' (jOf f z m bs) ∧ Same D D' := by
  obtain ⟨D', g1, g2, -⟩ := open_some c a.area h2 (replB_recs m bs _ _ rfl h1 ho hm hb)
  exact ⟨D', g1, g2⟩
/-- One sector a record: the records from the k-th on. -/
theorem recs_drop (bs : List (List UInt8)) : ∀ (n k : Nat), (∀ b ∈ bs, b.length ≤ 496) → k ≤ bs.length → (recs n bs).drop (512 * k) = recs (n + k) (bs.drop k) := by
  induction bs with
  | nil => intro n k _ hk; simp at hk; subst hk; rfl
  | cons b bs ih =>
    intro n k h hk
    cases k with
    | zero => rfl
    | succ k =>
      have hb := h b List.mem_cons_self
      have hl : (pic n b.length b).length = 512 := by rw [pic_len]; omega
      rw [recs, Nat.mul_succ, Nat.add_comm (512 * k), ← List.drop_drop, ← hl, List.drop_left, hl, ih (n + 1) k (fun x hx => h x (List.mem_cons_of_mem _ hx)) (by simpa using hk), List.drop_succ_cons]
      congr 1
      omega
theorem recs_num (n : Nat) (bs : List (List UInt8)) (r : List UInt8) (hn : n ≤ lastN) (hb : bs ≠ []) : numL ((recs n bs ++ r).take 8) = n := by
  cases bs with
  | nil => exact absurd rfl hb
  | cons b bs =>
    rw [recs, pic_eq, List.append_assoc, List.append_assoc]
    exact headL_num n b.length b _ (by unfold lastN at hn; omega)
theorem numL_zeros : ∀ k, numL (List.replicate k 0) = 0
  | 0 => rfl
  | k + 1 => by rw [List.replicate_succ, numL, numL_zeros k]; rfl
/-- What lies behind the records: older ones, or noughts. -/
theorem log_rest (m : Nat) (ps bs : List (List UInt8)) (Z : Nat) (ha : ∀ b ∈ ps, b.length ≤ 496) (hm : m + ps.length + bs.length + 3 ≤ lastN) (h1 : 1 ≤ m) (hb : ∀ b ∈ bs, b.length ≤ 496) :
    oneB ((logB m ps (List.replicate (512 * Z) 0)).drop (512 * (1 + pages bs))) (m + 1 + ps.length + 1 + bs.length) = none := by
  rw [pages_one bs hb]
  unfold logB
  rw [pages_one ps ha, List.drop_replicate]
  obtain ⟨q, hq⟩ : ∃ q, q = 512 * Z - 512 * (1 + ps.length) := ⟨_, rfl⟩
  rw [← hq, Nat.mul_add, Nat.mul_one, ← List.drop_drop, ← begin_len m, List.drop_left, begin_len]
  by_cases h : bs.length < ps.length
  · refine one_num ?_
    rw [List.drop_append_of_le_length (by rw [recs_len, pages_one ps ha]; omega), recs_drop ps _ _ ha (by omega), recs_num _ _ _ (by omega) (fun e => by have := congrArg List.length e; simp at this; omega)]
    omega
  · refine one_num ?_
    rw [List.drop_append, List.drop_of_length_le (by rw [recs_len, pages_one ps ha]; omega), List.nil_append, List.drop_replicate, List.take_replicate, numL_zeros]
    omega
theorem row_new (n : Nat) (f : Nat) : ∀ k, f + k ≤ n → rowD (Dk.new n) f k = List.replicate (512 * k) 0
  | 0, _ => rfl
  | k + 1, h => by
    rw [rowD, row_new n f k (by omega), now_new n (f + k) (by omega), Nat.mul_succ, ← List.replicate_append_replicate]
    rfl
/-- Committed, and behind a crash that keeps none: what was reset is gone. -/
theorem reset_opens {D : Dk} {k m : Nat} {ps qs : List (List UInt8)} (c : Calm D 20 k) (a : Log D 0 20 m qs (logB 1 ps (rowD (Dk.new 20) 0 20))) (hm : m = 2 + ps.length) (hp : ∀ b ∈ ps, b.length ≤ 300) (hq : ∀ b ∈ qs, b.length ≤ 300) (hpl : ps.length ≤ 8) (hql : qs.length ≤ 8) :
    ∃ D', opnJ (D.barrier.crash []).start 0 20 = .ok qs D' (jOf 0 20 m qs) ∧ (D.barrier.crash []).start.secs.length = 20 := by
  have c2 := c.barrier
  have c3 := (crash_none c2).1
  have a3 := (a.barrier c (by omega)).crash c2 (fun i hi => by rw [barrier_secs c _ (by omega), now_barrier c _ (by omega)])
  have ho := log_rest 1 ps qs 20 (fun b hb => by have := hp b hb; omega) (by unfold lastN; omega) (by omega) (fun b hb => by have := hq b hb; omega)
  rw [row_new 20 0 20 (by omega)] at a3
  obtain ⟨D', h1, h2⟩ := log_open c3 a3 (by omega) (by omega) (by unfold lastN; omega) (fun b hb => by have := hq b hb; omega) (by rw [hm, ← ho, show 2 + ps.length + 1 + qs.length = 1 + 1 + ps.length + 1 + qs.length by omega])
  exact ⟨D', h1, c3.len⟩
end Go.Proofs.Ytoihfamiclbffaa
