/- Journals on disks that no crash waits for, as plain data: what they write. -/
import Derived.Test.YtoihfamiclbffaaPl
namespace Go.Proofs.Ytoihfamiclbffaa

/-- Bytes are laid over others. -/
def splice (s : List UInt8) (o : Nat) (p : List UInt8) : List UInt8 := s.take o ++ (p ++ s.drop (o + p.length))
theorem splice_len (s : List UInt8) (o : Nat) (p : List UInt8) (h : o + p.length ≤ s.length) : (splice s o p).length = s.length := by unfold splice; simp; omega
theorem splice_low {s : List UInt8} {o : Nat} {p : List UInt8} (h : o + p.length ≤ s.length) (i : Nat) (hi : i + 512 ≤ o) : ((splice s o p).drop i).take 512 = (s.drop i).take 512 := by
  unfold splice
  have h1 : (s.take o).length = o := by rw [List.length_take]; omega
  rw [List.drop_append_of_le_length (by omega), List.take_append_of_le_length (by rw [List.length_drop]; omega), List.drop_take, take_take_le _ (by omega)]
theorem splice_in {s : List UInt8} {o : Nat} {p : List UInt8} (h : o + p.length ≤ s.length) (i : Nat) (h0 : o ≤ i) (hi : i + 512 ≤ o + p.length) : ((splice s o p).drop i).take 512 = (p.drop (i - o)).take 512 := by
  unfold splice
  have h1 : (s.take o).length = o := by rw [List.length_take]; omega
  rw [List.drop_append, h1, List.drop_of_length_le (by omega), List.nil_append, List.drop_append_of_le_length (by omega), List.take_append_of_le_length (by rw [List.length_drop]; omega)]
theorem splice_high {s : List UInt8} {o : Nat} {p : List UInt8} (h : o + p.length ≤ s.length) (i : Nat) (h0 : o + p.length ≤ i) : ((splice s o p).drop i).take 512 = (s.drop i).take 512 := by
  unfold splice
  have h1 : (s.take o).length = o := by rw [List.length_take]; omega
  rw [List.drop_append, h1, List.drop_of_length_le (by omega), List.nil_append, List.drop_append, List.drop_of_length_le (by omega), List.nil_append, List.drop_drop]
  congr 2
  omega
theorem Area.splice {D D' : Dk} {f z : Nat} {s p : List UInt8} (a : Area D f z s) (u k : Nat) (hk : p.length = 512 * k) (hu : u + k ≤ z)
    (h : ∀ i, i < z → D'.now (f + i) = if u ≤ i ∧ i < u + k then (p.drop (512 * (i - u))).take 512 else D.now (f + i)) : Area D' f z (Proofs.Ytoihfamiclbffaa.splice s (512 * u) p) := by
  have hl := a.len
  refine ⟨by rw [splice_len _ _ _ (by omega), hl], fun i hi => ?_⟩
  rw [h i hi]
  by_cases h1 : u ≤ i
  · by_cases h2 : i < u + k
    · rw [if_pos ⟨h1, h2⟩, splice_in (by omega) _ (by omega) (by omega)]
      congr 2
      omega
    · rw [if_neg (by omega), splice_high (by omega) _ (by omega), a.sec i hi]
  · rw [if_neg (by omega), splice_low (by omega) _ (by omega), a.sec i hi]

theorem Calm.secsW {D : Dk} {n k : Nat} (h : Calm D n k) (i : Nat) (b : List UInt8) : (D.write i b).secs = D.secs ∧ (D.write i b).waits = D.waits ++ [(i, b)] := by
  have e : D.write i b = { D.counted with waits := D.counted.waits ++ [(i, b)] } := by simp [Dk.write, h.fell, h.down]
  rw [e]; exact ⟨rfl, rfl⟩
theorem wrs_calm : ∀ (l : List (List UInt8)) (D : Dk) (n m at_ : Nat), Calm D n m → ∃ D', wrs D at_ l = (true, D') ∧ Calm D' n (m + l.length) ∧ D'.secs = D.secs ∧
    (∀ i, D'.now i = if at_ ≤ i ∧ i < at_ + l.length then l.getD (i - at_) [] else D.now i)
  | [], D, n, m, at_, c => ⟨D, rfl, c, rfl, fun i => by rw [if_neg (by simp)]⟩
  | s :: l, D, n, m, at_, c => by
    obtain ⟨D', h1, h2, h3, h4⟩ := wrs_calm l (D.write at_ s) n (m + 1) (at_ + 1) (c.write at_ s)
    refine ⟨D', by rw [wrs, c.fdown, if_neg (by simp), h1], by rw [List.length_cons, show m + (l.length + 1) = m + 1 + l.length by omega]; exact h2, h3.trans (c.secsW _ _).1, fun i => ?_⟩
    rw [h4 i, now_write c, List.length_cons]
    by_cases e : at_ = i
    · subst e
      rw [if_neg (by omega), if_pos rfl, if_pos (by omega), Nat.sub_self]; rfl
    · rw [if_neg e]
      by_cases h5 : at_ + 1 ≤ i ∧ i < at_ + 1 + l.length
      · rw [if_pos h5, if_pos (by omega), show i - at_ = (i - (at_ + 1)) + 1 by omega]; rfl
      · rw [if_neg h5, if_neg (by omega)]

def PutSaid (D : Dk) (j : Jn) (pc : List UInt8) (n m k : Nat) (D' : Dk) : Prop :=
  putJ D j pc = (true, D', { j with used := j.used + (k + 1), next := j.next + 1 }) ∧ Calm D' n (m + (k + 1)) ∧
    (∀ i, i < n → D'.now i = if j.from_ + j.used ≤ i ∧ i < j.from_ + j.used + (k + 1) then (pc.drop (512 * (i - (j.from_ + j.used)))).take 512 else D.now i) ∧ (k = 0 → D'.secs = D.secs)
theorem put_calm {D : Dk} {n m k : Nat} (c : Calm D n m) (j : Jn) (pc : List UInt8) (hp : pc.length = 512 * (k + 1)) : ∃ D', PutSaid D j pc n m k D' := by
  have hl : (secsOf (pc.drop 512)).length = k := by rw [secsOf_len, List.length_drop]; omega
  obtain ⟨D1, h1, h2, h3, h4⟩ := wrs_calm (secsOf (pc.drop 512)) D n m (j.from_ + j.used + 1) c
  rw [hl] at h2 h4
  obtain ⟨Dm, hm⟩ : ∃ Dm, Dm = midD k D1 := ⟨_, rfl⟩
  have cm : Calm Dm n (m + k) := by rw [hm]; unfold midD; split; exact h2; exact h2.barrier.mono (by omega)
  have hnow : ∀ i, i < n → Dm.now i = D1.now i := fun i hi => by rw [hm]; unfold midD; split; rfl; exact now_barrier h2 i hi
  refine ⟨Dm.write (j.from_ + j.used) (pc.take 512), ?_, by rw [show m + (k + 1) = m + k + 1 by omega]; exact cm.write _ _, fun i hi => ?_, fun hk => ?_⟩
  · rw [put_last h1 (.inr h2.fdown), hl, ← hm, cm.fdown, if_neg (by simp)]
    rfl
  · rw [now_write cm, hnow i hi, h4 i]
    by_cases e : j.from_ + j.used = i
    · rw [if_pos e, if_pos (by omega), show i - (j.from_ + j.used) = 0 by omega]; rfl
    · rw [if_neg e]
      by_cases h5 : j.from_ + j.used + 1 ≤ i ∧ i < j.from_ + j.used + 1 + k
      · rw [if_pos h5, if_pos (by omega), secsOf_getD _ _ (by rw [List.length_drop]; omega), List.drop_drop]
        congr 2
        omega
      · rw [if_neg h5, if_neg (by omega)]
  · rw [(cm.secsW _ _).1, hm, midD, if_pos hk, h3]

def AppSaid (D : Dk) (j : Jn) (b : List UInt8) (s : List UInt8) (n m k : Nat) (D' : Dk) : Prop :=
  appendJ D j b = (0, D', ⟨j.from_, j.size, j.used + k, j.next + 1, false⟩) ∧ Calm D' n (m + k) ∧ Area D' j.from_ j.size (splice s (512 * j.used) (pic j.next b.length b)) ∧
    (∀ i, i < n → i < j.from_ ∨ j.from_ + j.size ≤ i → D'.now i = D.now i) ∧ (k = 1 → D'.secs = D.secs) ∧ j.used + k ≤ j.size ∧ 1 ≤ k
theorem append_calm {D : Dk} {n m : Nat} (c : Calm D n m) {j : Jn} {b s : List UInt8} (a : Area D j.from_ j.size s) (hb : j.broken = false) (hn : j.next ≤ lastN) (hr : (b.length : Int) ≤ roomJ j) (hz : j.from_ + j.size ≤ n) :
    ∃ D', AppSaid D j b s n m ((b.length + 527) / 512) D' := by
  obtain ⟨k, hk⟩ : ∃ k, (b.length + 527) / 512 = k + 1 := ⟨(b.length + 15) / 512, by omega⟩
  have hr2 : j.used + (k + 1) ≤ j.size := by unfold roomJ at hr; omega
  rw [hk]
  have hpl : (pic j.next b.length b).length = 512 * (k + 1) := by rw [pic_len, hk]; omega
  obtain ⟨D', h1, h2, h3, h4⟩ := put_calm c j (pic j.next b.length b) hpl
  refine ⟨D', ?_, h2, a.splice j.used (k + 1) hpl hr2 (fun i hi => ?_), fun i hi hx => ?_, fun e => h4 (by omega), hr2, by omega⟩
  · rw [append_ok b hb (by omega), h1]; rfl
  · rw [h3 _ (by omega)]
    by_cases h5 : j.used ≤ i ∧ i < j.used + (k + 1)
    · rw [if_pos h5, if_pos (by omega)]; congr 3; omega
    · rw [if_neg h5, if_neg (by omega)]
  · rw [h3 i hi, if_neg (by omega)]
theorem append_big {D : Dk} {j : Jn} {b : List UInt8} (hb : j.broken = false) (hr : roomJ j < b.length) : appendJ D j b = (5, D, ⟨j.from_, j.size, j.used, j.next, false⟩) := by
  rw [append_full b hb (.inl hr), ← hb]
theorem commit_calm {D : Dk} {n m : Nat} (c : Calm D n m) {j : Jn} (hb : j.broken = false) : commitJ D j = (0, D.barrier, ⟨j.from_, j.size, j.used, j.next, false⟩) := by
  rw [commit_ok hb, c.fdown]; rfl
theorem barrier_secs {D : Dk} {n m : Nat} (c : Calm D n m) (i : Nat) (hi : i < n) : D.barrier.secs.getD i [] = D.now i := by
  rw [← now_barrier c i hi]
  have e : D.barrier = { D.counted with secs := Dk.flush D.counted.waits D.counted.secs, waits := [] } := by simp [Dk.barrier, c.fell, c.down]
  rw [e]; rfl
def ResSaid (D : Dk) (j : Jn) (s : List UInt8) (n m : Nat) (D' : Dk) : Prop :=
  resetJ D j = (0, D', ⟨j.from_, j.size, 1, j.next + 1, false⟩) ∧ Calm D' n (m + 1) ∧ Area D' j.from_ j.size (splice s 0 (pic j.next startN [])) ∧
    (∀ i, i < n → i ≠ j.from_ → D'.now i = D.now i) ∧ D'.secs = D.secs
theorem reset_calm {D : Dk} {n m : Nat} (c : Calm D n m) {j : Jn} {s : List UInt8} (a : Area D j.from_ j.size s) (hb : j.broken = false) (hn : j.next ≤ lastN) (h1 : 1 ≤ j.size) (hz : j.from_ + j.size ≤ n) : ∃ D', ResSaid D j s n m D' := by
  have hpl : (pic j.next startN []).length = 512 * (0 + 1) := begin_len _
  obtain ⟨D', g1, g2, g3, g4⟩ := put_calm c { j with used := 0 } (pic j.next startN []) hpl
  dsimp only at g1 g3
  refine ⟨D', ?_, g2, ?_, fun i hi hx => ?_, g4 rfl⟩
  · rw [reset_ok hb (by omega), g1]; rfl
  · have := a.splice (D' := D') (p := pic j.next startN []) 0 1 hpl (by omega) (fun i hi => by
      rw [g3 _ (by omega)]
      by_cases h5 : 0 ≤ i ∧ i < 0 + 1
      · rw [if_pos h5, if_pos (by omega)]; congr 3; omega
      · rw [if_neg h5, if_neg (by omega)])
    exact this
  · rw [g3 i hi, if_neg (by omega)]
def FmtSaid (D : Dk) (from_ size : Nat) (s : List UInt8) (n : Nat) (D1 D2 : Dk) : Prop :=
  resetJ D ⟨from_, size, 0, 1, false⟩ = (0, D1, ⟨from_, size, 1, 2, false⟩) ∧ commitJ D1 ⟨from_, size, 1, 2, false⟩ = (0, D2, ⟨from_, size, 1, 2, false⟩) ∧ Calm D2 n 0 ∧ Area D2 from_ size (splice s 0 (pic 1 startN [])) ∧
    (∀ i, i < n → i ≠ from_ → D2.now i = D.now i) ∧ (∀ i, i < n → D2.secs.getD i [] = D2.now i) ∧ D2.waits = []
theorem format_calm {D : Dk} {n m : Nat} (c : Calm D n m) {from_ size : Nat} {s : List UInt8} (a : Area D from_ size s) (h1 : 1 ≤ size) (hz : from_ + size ≤ n) : ∃ D1 D2, FmtSaid D from_ size s n D1 D2 := by
  obtain ⟨D1, g1, g2, g3, g4, g5⟩ := reset_calm c (j := ⟨from_, size, 0, 1, false⟩) a rfl (by show 1 ≤ lastN; unfold lastN; omega) h1 hz
  dsimp only at g1 g3 g4
  refine ⟨D1, D1.barrier, g1, commit_calm g2 rfl, g2.barrier, g3.congr (fun i hi => now_barrier g2 _ (by omega)), fun i hi hx => ?_, fun i hi => ?_, List.length_eq_zero_iff.1 (Nat.le_zero.1 g2.barrier.waits)⟩
  · rw [now_barrier g2 i hi, g4 i hi hx]
  · rw [barrier_secs g2 i hi, now_barrier g2 i hi]

/-- A crash that keeps none, and a start. -/
theorem crash_none {D : Dk} {n m : Nat} (c : Calm D n m) : Calm ((D.crash []).start) n 0 ∧ (∀ i, (D.crash []).start.now i = D.secs.getD i []) := by
  have h : ∀ (l : List (Nat × List UInt8)) (i : Nat) (s : List (List UInt8)), Dk.keepFrom [] i l s = s := by
    intro l
    induction l with
    | nil => intro i s; rfl
    | cons x l ih => intro i s; rw [Dk.keepFrom, ih]; rfl
  have e : (D.crash []).start = { D with waits := [], down := false, armed := none } := by
    unfold Dk.crash Dk.start
    simp [h]
  rw [e]
  exact ⟨⟨c.len, Nat.le_refl _, rfl, rfl⟩, fun i => rfl⟩
theorem crash_any {D : Dk} {n m : Nat} (c : Calm D n m) (keep : List Bool) : Calm ((D.crash keep).start) n 0 := by
  obtain ⟨h, _⟩ := crash_quiet D keep
  have hq := h.calm
  refine ⟨?_, by rw [h.waits]; exact Nat.le_refl _, h.down, h.armed⟩
  rw [h.secs]
  show (Dk.keepFrom keep 0 D.waits D.secs).length = n
  rw [Dk.keepFrom_len, c.len]

/-! ### What holds of every sector, and of every write -/
structure Inv (P : Nat → List UInt8 → Prop) (D : Dk) : Prop where
  secs : ∀ i, i < D.secs.length → P i (D.secs.getD i [])
  waits : ∀ x ∈ D.waits, P x.1 x.2
section
variable {P : Nat → List UInt8 → Prop} {D : Dk}
theorem set_inv {s : List (List UInt8)} (h : ∀ i, i < s.length → P i (s.getD i [])) {k : Nat} {b : List UInt8} (hb : P k b) : ∀ i, i < (s.set k b).length → P i ((s.set k b).getD i []) := by
  intro i hi
  rw [List.length_set] at hi
  by_cases e : k = i
  · subst e; simpa [List.getD, hi] using hb
  · have := h i hi
    simpa [List.getD, List.getElem?_set_ne e] using this
theorem keepFrom_inv (keep : List Bool) : ∀ (l : List (Nat × List UInt8)) (i : Nat) (s : List (List UInt8)), (∀ i, i < s.length → P i (s.getD i [])) → (∀ x ∈ l, P x.1 x.2) → ∀ k, k < (Dk.keepFrom keep i l s).length → P k ((Dk.keepFrom keep i l s).getD k [])
  | [], _, _, h, _ => h
  | x :: l, i, s, h, hl => by
    rw [Dk.keepFrom]
    refine keepFrom_inv keep l _ _ ?_ (fun y hy => hl y (List.mem_cons_of_mem _ hy))
    split
    · exact set_inv h (hl x List.mem_cons_self)
    · exact h
theorem flush_inv : ∀ (l : List (Nat × List UInt8)) (s : List (List UInt8)), (∀ i, i < s.length → P i (s.getD i [])) → (∀ x ∈ l, P x.1 x.2) → ∀ k, k < (Dk.flush l s).length → P k ((Dk.flush l s).getD k [])
  | [], _, h, _ => h
  | x :: l, s, h, hl => flush_inv l (s.set x.1 x.2) (set_inv h (hl x List.mem_cons_self)) (fun y hy => hl y (List.mem_cons_of_mem _ hy))
theorem Inv.crash (h : Inv P D) (keep : List Bool) : Inv P (D.crash keep) := ⟨keepFrom_inv keep _ _ _ h.secs h.waits, fun x hx => by simp [Dk.crash] at hx⟩
theorem Inv.fell (h : Inv P D) : Inv P D.fell := by unfold Dk.fell; split; exact h.crash _; exact h
theorem Inv.counted (h : Inv P D) : Inv P D.counted := ⟨h.secs, h.waits⟩
theorem Inv.begun (h : Inv P D) : Inv P D.begun := by unfold Dk.begun; split; exact h.fell; exact h.fell.counted
theorem Inv.write (h : Inv P D) (i : Nat) (b : List UInt8) (hb : P i b) : Inv P (D.write i b) := by
  unfold Dk.write
  split
  · exact h.fell
  · refine ⟨h.fell.secs, fun x hx => ?_⟩
    rcases List.mem_append.1 hx with hx | hx
    · exact h.fell.waits x hx
    · simp at hx; subst hx; exact hb
theorem Inv.barrier (h : Inv P D) : Inv P D.barrier := by
  unfold Dk.barrier
  split
  · exact h.fell
  · exact ⟨flush_inv _ _ h.fell.secs h.fell.waits, fun x hx => by simp at hx⟩
theorem Inv.start (h : Inv P D) : Inv P D.start := by unfold Dk.start; split; exact ⟨h.secs, h.waits⟩; exact h
theorem Inv.arm (h : Inv P D) (n : Int) (keep : List Bool) : Inv P (D.arm n keep) := ⟨h.secs, h.waits⟩
theorem Inv.same {D' : Dk} (h : Inv P D) (s : Same D D') : Inv P D' := ⟨by rw [s.secs]; exact h.secs, by rw [s.waits]; exact h.waits⟩
theorem Inv.now (h : Inv P D) (i : Nat) (hi : i < D.secs.length) : P i (D.now i) := by
  unfold Dk.now
  split
  · rename_i x hx
    have h1 := h.waits x (List.mem_reverse.1 (List.mem_of_find?_eq_some hx))
    have h2 : x.1 = i := by simpa using List.find?_some hx
    rw [h2] at h1
    exact h1
  · exact h.secs i hi
theorem wrs_inv : ∀ (l : List (List UInt8)) (D : Dk) (at_ : Nat), Inv P D → (∀ i, i < l.length → P (at_ + i) (l.getD i [])) → Inv P (wrs D at_ l).2
  | [], _, _, h, _ => h
  | s :: l, D, at_, h, hl => by
    have h0 := h.write at_ s (hl 0 (by simp))
    rw [wrs]
    split
    · exact h0
    · refine wrs_inv l _ _ h0 (fun i hi => ?_)
      have := hl (i + 1) (by simpa using hi)
      rw [show at_ + 1 + i = at_ + (i + 1) by omega]
      exact this
theorem Inv.put (h : Inv P D) (j : Jn) (pc : List UInt8) (k : Nat) (hp : pc.length = 512 * (k + 1)) (hP : ∀ i, i < k + 1 → P (j.from_ + j.used + i) ((pc.drop (512 * i)).take 512)) : Inv P (putJ D j pc).2.1 := by
  have hl : (secsOf (pc.drop 512)).length = k := by rw [secsOf_len, List.length_drop]; omega
  have h1 := wrs_inv (secsOf (pc.drop 512)) D (j.from_ + j.used + 1) h (fun i hi => by
    rw [hl] at hi
    rw [secsOf_getD _ _ (by rw [List.length_drop]; omega), List.drop_drop]
    have := hP (i + 1) (by omega)
    rw [show j.from_ + j.used + 1 + i = j.from_ + j.used + (i + 1) by omega, show 512 + 512 * i = 512 * (i + 1) by omega]
    exact this)
  have h0 : P (j.from_ + j.used) (pc.take 512) := by have := hP 0 (by omega); rw [Nat.mul_zero, List.drop_zero, Nat.add_zero] at this; exact this
  obtain ⟨⟨ok, D1⟩, hx⟩ : ∃ x, x = wrs D (j.from_ + j.used + 1) (secsOf (pc.drop 512)) := ⟨_, rfl⟩
  rw [← hx] at h1
  cases ok with
  | false => rw [put_fail hx.symm]; exact h1
  | true =>
    by_cases hd : (secsOf (pc.drop 512)).length = 0 ∨ D1.fell.down = false
    · rw [put_last hx.symm hd]
      have hm : Inv P (midD (secsOf (pc.drop 512)).length D1) := by unfold midD; split; exact h1; exact h1.barrier
      split
      · exact hm.write _ _ h0
      · exact hm.write _ _ h0
    · rw [put_bar hx.symm (fun e => hd (.inl e)) (by cases h : D1.fell.down with | true => rfl | false => exact absurd (.inr h) hd)]
      exact h1.barrier
end
end Go.Proofs.Ytoihfamiclbffaa
