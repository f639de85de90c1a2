/- JournalDown's plain law: a disk that a crash may wait for, and a journal on it. -/
import Derived.Test.YtoihfamiclbffaaLog
namespace Go.Proofs.Ytoihfamiclbffaa

theorem fell_secs (D : Dk) : D.fell.secs.length = D.secs.length := Dk.fell_len D
theorem fell_armed {D : Dk} (h : D.down = true → D.armed = none) : D.fell.down = true → D.fell.armed = none := by
  unfold Dk.fell
  split
  · intro _; rfl
  · exact h
theorem write_down_iff (D : Dk) (i : Nat) (b : List UInt8) : (D.write i b).down = D.fell.down := by unfold Dk.write; split <;> simp_all [Dk.counted]
theorem barrier_down_iff (D : Dk) : D.barrier.down = D.fell.down := by unfold Dk.barrier; split <;> simp_all [Dk.counted]
theorem write_armed {D : Dk} (h : D.down = true → D.armed = none) (i : Nat) (b : List UInt8) : (D.write i b).down = true → (D.write i b).armed = none := by
  intro h1
  have h2 := fell_armed h
  rw [write_down_iff] at h1
  unfold Dk.write
  rw [if_pos h1]
  exact h2 h1
theorem barrier_armed {D : Dk} (h : D.down = true → D.armed = none) : D.barrier.down = true → D.barrier.armed = none := by
  intro h1
  have h2 := fell_armed h
  rw [barrier_down_iff] at h1
  unfold Dk.barrier
  rw [if_pos h1]
  exact h2 h1
/-- What holds of a disk all along. -/
structure Hard (P : Nat → List UInt8 → Prop) (n : Nat) (D : Dk) : Prop where
  inv : Inv P D
  len : D.secs.length = n
  arm : D.down = true → D.armed = none
section
variable {P : Nat → List UInt8 → Prop} {n : Nat} {D : Dk}
theorem Hard.write (h : Hard P n D) (i : Nat) (b : List UInt8) (hb : P i b) : Hard P n (D.write i b) := ⟨h.inv.write i b hb, by rw [write_len]; exact h.len, write_armed h.arm i b⟩
theorem Hard.barrier (h : Hard P n D) : Hard P n D.barrier := ⟨h.inv.barrier, by rw [barrier_len]; exact h.len, barrier_armed h.arm⟩
theorem hard_wrs : ∀ (l : List (List UInt8)) (D : Dk) (at_ : Nat), Hard P n D → (∀ i, i < l.length → P (at_ + i) (l.getD i [])) → Hard P n (wrs D at_ l).2 ∧ ((wrs D at_ l).1 = false → (wrs D at_ l).2.down = true) ∧ (wrs D at_ l).2.waits.length ≤ D.waits.length + l.length
  | [], D, _, h, _ => ⟨h, (fun e => by cases e), Nat.le_refl _⟩
  | s :: l, D, at_, h, hl => by
    have h0 := h.write at_ s (hl 0 (by simp))
    have hw := write_waits D at_ s
    rw [wrs, List.length_cons]
    by_cases hd : D.fell.down = true
    · rw [if_pos hd]
      exact ⟨h0, fun _ => by rw [write_down_iff]; exact hd, by dsimp only; omega⟩
    · rw [if_neg hd]
      obtain ⟨g1, g2, g3⟩ := hard_wrs l _ (at_ + 1) h0 (fun i hi => by
        have := hl (i + 1) (by simpa using hi)
        rw [show at_ + 1 + i = at_ + (i + 1) by omega]
        exact this)
      exact ⟨g1, g2, by omega⟩
theorem hard_put (h : Hard P n D) (j : Jn) (pc : List UInt8) (k : Nat) (hp : pc.length = 512 * (k + 1)) (hP : ∀ i, i < k + 1 → P (j.from_ + j.used + i) ((pc.drop (512 * i)).take 512)) :
    ∃ ok D', putJ D j pc = (ok, D', if ok then { j with used := j.used + (k + 1), next := j.next + 1 } else j) ∧ Hard P n D' ∧ D'.down = !ok ∧ D'.waits.length ≤ D.waits.length + (k + 1) := by
  have hl : (secsOf (pc.drop 512)).length = k := by rw [secsOf_len, List.length_drop]; omega
  have h1 := hard_wrs (secsOf (pc.drop 512)) D (j.from_ + j.used + 1) h (fun i hi => by
    rw [hl] at hi
    rw [secsOf_getD _ _ (by rw [List.length_drop]; omega), List.drop_drop]
    have := hP (i + 1) (by omega)
    rw [show j.from_ + j.used + 1 + i = j.from_ + j.used + (i + 1) by omega, show 512 + 512 * i = 512 * (i + 1) by omega]
    exact this)
  have h0 : P (j.from_ + j.used) (pc.take 512) := by have := hP 0 (by omega); rw [Nat.mul_zero, List.drop_zero, Nat.add_zero] at this; exact this
  obtain ⟨⟨ok, D1⟩, hx⟩ : ∃ x, x = wrs D (j.from_ + j.used + 1) (secsOf (pc.drop 512)) := ⟨_, rfl⟩
  rw [← hx, hl] at h1
  obtain ⟨g1, g2, g3⟩ := h1
  dsimp only at g1 g2 g3
  cases ok with
  | false => exact ⟨false, D1, by rw [put_fail hx.symm]; rfl, g1, g2 rfl, by omega⟩
  | true =>
    by_cases hd : (secsOf (pc.drop 512)).length = 0 ∨ D1.fell.down = false
    · rw [put_last hx.symm hd, hl]
      have hm : Hard P n (midD k D1) ∧ (midD k D1).waits.length ≤ D.waits.length + k := by
        unfold midD
        split
        · exact ⟨g1, by omega⟩
        · exact ⟨g1.barrier, by have := barrier_waits D1; omega⟩
      have hw := write_waits (midD k D1) (j.from_ + j.used) (pc.take 512)
      have hw2 := hm.1.write _ _ h0
      by_cases e : (midD k D1).fell.down = true
      · rw [if_pos e]
        exact ⟨false, _, rfl, hw2, by rw [write_down_iff, e]; rfl, by omega⟩
      · rw [if_neg e]
        exact ⟨true, _, by simp only [if_true]; rfl, hw2, by rw [write_down_iff]; simpa using e, by omega⟩
    · have e : D1.fell.down = true := by cases h : D1.fell.down with | true => rfl | false => exact absurd (.inr h) hd
      rw [put_bar hx.symm (fun e => hd (.inl e)) e]
      exact ⟨false, _, rfl, g1.barrier, by rw [barrier_down_iff, e]; rfl, by have := barrier_waits D1; omega⟩
end

/-- The first sector is the beginning. -/
def P0 (i : Nat) (b : List UInt8) : Prop := i = 0 → b = pic 1 startN []
structure DownI (D : Dk) (j : Jn) (k : Nat) : Prop where
  hard : Hard P0 20 D
  waits : D.waits.length ≤ 3 * k
  down : D.down = j.broken
  from_ : j.from_ = 0
  size : j.size = 20
  used1 : 1 ≤ j.used
  used2 : j.used ≤ 20
  next : j.next ≤ 2 + k
structure DownS (D : Dk) (x : Int × Dk × Jn) (k : Nat) (r : Int) (n : Nat) : Prop where
  st : DownI x.2.1 x.2.2 k
  e : (x.1 = 0 ∧ x.2.1.down = false) ∨ (x.1 = 11 ∧ x.2.1.down = true) ∨ (x.1 = 5 ∧ x.2.1.down = false ∧ r < n)
  was : D.down = true → x.1 = 11
theorem down_append {D : Dk} {j : Jn} {k : Nat} (h : DownI D j k) (hk : k ≤ 100) (t : List UInt8) (ht : t.length ≤ 600) : DownS D (appendJ D j t) (k + 1) (roomJ j) t.length := by
  have hs := h.size
  have hu := h.used1
  have hn := h.next
  have hw := h.waits
  by_cases hb : j.broken = true
  · rw [append_broken t hb]
    have hd : D.down = true := by rw [h.down]; exact hb
    exact ⟨⟨h.hard, by dsimp only; omega, h.down, h.from_, hs, hu, h.used2, by dsimp only; omega⟩, .inr (.inl ⟨rfl, hd⟩), fun _ => rfl⟩
  · have hb : j.broken = false := by simpa using hb
    by_cases hr : roomJ j < t.length
    · rw [append_full t hb (.inl hr)]
      exact ⟨⟨h.hard, by dsimp only; omega, h.down, h.from_, hs, hu, h.used2, by dsimp only; omega⟩, .inr (.inr ⟨rfl, by dsimp only; rw [h.down]; exact hb, hr⟩), fun hd => by rw [h.down, hb] at hd; cases hd⟩
    · rw [append_ok t hb (by unfold lastN; omega)]
      obtain ⟨c, hc⟩ : ∃ c, (t.length + 527) / 512 = c + 1 := ⟨(t.length + 15) / 512, by omega⟩
      have hfit : j.used + (c + 1) ≤ 20 := by unfold roomJ at hr; rw [hs] at hr; omega
      obtain ⟨ok, D', h1, h2, h3, h4⟩ := hard_put h.hard j (pic j.next t.length t) c (by rw [pic_len, hc]; omega) (fun i _ e => by omega)
      rw [h1]
      cases ok with
      | false => exact ⟨⟨h2, by show D'.waits.length ≤ _; omega, h3, h.from_, hs, hu, h.used2, by show j.next ≤ _; omega⟩, .inr (.inl ⟨rfl, h3⟩), fun _ => rfl⟩
      | true => exact ⟨⟨h2, by show D'.waits.length ≤ _; omega, h3, h.from_, hs, by show 1 ≤ j.used + (c + 1); omega, hfit, by show j.next + 1 ≤ _; omega⟩, .inl ⟨rfl, h3⟩, fun hd => by rw [h.down, hb] at hd; cases hd⟩
theorem down_commit {D : Dk} {j : Jn} {k : Nat} (h : DownI D j k) : DownI (commitJ D j).2.1 (commitJ D j).2.2 k ∧ (((commitJ D j).1 = 0 ∧ (commitJ D j).2.1.down = false) ∨ ((commitJ D j).1 = 11 ∧ (commitJ D j).2.1.down = true)) ∧ (D.down = true → (commitJ D j).1 = 11) := by
  by_cases hb : j.broken = true
  · rw [commit_broken hb]
    exact ⟨h, .inr ⟨rfl, by dsimp only; rw [h.down]; exact hb⟩, fun _ => rfl⟩
  · have hb : j.broken = false := by simpa using hb
    rw [commit_ok hb]
    have hw := barrier_waits D
    have hd := barrier_down_iff D
    have hw2 := h.waits
    cases hf : D.fell.down with
    | true =>
      rw [hf] at hd
      exact ⟨⟨h.hard.barrier, by show D.barrier.waits.length ≤ _; omega, hd, h.from_, h.size, h.used1, h.used2, h.next⟩, .inr ⟨rfl, hd⟩, fun _ => rfl⟩
    | false =>
      rw [hf] at hd
      exact ⟨⟨h.hard.barrier, by show D.barrier.waits.length ≤ _; omega, hd, h.from_, h.size, h.used1, h.used2, h.next⟩, .inl ⟨rfl, hd⟩, fun e => by rw [h.down, hb] at e; cases e⟩
theorem repl_begin (m : Nat) (s : List UInt8) (h1 : 1 ≤ m) (h2 : m ≤ lastN) (hs : s.take 512 = pic m startN []) : ∃ l n u, replB s = some (l, n, u) := by
  obtain ⟨r, hr⟩ : ∃ r, s = headL m startN [] ++ r := ⟨_, by rw [← List.take_append_drop 512 s, hs, pic_eq, List.append_assoc]⟩
  have g1 : numL (s.take 8) = m := by rw [hr]; exact headL_num m startN [] r (by unfold lastN at h2; omega)
  have g2 : s.take 16 = headL m startN [] := by rw [hr, List.take_append_of_le_length (by rw [headL_len]; omega), List.take_of_length_le (by rw [headL_len]; omega)]
  unfold replB
  rw [g1, g2, if_neg (by simp; omega)]
  exact ⟨_, _, _, rfl⟩
/-- Opened again it goes on. -/
def Again (D : Dk) : Prop := ∃ l D3 u nn, opnJ D.start 0 20 = .ok l D3 ⟨0, 20, u, nn, false⟩ ∧ 1 ≤ u ∧ u ≤ 20 ∧ D.start.secs.length = 20 ∧ D3.secs.length = 20 ∧ D3.waits.length ≤ 100 ∧
  (u = 20 → roomJ ⟨0, 20, u, nn, false⟩ = -1 ∧ ∃ D4 j4, commitJ D3 ⟨0, 20, u, nn, false⟩ = (0, D4, j4)) ∧
  (u < 20 → ¬ roomJ ⟨0, 20, u, nn, false⟩ < 0 ∧ ∃ D4 j4 D5 j5, appendJ D3 ⟨0, 20, u, nn, false⟩ [] = (0, D4, j4) ∧ commitJ D4 j4 = (0, D5, j5))
theorem down_again {D : Dk} {j : Jn} {k : Nat} (h : DownI D j k) (hok : D.Ok) (hd : D.down = true) (hk : k ≤ 30) : Again D := by
  have es : D.start = { D with down := false } := by unfold Dk.start; rw [if_pos hd]
  have hw := h.waits
  have c : Calm D.start 20 90 := by rw [es]; exact ⟨h.hard.len, by dsimp only; omega, rfl, h.hard.arm hd⟩
  have hi : Inv P0 D.start := h.hard.inv.start
  have a := Area.of (Dk.ok_start hok) 0 20 (by rw [c.len]; omega)
  have h0 : D.start.now 0 = pic 1 startN [] := hi.now 0 (by rw [c.len]; omega) rfl
  have hs : (rowD D.start 0 20).take 512 = pic 1 startN [] := by rw [← h0]; have := a.sec 0 (by omega); rw [Nat.add_zero, Nat.mul_zero, List.drop_zero] at this; exact this.symm
  obtain ⟨l, nn, u, hr⟩ := repl_begin 1 _ (by omega) (by unfold lastN; omega) hs
  obtain ⟨D3, g1, g2, g3, g4, g5, g6, g7⟩ := open_some c a (by omega) hr
  have c3 := g2.calm c
  have hnn : nn ≤ 100 := by
    rw [h0] at g6
    have : numL ((pic 1 startN []).take 8) = 1 := by decide +kernel
    omega
  refine ⟨l, D3, u, nn, g1, g3, g4, c.len, c3.len, by have := c3.waits; omega, fun e => ⟨by subst e; unfold roomJ; dsimp only; omega, _, _, commit_calm c3 rfl⟩, fun e => ⟨by unfold roomJ; dsimp only; omega, ?_⟩⟩
  obtain ⟨D4, f1, f2, _⟩ := append_calm c3 (j := ⟨0, 20, u, nn, false⟩) (b := []) (a.same g2) rfl (by show nn ≤ lastN; unfold lastN; omega) (by unfold roomJ; dsimp only [List.length_nil]; omega) (by show 0 + 20 ≤ 20; omega)
  exact ⟨_, _, _, _, f1, commit_calm f2 rfl⟩
/-- Armed. -/
theorem down_first {D : Dk} (c : Calm D 20 0) (a : Log D 0 20 1 [] (rowD (Dk.new 20) 0 20)) (hs : ∀ i, i < 20 → D.secs.getD i [] = D.now i) (hw : D.waits = []) (n : Int) : DownI (D.arm n []) (jOf 0 20 1 []) 0 := by
  have h0 : D.now 0 = pic 1 startN [] := by
    have := a.area.sec 0 (by omega)
    rw [Nat.add_zero, Nat.mul_zero, List.drop_zero] at this
    rw [this]
    unfold logB
    rw [List.take_append_of_le_length (by rw [begin_len]; omega), List.take_of_length_le (by rw [begin_len]; omega)]
  refine ⟨⟨⟨fun i hi e => ?_, fun x hx => ?_⟩, c.len, fun e => ?_⟩, by show D.waits.length ≤ _; rw [hw]; exact Nat.le_refl _, c.down, rfl, rfl, Nat.le_refl _, by show 1 + 0 ≤ 20; omega, Nat.le_refl _⟩
  · show D.secs.getD i [] = _
    rw [hs i (by have : i < D.secs.length := hi; rw [c.len] at this; exact this), e, h0]
  · have : x ∈ D.waits := hx
    rw [hw] at this
    simp at this
  · have : D.down = true := e
    rw [c.down] at this
    cases this
end Go.Proofs.Ytoihfamiclbffaa
