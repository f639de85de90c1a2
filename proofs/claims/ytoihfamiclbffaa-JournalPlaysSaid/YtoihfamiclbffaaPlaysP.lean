/- JournalPlays' plain law: what a step leaves. -/
import Derived.Test.YtoihfamiclbffaaDownP
namespace Go.Proofs.Ytoihfamiclbffaa

/-- The first sector is a beginning of a number that is not great. -/
def Pb (f B : Nat) (i : Nat) (b : List UInt8) : Prop := i = f → ∃ m, 1 ≤ m ∧ m ≤ B ∧ b = pic m startN []
theorem Inv.mono {P P' : Nat → List UInt8 → Prop} {D : Dk} (h : Inv P D) (hP : ∀ i b, P i b → P' i b) : Inv P' D := ⟨fun i hi => hP _ _ (h.secs i hi), fun x hx => hP _ _ (h.waits x hx)⟩
theorem Pb.mono {f B B' : Nat} (h : B ≤ B') : ∀ i b, Pb f B i b → Pb f B' i b := fun i b hp e => by
  obtain ⟨m, h1, h2, h3⟩ := hp e
  exact ⟨m, h1, by omega, h3⟩
structure PlayI (D : Dk) (f z u n k : Nat) (s : List UInt8) : Prop where
  calm : Calm D 12 (8 * k)
  area : Area D f z s
  inv : Inv (Pb f (2 + 20 * k)) D
  used1 : 1 ≤ u
  used2 : u ≤ z
  next1 : 2 ≤ n
  next2 : n ≤ 2 + 20 * k
theorem PlayI.same {D D' : Dk} {f z u n k : Nat} {s : List UInt8} (h : PlayI D f z u n k s) (hs : Same D D') : PlayI D' f z u n k s := ⟨hs.calm h.calm, h.area.same hs, h.inv.same hs, h.used1, h.used2, h.next1, h.next2⟩
theorem PlayI.later {D : Dk} {f z u n k : Nat} {s : List UInt8} (h : PlayI D f z u n k s) : PlayI D f z u n (k + 1) s :=
  ⟨h.calm.mono (by omega), h.area, h.inv.mono (Pb.mono (by omega)), h.used1, h.used2, h.next1, by have := h.next2; omega⟩
theorem play_full {D : Dk} {f z u n k : Nat} {s t : List UInt8} (h : PlayI D f z u n k s) (ht : t.length ≤ 1200) (hf : z < u + (t.length + 527) / 512) : appendJ D ⟨f, z, u, n, false⟩ t = (5, D, ⟨f, z, u, n, false⟩) :=
  append_full t rfl (.inl (by have := h.used2; unfold roomJ; dsimp only; omega))
theorem play_append {D : Dk} {f z u n k : Nat} {s t : List UInt8} (h : PlayI D f z u n k s) (hk : k ≤ 30) (hz : f + z ≤ 12) (ht : t.length ≤ 1200) (hf : u + (t.length + 527) / 512 ≤ z) :
    ∃ D', appendJ D ⟨f, z, u, n, false⟩ t = (0, D', ⟨f, z, u + (t.length + 527) / 512, n + 1, false⟩) ∧ PlayI D' f z (u + (t.length + 527) / 512) (n + 1) (k + 1) (splice s (512 * u) (pic n t.length t)) := by
  have hu := h.used1
  have hn := h.next2
  have hr : (t.length : Int) ≤ roomJ ⟨f, z, u, n, false⟩ := by unfold roomJ; dsimp only; omega
  obtain ⟨D', h1, h2, h3, h4, h5, h6, h7⟩ := append_calm h.calm (j := ⟨f, z, u, n, false⟩) (b := t) h.area rfl (by show n ≤ lastN; unfold lastN; omega) hr hz
  obtain ⟨c, hc⟩ : ∃ c, (t.length + 527) / 512 = c + 1 := ⟨(t.length + 15) / 512, by omega⟩
  have hinv : Inv (Pb f (2 + 20 * k)) D' := by
    have hp := h.inv.put ⟨f, z, u, n, false⟩ (pic n t.length t) c (by rw [pic_len, hc]; omega) (fun i hi e => by dsimp only at e; omega)
    have e := append_ok (D := D) (j := ⟨f, z, u, n, false⟩) t rfl (by
      intro e
      rcases e with e | e
      · omega
      · have e : lastN < n := e
        unfold lastN at e
        omega)
    rw [h1] at e
    have e2 : D' = (putJ D ⟨f, z, u, n, false⟩ (pic n t.length t)).2.1 := congrArg (fun x => x.2.1) e
    rw [e2]
    exact hp
  exact ⟨D', h1, h2.mono (by omega), h3, hinv.mono (Pb.mono (by omega)), by omega, hf, by have := h.next1; omega, by omega⟩
theorem play_commit {D : Dk} {f z u n k : Nat} {s : List UInt8} (h : PlayI D f z u n k s) (hz : f + z ≤ 12) : commitJ D ⟨f, z, u, n, false⟩ = (0, D.barrier, ⟨f, z, u, n, false⟩) ∧ PlayI D.barrier f z u n (k + 1) s :=
  ⟨commit_calm h.calm rfl, h.calm.barrier.mono (by omega), h.area.congr (fun i hi => now_barrier h.calm _ (by omega)), h.inv.barrier.mono (Pb.mono (by omega)), h.used1, h.used2, h.next1, by have := h.next2; omega⟩
theorem play_reset {D : Dk} {f z u n k : Nat} {s : List UInt8} (h : PlayI D f z u n k s) (hk : k ≤ 30) (hz : f + z ≤ 12) (h1 : 2 ≤ z) :
    ∃ D', resetJ D ⟨f, z, u, n, false⟩ = (0, D', ⟨f, z, 1, n + 1, false⟩) ∧ PlayI D' f z 1 (n + 1) (k + 1) (pic n startN [] ++ s.drop 512) := by
  have hn := h.next2
  have hn1 := h.next1
  obtain ⟨D', g1, g2, g3, g4, g5⟩ := reset_calm h.calm (j := ⟨f, z, u, n, false⟩) h.area rfl (by show n ≤ lastN; unfold lastN; omega) (by show 1 ≤ z; omega) hz
  have hinv : Inv (Pb f (2 + 20 * k)) D' := by
    have hp := h.inv.put ⟨f, z, 0, n, false⟩ (pic n startN []) 0 (begin_len n) (fun i hi e => by
      have : i = 0 := by omega
      subst this
      exact ⟨n, by omega, by omega, by rw [Nat.mul_zero, List.drop_zero, List.take_of_length_le (by rw [begin_len]; omega)]⟩)
    have e := reset_ok (D := D) (j := ⟨f, z, u, n, false⟩) rfl (by show ¬ lastN < n; unfold lastN; omega)
    rw [g1] at e
    have e2 : D' = (putJ D ⟨f, z, 0, n, false⟩ (pic n startN [])).2.1 := congrArg (fun x => x.2.1) e
    rw [e2]
    exact hp
  refine ⟨D', g1, g2.mono (by omega), ?_, hinv.mono (Pb.mono (by omega)), Nat.le_refl _, by omega, by omega, by omega⟩
  have e : splice s 0 (pic n startN []) = pic n startN [] ++ s.drop 512 := by unfold splice; rw [begin_len]; rfl
  rw [← e]
  exact g3
/-- Behind a crash, and a start: what Open tells is what the sectors tell. -/
theorem play_crash {D : Dk} {f z u n k : Nat} {s : List UInt8} (h : PlayI D f z u n k s) (ok : D.Ok) (hk : k ≤ 30) (hz : f + z ≤ 12) (h1 : 2 ≤ z) (keep : List Bool) :
    ∃ D2, rds z (D.crash keep).start f [] = (true, rowD (D.crash keep).start f z, D2) ∧ D2.secs.length = 12 ∧ ∃ l D3 n' u', replB (rowD (D.crash keep).start f z) = some (l, n', u') ∧ opnJ D2 f z = .ok l D3 ⟨f, z, u', n', false⟩ ∧ PlayI D3 f z u' n' (k + 1) (rowD (D.crash keep).start f z) := by
  have c := crash_any h.calm keep
  have ok2 : (D.crash keep).start.Ok := Dk.ok_start (Dk.ok_crash ok keep)
  have inv := (h.inv.crash keep).start
  obtain ⟨D2, r1, r2⟩ := rds_calm z (D.crash keep).start 12 0 f [] c
  have a := Area.of ok2 f z (by rw [c.len]; exact hz)
  obtain ⟨m, m1, m2, m3⟩ := inv.now f (by rw [c.len]; omega) rfl
  have hs : (rowD (D.crash keep).start f z).take 512 = pic m startN [] := by
    rw [← m3]
    have := a.sec 0 (by omega)
    rw [Nat.add_zero, Nat.mul_zero, List.drop_zero] at this
    exact this.symm
  have hkk : 2 + 20 * k ≤ 800 := by omega
  obtain ⟨l, n', u', hr⟩ := repl_begin m _ m1 (by unfold lastN; omega) hs
  have c2 := r2.calm c
  obtain ⟨D3, g1, g2, g3, g4, g5, g6, g7⟩ := open_some c2 (a.same r2) h1 hr
  have hm : numL ((D2.now f).take 8) = m := by
    rw [r2.now, m3]
    have e : pic m startN [] = headL m startN [] ++ ([] ++ List.replicate ((512 - (headL m startN [] ++ []).length % 512) % 512) 0) := pic_eq m startN []
    rw [e]
    exact headL_num m startN [] _ (by omega)
  rw [hm] at g6
  have c3 := g2.calm c2
  exact ⟨D2, by rw [r1, List.nil_append], c2.len, l, D3, n', u', hr, g1, c3.mono (by omega), (a.same r2).same g2, ((inv.same r2).same g2).mono (Pb.mono (by omega)), g3, g4, g5, by omega⟩
/-- The sectors as they are told. -/
theorem play_area {D : Dk} {f z u n k : Nat} {s : List UInt8} (h : PlayI D f z u n k s) : ∃ D2, rds z D f [] = (true, s, D2) ∧ Same D D2 := by
  obtain ⟨D2, r1, r2⟩ := rds_calm z D 12 (8 * k) f [] h.calm
  exact ⟨D2, by rw [r1, List.nil_append, h.area.eq], r2⟩
theorem play_first {D : Dk} {f z : Nat} (c : Calm D 12 0) (a : Log D f z 1 [] (rowD (Dk.new 12) f z)) (hz : f + z ≤ 12) (h1 : 2 ≤ z) (hs : ∀ i, i < 12 → D.secs.getD i [] = D.now i) (hw : D.waits = []) : PlayI D f z 1 2 0 (pic 1 startN [] ++ List.replicate (512 * (z - 1)) 0) := by
  have e : logB 1 [] (rowD (Dk.new 12) f z) = pic 1 startN [] ++ List.replicate (512 * (z - 1)) 0 := by
    unfold logB
    rw [row_new 12 f z hz, List.drop_replicate]
    simp only [recs, pages, List.nil_append, Nat.add_zero, Nat.mul_one]
    rw [show 512 * z - 512 = 512 * (z - 1) by omega]
  have ar := a.area
  rw [e] at ar
  have h0 : D.now f = pic 1 startN [] := by
    have := ar.sec 0 (by omega)
    rw [Nat.add_zero, Nat.mul_zero, List.drop_zero] at this
    rw [this, List.take_append_of_le_length (by rw [begin_len]; omega), List.take_of_length_le (by rw [begin_len]; omega)]
  refine ⟨c, ar, ⟨fun i hi ei => ?_, fun x hx => ?_⟩, Nat.le_refl _, by omega, Nat.le_refl _, Nat.le_refl _⟩
  · exact ⟨1, Nat.le_refl _, by omega, by rw [hs i (by rw [c.len] at hi; exact hi), ei, h0]⟩
  · rw [hw] at hx; simp at hx
end Go.Proofs.Ytoihfamiclbffaa
