/- Save on a disk that a crash may wait for: what it leaves. -/
import Derived.Test.YtnekelndcpmonaaStO
set_option linter.all false
namespace Go.Proofs.Ytnekelndcpmonaa
open Go.RowKit
set_option linter.unusedVariables false
set_option linter.unusedSimpArgs false

theorem some_eq {α : Type} {P : α → Prop} {v : α} (h : P v) : ∀ x, some v = some x → P x := fun x e => by cases e; exact h
/-- What a Save comes to. -/
structure CrSave (D : Dk) (V : List (List UInt8)) (n z b : Nat) (s : Sto) (o0 o1 : Option (Nat × List UInt8)) (t : List UInt8) : Prop where
  pre : SaveOk s D t
  done : saveOk D s.jn (recS (s.count + 1) t) 4 → ∃ V' p0 p1 x0 x1, Idle (saveN D s.jn (recS (s.count + 1) t) 4).2.1 V' ∧ CrI V' n z (b + 2) p0 p1 x0 x1 ∧ CrS (s.saved (saveN D s.jn (recS (s.count + 1) t) 4).2.2 t) z (b + 2) x0 x1 p0 p1 ∧ 0 ≤ (kept p0 p1).1 ∧ (kept p0 p1).2.2 = t
  fell : ∀ k, k < 4 → saveOk D s.jn (recS (s.count + 1) t) k → (saveN D s.jn (recS (s.count + 1) t) (k + 1)).1 ≠ 0 →
    ∃ V' p0 p1 x0 x1, Dead (saveN D s.jn (recS (s.count + 1) t) (k + 1)).2.1 V' ∧ CrI V' n z (b + 2) p0 p1 x0 x1 ∧ (kept p0 p1 = kept o0 o1 ∨ (0 ≤ (kept p0 p1).1 ∧ (kept p0 p1).2.2 = t))
theorem steps_of {D : Dk} {j : Jn} {rec : List UInt8} {k : Nat} (h : saveOk D j rec k) (hk : k ≤ 4) : ∀ i, i ≤ k → (saveN D j rec i).1 = 0 := fun i hi => by
  cases i with
  | zero => rfl
  | succ i => exact h (i + 1) (by omega) (by omega)
theorem cr_save {D : Dk} {V : List (List UInt8)} {n z b m0 m1 : Nat} {s : Sto} {o0 o1 : Option (Nat × List UInt8)} (h : CrI V n z b o0 o1 m0 m1) (hs : CrS s z b m0 m1 o0 o1) (hi : Idle D V) (hb : b + 2 ≤ lastN) (t : List UInt8) (ht : t.length ≤ 600) : CrSave D V n z b s o0 o1 t := by
  have hz3 := h.z3
  have hzn := h.zn
  have hnb := h.nb
  have hb0 := h.b0
  have hb1 := h.b1
  have hsz := hs.size
  have hlen := h.len
  have hVl : D.secs.length = n := by rw [hi.secs]; exact hlen
  obtain ⟨u0, x0, e0, f0, g0⟩ := hs.j0
  obtain ⟨u1, x1, e1, f1, g1⟩ := hs.j1
  have hk := hs.kept
  have ki := kept_is o0 o1
  have kc := kept_count (b := b) (fun x e => (h.c0 x e).1) (fun x e => (h.c1 x e).1)
  have i1 : s.is = (kept o0 o1).1 := congrArg (·.1) hk
  have i2 : s.count = (kept o0 o1).2.1 := congrArg (·.2.1) hk
  rw [← i1] at ki
  rw [← i2] at kc
  have hlast : lastN = 4611686018427387904 := rfl
  obtain ⟨rec, hrec⟩ : ∃ rec, rec = recS (s.count + 1) t := ⟨_, rfl⟩
  have hrl : rec.length = 8 + t.length := by rw [hrec, recS_len]
  have hw : D.waits.length ≤ 90000 := by rw [hi.waits]; exact Nat.zero_le _
  by_cases his : s.is = 0
  · have ej : s.jn = ⟨z, z, u1, x1, false⟩ := by unfold Sto.jn; rw [if_pos his, e1]
    have hc := cr_steps (D := D) (V := V) hi z z u1 x1 rec (by omega) (by omega) hz3
    obtain ⟨q1, q2, q3, q4, q5⟩ := hc.mid
    have k0 : (kept o0 o1).1 = 0 := by rw [← i1]; exact his
    refine ⟨⟨by omega, hs.broken, by omega, by omega, by omega, ki, by rw [ej, hVl]; show z + 1 ≤ n; omega, hw, by rw [ej, ← hrec]; exact ⟨by omega, by omega, by rw [q3, q1, q4]; omega, by rw [q5]; exact Nat.zero_le _⟩⟩, fun hall => ?_, fun k hk4 hok hne => ?_⟩
    · rw [ej, ← hrec] at hall ⊢
      obtain ⟨D4, d1, d2⟩ := hc.all (steps_of hall (by omega))
      have es : s.saved (jOf z z x1 [rec]) t = ⟨s.size, 1, s.count + 1, false, t, s.j0, jOf z z x1 [rec]⟩ := if_pos his
      have kk := kept_1 (o0 := o0) (o1 := o1) (s.count + 1) t k0 (by rw [i2])
      rw [d1, show ((0 : Int), D4, jOf z z x1 [rec]).2.2 = jOf z z x1 [rec] from rfl, es]
      refine ⟨vec3 V z x1 rec, o0, some (s.count + 1, t), m0, x1, d2, ⟨by rw [vec3_len]; exact hlen, hz3, hzn, hnb, vec3_ok h.ok (by omega), h.h0.agree (fun i hi3 => vec3_other _ (by omega)), ?_, by omega, by omega, fun x e => ⟨by have := (h.c0 x e).1; omega, (h.c0 x e).2⟩, some_eq ⟨by show s.count + 1 ≤ b + 2; omega, by show t.length ≤ 700; omega⟩⟩,
        ⟨hsz, rfl, ⟨u0, x0, e0, f0, by omega⟩, ⟨_, _, rfl, Nat.le_succ _, by show x1 + 1 + 1 ≤ b + 2; omega⟩, kk.symm⟩, by rw [kk]; show (0 : Int) ≤ 1; decide, by rw [kk]⟩
      show HV _ z x1 (some (recS (s.count + 1) t))
      rw [← hrec]
      exact vec3_half h.h1 f1 (by omega) (by omega) (by omega)
    · rw [ej, ← hrec] at hok hne ⊢
      obtain ⟨V', hV', hd⟩ := hc.some_ k hk4 (steps_of hok (by omega)) hne
      rcases hV' with rfl | rfl | rfl | rfl
      · exact ⟨_, o0, o1, m0, m1, hd, h.mono (by omega), .inl rfl⟩
      · exact ⟨_, o0, none, m0, x1, hd, ⟨by rw [vec1_len]; exact hlen, hz3, hzn, hnb, vec1_ok h.ok, h.h0.agree (fun i hi3 => vec1_other _ (by omega)), vec1_half h.h1 f1 (by omega) (by omega), by omega, by omega, fun x e => ⟨by have := (h.c0 x e).1; omega, (h.c0 x e).2⟩, (fun x e => by cases e)⟩, .inl (kept_drop1 k0)⟩
      · exact ⟨_, o0, none, m0, x1, hd, ⟨by rw [vec2_len]; exact hlen, hz3, hzn, hnb, vec2_ok h.ok (by omega), h.h0.agree (fun i hi3 => vec2_other _ (by omega)), vec2_half h.h1 f1 (by omega) (by omega), by omega, by omega, fun x e => ⟨by have := (h.c0 x e).1; omega, (h.c0 x e).2⟩, (fun x e => by cases e)⟩, .inl (kept_drop1 k0)⟩
      · have kk := kept_1 (o0 := o0) (o1 := o1) (s.count + 1) t k0 (by rw [i2])
        refine ⟨_, o0, some (s.count + 1, t), m0, x1, hd, ⟨by rw [vec3_len]; exact hlen, hz3, hzn, hnb, vec3_ok h.ok (by omega), h.h0.agree (fun i hi3 => vec3_other _ (by omega)), ?_, by omega, by omega, fun x e => ⟨by have := (h.c0 x e).1; omega, (h.c0 x e).2⟩, some_eq ⟨by show s.count + 1 ≤ b + 2; omega, by show t.length ≤ 700; omega⟩⟩, .inr ⟨by rw [kk]; show (0 : Int) ≤ 1; decide, by rw [kk]⟩⟩
        show HV _ z x1 (some (recS (s.count + 1) t))
        rw [← hrec]
        exact vec3_half h.h1 f1 (by omega) (by omega) (by omega)
  · have ej : s.jn = ⟨0, z, u0, x0, false⟩ := by unfold Sto.jn; rw [if_neg his, e0]
    have hc := cr_steps (D := D) (V := V) hi 0 z u0 x0 rec (by omega) (by omega) hz3
    obtain ⟨q1, q2, q3, q4, q5⟩ := hc.mid
    have k0 : (kept o0 o1).1 ≠ 0 := by rw [← i1]; exact his
    refine ⟨⟨by omega, hs.broken, by omega, by omega, by omega, ki, by rw [ej, hVl]; show 0 + 1 ≤ n; omega, hw, by rw [ej, ← hrec]; exact ⟨by omega, by omega, by rw [q3, q1, q4]; omega, by rw [q5]; exact Nat.zero_le _⟩⟩, fun hall => ?_, fun k hk4 hok hne => ?_⟩
    · rw [ej, ← hrec] at hall ⊢
      obtain ⟨D4, d1, d2⟩ := hc.all (steps_of hall (by omega))
      have es : s.saved (jOf 0 z x0 [rec]) t = ⟨s.size, 0, s.count + 1, false, t, jOf 0 z x0 [rec], s.j1⟩ := if_neg his
      have kk := kept_0 (o0 := o0) (o1 := o1) (s.count + 1) t k0 (by rw [i2])
      rw [d1, show ((0 : Int), D4, jOf 0 z x0 [rec]).2.2 = jOf 0 z x0 [rec] from rfl, es]
      refine ⟨vec3 V 0 x0 rec, some (s.count + 1, t), o1, x0, m1, d2, ⟨by rw [vec3_len]; exact hlen, hz3, hzn, hnb, vec3_ok h.ok (by omega), ?_, h.h1.agree (fun i hi3 => vec3_other _ (by omega)), by omega, by omega, some_eq ⟨by show s.count + 1 ≤ b + 2; omega, by show t.length ≤ 700; omega⟩, fun x e => ⟨by have := (h.c1 x e).1; omega, (h.c1 x e).2⟩⟩,
        ⟨hsz, rfl, ⟨_, _, rfl, Nat.le_succ _, by show x0 + 1 + 1 ≤ b + 2; omega⟩, ⟨u1, x1, e1, f1, by omega⟩, kk.symm⟩, by rw [kk]; show (0 : Int) ≤ 0; decide, by rw [kk]⟩
      show HV _ 0 x0 (some (recS (s.count + 1) t))
      rw [← hrec]
      exact vec3_half h.h0 f0 (by omega) (by omega) (by omega)
    · rw [ej, ← hrec] at hok hne ⊢
      obtain ⟨V', hV', hd⟩ := hc.some_ k hk4 (steps_of hok (by omega)) hne
      rcases hV' with rfl | rfl | rfl | rfl
      · exact ⟨_, o0, o1, m0, m1, hd, h.mono (by omega), .inl rfl⟩
      · exact ⟨_, none, o1, x0, m1, hd, ⟨by rw [vec1_len]; exact hlen, hz3, hzn, hnb, vec1_ok h.ok, vec1_half h.h0 f0 (by omega) (by omega), h.h1.agree (fun i hi3 => vec1_other _ (by omega)), by omega, by omega, (fun x e => by cases e), fun x e => ⟨by have := (h.c1 x e).1; omega, (h.c1 x e).2⟩⟩, .inl (kept_drop0 k0)⟩
      · exact ⟨_, none, o1, x0, m1, hd, ⟨by rw [vec2_len]; exact hlen, hz3, hzn, hnb, vec2_ok h.ok (by omega), vec2_half h.h0 f0 (by omega) (by omega), h.h1.agree (fun i hi3 => vec2_other _ (by omega)), by omega, by omega, (fun x e => by cases e), fun x e => ⟨by have := (h.c1 x e).1; omega, (h.c1 x e).2⟩⟩, .inl (kept_drop0 k0)⟩
      · have kk := kept_0 (o0 := o0) (o1 := o1) (s.count + 1) t k0 (by rw [i2])
        refine ⟨_, some (s.count + 1, t), o1, x0, m1, hd, ⟨by rw [vec3_len]; exact hlen, hz3, hzn, hnb, vec3_ok h.ok (by omega), ?_, h.h1.agree (fun i hi3 => vec3_other _ (by omega)), by omega, by omega, some_eq ⟨by show s.count + 1 ≤ b + 2; omega, by show t.length ≤ 700; omega⟩, fun x e => ⟨by have := (h.c1 x e).1; omega, (h.c1 x e).2⟩⟩, .inr ⟨by rw [kk]; show (0 : Int) ≤ 0; decide, by rw [kk]⟩⟩
        show HV _ 0 x0 (some (recS (s.count + 1) t))
        rw [← hrec]
        exact vec3_half h.h0 f0 (by omega) (by omega) (by omega)

/-! ### Open on a disk that a crash may wait for: nothing is written -/
structure Fix (D : Dk) (V : List (List UInt8)) : Prop where
  waits : D.waits = []
  secs : D.secs = V
theorem Fix.begun {D : Dk} {V : List (List UInt8)} (h : Fix D V) : Fix D.begun V := by
  have hf : Fix D.fell V := by
    unfold Dk.fell
    split
    · exact ⟨rfl, by show Dk.keepFrom _ 0 D.waits D.secs = V; rw [h.waits, h.secs]; rfl⟩
    · exact h
  unfold Dk.begun
  split
  · exact hf
  · exact ⟨hf.waits, hf.secs⟩
theorem fix_rds {V : List (List UInt8)} : ∀ (k : Nat) (D : Dk) (at_ : Nat) (p : List UInt8), Fix D V → Fix (rds k D at_ p).2.2 V
  | 0, D, at_, p, h => h
  | k + 1, D, at_, p, h => by
    rw [rds]
    split
    · exact h.begun
    · exact fix_rds k _ _ _ h.begun
def RecR.disk : RecR → Dk
  | .err D => D
  | .none D => D
  | .some _ D _ => D
theorem fix_rec {D : Dk} {V : List (List UInt8)} (j : Jn) (h : Fix D V) : Fix (recJ D j).disk V := by
  unfold recJ
  split
  · exact h
  · split
    · exact h.begun
    · dsimp only
      split
      · exact h.begun
      · have g := fix_rds (V := V) ((numL (((D.begun.now (j.from_ + j.used)).drop 8).take 4) + 527) / 512 - 1) D.begun (j.from_ + j.used + 1) (D.begun.now (j.from_ + j.used)) h.begun
        split
        · exact g
        · split
          · exact g
          · exact g
theorem fix_opnL {V : List (List UInt8)} : ∀ (f : Nat) (D : Dk) (j : Jn) (l : List (List UInt8)), Fix D V → Fix (opnL f D j l).2 V
  | 0, D, j, l, h => h
  | f + 1, D, j, l, h => by
    have g := fix_rec j h
    rw [opnL]
    cases hr : recJ D j with
    | err D1 => rw [hr] at g; exact g
    | none D1 => rw [hr] at g; exact g
    | some b D1 j1 => rw [hr] at g; exact fix_opnL f D1 j1 _ g
def OpnR.disk : OpnR → Dk
  | .err _ D => D
  | .ok _ D _ => D
def SOpn.disk : SOpn → Dk
  | .err _ D => D
  | .ok D _ _ _ => D
theorem fix_opn {D : Dk} {V : List (List UInt8)} (f z : Nat) (h : Fix D V) : Fix (opnJ D f z).disk V := by
  unfold opnJ
  split
  · exact h.begun
  · dsimp only
    split
    · exact h.begun
    · have g := fix_opnL (V := V) z D.begun ⟨f, z, 1, numL ((D.begun.now f).take 8) + 1, false⟩ [] h.begun
      split
      · rename_i e; rw [e] at g; exact g
      · rename_i e; rw [e] at g; exact g
theorem fix_sopn {D : Dk} {V : List (List UInt8)} (z : Nat) (h : Fix D V) : Fix (sopnJ D z).disk V := by
  have g := fix_opn 0 z h
  unfold sopnJ
  cases h0 : opnJ D 0 z with
  | err e D' => rw [h0] at g; exact g
  | ok l0 D1 j0 =>
    rw [h0] at g
    dsimp only
    have g1 := fix_opn z z (show Fix D1 V from g)
    cases h1 : opnJ D1 z z with
    | err e D' => rw [h1] at g1; exact g1
    | ok l1 D2 j1 => rw [h1] at g1; exact g1
/-- A store that was made. -/
theorem cr_first {D : Dk} {n z : Nat} {s : Sto} {ar : List UInt8} (h : StI D n z s (blankA z) (blankA z) ar 2) (hz3 : 3 ≤ z) (hs : s = stoNew z (jOf 0 z 1 []) (jOf z z 1 [])) : Idle D D.secs ∧ D.armed = none ∧ CrI D.secs n z 2 none none 1 1 ∧ CrS s z 2 1 1 none none := by
  have hc := h.calm
  have hw := hc.idle
  have hzn := h.zn
  have hn : ∀ i, D.secs.getD i [] = D.now i := fun i => (now_idle hw i).symm
  have hb : ∀ i, i < z → ((blankA z).drop (512 * i)).take 512 = if i = 0 then pic 1 startN [] else List.replicate 512 0 := fun i hi => by
    unfold blankA
    by_cases h0 : i = 0
    · subst h0
      rw [if_pos rfl, Nat.mul_zero, List.drop_zero, List.take_append_of_le_length (by rw [begin_len]; omega), List.take_of_length_le (by rw [begin_len]; omega)]
    · rw [if_neg h0, List.drop_append, List.drop_of_length_le (by rw [begin_len]; omega), List.nil_append, begin_len, List.drop_replicate, List.take_replicate, Nat.min_eq_left (by omega)]
  have half : ∀ f, Area D f z (blankA z) → HV D.secs f 1 none := fun f A => by
    refine ⟨Nat.le_refl _, ?_, ?_⟩
    · have := A.sec 0 (by omega)
      rw [Nat.add_zero] at this
      rw [hn, this, hb 0 (by omega), if_pos rfl]
    · dsimp only
      rw [hn, A.sec 1 (by omega), hb 1 (by omega), if_neg (by omega), List.take_replicate, numL_zeros]
      omega
  have hl : ∀ i, i < n → (D.now i).length = 512 := fun i hi => by
    have ha : ∀ (f k : Nat) (a : List UInt8), Area D f k a → f ≤ i → i < f + k → (D.now i).length = 512 := fun f k a A h1 h2 => by
      have := A.sec (i - f) (by omega)
      rw [show f + (i - f) = i by omega] at this
      rw [this, List.length_take, List.length_drop, A.len]
      have : 512 * (i - f) + 512 ≤ 512 * k := by omega
      omega
    by_cases h1 : i < z
    · exact ha 0 z _ h.A0 (by omega) (by omega)
    · by_cases h2 : i < 2 * z
      · exact ha z z _ h.A1 (by omega) (by omega)
      · exact ha (2 * z) (n - 2 * z) _ h.Ar (by omega) (by omega)
  refine ⟨⟨hc.down, hw, rfl⟩, hc.armed, ⟨hc.len, hz3, hzn, h.nb, fun x hx => ?_, half 0 h.A0, half z h.A1, by omega, by omega, (fun x e => by cases e), (fun x e => by cases e)⟩, ?_⟩
  · obtain ⟨i, hi, rfl⟩ := List.getElem_of_mem hx
    have e : D.secs[i] = D.secs.getD i [] := by simp [List.getD, hi]
    rw [e, hn]
    exact hl i (by rw [← hc.len]; exact hi)
  · subst hs
    exact ⟨rfl, rfl, ⟨_, _, rfl, Nat.le_refl _, by show 1 + 1 + 0 ≤ 2; omega⟩, ⟨_, _, rfl, Nat.le_refl _, by show 1 + 1 + 0 ≤ 2; omega⟩, rfl⟩
end Go.Proofs.Ytnekelndcpmonaa
