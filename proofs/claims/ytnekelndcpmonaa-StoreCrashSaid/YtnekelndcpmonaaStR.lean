/- Save and Open on disks that a crash may wait for, as contracts. -/
import Derived.Test.YtnekelndcpmonaaStQ
import Derived.Test.YtnekelndcpmonaaMg15
import Derived.Test.YtnekelndcpmonaaRefD
set_option linter.all false
namespace Go.Proofs.Ytnekelndcpmonaa
open Go.RowKit
set_option linter.unusedVariables false
set_option linter.unusedSimpArgs false

section
variable {w : World} {R : List Asn} {p sp n z b m0 m1 : Nat} {D : Dk} {V : List (List UInt8)} {s : Sto} {o0 o1 : Option (Nat × List UInt8)}
theorem armNeg_sep (S : Sep w (diskA p D :: R)) (n : Int) (hn : n < 0) (v : Value) (keep : List Bool) :
    Calls Try.prog 24 #[.pointer (some ⟨p, 0, none⟩), .int .i64 n, v] w fun e w' => e = .returned (.tuple #[]) ∧ Sep w' (diskA p (D.arm n keep) :: R) := by
  obtain ⟨M, hD, h1, _⟩ := S.disk
  exact (arm_not w p D M n keep hD hn v).mono fun e w' h => ⟨h.1, h1 w' _ h.2.1 h.2.2⟩
/-- What a Save leaves: saved, or fallen. -/
def SavedK (n z b : Nat) (t : List UInt8) (w' : World) (sp p : Nat) (R : List Asn) : Prop := ∃ D' s' V' p0 p1 x0 x1, Idle D' V' ∧ CrI V' n z (b + 2) p0 p1 x0 x1 ∧ CrS s' z (b + 2) x0 x1 p0 p1 ∧ 0 ≤ (kept p0 p1).1 ∧ (kept p0 p1).2.2 = t ∧ Sep w' (storeA sp p s' :: diskA p D' :: R)
def FellK (n z b : Nat) (o0 o1 : Option (Nat × List UInt8)) (t : List UInt8) (w' : World) (p : Nat) (R : List Asn) : Prop := ∃ D' V' p0 p1 x0 x1, Dead D' V' ∧ CrI V' n z (b + 2) p0 p1 x0 x1 ∧ (kept p0 p1 = kept o0 o1 ∨ (0 ≤ (kept p0 p1).1 ∧ (kept p0 p1).2.2 = t)) ∧ Sep w' (diskA p D' :: R)
theorem kcSave {B : Asn} {ba : Option Addr} {bn bc : Nat} {t : List UInt8} (S : Sep w (storeA sp p s :: diskA p D :: B :: R)) (hB : HoldsAt B ba bn bc t) (h : CrI V n z b o0 o1 m0 m1) (hs : CrS s z b m0 m1 o0 o1) (hi : Idle D V) (hb : b + 2 ≤ lastN) (ht : t.length ≤ 600) :
    Calls Try.prog 15 #[.pointer (some ⟨sp, 0, none⟩), .slice ba bn bc] w fun e w' => (e = .returned (.int .i64 0) ∧ SavedK n z b t w' sp p (B :: R)) ∨ (e = .returned (.int .i64 11) ∧ FellK n z b o0 o1 t w' p (B :: R)) := by
  have hc := cr_save h hs hi hb t ht
  refine (sSave_sep S hB hc.pre).mono fun e w' hp => ?_
  rcases hp with ⟨g1, g2, g3⟩ | ⟨k, g0, g1, g2, g3, g4⟩
  · obtain ⟨V', p0, p1, x0, x1, d1, d2, d3, d4, d5⟩ := hc.done g1
    exact .inl ⟨g2, _, _, V', p0, p1, x0, x1, d1, d2, d3, d4, d5, g3⟩
  · obtain ⟨V', p0, p1, x0, x1, d1, d2, d3⟩ := hc.fell k g0 g1 g2
    exact .inr ⟨g3, _, V', p0, p1, x0, x1, d1, d2, d3, g4.drop⟩
theorem kcOpen (S : Sep w (diskA p D :: R)) (h : CrI V n z b o0 o1 m0 m1) (hi : Idle D V) (ha : D.armed = none) (hb : b + 1 ≤ lastN) :
    Calls Try.prog 19 #[.pointer (some ⟨p, 0, none⟩)] w fun e w' => ∃ sp, e = .returned (.tuple #[.pointer (some ⟨sp, 0, none⟩), .int .i64 0]) ∧ ∃ D' s', Idle D' V ∧ D'.armed = none ∧ CrS s' z (b + 100) m0 m1 o0 o1 ∧ Sep w' (storeA sp p s' :: diskA p D' :: R) := by
  obtain ⟨D', j0, j1, e1, e2, e3, e4⟩ := cr_open h hi ha hb
  have hz3 := h.z3
  have hzn := h.zn
  have hnb := h.nb
  have hl : D.secs.length = n := by rw [hi.secs]; exact h.len
  exact (sOpen_ok S z (by rw [hl]; omega) (by rw [hl]; omega) (by rw [hl]; exact hzn) D' j0 j1 _ e1).mono fun e w' ⟨sp, he, h⟩ => ⟨sp, he, D', _, e2, e3, e4, h⟩
/-- Opened while a crash may come: whatever is told. -/
theorem kcOpenAny (S : Sep w (diskA p D :: R)) (h : Fix D V) (hn : V.length = n) (h4 : 4 ≤ n) (h100 : n ≤ 100) :
    Calls Try.prog 19 #[.pointer (some ⟨p, 0, none⟩)] w fun e w' => ∃ v, e = .returned v ∧ ∃ D', Fix D' V ∧ Sep w' (diskA p D' :: R) := by
  have hl : D.secs.length = n := by rw [h.secs]; exact hn
  have hf := fix_sopn (n / 2) h
  refine (storeOpen_sep S (n / 2) (by omega) (by omega) (by rw [hl])).mono fun e w' hp => ?_
  cases ho : sopnJ D (n / 2) with
  | err x D' =>
    rw [ho] at hp hf
    exact ⟨_, hp.1, D', hf, hp.2⟩
  | ok D' j0 j1 x =>
    rw [ho] at hp hf
    obtain ⟨sp, q0, q1, tv, he, hS⟩ := hp
    exact ⟨_, he, D', hf, hS.pick [3] 5 (by decide) rfl⟩
/-- One string in a slice of one's own. -/
theorem own_one {g : Nat} {x : Value} (h : Sep w (blkA g #[x] 9 :: R)) : Sep w (ownA 9 1 (.slice (some ⟨g, 0, none⟩) 1 1) 1 [x] :: R) := by
  obtain ⟨F, h1, h2, h3⟩ := h
  refine ⟨F, h1, ⟨⟨by simp, .inr ⟨g, 1, _, rfl, Nat.zero_le _, h2.1, Nat.le_refl _, by unfold maxLen; omega, by simp, by simp⟩⟩, fun k => (h2.2 k).trans ?_⟩, h3⟩
  simp [Value.ownBlock, eq_comm]
theorem Idle.disarm (h : Idle D V) : Idle (D.arm (-1) []) V ∧ (D.arm (-1) []).armed = none := ⟨⟨h.down, h.waits, h.secs⟩, rfl⟩
theorem Idle.arm (h : Idle D V) (n : Int) (keep : List Bool) : Idle (D.arm n keep) V := ⟨h.down, h.waits, h.secs⟩
theorem Dead.disarm (h : Dead D V) : Dead (D.arm (-1) []) V := ⟨h.down, h.waits, h.secs, rfl⟩
theorem Dead.start (h : Dead D V) : Idle D.start V ∧ D.start.armed = none := by
  have e : D.start = { D with down := false } := by unfold Dk.start; rw [if_pos h.down]
  rw [e]
  exact ⟨⟨rfl, h.waits, h.secs⟩, h.armed⟩
theorem Fix.crashed (h : Fix D V) : Idle (D.crash []).start V ∧ (D.crash []).start.armed = none := by
  have hd : Dead (D.crash []) V := ⟨rfl, rfl, by show Dk.keepFrom _ 0 D.waits D.secs = V; rw [h.waits, h.secs]; rfl, rfl⟩
  exact hd.start
theorem Idle.fix (h : Idle D V) (n : Int) (keep : List Bool) : Fix (D.arm n keep) V := ⟨h.waits, h.secs⟩
end
end Go.Proofs.Ytnekelndcpmonaa
