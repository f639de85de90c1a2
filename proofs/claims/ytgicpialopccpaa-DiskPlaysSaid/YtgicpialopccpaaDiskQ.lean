/- Disks that no crash waits for. -/
import Derived.Test.YtgicpialopccpaaDiskK
namespace Go.Proofs.Ytgicpialopccpaa
open Go.RowKit

/-- A disk on which nothing is armed. -/
structure Calm (D : Dk) (n k : Nat) : Prop where
  len : D.secs.length = n
  waits : D.waits.length ≤ k
  down : D.down = false
  armed : D.armed = none
theorem Calm.fell {D : Dk} {n k : Nat} (h : Calm D n k) : D.fell = D := by
  have : D.due = false := by unfold Dk.due; rw [h.armed]
  simp [Dk.fell, this]
theorem Calm.rd {D : Dk} {n k : Nat} (h : Calm D n k) : rdE D = 0 := by simp [rdE, h.fell, h.down]
theorem Calm.fdown {D : Dk} {n k : Nat} (h : Calm D n k) : D.fell.down = false := by rw [h.fell]; exact h.down
theorem Calm.fwaits {D : Dk} {n k : Nat} (h : Calm D n k) : D.fell.waits.length ≤ k := by rw [h.fell]; exact h.waits
theorem Calm.new (n : Nat) : Calm (Dk.new n) n 0 := ⟨by simp [Dk.new], Nat.le_refl _, rfl, rfl⟩
theorem Calm.begun {D : Dk} {n k : Nat} (h : Calm D n k) : Calm D.begun n k := by
  have e : D.begun = D.counted := by simp [Dk.begun, h.fell, h.down]
  rw [e]; exact ⟨h.len, h.waits, h.down, by simp [Dk.counted, h.armed]⟩
theorem Calm.write {D : Dk} {n k : Nat} (h : Calm D n k) (i : Nat) (b : List UInt8) : Calm (D.write i b) n (k + 1) := by
  have e : D.write i b = { D.counted with waits := D.counted.waits ++ [(i, b)] } := by simp [Dk.write, h.fell, h.down]
  rw [e]; exact ⟨h.len, by have := h.waits; simp [Dk.counted]; omega, h.down, by simp [Dk.counted, h.armed]⟩
theorem Calm.barrier {D : Dk} {n k : Nat} (h : Calm D n k) : Calm D.barrier n 0 := by
  have e : D.barrier = { D.counted with secs := Dk.flush D.counted.waits D.counted.secs, waits := [] } := by simp [Dk.barrier, h.fell, h.down]
  rw [e]; exact ⟨by simp [Dk.flush_len, Dk.counted, h.len], Nat.le_refl _, h.down, by simp [Dk.counted, h.armed]⟩
theorem Calm.mono {D : Dk} {n k k' : Nat} (h : Calm D n k) (hk : k ≤ k') : Calm D n k' := ⟨h.len, Nat.le_trans h.waits hk, h.down, h.armed⟩

/-- .. and nothing waits. -/
structure Quiet (D : Dk) (s : List (List UInt8)) : Prop where
  down : D.down = false
  armed : D.armed = none
  waits : D.waits = []
  secs : D.secs = s
theorem Quiet.calm {D : Dk} {s : List (List UInt8)} (h : Quiet D s) : Calm D s.length 0 := ⟨by rw [h.secs], by rw [h.waits]; exact Nat.le_refl _, h.down, h.armed⟩
theorem Quiet.begun {D : Dk} {s : List (List UInt8)} (h : Quiet D s) : Quiet D.begun s := by
  have e : D.begun = D.counted := by simp [Dk.begun, h.calm.fell, h.down]
  rw [e]; exact ⟨h.down, by simp [Dk.counted, h.armed], h.waits, h.secs⟩
theorem Quiet.barrier {D : Dk} {s : List (List UInt8)} (h : Quiet D s) : Quiet D.barrier s := by
  have e : D.barrier = { D.counted with secs := Dk.flush D.counted.waits D.counted.secs, waits := [] } := by simp [Dk.barrier, h.calm.fell, h.down]
  rw [e]; exact ⟨h.down, by simp [Dk.counted, h.armed], rfl, by simp [Dk.counted, h.waits, h.secs, Dk.flush]⟩
theorem Quiet.now {D : Dk} {s : List (List UInt8)} (h : Quiet D s) (i : Nat) : D.begun.now i = s.getD i [] := by
  unfold Dk.now; rw [h.begun.waits, h.begun.secs]; rfl
theorem Quiet.crash2 {D : Dk} {s : List (List UInt8)} (h : Quiet D s) (k : List Bool) : Quiet ((D.crash k).crash k).start s ∧ startE ((D.crash k).crash k) = 0 := by
  refine ⟨⟨rfl, rfl, rfl, ?_⟩, rfl⟩
  show Dk.keepFrom k 0 [] (Dk.keepFrom k 0 D.waits D.secs) = s
  rw [h.waits, h.secs]; rfl
theorem crash_quiet (D : Dk) (k : List Bool) : Quiet (D.crash k).start (D.crash k).secs ∧ startE (D.crash k) = 0 := ⟨⟨rfl, rfl, rfl, rfl⟩, rfl⟩

/-- Read of a disk that is not down. -/
theorem read_live (w : World) (p : Nat) (D : Dk) (M : Nat → Prop) (i : Nat) (I : Int) (hI : I = (i : Int)) (hD : DiskAt w p D M) (hi : i < D.secs.length) (hd : D.fell.down = false) (l : List UInt8) (hl : D.begun.now i = l) :
    Calls Try.prog 15 #[.pointer (some ⟨p, 0, none⟩), .int .i64 I] w fun e w' => ∃ B, w.heap.size ≤ B ∧ e = .returned (.tuple #[.slice (some ⟨B, 0, none⟩) 512 512, .int .i64 0]) ∧
      w'.heap[B]? = some (.cells (l.map byteV).toArray 5 (0, 0)) ∧ DiskAt w' p D.begun M ∧ Keeps M w w' := by
  subst hl
  refine (read_ok w p D M i I hI hD hi hd).mono ?_
  rintro e w' ⟨B, hB, rfl, h1, h2, h3⟩
  have hn : ∀ k, w'.heap.size ≤ k → M k := by
    obtain ⟨sb, scs, wv, dvs, av, h'⟩ := hD
    exact fun k hk => h'.new k (Nat.le_trans h3.size hk)
  exact ⟨B, hB, rfl, h1, h2.frame (fun k _ hm => ⟨rfl, hm.1⟩) hn, h3⟩
theorem sec512 {w : World} {p : Nat} {D : Dk} {M : Nat → Prop} (h : DiskAt w p D M) (i : Nat) (hi : i < D.secs.length) : (D.secs.getD i []).length = 512 := by
  obtain ⟨sb, scs, wv, dvs, av, h'⟩ := h
  exact h'.ok.secs _ (by simp [List.getD, hi])
/-- A row as it reads. -/
theorem row_reads {w : World} {B : Nat} {l : List UInt8} (h : w.heap[B]? = some (.cells (l.map byteV).toArray 5 (0, 0))) : BytesAt w (some ⟨B, 0, none⟩) l := fun i hi => by
  refine ⟨B, 0, rfl, ?_⟩
  rw [cell_of h]
  simp [hi, byteV, List.getD]
/-- A slice of bools that came in, cut. -/
theorem kbools_arg {w w' : World} {M : Nat → Prop} (hMd : ∀ k, M k → w.heap.size ≤ k) (hB : Below w.heap.size w w') {a : Option Addr} {l : List Bool} (hA : BoolsAt w a l) (m : Nat) : KBools w' M a (l.take m) := by
  have h1 := hA.below hB
  refine ⟨fun i hi => ?_, fun b o e h0 hm => ?_⟩
  · have hi' : i < l.length := by rw [List.length_take] at hi; omega
    obtain ⟨b, o, e, hc⟩ := h1 i hi'
    refine ⟨b, o, e, ?_⟩
    rw [hc]
    have : i < m := by rw [List.length_take] at hi; omega
    simp [List.getD, this]
  · obtain ⟨b', o', e', hc⟩ := hA 0 (by rw [List.length_take] at h0; omega)
    rw [e] at e'
    cases e'
    have h3 : b < w.heap.size := World.block_lt_of_cell? _ _ hc
    have := hMd b hm
    omega
end Go.Proofs.Ytgicpialopccpaa
