/- The disk's functions, by assertions. -/
import Derived.Test.YtgicpialopccpaaSep
namespace Go.Proofs.Ytgicpialopccpaa
open Go.RowKit

theorem Keeps.others {M : Nat → Prop} {w w' : World} (h : Keeps M w w') : KeepsOthers w w' :=
  ⟨h.size, fun k o hk ho => (h.block k (Array.getElem?_eq_some_iff.1 hk).1 (fun _ c t f e => by rw [hk] at e; cases e; cases ho)).trans hk⟩
theorem cold_blk {w : World} {g : Nat} {c : Array Value} {t : TypeId} (h : w.heap[g]? = some (.cells c t (0, 0))) (ht : hot t = false) : Cold (w.heap[g]?) := fun c' t' f' e => by rw [h] at e; cases e; exact ht
/-- Part of a row of one's own. -/
theorem OwnsB.sub {w : World} {base g n cap : Nat} {l : List UInt8} (h : OwnsB w base (.slice (some ⟨g, 0, none⟩) n cap) n l) (o m : Nat) (hm : o + m ≤ n) : BytesAt w (some ⟨g, o, none⟩) ((l.drop o).take m) := fun i hi => by
  have hi' : i < m := by rw [List.length_take] at hi; omega
  obtain ⟨_, e, _, _, hc, _⟩ := h.at (by omega)
  cases e
  refine ⟨g, o, rfl, ?_⟩
  rw [hc (o + i) (by omega)]
  simp [List.getD, hi']

section
variable {w : World} {R : List Asn} {p : Nat} {D : Dk}
theorem new_sep (S : Sep w R) (n : Nat) (N : Int) (hN : N = (n : Int)) (h1 : 1 ≤ n) (h2 : n ≤ 4096) :
    Calls Try.prog 11 #[.int .i64 N] w fun e w' => ∃ p, e = .returned (.tuple #[.pointer (some ⟨p, 0, none⟩), .int .i64 0]) ∧ Sep w' (diskA p (Dk.new n) :: R) := by
  refine (new_calls n N hN w (fun k => w.heap.size ≤ k) (fun _ hk => hk) h1 h2).mono ?_
  rintro e w' ⟨rfl, h, hb, -⟩
  exact ⟨_, rfl, Sep.stepNew (L' := [diskA _ _]) S hb ⟨_, fun k hk => hk.1, diskA_of h, trivial⟩⟩
theorem write_sep (S : Sep w (diskA p D :: R)) (i : Nat) (I : Int) (hI : I = (i : Int)) (b : List UInt8) (a : Option Addr) (c : Nat) (hi : i < D.secs.length) (hb : BytesAt w a b) (hbl : b.length = 512)
    (hcold : ∀ g o, a = some ⟨g, o, none⟩ → Cold (w.heap[g]?)) (hwn : D.fell.waits.length ≤ 100000) :
    Calls Try.prog 14 #[.pointer (some ⟨p, 0, none⟩), .int .i64 I, .slice a 512 c] w fun e w' => e = .returned (.int .i64 (rdE D)) ∧ Sep w' (diskA p (D.write i b) :: R) ∧ KeepsOthers w w' := by
  obtain ⟨M, hD, h1, _⟩ := S.disk
  cases hd : D.fell.down with
  | true =>
    have e : rdE D = 11 := by simp [rdE, hd]
    rw [e]
    exact (write_down w p D M i I hI b _ c hD hi hd).mono fun e w' h => ⟨h.1, h1 w' _ h.2.1 h.2.2, h.2.2.others⟩
  | false =>
    have e : rdE D = 0 := by simp [rdE, hd]
    rw [e]
    exact (write_ok w p D M i I hI b _ c hD hi hd hb hbl (fun g' o' e' _ => hcold g' o' e') hwn).mono fun e w' h => ⟨h.1, h1 w' _ h.2.1 h.2.2, h.2.2.others⟩
/-- A row of one's own is written. -/
theorem write_own {v : Value} {b : List UInt8} (S : Sep w (bytesA v 512 b :: diskA p D :: R)) (i : Nat) (I : Int) (hI : I = (i : Int)) (hi : i < D.secs.length) (hwn : D.fell.waits.length ≤ 100000) :
    Calls Try.prog 14 #[.pointer (some ⟨p, 0, none⟩), .int .i64 I, v] w fun e w' => e = .returned (.int .i64 (rdE D)) ∧ Sep w' (bytesA v 512 b :: diskA p (D.write i b) :: R) := by
  have ho := S.bytes
  obtain ⟨a, c, rfl, _⟩ := ownsRow_slice ho
  exact (write_sep S.up1 i I hI b a c hi ho.reads ho.len (fun g o e => by subst e; exact ho.cold) hwn).mono fun e w' h => ⟨h.1, h.2.1.up1⟩
theorem barrier_sep (S : Sep w (diskA p D :: R)) :
    Calls Try.prog 18 #[.pointer (some ⟨p, 0, none⟩)] w fun e w' => e = .returned (.int .i64 (rdE D)) ∧ Sep w' (diskA p D.barrier :: R) ∧ KeepsOthers w w' := by
  obtain ⟨M, hD, h1, _⟩ := S.disk
  exact (barrier_calls w p D M hD).mono fun e w' h => ⟨h.1, h1 w' _ h.2.1 h.2.2, h.2.2.others⟩
theorem read_sep_down (S : Sep w (diskA p D :: R)) (i : Nat) (I : Int) (hI : I = (i : Int)) (hi : i < D.secs.length) (hd : D.fell.down = true) :
    Calls Try.prog 15 #[.pointer (some ⟨p, 0, none⟩), .int .i64 I] w fun e w' => e = .returned (.tuple #[.slice none 0 0, .int .i64 11]) ∧ Sep w' (diskA p D.begun :: R) := by
  obtain ⟨M, hD, h1, _⟩ := S.disk
  exact (read_down w p D M I hD (by omega) hd).mono fun e w' h => ⟨h.1, h1 w' _ h.2.1 h.2.2⟩
theorem blk_bytes {B : Nat} {l : List UInt8} (hl : l.length = 512) (S : Sep w (blkA B (l.map byteV).toArray 5 :: R)) : Sep w (bytesA (.slice (some ⟨B, 0, none⟩) 512 512) 512 l :: R) := by
  obtain ⟨F, h1, h2, h3⟩ := S
  refine ⟨F, h1, ⟨cells_ownsB h2.1 (Nat.zero_le _) hl, fun k => (h2.2 k).trans ?_⟩, h3⟩
  simp [Value.ownBlock, eq_comm]
theorem dk_len (S : Sep w (diskA p D :: R)) : D.Ok ∧ 1 ≤ D.secs.length ∧ D.secs.length ≤ 4096 := by
  obtain ⟨M, ⟨sb, scs, wv, dvs, av, hD⟩, _⟩ := S.disk
  exact ⟨hD.ok, hD.len⟩
theorem begun_len (D : Dk) : D.begun.secs.length = D.secs.length := by unfold Dk.begun; split <;> simp [Dk.counted, Dk.fell_len]
theorem read_sep (S : Sep w (diskA p D :: R)) (i : Nat) (I : Int) (hI : I = (i : Int)) (hi : i < D.secs.length) (hd : D.fell.down = false) (l : List UInt8) (hl : D.begun.now i = l) :
    Calls Try.prog 15 #[.pointer (some ⟨p, 0, none⟩), .int .i64 I] w fun e w' => ∃ B, e = .returned (.tuple #[.slice (some ⟨B, 0, none⟩) 512 512, .int .i64 0]) ∧ Sep w' (bytesA (.slice (some ⟨B, 0, none⟩) 512 512) 512 l :: diskA p D.begun :: R) := by
  subst hl
  obtain ⟨M, hD, h1, h2, _⟩ := S.disk
  have hok := (dk_len S).1
  exact (read_ok w p D M i I hI hD hi hd).mono fun e w' ⟨B, hB, he, h3, h4, h5⟩ => ⟨B, he, blk_bytes (Dk.now_len (Dk.ok_begun hok) i (by rw [begun_len]; exact hi)) (h2 w' _ B _ _ hB h3 h4 h5)⟩
theorem read_arg_sep (S : Sep w (diskA p D :: R)) (I : Int) (h : ¬ (0 ≤ I ∧ I < (D.secs.length : Int))) :
    Calls Try.prog 15 #[.pointer (some ⟨p, 0, none⟩), .int .i64 I] w fun e w' => e = .returned (.tuple #[.slice none 0 0, .int .i64 1]) ∧ Sep w' (diskA p D :: R) := by
  obtain ⟨M, hD, h1, _⟩ := S.disk
  exact (read_arg w p D M I hD h).mono fun e w' ⟨he, _, hb⟩ => ⟨he, S.below hb⟩
/-- A crash that keeps what the call was handed. -/
theorem crash_sep {w0 : World} (S : Sep w (diskA p D :: oldA w0 :: R)) (ka : Option Addr) (kc : Nat) (kn : Nat) (keep : List Bool) (m : Nat) (hA : BoolsAt w0 ka keep) (hn : (keep.take m).length = kn) (hkn : kn ≤ 9223372036854775807) :
    Calls Try.prog 13 #[.pointer (some ⟨p, 0, none⟩), .slice ka kn kc] w fun e w' => e = .returned (.tuple #[]) ∧ Sep w' (diskA p (D.crash (keep.take m)) :: oldA w0 :: R) := by
  obtain ⟨M, hD, h1, _, h3⟩ := S.disk
  exact (crash_calls w p D M ka kn kc _ hD (kbools_arg (h3 w0 R rfl) S.drop.old hA m) hn hkn).mono fun e w' h => ⟨h.1, h1 w' _ h.2.1 h.2.2⟩
theorem crash_nil (S : Sep w (diskA p D :: R)) :
    Calls Try.prog 13 #[.pointer (some ⟨p, 0, none⟩), .slice none 0 0] w fun e w' => e = .returned (.tuple #[]) ∧ Sep w' (diskA p (D.crash []) :: R) := by
  obtain ⟨M, hD, h1, _⟩ := S.disk
  exact (crash_calls w p D M none 0 0 [] hD (KBools.nil _ _ _) rfl (by omega)).mono fun e w' h => ⟨h.1, h1 w' _ h.2.1 h.2.2⟩
theorem own_bools {n cap : Nat} {ka : Option Addr} {l : List Bool} (h : w.ownsRow 0 4 1 (.slice ka n cap) n (l.map Value.bool)) (M : Nat → Prop) : KBools w M ka l := by
  have hl : l.length = n := by have := h.1; simpa using this
  refine ⟨fun i hi => ?_, fun b o e h0 _ => ?_⟩
  · rcases h.2 with ⟨e, e0⟩ | ⟨g, cap', cur, e, _⟩
    · omega
    · simp only [Value.slice.injEq] at e
      obtain ⟨rfl, _, rfl⟩ := e
      refine ⟨g, 0, rfl, ?_⟩
      have := h.cells (g := g) rfl i (.bool l[i]) (by simp [hi])
      rw [addr_add] at this
      rw [this]
      simp [List.getD, hi]
  · rcases h.2 with ⟨e', _⟩ | ⟨g, _, cur, e', _, hh, _⟩
    · simp only [Value.slice.injEq] at e'; rw [e'.1] at e; cases e
    · simp only [Value.slice.injEq] at e'
      rw [e'.1] at e
      cases e
      exact cold_blk hh rfl
theorem crash_own {n cap : Nat} {ka : Option Addr} {l : List Bool} (S : Sep w (ownA 4 1 (.slice ka n cap) n (l.map Value.bool) :: diskA p D :: R)) (hn : n ≤ 9223372036854775807) :
    Calls Try.prog 13 #[.pointer (some ⟨p, 0, none⟩), .slice ka n cap] w fun e w' => e = .returned (.tuple #[]) ∧ Sep w' (ownA 4 1 (.slice ka n cap) n (l.map Value.bool) :: diskA p (D.crash l) :: R) := by
  have ho := S.own
  have hl : l.length = n := by have := ho.1; simpa using this
  obtain ⟨M, hD, h1, _⟩ := S.up1.disk
  exact (crash_calls w p D M ka n cap l hD (own_bools ho M) hl hn).mono fun e w' h => ⟨h.1, (h1 w' _ h.2.1 h.2.2).up1⟩
theorem start_sep (S : Sep w (diskA p D :: R)) :
    Calls Try.prog 19 #[.pointer (some ⟨p, 0, none⟩)] w fun e w' => e = .returned (.int .i64 (startE D)) ∧ Sep w' (diskA p D.start :: R) := by
  obtain ⟨M, hD, h1, _⟩ := S.disk
  exact (start_calls w p D M hD).mono fun e w' h => ⟨h.1, h1 w' _ h.2.1 h.2.2⟩
theorem sectors_sep (S : Sep w (diskA p D :: R)) :
    Calls Try.prog 23 #[.pointer (some ⟨p, 0, none⟩)] w fun e w' => e = .returned (.int .i64 (D.secs.length : Int)) ∧ w = w' := by
  obtain ⟨M, hD, _⟩ := S.disk
  exact sectors_calls w p D M hD
theorem down_sep (S : Sep w (diskA p D :: R)) :
    Calls Try.prog 22 #[.pointer (some ⟨p, 0, none⟩)] w fun e w' => e = .returned (.bool D.down) ∧ w = w' := by
  obtain ⟨M, hD, _⟩ := S.disk
  exact down_calls w p D M hD
theorem ops_sep (S : Sep w (diskA p D :: R)) :
    Calls Try.prog 16 #[.pointer (some ⟨p, 0, none⟩)] w fun e w' => e = .returned (.int .i64 D.ops) ∧ w = w' := by
  obtain ⟨M, hD, _⟩ := S.disk
  exact ops_calls w p D M hD
theorem arm_sep {w0 : World} (S : Sep w (diskA p D :: oldA w0 :: R)) (n : Nat) (N : Int) (hN : N = (n : Int)) (keep : List Bool) (m : Nat) (a : Option Addr) (kn kc : Nat) (hA : BoolsAt w0 a keep) (hn : n ≤ 9223372036854775807) (hl : (keep.take m).length = kn) (hkn : kn ≤ 1000000) (hnil : a = none → kc = 0) :
    Calls Try.prog 12 #[.pointer (some ⟨p, 0, none⟩), .int .i64 N, .slice a kn kc] w fun e w' => e = .returned (.tuple #[]) ∧ Sep w' (diskA p (D.arm (n : Int) (keep.take m)) :: oldA w0 :: R) := by
  obtain ⟨M, hD, h1, _, h3⟩ := S.disk
  exact (arm_ok w p D M n N hN _ a kn kc hD hn (kbools_arg (h3 w0 R rfl) S.drop.old hA m) hl hkn hnil).mono fun e w' h => ⟨h.1, h1 w' _ h.2.1 h.2.2⟩
theorem arm_nil (S : Sep w (diskA p D :: R)) (n : Nat) (N : Int) (hN : N = (n : Int)) (hn : n ≤ 9223372036854775807) :
    Calls Try.prog 12 #[.pointer (some ⟨p, 0, none⟩), .int .i64 N, .slice none 0 0] w fun e w' => e = .returned (.tuple #[]) ∧ Sep w' (diskA p (D.arm (n : Int) []) :: R) := by
  obtain ⟨M, hD, h1, _⟩ := S.disk
  exact (arm_ok w p D M n N hN [] none 0 0 hD hn (KBools.nil _ _ _) rfl (by omega) (fun _ => rfl)).mono fun e w' h => ⟨h.1, h1 w' _ h.2.1 h.2.2⟩
theorem arm_own {n cap : Nat} {ka : Option Addr} {l : List Bool} (S : Sep w (ownA 4 1 (.slice ka n cap) n (l.map Value.bool) :: diskA p D :: R)) (x : Nat) (X : Int) (hX : X = (x : Int)) (hx : x ≤ 9223372036854775807) (hkn : n ≤ 1000000) (hnil : ka = none → cap = 0) :
    Calls Try.prog 12 #[.pointer (some ⟨p, 0, none⟩), .int .i64 X, .slice ka n cap] w fun e w' => e = .returned (.tuple #[]) ∧ Sep w' (ownA 4 1 (.slice ka n cap) n (l.map Value.bool) :: diskA p (D.arm (x : Int) l) :: R) := by
  have ho := S.own
  have hl : l.length = n := by have := ho.1; simpa using this
  obtain ⟨M, hD, h1, _⟩ := S.up1.disk
  exact (arm_ok w p D M x X hX l ka n cap hD hx (own_bools ho M) hl hkn hnil).mono fun e w' h => ⟨h.1, (h1 w' _ h.2.1 h.2.2).up1⟩
end
end Go.Proofs.Ytgicpialopccpaa
