/- The reference's disk, as it lies; its small functions. -/
import Derived.Test.YtgicpialopccpaaDiskSep
import Derived.Test.YtgicpialopccpaaPerm
namespace Go.Proofs.Ytgicpialopccpaa
open Go.RowKit
set_option linter.unusedVariables false

def strV (l : List UInt8) : Value := .string ⟨l.toArray⟩
def wtV (x : Nat × List UInt8) : List Value := [.int .i64 (x.1 : Int), strV x.2]
def leftOf (D : Dk) : Int := match D.armed with
  | some (n, _) => (n : Int)
  | none => -1
def rdC (dv wv kv : Value) (D : Dk) : Array Value := #[dv, wv, .bool D.down, .int .i64 D.ops, .int .i64 (leftOf D), kv]
def rdB (r : Nat) (D : Dk) (dv wv kv : Value) : Asn := blkA r (rdC dv wv kv D) 57
def strsA (v : Value) (l : List (List UInt8)) : Asn := ownA 9 1 v l.length (l.map strV)
def wtsA (v : Value) (l : List (Nat × List UInt8)) : Asn := ownA 83 2 v l.length (l.flatMap wtV)
def boolsA (v : Value) (l : List Bool) : Asn := ownA 4 1 v l.length (l.map Value.bool)
def rdL (r : Nat) (D : Dk) (dv wv kv : Value) (kp : List Bool) : List Asn := [rdB r D dv wv kv, strsA dv D.secs, wtsA wv D.waits, boolsA kv kp]
/-- The reference's disk. -/
def rdA (r : Nat) (D : Dk) : Asn where
  holds w F := ∃ dv wv kv kp, (∀ x, D.armed = some x → kp = x.2) ∧ (packA (rdL r D dv wv kv kp)).holds w F
  base := 0
  le := fun _ _ _ => Nat.zero_le _
  lt := fun w F ⟨_, _, _, _, _, h⟩ => (packA _).lt w F h
  cells := fun w F ⟨_, _, _, _, _, h⟩ => (packA _).cells w F h
  keep := fun w w' F ⟨dv, wv, kv, kp, h0, h⟩ e1 e2 e3 e4 e5 => ⟨dv, wv, kv, kp, h0, (packA _).keep w w' F h e1 e2 e3 e4 e5⟩
section
variable {w : World} {R : List Asn} {r : Nat} {D : Dk}
theorem Sep.rd_open (S : Sep w (rdA r D :: R)) : ∃ dv wv kv kp, (∀ x, D.armed = some x → kp = x.2) ∧ Sep w (rdB r D dv wv kv :: strsA dv D.secs :: wtsA wv D.waits :: boolsA kv kp :: R) := by
  obtain ⟨F, h1, ⟨dv, wv, kv, kp, h0, h2⟩, h3⟩ := S
  exact ⟨dv, wv, kv, kp, h0, Sep.unpack (L := rdL r D dv wv kv kp) ⟨F, h1, h2, h3⟩⟩
theorem Sep.rd_shut {dv wv kv : Value} {kp : List Bool} (h0 : ∀ x, D.armed = some x → kp = x.2) (S : Sep w (rdB r D dv wv kv :: strsA dv D.secs :: wtsA wv D.waits :: boolsA kv kp :: R)) : Sep w (rdA r D :: R) := by
  have h : Sep w (packA (rdL r D dv wv kv kp) :: R) := Sep.pack (L := rdL r D dv wv kv kp) (fun A hA => by simp [rdL] at hA; rcases hA with rfl | rfl | rfl | rfl <;> rfl) S
  obtain ⟨F, h1, h2, h3⟩ := h
  exact ⟨F, h1, ⟨dv, wv, kv, kp, h0, h2⟩, h3⟩
theorem Sep.rd {dv wv kv : Value} (S : Sep w (rdB r D dv wv kv :: R)) : w.cell? ⟨r, 0, none⟩ = some dv ∧ w.cell? ⟨r, 1, none⟩ = some wv ∧ w.cell? ⟨r, 2, none⟩ = some (.bool D.down) ∧ w.cell? ⟨r, 3, none⟩ = some (.int .i64 D.ops) ∧ w.cell? ⟨r, 4, none⟩ = some (.int .i64 (leftOf D)) ∧ w.cell? ⟨r, 5, none⟩ = some kv :=
  ⟨S.blk_cell 0, S.blk_cell 1, S.blk_cell 2, S.blk_cell 3, S.blk_cell 4, S.blk_cell 5⟩
/-- Cells of a slice of one's own. -/
theorem Sep.own_slice {t : TypeId} {sz n : Nat} {v : Value} {xs : List Value} (S : Sep w (ownA t sz v n xs :: R)) : ∃ a cap, v = .slice a n cap ∧ n ≤ cap ∧ (a = none → cap = 0) := by
  obtain ⟨a, cap, rfl, h1, h2⟩ := ownsRow_slice S.own
  refine ⟨a, cap, rfl, h1, fun e => ?_⟩
  subst e
  rcases S.own.2 with ⟨e, _⟩ | ⟨g, _, _, e, _⟩
  · simp at e; exact e.2
  · cases e
theorem Sep.own_at {t : TypeId} {sz n cap : Nat} {a : Option Addr} {xs : List Value} (S : Sep w (ownA t sz (.slice a n cap) n xs :: R)) (h0 : 0 < n) :
    ∃ g, a = some ⟨g, 0, none⟩ ∧ (∀ i, i < n * sz → w.cell? ⟨g, i, none⟩ = xs[i]?) ∧ (∀ i, w.frozen? ⟨g, i, none⟩ = false) := by
  have h := S.own
  rcases h.2 with ⟨e, e0⟩ | ⟨g, cap', cur, e, _, hh, _⟩
  · simp at e; omega
  · simp only [Value.slice.injEq] at e
    obtain ⟨rfl, _, rfl⟩ := e
    exact ⟨g, rfl, fun i hi => World.ownsRow.cellAt h i hi, fun i => h.frozenAt i⟩
theorem Sep.strs_at {n cap : Nat} {a : Option Addr} {l : List (List UInt8)} (S : Sep w (strsA (.slice a n cap) l :: R)) (hn : n = l.length) (i : Nat) (hi : i < l.length) : ∃ g, a = some ⟨g, 0, none⟩ ∧ w.cell? ⟨g, i, none⟩ = some (strV (l.getD i [])) ∧ (∀ i, w.frozen? ⟨g, i, none⟩ = false) := by
  subst hn
  obtain ⟨g, rfl, hc, hf⟩ := S.own_at (by omega)
  refine ⟨g, rfl, ?_, hf⟩
  rw [hc i (by omega)]
  simp [List.getD, hi]
theorem wts_nth (l : List (Nat × List UInt8)) : ∀ i, i < l.length → (l.flatMap wtV)[2 * i]? = some (.int .i64 ((l.getD i (0, [])).1 : Int)) ∧ (l.flatMap wtV)[2 * i + 1]? = some (strV (l.getD i (0, [])).2) := by
  induction l with
  | nil => intro i hi; simp at hi
  | cons x l ih =>
    intro i hi
    cases i with
    | zero => exact ⟨rfl, rfl⟩
    | succ i =>
      have h := ih i (by simpa using hi)
      simp only [List.flatMap_cons, wtV]
      rw [show 2 * (i + 1) = (2 * i) + 2 by omega, show 2 * i + 2 + 1 = (2 * i + 1) + 2 by omega]
      exact h
theorem wts_len (l : List (Nat × List UInt8)) : (l.flatMap wtV).length = 2 * l.length := by
  induction l with
  | nil => rfl
  | cons x l ih => rw [List.flatMap_cons, List.length_append, ih]; simp [wtV]; omega
theorem Sep.wts_at {n cap : Nat} {a : Option Addr} {l : List (Nat × List UInt8)} (S : Sep w (wtsA (.slice a n cap) l :: R)) (hn : n = l.length) (i : Nat) (hi : i < l.length) : ∃ g, a = some ⟨g, 0, none⟩ ∧ w.cell? ⟨g, i * 2, none⟩ = some (.int .i64 ((l.getD i (0, [])).1 : Int)) ∧ w.cell? ⟨g, i * 2 + 1, none⟩ = some (strV (l.getD i (0, [])).2) := by
  subst hn
  obtain ⟨g, rfl, hc, hf⟩ := S.own_at (by omega)
  obtain ⟨h1, h2⟩ := wts_nth l i hi
  rw [Nat.mul_comm] at h1 h2
  exact ⟨g, rfl, by rw [hc _ (by omega)]; exact h1, by rw [hc _ (by omega)]; exact h2⟩

theorem run_make_zeros (w : World) (n : Nat) (hn : n ≤ 1000000) :
    (Instr.makeSlice 30 (.int .i64 (n : Int)) (.int .i64 (n : Int))).run Try.prog w = .ok (.slice (some ⟨w.heap.size, 0, none⟩) n n) (w.alloc (.cells ((List.replicate n (0 : UInt8)).map byteV).toArray 5)) := by
  obtain ⟨i0, hi, hz0, hz1, hz2⟩ := info_parts info8
  have h := run_make (P := Try.prog) w 30 5 i0 (.int .u8 0) Try.underlying30 hi hz0 .i64 .i64 (n : Int) (n : Int) (by omega) (Int.le_refl _) (by rw [hz2]; omega) (by omega)
  rw [h, hz1, Int.toNat_natCast]
  have e : madeCells (Value.int .u8 0).cells (n * 1) = ((List.replicate n (0 : UInt8)).map byteV).toArray := by
    have := zeros_bytes n
    apply Array.ext'
    rw [this]
  rw [e]
theorem made_bytes (S : Sep w R) (n : Nat) (hn : n ≤ 1000000) : Sep (w.alloc (.cells ((List.replicate n (0 : UInt8)).map byteV).toArray 5)) (bytesA (.slice (some ⟨w.heap.size, 0, none⟩) n n) n (List.replicate n 0) :: R) :=
  (S.alloc _ _).blkBytes n (by simp) hn
set_option maxHeartbeats 1600000 in
theorem zero_below (w : World) :
    Calls Try.prog 29 #[] w fun e w' => e = .returned (strV Dk.zero) ∧ Below w.heap.size w w' := by
  have S1 := made_bytes (R := []) (w := w) trivial 512 (by omega)
  have hmk : (Instr.makeSlice 30 (.int .i64 512) (.int .i64 512)).run Try.prog w = _ := run_make_zeros w 512 (by omega)
  have hb : Below w.heap.size w (w.alloc (.cells ((List.replicate 512 (0 : UInt8)).map byteV).toArray 5)) := (Below.refl _ _).alloc (Nat.le_refl _) _
  obtain ⟨w1, hw1⟩ : ∃ w1, w1 = w.alloc (.cells ((List.replicate 512 (0 : UInt8)).map byteV).toArray 5) := ⟨_, rfl⟩
  rw [← hw1] at hmk S1 hb
  have tr : (convert 30 9 (.slice (some ⟨w.heap.size, 0, none⟩) 512 512)).run Try.prog w1 = _ := run_string S1.bytes.reads 512 512 (List.length_replicate ..)
  obtain ⟨zs, hzs⟩ : ∃ zs, zs = List.replicate 512 (0 : UInt8) := ⟨_, rfl⟩
  rw [show Dk.zero = zs from hzs.symm]
  rw [← hzs] at tr
  have HB := Lib.hid hb
  clear hw1 S1 hzs hb
  go_enter Try.func29, Try.ntmps29
  go_wp2
  go_ret
  exact ⟨rfl, HB.out⟩
/-- A sector as it was written last: the last of those that wait. -/
def nowN (D : Dk) (i : Nat) : Nat → List UInt8
  | 0 => D.secs.getD i []
  | k + 1 => if (D.waits.getD k (0, [])).1 = i then (D.waits.getD k (0, [])).2 else nowN D i k
theorem find_snoc (l : List (Nat × List UInt8)) (x : Nat × List UInt8) (i : Nat) : (l ++ [x]).reverse.find? (fun x => x.1 == i) = if x.1 = i then some x else l.reverse.find? (fun x => x.1 == i) := by
  rw [List.reverse_append, List.reverse_singleton, List.singleton_append, List.find?_cons]
  by_cases h : x.1 = i
  · simp [h]
  · have e : (x.1 == i) = false := by simpa using h
    rw [e, if_neg h]
theorem nowN_eq (D : Dk) (i : Nat) : ∀ k, k ≤ D.waits.length → nowN D i k = match (D.waits.take k).reverse.find? (fun x => x.1 == i) with
    | some x => x.2
    | none => D.secs.getD i []
  | 0, _ => by simp [nowN]
  | k + 1, hk => by
    have h : k < D.waits.length := hk
    have e : D.waits.getD k (0, []) = D.waits[k] := by simp [List.getD, h]
    rw [nowN, nowN_eq D i k (by omega), List.take_succ_eq_append_getElem h, find_snoc, e]
    by_cases h2 : D.waits[k].1 = i
    · rw [if_pos h2, if_pos h2]
    · rw [if_neg h2, if_neg h2]
theorem nowN_now (D : Dk) (i : Nat) : nowN D i D.waits.length = D.now i := by
  rw [nowN_eq D i _ (Nat.le_refl _), List.take_length]; rfl
/-- The cells that Now reads. -/
structure RdAt (w : World) (r : Nat) (secs : List (List UInt8)) (waits : List (Nat × List UInt8)) : Prop where
  ex : ∃ (da wa : Option Addr) (dc wc : Nat), w.cell? ⟨r, 0, none⟩ = some (.slice da secs.length dc) ∧ w.cell? ⟨r, 1, none⟩ = some (.slice wa waits.length wc) ∧
    (∀ i, i < secs.length → ∃ g, da = some ⟨g, 0, none⟩ ∧ w.cell? ⟨g, i, none⟩ = some (strV (secs.getD i []))) ∧
    (∀ i, i < waits.length → ∃ g, wa = some ⟨g, 0, none⟩ ∧ w.cell? ⟨g, i * 2, none⟩ = some (.int .i64 ((waits.getD i (0, [])).1 : Int)) ∧ w.cell? ⟨g, i * 2 + 1, none⟩ = some (strV (waits.getD i (0, [])).2))
theorem rd_at {dv wv kv : Value} {secs : List (List UInt8)} {waits : List (Nat × List UInt8)} (S : Sep w (rdB r D dv wv kv :: strsA dv secs :: wtsA wv waits :: R)) : RdAt w r secs waits := by
  obtain ⟨c0, c1, _⟩ := S.rd
  obtain ⟨da, dc, rfl, _⟩ := S.up1.own_slice
  obtain ⟨wa, wc, rfl, _⟩ := S.up2.own_slice
  refine ⟨da, wa, dc, wc, c0, c1, fun i hi => ?_, fun i hi => ?_⟩
  · obtain ⟨g, e, h, _⟩ := S.up1.strs_at rfl i hi
    exact ⟨g, e, h⟩
  · obtain ⟨g, e, h1, h2⟩ := S.up2.wts_at rfl i hi
    exact ⟨g, e, h1, h2⟩
set_option maxRecDepth 20000 in
set_option maxHeartbeats 4000000 in
theorem rNow_calls (hA : RdAt w r D.secs D.waits) (i : Nat) (I : Int) (hI : I = (i : Int)) (hi : i < D.secs.length) (hwn : D.waits.length ≤ 100000) (hsn : D.secs.length ≤ 4096) :
    Calls Try.prog 38 #[.pointer (some ⟨r, 0, none⟩), .int .i64 I] w fun e w' => e = .returned (strV (D.now i)) ∧ w = w' := by
  subst hI
  obtain ⟨da, wa, dc, wc, c0, c1, hd, hw⟩ := hA.ex
  obtain ⟨g, rfl, hc⟩ := hd i hi
  obtain ⟨wn, hwn'⟩ : ∃ wn, wn = D.waits.length := ⟨_, rfl⟩
  obtain ⟨sn, hsn'⟩ : ∃ sn, sn = D.secs.length := ⟨_, rfl⟩
  obtain ⟨u0, hu0⟩ : ∃ u, u = D.secs.getD i [] := ⟨_, rfl⟩
  rw [← hwn'] at c1 hwn
  rw [← hsn'] at c0
  rw [← hu0] at hc
  have hi1 : (i : Int) < (sn : Int) := by omega
  have hi0 : (0 : Int) ≤ (i : Int) := by omega
  have hsb : (sn : Int) ≤ 4096 := by omega
  have hwb : (wn : Int) ≤ 100000 := by omega
  have HW := Lib.hid hw
  have HU := Lib.hid hu0
  have HWN := Lib.hid hwn'
  clear hA hd hw hi hu0 hwn' hsn' hwn hsn
  go_enter Try.func38, Try.ntmps38
  go_wp2
  go_loop [5, 6] (fun sv iv => ∃ k : Nat, k ≤ wn ∧ iv = .int .i64 (k : Int) ∧ sv = strV (nowN D i k)) (fun _ iv => wn - (intOf iv).toNat)
  case atStart => exact ⟨0, Nat.zero_le _, rfl, by rw [nowN, HU.out]⟩
  case round =>
    obtain ⟨k, hk, rfl, rfl⟩ := hrel
    by_cases hlt : k < wn
    · have hlt1 : (k : Int) < (wn : Int) := by omega
      have hk0 : (0 : Int) ≤ (k : Int) := by omega
      obtain ⟨gw, rfl, h1, h2⟩ := HW.out k (by rw [← HWN.out]; exact hlt)
      obtain ⟨x, hx⟩ : ∃ x, x = D.waits.getD k (0, []) := ⟨_, rfl⟩
      rw [← hx] at h1 h2
      have hn : nowN D i (k + 1) = if x.1 = i then x.2 else nowN D i k := by rw [hx]; rfl
      have HN := Lib.hid hn
      clear hx hn
      by_cases he : x.1 = i
      · have he1 : (x.1 : Int) = (i : Int) := by omega
        rw [he1] at h1
        have HE := Lib.hid he
        clear he he1
        go_wp2
        go_round
        case rel => exact ⟨k + 1, by omega, by go_num, by rw [HN.out, if_pos HE.out]⟩
        case measure => simp [intOf]; omega
      · have he1 : ¬ (x.1 : Int) = (i : Int) := by omega
        have HE := Lib.hid he
        clear he
        go_wp2
        go_round
        case rel => exact ⟨k + 1, by omega, by go_num, by rw [HN.out, if_neg HE.out]⟩
        case measure => simp [intOf]; omega
    · obtain rfl : k = wn := by omega
      have hfin : nowN D i k = D.now i := by rw [HWN.out]; exact nowN_now D i
      have HF := Lib.hid hfin
      clear hfin
      go_wp2
      go_ret
      refine ⟨?_, rfl⟩
      rw [HF.out]
      rfl
end
end Go.Proofs.Ytgicpialopccpaa
