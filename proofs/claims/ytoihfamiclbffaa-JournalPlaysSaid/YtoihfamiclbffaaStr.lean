/- Strings that came in: how []string is opened; a string as bytes. -/
import Derived.Test.YtoihfamiclbffaaOpen
import Derived.Test.YtoihfamiclbffaaSep
import Derived.Deep.Strs
import Derived.Lib.ConvBytes
import Derived.WalkKit
import Derived.BigQuiet
namespace Go.Proofs.Ytoihfamiclbffaa
open Go.ChangeShapes Go.WideShapes Go.ChangeAt Go.RowKit

/-- What a slice of strings reads as. -/
def StrsAt (w : World) (a : Option Addr) (l : List ByteArray) : Prop := ∀ i, i < l.length → ∃ b o, a = some ⟨b, o, none⟩ ∧ w.cell? ⟨b, o + i, none⟩ = some (.string (l.getD i ByteArray.empty))

section
variable {H : Type} {enc : TypeId × Value → H} {w : World} {base : Nat} {spare : Nat → Bool} {held : Bool}
theorem arg_strs {s : Option Addr} {t u : Nat} {d : DataW H} {p : List MemPlace} (h : DataW.Trod enc Try.prog w base spare held 46 (.slice s t u) d p) :
    ∃ l : List ByteArray, t = l.length ∧ StrsAt w s l ∧ l.length ≤ u ∧ u ≤ maxLen ∧ ∀ x ∈ l, x.size ≤ maxLen := by
  obtain ⟨fuel, hf⟩ := h
  rcases Deep.open_strs Try.underlying46 Try.underlying9 (by kernel_rfl) hf with ⟨e, _⟩ | ⟨a, len, cap, m, F, e, _, hl, hm, hmm, _, hx⟩
  · simp [Value.cells] at e
    obtain ⟨rfl, rfl, rfl⟩ := e
    exact ⟨[], rfl, fun i hi => absurd hi (Nat.not_lt_zero i), Nat.le_refl _, by unfold maxLen; omega, fun x hx => by simp at hx⟩
  · simp [Value.cells] at e
    obtain ⟨rfl, rfl, rfl⟩ := e
    have hlm : t ≤ m := by rw [hmm]; split <;> omega
    refine ⟨(List.range t).map F, by simp, ?_, by simpa using hl, hm, fun x hxm => ?_⟩
    · intro i hi
      have hit : i < t := by simpa using hi
      obtain ⟨b, o, spot⟩ := a
      have hspot : spot = none := by simpa [Addr.add] using World.cell?_spot (hx 0 (by omega)).1
      subst hspot
      have hc := (hx i (by omega)).1
      rw [addr_add] at hc
      have eF : ((List.range t).map F).getD i ByteArray.empty = F i := by simp [List.getD, hit]
      rw [eF]
      exact ⟨b, o, rfl, hc⟩
    · obtain ⟨i, hi, rfl⟩ := List.mem_map.1 hxm
      exact (hx i (by have := List.mem_range.1 hi; omega)).2
end

theorem Sep.arg {w0 w : World} {R : List Asn} (S : Sep w (oldA w0 :: R)) {b o : Nat} {v : Value} (h : w0.cell? ⟨b, o, none⟩ = some v) : w.cell? ⟨b, o, none⟩ = some v :=
  (S.old.cell (p := ⟨b, o, none⟩) (World.block_lt_of_cell? _ _ h)).trans h
theorem conv_string (w : World) (s : ByteArray) : (convert 9 33 (.string s)).run Try.prog w = .ok (.slice (some ⟨w.heap.size, 0, none⟩) s.size (grownCap w s.size 0 5)) (Lib.bytesWorld w 5 s) :=
  Lib.run_convert_string_bytes w 9 33 5 s Try.underlying9 Try.underlying33 Try.underlying5
theorem conv_below (w : World) (s : ByteArray) : Below w.heap.size w (Lib.bytesWorld w 5 s) :=
  ⟨rfl, rfl, rfl, by rw [Lib.bytesWorld_size]; omega, fun k hk => Lib.bytesWorld_at_old w _ s k hk⟩
theorem conv_bytes (w : World) (s : ByteArray) : BytesAt (Lib.bytesWorld w 5 s) (some ⟨w.heap.size, 0, none⟩) s.data.toList := fun i hi => by
  refine ⟨w.heap.size, 0, rfl, ?_⟩
  rw [Nat.zero_add]
  exact Lib.bytesWorld_cell w _ s i (by simpa using hi)
/-- The first three hundred bytes of a string. -/
def c300 (s : ByteArray) : List UInt8 := s.data.toList.take 300
theorem c300_len (s : ByteArray) : (c300 s).length ≤ 300 := by unfold c300; rw [List.length_take]; omega
def cuts3 (l : List ByteArray) : List (List UInt8) := l.map c300
theorem cuts3_len (l : List ByteArray) : (cuts3 l).length = l.length := by simp [cuts3]
theorem cuts3_succ (l : List ByteArray) (k : Nat) (x : ByteArray) (h : k < l.length) (hx : x = l.getD k ByteArray.empty) : (cuts3 l).take (k + 1) = (cuts3 l).take k ++ [c300 x] := by
  rw [List.take_succ_eq_append_getElem (by rw [cuts3_len]; exact h)]
  congr 2
  rw [hx]
  simp [cuts3, List.getD, h]
theorem cuts3_at (l : List ByteArray) (k i : Nat) (hi : i < k) (hk : k ≤ l.length) : ((cuts3 l).take k)[i]? = some (c300 (l.getD i ByteArray.empty)) := by
  rw [List.getElem?_take, if_pos hi]
  have : i < l.length := by omega
  simp [cuts3, List.getD, this]
theorem cuts3_le (l : List ByteArray) (k : Nat) : ∀ b ∈ (cuts3 l).take k, b.length ≤ 300 := fun b hb => by
  obtain ⟨x, _, rfl⟩ := List.mem_map.1 (List.mem_of_mem_take hb)
  exact c300_len x
/-- A string cut: its length, its bytes, as bytes. -/
theorem cut_string (x : ByteArray) (m : Nat) : ∃ n : Nat, (if (m : Int) < (x.size : Int) then (m : Int) else (x.size : Int)) = (n : Int) ∧ n ≤ m ∧ n ≤ x.size ∧ (x.data.toList.take m).length = n ∧ (x.extract 0 n).data.toList = x.data.toList.take m ∧ (x.extract 0 n).size = n := by
  have hx : x.data.toList.length = x.size := rfl
  refine ⟨min m x.size, by split <;> omega, Nat.min_le_left _ _, Nat.min_le_right _ _, by rw [List.length_take, hx], ?_, ?_⟩
  · rw [ByteArray.data_extract, Array.toList_extract]
    simp only [List.extract, Nat.sub_zero, List.drop_zero]
    rcases Nat.le_total m x.size with h | h
    · rw [Nat.min_eq_left h]
    · rw [Nat.min_eq_right h, List.take_of_length_le (by omega), List.take_of_length_le (by omega)]
  · rw [ByteArray.size_extract]; omega
theorem slice_str (x : ByteArray) (n : Nat) (h : n ≤ x.size) (W : World) : (Instr.sliceAt 9 (.string x) none (some (.int .i64 (n : Int))) none).run Try.prog W = .ok (.string (x.extract 0 n)) W := by
  have a1 : (n : Int) ≤ (x.size : Int) := by omega
  clear h
  go_simp
theorem slice_cut (x : ByteArray) (n : Nat) (l : List UInt8) (hl : (x.extract 0 n).data.toList = l) (h : n ≤ x.size) (W : World) : (Instr.sliceAt 9 (.string x) none (some (.int .i64 (n : Int))) none).run Try.prog W = .ok (.string ⟨l.toArray⟩) W := by
  subst hl
  exact slice_str x n h W
theorem conv_cut (x : ByteArray) (n : Nat) (hn : (x.extract 0 n).size = n) (W : World) : (convert 9 33 (.string (x.extract 0 n))).run Try.prog W = .ok (.slice (some ⟨W.heap.size, 0, none⟩) n (grownCap W n 0 5)) (Lib.bytesWorld W 5 (x.extract 0 n)) := by
  have h := conv_string W (x.extract 0 n)
  rw [hn] at h
  exact h
theorem conv_cut_at (x : ByteArray) (n : Nat) (l : List UInt8) (h : (x.extract 0 n).data.toList = l) (W : World) : BytesAt (Lib.bytesWorld W 5 (x.extract 0 n)) (some ⟨W.heap.size, 0, none⟩) l := by
  subst h
  exact conv_bytes W _
end Go.Proofs.Ytoihfamiclbffaa
