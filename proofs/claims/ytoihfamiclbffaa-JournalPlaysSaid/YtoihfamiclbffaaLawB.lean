/- law03's text. -/
import Derived.Test.YtoihfamiclbffaaLawA
namespace Go.Proofs.Ytoihfamiclbffaa
open Go.RowKit

def textL (n : Nat) (c : UInt8) : List UInt8 := (List.range n).map fun i => c + UInt8.ofNat (i / 100)
theorem textL_len (n : Nat) (c : UInt8) : (textL n c).length = n := by simp [textL]
theorem textL_succ (n : Nat) (c : UInt8) : textL (n + 1) c = textL n c ++ [c + UInt8.ofNat (n / 100)] := by simp [textL, List.range_succ]

theorem run_make_zeros (w : World) (n : Nat) (hn : n ≤ 1000000) :
    (Instr.makeSlice 33 (.int .i64 (n : Int)) (.int .i64 (n : Int))).run Try.prog w = .ok (.slice (some ⟨w.heap.size, 0, none⟩) n n) (w.alloc (.cells ((List.replicate n (0 : UInt8)).map byteV).toArray 5)) := by
  obtain ⟨i0, hi, hz0, hz1, hz2⟩ := info_parts info8
  have h := run_make (P := Try.prog) w 33 5 i0 (.int .u8 0) Try.underlying33 hi hz0 .i64 .i64 (n : Int) (n : Int) (by omega) (Int.le_refl _) (by rw [hz2]; omega) (by omega)
  rw [h, hz1, Int.toNat_natCast]
  have e : madeCells (Value.int .u8 0).cells (n * 1) = ((List.replicate n (0 : UInt8)).map byteV).toArray := by
    have := zeros_bytes n
    apply Array.ext'
    rw [this]
  rw [e]
theorem made_bytes {w : World} {R : List Asn} (S : Sep w R) (n : Nat) (hn : n ≤ 1000000) : Sep (w.alloc (.cells ((List.replicate n (0 : UInt8)).map byteV).toArray 5)) (bytesA (.slice (some ⟨w.heap.size, 0, none⟩) n n) n (List.replicate n 0) :: R) :=
  (S.alloc _ _).blkBytes n (by simp) hn

section
variable {w : World} {R : List Asn}
set_option maxRecDepth 20000 in
set_option maxHeartbeats 4000000 in
theorem text_sep (S : Sep w R) (n : Nat) (c : UInt8) (Nn C : Int) (hN : Nn = (n : Int)) (hC : C = (c.toNat : Int)) (hn : n ≤ 100000) :
    Calls Try.prog 14 #[.int .i64 Nn, .int .u8 C] w fun e w' => e = .returned (.string ⟨(textL n c).toArray⟩) ∧ Sep w' R := by
  subst hN hC
  have HS := Lib.hid S
  have n0 : (0 : Int) ≤ (n : Int) := by omega
  have n1 : (n : Int) ≤ 100000 := by omega
  clear S hn
  go_enter Try.func14, Try.ntmps14
  have hmk := run_make_zeros w n (by omega)
  have S1 := made_bytes HS.out n (by omega)
  obtain ⟨w1, hw1⟩ : ∃ w1, w1 = w.alloc (.cells ((List.replicate n (0 : UInt8)).map byteV).toArray 5) := ⟨_, rfl⟩
  rw [← hw1] at hmk S1
  obtain ⟨g, hg⟩ : ∃ g, g = w.heap.size := ⟨_, rfl⟩
  rw [← hg] at hmk S1
  clear hw1 hg
  go_wp2
  clear hmk
  go_loopw [6] (fun i wr => ∃ (k : Nat) (l : List UInt8), k ≤ n ∧ i = .int .i64 (k : Int) ∧ l.take k = textL k c ∧ Sep wr (bytesA (.slice (some ⟨g, 0, none⟩) n n) n l :: R)) (fun i _ => n - (intOf i).toNat)
  case atStart => exact ⟨0, _, Nat.zero_le _, rfl, rfl, S1⟩
  case round =>
    obtain ⟨k, l, hk, rfl, hl, Sr⟩ := hrel
    have hll := Sr.bytes.len
    by_cases hlt : k < n
    · have hlt1 : (k : Int) < (n : Int) := by omega
      have hk0 : (0 : Int) ≤ (k : Int) := by omega
      obtain ⟨x, hx⟩ : ∃ x, x = c + UInt8.ofNat (k / 100) := ⟨_, rfl⟩
      have hxv : ((c.toNat : Int) + (k : Int) / 100 % 256) % 256 = (x.toNat : Int) := by rw [hx, UInt8.toNat_add, UInt8.toNat_ofNat']; omega
      obtain ⟨_, e, _, _, hc, hf⟩ := Sr.bytes.at (by omega)
      cases e
      have hck := hc k hlt
      have S2 := Sr.bytes_set k x
      have Hx := Lib.hid hx
      have Hl := Lib.hid hl
      have HS2 := Lib.hid S2
      have Hll := Lib.hid hll
      clear hx hl S2 hll Sr S1 hc
      go_wp2
      refine ⟨⟨k + 1, l.set k x, by omega, by go_num, ?_, HS2.out⟩, by simp [intOf]; omega⟩
      have hll := Hll.out
      rw [textL_succ, ← Hx.out, ← Hl.out, List.take_succ_eq_append_getElem (by rw [List.length_set]; omega)]
      congr 1
      · apply List.ext_getElem?
        intro i
        simp only [List.getElem?_take, List.getElem?_set]
        split
        · rw [if_neg (by omega)]
        · rfl
      · simp
    · obtain rfl : k = n := by omega
      have hlt1 : ¬ (k : Int) < (k : Int) := by omega
      rw [List.take_of_length_le (by omega)] at hl
      subst hl
      have tr := run_string Sr.bytes.reads k k (textL_len k c)
      have HSr := Lib.hid Sr.drop
      clear Sr hll S1
      go_wp2
      go_ret
      exact ⟨rfl, HSr.out⟩
end
end Go.Proofs.Ytoihfamiclbffaa
