/- What the functions of the document's package swingbridgeref02 come to. -/
import Derived.Test.YtnekelndcpmonaaMg5
set_option linter.all false
namespace Go.Proofs.Ytnekelndcpmonaa
open Go.RowKit Crc

theorem sub_num (s : BitVec 32) : 4294967295 - num s = num (~~~ s) := by
  simp only [num_eq]
  rw [BitVec.toNat_not]
  have := s.isLt
  omega
theorem low_num (c : BitVec 32) : num c % (2 : Int) = if c.getLsbD 0 then 1 else 0 := by
  simp only [num_eq]
  have h : c.getLsbD 0 = decide (c.toNat % 2 = 1) := by
    rw [BitVec.getLsbD, Nat.testBit_zero]
  rw [h]
  by_cases e : c.toNat % 2 = 1
  · simp [e]; omega
  · simp [e]; omega
theorem half_num (c : BitVec 32) : num c / (2 : Int) = num (c >>> 1) := by
  simp only [num_eq]
  rw [BitVec.toNat_ushiftRight, Nat.shiftRight_eq_div_pow]
  omega
theorem bit_num (c : BitVec 32) : Go.bits .xor .u32 (num c / (2 : Int)) 3988292384 = num ((c >>> 1) ^^^ poly) := by
  have e : (3988292384 : Int) = num poly := by rw [num_eq]; decide
  rw [half_num, e, bits_xor_u32]
theorem bit1_of (c : BitVec 32) (h : c.getLsbD 0 = true) : bit1 c = (c >>> 1) ^^^ poly := by
  unfold bit1
  rw [h]; rfl

theorem num_mod (c : BitVec 32) : num c % (4294967296 : Int) = num c := by have := num_nonneg c; have := num_lt c; omega
attribute [local go_sem] bit_num num_mod bits_xor_u32 bits_and15_u32 bits_not_u32 u8_u32 sub_num

set_option maxHeartbeats 400000 in
set_option maxRecDepth 100000 in
theorem refMore_calls (s : BitVec 32) (t : ByteArray) (w : World) (hl : t.size ≤ 4611686018427387904) :
    Calls Try.prog 63 #[.int .u32 (num s), .string t] w fun e w' =>
    e = .returned (.int .u32 (num (more s t.data.toList))) ∧ w = w' := by
  have hs := num_lt s
  have hs0 := num_nonneg s
  go_enter Try.func63, Try.ntmps63
  go_wp2
  go_loopw [5, 6] (fun c i wr => ∃ k : Nat, wr = w ∧ k ≤ t.size ∧ i = .int .i64 k ∧ c = .int .u32 (num (run (~~~ s) (t.data.toList.take k)))) (fun _ i _ => t.size - (intOf i).toNat)
  case atStart => exact ⟨0, rfl, Nat.zero_le _, rfl, by simp [run_nil, num_mod]⟩
  case round =>
    obtain ⟨k, rfl, hk, rfl, rfl⟩ := hrel
    by_cases hlt : k < t.size
    · obtain ⟨x, hx⟩ : ∃ x, x = t[k] := ⟨_, rfl⟩
      obtain ⟨c, hc0⟩ : ∃ c, c = run (~~~ s) (t.data.toList.take k) := ⟨_, rfl⟩
      have hn : run (~~~ s) (t.data.toList.take (k + 1)) = bitN 8 (c ^^^ w32 x) := by
        rw [hx, hc0, ← byteT_bits, ← run_snoc, List.take_succ_eq_append_getElem (by simpa using hlt)]
        rfl
      rw [← hc0]
      have Hn := Lib.hid hn
      clear hn hc0
      have hx' := hx.symm
      clear hx
      go_wp2
      clear hx'
      go_loopw [5, 7] (fun c' i' wq => ∃ m : Nat, wq = wr ∧ m ≤ 8 ∧ i' = .int .i64 m ∧ c' = .int .u32 (num (bitN m (c ^^^ w32 x)))) (fun _ i' _ => 8 - (intOf i').toNat)
      case atStart => exact ⟨0, rfl, Nat.zero_le _, rfl, rfl⟩
      case round =>
        obtain ⟨m, rfl, hm, rfl, rfl⟩ := hrel
        by_cases hm8 : m < 8
        · obtain ⟨c', hc'⟩ : ∃ c', c' = bitN m (c ^^^ w32 x) := ⟨_, rfl⟩
          have hs' : bitN (m + 1) (c ^^^ w32 x) = bit1 c' := by rw [hc', bitN_succ]
          have Hs := Lib.hid hs'
          rw [← hc']
          clear hs' hc'
          have hlo := num_nonneg c'
          have hup := num_lt c'
          have hl2 := low_num c'
          cases hb : c'.getLsbD 0 with
          | true =>
            rw [hb] at hl2
            have Hs' := Lib.hid (Hs.out.trans (bit1_of c' hb))
            have hq : (num c' % (2 : Int) == 1) = true := by rw [hl2]; rfl
            clear hl2 hb
            go_wp2
            go_roundw
            case rel => exact ⟨m + 1, by first | rfl | trivial, by omega, by go_num, by rw [Hs'.out]⟩
            case measure => simp [intOf]; omega
          | false =>
            rw [hb] at hl2
            have Hs' := Lib.hid (Hs.out.trans (bit1_shift c' hb))
            have hq : (num c' % (2 : Int) == 1) = false := by rw [hl2]; rfl
            clear hl2 hb
            go_wp2
            go_roundw
            case rel => exact ⟨m + 1, by first | rfl | trivial, by omega, by go_num, by rw [Hs'.out, ← half_num]⟩
            case measure => simp [intOf]; omega
        · have e : m = 8 := by omega
          subst e
          go_wp2
          go_roundw
          case rel => exact ⟨k + 1, by first | rfl | trivial, by omega, by go_num, by rw [Hn.out]⟩
          case measure => simp [intOf]; omega
    · have hr := num_lt (run (~~~ s) (t.data.toList.take k))
      have hr0 := num_nonneg (run (~~~ s) (t.data.toList.take k))
      go_wp2
      go_ret
      have e : k = t.size := by omega
      subst e
      exact ⟨by rw [List.take_of_length_le (by simp)]; simp [num_mod]; rfl, rfl⟩

theorem refMore_at (sv : Int) (s : BitVec 32) (t : ByteArray) (w : World) (hs : num s = sv) (hl : t.size ≤ 4611686018427387904) :
    Calls Try.prog 63 #[.int .u32 sv, .string t] w fun e w' => e = .returned (.int .u32 (num (more s t.data.toList))) ∧ w = w' := by
  subst hs
  exact refMore_calls s t w hl

set_option maxHeartbeats 400000 in
theorem refSum_calls (t : ByteArray) (w : World) (hl : t.size ≤ 4611686018427387904) :
    Calls Try.prog 49 #[.string t] w fun e w' =>
    e = .returned (.int .u32 (num (more 0#32 t.data.toList))) ∧ w = w' := by
  go_enter Try.func49, Try.ntmps49
  go_wp2_with (first | (go_at_call 63; refine (refMore_at _ 0#32 _ _ (by rw [num_eq]; rfl) hl).mono ?_; rintro e w1 ⟨rfl, rfl⟩))
  go_ret
  exact ⟨rfl, rfl⟩
end Go.Proofs.Ytnekelndcpmonaa
