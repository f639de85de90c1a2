/- What the laws on sums share. -/
import Derived.Test.YtmfghlblpebedaaCrcB
namespace Go.Proofs.Ytmfghlblpebedaa
open Go.RowKit Crc

theorem nine : num (more 0#32 [49, 50, 51, 52, 53, 54, 55, 56, 57]) = 3421780262 := by rw [num_eq]; decide
set_option maxHeartbeats 400000 in
theorem shown_calls (w : World) : Calls Try.prog 9 #[] w fun e w' => e = .returned (.bool true) ∧ Below w.heap.size w w' := by
  have kc := fun (w : World) (C : Array Value) (n c : Nat) => Lib.run_convert_bytes_const (P := Try.prog) w 22 5 C n c Try.underlying22 Try.underlying5
  have h9 := nine
  have h0 : num (more 0#32 []) = 0 := by rw [num_eq]; decide
  go_enter Try.func9, Try.ntmps9
  go_wp2_with fail
  refine (sum_calls _ 9 _ [49, 50, 51, 52, 53, 54, 55, 56, 57] _ rfl (by decide) (BytesAt.made _ rfl)).mono ?_
  rintro e w1 ⟨rfl, hb1⟩
  go_wp2_with fail
  refine (sum_calls _ 0 _ [] _ rfl (by decide) (BytesAt.nil _ _)).mono ?_
  rintro e w2 ⟨rfl, hb2⟩
  go_wp2_with fail
  go_ret
  exact ⟨rfl, (((Below.refl _ _).alloc (Nat.le_refl _) _).trans (hb1.mono (by simp))).trans (hb2.mono (by have := hb1.size; simp at this; omega))⟩

theorem more_inj {a b : BitVec 32} {l : List UInt8} (h : more a l = more b l) : a = b := not_inj (run_inj l (not_inj h))
theorem more_zero_ne (s : BitVec 32) (n : Nat) (hs : byteT (~~~ s) 0 ≠ ~~~ s) : more s (List.replicate n 0) ≠ more s (List.replicate n 0 ++ [0]) := by
  intro h
  have e : List.replicate n (0 : UInt8) ++ [0] = [0] ++ List.replicate n 0 := by
    rw [← List.replicate_succ', List.replicate_succ]; rfl
  rw [e] at h
  have := not_inj h
  rw [run_append] at this
  exact hs (run_inj _ this).symm
theorem num_beq (a b : BitVec 32) : (num a == num b) = (a == b) := by
  by_cases h : a = b
  · subst h; simp
  · have h' : num a ≠ num b := fun e => h (num_inj e)
    rw [beq_eq_false_iff_ne.2 h', beq_eq_false_iff_ne.2 h]

theorem num_byte (c : BitVec 32) (k : Nat) : num c / ((2 ^ k : Nat) : Int) % 256 = ((byte c k).toNat : Int) := by
  rw [num_eq]
  unfold byte
  rw [UInt8.toNat_ofNat', BitVec.toNat_ushiftRight, Nat.shiftRight_eq_div_pow]
  omega
theorem num_byte0 (c : BitVec 32) : num c % 256 = ((byte c 0).toNat : Int) := by have := num_byte c 0; simpa using this
theorem num_byte8 (c : BitVec 32) : num c / 256 % 256 = ((byte c 8).toNat : Int) := num_byte c 8
theorem num_byte16 (c : BitVec 32) : num c / 65536 % 256 = ((byte c 16).toNat : Int) := num_byte c 16
theorem num_byte24 (c : BitVec 32) : num c / 16777216 % 256 = ((byte c 24).toNat : Int) := num_byte c 24

theorem num_byte24' (c : BitVec 32) : num c / 16777216 = ((byte c 24).toNat : Int) := by
  rw [← num_byte24]
  have := num_lt c
  have := num_nonneg c
  omega
theorem xor_u8 (x : UInt8) (n : Nat) (hn : n < 256) : Go.bits .xor .u8 ((x.toNat : Nat) : Int) ((n : Nat) : Int) = ((x ^^^ UInt8.ofNat n).toNat : Int) := by
  unfold Go.bits
  rw [IntKind.wrap_u8, BitVec.ofInt_natCast, BitVec.ofInt_natCast]
  show (((BitVec.ofNat 8 x.toNat ^^^ BitVec.ofNat 8 n).toNat : Nat) : Int) % 256 = _
  rw [BitVec.toNat_xor, BitVec.toNat_ofNat, BitVec.toNat_ofNat, UInt8.toNat_xor, UInt8.toNat_ofNat']
  have hx := x.toNat_lt
  rw [Nat.mod_eq_of_lt (by omega : x.toNat < 2 ^ 8), Nat.mod_eq_of_lt (by omega : n < 2 ^ 8)]
  have := Nat.xor_lt_two_pow (n := 8) hx (by omega : n < 2 ^ 8)
  omega
theorem xor_u8' (x y : UInt8) : Go.bits .xor .u8 ((x.toNat : Nat) : Int) ((y.toNat : Nat) : Int) = ((x ^^^ y).toNat : Int) := by
  rw [xor_u8 x _ (UInt8.toNat_lt y), UInt8.ofNat_toNat]
theorem pow_mod8 (k : Nat) : (2 : Int) ^ (k % 8) % 256 = ((2 ^ (k % 8) : Nat) : Int) := by
  have h : ∀ t, t < 8 → (2 : Int) ^ t % 256 = ((2 ^ t : Nat) : Int) := by decide
  exact h _ (Nat.mod_lt _ (by decide))
theorem pow_lt8 (k : Nat) : 2 ^ (k % 8) < 256 := by
  have h : ∀ t, t < 8 → 2 ^ t < 256 := by decide
  exact h _ (Nat.mod_lt _ (by decide))
theorem flip_u8 (x : UInt8) (k : Nat) : Go.bits .xor .u8 ((x.toNat : Nat) : Int) ((2 : Int) ^ (k % 8) % 256) = ((x ^^^ UInt8.ofNat (2 ^ (k % 8))).toNat : Int) := by
  rw [pow_mod8, xor_u8 x _ (pow_lt8 k)]
/-- A bit turned: another sum. -/
theorem more_flip_ne (s : BitVec 32) (l : List UInt8) (k : Nat) (hk : k / 8 < l.length) : more s (l.set (k / 8) (l.getD (k / 8) 0 ^^^ UInt8.ofNat (2 ^ (k % 8)))) ≠ more s l := by
  intro h
  have h1 := not_inj h
  have e : l.getD (k / 8) 0 = l[k / 8] := by simp [List.getD, hk]
  rw [e, run_flip _ _ _ hk] at h1
  have h2 : bitN (8 * l.length - k) 1#32 = 0#32 := by
    have := congrArg (run (~~~ s) l ^^^ ·) h1
    simpa [xself] using this
  exact one_ne _ h2
theorem bit_test (d : BitVec 32) (k : Nat) : (Go.bits .and .u32 (num d / 2 ^ k) 1 == 1) = d.getLsbD k := by
  rw [num_eq]
  have e : ((d.toNat : Nat) : Int) / 2 ^ k = ((d.toNat / 2 ^ k : Nat) : Int) := by simp
  rw [e]
  unfold Go.bits
  rw [IntKind.wrap_u32, BitVec.ofInt_natCast]
  show ((((BitVec.ofNat 32 (d.toNat / 2 ^ k) &&& 1#32).toNat : Nat) : Int) % 4294967296 == 1) = _
  rw [BitVec.toNat_and, BitVec.toNat_ofNat]
  have h1 : (1#32 : BitVec 32).toNat = 1 := rfl
  rw [h1, Nat.and_one_is_mod, BitVec.getLsbD, Nat.testBit_eq_decide_div_mod_eq]
  have := d.isLt
  have h2 : d.toNat / 2 ^ k < 2 ^ 32 := Nat.lt_of_le_of_lt (Nat.div_le_self _ _) this
  rw [Nat.mod_eq_of_lt h2]
  by_cases h : d.toNat / 2 ^ k % 2 = 1
  · simp [h]
  · have : d.toNat / 2 ^ k % 2 = 0 := by omega
    simp [this]
end Go.Proofs.Ytmfghlblpebedaa
