/- What the functions of package crc come to. -/
import Derived.Test.YtoihfamiclbffaaProg
import Derived.WalkKit
import Derived.KernelRfl
import Derived.Below
import Derived.Lib.Hide
import Derived.Test.YtoihfamiclbffaaMath
import Derived.Test.YtoihfamiclbffaaLib
namespace Go.Proofs.Ytoihfamiclbffaa
open Go.RowKit Crc

theorem ret_u32 {a b : BitVec 32} (h : a = b) : Ending.returned (.int .u32 (num a)) = .returned (.int .u32 (num b)) := by rw [h]

theorem bits_xor_u32 (a b : BitVec 32) : Go.bits .xor .u32 (num a) (num b) = num (a ^^^ b) := by
  simp only [num_eq]; unfold Go.bits
  rw [IntKind.wrap_u32, BitVec.ofInt_natCast, BitVec.ofInt_natCast]
  show ((((BitVec.ofNat 32 a.toNat) ^^^ (BitVec.ofNat 32 b.toNat)).toNat : Nat) : Int) % 4294967296 = _
  rw [BitVec.ofNat_toNat, BitVec.ofNat_toNat, BitVec.setWidth_eq, BitVec.setWidth_eq]
  have := (a ^^^ b).isLt
  omega
theorem bits_and15_u32 (a : BitVec 32) : Go.bits .and .u32 (num a) 15 = ((ix a : Nat) : Int) := by
  rw [num_eq]; unfold Go.bits ix
  rw [IntKind.wrap_u32, BitVec.ofInt_natCast]
  show ((((BitVec.ofNat 32 a.toNat) &&& 15#32).toNat : Nat) : Int) % 4294967296 = _
  rw [BitVec.ofNat_toNat, BitVec.setWidth_eq]
  have := (a &&& 15#32).isLt
  omega
theorem bits_not_u32 (a : BitVec 32) : Go.bits .xor .u32 IntKind.u32.max (num a) = num (~~~ a) := by
  have h : IntKind.u32.max = num (BitVec.allOnes 32) := by rw [num_eq]; decide
  rw [h, bits_xor_u32]
  congr 1

theorem u8_u32 (x : UInt8) : ((x.toNat : Nat) : Int) % 4294967296 = num (w32 x) := by
  simp only [num_eq]; unfold w32
  rw [BitVec.toNat_ofNat]
  have := UInt8.toNat_lt x
  omega
theorem shr4_u32 (c : BitVec 32) : num c / (16 : Int) = num (c >>> 4) := by
  simp only [num_eq]
  rw [BitVec.toNat_ushiftRight, Nat.shiftRight_eq_div_pow]
  omega

theorem nib_u32 (c : BitVec 32) : Go.bits .xor .u32 (num c / (16 : Int)) (num (tab (ix c))) = num (nib c) := by
  rw [shr4_u32, bits_xor_u32]; rfl

set_option maxHeartbeats 400000 in
theorem nibbles_calls (w : World) : Calls Try.prog 60 #[] w fun e w' =>
    e = .returned (.agg ((List.range 16).map fun i => Value.int .u32 (num (tab i))).toArray) ∧ Below w.heap.size w w' := by
  go_enter Try.func60, Try.ntmps60
  go_wp2
  refine bodyPost_ret (v := .agg ((List.range 16).map fun i => Value.int .u32 (num (tab i))).toArray) ?_ rfl ⟨rfl, (Below.refl _ _).alloc (Nat.le_refl _) _⟩
  simp [results, Try.results60, go_sem]
  simp only [num_eq]
  decide

/-- The table lies in a block. -/
def TabIn (w : World) (b : Nat) : Prop := ∀ j, j < 16 → w.cell? ⟨b, j, none⟩ = some (.int .u32 (num (tab j)))
theorem TabIn.get {w : World} {b : Nat} (h : TabIn w b) (c : BitVec 32) : w.cell? ⟨b, ix c, none⟩ = some (.int .u32 (num (tab (ix c)))) := h _ (ix_lt c)
theorem tabIn_new (w : World) (t : TypeId) : TabIn (w.alloc (.cells ((List.range 16).map fun i => Value.int .u32 (num (tab i))).toArray t)) w.heap.size := by
  intro j hj
  rw [World.cell?_alloc_new]
  simp [hj]

attribute [local go_sem] bits_xor_u32 bits_and15_u32 bits_not_u32 u8_u32 nib_u32

set_option maxHeartbeats 400000 in
theorem more_calls (s : BitVec 32) (a : Option Addr) (cap : Nat) (l : List UInt8) (w : World) (hl : l.length ≤ 4611686018427387904) (hA : BytesAt w a l) :
    Calls Try.prog 54 #[.int .u32 (num s), .slice a l.length cap] w fun e w' =>
    e = .returned (.int .u32 (num (more s l))) ∧ Below w.heap.size w w' := by
  go_enter Try.func54, Try.ntmps54
  go_wp2_with (first | (go_at_call 60; refine (nibbles_calls _).mono ?_; rintro e w1 ⟨rfl, hb1⟩))
  go_loopw [6, 14] (fun c i wr => ∃ k : Nat, k ≤ l.length ∧ i = .int .i64 k ∧ c = .int .u32 (num (run (~~~ s) (l.take k))) ∧ Below w.heap.size w wr ∧ TabIn wr w1.heap.size) (fun _ i _ => l.length - (intOf i).toNat)
  case atStart => exact ⟨0, Nat.zero_le _, rfl, rfl, hb1.alloc hb1.size _, tabIn_new _ _⟩
  case round =>
    obtain ⟨k, hk, rfl, rfl, hbW, hT⟩ := hrel
    by_cases hlt : k < l.length
    · obtain ⟨b, o, rfl, hc⟩ := hA k hlt
      have hb := World.block_lt_of_cell? _ _ hc
      have hcr := (hbW.cell (p := ⟨b, o + k, none⟩) hb).trans hc
      obtain ⟨x, hx⟩ : ∃ x, x = l.getD k 0 := ⟨_, rfl⟩
      obtain ⟨c, hc0⟩ : ∃ c, c = run (~~~ s) (l.take k) := ⟨_, rfl⟩
      have hn : run (~~~ s) (l.take (k + 1)) = byteT c x := by
        rw [hx, hc0, ← run_snoc, List.take_succ_eq_append_getElem hlt]
        simp [hlt]
      rw [← hx] at hcr
      rw [← hc0]
      have Hn := Lib.hid hn
      clear hn hx hc0
      have hT1 := hT.get (c ^^^ w32 x)
      have hT2 := hT.get (nib (c ^^^ w32 x))
      have hi1 := ix_lt (c ^^^ w32 x)
      have hi2 := ix_lt (nib (c ^^^ w32 x))
      clear hA hc hb
      go_wp2
      go_roundw
      case rel => exact ⟨k + 1, by omega, by go_num, by rw [Hn.out]; rfl, hbW, hT⟩
      case measure => simp [intOf]; omega
    · go_wp2
      go_ret
      have e : k = l.length := by omega
      subst e
      exact ⟨by rw [List.take_length]; rfl, hbW⟩

theorem more_at (sv : Int) (s : BitVec 32) (a : Option Addr) (n cap : Nat) (l : List UInt8) (w : World) (hs : num s = sv) (hn : l.length = n) (hl : l.length ≤ 4611686018427387904) (hA : BytesAt w a l) :
    Calls Try.prog 54 #[.int .u32 sv, .slice a n cap] w fun e w' => e = .returned (.int .u32 (num (more s l))) ∧ Below w.heap.size w w' := by
  subst hs
  subst hn
  exact more_calls s a cap l w hl hA

set_option maxHeartbeats 400000 in
theorem sum_calls (a : Option Addr) (n cap : Nat) (l : List UInt8) (w : World) (hn : n = l.length) (hl : l.length ≤ 4611686018427387904) (hA : BytesAt w a l) :
    Calls Try.prog 55 #[.slice a n cap] w fun e w' =>
    e = .returned (.int .u32 (num (more 0#32 l))) ∧ Below w.heap.size w w' := by
  subst hn
  go_enter Try.func55, Try.ntmps55
  go_wp2_with (first | (go_at_call 54; refine (more_at _ 0#32 _ _ _ l _ (by rw [num_eq]; rfl) rfl hl hA).mono ?_; rintro e w1 ⟨rfl, hb1⟩))
  go_ret
  exact ⟨rfl, hb1⟩

end Go.Proofs.Ytoihfamiclbffaa
