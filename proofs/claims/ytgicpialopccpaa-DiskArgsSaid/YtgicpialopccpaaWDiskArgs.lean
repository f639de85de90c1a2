/- DiskArgs: the walk, way by way. -/
import Derived.Test.YtgicpialopccpaaDiskL
namespace Go.Proofs.Ytgicpialopccpaa
open Go.RowKit

def da0 (N : Nat) : Dk := Dk.new N
def da1 (N : Nat) : Dk := (da0 N).arm ((1 : Nat) : Int) []
def da2 (N : Nat) : Dk := (da1 N).crash []
theorem da_len (N : Nat) : (da1 N).secs.length = N ∧ (da2 N).secs.length = N := ⟨by simp [da1, da0, Dk.arm, Dk.new], by simp [da2, da1, da0, Dk.arm, Dk.new, Dk.crash, Dk.keepFrom]⟩
theorem da1_facts (N : Nat) : (da1 N).fell.down = false ∧ rdE (da1 N) = 0 ∧ (da1 N).begun.ops = 1 ∧ (da1 N).ops = 0 ∧ (da1 N).fell.waits.length ≤ 100000 := by
  refine ⟨rfl, rfl, rfl, rfl, ?_⟩
  show 0 ≤ 100000
  omega
theorem da2_facts (N : Nat) : (da2 N).fell.down = true ∧ rdE (da2 N) = 11 ∧ (da2 N).begun.ops = 0 ∧ (da2 N).ops = 0 ∧ (da2 N).fell.waits.length ≤ 100000 := by
  refine ⟨rfl, rfl, rfl, rfl, ?_⟩
  show 0 ≤ 100000
  omega
theorem da3_facts (N i : Nat) (b : List UInt8) : ((da1 N).write i b).fell.down = true ∧ rdE ((da1 N).write i b) = 11 ∧ ((da1 N).write i b).begun.ops = 1 ∧ ((da1 N).write i b).secs.length = N := by
  refine ⟨rfl, rfl, rfl, ?_⟩
  have : ((da1 N).write i b).secs = (da1 N).secs := rfl
  rw [this]; exact (da_len N).1
theorem da4_facts (N i : Nat) (b : List UInt8) : ((da2 N).write i b).fell.down = true ∧ rdE ((da2 N).write i b) = 11 ∧ ((da2 N).write i b).begun.ops = 0 ∧ ((da2 N).write i b).secs.length = N := by
  refine ⟨rfl, rfl, rfl, ?_⟩
  have : ((da2 N).write i b).secs = (da2 N).secs := rfl
  rw [this]; exact (da_len N).2

set_option maxRecDepth 20000 in
set_option maxHeartbeats 1600000 in
theorem da_neg_ok_up (w : World) (n at_ size : Int) (k m N : Nat) (hN : N = k + 1) (hk : k ≤ 15) (hm : m ≤ 7) (hn : Go.bits .and .i64 n 15 = (k : Int)) (hs : Go.bits .and .i64 size 7 = (m : Int)) (h0 : at_ < 0)  :
    Calls Try.prog 3 #[.int .i64 n, .int .i64 at_, .int .i64 size, .bool false] w fun e w' => e = .returned (.bool true) ∧ Below w.heap.size w w' := by
  obtain ⟨M, hM⟩ : ∃ M : Nat → Prop, M = fun k => w.heap.size ≤ k := ⟨_, rfl⟩
  have hMn : ∀ k, w.heap.size ≤ k → M k := fun k hk => by rw [hM]; exact hk
  have hMd : ∀ k, M k → w.heap.size ≤ k := fun k hk => by rw [hM] at hk; exact hk
  clear hM
  have hNe : (1 : Int) + (k : Int) = (N : Int) := by omega
  have hN1 : 1 ≤ N ∧ N ≤ 16 := by omega
  obtain ⟨Z, hZ⟩ : ∃ Z, Z = 508 + m := ⟨_, rfl⟩
  have hZe : (508 : Int) + (m : Int) = (Z : Int) := by omega
  have hZ1 : Z ≤ 515 := by omega
  clear hN hZ
  go_enter Try.func3, Try.ntmps3
  go_wp2_with fail
  refine (shown_calls w).mono ?_
  rintro e w1 ⟨rfl, hb1⟩
  have k1 : Keeps M w w1 := Keeps.of_below hb1
  have hM1 : ∀ k, w1.heap.size ≤ k → M k := fun k hk => hMn k (Nat.le_trans hb1.size hk)
  clear hb1 hMn
  go_wp2_with fail
  refine (new_calls N (N : Int) rfl w1 M hM1 (by omega) (by omega)).mono ?_
  obtain ⟨p, hp⟩ : ∃ p, p = w1.heap.size + 1 := ⟨_, rfl⟩
  rw [← hp]
  rintro e w2 ⟨rfl, h2, hb2, -⟩
  have k2 := k1.trans (Keeps.of_below hb2)
  clear hp hM1 hb2 k1
  go_wp2_with fail
  refine (arm_ok w2 p (Dk.new N) M 1 1 rfl [] none 0 0 h2 (by omega) (KBools.nil _ _ _) rfl (by omega) (fun _ => rfl)).mono ?_
  rintro e w3 ⟨rfl, h3, k3⟩
  have h3 : DiskAt w3 p (da1 N) M := h3
  have k3 := k2.trans k3
  clear h2 k2
  obtain ⟨dl1, dl2⟩ := da_len N
  obtain ⟨fd, fr, fo, fz, fw⟩ := da1_facts N
  obtain ⟨D, hD⟩ : ∃ D, D = da1 N := ⟨_, rfl⟩
  rw [← hD] at h3 fd fr fo fz fw dl1
  have dl := dl1
  clear dl1 dl2
  have hz0 : (Z : Int) ≤ 281474976710656 := by omega
  have hz1 : (0 : Int) ≤ (Z : Int) := by omega
  go_wp2_with (at_make; refine wpList_make_bytes w3 rfl _ _ rfl .i64 .i64 _ _ Z rfl rfl rfl rfl (by omega) ?mk)
  case mk =>
  intro w4 hown4 hb4
  have h4 := h3.grow hb4
  have k4 := k3.trans (Keeps.of_below hb4)
  clear h3 k3 hb4
  go_wp2_with fail
  refine (write_arg w4 p D M at_ _ Z Z h4 (fun h => by omega)).mono ?_
  rintro e w5 ⟨rfl, rfl⟩
  have k5 := k4
  have h5 := h4
  have gl := dl
  clear fd fr fo fw dl h4 k4 hown4 hD
  go_wp2_with fail
  refine (read_arg w4 p D M at_ h5 (fun h => by have := gl; omega)).mono ?_
  rintro e w6 ⟨rfl, h6, hb6⟩
  have hfin := (k5.trans (Keeps.of_below hb6)).below hMd (Nat.le_refl _)
  clear k5 hb6 h5
  go_wp2_with fail
  refine (ops_calls w6 p _ M h6).mono ?_
  rw [fz]
  rintro e w7 ⟨rfl, rfl⟩
  go_wp2
  go_ret
  exact ⟨rfl, hfin⟩

set_option maxRecDepth 20000 in
set_option maxHeartbeats 1600000 in
theorem da_big_ok_up (w : World) (n at_ size : Int) (k m N : Nat) (hN : N = k + 1) (hk : k ≤ 15) (hm : m ≤ 7) (hn : Go.bits .and .i64 n 15 = (k : Int)) (hs : Go.bits .and .i64 size 7 = (m : Int)) (h0 : 0 ≤ at_) (h1 : (N : Int) ≤ at_)  :
    Calls Try.prog 3 #[.int .i64 n, .int .i64 at_, .int .i64 size, .bool false] w fun e w' => e = .returned (.bool true) ∧ Below w.heap.size w w' := by
  obtain ⟨M, hM⟩ : ∃ M : Nat → Prop, M = fun k => w.heap.size ≤ k := ⟨_, rfl⟩
  have hMn : ∀ k, w.heap.size ≤ k → M k := fun k hk => by rw [hM]; exact hk
  have hMd : ∀ k, M k → w.heap.size ≤ k := fun k hk => by rw [hM] at hk; exact hk
  clear hM
  have h1' : ¬ at_ < (N : Int) := by omega
  have hNe : (1 : Int) + (k : Int) = (N : Int) := by omega
  have hN1 : 1 ≤ N ∧ N ≤ 16 := by omega
  obtain ⟨Z, hZ⟩ : ∃ Z, Z = 508 + m := ⟨_, rfl⟩
  have hZe : (508 : Int) + (m : Int) = (Z : Int) := by omega
  have hZ1 : Z ≤ 515 := by omega
  clear hN hZ
  go_enter Try.func3, Try.ntmps3
  go_wp2_with fail
  refine (shown_calls w).mono ?_
  rintro e w1 ⟨rfl, hb1⟩
  have k1 : Keeps M w w1 := Keeps.of_below hb1
  have hM1 : ∀ k, w1.heap.size ≤ k → M k := fun k hk => hMn k (Nat.le_trans hb1.size hk)
  clear hb1 hMn
  go_wp2_with fail
  refine (new_calls N (N : Int) rfl w1 M hM1 (by omega) (by omega)).mono ?_
  obtain ⟨p, hp⟩ : ∃ p, p = w1.heap.size + 1 := ⟨_, rfl⟩
  rw [← hp]
  rintro e w2 ⟨rfl, h2, hb2, -⟩
  have k2 := k1.trans (Keeps.of_below hb2)
  clear hp hM1 hb2 k1
  go_wp2_with fail
  refine (arm_ok w2 p (Dk.new N) M 1 1 rfl [] none 0 0 h2 (by omega) (KBools.nil _ _ _) rfl (by omega) (fun _ => rfl)).mono ?_
  rintro e w3 ⟨rfl, h3, k3⟩
  have h3 : DiskAt w3 p (da1 N) M := h3
  have k3 := k2.trans k3
  clear h2 k2
  obtain ⟨dl1, dl2⟩ := da_len N
  obtain ⟨fd, fr, fo, fz, fw⟩ := da1_facts N
  obtain ⟨D, hD⟩ : ∃ D, D = da1 N := ⟨_, rfl⟩
  rw [← hD] at h3 fd fr fo fz fw dl1
  have dl := dl1
  clear dl1 dl2
  have hz0 : (Z : Int) ≤ 281474976710656 := by omega
  have hz1 : (0 : Int) ≤ (Z : Int) := by omega
  go_wp2_with (at_make; refine wpList_make_bytes w3 rfl _ _ rfl .i64 .i64 _ _ Z rfl rfl rfl rfl (by omega) ?mk)
  case mk =>
  intro w4 hown4 hb4
  have h4 := h3.grow hb4
  have k4 := k3.trans (Keeps.of_below hb4)
  clear h3 k3 hb4
  go_wp2_with fail
  refine (write_arg w4 p D M at_ _ Z Z h4 (fun h => by have := dl; omega)).mono ?_
  rintro e w5 ⟨rfl, rfl⟩
  have k5 := k4
  have h5 := h4
  have gl := dl
  clear fd fr fo fw dl h4 k4 hown4 hD
  go_wp2_with fail
  refine (read_arg w4 p D M at_ h5 (fun h => by have := gl; omega)).mono ?_
  rintro e w6 ⟨rfl, h6, hb6⟩
  have hfin := (k5.trans (Keeps.of_below hb6)).below hMd (Nat.le_refl _)
  clear k5 hb6 h5
  go_wp2_with fail
  refine (ops_calls w6 p _ M h6).mono ?_
  rw [fz]
  rintro e w7 ⟨rfl, rfl⟩
  go_wp2
  go_ret
  exact ⟨rfl, hfin⟩

set_option maxRecDepth 20000 in
set_option maxHeartbeats 1600000 in
theorem da_in_ok_up (w : World) (n at_ size : Int) (k m N : Nat) (hN : N = k + 1) (hk : k ≤ 15) (hm : m ≤ 7) (hn : Go.bits .and .i64 n 15 = (k : Int)) (hs : Go.bits .and .i64 size 7 = (m : Int)) (i : Nat) (hat : at_ = (i : Int)) (hi : i < N) (h5 : m = 4) :
    Calls Try.prog 3 #[.int .i64 n, .int .i64 at_, .int .i64 size, .bool false] w fun e w' => e = .returned (.bool true) ∧ Below w.heap.size w w' := by
  obtain ⟨M, hM⟩ : ∃ M : Nat → Prop, M = fun k => w.heap.size ≤ k := ⟨_, rfl⟩
  have hMn : ∀ k, w.heap.size ≤ k → M k := fun k hk => by rw [hM]; exact hk
  have hMd : ∀ k, M k → w.heap.size ≤ k := fun k hk => by rw [hM] at hk; exact hk
  clear hM
  subst hat
  have hNe : (1 : Int) + (k : Int) = (N : Int) := by omega
  have hN1 : 1 ≤ N ∧ N ≤ 16 := by omega
  obtain ⟨Z, hZ⟩ : ∃ Z, Z = 508 + m := ⟨_, rfl⟩
  have hZe : (508 : Int) + (m : Int) = (Z : Int) := by omega
  have hZ1 : Z ≤ 515 := by omega
  have H5 := Lib.hid (show Z = 512 by omega)
  clear h5
  clear hN hZ
  go_enter Try.func3, Try.ntmps3
  go_wp2_with fail
  refine (shown_calls w).mono ?_
  rintro e w1 ⟨rfl, hb1⟩
  have k1 : Keeps M w w1 := Keeps.of_below hb1
  have hM1 : ∀ k, w1.heap.size ≤ k → M k := fun k hk => hMn k (Nat.le_trans hb1.size hk)
  clear hb1 hMn
  go_wp2_with fail
  refine (new_calls N (N : Int) rfl w1 M hM1 (by omega) (by omega)).mono ?_
  obtain ⟨p, hp⟩ : ∃ p, p = w1.heap.size + 1 := ⟨_, rfl⟩
  rw [← hp]
  rintro e w2 ⟨rfl, h2, hb2, -⟩
  have k2 := k1.trans (Keeps.of_below hb2)
  clear hp hM1 hb2 k1
  go_wp2_with fail
  refine (arm_ok w2 p (Dk.new N) M 1 1 rfl [] none 0 0 h2 (by omega) (KBools.nil _ _ _) rfl (by omega) (fun _ => rfl)).mono ?_
  rintro e w3 ⟨rfl, h3, k3⟩
  have h3 : DiskAt w3 p (da1 N) M := h3
  have k3 := k2.trans k3
  clear h2 k2
  obtain ⟨dl1, dl2⟩ := da_len N
  obtain ⟨fd, fr, fo, fz, fw⟩ := da1_facts N
  obtain ⟨D, hD⟩ : ∃ D, D = da1 N := ⟨_, rfl⟩
  rw [← hD] at h3 fd fr fo fz fw dl1
  have dl := dl1
  clear dl1 dl2
  have hz0 : (Z : Int) ≤ 281474976710656 := by omega
  have hz1 : (0 : Int) ≤ (Z : Int) := by omega
  have h0 : (0 : Int) ≤ (i : Int) := by omega
  have h1 : (i : Int) < (N : Int) := by omega
  go_wp2_with (at_make; refine wpList_make_bytes w3 rfl _ _ rfl .i64 .i64 _ _ Z rfl rfl rfl rfl (by omega) ?mk)
  case mk =>
  intro w4 hown4 hb4
  have h4 := h3.grow hb4
  have k4 := k3.trans (Keeps.of_below hb4)
  clear h3 k3 hb4
  go_wp2_with fail
  obtain ⟨b, hb⟩ : ∃ b, b = List.replicate Z (0 : UInt8) := ⟨_, rfl⟩
  rw [← hb] at hown4
  clear hb hZe hz0 hz1 hZ1
  have e5 := H5.out
  subst e5
  refine (write_calls w4 p D M i i rfl b _ _ 512 h4 (by omega) hown4 fw).mono ?_
  rw [fr]
  rintro e w5 ⟨rfl, h5, k5⟩
  have k5 := k4.trans k5
  obtain ⟨gd, gr, go, gl⟩ := da3_facts N i b
  rw [← hD] at gd gr go gl
  obtain ⟨D', hD'⟩ : ∃ D', D' = D.write i b := ⟨_, rfl⟩
  rw [← hD'] at h5 gd gr go gl
  clear fd fr fo fz fw dl h4 k4 hown4 hD hD'
  go_wp2_with fail
  refine (read_calls w5 p D' M i i rfl h5 (by omega)).mono ?_
  rw [gr]
  rintro e w6 ⟨v, rfl, h6, k6, -⟩
  have k6 := k5.trans k6
  have hfin := k6.below hMd (Nat.le_refl _)
  clear k5 k6 h5
  go_wp2_with fail
  refine (ops_calls w6 p _ M h6).mono ?_
  rw [go]
  rintro e w7 ⟨rfl, rfl⟩
  go_wp2
  go_ret
  exact ⟨rfl, hfin⟩

set_option maxRecDepth 20000 in
set_option maxHeartbeats 1600000 in
theorem da_in_no_up (w : World) (n at_ size : Int) (k m N : Nat) (hN : N = k + 1) (hk : k ≤ 15) (hm : m ≤ 7) (hn : Go.bits .and .i64 n 15 = (k : Int)) (hs : Go.bits .and .i64 size 7 = (m : Int)) (i : Nat) (hat : at_ = (i : Int)) (hi : i < N) (h5 : m ≠ 4) :
    Calls Try.prog 3 #[.int .i64 n, .int .i64 at_, .int .i64 size, .bool false] w fun e w' => e = .returned (.bool true) ∧ Below w.heap.size w w' := by
  obtain ⟨M, hM⟩ : ∃ M : Nat → Prop, M = fun k => w.heap.size ≤ k := ⟨_, rfl⟩
  have hMn : ∀ k, w.heap.size ≤ k → M k := fun k hk => by rw [hM]; exact hk
  have hMd : ∀ k, M k → w.heap.size ≤ k := fun k hk => by rw [hM] at hk; exact hk
  clear hM
  subst hat
  have hNe : (1 : Int) + (k : Int) = (N : Int) := by omega
  have hN1 : 1 ≤ N ∧ N ≤ 16 := by omega
  obtain ⟨Z, hZ⟩ : ∃ Z, Z = 508 + m := ⟨_, rfl⟩
  have hZe : (508 : Int) + (m : Int) = (Z : Int) := by omega
  have hZ1 : Z ≤ 515 := by omega
  have H5 := Lib.hid (show Z ≠ 512 by omega)
  clear h5
  clear hN hZ
  go_enter Try.func3, Try.ntmps3
  go_wp2_with fail
  refine (shown_calls w).mono ?_
  rintro e w1 ⟨rfl, hb1⟩
  have k1 : Keeps M w w1 := Keeps.of_below hb1
  have hM1 : ∀ k, w1.heap.size ≤ k → M k := fun k hk => hMn k (Nat.le_trans hb1.size hk)
  clear hb1 hMn
  go_wp2_with fail
  refine (new_calls N (N : Int) rfl w1 M hM1 (by omega) (by omega)).mono ?_
  obtain ⟨p, hp⟩ : ∃ p, p = w1.heap.size + 1 := ⟨_, rfl⟩
  rw [← hp]
  rintro e w2 ⟨rfl, h2, hb2, -⟩
  have k2 := k1.trans (Keeps.of_below hb2)
  clear hp hM1 hb2 k1
  go_wp2_with fail
  refine (arm_ok w2 p (Dk.new N) M 1 1 rfl [] none 0 0 h2 (by omega) (KBools.nil _ _ _) rfl (by omega) (fun _ => rfl)).mono ?_
  rintro e w3 ⟨rfl, h3, k3⟩
  have h3 : DiskAt w3 p (da1 N) M := h3
  have k3 := k2.trans k3
  clear h2 k2
  obtain ⟨dl1, dl2⟩ := da_len N
  obtain ⟨fd, fr, fo, fz, fw⟩ := da1_facts N
  obtain ⟨D, hD⟩ : ∃ D, D = da1 N := ⟨_, rfl⟩
  rw [← hD] at h3 fd fr fo fz fw dl1
  have dl := dl1
  clear dl1 dl2
  have hz0 : (Z : Int) ≤ 281474976710656 := by omega
  have hz1 : (0 : Int) ≤ (Z : Int) := by omega
  have h0 : (0 : Int) ≤ (i : Int) := by omega
  have h1 : (i : Int) < (N : Int) := by omega
  go_wp2_with (at_make; refine wpList_make_bytes w3 rfl _ _ rfl .i64 .i64 _ _ Z rfl rfl rfl rfl (by omega) ?mk)
  case mk =>
  intro w4 hown4 hb4
  have h4 := h3.grow hb4
  have k4 := k3.trans (Keeps.of_below hb4)
  clear h3 k3 hb4
  go_wp2_with fail
  refine (write_arg w4 p D M (i : Int) _ Z Z h4 (fun h => H5.out h.2.2)).mono ?_
  rintro e w5 ⟨rfl, rfl⟩
  have k5 := k4
  have h5 := h4
  have gd := fd
  have gr := fr
  have go := fo
  have gl := dl
  have hz5 : ((Z : Int) != 512) = true := by have := H5.out; simp; omega
  clear fd fr fo fz fw dl h4 k4 hown4 hD
  go_wp2_with fail
  refine (read_calls w4 p D M i i rfl h5 (by omega)).mono ?_
  rw [gr]
  rintro e w6 ⟨v, rfl, h6, k6, -⟩
  have k6 := k5.trans k6
  have hfin := k6.below hMd (Nat.le_refl _)
  clear k5 k6 h5
  go_wp2_with fail
  refine (ops_calls w6 p _ M h6).mono ?_
  rw [go]
  rintro e w7 ⟨rfl, rfl⟩
  go_wp2
  go_ret
  exact ⟨rfl, hfin⟩

set_option maxRecDepth 20000 in
set_option maxHeartbeats 1600000 in
theorem da_neg_ok_down (w : World) (n at_ size : Int) (k m N : Nat) (hN : N = k + 1) (hk : k ≤ 15) (hm : m ≤ 7) (hn : Go.bits .and .i64 n 15 = (k : Int)) (hs : Go.bits .and .i64 size 7 = (m : Int)) (h0 : at_ < 0)  :
    Calls Try.prog 3 #[.int .i64 n, .int .i64 at_, .int .i64 size, .bool true] w fun e w' => e = .returned (.bool true) ∧ Below w.heap.size w w' := by
  obtain ⟨M, hM⟩ : ∃ M : Nat → Prop, M = fun k => w.heap.size ≤ k := ⟨_, rfl⟩
  have hMn : ∀ k, w.heap.size ≤ k → M k := fun k hk => by rw [hM]; exact hk
  have hMd : ∀ k, M k → w.heap.size ≤ k := fun k hk => by rw [hM] at hk; exact hk
  clear hM
  have hNe : (1 : Int) + (k : Int) = (N : Int) := by omega
  have hN1 : 1 ≤ N ∧ N ≤ 16 := by omega
  obtain ⟨Z, hZ⟩ : ∃ Z, Z = 508 + m := ⟨_, rfl⟩
  have hZe : (508 : Int) + (m : Int) = (Z : Int) := by omega
  have hZ1 : Z ≤ 515 := by omega
  clear hN hZ
  go_enter Try.func3, Try.ntmps3
  go_wp2_with fail
  refine (shown_calls w).mono ?_
  rintro e w1 ⟨rfl, hb1⟩
  have k1 : Keeps M w w1 := Keeps.of_below hb1
  have hM1 : ∀ k, w1.heap.size ≤ k → M k := fun k hk => hMn k (Nat.le_trans hb1.size hk)
  clear hb1 hMn
  go_wp2_with fail
  refine (new_calls N (N : Int) rfl w1 M hM1 (by omega) (by omega)).mono ?_
  obtain ⟨p, hp⟩ : ∃ p, p = w1.heap.size + 1 := ⟨_, rfl⟩
  rw [← hp]
  rintro e w2 ⟨rfl, h2, hb2, -⟩
  have k2 := k1.trans (Keeps.of_below hb2)
  clear hp hM1 hb2 k1
  go_wp2_with fail
  refine (arm_ok w2 p (Dk.new N) M 1 1 rfl [] none 0 0 h2 (by omega) (KBools.nil _ _ _) rfl (by omega) (fun _ => rfl)).mono ?_
  rintro e w3 ⟨rfl, h3, k3⟩
  have h3 : DiskAt w3 p (da1 N) M := h3
  have k3 := k2.trans k3
  clear h2 k2
  obtain ⟨dl1, dl2⟩ := da_len N
  go_wp2_with fail
  refine (crash_calls w3 p (da1 N) M none 0 0 [] h3 (KBools.nil _ _ _) rfl (by omega)).mono ?_
  rintro e w3 ⟨rfl, h4, k4⟩
  have h3 : DiskAt w3 p (da2 N) M := h4
  have k3 := k3.trans k4
  clear h4 k4
  obtain ⟨fd, fr, fo, fz, fw⟩ := da2_facts N
  obtain ⟨D, hD⟩ : ∃ D, D = da2 N := ⟨_, rfl⟩
  rw [← hD] at h3 fd fr fo fz fw dl2
  have dl := dl2
  clear dl1 dl2
  have hz0 : (Z : Int) ≤ 281474976710656 := by omega
  have hz1 : (0 : Int) ≤ (Z : Int) := by omega
  go_wp2_with (at_make; refine wpList_make_bytes w3 rfl _ _ rfl .i64 .i64 _ _ Z rfl rfl rfl rfl (by omega) ?mk)
  case mk =>
  intro w4 hown4 hb4
  have h4 := h3.grow hb4
  have k4 := k3.trans (Keeps.of_below hb4)
  clear h3 k3 hb4
  go_wp2_with fail
  refine (write_arg w4 p D M at_ _ Z Z h4 (fun h => by omega)).mono ?_
  rintro e w5 ⟨rfl, rfl⟩
  have k5 := k4
  have h5 := h4
  have gl := dl
  clear fd fr fo fw dl h4 k4 hown4 hD
  go_wp2_with fail
  refine (read_arg w4 p D M at_ h5 (fun h => by have := gl; omega)).mono ?_
  rintro e w6 ⟨rfl, h6, hb6⟩
  have hfin := (k5.trans (Keeps.of_below hb6)).below hMd (Nat.le_refl _)
  clear k5 hb6 h5
  go_wp2_with fail
  refine (ops_calls w6 p _ M h6).mono ?_
  rw [fz]
  rintro e w7 ⟨rfl, rfl⟩
  go_wp2
  go_ret
  exact ⟨rfl, hfin⟩

set_option maxRecDepth 20000 in
set_option maxHeartbeats 1600000 in
theorem da_big_ok_down (w : World) (n at_ size : Int) (k m N : Nat) (hN : N = k + 1) (hk : k ≤ 15) (hm : m ≤ 7) (hn : Go.bits .and .i64 n 15 = (k : Int)) (hs : Go.bits .and .i64 size 7 = (m : Int)) (h0 : 0 ≤ at_) (h1 : (N : Int) ≤ at_)  :
    Calls Try.prog 3 #[.int .i64 n, .int .i64 at_, .int .i64 size, .bool true] w fun e w' => e = .returned (.bool true) ∧ Below w.heap.size w w' := by
  obtain ⟨M, hM⟩ : ∃ M : Nat → Prop, M = fun k => w.heap.size ≤ k := ⟨_, rfl⟩
  have hMn : ∀ k, w.heap.size ≤ k → M k := fun k hk => by rw [hM]; exact hk
  have hMd : ∀ k, M k → w.heap.size ≤ k := fun k hk => by rw [hM] at hk; exact hk
  clear hM
  have h1' : ¬ at_ < (N : Int) := by omega
  have hNe : (1 : Int) + (k : Int) = (N : Int) := by omega
  have hN1 : 1 ≤ N ∧ N ≤ 16 := by omega
  obtain ⟨Z, hZ⟩ : ∃ Z, Z = 508 + m := ⟨_, rfl⟩
  have hZe : (508 : Int) + (m : Int) = (Z : Int) := by omega
  have hZ1 : Z ≤ 515 := by omega
  clear hN hZ
  go_enter Try.func3, Try.ntmps3
  go_wp2_with fail
  refine (shown_calls w).mono ?_
  rintro e w1 ⟨rfl, hb1⟩
  have k1 : Keeps M w w1 := Keeps.of_below hb1
  have hM1 : ∀ k, w1.heap.size ≤ k → M k := fun k hk => hMn k (Nat.le_trans hb1.size hk)
  clear hb1 hMn
  go_wp2_with fail
  refine (new_calls N (N : Int) rfl w1 M hM1 (by omega) (by omega)).mono ?_
  obtain ⟨p, hp⟩ : ∃ p, p = w1.heap.size + 1 := ⟨_, rfl⟩
  rw [← hp]
  rintro e w2 ⟨rfl, h2, hb2, -⟩
  have k2 := k1.trans (Keeps.of_below hb2)
  clear hp hM1 hb2 k1
  go_wp2_with fail
  refine (arm_ok w2 p (Dk.new N) M 1 1 rfl [] none 0 0 h2 (by omega) (KBools.nil _ _ _) rfl (by omega) (fun _ => rfl)).mono ?_
  rintro e w3 ⟨rfl, h3, k3⟩
  have h3 : DiskAt w3 p (da1 N) M := h3
  have k3 := k2.trans k3
  clear h2 k2
  obtain ⟨dl1, dl2⟩ := da_len N
  go_wp2_with fail
  refine (crash_calls w3 p (da1 N) M none 0 0 [] h3 (KBools.nil _ _ _) rfl (by omega)).mono ?_
  rintro e w3 ⟨rfl, h4, k4⟩
  have h3 : DiskAt w3 p (da2 N) M := h4
  have k3 := k3.trans k4
  clear h4 k4
  obtain ⟨fd, fr, fo, fz, fw⟩ := da2_facts N
  obtain ⟨D, hD⟩ : ∃ D, D = da2 N := ⟨_, rfl⟩
  rw [← hD] at h3 fd fr fo fz fw dl2
  have dl := dl2
  clear dl1 dl2
  have hz0 : (Z : Int) ≤ 281474976710656 := by omega
  have hz1 : (0 : Int) ≤ (Z : Int) := by omega
  go_wp2_with (at_make; refine wpList_make_bytes w3 rfl _ _ rfl .i64 .i64 _ _ Z rfl rfl rfl rfl (by omega) ?mk)
  case mk =>
  intro w4 hown4 hb4
  have h4 := h3.grow hb4
  have k4 := k3.trans (Keeps.of_below hb4)
  clear h3 k3 hb4
  go_wp2_with fail
  refine (write_arg w4 p D M at_ _ Z Z h4 (fun h => by have := dl; omega)).mono ?_
  rintro e w5 ⟨rfl, rfl⟩
  have k5 := k4
  have h5 := h4
  have gl := dl
  clear fd fr fo fw dl h4 k4 hown4 hD
  go_wp2_with fail
  refine (read_arg w4 p D M at_ h5 (fun h => by have := gl; omega)).mono ?_
  rintro e w6 ⟨rfl, h6, hb6⟩
  have hfin := (k5.trans (Keeps.of_below hb6)).below hMd (Nat.le_refl _)
  clear k5 hb6 h5
  go_wp2_with fail
  refine (ops_calls w6 p _ M h6).mono ?_
  rw [fz]
  rintro e w7 ⟨rfl, rfl⟩
  go_wp2
  go_ret
  exact ⟨rfl, hfin⟩

set_option maxRecDepth 20000 in
set_option maxHeartbeats 1600000 in
theorem da_in_ok_down (w : World) (n at_ size : Int) (k m N : Nat) (hN : N = k + 1) (hk : k ≤ 15) (hm : m ≤ 7) (hn : Go.bits .and .i64 n 15 = (k : Int)) (hs : Go.bits .and .i64 size 7 = (m : Int)) (i : Nat) (hat : at_ = (i : Int)) (hi : i < N) (h5 : m = 4) :
    Calls Try.prog 3 #[.int .i64 n, .int .i64 at_, .int .i64 size, .bool true] w fun e w' => e = .returned (.bool true) ∧ Below w.heap.size w w' := by
  obtain ⟨M, hM⟩ : ∃ M : Nat → Prop, M = fun k => w.heap.size ≤ k := ⟨_, rfl⟩
  have hMn : ∀ k, w.heap.size ≤ k → M k := fun k hk => by rw [hM]; exact hk
  have hMd : ∀ k, M k → w.heap.size ≤ k := fun k hk => by rw [hM] at hk; exact hk
  clear hM
  subst hat
  have hNe : (1 : Int) + (k : Int) = (N : Int) := by omega
  have hN1 : 1 ≤ N ∧ N ≤ 16 := by omega
  obtain ⟨Z, hZ⟩ : ∃ Z, Z = 508 + m := ⟨_, rfl⟩
  have hZe : (508 : Int) + (m : Int) = (Z : Int) := by omega
  have hZ1 : Z ≤ 515 := by omega
  have H5 := Lib.hid (show Z = 512 by omega)
  clear h5
  clear hN hZ
  go_enter Try.func3, Try.ntmps3
  go_wp2_with fail
  refine (shown_calls w).mono ?_
  rintro e w1 ⟨rfl, hb1⟩
  have k1 : Keeps M w w1 := Keeps.of_below hb1
  have hM1 : ∀ k, w1.heap.size ≤ k → M k := fun k hk => hMn k (Nat.le_trans hb1.size hk)
  clear hb1 hMn
  go_wp2_with fail
  refine (new_calls N (N : Int) rfl w1 M hM1 (by omega) (by omega)).mono ?_
  obtain ⟨p, hp⟩ : ∃ p, p = w1.heap.size + 1 := ⟨_, rfl⟩
  rw [← hp]
  rintro e w2 ⟨rfl, h2, hb2, -⟩
  have k2 := k1.trans (Keeps.of_below hb2)
  clear hp hM1 hb2 k1
  go_wp2_with fail
  refine (arm_ok w2 p (Dk.new N) M 1 1 rfl [] none 0 0 h2 (by omega) (KBools.nil _ _ _) rfl (by omega) (fun _ => rfl)).mono ?_
  rintro e w3 ⟨rfl, h3, k3⟩
  have h3 : DiskAt w3 p (da1 N) M := h3
  have k3 := k2.trans k3
  clear h2 k2
  obtain ⟨dl1, dl2⟩ := da_len N
  go_wp2_with fail
  refine (crash_calls w3 p (da1 N) M none 0 0 [] h3 (KBools.nil _ _ _) rfl (by omega)).mono ?_
  rintro e w3 ⟨rfl, h4, k4⟩
  have h3 : DiskAt w3 p (da2 N) M := h4
  have k3 := k3.trans k4
  clear h4 k4
  obtain ⟨fd, fr, fo, fz, fw⟩ := da2_facts N
  obtain ⟨D, hD⟩ : ∃ D, D = da2 N := ⟨_, rfl⟩
  rw [← hD] at h3 fd fr fo fz fw dl2
  have dl := dl2
  clear dl1 dl2
  have hz0 : (Z : Int) ≤ 281474976710656 := by omega
  have hz1 : (0 : Int) ≤ (Z : Int) := by omega
  have h0 : (0 : Int) ≤ (i : Int) := by omega
  have h1 : (i : Int) < (N : Int) := by omega
  go_wp2_with (at_make; refine wpList_make_bytes w3 rfl _ _ rfl .i64 .i64 _ _ Z rfl rfl rfl rfl (by omega) ?mk)
  case mk =>
  intro w4 hown4 hb4
  have h4 := h3.grow hb4
  have k4 := k3.trans (Keeps.of_below hb4)
  clear h3 k3 hb4
  go_wp2_with fail
  obtain ⟨b, hb⟩ : ∃ b, b = List.replicate Z (0 : UInt8) := ⟨_, rfl⟩
  rw [← hb] at hown4
  clear hb hZe hz0 hz1 hZ1
  have e5 := H5.out
  subst e5
  refine (write_calls w4 p D M i i rfl b _ _ 512 h4 (by omega) hown4 fw).mono ?_
  rw [fr]
  rintro e w5 ⟨rfl, h5, k5⟩
  have k5 := k4.trans k5
  obtain ⟨gd, gr, go, gl⟩ := da4_facts N i b
  rw [← hD] at gd gr go gl
  obtain ⟨D', hD'⟩ : ∃ D', D' = D.write i b := ⟨_, rfl⟩
  rw [← hD'] at h5 gd gr go gl
  clear fd fr fo fz fw dl h4 k4 hown4 hD hD'
  go_wp2_with fail
  refine (read_calls w5 p D' M i i rfl h5 (by omega)).mono ?_
  rw [gr]
  rintro e w6 ⟨v, rfl, h6, k6, -⟩
  have k6 := k5.trans k6
  have hfin := k6.below hMd (Nat.le_refl _)
  clear k5 k6 h5
  go_wp2_with fail
  refine (ops_calls w6 p _ M h6).mono ?_
  rw [go]
  rintro e w7 ⟨rfl, rfl⟩
  go_wp2
  go_ret
  exact ⟨rfl, hfin⟩

set_option maxRecDepth 20000 in
set_option maxHeartbeats 1600000 in
theorem da_in_no_down (w : World) (n at_ size : Int) (k m N : Nat) (hN : N = k + 1) (hk : k ≤ 15) (hm : m ≤ 7) (hn : Go.bits .and .i64 n 15 = (k : Int)) (hs : Go.bits .and .i64 size 7 = (m : Int)) (i : Nat) (hat : at_ = (i : Int)) (hi : i < N) (h5 : m ≠ 4) :
    Calls Try.prog 3 #[.int .i64 n, .int .i64 at_, .int .i64 size, .bool true] w fun e w' => e = .returned (.bool true) ∧ Below w.heap.size w w' := by
  obtain ⟨M, hM⟩ : ∃ M : Nat → Prop, M = fun k => w.heap.size ≤ k := ⟨_, rfl⟩
  have hMn : ∀ k, w.heap.size ≤ k → M k := fun k hk => by rw [hM]; exact hk
  have hMd : ∀ k, M k → w.heap.size ≤ k := fun k hk => by rw [hM] at hk; exact hk
  clear hM
  subst hat
  have hNe : (1 : Int) + (k : Int) = (N : Int) := by omega
  have hN1 : 1 ≤ N ∧ N ≤ 16 := by omega
  obtain ⟨Z, hZ⟩ : ∃ Z, Z = 508 + m := ⟨_, rfl⟩
  have hZe : (508 : Int) + (m : Int) = (Z : Int) := by omega
  have hZ1 : Z ≤ 515 := by omega
  have H5 := Lib.hid (show Z ≠ 512 by omega)
  clear h5
  clear hN hZ
  go_enter Try.func3, Try.ntmps3
  go_wp2_with fail
  refine (shown_calls w).mono ?_
  rintro e w1 ⟨rfl, hb1⟩
  have k1 : Keeps M w w1 := Keeps.of_below hb1
  have hM1 : ∀ k, w1.heap.size ≤ k → M k := fun k hk => hMn k (Nat.le_trans hb1.size hk)
  clear hb1 hMn
  go_wp2_with fail
  refine (new_calls N (N : Int) rfl w1 M hM1 (by omega) (by omega)).mono ?_
  obtain ⟨p, hp⟩ : ∃ p, p = w1.heap.size + 1 := ⟨_, rfl⟩
  rw [← hp]
  rintro e w2 ⟨rfl, h2, hb2, -⟩
  have k2 := k1.trans (Keeps.of_below hb2)
  clear hp hM1 hb2 k1
  go_wp2_with fail
  refine (arm_ok w2 p (Dk.new N) M 1 1 rfl [] none 0 0 h2 (by omega) (KBools.nil _ _ _) rfl (by omega) (fun _ => rfl)).mono ?_
  rintro e w3 ⟨rfl, h3, k3⟩
  have h3 : DiskAt w3 p (da1 N) M := h3
  have k3 := k2.trans k3
  clear h2 k2
  obtain ⟨dl1, dl2⟩ := da_len N
  go_wp2_with fail
  refine (crash_calls w3 p (da1 N) M none 0 0 [] h3 (KBools.nil _ _ _) rfl (by omega)).mono ?_
  rintro e w3 ⟨rfl, h4, k4⟩
  have h3 : DiskAt w3 p (da2 N) M := h4
  have k3 := k3.trans k4
  clear h4 k4
  obtain ⟨fd, fr, fo, fz, fw⟩ := da2_facts N
  obtain ⟨D, hD⟩ : ∃ D, D = da2 N := ⟨_, rfl⟩
  rw [← hD] at h3 fd fr fo fz fw dl2
  have dl := dl2
  clear dl1 dl2
  have hz0 : (Z : Int) ≤ 281474976710656 := by omega
  have hz1 : (0 : Int) ≤ (Z : Int) := by omega
  have h0 : (0 : Int) ≤ (i : Int) := by omega
  have h1 : (i : Int) < (N : Int) := by omega
  go_wp2_with (at_make; refine wpList_make_bytes w3 rfl _ _ rfl .i64 .i64 _ _ Z rfl rfl rfl rfl (by omega) ?mk)
  case mk =>
  intro w4 hown4 hb4
  have h4 := h3.grow hb4
  have k4 := k3.trans (Keeps.of_below hb4)
  clear h3 k3 hb4
  go_wp2_with fail
  refine (write_arg w4 p D M (i : Int) _ Z Z h4 (fun h => H5.out h.2.2)).mono ?_
  rintro e w5 ⟨rfl, rfl⟩
  have k5 := k4
  have h5 := h4
  have gd := fd
  have gr := fr
  have go := fo
  have gl := dl
  have hz5 : ((Z : Int) != 512) = true := by have := H5.out; simp; omega
  clear fd fr fo fz fw dl h4 k4 hown4 hD
  go_wp2_with fail
  refine (read_calls w4 p D M i i rfl h5 (by omega)).mono ?_
  rw [gr]
  rintro e w6 ⟨v, rfl, h6, k6, -⟩
  have k6 := k5.trans k6
  have hfin := k6.below hMd (Nat.le_refl _)
  clear k5 k6 h5
  go_wp2_with fail
  refine (ops_calls w6 p _ M h6).mono ?_
  rw [go]
  rintro e w7 ⟨rfl, rfl⟩
  go_wp2
  go_ret
  exact ⟨rfl, hfin⟩

theorem DiskArgs_walk (w : World) (n at_ size : Int) (down : Bool) :
    Calls Try.prog 3 #[.int .i64 n, .int .i64 at_, .int .i64 size, .bool down] w fun e w' => e = .returned (.bool true) ∧ Below w.heap.size w w' := by
  obtain ⟨k, hk, hn⟩ := and_i64 n 15 (by omega)
  obtain ⟨m, hm, hs⟩ := and_i64 size 7 (by omega)
  have go : ∀ (i : Nat), at_ = (i : Int) → i < k + 1 → Calls Try.prog 3 #[.int .i64 n, .int .i64 at_, .int .i64 size, .bool down] w fun e w' => e = .returned (.bool true) ∧ Below w.heap.size w w' := by
    intro i hat hi
    by_cases h5 : m = 4
    · cases down
      · exact da_in_ok_up w n at_ size k m _ rfl hk hm hn hs i hat hi h5
      · exact da_in_ok_down w n at_ size k m _ rfl hk hm hn hs i hat hi h5
    · cases down
      · exact da_in_no_up w n at_ size k m _ rfl hk hm hn hs i hat hi h5
      · exact da_in_no_down w n at_ size k m _ rfl hk hm hn hs i hat hi h5
  by_cases h0 : at_ < 0
  · cases down
    · exact da_neg_ok_up w n at_ size k m _ rfl hk hm hn hs h0
    · exact da_neg_ok_down w n at_ size k m _ rfl hk hm hn hs h0
  · by_cases h1 : ((k + 1 : Nat) : Int) ≤ at_
    · cases down
      · exact da_big_ok_up w n at_ size k m _ rfl hk hm hn hs (by omega) h1
      · exact da_big_ok_down w n at_ size k m _ rfl hk hm hn hs (by omega) h1
    · exact go at_.toNat (by omega) (by omega)

end Go.Proofs.Ytgicpialopccpaa
