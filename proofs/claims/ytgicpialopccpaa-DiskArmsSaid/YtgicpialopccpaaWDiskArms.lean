/- DiskArms: the law and the walk. -/
import Derived.Test.YtgicpialopccpaaDiskL
import Derived.Test.YtgicpialopccpaaNums
namespace Go.Proofs.Ytgicpialopccpaa
open Go.RowKit

/-- A disk behind k operations, whose crash comes behind n. -/
structure Arms (D : Dk) (n k : Nat) : Prop where
  len : D.secs.length = 2
  waits : D.waits.length ≤ k
  early : k ≤ n → D.down = false ∧ D.armed = some (n - k, []) ∧ D.ops = (k : Int)
  late : n < k → D.down = true ∧ D.armed = none ∧ D.ops = (n : Int)
theorem arms_fell_early {D : Dk} {n k : Nat} (h : Arms D n k) (hk : k < n) : D.fell = D ∧ D.fell.down = false := by
  obtain ⟨a, b, c⟩ := h.early (by omega)
  have hd : D.due = false := by
    unfold Dk.due; rw [b]
    obtain ⟨x, hx⟩ : ∃ x, n - k = x + 1 := ⟨n - k - 1, by omega⟩
    rw [hx]; rfl
  have : D.fell = D := by simp [Dk.fell, hd]
  exact ⟨this, by rw [this]; exact a⟩
theorem arms_fell_late {D : Dk} {n k : Nat} (h : Arms D n k) (hk : n ≤ k) : D.fell.down = true ∧ Arms D.fell n (k + 1) := by
  rcases Nat.lt_or_ge n k with h1 | h1
  · obtain ⟨a, b, c⟩ := h.late h1
    have hd : D.due = false := by unfold Dk.due; rw [b]
    have e : D.fell = D := by simp [Dk.fell, hd]
    rw [e]
    exact ⟨a, h.len, by have := h.waits; omega, fun h2 => by omega, fun _ => ⟨a, b, c⟩⟩
  · obtain rfl : k = n := by omega
    obtain ⟨a, b, c⟩ := h.early (Nat.le_refl _)
    rw [Nat.sub_self] at b
    have hd : D.due = true := by unfold Dk.due; rw [b]; simp [a]
    have e : D.fell = D.crash D.keeps := by simp [Dk.fell, hd]
    rw [e]
    exact ⟨rfl, by simp [Dk.crash, Dk.keepFrom_len, h.len], by simp [Dk.crash], fun h2 => by omega, fun _ => ⟨rfl, rfl, c⟩⟩
theorem arms_rd {D : Dk} {n k : Nat} (h : Arms D n k) : rdE D = if k < n then 0 else 11 := by
  by_cases hk : k < n
  · rw [if_pos hk]; simp [rdE, (arms_fell_early h hk).2]
  · rw [if_neg hk]; simp [rdE, (arms_fell_late h (by omega)).1]
theorem arms_counted {D : Dk} {n k : Nat} (h : Arms D n k) (hk : k < n) (hn : n ≤ 60) : Arms D.counted n (k + 1) := by
  obtain ⟨a, b, c⟩ := h.early (by omega)
  refine ⟨h.len, by have := h.waits; simp [Dk.counted]; omega, fun _ => ⟨a, ?_, ?_⟩, fun h2 => by omega⟩
  · simp [Dk.counted, b]; omega
  · show Dk.wrapI (D.ops + 1) = _
    rw [c, Dk.wrapI_small (by omega) (by omega)]
    simp
theorem arms_begun {D : Dk} {n k : Nat} (h : Arms D n k) (hn : n ≤ 60) : Arms D.begun n (k + 1) := by
  unfold Dk.begun
  by_cases hk : k < n
  · rw [if_neg (by rw [(arms_fell_early h hk).2]; simp), (arms_fell_early h hk).1]; exact arms_counted h hk hn
  · rw [if_pos (arms_fell_late h (by omega)).1]; exact (arms_fell_late h (by omega)).2
theorem arms_write {D : Dk} {n k : Nat} (h : Arms D n k) (hn : n ≤ 60) (i : Nat) (b : List UInt8) : Arms (D.write i b) n (k + 1) := by
  unfold Dk.write
  by_cases hk : k < n
  · rw [if_neg (by rw [(arms_fell_early h hk).2]; simp), (arms_fell_early h hk).1]
    have := arms_counted h hk hn
    exact ⟨this.len, by have := h.waits; simp [Dk.counted]; omega, this.early, this.late⟩
  · rw [if_pos (arms_fell_late h (by omega)).1]; exact (arms_fell_late h (by omega)).2
theorem arms_barrier {D : Dk} {n k : Nat} (h : Arms D n k) (hn : n ≤ 60) : Arms D.barrier n (k + 1) := by
  unfold Dk.barrier
  by_cases hk : k < n
  · rw [if_neg (by rw [(arms_fell_early h hk).2]; simp), (arms_fell_early h hk).1]
    have := arms_counted h hk hn
    exact ⟨by simp [Dk.flush_len, Dk.counted, h.len], by simp, this.early, this.late⟩
  · rw [if_pos (arms_fell_late h (by omega)).1]; exact (arms_fell_late h (by omega)).2
theorem arms_waits {D : Dk} {n k : Nat} (h : Arms D n k) : D.fell.waits.length ≤ k := by
  unfold Dk.fell; split
  · simp [Dk.crash]
  · exact h.waits
theorem arms_zero (n : Nat) : Arms ((Dk.new 2).arm (n : Int) []) n 0 := by
  refine ⟨by simp [Dk.arm, Dk.new], by simp [Dk.arm, Dk.new], fun _ => ⟨rfl, ?_, rfl⟩, fun h => by omega⟩
  unfold Dk.arm; rw [if_pos (by omega)]; rfl
theorem arms_down {D : Dk} {n k : Nat} (h : Arms D n k) : D.down = decide (n < k) ∧ D.ops = ((min k n : Nat) : Int) := by
  by_cases hk : k ≤ n
  · obtain ⟨a, _, c⟩ := h.early hk
    exact ⟨by rw [a]; simp; omega, by rw [c]; congr 1; omega⟩
  · obtain ⟨a, _, c⟩ := h.late (by omega)
    exact ⟨by rw [a]; simp; omega, by rw [c]; congr 1; omega⟩
/-- Behind a start. -/
theorem arms_start {D : Dk} {n k : Nat} (h : Arms D n k) (hk : n < k) : startE D = 0 ∧ rdE D.start = 0 ∧ startE D.start.barrier = 10 := by
  obtain ⟨a, b, c⟩ := h.late hk
  have e : D.start = { D with down := false } := by simp [Dk.start, a]
  have hd : ({ D with down := false } : Dk).due = false := by unfold Dk.due; simp [b]
  have hf : ({ D with down := false } : Dk).fell = { D with down := false } := by unfold Dk.fell; rw [hd]; rfl
  refine ⟨by simp [startE, a], by rw [e]; simp [rdE, hf], ?_⟩
  rw [e]
  simp [startE, Dk.barrier, hf, Dk.counted]
theorem arms_start_not {D : Dk} {n k : Nat} (h : Arms D n k) (hk : k ≤ n) : startE D = 10 := by simp [startE, (h.early hk).1]

set_option maxRecDepth 20000 in
set_option maxHeartbeats 4000000 in
theorem DiskArms_walk (w : World) (n : Int) (a : Option Addr) (c : Nat) (l : List Int) (len : Nat) (hA : NumsAt .i64 w a l) (hl : l.length = len) (hlen : len ≤ 9223372036854775807) :
    Calls Try.prog 9 #[.int .i64 n, .slice a len c] w fun e w' => e = .returned (.bool true) ∧ Below w.heap.size w w' := by
  obtain ⟨k0, hk0, hn0⟩ := and_i64 n 65535 (by omega)
  have hn : Go.bits .and .i64 n 65535 = (k0 : Int) := hn0
  clear hn0
  obtain ⟨N, hN⟩ : ∃ N, N = k0 % 61 := ⟨_, rfl⟩
  have hN6 : N ≤ 60 := by omega
  have hrem : Int.tmod (k0 : Int) 61 = (N : Int) := by rw [Int.tmod_eq_emod_of_nonneg (by omega), hN]; simp
  obtain ⟨M, hM⟩ : ∃ M : Nat → Prop, M = fun k => w.heap.size ≤ k := ⟨_, rfl⟩
  have hMn : ∀ k, w.heap.size ≤ k → M k := fun k hk => by rw [hM]; exact hk
  have hMd : ∀ k, M k → w.heap.size ≤ k := fun k hk => by rw [hM] at hk; exact hk
  clear hM hN
  go_enter Try.func9, Try.ntmps9
  go_wp2_with fail
  refine (shown_calls w).mono ?_
  rintro e w1 ⟨rfl, hb1⟩
  have k1 : Keeps M w w1 := Keeps.of_below hb1
  have hM1 : ∀ k, w1.heap.size ≤ k → M k := fun k hk => hMn k (Nat.le_trans hb1.size hk)
  clear hb1 hMn
  go_wp2_with fail
  refine (new_calls 2 2 rfl w1 M hM1 (by omega) (by omega)).mono ?_
  obtain ⟨p, hp⟩ : ∃ p, p = w1.heap.size + 1 := ⟨_, rfl⟩
  rw [← hp]
  rintro e w2 ⟨rfl, h2, hb2, -⟩
  have k2 := k1.trans (Keeps.of_below hb2)
  clear hp hM1 hb2 k1
  go_wp2_with fail
  refine (arm_ok w2 p (Dk.new 2) M N (N : Int) rfl [] none 0 0 h2 (by omega) (KBools.nil _ _ _) rfl (by omega) (fun _ => rfl)).mono ?_
  rintro e w3 ⟨rfl, h3, k3⟩
  have k3 := k2.trans k3
  have i3 := arms_zero N
  obtain ⟨D0, hD0⟩ : ∃ D0, D0 = (Dk.new 2).arm (N : Int) [] := ⟨_, rfl⟩
  rw [← hD0] at h3 i3
  clear h2 k2 hD0
  go_wp2
  go_loopw [8] (fun i wr => ∃ (k : Nat) (D : Dk), k ≤ len ∧ k ≤ 80 ∧ i = .int .i64 k ∧ DiskAt wr p D M ∧ Arms D N k ∧ Keeps M w wr) (fun i _ => len - (intOf i).toNat)
  case atStart => exact ⟨0, D0, Nat.zero_le _, Nat.zero_le _, rfl, h3, i3, k3⟩
  case round =>
    obtain ⟨k, D, hk, hk8, rfl, hD, hI, hkeep⟩ := hrel
    obtain ⟨hdn, hop⟩ := arms_down hI
    by_cases hlt : k < len ∧ k < 80
    · obtain ⟨hlt1, hlt8⟩ := hlt
      have hlt8i : (k : Int) < 80 := by omega
      obtain ⟨b, o, rfl, hc⟩ := hA k (by omega)
      have hBl := hkeep.below hMd (Nat.le_refl _)
      have hcr := (hBl.cell (p := ⟨b, o + k, none⟩) (World.block_lt_of_cell? _ _ hc)).trans hc
      obtain ⟨x, hx⟩ : ∃ x, x = l.getD k 0 := ⟨_, rfl⟩
      rw [← hx] at hcr
      obtain ⟨m, hm, hxm0⟩ := and_i64 x 3 (by omega)
      have hxm : Go.bits .and .i64 x 3 = (m : Int) := hxm0
      clear hxm0
      have hrd := arms_rd hI
      have hlenD := hI.len
      have hwt := arms_waits hI
      clear hc hBl hx hA hdn hop
      by_cases hkn : k < N

      · rw [if_pos hkn] at hrd
        have hkn' : ¬ (N : Int) ≤ (k : Int) := by omega
        have hmin : ((min (k + 1) N : Nat) : Int) = ((k : Int) + 1) := by rw [Nat.min_eq_left (by omega)]; simp
        have hdec : decide (N < k + 1) = false := by simp; omega
        have Hmin := Lib.hid hmin
        have Hdec := Lib.hid hdec
        clear hmin hdec
        have hkind : m = 0 ∨ m = 1 ∨ (m = 2 ∨ m = 3) := by omega
        rcases hkind with rfl | rfl | hm23
        · go_wp2_with fail
          refine (read_calls wr p D M 0 0 rfl hD (by omega)).mono ?_
          rw [hrd]
          rintro e wa ⟨v, rfl, hDa, hka, -⟩
          have hk2 := hkeep.trans hka
          obtain ⟨a1, a2⟩ := arms_down (arms_begun hI hN6)
          rw [Hdec.out] at a1
          rw [Hmin.out] at a2
          have hI2 := (arms_begun hI hN6)
          clear hkeep hD hI
          go_wp2_with fail
          refine (down_calls wa p _ M hDa).mono ?_
          rw [a1]
          rintro e wb ⟨rfl, rfl⟩
          go_wp2_with fail
          refine (ops_calls wa p _ M hDa).mono ?_
          rw [a2]
          rintro e wb ⟨rfl, rfl⟩
          go_wp2
          go_roundw
          case rel => exact ⟨k + 1, _, by omega, by omega, by go_num, hDa, hI2, hk2⟩
          case measure => simp [intOf]; omega
        · go_wp2_with fail
          refine (sector_calls wr (UInt8.ofNat k) _ (by rw [UInt8.toNat_ofNat']; omega)).mono ?_
          rintro e ws ⟨rfl, os, hbs⟩
          have hDs := hD.grow hbs
          go_wp2_with fail
          refine (write_calls ws p D M 1 1 rfl _ _ _ 512 hDs (by omega) os (by omega)).mono ?_
          rw [hrd]
          have hkeep := hkeep.trans (Keeps.of_below hbs)
          clear hbs os hDs
          rintro e wa ⟨rfl, hDa, hka⟩
          have hk2 := hkeep.trans hka
          obtain ⟨a1, a2⟩ := arms_down (arms_write hI hN6 1 (full (UInt8.ofNat k)))
          rw [Hdec.out] at a1
          rw [Hmin.out] at a2
          have hI2 := (arms_write hI hN6 1 (full (UInt8.ofNat k)))
          clear hkeep hD hI
          go_wp2_with fail
          refine (down_calls wa p _ M hDa).mono ?_
          rw [a1]
          rintro e wb ⟨rfl, rfl⟩
          go_wp2_with fail
          refine (ops_calls wa p _ M hDa).mono ?_
          rw [a2]
          rintro e wb ⟨rfl, rfl⟩
          go_wp2
          go_roundw
          case rel => exact ⟨k + 1, _, by omega, by omega, by go_num, hDa, hI2, hk2⟩
          case measure => simp [intOf]; omega
        · have m0 : ¬ (m : Int) = 0 := by omega
          have m1 : ¬ (m : Int) = 1 := by omega
          clear hm23
          go_wp2_with fail
          refine (barrier_calls wr p D M hD).mono ?_
          rw [hrd]
          rintro e wa ⟨rfl, hDa, hka⟩
          have hk2 := hkeep.trans hka
          obtain ⟨a1, a2⟩ := arms_down (arms_barrier hI hN6)
          rw [Hdec.out] at a1
          rw [Hmin.out] at a2
          have hI2 := (arms_barrier hI hN6)
          clear hkeep hD hI
          go_wp2_with fail
          refine (down_calls wa p _ M hDa).mono ?_
          rw [a1]
          rintro e wb ⟨rfl, rfl⟩
          go_wp2_with fail
          refine (ops_calls wa p _ M hDa).mono ?_
          rw [a2]
          rintro e wb ⟨rfl, rfl⟩
          go_wp2
          go_roundw
          case rel => exact ⟨k + 1, _, by omega, by omega, by go_num, hDa, hI2, hk2⟩
          case measure => simp [intOf]; omega
      · rw [if_neg hkn] at hrd
        have hkn' : (N : Int) ≤ (k : Int) := by omega
        have hmin : ((min (k + 1) N : Nat) : Int) = (N : Int) := by rw [Nat.min_eq_right (by omega)]
        have hdec : decide (N < k + 1) = true := by simp; omega
        have Hmin := Lib.hid hmin
        have Hdec := Lib.hid hdec
        clear hmin hdec
        have hkind : m = 0 ∨ m = 1 ∨ (m = 2 ∨ m = 3) := by omega
        rcases hkind with rfl | rfl | hm23
        · go_wp2_with fail
          refine (read_calls wr p D M 0 0 rfl hD (by omega)).mono ?_
          rw [hrd]
          rintro e wa ⟨v, rfl, hDa, hka, -⟩
          have hk2 := hkeep.trans hka
          obtain ⟨a1, a2⟩ := arms_down (arms_begun hI hN6)
          rw [Hdec.out] at a1
          rw [Hmin.out] at a2
          have hI2 := (arms_begun hI hN6)
          clear hkeep hD hI
          go_wp2_with fail
          refine (down_calls wa p _ M hDa).mono ?_
          rw [a1]
          rintro e wb ⟨rfl, rfl⟩
          go_wp2_with fail
          refine (ops_calls wa p _ M hDa).mono ?_
          rw [a2]
          rintro e wb ⟨rfl, rfl⟩
          go_wp2
          go_roundw
          case rel => exact ⟨k + 1, _, by omega, by omega, by go_num, hDa, hI2, hk2⟩
          case measure => simp [intOf]; omega
        · go_wp2_with fail
          refine (sector_calls wr (UInt8.ofNat k) _ (by rw [UInt8.toNat_ofNat']; omega)).mono ?_
          rintro e ws ⟨rfl, os, hbs⟩
          have hDs := hD.grow hbs
          go_wp2_with fail
          refine (write_calls ws p D M 1 1 rfl _ _ _ 512 hDs (by omega) os (by omega)).mono ?_
          rw [hrd]
          have hkeep := hkeep.trans (Keeps.of_below hbs)
          clear hbs os hDs
          rintro e wa ⟨rfl, hDa, hka⟩
          have hk2 := hkeep.trans hka
          obtain ⟨a1, a2⟩ := arms_down (arms_write hI hN6 1 (full (UInt8.ofNat k)))
          rw [Hdec.out] at a1
          rw [Hmin.out] at a2
          have hI2 := (arms_write hI hN6 1 (full (UInt8.ofNat k)))
          clear hkeep hD hI
          go_wp2_with fail
          refine (down_calls wa p _ M hDa).mono ?_
          rw [a1]
          rintro e wb ⟨rfl, rfl⟩
          go_wp2_with fail
          refine (ops_calls wa p _ M hDa).mono ?_
          rw [a2]
          rintro e wb ⟨rfl, rfl⟩
          go_wp2
          go_roundw
          case rel => exact ⟨k + 1, _, by omega, by omega, by go_num, hDa, hI2, hk2⟩
          case measure => simp [intOf]; omega
        · have m0 : ¬ (m : Int) = 0 := by omega
          have m1 : ¬ (m : Int) = 1 := by omega
          clear hm23
          go_wp2_with fail
          refine (barrier_calls wr p D M hD).mono ?_
          rw [hrd]
          rintro e wa ⟨rfl, hDa, hka⟩
          have hk2 := hkeep.trans hka
          obtain ⟨a1, a2⟩ := arms_down (arms_barrier hI hN6)
          rw [Hdec.out] at a1
          rw [Hmin.out] at a2
          have hI2 := (arms_barrier hI hN6)
          clear hkeep hD hI
          go_wp2_with fail
          refine (down_calls wa p _ M hDa).mono ?_
          rw [a1]
          rintro e wb ⟨rfl, rfl⟩
          go_wp2_with fail
          refine (ops_calls wa p _ M hDa).mono ?_
          rw [a2]
          rintro e wb ⟨rfl, rfl⟩
          go_wp2
          go_roundw
          case rel => exact ⟨k + 1, _, by omega, by omega, by go_num, hDa, hI2, hk2⟩
          case measure => simp [intOf]; omega
    · by_cases hkl : k < len
      · have hk80 : ¬ (k : Int) < 80 := by omega
        clear hlt hA
        by_cases hkn : k ≤ N
        · have hs := arms_start_not hI hkn
          have hd : D.down = false := by rw [hdn]; simp; omega
          clear hdn hop hI
          go_wp2_with fail
          refine (down_calls wr p D M hD).mono ?_
          rw [hd]
          rintro e wb ⟨rfl, rfl⟩
          go_wp2_with fail
          refine (start_calls wr p D M hD).mono ?_
          rw [hs]
          rintro e wb ⟨rfl, -, kb⟩
          have hfin := (hkeep.trans kb).below hMd (Nat.le_refl _)
          go_wp2
          go_ret
          exact ⟨rfl, hfin⟩
        · obtain ⟨hs1, hs2, hs3⟩ := arms_start hI (by omega)
          have hd : D.down = true := by rw [hdn]; simp; omega
          clear hdn hop hI
          go_wp2_with fail
          refine (down_calls wr p D M hD).mono ?_
          rw [hd]
          rintro e wb ⟨rfl, rfl⟩
          go_wp2_with fail
          refine (start_calls wr p D M hD).mono ?_
          rw [hs1]
          rintro e wb ⟨rfl, hDb, kb⟩
          have kb := hkeep.trans kb
          obtain ⟨D2, hD2⟩ : ∃ D2, D2 = D.start := ⟨_, rfl⟩
          rw [← hD2] at hDb hs2 hs3
          clear hD2 hs1 hD hkeep
          go_wp2_with fail
          refine (barrier_calls wb p D2 M hDb).mono ?_
          rw [hs2]
          rintro e wc ⟨rfl, hDc, kc⟩
          have kc := kb.trans kc
          obtain ⟨D3, hD3⟩ : ∃ D3, D3 = D2.barrier := ⟨_, rfl⟩
          rw [← hD3] at hDc hs3
          clear hD3 hs2 hDb kb
          go_wp2_with fail
          refine (start_calls wc p D3 M hDc).mono ?_
          rw [hs3]
          rintro e wd ⟨rfl, -, kd⟩
          have hfin := (kc.trans kd).below hMd (Nat.le_refl _)
          go_wp2
          go_ret
          exact ⟨rfl, hfin⟩
      · have hkl' : ¬ (k : Int) < (len : Int) := by omega
        clear hlt hA
        by_cases hkn : k ≤ N
        · have hs := arms_start_not hI hkn
          have hd : D.down = false := by rw [hdn]; simp; omega
          clear hdn hop hI
          go_wp2_with fail
          refine (down_calls wr p D M hD).mono ?_
          rw [hd]
          rintro e wb ⟨rfl, rfl⟩
          go_wp2_with fail
          refine (start_calls wr p D M hD).mono ?_
          rw [hs]
          rintro e wb ⟨rfl, -, kb⟩
          have hfin := (hkeep.trans kb).below hMd (Nat.le_refl _)
          go_wp2
          go_ret
          exact ⟨rfl, hfin⟩
        · obtain ⟨hs1, hs2, hs3⟩ := arms_start hI (by omega)
          have hd : D.down = true := by rw [hdn]; simp; omega
          clear hdn hop hI
          go_wp2_with fail
          refine (down_calls wr p D M hD).mono ?_
          rw [hd]
          rintro e wb ⟨rfl, rfl⟩
          go_wp2_with fail
          refine (start_calls wr p D M hD).mono ?_
          rw [hs1]
          rintro e wb ⟨rfl, hDb, kb⟩
          have kb := hkeep.trans kb
          obtain ⟨D2, hD2⟩ : ∃ D2, D2 = D.start := ⟨_, rfl⟩
          rw [← hD2] at hDb hs2 hs3
          clear hD2 hs1 hD hkeep
          go_wp2_with fail
          refine (barrier_calls wb p D2 M hDb).mono ?_
          rw [hs2]
          rintro e wc ⟨rfl, hDc, kc⟩
          have kc := kb.trans kc
          obtain ⟨D3, hD3⟩ : ∃ D3, D3 = D2.barrier := ⟨_, rfl⟩
          rw [← hD3] at hDc hs3
          clear hD3 hs2 hDb kb
          go_wp2_with fail
          refine (start_calls wc p D3 M hDc).mono ?_
          rw [hs3]
          rintro e wd ⟨rfl, -, kd⟩
          have hfin := (kc.trans kd).below hMd (Nat.le_refl _)
          go_wp2
          go_ret
          exact ⟨rfl, hfin⟩
end Go.Proofs.Ytgicpialopccpaa
