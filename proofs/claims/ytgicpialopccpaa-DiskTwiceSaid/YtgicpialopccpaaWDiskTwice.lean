/- DiskTwice: the walk. -/
import Derived.Test.YtgicpialopccpaaDiskQ
namespace Go.Proofs.Ytgicpialopccpaa
open Go.RowKit

set_option maxRecDepth 20000 in
set_option maxHeartbeats 8000000 in
theorem DiskTwice_walk (w : World) (a : Option Addr) (c : Nat) (l : List UInt8) (ka : Option Addr) (kc : Nat) (kl : List Bool) (ra : Option Addr) (rc : Nat) (rl : List Bool) (n : Int) (len klen rlen : Nat)
    (hl : l.length = len) (hkl : kl.length = klen) (hrl : rl.length = rlen) (hA : BytesAt w a l) (hK : BoolsAt w ka kl) (hR : BoolsAt w ra rl) (hkc : klen ≤ kc) (hrc : rlen ≤ rc) :
    Calls Try.prog 7 #[.slice a len c, .slice ka klen kc, .slice ra rlen rc, .int .i64 n] w fun e w' => e = .returned (.bool true) ∧ Below w.heap.size w w' := by
  obtain ⟨k0, hk0, hn0⟩ := and_i64 n 63 (by omega)
  have hn : Go.bits .and .i64 n 63 = (k0 : Int) := hn0
  obtain ⟨N, hN⟩ : ∃ N, N = k0 + 1 := ⟨_, rfl⟩
  have hNe : (k0 : Int) + 1 = (N : Int) := by omega
  have hN6 : N ≤ 64 := by omega
  obtain ⟨km, hkm⟩ : ∃ m, m = min klen 60 := ⟨_, rfl⟩
  have hkmin : (if (60 : Int) < (klen : Int) then (60 : Int) else (klen : Int)) = (km : Int) := by rw [hkm]; split <;> omega
  have hkt : (kl.take km).length = km := by rw [List.length_take]; omega
  have hkm2 : km ≤ 60 := by omega
  have hkmc : km ≤ kc := by omega
  obtain ⟨rm, hrm⟩ : ∃ m, m = min rlen 60 := ⟨_, rfl⟩
  have hrmin : (if (60 : Int) < (rlen : Int) then (60 : Int) else (rlen : Int)) = (rm : Int) := by rw [hrm]; split <;> omega
  have hrt : (rl.take rm).length = rm := by rw [List.length_take]; omega
  have hrm2 : rm ≤ 60 := by omega
  have hrmc : rm ≤ rc := by omega
  have Hkt := Lib.hid hkt
  have Hrt := Lib.hid hrt
  obtain ⟨M, hM⟩ : ∃ M : Nat → Prop, M = fun k => w.heap.size ≤ k := ⟨_, rfl⟩
  have hMn : ∀ k, w.heap.size ≤ k → M k := fun k hk => by rw [hM]; exact hk
  have hMd : ∀ k, M k → w.heap.size ≤ k := fun k hk => by rw [hM] at hk; exact hk
  clear hM hn0 hN hkm hrm hkt hrt hkl hrl hkc hrc
  go_enter Try.func7, Try.ntmps7
  go_wp2_with fail
  refine (shown_calls w).mono ?_
  rintro e w1 ⟨rfl, hb1⟩
  have k1 : Keeps M w w1 := Keeps.of_below hb1
  have hM1 : ∀ k, w1.heap.size ≤ k → M k := fun k hk => hMn k (Nat.le_trans hb1.size hk)
  clear hb1 hMn
  go_wp2_with fail
  refine (new_calls 2 2 rfl w1 M hM1 (by omega) (by omega)).mono ?_
  obtain ⟨p, hp⟩ : ∃ p, p = w1.heap.size + 1 := ⟨_, rfl⟩
  rw [← hp]
  rintro e w2 ⟨rfl, h2, hb2, -⟩
  have k2 := k1.trans (Keeps.of_below hb2)
  have i2 := Calm.new 2
  obtain ⟨D0, hD0⟩ : ∃ D0, D0 = Dk.new 2 := ⟨_, rfl⟩
  rw [← hD0] at h2 i2
  clear hp hM1 hb2 k1 hD0
  go_wp2
  go_loopw [12] (fun i wr => ∃ (k : Nat) (D : Dk), k ≤ len ∧ k ≤ 20 ∧ i = .int .i64 k ∧ DiskAt wr p D M ∧ Calm D 2 k ∧ Keeps M w wr) (fun i _ => len - (intOf i).toNat)
  case atStart => exact ⟨0, D0, Nat.zero_le _, Nat.zero_le _, rfl, h2, i2, k2⟩
  case round =>
    obtain ⟨k, D, hk, hk8, rfl, hD, hI, hkeep⟩ := hrel
    by_cases hlt : k < len ∧ k < 20
    · obtain ⟨hlt1, hlt8⟩ := hlt
      have hlt8i : (k : Int) < 20 := by omega
      obtain ⟨b, o, rfl, hc⟩ := hA k (by omega)
      have hBl := hkeep.below hMd (Nat.le_refl _)
      have hcr := (hBl.cell (p := ⟨b, o + k, none⟩) (World.block_lt_of_cell? _ _ hc)).trans hc
      obtain ⟨x, hx⟩ : ∃ x, x = l.getD k 0 := ⟨_, rfl⟩
      rw [← hx] at hcr
      obtain ⟨m, hm, hxm0⟩ := and_i64 (k : Int) 1 (by omega)
      have hxm : Go.bits .and .i64 (k : Int) 1 = (m : Int) := hxm0
      have hrd := hI.rd
      have hlenD := hI.len
      have hwt := hI.fwaits
      have hI2 := hI.write m (full x)
      clear hc hBl hx hA hxm0 hI
      go_wp2_with fail
      refine (sector_calls wr x _ rfl).mono ?_
      rintro e ws ⟨rfl, os, hbs⟩
      have hDs := hD.grow hbs
      have hkeep := hkeep.trans (Keeps.of_below hbs)
      go_wp2_with fail
      refine (write_calls ws p D M m (m : Int) rfl (full x) _ _ 512 hDs (by omega) os (by omega)).mono ?_
      rintro e wa ⟨rfl, hDa, hka⟩
      have hk2 := hkeep.trans hka
      clear hkeep hD hDs os hbs
      go_wp2
      go_roundw
      case rel => exact ⟨k + 1, _, by omega, by omega, by go_num, hDa, hI2, hk2⟩
      case measure => simp [intOf]; omega
    · by_cases hkl : k < len
      · have hk80 : ¬ (k : Int) < 20 := by omega
        clear hlt hA
        go_wp2_with fail
        refine (arm_ok wr p D M N (N : Int) rfl [] none 0 0 hD (by omega) (KBools.nil _ _ _) rfl (by omega) (fun _ => rfl)).mono ?_
        rintro e w3 ⟨rfl, h3, k3⟩
        have k3 := hkeep.trans k3
        have l3 : (D.arm (N : Int) []).secs.length = 2 := hI.len
        obtain ⟨D1, hD1⟩ : ∃ D1, D1 = D.arm (N : Int) [] := ⟨_, rfl⟩
        rw [← hD1] at h3 l3
        clear hD1 hD hI hkeep
        have hKB := kbools_arg hMd (k3.below hMd (Nat.le_refl _)) hK km
        go_wp2_with fail
        refine (crash_calls w3 p D1 M ka km kc (kl.take km) h3 hKB Hkt.out (by omega)).mono ?_
        rintro e w4 ⟨rfl, h4, k4⟩
        have k4 := k3.trans k4
        obtain ⟨q4, s4⟩ := crash_quiet D1 (kl.take km)
        have l4 : (D1.crash (kl.take km)).secs.length = 2 := by simp [Dk.crash, Dk.keepFrom_len, l3]
        obtain ⟨D2, hD2⟩ : ∃ D2, D2 = D1.crash (kl.take km) := ⟨_, rfl⟩
        rw [← hD2] at h4 q4 s4 l4
        clear hD2 h3 hKB k3 hK l3
        go_wp2_with fail
        refine (start_calls w4 p D2 M h4).mono ?_
        rw [s4]
        rintro e w5 ⟨rfl, h5, k5⟩
        have k5 := k4.trans k5
        obtain ⟨S, hS⟩ : ∃ S, S = D2.secs := ⟨_, rfl⟩
        obtain ⟨D3, hD3⟩ : ∃ D3, D3 = D2.start := ⟨_, rfl⟩
        rw [← hS, ← hD3] at q4
        rw [← hS] at l4
        rw [← hD3] at h5
        have n30 := q4.now 0
        have n31 := q4.begun.now 1
        have sl := q4.secs
        have q5 := q4.begun
        obtain ⟨S0, hS0⟩ : ∃ x, x = S.getD 0 [] := ⟨_, rfl⟩
        obtain ⟨S1, hS1⟩ : ∃ x, x = S.getD 1 [] := ⟨_, rfl⟩
        have len3 : 0 < D3.secs.length := by rw [sl, l4]; omega
        have len4 : 1 < D3.begun.secs.length := by rw [q5.secs, l4]; omega
        have fd3 := q4.calm.fdown
        have fd4 := q5.calm.fdown
        rw [← hS0] at n30
        rw [← hS1] at n31
        clear hS hD3 h4 k4 s4 sl
        go_wp2_with fail
        refine (read_live w5 p D3 M 0 0 rfl h5 len3 fd3 S0 n30).mono ?_
        rintro e w6 ⟨Ba, -, rfl, ha6, h6, k6⟩
        have k6 := k5.trans k6
        obtain ⟨D4, hD4⟩ : ∃ D4, D4 = D3.begun := ⟨_, rfl⟩
        rw [← hD4] at h6 q5 n31 len4 fd4
        have a6 := Lib.hid ha6
        have HL0 : Hid (S0.length = 512) := Lib.hid (by rw [hS0, ← q4.secs]; exact sec512 h5 0 len3)
        have HL1 : Hid (S1.length = 512) := Lib.hid (by rw [hS1, ← q4.secs]; exact sec512 h5 1 (by rw [q4.secs, l4]; omega))
        clear h5 k5 n30 len3 fd3 hD4 q4 ha6
        go_wp2_with fail
        refine (read_live w6 p D4 M 1 1 rfl h6 len4 fd4 S1 n31).mono ?_
        rintro e w7 ⟨Bb, -, rfl, hb7, h7, k7⟩
        have a7 := Lib.hid (k7.cool a6.out rfl)
        have k7 := k6.trans k7
        have q7 := q5.begun
        obtain ⟨D5, hD5⟩ : ∃ D5, D5 = D4.begun := ⟨_, rfl⟩
        rw [← hD5] at h7 q7
        have b7 := Lib.hid hb7
        have hRB := kbools_arg hMd (k7.below hMd (Nat.le_refl _)) hR rm
        clear h6 k6 n31 len4 fd4 hD5 q5 hb7 a6
        go_wp2_with fail
        refine (crash_calls w7 p D5 M ra rm rc (rl.take rm) h7 hRB Hrt.out (by omega)).mono ?_
        rintro e w8 ⟨rfl, h8, k8⟩
        have a8 := Lib.hid (k8.cool a7.out rfl)
        have b8 := Lib.hid (k8.cool b7.out rfl)
        have k8 := k7.trans k8
        have hRB := kbools_arg hMd (k8.below hMd (Nat.le_refl _)) hR rm
        clear h7 k7 a7 b7
        go_wp2_with fail
        refine (crash_calls w8 p _ M ra rm rc (rl.take rm) h8 hRB Hrt.out (by omega)).mono ?_
        rintro e w9 ⟨rfl, h9, k9⟩
        have a9 := Lib.hid (k9.cool a8.out rfl)
        have b9 := Lib.hid (k9.cool b8.out rfl)
        have k9 := k8.trans k9
        obtain ⟨q9, s9⟩ := q7.crash2 (rl.take rm)
        obtain ⟨D6, hD6⟩ : ∃ D6, D6 = (D5.crash (rl.take rm)).crash (rl.take rm) := ⟨_, rfl⟩
        rw [← hD6] at h9 q9 s9
        clear h8 k8 a8 b8 hRB hR hD6 q7
        go_wp2_with fail
        refine (start_calls w9 p D6 M h9).mono ?_
        rw [s9]
        rintro e w10 ⟨rfl, h10, k10⟩
        have a10 := Lib.hid (k10.cool a9.out rfl)
        have b10 := Lib.hid (k10.cool b9.out rfl)
        have k10 := k9.trans k10
        obtain ⟨D7, hD7⟩ : ∃ D7, D7 = D6.start := ⟨_, rfl⟩
        rw [← hD7] at h10 q9
        clear h9 k9 a9 b9 hD7 s9
        go_wp2
        go_loopw [18] (fun i wr => ∃ (k : Nat) (D : Dk), k ≤ 70 ∧ i = .int .i64 k ∧ DiskAt wr p D M ∧ Quiet D S ∧ Keeps M w wr ∧ Hid (wr.heap[Ba]? = some (.cells (S0.map byteV).toArray 5 (0, 0))) ∧ Hid (wr.heap[Bb]? = some (.cells (S1.map byteV).toArray 5 (0, 0)))) (fun i _ => 70 - (intOf i).toNat)
        case atStart => exact ⟨0, D7, Nat.zero_le _, rfl, h10, q9, k10, a10, b10⟩
        case round =>
          clear h10 q9 k10 a10 b10
          obtain ⟨k, D, hk, rfl, hD, hq, hkeep, aw, bw⟩ := hrel
          by_cases hlt : k < 70
          · have hlti : (k : Int) < 70 := by omega
            have hrd := hq.calm.rd
            have hq2 := hq.barrier
            clear hq
            go_wp2_with fail
            refine (barrier_calls _ p D M hD).mono ?_
            rw [hrd]
            rintro e wa ⟨rfl, hDa, hka⟩
            have aw2 := Lib.hid (hka.cool aw.out rfl)
            have bw2 := Lib.hid (hka.cool bw.out rfl)
            have hk2 := hkeep.trans hka
            clear hD hkeep aw bw
            go_wp2
            go_roundw
            case rel => exact ⟨k + 1, _, by omega, by go_num, hDa, hq2, hk2, aw2, bw2⟩
            case measure => simp [intOf]; omega
          · have hlti : ¬ (k : Int) < 70 := by omega
            have n30 := hq.now 0
            have n31 := hq.begun.now 1
            have fd3 := hq.calm.fdown
            have fd4 := hq.begun.calm.fdown
            have len3 : 0 < D.secs.length := by rw [hq.secs, l4]; omega
            have len4 : 1 < D.begun.secs.length := by rw [hq.begun.secs, l4]; omega
            rw [← hS0] at n30
            rw [← hS1] at n31
            clear hlt hk
            go_wp2_with fail
            refine (read_live _ p D M 0 0 rfl hD len3 fd3 S0 n30).mono ?_
            rintro e x6 ⟨Bx, -, rfl, hx6, g6, j6⟩
            have aw6 := Lib.hid (j6.cool aw.out rfl)
            have bw6 := Lib.hid (j6.cool bw.out rfl)
            have j6 := hkeep.trans j6
            obtain ⟨D4, hD4⟩ : ∃ D4, D4 = D.begun := ⟨_, rfl⟩
            rw [← hD4] at g6 n31 len4 fd4
            have x6' := Lib.hid hx6
            clear hD hkeep aw bw hx6 n30 len3 fd3 hq hD4
            go_wp2_with fail
            refine (read_live x6 p D4 M 1 1 rfl g6 len4 fd4 S1 n31).mono ?_
            rintro e x7 ⟨By, -, rfl, hy7, g7, j7⟩
            have hfin := (j6.trans j7).below hMd (Nat.le_refl _)
            have okS := g7
            obtain ⟨sb, scs, wv, dvs, av, hin⟩ := okS
            have rA := row_reads (j7.cool aw6.out rfl)
            have rB := row_reads (j7.cool bw6.out rfl)
            have rX := row_reads (j7.cool x6'.out rfl)
            have rY := row_reads hy7
            have hl0 : S0.length = 512 := HL0.out
            have hl1 : S1.length = 512 := HL1.out
            have t1 := run_string rA 512 512 hl0
            have t2 := run_string rB 512 512 hl1
            have t3 := run_string rX 512 512 hl0
            have t4 := run_string rY 512 512 hl1
            clear g7 j7 g6 j6 aw6 bw6 x6' hy7 rA rB rX rY hl0 hl1 n31 len4 fd4 hin
            go_wp2
            go_ret
            exact ⟨rfl, hfin⟩
      · have hkl' : ¬ (k : Int) < (len : Int) := by omega
        clear hlt hA
        go_wp2_with fail
        refine (arm_ok wr p D M N (N : Int) rfl [] none 0 0 hD (by omega) (KBools.nil _ _ _) rfl (by omega) (fun _ => rfl)).mono ?_
        rintro e w3 ⟨rfl, h3, k3⟩
        have k3 := hkeep.trans k3
        have l3 : (D.arm (N : Int) []).secs.length = 2 := hI.len
        obtain ⟨D1, hD1⟩ : ∃ D1, D1 = D.arm (N : Int) [] := ⟨_, rfl⟩
        rw [← hD1] at h3 l3
        clear hD1 hD hI hkeep
        have hKB := kbools_arg hMd (k3.below hMd (Nat.le_refl _)) hK km
        go_wp2_with fail
        refine (crash_calls w3 p D1 M ka km kc (kl.take km) h3 hKB Hkt.out (by omega)).mono ?_
        rintro e w4 ⟨rfl, h4, k4⟩
        have k4 := k3.trans k4
        obtain ⟨q4, s4⟩ := crash_quiet D1 (kl.take km)
        have l4 : (D1.crash (kl.take km)).secs.length = 2 := by simp [Dk.crash, Dk.keepFrom_len, l3]
        obtain ⟨D2, hD2⟩ : ∃ D2, D2 = D1.crash (kl.take km) := ⟨_, rfl⟩
        rw [← hD2] at h4 q4 s4 l4
        clear hD2 h3 hKB k3 hK l3
        go_wp2_with fail
        refine (start_calls w4 p D2 M h4).mono ?_
        rw [s4]
        rintro e w5 ⟨rfl, h5, k5⟩
        have k5 := k4.trans k5
        obtain ⟨S, hS⟩ : ∃ S, S = D2.secs := ⟨_, rfl⟩
        obtain ⟨D3, hD3⟩ : ∃ D3, D3 = D2.start := ⟨_, rfl⟩
        rw [← hS, ← hD3] at q4
        rw [← hS] at l4
        rw [← hD3] at h5
        have n30 := q4.now 0
        have n31 := q4.begun.now 1
        have sl := q4.secs
        have q5 := q4.begun
        obtain ⟨S0, hS0⟩ : ∃ x, x = S.getD 0 [] := ⟨_, rfl⟩
        obtain ⟨S1, hS1⟩ : ∃ x, x = S.getD 1 [] := ⟨_, rfl⟩
        have len3 : 0 < D3.secs.length := by rw [sl, l4]; omega
        have len4 : 1 < D3.begun.secs.length := by rw [q5.secs, l4]; omega
        have fd3 := q4.calm.fdown
        have fd4 := q5.calm.fdown
        rw [← hS0] at n30
        rw [← hS1] at n31
        clear hS hD3 h4 k4 s4 sl
        go_wp2_with fail
        refine (read_live w5 p D3 M 0 0 rfl h5 len3 fd3 S0 n30).mono ?_
        rintro e w6 ⟨Ba, -, rfl, ha6, h6, k6⟩
        have k6 := k5.trans k6
        obtain ⟨D4, hD4⟩ : ∃ D4, D4 = D3.begun := ⟨_, rfl⟩
        rw [← hD4] at h6 q5 n31 len4 fd4
        have a6 := Lib.hid ha6
        have HL0 : Hid (S0.length = 512) := Lib.hid (by rw [hS0, ← q4.secs]; exact sec512 h5 0 len3)
        have HL1 : Hid (S1.length = 512) := Lib.hid (by rw [hS1, ← q4.secs]; exact sec512 h5 1 (by rw [q4.secs, l4]; omega))
        clear h5 k5 n30 len3 fd3 hD4 q4 ha6
        go_wp2_with fail
        refine (read_live w6 p D4 M 1 1 rfl h6 len4 fd4 S1 n31).mono ?_
        rintro e w7 ⟨Bb, -, rfl, hb7, h7, k7⟩
        have a7 := Lib.hid (k7.cool a6.out rfl)
        have k7 := k6.trans k7
        have q7 := q5.begun
        obtain ⟨D5, hD5⟩ : ∃ D5, D5 = D4.begun := ⟨_, rfl⟩
        rw [← hD5] at h7 q7
        have b7 := Lib.hid hb7
        have hRB := kbools_arg hMd (k7.below hMd (Nat.le_refl _)) hR rm
        clear h6 k6 n31 len4 fd4 hD5 q5 hb7 a6
        go_wp2_with fail
        refine (crash_calls w7 p D5 M ra rm rc (rl.take rm) h7 hRB Hrt.out (by omega)).mono ?_
        rintro e w8 ⟨rfl, h8, k8⟩
        have a8 := Lib.hid (k8.cool a7.out rfl)
        have b8 := Lib.hid (k8.cool b7.out rfl)
        have k8 := k7.trans k8
        have hRB := kbools_arg hMd (k8.below hMd (Nat.le_refl _)) hR rm
        clear h7 k7 a7 b7
        go_wp2_with fail
        refine (crash_calls w8 p _ M ra rm rc (rl.take rm) h8 hRB Hrt.out (by omega)).mono ?_
        rintro e w9 ⟨rfl, h9, k9⟩
        have a9 := Lib.hid (k9.cool a8.out rfl)
        have b9 := Lib.hid (k9.cool b8.out rfl)
        have k9 := k8.trans k9
        obtain ⟨q9, s9⟩ := q7.crash2 (rl.take rm)
        obtain ⟨D6, hD6⟩ : ∃ D6, D6 = (D5.crash (rl.take rm)).crash (rl.take rm) := ⟨_, rfl⟩
        rw [← hD6] at h9 q9 s9
        clear h8 k8 a8 b8 hRB hR hD6 q7
        go_wp2_with fail
        refine (start_calls w9 p D6 M h9).mono ?_
        rw [s9]
        rintro e w10 ⟨rfl, h10, k10⟩
        have a10 := Lib.hid (k10.cool a9.out rfl)
        have b10 := Lib.hid (k10.cool b9.out rfl)
        have k10 := k9.trans k10
        obtain ⟨D7, hD7⟩ : ∃ D7, D7 = D6.start := ⟨_, rfl⟩
        rw [← hD7] at h10 q9
        clear h9 k9 a9 b9 hD7 s9
        go_wp2
        go_loopw [18] (fun i wr => ∃ (k : Nat) (D : Dk), k ≤ 70 ∧ i = .int .i64 k ∧ DiskAt wr p D M ∧ Quiet D S ∧ Keeps M w wr ∧ Hid (wr.heap[Ba]? = some (.cells (S0.map byteV).toArray 5 (0, 0))) ∧ Hid (wr.heap[Bb]? = some (.cells (S1.map byteV).toArray 5 (0, 0)))) (fun i _ => 70 - (intOf i).toNat)
        case atStart => exact ⟨0, D7, Nat.zero_le _, rfl, h10, q9, k10, a10, b10⟩
        case round =>
          clear h10 q9 k10 a10 b10
          obtain ⟨k, D, hk, rfl, hD, hq, hkeep, aw, bw⟩ := hrel
          by_cases hlt : k < 70
          · have hlti : (k : Int) < 70 := by omega
            have hrd := hq.calm.rd
            have hq2 := hq.barrier
            clear hq
            go_wp2_with fail
            refine (barrier_calls _ p D M hD).mono ?_
            rw [hrd]
            rintro e wa ⟨rfl, hDa, hka⟩
            have aw2 := Lib.hid (hka.cool aw.out rfl)
            have bw2 := Lib.hid (hka.cool bw.out rfl)
            have hk2 := hkeep.trans hka
            clear hD hkeep aw bw
            go_wp2
            go_roundw
            case rel => exact ⟨k + 1, _, by omega, by go_num, hDa, hq2, hk2, aw2, bw2⟩
            case measure => simp [intOf]; omega
          · have hlti : ¬ (k : Int) < 70 := by omega
            have n30 := hq.now 0
            have n31 := hq.begun.now 1
            have fd3 := hq.calm.fdown
            have fd4 := hq.begun.calm.fdown
            have len3 : 0 < D.secs.length := by rw [hq.secs, l4]; omega
            have len4 : 1 < D.begun.secs.length := by rw [hq.begun.secs, l4]; omega
            rw [← hS0] at n30
            rw [← hS1] at n31
            clear hlt hk
            go_wp2_with fail
            refine (read_live _ p D M 0 0 rfl hD len3 fd3 S0 n30).mono ?_
            rintro e x6 ⟨Bx, -, rfl, hx6, g6, j6⟩
            have aw6 := Lib.hid (j6.cool aw.out rfl)
            have bw6 := Lib.hid (j6.cool bw.out rfl)
            have j6 := hkeep.trans j6
            obtain ⟨D4, hD4⟩ : ∃ D4, D4 = D.begun := ⟨_, rfl⟩
            rw [← hD4] at g6 n31 len4 fd4
            have x6' := Lib.hid hx6
            clear hD hkeep aw bw hx6 n30 len3 fd3 hq hD4
            go_wp2_with fail
            refine (read_live x6 p D4 M 1 1 rfl g6 len4 fd4 S1 n31).mono ?_
            rintro e x7 ⟨By, -, rfl, hy7, g7, j7⟩
            have hfin := (j6.trans j7).below hMd (Nat.le_refl _)
            have okS := g7
            obtain ⟨sb, scs, wv, dvs, av, hin⟩ := okS
            have rA := row_reads (j7.cool aw6.out rfl)
            have rB := row_reads (j7.cool bw6.out rfl)
            have rX := row_reads (j7.cool x6'.out rfl)
            have rY := row_reads hy7
            have hl0 : S0.length = 512 := HL0.out
            have hl1 : S1.length = 512 := HL1.out
            have t1 := run_string rA 512 512 hl0
            have t2 := run_string rB 512 512 hl1
            have t3 := run_string rX 512 512 hl0
            have t4 := run_string rY 512 512 hl1
            clear g7 j7 g6 j6 aw6 bw6 x6' hy7 rA rB rX rY hl0 hl1 n31 len4 fd4 hin
            go_wp2
            go_ret
            exact ⟨rfl, hfin⟩
end Go.Proofs.Ytgicpialopccpaa
