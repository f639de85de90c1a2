/- The walk of a law on sums. -/
import Derived.Test.YtmfghlblpebedaaCrcS
namespace Go.Proofs.Ytmfghlblpebedaa
open Go.RowKit Crc

set_option maxHeartbeats 400000 in
theorem CrcBursts_walk (a : Option Addr) (cap : Nat) (l : List UInt8) (at0 : Int) (d : BitVec 32) (w : World) (hA : BytesAt w a l) (hl : l.length ≤ cap) (hn : a = none → cap = 0) :
    Calls Try.prog 5 #[.slice a l.length cap, .int .i64 at0, .int .u32 (num d)] w fun e w' => e = .returned (.bool true) ∧ Below w.heap.size w w' := by
  obtain ⟨m, hm⟩ : ∃ m, m = min l.length 500 := ⟨_, rfl⟩
  have hmin : (if (500 : Int) < (l.length : Int) then (500 : Int) else (l.length : Int)) = (m : Int) := by rw [hm]; split <;> omega
  have hmt : (l.take m).length = m := by rw [List.length_take]; omega
  have hm2 : m ≤ 500 := by omega
  have hmc : m ≤ cap := by omega
  obtain ⟨k0, hk0, hand⟩ := and_i64 at0 65535 (by omega)
  have hand : Go.bits .and .i64 at0 65535 = (k0 : Int) := hand
  have Ht := Lib.hid hmt
  clear hm hmt
  go_enter Try.func5, Try.ntmps5
  go_wp2_with fail
  refine (shown_calls _).mono ?_
  rintro e w1 ⟨rfl, hb1⟩
  have hA1 := (hA.below hb1).take m
  go_wp2_with (at_builtin; refine wpList_append_bytes rfl (.tmp 12) (.tmp 17) rfl w1.heap.size _ 0 [] rfl (OwnsB.empty w1) a m cap (l.take m) rfl hn (hA1.below ((Below.refl _ _).alloc (Nat.le_refl _) _)) Ht.out (by omega) (by simp) ?next)
  case next =>
  intro g cap' w2 hown hgrow _ _
  have hb2 : Below w1.heap.size w1 w2 := ((Below.refl _ _).alloc (Nat.le_refl _) _).grown hgrow (by simp) (fun k h => by simp [Value.ownBlock] at h; omega)
  obtain ⟨p, hp⟩ : ∃ p, p = l.take m := ⟨_, rfl⟩
  have hpl : p.length = m := by rw [hp]; exact Ht.out
  rw [← hp] at hown
  clear hgrow Ht hp hA1
  have Hpl := Lib.hid hpl
  clear hpl
  go_wp2_with (at_builtin; refine wpList_append_bytes rfl (.tmp 19) (.tmp 20) rfl w1.heap.size _ m p rfl (hown.alloc _) (some ⟨w2.heap.size, 0, none⟩) 5 5 [0, 0, 0, 0, 0] rfl (by simp) (BytesAt.made [0, 0, 0, 0, 0] rfl) rfl (by omega) (by have := hb2.size; simp; omega) ?next2)
  case next2 =>
  intro g3 cap3 w3 hown3 hgrow3 _ _
  have hb3 : Below w1.heap.size w2 w3 := ((Below.refl _ _).alloc hb2.size _).grown hgrow3 (by have := hb2.size; simp; omega) (fun k h => by have := World.ownsRow.lt hown k h; omega)
  obtain ⟨q, hqq⟩ : ∃ q, q = p ++ [0, 0, 0, 0, 0] := ⟨_, rfl⟩
  obtain ⟨n, hnn⟩ : ∃ n, n = m + 5 := ⟨_, rfl⟩
  have hql : q.length = n := by rw [hqq, hnn]; simp [Hpl.out]
  rw [← hqq, ← hnn] at hown3
  rw [← hnn]
  have hn5 : n ≤ 505 := by omega
  have hn6 : 5 ≤ n := by omega
  have Hql := Lib.hid hql
  clear hqq hql hgrow3 hown Hpl hnn
  obtain ⟨gb3, rfl, hgb3, hgs3, _, _⟩ := hown3.at (by omega)
  have hG3 := hown3.reads
  go_wp2_with (at_builtin; refine wpList_append_bytes rfl (.tmp 22) (.tmp 23) rfl w3.heap.size _ 0 [] rfl (OwnsB.empty w3) (some ⟨gb3, 0, none⟩) n cap3 q rfl (by simp) (hG3.below ((Below.refl _ _).alloc (Nat.le_refl _) _)) Hql.out (by omega) (by simp) ?next3)
  case next3 =>
  intro g4 cap4 w4 hown4 hgrow4 _ _
  have hb4 : Below w3.heap.size w3 w4 := ((Below.refl _ _).alloc (Nat.le_refl _) _).grown hgrow4 (by simp) (fun k h => by simp [Value.ownBlock] at h; omega)
  obtain ⟨gb4, rfl, hgb4, hgs4, _, _⟩ := hown4.at (by omega)
  obtain ⟨at1, hat⟩ : ∃ at1, at1 = k0 % (8 * n - 31) := ⟨_, rfl⟩
  have hat1 : (k0 : Int) % (8 * (n : Int) - 31) = (at1 : Int) := by
    have e31 : ((8 * n - 31 : Nat) : Int) = 8 * (n : Int) - 31 := by omega
    rw [hat, ← e31]; simp
  have hat2 : at1 + 32 ≤ 8 * n := by have := Nat.mod_lt k0 (show 0 < 8 * n - 31 by omega); omega
  have hd0 := num_nonneg d
  have hd1 := num_lt d
  clear hat hgrow4 hgs4
  go_wp2
  go_loopw [9] (fun i wr => ∃ (k : Nat) (ol : List UInt8), k ≤ 32 ∧ i = .int .i64 k ∧ OwnsB wr w3.heap.size (.slice (some ⟨gb4, 0, none⟩) n cap4) n ol ∧ Below w3.heap.size w4 wr ∧ Hid (run (~~~ 0#32) ol = run (~~~ 0#32) q ^^^ bitN (8 * n - at1) (lowB d k))) (fun i _ => 32 - (intOf i).toNat)
  case atStart => exact ⟨0, q, Nat.zero_le _, rfl, hown4, Below.refl _ _, Lib.hid (by rw [lowB_zero, bitN_zero, BitVec.xor_zero])⟩
  case round =>
    obtain ⟨k, ol, hk, rfl, hown, hbel, Hr⟩ := hrel
    by_cases hlt : k < 32
    · obtain ⟨gb', e, _, _, hgc, hgf⟩ := hown.at (by omega)
      cases e
      have hc8 := hgc ((at1 + k) / 8) (by omega)
      have hf8 := hgf ((at1 + k) / 8)
      clear hgc hgf
      have hlen := hown.len
      have htest := bit_test d k
      cases hb : d.getLsbD k with
      | true =>
        rw [hb] at htest
        obtain ⟨x0, hx0⟩ : ∃ x0, x0 = ol.getD ((at1 + k) / 8) 0 := ⟨_, rfl⟩
        rw [← hx0] at hc8
        have hx := flip_u8 x0 (at1 + k)
        obtain ⟨y, hy⟩ : ∃ y, y = x0 ^^^ UInt8.ofNat (2 ^ ((at1 + k) % 8)) := ⟨_, rfl⟩
        have hstep : run (~~~ 0#32) (ol.set ((at1 + k) / 8) y) = run (~~~ 0#32) q ^^^ bitN (8 * n - at1) (lowB d (k + 1)) := by
          have e0 : ol.getD ((at1 + k) / 8) 0 = ol[(at1 + k) / 8]'(by omega) := by simp [List.getD, show (at1 + k) / 8 < ol.length by omega]
          rw [hy, hx0, e0, run_flip _ _ _ (by omega), hlen]
          exact burst_step d (8 * n) at1 k hlt hat2 _ _ hb Hr.out
        have Hstep := Lib.hid hstep
        rw [← hy] at hx
        have hown' := hown.set ((at1 + k) / 8) y
        have hbel' := hbel.setCell (p := ⟨gb4, (at1 + k) / 8, none⟩) hgb4 (.int .u8 y.toNat)
        clear hstep hy hx0 hown hbel Hr hb hlen
        go_wp2
        go_roundw
        case rel => exact ⟨k + 1, _, by omega, by go_num, hown', hbel', Hstep⟩
        case measure => simp [intOf]; omega
      | false =>
        rw [hb] at htest
        have hstep := Hr.out
        have e1 : lowB d (k + 1) = lowB d k := by rw [lowB_succ, if_neg (by rw [hb]; simp)]
        rw [← e1] at hstep
        have Hstep := Lib.hid hstep
        clear hstep e1 hb Hr hc8 hf8 hlen
        go_wp2
        go_roundw
        case rel => exact ⟨k + 1, _, by omega, by go_num, hown, hbel, Hstep⟩
        case measure => simp [intOf]; omega
    · have hk32 : k = 32 := by omega
      subst hk32
      have hfin := Hr.out
      rw [lowB_all] at hfin
      have hG3' : BytesAt wr (some ⟨gb3, 0, none⟩) q := (hG3.below hb4).below' hb4.size hgs3 hbel
      have hGo := hown.reads
      have hlo := hown.len
      have hd2 : (num d == 0) = (d == 0#32) := by rw [← num_beq, num_eq 0#32]; rfl
      have hiff : ((num (more 0#32 q) == num (more 0#32 ol)) == (num d == 0)) = true := by
        rw [num_beq, hd2]
        by_cases h : d = 0#32
        · subst h
          rw [bitN_zero, BitVec.xor_zero] at hfin
          unfold more
          rw [hfin]; simp
        · have h' : more 0#32 q ≠ more 0#32 ol := by
            intro e
            have e2 := not_inj e
            rw [hfin] at e2
            have e3 : bitN (8 * n - at1) d = 0#32 := by
              have := congrArg (run (~~~ 0#32) q ^^^ ·) e2
              simpa [xself] using this.symm
            rw [← bitN_zero (8 * n - at1)] at e3
            exact h (bitN_inj e3)
          rw [beq_eq_false_iff_ne.2 h', beq_eq_false_iff_ne.2 h]; rfl
      have Hlo := Lib.hid hlo
      clear hfin hlo Hr hd2
      go_wp2_with fail
      refine (sum_calls _ n _ q _ Hql.out.symm (by have := Hql.out; omega) hG3').mono ?_
      rintro e w7 ⟨rfl, hb7⟩
      go_wp2_with fail
      refine (sum_calls _ n _ ol _ Hlo.out.symm (by have := Hlo.out; omega) (hGo.below hb7)).mono ?_
      rintro e w8 ⟨rfl, hb8⟩
      go_wp2_with fail
      go_ret
      exact ⟨rfl, bgo (bgo (bgo hb1 ((hb2.trans hb3).trans ((hb4.trans hbel).mono (Nat.le_trans hb2.size hb3.size)))) hb7) hb8⟩
end Go.Proofs.Ytmfghlblpebedaa
