/- The walk of a law on sums. -/
import Derived.Test.YtmfghlblpebedaaCrcS
namespace Go.Proofs.Ytmfghlblpebedaa
open Go.RowKit Crc

set_option maxHeartbeats 400000 in
theorem CrcOwn_walk (a : Option Addr) (cap : Nat) (l : List UInt8) (at_ : Int) (w : World) (hA : BytesAt w a l) (hl : l.length ≤ cap) (hn : a = none → cap = 0) :
    Calls Try.prog 7 #[.slice a l.length cap, .int .i64 at_] w fun e w' => e = .returned (.bool true) ∧ Below w.heap.size w w' := by
  obtain ⟨m, hm⟩ : ∃ m, m = min l.length 1000 := ⟨_, rfl⟩
  have hmin : (if (1000 : Int) < (l.length : Int) then (1000 : Int) else (l.length : Int)) = (m : Int) := by rw [hm]; split <;> omega
  have hmt : (l.take m).length = m := by rw [List.length_take]; omega
  have hm2 : m ≤ 1000 := by omega
  have hmc : m ≤ cap := by omega
  obtain ⟨k0, hk0, hand⟩ := and_i64 at_ 16777215 (by omega)
  have hand : Go.bits .and .i64 at_ 16777215 = (k0 : Int) := hand
  have Ht := Lib.hid hmt
  clear hm hmt
  go_enter Try.func7, Try.ntmps7
  go_wp2_with fail
  refine (shown_calls _).mono ?_
  rintro e w1 ⟨rfl, hb1⟩
  have hA1 := (hA.below hb1).take m
  go_wp2_with (at_builtin; refine wpList_append_bytes rfl (.tmp 10) (.tmp 15) rfl w1.heap.size _ 0 [] rfl (OwnsB.empty w1) a m cap (l.take m) rfl hn (hA1.below ((Below.refl _ _).alloc (Nat.le_refl _) _)) Ht.out (by omega) (by simp) ?next)
  case next =>
  intro g cap' w2 hown hgrow _ _
  have hb2 : Below w1.heap.size w1 w2 := ((Below.refl _ _).alloc (Nat.le_refl _) _).grown hgrow (by simp) (fun k h => by simp [Value.ownBlock] at h; omega)
  obtain ⟨p, hp⟩ : ∃ p, p = l.take m := ⟨_, rfl⟩
  have hpl : p.length = m := by rw [hp]; exact Ht.out
  rw [← hp] at hown
  clear hgrow Ht hp hA1
  have Hpl := Lib.hid hpl
  clear hpl
  have hG2 := hown.reads
  go_wp2_with fail
  refine (sum_calls _ m _ p _ Hpl.out.symm (by have := Hpl.out; omega) hG2).mono ?_
  rintro e w3 ⟨rfl, hb3⟩
  have hown3 := hown.below hb3
  clear hown hG2
  obtain ⟨s, hs⟩ : ∃ s, s = more 0#32 p := ⟨_, rfl⟩
  rw [← hs]
  have Hs := Lib.hid hs
  clear hs
  have hs0 := num_nonneg s
  have hs1 := num_lt s
  go_wp2_with (at_builtin; refine wpList_append_bytes rfl (.tmp 19) (.tmp 31) rfl w1.heap.size _ m p rfl (hown3.alloc _) (some ⟨w3.heap.size, 0, none⟩) 4 4 (le4 s) rfl (by simp) (BytesAt.made (le4 s) (by simp [le4, byteV, num_byte0, num_byte8, num_byte16, num_byte24'])) rfl (by omega) (by have := hb2.size; have := hb3.size; simp; omega) ?next2)
  case next2 =>
  intro g4 cap4 w4 hown4 hgrow4 _ _
  have hs3 : w1.heap.size ≤ w3.heap.size := by have := hb2.size; have := hb3.size; omega
  have hb4 : Below w1.heap.size w3 w4 := ((Below.refl _ _).alloc hs3 _).grown hgrow4 (by simp; omega) (fun k h => by have := World.ownsRow.lt hown3 k h; omega)
  have hq := more_own p
  rw [← Hs.out] at hq
  obtain ⟨q, hqq⟩ : ∃ q, q = p ++ le4 s := ⟨_, rfl⟩
  rw [← hqq] at hown4 hq
  have hql : q.length = m + 4 := by rw [hqq]; simp [le4, Hpl.out]
  obtain ⟨gb, rfl, hgb, hgs, hgc, hgf⟩ := hown4.at (by omega)
  have hq2 : num (more 0#32 q) = 558161692 := by rw [hq, num_eq]; decide
  have Hq := Lib.hid hq
  have Hql := Lib.hid hql
  clear hq hqq hql hgrow4 hown3 hgc hgf hs0 hs1
  have hG4 := hown4.reads
  go_wp2_with fail
  refine (sum_calls _ (m + 4) _ q _ Hql.out.symm (by have := Hql.out; omega) hG4).mono ?_
  rintro e w5 ⟨rfl, hb5⟩
  have hown5 := hown4.below hb5
  obtain ⟨gb', e, _, hgs5, hgc, hgf⟩ := hown5.at (by omega)
  cases e
  clear hG4 hown4
  obtain ⟨k, hk⟩ : ∃ k, k = k0 % (8 * (m + 4)) := ⟨_, rfl⟩
  have hkm : (k0 : Int) % (8 * ((m : Int) + 4)) = (k : Int) := by rw [hk]; simp
  have hkl : k < 8 * (m + 4) := by rw [hk]; exact Nat.mod_lt _ (by omega)
  clear hk
  have hc8 := hgc (k / 8) (by omega)
  have hf8 := hgf (k / 8)
  clear hgc hgf
  obtain ⟨x0, hx0⟩ : ∃ x0, x0 = q.getD (k / 8) 0 := ⟨_, rfl⟩
  rw [← hx0] at hc8
  have hx := flip_u8 x0 k
  obtain ⟨y, hy⟩ : ∃ y, y = x0 ^^^ UInt8.ofNat (2 ^ (k % 8)) := ⟨_, rfl⟩
  have hne : (num (more 0#32 (q.set (k / 8) y)) != 558161692) = true := by
    rw [bne_iff_ne]
    intro e
    rw [← hq2] at e
    rw [hy, hx0] at e
    exact more_flip_ne _ q k (by have := Hql.out; omega) (num_inj e)
  rw [← hy] at hx
  have hown6 := hown5.set (k / 8) y
  clear hy hx0
  go_wp2_with fail
  refine (sum_calls _ (m + 4) _ (q.set (k / 8) y) _ (by simp [Hql.out]) (by simp [Hql.out]; omega) hown6.reads).mono ?_
  rintro e w7 ⟨rfl, hb7⟩
  go_wp2_with fail
  go_ret
  have hb6 := (((hb2.trans (hb3.mono hb2.size)).trans hb4).trans (hb5.mono (Nat.le_trans hs3 hb4.size))).setCell (p := ⟨gb, k / 8, none⟩) hgb (.int .u8 y.toNat)
  exact ⟨rfl, bgo (bgo hb1 hb6) hb7⟩
end Go.Proofs.Ytmfghlblpebedaa
