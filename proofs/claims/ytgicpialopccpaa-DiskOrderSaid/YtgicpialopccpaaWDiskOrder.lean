/- DiskOrder: the law and the walk. -/
import Derived.Test.YtgicpialopccpaaDiskQ
import Derived.Deep.RegionHeld
namespace Go.Proofs.Ytgicpialopccpaa
open Go.RowKit

/-- The last of those that are kept, or what was. -/
def wantF (kl : List Bool) : Nat → List UInt8 → UInt8 → UInt8
  | _, [], c => c
  | i, x :: l, c => wantF kl (i + 1) l (if kl.getD i false then x else c)
theorem wantF_snoc (kl : List Bool) (xs : List UInt8) (x : UInt8) : ∀ (i : Nat) (c : UInt8), wantF kl i (xs ++ [x]) c = if kl.getD (i + xs.length) false then x else wantF kl i xs c := by
  induction xs with
  | nil => intro i c; rfl
  | cons y xs ih =>
    intro i c
    rw [List.cons_append, wantF, ih, wantF]
    have e : i + 1 + xs.length = i + (y :: xs).length := by simp; omega
    rw [e]
theorem keepFrom_want (kl kl' : List Bool) (xs : List UInt8) : ∀ (i : Nat) (c : UInt8), (∀ j, j < i + xs.length → kl'.getD j false = kl.getD j false) → Dk.keepFrom kl' i (xs.map fun x => (0, full x)) [full c] = [full (wantF kl i xs c)] := by
  induction xs with
  | nil => intro i c _; rfl
  | cons x xs ih =>
    intro i c h
    rw [List.map_cons, Dk.keepFrom, wantF, h i (by simp)]
    cases kl.getD i false
    · exact ih (i + 1) c (fun j hj => h j (by simp; omega))
    · exact ih (i + 1) x (fun j hj => h j (by simp; omega))
structure Ord (D : Dk) (was : UInt8) (xs : List UInt8) : Prop where
  down : D.down = false
  armed : D.armed = none
  secs : D.secs = [full was]
  waits : D.waits = xs.map fun x => (0, full x)
theorem Ord.calm {D : Dk} {was : UInt8} {xs : List UInt8} (h : Ord D was xs) : Calm D 1 xs.length := ⟨by rw [h.secs]; rfl, by rw [h.waits]; simp, h.down, h.armed⟩
theorem Ord.write {D : Dk} {was : UInt8} {xs : List UInt8} (h : Ord D was xs) (x : UInt8) : Ord (D.write 0 (full x)) was (xs ++ [x]) := by
  have e : D.write 0 (full x) = { D.counted with waits := D.counted.waits ++ [(0, full x)] } := by simp [Dk.write, h.calm.fell, h.down]
  rw [e]
  exact ⟨h.down, by simp [Dk.counted, h.armed], h.secs, by simp [Dk.counted, h.waits]⟩
theorem ord_first (was : UInt8) : Ord (((Dk.new 1).write 0 (full was)).barrier) was [] := ⟨rfl, rfl, rfl, rfl⟩
theorem Ord.crash {D : Dk} {was : UInt8} {xs : List UInt8} (h : Ord D was xs) (kl kl' : List Bool) (hk : ∀ j, j < xs.length → kl'.getD j false = kl.getD j false) : Quiet (D.crash kl').start [full (wantF kl 0 xs was)] ∧ startE (D.crash kl') = 0 := by
  refine ⟨⟨rfl, rfl, rfl, ?_⟩, rfl⟩
  show Dk.keepFrom kl' 0 D.waits D.secs = _
  rw [h.waits, h.secs]
  exact keepFrom_want kl kl' xs 0 was (fun j hj => hk j (by omega))

set_option maxRecDepth 20000 in
set_option maxHeartbeats 8000000 in
theorem DiskOrder_walk (w : World) (a : Option Addr) (c : Nat) (l : List UInt8) (ka : Option Addr) (kc : Nat) (kl : List Bool) (was : UInt8) (Was : Int) (hWas : Was = (was.toNat : Int)) (len klen : Nat)
    (hl : l.length = len) (hkl : kl.length = klen) (hA : BytesAt w a l) (hK : BoolsAt w ka kl) (hkc : klen ≤ kc) :
    Calls Try.prog 6 #[.slice a len c, .slice ka klen kc, .int .u8 Was] w fun e w' => e = .returned (.bool true) ∧ Below w.heap.size w w' := by
  subst hWas
  obtain ⟨km, hkm⟩ : ∃ m, m = min klen 60 := ⟨_, rfl⟩
  have hkmin : (if (60 : Int) < (klen : Int) then (60 : Int) else (klen : Int)) = (km : Int) := by rw [hkm]; split <;> omega
  have hkt : (kl.take km).length = km := by rw [List.length_take]; omega
  have hkm2 : km ≤ 60 := by omega
  have hkmc : km ≤ kc := by omega
  have hcut : ∀ j, j < 20 → (kl.take km).getD j false = kl.getD j false := by
    intro j hj
    by_cases h : j < klen
    · have : j < km := by omega
      simp [List.getD, this]
    · simp [List.getD, List.getElem?_eq_none (show (kl.take km).length ≤ j by omega), List.getElem?_eq_none (show kl.length ≤ j by omega)]
  have Hkt := Lib.hid hkt
  have Hcut := Lib.hid hcut
  obtain ⟨M, hM⟩ : ∃ M : Nat → Prop, M = fun k => w.heap.size ≤ k := ⟨_, rfl⟩
  have hMn : ∀ k, w.heap.size ≤ k → M k := fun k hk => by rw [hM]; exact hk
  have hMd : ∀ k, M k → w.heap.size ≤ k := fun k hk => by rw [hM] at hk; exact hk
  have Hkl := Lib.hid hkl
  clear hM hkm hkt hkl hkc hcut
  go_enter Try.func6, Try.ntmps6
  go_wp2_with fail
  refine (shown_calls w).mono ?_
  rintro e w1 ⟨rfl, hb1⟩
  have k1 : Keeps M w w1 := Keeps.of_below hb1
  have hM1 : ∀ k, w1.heap.size ≤ k → M k := fun k hk => hMn k (Nat.le_trans hb1.size hk)
  clear hb1 hMn
  go_wp2_with fail
  refine (new_calls 1 1 rfl w1 M hM1 (by omega) (by omega)).mono ?_
  obtain ⟨p, hp⟩ : ∃ p, p = w1.heap.size + 1 := ⟨_, rfl⟩
  rw [← hp]
  rintro e w2 ⟨rfl, h2, hb2, -⟩
  have k2 := k1.trans (Keeps.of_below hb2)
  have i2 := Calm.new 1
  have i4 := ord_first was
  obtain ⟨D0, hD0⟩ : ∃ D0, D0 = Dk.new 1 := ⟨_, rfl⟩
  rw [← hD0] at h2 i2 i4
  clear hp hM1 hb2 k1 hD0
  go_wp2_with fail
  refine (sector_calls w2 was _ rfl).mono ?_
  rintro e w3 ⟨rfl, o3, hb3⟩
  have h3 := h2.grow hb3
  have k3 := k2.trans (Keeps.of_below hb3)
  have l0 : 0 < D0.secs.length := by rw [i2.len]; omega
  have s0 : D0.fell.waits.length ≤ 100000 := Nat.le_trans i2.fwaits (by omega)
  clear h2 k2 hb3
  go_wp2_with fail
  refine (write_calls w3 p D0 M 0 0 rfl (full was) _ _ 512 h3 l0 o3 s0).mono ?_
  rintro e w4 ⟨rfl, h4, k4⟩
  have k4 := k3.trans k4
  obtain ⟨D1, hD1⟩ : ∃ D1, D1 = D0.write 0 (full was) := ⟨_, rfl⟩
  rw [← hD1] at h4 i4
  clear h3 k3 o3 l0 s0 i2 hD1
  go_wp2_with fail
  refine (barrier_calls w4 p D1 M h4).mono ?_
  rintro e w5 ⟨rfl, h5, k5⟩
  have k5 := k4.trans k5
  obtain ⟨D2, hD2⟩ : ∃ D2, D2 = D1.barrier := ⟨_, rfl⟩
  rw [← hD2] at h5 i4
  clear h4 k4 hD2
  go_wp2
  go_loopw [11, 10] (fun i v wr => ∃ (k : Nat) (D : Dk), k ≤ len ∧ k ≤ 20 ∧ i = .int .i64 k ∧ v = .int .u8 ((wantF kl 0 (l.take k) was).toNat : Int) ∧ DiskAt wr p D M ∧ Ord D was (l.take k) ∧ Keeps M w wr) (fun i _ _ => len - (intOf i).toNat)
  case atStart => exact ⟨0, D2, Nat.zero_le _, Nat.zero_le _, rfl, rfl, h5, i4, k5⟩
  case round =>
    clear h5 i4 k5
    obtain ⟨k, D, hk, hk8, rfl, rfl, hD, hI, hkeep⟩ := hrel
    have htk : (l.take k).length = k := by rw [List.length_take]; omega
    obtain ⟨wt, hwt0⟩ : ∃ wt, wt = wantF kl 0 (l.take k) was := ⟨_, rfl⟩
    rw [← hwt0]
    have Hwt0 := Lib.hid hwt0
    clear hwt0
    by_cases hlt : k < len ∧ k < 20
    · obtain ⟨hlt1, hlt8⟩ := hlt
      have hlt8i : (k : Int) < 20 := by omega
      obtain ⟨b, o, rfl, hc⟩ := hA k (by omega)
      have hBl := hkeep.below hMd (Nat.le_refl _)
      have hcr := (hBl.cell (p := ⟨b, o + k, none⟩) (World.block_lt_of_cell? _ _ hc)).trans hc
      have hblt : b < w.heap.size := World.block_lt_of_cell? _ _ hc
      obtain ⟨x, hx⟩ : ∃ x, x = l.getD k 0 := ⟨_, rfl⟩
      rw [← hx] at hcr
      have htk1 : l.take (k + 1) = l.take k ++ [x] := by
        rw [List.take_succ_eq_append_getElem (by omega), hx]; simp [List.getD, show k < l.length by omega]
      have hI2 := hI.write x
      rw [← htk1] at hI2
      have hw2 : wantF kl 0 (l.take (k + 1)) was = if kl.getD k false then x else wt := by rw [htk1, wantF_snoc, Nat.zero_add, htk, Hwt0.out]
      have Hw2 := Lib.hid hw2
      have hlenD := hI.calm.len
      have hwt := hI.calm.fwaits
      rw [htk] at hwt
      clear hc hx hI htk1 hw2 htk Hwt0
      go_wp2_with fail
      refine (sector_calls wr x _ rfl).mono ?_
      rintro e ws ⟨rfl, os, hbs⟩
      have hDs := hD.grow hbs
      have hkeep := hkeep.trans (Keeps.of_below hbs)
      go_wp2_with fail
      refine (write_calls ws p D M 0 0 rfl (full x) _ _ 512 hDs (by omega) os (by omega)).mono ?_
      rintro e wa ⟨rfl, hDa, hka⟩
      have hk2 := hkeep.trans hka
      have hBa := hk2.below hMd (Nat.le_refl _)
      have hca : wa.cell? ⟨b, o + k, none⟩ = some (.int .u8 x.toNat) := by
        rw [World.cell?_of_block (w := w) (hBa.block b hblt), ← World.cell?_of_block (w := w) (hBl.block b hblt)]; exact hcr
      clear hkeep hD hDs os hbs hcr
      by_cases hkk : k < klen
      · obtain ⟨kb, ko, rfl, hkcell⟩ := hK k (by have := Hkl.out; omega)
        have hkca := (hBa.cell (p := ⟨kb, ko + k, none⟩) (World.block_lt_of_cell? _ _ hkcell)).trans hkcell
        cases hbit : kl.getD k false with
        | true =>
          rw [hbit] at hkca
          have hw2 := Hw2.out
          rw [hbit, if_pos rfl] at hw2
          have hw3 := Lib.hid hw2
          clear hkcell hw2 hbit hBl hBa hA hK
          go_wp2
          go_roundw
          case rel => exact ⟨k + 1, _, by omega, by omega, by go_num, by rw [hw3.out], hDa, hI2, hk2⟩
          case measure => simp [intOf]; omega
        | false =>
          rw [hbit] at hkca
          have hw2 := Hw2.out
          rw [hbit, if_neg (by simp)] at hw2
          have hw3 := Lib.hid hw2
          clear hkcell hw2 hbit hBl hBa hA hK
          go_wp2
          go_roundw
          case rel => exact ⟨k + 1, _, by omega, by omega, by go_num, by rw [hw3.out], hDa, hI2, hk2⟩
          case measure => simp [intOf]; omega
      · have hw2 := Hw2.out
        rw [if_neg (by simp [List.getD, List.getElem?_eq_none (show kl.length ≤ k by have := Hkl.out; omega)])] at hw2
        have hw3 := Lib.hid hw2
        clear hw2 hBl hBa hA hK
        go_wp2
        go_roundw
        case rel => exact ⟨k + 1, _, by omega, by omega, by go_num, by rw [hw3.out], hDa, hI2, hk2⟩
        case measure => simp [intOf]; omega
    · by_cases hkl : k < len
      · have hk80 : ¬ (k : Int) < 20 := by omega
        clear hlt hA
        have hKB := kbools_arg hMd (hkeep.below hMd (Nat.le_refl _)) hK km
        go_wp2_with fail
        refine (crash_calls wr p D M ka km kc (kl.take km) hD hKB Hkt.out (by omega)).mono ?_
        rintro e w4 ⟨rfl, h4, k4⟩
        have k4 := hkeep.trans k4
        obtain ⟨q4, s4⟩ := hI.crash kl (kl.take km) (fun j hj => Hcut.out j (by rw [htk] at hj; omega))
        rw [← Hwt0.out] at q4
        obtain ⟨D2, hD2⟩ : ∃ D2, D2 = D.crash (kl.take km) := ⟨_, rfl⟩
        rw [← hD2] at h4 q4 s4
        clear hD2 hD hKB hkeep hK hI htk Hwt0
        go_wp2_with fail
        refine (start_calls w4 p D2 M h4).mono ?_
        rw [s4]
        rintro e w5 ⟨rfl, h5, k5⟩
        have k5 := k4.trans k5
        obtain ⟨D3, hD3⟩ : ∃ D3, D3 = D2.start := ⟨_, rfl⟩
        rw [← hD3] at h5 q4
        have n30 : D3.begun.now 0 = full wt := q4.now 0
        have len3 : 0 < D3.secs.length := by rw [q4.secs]; simp
        have fd3 := q4.calm.fdown
        clear hD3 h4 k4 s4
        go_wp2_with fail
        refine (read_live w5 p D3 M 0 0 rfl h5 len3 fd3 (full wt) n30).mono ?_
        rintro e w6 ⟨Ba, -, rfl, ha6, h6, k6⟩
        have k6 := k5.trans k6
        have hfin := k6.below hMd (Nat.le_refl _)
        have rA := row_reads ha6
        have tr : ∀ w', Below w6.heap.size w6 w' → (convert 30 9 (.slice (some ⟨Ba, 0, none⟩) 512 512)).run Try.prog w' = .ok (.string ⟨(full wt).toArray⟩) w' := fun w' h => run_string (rA.below h) 512 512 (full_len wt)
        clear h5 k5 n30 len3 fd3 ha6 h6 k6 q4
        go_wp2_with fail
        go_region_held (fun w' => Below w6.heap.size w6 w') (first | assumption | exact (Below.refl _ _).drew | exact bgo (by assumption) (by assumption)) (first | (go_at_call 17; refine (sector_calls _ wt _ rfl).mono ?_; rintro e w9 ⟨rfl, hown9, hb9⟩; have t3 : (convert 30 9 (.slice (some ⟨w6.heap.size, 0, none⟩) 512 512)).run Try.prog w9 = _ := run_string hown9.reads 512 512 (full_len wt)))
        all_goals
          go_wp2
          go_ret
          exact ⟨rfl, hfin.trans (Below.mono (by assumption) hfin.size)⟩
      · have hkl' : ¬ (k : Int) < (len : Int) := by omega
        clear hlt hA
        have hKB := kbools_arg hMd (hkeep.below hMd (Nat.le_refl _)) hK km
        go_wp2_with fail
        refine (crash_calls wr p D M ka km kc (kl.take km) hD hKB Hkt.out (by omega)).mono ?_
        rintro e w4 ⟨rfl, h4, k4⟩
        have k4 := hkeep.trans k4
        obtain ⟨q4, s4⟩ := hI.crash kl (kl.take km) (fun j hj => Hcut.out j (by rw [htk] at hj; omega))
        rw [← Hwt0.out] at q4
        obtain ⟨D2, hD2⟩ : ∃ D2, D2 = D.crash (kl.take km) := ⟨_, rfl⟩
        rw [← hD2] at h4 q4 s4
        clear hD2 hD hKB hkeep hK hI htk Hwt0
        go_wp2_with fail
        refine (start_calls w4 p D2 M h4).mono ?_
        rw [s4]
        rintro e w5 ⟨rfl, h5, k5⟩
        have k5 := k4.trans k5
        obtain ⟨D3, hD3⟩ : ∃ D3, D3 = D2.start := ⟨_, rfl⟩
        rw [← hD3] at h5 q4
        have n30 : D3.begun.now 0 = full wt := q4.now 0
        have len3 : 0 < D3.secs.length := by rw [q4.secs]; simp
        have fd3 := q4.calm.fdown
        clear hD3 h4 k4 s4
        go_wp2_with fail
        refine (read_live w5 p D3 M 0 0 rfl h5 len3 fd3 (full wt) n30).mono ?_
        rintro e w6 ⟨Ba, -, rfl, ha6, h6, k6⟩
        have k6 := k5.trans k6
        have hfin := k6.below hMd (Nat.le_refl _)
        have rA := row_reads ha6
        have tr : ∀ w', Below w6.heap.size w6 w' → (convert 30 9 (.slice (some ⟨Ba, 0, none⟩) 512 512)).run Try.prog w' = .ok (.string ⟨(full wt).toArray⟩) w' := fun w' h => run_string (rA.below h) 512 512 (full_len wt)
        clear h5 k5 n30 len3 fd3 ha6 h6 k6 q4
        go_wp2_with fail
        go_region_held (fun w' => Below w6.heap.size w6 w') (first | assumption | exact (Below.refl _ _).drew | exact bgo (by assumption) (by assumption)) (first | (go_at_call 17; refine (sector_calls _ wt _ rfl).mono ?_; rintro e w9 ⟨rfl, hown9, hb9⟩; have t3 : (convert 30 9 (.slice (some ⟨w6.heap.size, 0, none⟩) 512 512)).run Try.prog w9 = _ := run_string hown9.reads 512 512 (full_len wt)))
        all_goals
          go_wp2
          go_ret
          exact ⟨rfl, hfin.trans (Below.mono (by assumption) hfin.size)⟩
end Go.Proofs.Ytgicpialopccpaa
