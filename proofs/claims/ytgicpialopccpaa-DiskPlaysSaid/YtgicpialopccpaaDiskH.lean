/- What Barrier, Arm and Write come to. -/
import Derived.Test.YtgicpialopccpaaDiskG
namespace Go.Proofs.Ytgicpialopccpaa
open Go.RowKit

def partF (D : Dk) (k : Nat) : Dk := { D with secs := Dk.flush (D.waits.take k) D.secs }

theorem barrier_begun {D : Dk} (h : D.fell.down = false) : D.barrier = { D.begun with secs := Dk.flush D.begun.waits D.begun.secs, waits := [] } := by
  simp [Dk.barrier, Dk.begun, h]

set_option maxHeartbeats 800000 in
theorem barrier_down (w : World) (p : Nat) (D : Dk) (M : Nat → Prop) (hD : DiskAt w p D M) (hd : D.fell.down = true) :
    Calls Try.prog 18 #[.pointer (some ⟨p, 0, none⟩)] w fun e w' => e = .returned (.int .i64 11) ∧ DiskAt w' p D.barrier M ∧ Keeps M w w' := by
  have eb : D.barrier = D.begun := by simp [Dk.barrier, Dk.begun, hd]
  rw [eb]
  go_enter Try.func18, Try.ntmps18
  go_wp2_with fail
  refine (begin_calls _ p D M hD).mono ?_
  have eb : beginE D = 11 := by simp [beginE, hd]
  rw [eb]
  rintro e w2 ⟨rfl, hD2, hk⟩
  clear eb hd
  go_wp2
  go_ret
  exact ⟨rfl, hD2, hk⟩

set_option maxHeartbeats 800000 in
theorem barrier_ok (w : World) (p : Nat) (D : Dk) (M : Nat → Prop) (hD : DiskAt w p D M) (hd : D.fell.down = false) :
    Calls Try.prog 18 #[.pointer (some ⟨p, 0, none⟩)] w fun e w' => e = .returned (.int .i64 0) ∧ DiskAt w' p D.barrier M ∧ Keeps M w w' := by
  rw [barrier_begun hd]
  go_enter Try.func18, Try.ntmps18
  go_wp2_with fail
  refine (begin_calls _ p D M hD).mono ?_
  have eb : beginE D = 0 := by simp [beginE, hd]
  rw [eb]
  obtain ⟨D2, hDe⟩ : ∃ D2, D2 = D.begun := ⟨_, rfl⟩
  rw [← hDe]
  rintro e w0 ⟨rfl, hD2, hk0⟩
  obtain ⟨sb, scs, wv, dvs, av, h⟩ := hD2
  obtain ⟨c0, c1, c2, c3, c4, hf⟩ := h.cells
  have hsl := h.hw.1
  obtain ⟨wa, wc, hwv, _⟩ := ownsRow_slice hsl
  subst hwv
  have hwl : D2.waits.length ≤ 9223372036854775807 := by obtain ⟨a, c, e, h1, h2⟩ := ownsRow_slice hsl; unfold maxLen at h2; omega
  have HDe := Lib.hid hDe
  clear eb hd hDe hD
  go_wp2
  go_loopw [16] (fun i wr => ∃ (k : Nat) (scs' : List Value), k ≤ D2.waits.length ∧ i = .int .i64 k ∧ DiskIn wr p sb scs' (.slice wa D2.waits.length wc) dvs av (partF D2 k) M ∧ Keeps M w0 wr) (fun i _ => D2.waits.length - (intOf i).toNat)
  case atStart => exact ⟨0, scs, Nat.zero_le _, rfl, h, Keeps.refl _ _⟩
  case round =>
    obtain ⟨k, scs', hk, rfl, hr, hkeep⟩ := hrel
    by_cases hlt : k < D2.waits.length
    · obtain ⟨wg, wc', e, hmg, hwc⟩ := hr.waitAt (by show 0 < D2.waits.length; omega)
      cases e
      obtain ⟨cw1, cw2⟩ := hwc k hlt
      obtain ⟨db, dc, hdv, hdm, hdc⟩ := hr.datAt k hlt
      obtain ⟨r0, r1, r2, r3, r4, rf⟩ := hr.cells
      have hpl : p < wr.heap.size := World.block_lt_of_cell? _ _ r0
      have hsl' : sb < wr.heap.size := (Array.getElem?_eq_some_iff.1 hr.hs).1
      obtain ⟨at_, hat⟩ : ∃ a, a = (D2.waits.getD k (0, [])).1 := ⟨_, rfl⟩
      have cw1' : wr.cell? ⟨wg, k * 2, none⟩ = some (.int .i64 ((at_ : Nat) : Int)) := by rw [hat]; exact cw1
      rw [hdv] at cw2
      have hwk : (D2.waits.getD k (0, [])) ∈ D2.waits := by simp [List.getD, hlt]
      have hatl : at_ < D2.secs.length := by rw [hat]; exact (h.ok.waits _ hwk).2
      have hsl4 := h.len
      have hsn : scs'.length = D2.secs.length := by have := hr.sl; unfold partF at this; rw [Dk.flush_len] at this; exact this
      have cs : wr.cell? ⟨sb, at_, none⟩ = some (scs'.getD at_ undef) := by rw [cell_of hr.hs]; simp [List.getD, show at_ < scs'.length by omega]
      have fs : wr.frozen? ⟨sb, at_, none⟩ = false := free_of hr.hs
      have hlp : (partF D2 k).secs.length = D2.secs.length := by unfold partF; rw [Dk.flush_len]
      rw [hlp] at r0
      obtain ⟨sv, hsv⟩ : ∃ sv, sv = scs'.getD at_ undef := ⟨_, rfl⟩
      rw [← hsv] at cs
      have a0 : (0 : Int) ≤ (at_ : Int) := by omega
      have a1 : (at_ : Int) < (D2.secs.length : Int) := by omega
      have Hat := Lib.hid hat
      have Hdv := Lib.hid hdv
      clear hat hsv hdv cw1 hwc rf r2 r3 r4 r1 c0 c1 c2 c3 c4 hf hsl hlp
      have hr1 := hr.setSec at_ k (by show at_ < (partF D2 k).secs.length; unfold partF; rw [Dk.flush_len]; exact hatl) hlt
      have hpart : partF D2 (k + 1) = { partF D2 k with secs := (partF D2 k).secs.set at_ ((partF D2 k).waits.getD k (0, [])).2 } := by
        unfold partF
        rw [Dk.flush_take _ _ hlt, Hat.out]
      rw [← hpart, Hdv.out] at hr1
      have hr2 := hr1.frame (w' := ((wr.setCell ⟨sb, at_, none⟩ (Value.slice (some ⟨db, 0, none⟩) 512 dc)).alloc (Obj.cells #[Value.int .i64 (at_ : Int), Value.slice (some ⟨db, 0, none⟩) 512 dc] 70)).drew) (fun k hk _ => Below.heap_alloc _ _ _ hk) (by simp)
      have hk2 : Keeps M w0 (((wr.setCell ⟨sb, at_, none⟩ (Value.slice (some ⟨db, 0, none⟩) 512 dc)).alloc (Obj.cells #[Value.int .i64 (at_ : Int), Value.slice (some ⟨db, 0, none⟩) 512 dc] 70)).drew) := ((hkeep.setHot (p := ⟨sb, at_, none⟩) h.hs h.msb rfl _).alloc _).drew
      clear hpart hr1 hr hkeep hwk
      go_wp2
      go_region
      go_wp2
      go_roundw
      case rel => exact ⟨k + 1, _, by omega, by go_num, hr2, hk2⟩
      case measure => simp [intOf]; omega
    · have ek : k = D2.waits.length := by omega
      subst ek
      have hall : partF D2 D2.waits.length = { D2 with secs := Dk.flush D2.waits D2.secs } := by unfold partF; rw [List.take_length]
      rw [hall] at hr
      obtain ⟨r0, r1, r2, r3, r4, rf⟩ := hr.cells
      have f1 := rf 1
      clear hall rf c0 c1 c2 c3 c4 hf
      go_wp2
      go_ret
      rw [← HDe.out]
      refine ⟨rfl, ⟨sb, scs', .slice none 0 0, [], av, hr.atP (D' := { D2 with secs := Dk.flush D2.waits D2.secs, waits := [] }) (fun k _ hk => heap_set_other hk) (by simp) _ _ _ ?_ rfl (.inr ⟨rfl, rfl, rfl⟩) (.inl ⟨rfl, rfl⟩) hr.ops⟩, hk0.trans (hkeep.setHot (p := ⟨p, 1, none⟩) h.hp h.mp rfl _)⟩
      rw [heap_set hr.hp]; rfl
end Go.Proofs.Ytgicpialopccpaa
