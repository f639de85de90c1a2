/- What Crash and begin come to. -/
import Derived.Test.YtgicpialopccpaaDiskA
import Derived.BigRegion
import Derived.RegionTactic
namespace Go.Proofs.Ytgicpialopccpaa
open Go.RowKit

/-- The disk when so many of the writes that wait have been looked at. -/
def part (D : Dk) (keep : List Bool) (k : Nat) : Dk := { D with secs := Dk.keepFrom keep 0 (D.waits.take k) D.secs }

set_option maxHeartbeats 400000 in
theorem crash_calls (w : World) (p : Nat) (D : Dk) (M : Nat → Prop) (ka : Option Addr) (kn kc : Nat) (keep : List Bool) (hD : DiskAt w p D M) (hK : KBools w M ka keep) (hn : keep.length = kn) (hkn : kn ≤ 9223372036854775807) :
    Calls Try.prog 13 #[.pointer (some ⟨p, 0, none⟩), .slice ka kn kc] w fun e w' => e = .returned (.tuple #[]) ∧ DiskAt w' p (D.crash keep) M ∧ Keeps M w w' := by
  obtain ⟨sb, scs, wv, dvs, av, h⟩ := hD
  obtain ⟨c0, c1, c2, c3, c4, hf⟩ := h.cells
  have hsl := h.hw.1
  obtain ⟨wa, wc, hwv, _⟩ := ownsRow_slice hsl
  subst hwv
  have hwl : D.waits.length ≤ 9223372036854775807 := by obtain ⟨a, c, e, h1, h2⟩ := ownsRow_slice hsl; unfold maxLen at h2; omega
  go_enter Try.func13, Try.ntmps13
  go_wp2
  go_loopw [11] (fun i wr => ∃ (k : Nat) (scs' : List Value), k ≤ D.waits.length ∧ i = .int .i64 k ∧ DiskIn wr p sb scs' (.slice wa D.waits.length wc) dvs av (part D keep k) M ∧ Keeps M w wr) (fun i _ => D.waits.length - (intOf i).toNat)
  case atStart => exact ⟨0, scs, Nat.zero_le _, rfl, h, Keeps.refl _ _⟩
  case round =>
    obtain ⟨k, scs', hk, rfl, hr, hkeep⟩ := hrel
    by_cases hlt : k < D.waits.length
    · obtain ⟨wg, wc', e, hmg, hwc⟩ := hr.waitAt (by show 0 < D.waits.length; omega)
      cases e
      obtain ⟨cw1, cw2⟩ := hwc k hlt
      obtain ⟨db, dc, hdv, hdm, hdc⟩ := hr.datAt k hlt
      obtain ⟨r0, r1, r2, r3, r4, rf⟩ := hr.cells
      have hpl : p < wr.heap.size := World.block_lt_of_cell? _ _ r0
      have hsl' : sb < wr.heap.size := (Array.getElem?_eq_some_iff.1 hr.hs).1
      obtain ⟨at_, hat⟩ : ∃ a, a = (D.waits.getD k (0, [])).1 := ⟨_, rfl⟩
      have cw1' : wr.cell? ⟨wg, k * 2, none⟩ = some (.int .i64 ((at_ : Nat) : Int)) := by rw [hat]; exact cw1
      rw [hdv] at cw2
      have hKr := hK.keeps hkeep
      have hwk : (D.waits.getD k (0, [])) ∈ D.waits := by simp [List.getD, hlt]
      have hatl : at_ < D.secs.length := by rw [hat]; exact (h.ok.waits _ hwk).2
      have hsl4 := h.len
      have hsn : scs'.length = D.secs.length := by have := hr.sl; unfold part at this; rw [Dk.keepFrom_len] at this; exact this
      have cs : wr.cell? ⟨sb, at_, none⟩ = some (scs'.getD at_ undef) := by rw [cell_of hr.hs]; simp [List.getD, show at_ < scs'.length by omega]
      have fs : wr.frozen? ⟨sb, at_, none⟩ = false := free_of hr.hs
      have hlp : (part D keep k).secs.length = D.secs.length := by unfold part; rw [Dk.keepFrom_len]
      rw [hlp] at r0
      obtain ⟨sv, hsv⟩ : ∃ sv, sv = scs'.getD at_ undef := ⟨_, rfl⟩
      rw [← hsv] at cs
      have a0 : (0 : Int) ≤ (at_ : Int) := by omega
      have a1 : (at_ : Int) < (D.secs.length : Int) := by omega
      have Hat := Lib.hid hat
      have Hdv := Lib.hid hdv
      clear hat hsv hdv cw1 hwc rf r2 r3 r4 r1 c0 c1 c2 c3 c4 hf hsl hlp
      by_cases hkl : k < kn
      · obtain ⟨kb, ko, rfl, hkc⟩ := hKr.1 k (by omega)
        have hkbl := World.block_lt_of_cell? _ _ hkc
        cases hkv : keep.getD k false with
        | true =>
          rw [hkv] at hkc
          have hr1 := hr.setSec at_ k (by show at_ < (part D keep k).secs.length; unfold part; rw [Dk.keepFrom_len]; exact hatl) hlt
          have hpart : part D keep (k + 1) = { part D keep k with secs := (part D keep k).secs.set at_ ((part D keep k).waits.getD k (0, [])).2 } := by
            unfold part
            rw [Dk.keepFrom_take keep _ _ hlt, if_pos hkv, Hat.out]
          rw [← hpart, Hdv.out] at hr1
          have hr2 := hr1.frame (w' := ((wr.setCell ⟨sb, at_, none⟩ (Value.slice (some ⟨db, 0, none⟩) 512 dc)).alloc (Obj.cells #[Value.int .i64 (at_ : Int), Value.slice (some ⟨db, 0, none⟩) 512 dc] 70)).drew) (fun k hk _ => Below.heap_alloc _ _ _ hk) (by simp)
          have hk2 : Keeps M w (((wr.setCell ⟨sb, at_, none⟩ (Value.slice (some ⟨db, 0, none⟩) 512 dc)).alloc (Obj.cells #[Value.int .i64 (at_ : Int), Value.slice (some ⟨db, 0, none⟩) 512 dc] 70)).drew) := ((hkeep.setHot (p := ⟨sb, at_, none⟩) h.hs h.msb rfl _).alloc _).drew
          clear hpart hr1 hr hkeep hwk hkv hK hKr
          go_wp2
          go_region
          go_wp2
          go_roundw
          case rel => exact ⟨k + 1, _, by omega, by go_num, hr2, hk2⟩
          case measure => simp [intOf]; omega
        | false =>
          rw [hkv] at hkc
          have hr1 := hr.frame (w' := wr.alloc (Obj.cells #[Value.int .i64 (at_ : Int), Value.slice (some ⟨db, 0, none⟩) 512 dc] 70)) (fun k hk _ => Below.heap_alloc _ _ _ hk) (by simp)
          have hpart : part D keep (k + 1) = part D keep k := by
            unfold part
            rw [Dk.keepFrom_take keep _ _ hlt, if_neg (by rw [hkv]; simp)]
          rw [← hpart] at hr1
          have hk2 : Keeps M w (wr.alloc (Obj.cells #[Value.int .i64 (at_ : Int), Value.slice (some ⟨db, 0, none⟩) 512 dc] 70)) := hkeep.alloc _
          clear hpart hr hkeep hwk hkv hK hKr
          go_wp2
          go_roundw
          case rel => exact ⟨k + 1, _, by omega, by go_num, hr1, hk2⟩
          case measure => simp [intOf]; omega
      · have hkv : keep.getD k false = false := by simp [List.getD, show ¬ k < keep.length by omega]
        have hr1 := hr.frame (w' := wr.alloc (Obj.cells #[Value.int .i64 (at_ : Int), Value.slice (some ⟨db, 0, none⟩) 512 dc] 70)) (fun k hk _ => Below.heap_alloc _ _ _ hk) (by simp)
        have hpart : part D keep (k + 1) = part D keep k := by
          unfold part
          rw [Dk.keepFrom_take keep _ _ hlt, if_neg (by rw [hkv]; simp)]
        rw [← hpart] at hr1
        have hk2 : Keeps M w (wr.alloc (Obj.cells #[Value.int .i64 (at_ : Int), Value.slice (some ⟨db, 0, none⟩) 512 dc] 70)) := hkeep.alloc _
        clear hpart hr hkeep hwk hkv hK hKr
        go_wp2
        go_roundw
        case rel => exact ⟨k + 1, _, by omega, by go_num, hr1, hk2⟩
        case measure => simp [intOf]; omega
    · have ek : k = D.waits.length := by omega
      subst ek
      have hall : part D keep D.waits.length = { D with secs := Dk.keepFrom keep 0 D.waits D.secs } := by unfold part; rw [List.take_length]
      rw [hall] at hr
      obtain ⟨r0, r1, r2, r3, r4, rf⟩ := hr.cells
      have f1 := rf 1
      have f2 := rf 2
      have f4 := rf 4
      clear hall rf hK c0 c1 c2 c3 c4 hf
      go_wp2
      go_end0
      refine ⟨rfl, ⟨sb, scs', .slice none 0 0, [], .pointer none, hr.atP (D' := D.crash keep) (fun k _ hk => ?_) (by simp) _ _ _ ?_ rfl (.inr ⟨rfl, rfl, rfl⟩) (.inr ⟨rfl, rfl⟩) hr.ops⟩, ((hkeep.setHot (p := ⟨p, 1, none⟩) h.hp h.mp rfl _).setHot (p := ⟨p, 2, none⟩) h.hp h.mp rfl _).setHot (p := ⟨p, 4, none⟩) h.hp h.mp rfl _⟩
      · rw [heap_set_other hk, heap_set_other hk, heap_set_other hk]
      · rw [heap_set (heap_set (heap_set hr.hp))]; rfl
end Go.Proofs.Ytgicpialopccpaa
