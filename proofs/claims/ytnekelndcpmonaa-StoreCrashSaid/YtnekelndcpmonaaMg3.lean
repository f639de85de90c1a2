/- What Barrier, Arm and Write come to. What Arm comes to. What Write comes to. The disk's functions in one form. Disks that no crash waits for. Sectors as they were written last; rows that stand. -/
import Derived.Test.YtnekelndcpmonaaMg2
import Derived.Deep.RegionLaw
set_option linter.all false
namespace Go.Proofs.Ytnekelndcpmonaa
open Go.RowKit

def partF (D : Dk) (k : Nat) : Dk := { D with secs := Dk.flush (D.waits.take k) D.secs }

theorem barrier_begun {D : Dk} (h : D.fell.down = false) : D.barrier = { D.begun with secs := Dk.flush D.begun.waits D.begun.secs, waits := [] } := by
  simp [Dk.barrier, Dk.begun, h]

set_option maxHeartbeats 800000 in
theorem barrier_down (w : World) (p : Nat) (D : Dk) (M : Nat → Prop) (hD : DiskAt w p D M) (hd : D.fell.down = true) :
    Calls Try.prog 54 #[.pointer (some ⟨p, 0, none⟩)] w fun e w' => e = .returned (.int .i64 11) ∧ DiskAt w' p D.barrier M ∧ Keeps M w w' := by
  have eb : D.barrier = D.begun := by simp [Dk.barrier, Dk.begun, hd]
  rw [eb]
  go_enter Try.func54, Try.ntmps54
  go_wp2_with fail
  refine (begin_calls _ p D M hD).mono ?_
  have eb : beginE D = 11 := by simp [beginE, hd]
  rw [eb]
  rintro e w2 ⟨rfl, hD2, hk⟩
  clear eb hd
  go_wp2
  go_ret
  exact ⟨rfl, hD2, hk⟩

set_option maxHeartbeats 800000 in
theorem barrier_ok (w : World) (p : Nat) (D : Dk) (M : Nat → Prop) (hD : DiskAt w p D M) (hd : D.fell.down = false) :
    Calls Try.prog 54 #[.pointer (some ⟨p, 0, none⟩)] w fun e w' => e = .returned (.int .i64 0) ∧ DiskAt w' p D.barrier M ∧ Keeps M w w' := by
  rw [barrier_begun hd]
  go_enter Try.func54, Try.ntmps54
  go_wp2_with fail
  refine (begin_calls _ p D M hD).mono ?_
  have eb : beginE D = 0 := by simp [beginE, hd]
  rw [eb]
  obtain ⟨D2, hDe⟩ : ∃ D2, D2 = D.begun := ⟨_, rfl⟩
  rw [← hDe]
  rintro e w0 ⟨rfl, hD2, hk0⟩
  obtain ⟨sb, scs, wv, dvs, av, h⟩ := hD2
  obtain ⟨c0, c1, c2, c3, c4, hf⟩ := h.cells
  have hsl := h.hw.1
  obtain ⟨wa, wc, hwv, _⟩ := ownsRow_slice hsl
  subst hwv
  have hwl : D2.waits.length ≤ 9223372036854775807 := by obtain ⟨a, c, e, h1, h2⟩ := ownsRow_slice hsl; unfold maxLen at h2; omega
  have HDe := Lib.hid hDe
  clear eb hd hDe hD
  go_wp2
  go_loopw [16] (fun i wr => ∃ (k : Nat) (scs' : List Value), k ≤ D2.waits.length ∧ i = .int .i64 k ∧ DiskIn wr p sb scs' (.slice wa D2.waits.length wc) dvs av (partF D2 k) M ∧ Keeps M w0 wr) (fun i _ => D2.waits.length - (intOf i).toNat)
  case atStart => exact ⟨0, scs, Nat.zero_le _, rfl, h, Keeps.refl _ _⟩
  case round =>
    obtain ⟨k, scs', hk, rfl, hr, hkeep⟩ := hrel
    by_cases hlt : k < D2.waits.length
    · obtain ⟨wg, wc', e, hmg, hwc⟩ := hr.waitAt (by show 0 < D2.waits.length; omega)
      cases e
      obtain ⟨cw1, cw2⟩ := hwc k hlt
      obtain ⟨db, dc, hdv, hdm, hdc⟩ := hr.datAt k hlt
      obtain ⟨r0, r1, r2, r3, r4, rf⟩ := hr.cells
      have hpl : p < wr.heap.size := World.block_lt_of_cell? _ _ r0
      have hsl' : sb < wr.heap.size := (Array.getElem?_eq_some_iff.1 hr.hs).1
      obtain ⟨at_, hat⟩ : ∃ a, a = (D2.waits.getD k (0, [])).1 := ⟨_, rfl⟩
      have cw1' : wr.cell? ⟨wg, k * 2, none⟩ = some (.int .i64 ((at_ : Nat) : Int)) := by rw [hat]; exact cw1
      rw [hdv] at cw2
      have hwk : (D2.waits.getD k (0, [])) ∈ D2.waits := by simp [List.getD, hlt]
      have hatl : at_ < D2.secs.length := by rw [hat]; exact (h.ok.waits _ hwk).2
      have hsl4 := h.len
      have hsn : scs'.length = D2.secs.length := by have := hr.sl; unfold partF at this; rw [Dk.flush_len] at this; exact this
      have cs : wr.cell? ⟨sb, at_, none⟩ = some (scs'.getD at_ undef) := by rw [cell_of hr.hs]; simp [List.getD, show at_ < scs'.length by omega]
      have fs : wr.frozen? ⟨sb, at_, none⟩ = false := free_of hr.hs
      have hlp : (partF D2 k).secs.length = D2.secs.length := by unfold partF; rw [Dk.flush_len]
      rw [hlp] at r0
      obtain ⟨sv, hsv⟩ : ∃ sv, sv = scs'.getD at_ undef := ⟨_, rfl⟩
      rw [← hsv] at cs
      have a0 : (0 : Int) ≤ (at_ : Int) := by omega
      have a1 : (at_ : Int) < (D2.secs.length : Int) := by omega
      have Hat := Lib.hid hat
      have Hdv := Lib.hid hdv
      clear hat hsv hdv cw1 hwc rf r2 r3 r4 r1 c0 c1 c2 c3 c4 hf hsl hlp
      have hr1 := hr.setSec at_ k (by show at_ < (partF D2 k).secs.length; unfold partF; rw [Dk.flush_len]; exact hatl) hlt
      have hpart : partF D2 (k + 1) = { partF D2 k with secs := (partF D2 k).secs.set at_ ((partF D2 k).waits.getD k (0, [])).2 } := by
        unfold partF
        rw [Dk.flush_take _ _ hlt, Hat.out]
      rw [← hpart, Hdv.out] at hr1
      have hr2 := hr1.frame (w' := ((wr.setCell ⟨sb, at_, none⟩ (Value.slice (some ⟨db, 0, none⟩) 512 dc)).alloc (Obj.cells #[Value.int .i64 (at_ : Int), Value.slice (some ⟨db, 0, none⟩) 512 dc] 83)).drew) (fun k hk _ => Below.heap_alloc _ _ _ hk) (by simp)
      have hk2 : Keeps M w0 (((wr.setCell ⟨sb, at_, none⟩ (Value.slice (some ⟨db, 0, none⟩) 512 dc)).alloc (Obj.cells #[Value.int .i64 (at_ : Int), Value.slice (some ⟨db, 0, none⟩) 512 dc] 83)).drew) := ((hkeep.setHot (p := ⟨sb, at_, none⟩) h.hs h.msb rfl _).alloc _).drew
      clear hpart hr1 hr hkeep hwk
      go_wp2
      go_region
      go_wp2
      go_roundw
      case rel => exact ⟨k + 1, _, by omega, by go_num, hr2, hk2⟩
      case measure => simp [intOf]; omega
    · have ek : k = D2.waits.length := by omega
      subst ek
      have hall : partF D2 D2.waits.length = { D2 with secs := Dk.flush D2.waits D2.secs } := by unfold partF; rw [List.take_length]
      rw [hall] at hr
      obtain ⟨r0, r1, r2, r3, r4, rf⟩ := hr.cells
      have f1 := rf 1
      clear hall rf c0 c1 c2 c3 c4 hf
      go_wp2
      go_ret
      rw [← HDe.out]
      refine ⟨rfl, ⟨sb, scs', .slice none 0 0, [], av, hr.atP (D' := { D2 with secs := Dk.flush D2.waits D2.secs, waits := [] }) (fun k _ hk => heap_set_other hk) (by simp) _ _ _ ?_ rfl (.inr ⟨rfl, rfl, rfl⟩) (.inl ⟨rfl, rfl⟩) hr.ops⟩, hk0.trans (hkeep.setHot (p := ⟨p, 1, none⟩) h.hp h.mp rfl _)⟩
      rw [heap_set hr.hp]; rfl
end Go.Proofs.Ytnekelndcpmonaa
namespace Go.Proofs.Ytnekelndcpmonaa
open Go.RowKit

/-- Another crash is armed. -/
theorem DiskIn.setArm {w w' : World} {p sb : Nat} {scs : List Value} {wv : Value} {dvs : List Value} {av : Value} {D : Dk} {M : Nat → Prop} (h : DiskIn w p sb scs wv dvs av D M)
    (hk : ∀ k, k < w.heap.size → k ≠ p → w'.heap[k]? = w.heap[k]?) (hsz : w.heap.size ≤ w'.heap.size) (av' : Value) (x : Option (Nat × List Bool))
    (hp' : w'.heap[p]? = some (.cells #[.slice (some ⟨sb, 0, none⟩) D.secs.length D.secs.length, wv, .bool D.down, .int .i64 D.ops, av'] 65 (0, 0))) (ha : ArmIn w' M av' x) : DiskIn w' p sb scs wv dvs av' { D with armed := x } M := by
  have lt : ∀ {k o}, w.heap[k]? = some o → k < w.heap.size := fun hh => (Array.getElem?_eq_some_iff.1 hh).1
  have hsp : sb ≠ p := fun e => by have := h.hs; rw [e, h.hp] at this; simp at this
  exact ⟨hp', h.mp, h.msb, by rw [hk sb (lt h.hs) hsp]; exact h.hs, h.sl, fun i hi => (h.sec i hi).imp id fun x => ⟨x.1, x.2.other h.hp (by decide) hk⟩,
    h.hw.other h.hp (by decide) hk, h.dl, fun i hi => (h.dat i hi).other h.hp (by decide) hk, ha, fun k hk' => h.new k (by omega), ⟨h.ok.secs, h.ok.waits⟩, h.len, h.ops⟩

set_option maxHeartbeats 800000 in
theorem arm_not (w : World) (p : Nat) (D : Dk) (M : Nat → Prop) (n : Int) (keep : List Bool) (hD : DiskAt w p D M) (hn : n < 0) (v : Value) :
    Calls Try.prog 24 #[.pointer (some ⟨p, 0, none⟩), .int .i64 n, v] w fun e w' => e = .returned (.tuple #[]) ∧ DiskAt w' p (D.arm n keep) M ∧ Keeps M w w' := by
  obtain ⟨sb, scs, wv, dvs, av, h⟩ := hD
  obtain ⟨c0, c1, c2, c3, c4, hf⟩ := h.cells
  have f4 := hf 4
  have e1 : D.arm n keep = { D with armed := none } := by unfold Dk.arm; rw [if_neg (by omega)]
  rw [e1]
  clear hf e1
  go_enter Try.func24, Try.ntmps24
  go_wp2
  go_end0
  exact ⟨rfl, ⟨_, _, _, _, _, h.setArm (w' := w.setCell ⟨p, 4, none⟩ (.pointer none)) (fun k _ hk => heap_set_other hk) (by simp) _ none (by rw [heap_set h.hp]; rfl) rfl⟩, (Keeps.refl _ _).setHot (p := ⟨p, 4, none⟩) h.hp h.mp rfl _⟩

set_option maxHeartbeats 800000 in
theorem arm_ok (w : World) (p : Nat) (D : Dk) (M : Nat → Prop) (n : Nat) (N : Int) (hN : N = (n : Int)) (keep : List Bool) (a : Option Addr) (kn kc : Nat) (hD : DiskAt w p D M) (hn : n ≤ 9223372036854775807) (hK : KBools w M a keep) (hl : keep.length = kn) (hkn : kn ≤ 1000000) (hnil : a = none → kc = 0) :
    Calls Try.prog 24 #[.pointer (some ⟨p, 0, none⟩), .int .i64 N, .slice a kn kc] w fun e w' => e = .returned (.tuple #[]) ∧ DiskAt w' p (D.arm (n : Int) keep) M ∧ Keeps M w w' := by
  subst hN
  obtain ⟨sb, scs, wv, dvs, av, h⟩ := hD
  obtain ⟨c0, c1, c2, c3, c4, hf⟩ := h.cells
  have f4 := hf 4
  have e1 : D.arm (n : Int) keep = { D with armed := some (n, keep) } := by unfold Dk.arm; rw [if_pos (by omega)]; rfl
  rw [e1]
  have h1 := h.setArm (w' := w.setCell ⟨p, 4, none⟩ (.pointer none)) (fun k _ hk => heap_set_other hk) (by simp) _ none (by rw [heap_set h.hp]; rfl) rfl
  have hk1 : Keeps M w (w.setCell ⟨p, 4, none⟩ (.pointer none)) := (Keeps.refl _ _).setHot (p := ⟨p, 4, none⟩) h.hp h.mp rfl _
  have hK1 := hK.keeps hk1
  have n0 : (0 : Int) ≤ (n : Int) := by omega
  clear hf e1 c0 c1 c2 c3
  go_enter Try.func24, Try.ntmps24
  go_wp2_with fail
  refine (cloneb_calls _ a kn kc keep hK1.1 hl hkn hnil).mono ?_
  rintro e w2 ⟨g, cap, rfl, hown, hb⟩
  have h2 := h1.frame (w' := w2) (fun k hk _ => hb.block k hk) hb.size
  have hk2 := hk1.trans (Keeps.of_below hb)
  obtain ⟨d0, d1, d2, d3, d4, df⟩ := h2.cells
  have f42 := df 4
  have hpl : p < w2.heap.size := World.block_lt_of_cell? _ _ d0
  clear df c4 f4
  go_wp2
  go_end0
  have hM : ∀ k, w2.heap.size ≤ k → M k := h2.new
  have hgM : ∀ g', (Value.slice g kn cap).ownBlock = some g' → M g' := fun g' hg' => h1.new g' (by
    rcases hown.2 with ⟨e, _⟩ | ⟨g2, _, _, e, hb2, _⟩
    · rw [e] at hg'; cases hg'
    · rw [e] at hg'; cases hg'; exact hb2)
  obtain ⟨w3, hw3⟩ : ∃ w3, w3 = w2.setCell ⟨p, 4, none⟩ (.pointer (some ⟨w2.heap.size, 0, none⟩)) := ⟨_, rfl⟩
  have hs3 : w3.heap.size = w2.heap.size := by rw [hw3]; simp
  have hk3 : Keeps M w2 w3 := by rw [hw3]; exact (Keeps.refl _ _).setHot (p := ⟨p, 4, none⟩) h2.hp h2.mp rfl _
  have hp3 : w3.heap[p]? = some (.cells #[.slice (some ⟨sb, 0, none⟩) D.secs.length D.secs.length, wv, .bool D.down, .int .i64 D.ops, .pointer (some ⟨w2.heap.size, 0, none⟩)] 65 (0, 0)) := by rw [hw3, heap_set h2.hp]; rfl
  have ho3 : ∀ k, k ≠ p → w3.heap[k]? = w2.heap[k]? := fun k hk => by rw [hw3]; exact heap_set_other hk
  rw [← hw3]
  have hal : ∀ k, k < w2.heap.size → k ≠ p → (w3.alloc (.cells #[.int .i64 (n : Int), .slice g kn cap] 88)).heap[k]? = w2.heap[k]? := fun k hk hkp => (Below.heap_alloc _ _ _ (by omega)).trans (ho3 k hkp)
  refine ⟨rfl, ⟨_, _, _, _, _, h2.setArm (w' := w3.alloc (.cells #[.int .i64 (n : Int), .slice g kn cap] 88)) hal (by simp [hs3]) (.pointer (some ⟨w2.heap.size, 0, none⟩)) (some (n, keep)) ?_ ?_⟩, ?_⟩
  · rw [Below.heap_alloc w3 _ p (by omega)]; exact hp3
  · refine ⟨w2.heap.size, .slice g kn cap, rfl, hM _ (Nat.le_refl _), ?_, ?_, hn⟩
    · rw [← hs3, heap_alloc_new]
    · rw [hl]
      have ho2 : OwnsM w2 M 4 1 (.slice g kn cap) kn (keep.map Value.bool) := ⟨⟨hown.1, hown.2.imp id fun ⟨g, cap, cur, e, _, r⟩ => ⟨g, cap, cur, e, Nat.zero_le _, r⟩⟩, hgM⟩
      exact ho2.other h2.hp (by decide) hal
  · exact (hk2.trans hk3).alloc _
end Go.Proofs.Ytnekelndcpmonaa
namespace Go.Proofs.Ytnekelndcpmonaa
open Go.RowKit

/-- Another write waits. -/
theorem DiskIn.setWaits {w w' : World} {p sb : Nat} {scs : List Value} {wv : Value} {dvs : List Value} {av : Value} {D : Dk} {M : Nat → Prop} (h : DiskIn w p sb scs wv dvs av D M) (hg : w.grownBy w' wv.ownBlock) (wv' v : Value) (i : Nat) (b : List UInt8)
    (hw' : OwnsM w' M 83 2 wv' (D.waits.length + 1) (pairs D.waits dvs ++ [.int .i64 ((i : Nat) : Int), v])) (hv : OwnsM w M 5 1 v 512 (b.map byteV)) (hi : i < D.secs.length) (hb : b.length = 512) :
    DiskIn (w'.setCell ⟨p, 1, none⟩ wv') p sb scs wv' (dvs ++ [v]) av { D with waits := D.waits ++ [(i, b)] } M ∧ Keeps M w (w'.setCell ⟨p, 1, none⟩ wv') := by
  have lt : ∀ {k o}, w.heap[k]? = some o → k < w.heap.size := fun hh => (Array.getElem?_eq_some_iff.1 hh).1
  have hblk : ∀ g, wv.ownBlock = some g → M g ∧ ∃ cur, w.heap[g]? = some (.cells cur 83 (0, 0)) := fun g e => by
    refine ⟨h.hw.2 g e, ?_⟩
    rcases h.hw.1.2 with ⟨e2, _⟩ | ⟨g2, _, cur, e2, _, hh, _⟩
    · rw [e2] at e; cases e
    · rw [e2] at e; cases e; exact ⟨cur, hh⟩
  have hpk : w'.heap[p]? = w.heap[p]? := hg.block p (lt h.hp) (fun e => by
    obtain ⟨_, cur, hh⟩ := hblk p e.symm
    rw [h.hp] at hh; simp at hh)
  have hp' := hpk.trans h.hp
  have keep : ∀ k, k < w.heap.size → k ≠ p → (∀ cur, w.heap[k]? ≠ some (.cells cur 83 (0, 0))) → (w'.setCell ⟨p, 1, none⟩ wv').heap[k]? = w.heap[k]? := fun k hk hkp hc => by
    rw [heap_set_other hkp]
    exact hg.block k hk (fun e => by obtain ⟨_, cur, hh⟩ := hblk k e.symm; exact hc cur hh)
  have own : ∀ {e size n : Nat} {u : Value} {xs : List Value}, e ≠ 83 → e ≠ 65 → OwnsM w M e size u n xs → OwnsM (w'.setCell ⟨p, 1, none⟩ wv') M e size u n xs := by
    intro e size n u xs h1 h2 ho
    refine ⟨⟨ho.1.1, ?_⟩, ho.2⟩
    rcases ho.1.2 with h3 | ⟨g, cap, cur, rfl, hb, hh, r⟩
    · exact .inl h3
    · refine .inr ⟨g, cap, cur, rfl, hb, ?_, r⟩
      rw [keep g (lt hh) (fun e' => by subst e'; rw [h.hp] at hh; cases hh; exact h2 rfl) (fun cur' e' => by rw [hh] at e'; cases e'; exact h1 rfl)]
      exact hh
  have hsp : sb ≠ p := fun e => by have := h.hs; rw [e, h.hp] at this; simp at this
  have hpairs : pairs (D.waits ++ [(i, b)]) (dvs ++ [v]) = pairs D.waits dvs ++ [.int .i64 ((i : Nat) : Int), v] := by
    unfold pairs
    rw [List.zipWith_append h.dl.symm]
    simp
  refine ⟨⟨by rw [heap_set hp']; rfl, h.mp, h.msb, ?_, h.sl, fun j hj => (h.sec j hj).imp id fun x => ⟨x.1, own (by decide) (by decide) x.2⟩, ?_, by simp [h.dl], ?_, ?_, fun k hk => h.new k (by have := hg.size; simp at hk; omega), ⟨h.ok.secs, ?_⟩, h.len, h.ops⟩, ?_⟩
  · rw [keep sb (lt h.hs) hsp (fun cur e => by rw [h.hs] at e; simp at e)]; exact h.hs
  · show OwnsM _ M _ 2 wv' (D.waits ++ [(i, b)]).length (pairs (D.waits ++ [(i, b)]) (dvs ++ [v]))
    rw [hpairs, List.length_append]
    exact hw'.other hp' (by decide) (fun k _ hk => heap_set_other hk)
  · intro j hj
    have hj' : j < D.waits.length + 1 := by simpa using hj
    by_cases e : j = D.waits.length
    · subst e
      have e1 : (dvs ++ [v]).getD D.waits.length undef = v := by rw [← h.dl]; simp [List.getD]
      have e2 : (D.waits ++ [(i, b)]).getD D.waits.length (0, []) = (i, b) := by simp [List.getD]
      show OwnsM _ M _ 1 _ 512 (((D.waits ++ [(i, b)]).getD D.waits.length (0, [])).2.map byteV)
      rw [e1, e2]
      exact own (by decide) (by decide) hv
    · have hlt : j < D.waits.length := by omega
      have e1 : (dvs ++ [v]).getD j undef = dvs.getD j undef := by simp [List.getD, List.getElem?_append_left (show j < dvs.length by rw [h.dl]; exact hlt)]
      have e2 : (D.waits ++ [(i, b)]).getD j (0, []) = D.waits.getD j (0, []) := by simp [List.getD, List.getElem?_append_left hlt]
      show OwnsM _ M _ 1 _ 512 (((D.waits ++ [(i, b)]).getD j (0, [])).2.map byteV)
      rw [e1, e2]
      exact own (by decide) (by decide) (h.dat j hlt)
  · have ha := h.arm
    show ArmIn _ M av D.armed
    cases hx : D.armed with
    | none => rw [hx] at ha; exact ha
    | some x =>
      obtain ⟨left, kp⟩ := x
      rw [hx] at ha
      obtain ⟨ab, kv, e1, hm, hh, hr, hl⟩ := ha
      exact ⟨ab, kv, e1, hm, by rw [keep ab (lt hh) (fun e => by rw [e, h.hp] at hh; simp at hh) (fun cur e => by rw [hh] at e; simp at e)]; exact hh, own (by decide) (by decide) hr, hl⟩
  · intro x hx
    rcases List.mem_append.1 hx with hx | hx
    · exact h.ok.waits x hx
    · simp at hx; subst hx; exact ⟨hb, hi⟩
  · have k1 : Keeps M w w' := ⟨hg.os, hg.tape, hg.output, hg.size, fun k hk hc => hg.block k hk (fun e => by
      obtain ⟨hm, cur, hh⟩ := hblk k e.symm
      have := hc hm _ _ _ hh
      cases this)⟩
    exact k1.trans ((Keeps.refl _ _).setHot (p := ⟨p, 1, none⟩) hp' h.mp rfl _)

theorem step_append_wait {ops : Array Oper} {o : Oper} {a : Act} {w : World} {K : Act → World → Prop} {Q : Exit → Act → World → Prop} {E : Prop} (hgd : o.guard = none) (s x : Operand)
    (ho : o.op = .call { callee := .builtin .append, args := #[s, x], argTypes := #[62, 62] }) (M : Nat → Prop) (v : Value) (n : Nat) (xs : List Value) (hs : a.eval s = v) (ad : Addr) (c : Nat) (u1 u2 : Value) (hx : a.eval x = .slice (some ad) 1 c)
    (hM : ∀ k, w.heap.size ≤ k → M k) (hown : OwnsM w M 83 2 v n xs)
    (hc : ∀ j u, [u1, u2][j]? = some u → w.cell? (ad.add j) = some u) (h1 : ∀ u ∈ [u1, u2], u.oneCell' = true) (hn : n ≤ 1000000)
    (h : ∀ wa cap w', OwnsM w' M 83 2 (.slice wa (n + 1) cap) (n + 1) (xs ++ [u1, u2]) → w.grownBy w' v.ownBlock → K (a.put o.dst (.slice wa (n + 1) cap)) w') :
    if Region.wanted o (yielded ops a.tmps) = true then Oper.wp Try.prog o a w K Q else E := by
  have hw : Region.wanted o (yielded ops a.tmps) = true := by simp [Region.wanted, hgd]
  rw [if_pos hw]
  obtain ⟨wa, cap, w', hrun, h2, h3⟩ := run_append_wait w M hM o.type v n xs hown ad c u1 u2 hc h1 hn
  unfold Oper.wp
  simp [execOp, ho, resolve, invoke, builtin, hs, hx, hrun, Result.andThen]
  exact h _ _ _ h2 h3
theorem cells_pair (w : World) (u1 u2 : Value) (t : TypeId) : ∀ j u, [u1, u2][j]? = some u → (w.alloc (.cells #[u1, u2] t)).cell? ((⟨w.heap.size, 0, none⟩ : Addr).add j) = some u := fun j u hu => by
  rw [addr_add, Nat.zero_add, cell_of (heap_alloc_new _ _)]
  simpa using hu

set_option maxHeartbeats 800000 in
theorem write_arg (w : World) (p : Nat) (D : Dk) (M : Nat → Prop) (at_ : Int) (a : Option Addr) (n c : Nat) (hD : DiskAt w p D M) (h : ¬ (0 ≤ at_ ∧ at_ < (D.secs.length : Int) ∧ n = 512)) :
    Calls Try.prog 22 #[.pointer (some ⟨p, 0, none⟩), .int .i64 at_, .slice a n c] w fun e w' => e = .returned (.int .i64 1) ∧ w = w' := by
  by_cases h1 : 0 ≤ at_ ∧ at_ < (D.secs.length : Int)
  · have hn : n ≠ 512 := fun e => h ⟨h1.1, h1.2, e⟩
    have hdec : decide (0 ≤ at_ ∧ at_ < (D.secs.length : Int)) = true := decide_eq_true h1
    have hn2 : ((n : Int) != 512) = true := by simp; omega
    go_enter Try.func22, Try.ntmps22
    go_wp2_with fail
    refine (is_calls _ p D M at_ hD).mono ?_
    rw [hdec]
    rintro e w1 ⟨rfl, rfl⟩
    clear hdec h h1
    go_wp2
    go_ret
    exact ⟨rfl, rfl⟩
  · have hdec : decide (0 ≤ at_ ∧ at_ < (D.secs.length : Int)) = false := decide_eq_false h1
    go_enter Try.func22, Try.ntmps22
    go_wp2_with fail
    refine (is_calls _ p D M at_ hD).mono ?_
    rw [hdec]
    rintro e w1 ⟨rfl, rfl⟩
    clear hdec h h1
    go_wp2
    go_ret
    exact ⟨rfl, rfl⟩

set_option maxHeartbeats 800000 in
theorem write_down (w : World) (p : Nat) (D : Dk) (M : Nat → Prop) (i : Nat) (I : Int) (hI : I = (i : Int)) (b : List UInt8) (a : Option Addr) (c : Nat) (hD : DiskAt w p D M) (hi : i < D.secs.length) (hd : D.fell.down = true) :
    Calls Try.prog 22 #[.pointer (some ⟨p, 0, none⟩), .int .i64 I, .slice a 512 c] w fun e w' => e = .returned (.int .i64 11) ∧ DiskAt w' p (D.write i b) M ∧ Keeps M w w' := by
  subst hI
  have hdec : decide ((0 : Int) ≤ (i : Int) ∧ (i : Int) < (D.secs.length : Int)) = true := decide_eq_true ⟨by omega, by omega⟩
  have ew : D.write i b = D.begun := by simp [Dk.write, Dk.begun, hd]
  rw [ew]
  go_enter Try.func22, Try.ntmps22
  go_wp2_with fail
  refine (is_calls _ p D M i hD).mono ?_
  rw [hdec]
  rintro e w1 ⟨rfl, rfl⟩
  clear hdec
  go_wp2_with fail
  refine (begin_calls _ p D M hD).mono ?_
  have eb : beginE D = 11 := by simp [beginE, hd]
  rw [eb]
  rintro e w2 ⟨rfl, hD2, hk⟩
  clear eb hd
  go_wp2
  go_ret
  exact ⟨rfl, hD2, hk⟩

set_option maxHeartbeats 1600000 in
theorem write_ok (w : World) (p : Nat) (D : Dk) (M : Nat → Prop) (i : Nat) (I : Int) (hI : I = (i : Int)) (b : List UInt8) (a : Option Addr) (c : Nat) (hD : DiskAt w p D M) (hi : i < D.secs.length) (hd : D.fell.down = false) (hb : BytesAt w a b) (hbl : b.length = 512)
    (hcold : ∀ g o, a = some ⟨g, o, none⟩ → M g → Cold (w.heap[g]?)) (hwn : D.fell.waits.length ≤ 100000) :
    Calls Try.prog 22 #[.pointer (some ⟨p, 0, none⟩), .int .i64 I, .slice a 512 c] w fun e w' => e = .returned (.int .i64 0) ∧ DiskAt w' p (D.write i b) M ∧ Keeps M w w' := by
  subst hI
  have hdec : decide ((0 : Int) ≤ (i : Int) ∧ (i : Int) < (D.secs.length : Int)) = true := decide_eq_true ⟨by omega, by omega⟩
  have ew : D.write i b = { D.begun with waits := D.begun.waits ++ [(i, b)] } := by simp [Dk.write, Dk.begun, hd]
  have hwb : D.begun.waits.length ≤ 100000 := by simp [Dk.begun, hd, Dk.counted]; exact hwn
  have hlb : D.begun.secs.length = D.secs.length := by simp [Dk.begun, hd, Dk.counted, Dk.fell_len]
  rw [ew]
  obtain ⟨D2, hDe⟩ : ∃ D2, D2 = D.begun := ⟨_, rfl⟩
  rw [← hDe] at hwb hlb ⊢
  go_enter Try.func22, Try.ntmps22
  go_wp2_with fail
  refine (is_calls _ p D M i hD).mono ?_
  rw [hdec]
  rintro e w1 ⟨rfl, rfl⟩
  clear hdec ew
  go_wp2_with fail
  refine (begin_calls _ p D M hD).mono ?_
  have eb : beginE D = 0 := by simp [beginE, hd]
  rw [eb]
  rintro e w2 ⟨rfl, hD2, hk⟩
  rw [← hDe] at hD2
  have hi2 : i < D2.secs.length := by omega
  clear hDe eb hd hD hi hlb hwn
  -- the bytes that are handed in stand
  obtain ⟨g, o, rfl, hbc⟩ := hb.at (fun e => by subst e; cases hbl)
  have hb2 : BytesAt w2 (some ⟨g, o, none⟩) b := fun j hj => by
    obtain ⟨g', o', e, hcj⟩ := hb j hj
    cases e
    refine ⟨g, o, rfl, ?_⟩
    rw [World.cell?_of_block (w := w) (hk.block g (World.block_lt_of_cell? _ _ hcj) (hcold g o rfl))]
    exact hcj
  obtain ⟨sb, scs, wv, dvs, av, h2⟩ := id hD2
  obtain ⟨wa, wc, hwv, hwc⟩ := ownsRow_slice h2.hw.1
  subst hwv
  obtain ⟨d0, d1, d2, d3, d4, df⟩ := h2.cells
  have f1 := df 1
  have hpl : p < w2.heap.size := World.block_lt_of_cell? _ _ d0
  clear df d2 d3 d4 hb hbc
  have hM : ∀ k, w2.heap.size ≤ k → M k := h2.new
  have hwn1 : D2.waits.length ≤ 1000000 := by omega
  have hown := h2.hw
  have hne : ∀ g', (Value.slice wa D2.waits.length wc).ownBlock = some g' → p ≠ g' := fun g' e1 e2 => by
    subst e2
    rcases hown.1.2 with ⟨e, _⟩ | ⟨g2, _, _, e, _, hh, _⟩
    · rw [e] at e1; cases e1
    · rw [e] at e1; cases e1; rw [h2.hp] at hh; simp at hh
  go_wp2_with fail
  go_region_law (first
    | (go_simp; go_at_call_of 37 g; refine (clone_calls w2.drew (some ⟨g, o, none⟩) 512 c b hb2 hbl (by omega) (fun h => by cases h)).mono ?_; rintro e w9 ⟨g9, cap9, rfl, hown9, hb9⟩; have hp9 : p < w9.heap.size := Nat.lt_of_lt_of_le hpl hb9.size; have c9 := (hb9.cell (p := ⟨p, 1, none⟩) hpl).trans d1; have f9 := (hb9.frozen (p := ⟨p, 1, none⟩) hpl).trans f1)
    | (refine step_append_wait rfl (.tmp 26) (.tmp 31) rfl M _ D2.waits.length _ rfl _ 1 _ _ rfl (fun k hk => hM k (Nat.le_trans (Nat.le_trans hb9.size (by simp)) hk)) (hown.grow (fun k hk => (Below.heap_alloc _ _ _ (Nat.lt_of_lt_of_le hk hb9.size)).trans (hb9.block k hk))) (cells_pair _ _ _ _) (by intro u hu; simp at hu; rcases hu with rfl | rfl <;> rfl) hwn1 ?_; intro wa' cap' w10 hown10 hg10; have c10 := hg10.cell (a := ⟨p, 1, none⟩) ((World.cell?_of_block (w := w9) (Below.heap_alloc _ _ _ hp9)).trans c9) (fun e1 => hne p e1.symm rfl); have f10 : w10.frozen? ⟨p, 1, none⟩ = false := (World.frozen?_of_block (hg10.block p (by simp; omega) (fun e1 => hne p e1.symm rfl))).trans ((World.frozen?_of_block (w := w9) (Below.heap_alloc _ _ _ hp9)).trans f9); have hp10 : p < w10.heap.size := World.block_lt_of_cell? _ _ c10))
  all_goals
    have hg : (w9.alloc (.cells #[.int .i64 (i : Int), .slice g9 512 cap9] 83)).grownBy w10 (Value.slice wa D2.waits.length wc).ownBlock := hg10
    have hgrow : ∀ k, k < w2.heap.size → (w9.alloc (.cells #[.int .i64 (i : Int), .slice g9 512 cap9] 83)).heap[k]? = w2.heap[k]? := fun k hk => (Below.heap_alloc _ _ _ (Nat.lt_of_lt_of_le hk hb9.size)).trans (hb9.block k hk)
    have h9 := h2.frame (w' := w9.alloc (.cells #[.int .i64 (i : Int), .slice g9 512 cap9] 83)) (fun k hk _ => hgrow k hk) (Nat.le_trans hb9.size (by simp))
    have hv : OwnsM (w9.alloc (.cells #[.int .i64 (i : Int), .slice g9 512 cap9] 83)) M 5 1 (.slice g9 512 cap9) 512 (b.map byteV) :=
      ⟨⟨hown9.1, (hown9.alloc _).2.imp id fun ⟨g, cap, cur, e, _, r⟩ => ⟨g, cap, cur, e, Nat.zero_le _, r⟩⟩, fun g' hg' => hM g' (by
        rcases hown9.2 with ⟨e, _⟩ | ⟨g2, _, _, e, hb2, _⟩
        · rw [e] at hg'; cases hg'
        · rw [e] at hg'; cases hg'; exact hb2)⟩
    obtain ⟨hfin, hkeep⟩ := h9.setWaits hg (.slice wa' (D2.waits.length + 1) cap') (.slice g9 512 cap9) i b hown10 hv hi2 hbl
    have hk9 : Keeps M w2 (w9.alloc (.cells #[.int .i64 (i : Int), .slice g9 512 cap9] 83)) := Keeps.alloc (Keeps.trans (Keeps.drew (Keeps.refl M w2)) (Keeps.of_below hb9)) _
    have hkall : Keeps M w (w10.setCell ⟨p, 1, none⟩ (.slice wa' (D2.waits.length + 1) cap')) := Keeps.trans (Keeps.trans hk hk9) hkeep
    clear h9 hv hg hgrow hg10 hown10 hown9 hown h2 d0 d1 f1 c9 f9 hkeep hb9
    go_wp2
    go_ret
    exact ⟨rfl, ⟨_, _, _, _, _, hfin⟩, hkall⟩
end Go.Proofs.Ytnekelndcpmonaa
namespace Go.Proofs.Ytnekelndcpmonaa
open Go.RowKit

def full (c : UInt8) : List UInt8 := List.replicate 512 c
theorem full_len (c : UInt8) : (full c).length = 512 := List.length_replicate
theorem full_set (c : UInt8) (k : Nat) (h : k < 512) : (List.replicate k c ++ List.replicate (512 - k) 0).set k c = List.replicate (k + 1) c ++ List.replicate (512 - (k + 1)) (0 : UInt8) := by
  apply List.ext_getElem
  · simp; omega
  · intro i h1 h2
    simp only [List.getElem_set, List.getElem_append, List.getElem_replicate, List.length_replicate]
    by_cases e : k = i
    · subst e; simp
    · by_cases e2 : i < k
      · simp [e, e2, show i < k + 1 by omega]
      · simp [e, e2, show ¬ i < k + 1 by omega]

/-- A disk, but for a row that is not its. -/
theorem DiskAt.but {w w' : World} {p : Nat} {D : Dk} {M : Nat → Prop} (h : DiskAt w p D M) (hb : Below w.heap.size w w') (g : Nat) (hg : w.heap.size ≤ g) (hg' : g < w'.heap.size) : DiskAt w' p D (fun k => M k ∧ k ≠ g) := by
  obtain ⟨sb, scs, wv, dvs, av, h'⟩ := id h
  exact h.frame (fun k hk hm => ⟨hb.block k hk, hm, by omega⟩) (fun k hk => ⟨h'.new k (Nat.le_trans hb.size hk), by omega⟩)
theorem OwnsB.cold {w : World} {base n cap g o : Nat} {l : List UInt8} (h : OwnsB w base (.slice (some ⟨g, o, none⟩) n cap) n l) : Cold (w.heap[g]?) := by
  rcases h.2 with ⟨e, _⟩ | ⟨g2, _, cur, e, _, hh, _⟩
  · cases e
  · simp only [Value.slice.injEq, Option.some.injEq, Addr.mk.injEq] at e
    obtain ⟨⟨rfl, _, _⟩, _⟩ := e
    intro c t f hc
    rw [hh] at hc; cases hc; rfl

/-- Read: its answer, told by the disk's picture. -/
def rdE (D : Dk) : Int := if D.fell.down then 11 else 0
/-- Write of a row of one's own. -/
theorem write_calls (w : World) (p : Nat) (D : Dk) (M : Nat → Prop) (i : Nat) (I : Int) (hI : I = (i : Int)) (b : List UInt8) (base g c : Nat) (hD : DiskAt w p D M) (hi : i < D.secs.length) (hb : OwnsB w base (.slice (some ⟨g, 0, none⟩) 512 c) 512 b) (hwn : D.fell.waits.length ≤ 100000) :
    Calls Try.prog 22 #[.pointer (some ⟨p, 0, none⟩), .int .i64 I, .slice (some ⟨g, 0, none⟩) 512 c] w fun e w' => e = .returned (.int .i64 (rdE D)) ∧ DiskAt w' p (D.write i b) M ∧ Keeps M w w' := by
  cases hd : D.fell.down with
  | true =>
    have e : rdE D = 11 := by simp [rdE, hd]
    rw [e]
    exact write_down w p D M i I hI b _ c hD hi hd
  | false =>
    have e : rdE D = 0 := by simp [rdE, hd]
    rw [e]
    exact write_ok w p D M i I hI b _ c hD hi hd hb.reads hb.len (fun g' o' e' _ => by cases e'; exact hb.cold) hwn
theorem barrier_calls (w : World) (p : Nat) (D : Dk) (M : Nat → Prop) (hD : DiskAt w p D M) :
    Calls Try.prog 54 #[.pointer (some ⟨p, 0, none⟩)] w fun e w' => e = .returned (.int .i64 (rdE D)) ∧ DiskAt w' p D.barrier M ∧ Keeps M w w' := by
  cases hd : D.fell.down with
  | true =>
    have e : rdE D = 11 := by simp [rdE, hd]
    rw [e]
    exact barrier_down w p D M hD hd
  | false =>
    have e : rdE D = 0 := by simp [rdE, hd]
    rw [e]
    exact barrier_ok w p D M hD hd
/-- Read, be the disk down or not. -/
theorem read_calls (w : World) (p : Nat) (D : Dk) (M : Nat → Prop) (i : Nat) (I : Int) (hI : I = (i : Int)) (hD : DiskAt w p D M) (hi : i < D.secs.length) :
    Calls Try.prog 42 #[.pointer (some ⟨p, 0, none⟩), .int .i64 I] w fun e w' => ∃ v, e = .returned (.tuple #[v, .int .i64 (rdE D)]) ∧ DiskAt w' p D.begun M ∧ Keeps M w w' ∧
      ((D.fell.down = true ∧ v = .slice none 0 0) ∨ (D.fell.down = false ∧ ∃ B, w.heap.size ≤ B ∧ B < w'.heap.size ∧ v = .slice (some ⟨B, 0, none⟩) 512 512 ∧ w'.heap[B]? = some (.cells ((D.begun.now i).map byteV).toArray 5 (0, 0)) ∧ DiskAt w' p D.begun (fun k => M k ∧ k ≠ B))) := by
  cases hd : D.fell.down with
  | true =>
    have e : rdE D = 11 := by simp [rdE, hd]
    rw [e]
    subst hI
    refine (read_down w p D M i hD ⟨by omega, by omega⟩ hd).mono ?_
    rintro e w' ⟨rfl, h1, h2⟩
    exact ⟨_, rfl, h1, h2, .inl ⟨rfl, rfl⟩⟩
  | false =>
    have e : rdE D = 0 := by simp [rdE, hd]
    rw [e]
    refine (read_ok w p D M i I hI hD hi hd).mono ?_
    rintro e w' ⟨B, hB, rfl, h1, h2, h3⟩
    have hn : ∀ k, w'.heap.size ≤ k → M k := by
      obtain ⟨sb, scs, wv, dvs, av, h'⟩ := hD
      exact fun k hk => h'.new k (Nat.le_trans h3.size hk)
    exact ⟨_, rfl, h2.frame (fun k _ hm => ⟨rfl, hm.1⟩) hn, h3, .inr ⟨rfl, B, hB, (Array.getElem?_eq_some_iff.1 h1).1, rfl, h1, h2⟩⟩
/-- What Read told reads so. -/
theorem cells_ownsB {w : World} {B base : Nat} {l : List UInt8} (h : w.heap[B]? = some (.cells (l.map byteV).toArray 5 (0, 0))) (hB : base ≤ B) (hl : l.length = 512) : OwnsB w base (.slice (some ⟨B, 0, none⟩) 512 512) 512 l :=
  ⟨by simp [hl], .inr ⟨B, 512, _, rfl, hB, h, Nat.le_refl _, by unfold maxLen; omega, by simp [hl], by simp [hl, List.take_of_length_le]⟩⟩
end Go.Proofs.Ytnekelndcpmonaa
namespace Go.Proofs.Ytnekelndcpmonaa
open Go.RowKit

/-- A disk on which nothing is armed. -/
structure Calm (D : Dk) (n k : Nat) : Prop where
  len : D.secs.length = n
  waits : D.waits.length ≤ k
  down : D.down = false
  armed : D.armed = none
theorem Calm.fell {D : Dk} {n k : Nat} (h : Calm D n k) : D.fell = D := by
  have : D.due = false := by unfold Dk.due; rw [h.armed]
  simp [Dk.fell, this]
theorem Calm.rd {D : Dk} {n k : Nat} (h : Calm D n k) : rdE D = 0 := by simp [rdE, h.fell, h.down]
theorem Calm.fdown {D : Dk} {n k : Nat} (h : Calm D n k) : D.fell.down = false := by rw [h.fell]; exact h.down
theorem Calm.fwaits {D : Dk} {n k : Nat} (h : Calm D n k) : D.fell.waits.length ≤ k := by rw [h.fell]; exact h.waits
theorem Calm.new (n : Nat) : Calm (Dk.new n) n 0 := ⟨by simp [Dk.new], Nat.le_refl _, rfl, rfl⟩
theorem Calm.begun {D : Dk} {n k : Nat} (h : Calm D n k) : Calm D.begun n k := by
  have e : D.begun = D.counted := by simp [Dk.begun, h.fell, h.down]
  rw [e]; exact ⟨h.len, h.waits, h.down, by simp [Dk.counted, h.armed]⟩
theorem Calm.write {D : Dk} {n k : Nat} (h : Calm D n k) (i : Nat) (b : List UInt8) : Calm (D.write i b) n (k + 1) := by
  have e : D.write i b = { D.counted with waits := D.counted.waits ++ [(i, b)] } := by simp [Dk.write, h.fell, h.down]
  rw [e]; exact ⟨h.len, by have := h.waits; simp [Dk.counted]; omega, h.down, by simp [Dk.counted, h.armed]⟩
theorem Calm.barrier {D : Dk} {n k : Nat} (h : Calm D n k) : Calm D.barrier n 0 := by
  have e : D.barrier = { D.counted with secs := Dk.flush D.counted.waits D.counted.secs, waits := [] } := by simp [Dk.barrier, h.fell, h.down]
  rw [e]; exact ⟨by simp [Dk.flush_len, Dk.counted, h.len], Nat.le_refl _, h.down, by simp [Dk.counted, h.armed]⟩
theorem Calm.mono {D : Dk} {n k k' : Nat} (h : Calm D n k) (hk : k ≤ k') : Calm D n k' := ⟨h.len, Nat.le_trans h.waits hk, h.down, h.armed⟩

/-- .. and nothing waits. -/
structure Quiet (D : Dk) (s : List (List UInt8)) : Prop where
  down : D.down = false
  armed : D.armed = none
  waits : D.waits = []
  secs : D.secs = s
theorem Quiet.calm {D : Dk} {s : List (List UInt8)} (h : Quiet D s) : Calm D s.length 0 := ⟨by rw [h.secs], by rw [h.waits]; exact Nat.le_refl _, h.down, h.armed⟩
theorem Quiet.begun {D : Dk} {s : List (List UInt8)} (h : Quiet D s) : Quiet D.begun s := by
  have e : D.begun = D.counted := by simp [Dk.begun, h.calm.fell, h.down]
  rw [e]; exact ⟨h.down, by simp [Dk.counted, h.armed], h.waits, h.secs⟩
theorem Quiet.barrier {D : Dk} {s : List (List UInt8)} (h : Quiet D s) : Quiet D.barrier s := by
  have e : D.barrier = { D.counted with secs := Dk.flush D.counted.waits D.counted.secs, waits := [] } := by simp [Dk.barrier, h.calm.fell, h.down]
  rw [e]; exact ⟨h.down, by simp [Dk.counted, h.armed], rfl, by simp [Dk.counted, h.waits, h.secs, Dk.flush]⟩
theorem Quiet.now {D : Dk} {s : List (List UInt8)} (h : Quiet D s) (i : Nat) : D.begun.now i = s.getD i [] := by
  unfold Dk.now; rw [h.begun.waits, h.begun.secs]; rfl
theorem Quiet.crash2 {D : Dk} {s : List (List UInt8)} (h : Quiet D s) (k : List Bool) : Quiet ((D.crash k).crash k).start s ∧ startE ((D.crash k).crash k) = 0 := by
  refine ⟨⟨rfl, rfl, rfl, ?_⟩, rfl⟩
  show Dk.keepFrom k 0 [] (Dk.keepFrom k 0 D.waits D.secs) = s
  rw [h.waits, h.secs]; rfl
theorem crash_quiet (D : Dk) (k : List Bool) : Quiet (D.crash k).start (D.crash k).secs ∧ startE (D.crash k) = 0 := ⟨⟨rfl, rfl, rfl, rfl⟩, rfl⟩

/-- Read of a disk that is not down. -/
theorem read_live (w : World) (p : Nat) (D : Dk) (M : Nat → Prop) (i : Nat) (I : Int) (hI : I = (i : Int)) (hD : DiskAt w p D M) (hi : i < D.secs.length) (hd : D.fell.down = false) (l : List UInt8) (hl : D.begun.now i = l) :
    Calls Try.prog 42 #[.pointer (some ⟨p, 0, none⟩), .int .i64 I] w fun e w' => ∃ B, w.heap.size ≤ B ∧ e = .returned (.tuple #[.slice (some ⟨B, 0, none⟩) 512 512, .int .i64 0]) ∧
      w'.heap[B]? = some (.cells (l.map byteV).toArray 5 (0, 0)) ∧ DiskAt w' p D.begun M ∧ Keeps M w w' := by
  subst hl
  refine (read_ok w p D M i I hI hD hi hd).mono ?_
  rintro e w' ⟨B, hB, rfl, h1, h2, h3⟩
  have hn : ∀ k, w'.heap.size ≤ k → M k := by
    obtain ⟨sb, scs, wv, dvs, av, h'⟩ := hD
    exact fun k hk => h'.new k (Nat.le_trans h3.size hk)
  exact ⟨B, hB, rfl, h1, h2.frame (fun k _ hm => ⟨rfl, hm.1⟩) hn, h3⟩
theorem sec512 {w : World} {p : Nat} {D : Dk} {M : Nat → Prop} (h : DiskAt w p D M) (i : Nat) (hi : i < D.secs.length) : (D.secs.getD i []).length = 512 := by
  obtain ⟨sb, scs, wv, dvs, av, h'⟩ := h
  exact h'.ok.secs _ (by simp [List.getD, hi])
/-- A row as it reads. -/
theorem row_reads {w : World} {B : Nat} {l : List UInt8} (h : w.heap[B]? = some (.cells (l.map byteV).toArray 5 (0, 0))) : BytesAt w (some ⟨B, 0, none⟩) l := fun i hi => by
  refine ⟨B, 0, rfl, ?_⟩
  rw [cell_of h]
  simp [hi, byteV, List.getD]
/-- A slice of bools that came in, cut. -/
theorem kbools_arg {w w' : World} {M : Nat → Prop} (hMd : ∀ k, M k → w.heap.size ≤ k) (hB : Below w.heap.size w w') {a : Option Addr} {l : List Bool} (hA : BoolsAt w a l) (m : Nat) : KBools w' M a (l.take m) := by
  have h1 := hA.below hB
  refine ⟨fun i hi => ?_, fun b o e h0 hm => ?_⟩
  · have hi' : i < l.length := by rw [List.length_take] at hi; omega
    obtain ⟨b, o, e, hc⟩ := h1 i hi'
    refine ⟨b, o, e, ?_⟩
    rw [hc]
    have : i < m := by rw [List.length_take] at hi; omega
    simp [List.getD, this]
  · obtain ⟨b', o', e', hc⟩ := hA 0 (by rw [List.length_take] at h0; omega)
    rw [e] at e'
    cases e'
    have h3 : b < w.heap.size := World.block_lt_of_cell? _ _ hc
    have := hMd b hm
    omega
end Go.Proofs.Ytnekelndcpmonaa
namespace Go.Proofs.Ytnekelndcpmonaa
open Go.RowKit

theorem now_write {D : Dk} {n k : Nat} (h : Calm D n k) (at_ : Nat) (b : List UInt8) (i : Nat) : (D.write at_ b).now i = if at_ = i then b else D.now i := by
  have e : D.write at_ b = { D.counted with waits := D.counted.waits ++ [(at_, b)] } := by simp [Dk.write, h.fell, h.down]
  rw [e]
  unfold Dk.now
  simp only [Dk.counted, List.reverse_append, List.reverse_cons, List.reverse_nil, List.nil_append, List.singleton_append, List.find?_cons]
  by_cases e2 : at_ = i
  · subst e2; simp
  · have : (at_ == i) = false := by simpa using e2
    rw [this, if_neg e2]
theorem flush_getD (l : List (Nat × List UInt8)) (s : List (List UInt8)) (i : Nat) (hi : i < s.length) : (Dk.flush l.reverse s).getD i [] = match l.find? (fun x => x.1 == i) with
    | some x => x.2
    | none => s.getD i [] := by
  induction l with
  | nil => rfl
  | cons x l ih =>
    have e : Dk.flush (x :: l).reverse s = (Dk.flush l.reverse s).set x.1 x.2 := by
      unfold Dk.flush; rw [List.reverse_cons, List.foldl_append]; rfl
    rw [e, List.find?_cons]
    by_cases e2 : x.1 = i
    · subst e2
      simp [List.getD, Dk.flush_len, hi]
    · have : (x.1 == i) = false := by simpa using e2
      rw [this]
      simp only [List.getD, List.getElem?_set_ne e2] at ih ⊢
      exact ih
theorem now_barrier {D : Dk} {n k : Nat} (h : Calm D n k) (i : Nat) (hi : i < n) : D.barrier.now i = D.now i := by
  have e : D.barrier = { D.counted with secs := Dk.flush D.counted.waits D.counted.secs, waits := [] } := by simp [Dk.barrier, h.fell, h.down]
  rw [e]
  have hf := flush_getD D.waits.reverse D.secs i (by rw [h.len]; exact hi)
  rw [List.reverse_reverse] at hf
  unfold Dk.now
  exact hf
theorem now_begun {D : Dk} {n k : Nat} (h : Calm D n k) (i : Nat) : D.begun.now i = D.now i := by
  have e : D.begun = D.counted := by simp [Dk.begun, h.fell, h.down]
  rw [e]; rfl
theorem now_new (n i : Nat) (hi : i < n) : (Dk.new n).now i = full 0 := by
  show (Dk.new n).secs.getD i [] = full 0
  simp [Dk.new, List.getD, hi]
  rfl
theorem OwnsB.keeps {w w' : World} {M : Nat → Prop} {base n : Nat} {v : Value} {l : List UInt8} (h : OwnsB w base v n l) (hk : Keeps M w w') : OwnsB w' base v n l :=
  ⟨h.1, h.2.imp id fun ⟨g, cap, cur, e, hb, hh, r⟩ => ⟨g, cap, cur, e, hb, hk.cool hh rfl, r⟩⟩
theorem OwnsB.same {w w' : World} {base n g cap : Nat} {l : List UInt8} (h : OwnsB w base (.slice (some ⟨g, 0, none⟩) n cap) n l) (hk : w'.heap[g]? = w.heap[g]?) : OwnsB w' base (.slice (some ⟨g, 0, none⟩) n cap) n l := by
  refine ⟨h.1, h.2.imp id fun ⟨g2, cap2, cur, e, hb, hh, r⟩ => ⟨g2, cap2, cur, e, hb, ?_, r⟩⟩
  simp only [Value.slice.injEq, Option.some.injEq, Addr.mk.injEq] at e
  obtain ⟨⟨rfl, _⟩, _⟩ := e
  rw [hk]; exact hh
theorem DiskAt.new {w : World} {p : Nat} {D : Dk} {M : Nat → Prop} (h : DiskAt w p D M) : ∀ k, w.heap.size ≤ k → M k := by
  obtain ⟨sb, scs, wv, dvs, av, h'⟩ := h
  exact h'.new
/-- A store into a row that is not the disk's. -/
theorem DiskAt.store {w : World} {p : Nat} {D : Dk} {M : Nat → Prop} (h : DiskAt w p D M) (g i : Nat) (v : Value) (hg : ¬ M g) : DiskAt (w.setCell ⟨g, i, none⟩ v) p D M :=
  h.frame (fun k _ hm => ⟨heap_set_other (fun e => hg (e ▸ hm)), hm⟩) (fun k hk => h.new k (by simpa using hk))
theorem and_u16 (n : Int) (M : Nat) (hM : M < 65536) : ∃ k : Nat, k ≤ M ∧ Go.bits .and .u16 n (M : Int) = (k : Int) := by
  refine ⟨(BitVec.ofInt 16 n).toNat &&& M, Nat.and_le_right, ?_⟩
  unfold Go.bits
  rw [IntKind.wrap_u16, BitVec.ofInt_natCast]
  show ((((BitVec.ofInt 16 n) &&& (BitVec.ofNat 16 M)).toNat : Int)) % _ = _
  rw [BitVec.toNat_and, BitVec.toNat_ofNat, Nat.mod_eq_of_lt (by omega)]
  have : (BitVec.ofInt 16 n).toNat &&& M ≤ M := Nat.and_le_right
  omega

end Go.Proofs.Ytnekelndcpmonaa
