/- What Read tells. -/
import Derived.Test.YtgicpialopccpaaDiskE
import Derived.BigRegionIn
namespace Go.Proofs.Ytgicpialopccpaa
open Go.RowKit Go.Shelf
attribute [local go_sem] Oper.semAt_some

/-- The disk lies as it lay; what it may call its own may turn. -/
theorem DiskIn.frame' {w w' : World} {p sb : Nat} {scs : List Value} {wv : Value} {dvs : List Value} {av : Value} {D : Dk} {M M' : Nat → Prop} (h : DiskIn w p sb scs wv dvs av D M) (hk' : ∀ k, k < w.heap.size → M k → w'.heap[k]? = w.heap[k]? ∧ M' k) (hn : ∀ k, w'.heap.size ≤ k → M' k) : DiskIn w' p sb scs wv dvs av D M' := by
  have lt : ∀ {k o}, w.heap[k]? = some o → k < w.heap.size := fun hh => (Array.getElem?_eq_some_iff.1 hh).1
  exact ⟨by rw [(hk' p (lt h.hp) h.mp).1]; exact h.hp, (hk' p (lt h.hp) h.mp).2, (hk' sb (lt h.hs) h.msb).2, by rw [(hk' sb (lt h.hs) h.msb).1]; exact h.hs, h.sl,
    fun i hi => (h.sec i hi).frame hk', h.hw.frame hk', h.dl, fun i hi => (h.dat i hi).frame hk', h.arm.frame hk', hn, h.ok, h.len, h.ops⟩
/-- One row was written, and new blocks were made. -/
structure After (B : Nat) (l : List UInt8) (W W' : World) : Prop where
  at_ : W'.heap[B]? = some (.cells (l.map byteV).toArray 5 (0, 0))
  other : ∀ k, k < W.heap.size → k ≠ B → W'.heap[k]? = W.heap[k]?
  size : W.heap.size ≤ W'.heap.size
  os : W'.os = W.os
  tape : W'.tape = W.tape
  output : W'.output = W.output
theorem After.grown {B : Nat} {l : List UInt8} {W A A' : World} {row : Option Nat} (h : After B l W A) (hg : A.grownBy A' row) (hr : ∀ r, row = some r → W.heap.size ≤ r ∧ ∃ o : Obj, A.heap[r]? = some o ∧ o.isCells = false) : After B l W A' := by
  refine ⟨?_, fun k hk hB => ?_, Nat.le_trans h.size hg.size, hg.os.trans h.os, hg.tape.trans h.tape, hg.output.trans h.output⟩
  · rw [hg.block B (Array.getElem?_eq_some_iff.1 h.at_).1 (fun e => ?_)]
    · exact h.at_
    · obtain ⟨_, o, ho, hc⟩ := hr B e.symm
      rw [h.at_] at ho; cases ho; cases hc
  · rw [hg.block k (Nat.lt_of_lt_of_le hk h.size) (fun e => by have := (hr k e.symm).1; omega)]
    exact h.other k hk hB

set_option maxRecDepth 100000 in
set_option maxHeartbeats 2000000 in
theorem read_ok (w : World) (p : Nat) (D : Dk) (M : Nat → Prop) (i : Nat) (I : Int) (hI : I = (i : Int)) (hD : DiskAt w p D M) (hi : i < D.secs.length) (hd : D.fell.down = false) :
    Calls Try.prog 15 #[.pointer (some ⟨p, 0, none⟩), .int .i64 I] w fun e w' => ∃ B, w.heap.size ≤ B ∧ e = .returned (.tuple #[.slice (some ⟨B, 0, none⟩) 512 512, .int .i64 0]) ∧
      w'.heap[B]? = some (.cells ((D.begun.now i).map byteV).toArray 5 (0, 0)) ∧ DiskAt w' p D.begun (fun k => M k ∧ k ≠ B) ∧ Keeps M w w' := by
  subst hI
  obtain ⟨D2, hDe⟩ : ∃ D2, D2 = D.begun := ⟨_, rfl⟩
  rw [← hDe]
  obtain ⟨w0, hw0⟩ : ∃ w0, w0 = w.alloc (.cells #[.int .i64 (i : Int)] 3) := ⟨_, rfl⟩
  have hb : Below w.heap.size w w0 := by rw [hw0]; exact (Below.refl _ _).alloc (Nat.le_refl _) _
  have hq0 : w0.heap[w.heap.size]? = some (.cells #[.int .i64 (i : Int)] 3 (0, 0)) := by rw [hw0]; exact heap_alloc_new _ _
  have hD1 := hD.grow hb
  have hdec : decide ((0 : Int) ≤ (i : Int) ∧ (i : Int) < (D.secs.length : Int)) = true := decide_eq_true ⟨by omega, by omega⟩
  refine (callsIn_wide (n := 9)).1 ?_
  refine callsIn_of_wp_marks Try.func15 rfl trivial ?_ rfl
  simp only [Try.ntmps15, List.size_toArray, List.length_cons, List.length_nil, Nat.reduceAdd, Nat.reduceSub, Array.replicate_succ, Array.replicate_zero, List.push_toArray, List.append_toArray, List.nil_append, List.cons_append]
  gi_wp2_with fail
  rw [← hw0]
  have hsz : w0.heap.size = w.heap.size + 1 := by rw [hw0, World.size_alloc]
  clear hw0
  refine ⟨trivial, ?_⟩
  gi_at_call 25
  refine (callsIn_wide.2 (is_calls w0 p D M (i : Int) hD1)).mono ?_
  rw [hdec]
  rintro e w1 ⟨rfl, rfl⟩
  have c0 : w0.cell? ⟨w.heap.size, 0, none⟩ = some (.int .i64 (i : Int)) := cell_of hq0
  gi_wp2_with fail
  refine ⟨trivial, ?_⟩
  gi_at_call 26
  refine (callsIn_wide.2 (begin_calls w0 p D M hD1)).mono ?_
  have eb : beginE D = 0 := by simp [beginE, hd]
  rw [eb]
  rintro e w2 ⟨rfl, hD2, hk⟩
  have hq2 := hk.cool hq0 rfl
  rw [← hDe] at hD2
  obtain ⟨sb, scs, wv, dvs, av, h2⟩ := id hD2
  obtain ⟨wa, wc, hwv, hwcl⟩ := ownsRow_slice h2.hw.1
  have hwl : D2.waits.length ≤ 9223372036854775807 := by have := hwcl.1; have := hwcl.2; unfold maxLen at *; omega
  subst hwv
  have hlen : D2.secs.length = D.secs.length := by rw [hDe]; unfold Dk.begun; split <;> simp [Dk.counted, Dk.fell_len]
  have hi2 : i < D2.secs.length := by omega
  clear hDe hdec hd eb c0 hD hD1 hi hlen
  -- the world behind the make
  obtain ⟨W3, hW3⟩ : ∃ W3, W3 = (w2.alloc (.cells (Dk.zero.map byteV).toArray 5)).alloc (.cells #[.slice (some ⟨w2.heap.size, 0, none⟩) 512 512] 30) := ⟨_, rfl⟩
  have hmk := run_make_sector w2
  have hb3 : Below w2.heap.size w2 W3 := by rw [hW3]; exact ((Below.refl _ _).alloc (Nat.le_refl _) _).alloc (by simp) _
  have hB3 : W3.heap[w2.heap.size]? = some (.cells (Dk.zero.map byteV).toArray 5 (0, 0)) := by rw [hW3, Below.heap_alloc _ _ _ (by simp), heap_alloc_new]
  have hQ3 : W3.heap[w2.heap.size + 1]? = some (.cells #[.slice (some ⟨w2.heap.size, 0, none⟩) 512 512] 30 (0, 0)) := by
    rw [hW3]; have := heap_alloc_new (w2.alloc (.cells (Dk.zero.map byteV).toArray 5)) (.cells #[.slice (some ⟨w2.heap.size, 0, none⟩) 512 512] 30); rw [World.size_alloc] at this; exact this
  have h3 := h2.frame (w' := W3) (fun k hk _ => hb3.block k hk) hb3.size
  have hsz3 : W3.heap.size = w2.heap.size + 2 := by rw [hW3]; simp
  have hq3 : W3.heap[w.heap.size]? = some (.cells #[.int .i64 (i : Int)] 3 (0, 0)) := by rw [hb3.block _ (Array.getElem?_eq_some_iff.1 hq2).1]; exact hq2
  obtain ⟨d0, d1, _⟩ := h3.cells
  have hsl4 := h3.len
  have hsn := h3.sl
  obtain ⟨sv, hsv⟩ : ∃ sv, sv = scs.getD i undef := ⟨_, rfl⟩
  have cs : W3.cell? ⟨sb, i, none⟩ = some sv := by rw [cell_of h3.hs, hsv]; simp [List.getD, show i < scs.length by omega]
  have hsec := h3.sec i hi2
  rw [← hsv] at hsec
  obtain ⟨cr, W4, hcopy, hcd⟩ := copy_sec W3.drew M w2.heap.size sv _ hB3 hsec 3
  have ca : W3.cell? ⟨w.heap.size, 0, none⟩ = some (.int .i64 (i : Int)) := cell_of hq3
  have cb : W3.cell? ⟨w2.heap.size + 1, 0, none⟩ = some (.slice (some ⟨w2.heap.size, 0, none⟩) 512 512) := cell_of hQ3
  have HW3 := Lib.hid hW3
  have HB3 := Lib.hid hB3
  have i0 : (0 : Int) ≤ (i : Int) := by omega
  have i1 : (i : Int) < (D2.secs.length : Int) := by omega
  have hQ := Lib.hid hq3
  have hQQ := Lib.hid hQ3
  clear hW3 hB3 hsv hsz3 hq3 hQ3
  gi_wp2_with fail
  rw [← HW3.out]
  gi_region
  have h4 := h2.frame' (w' := W4) (M' := fun k => M k ∧ k ≠ w2.heap.size) (fun k hk hm => ⟨by rw [hcd.other k (by omega)]; exact hb3.block k hk, hm, by omega⟩) (fun k hk => ⟨h2.new k (by have := hcd.size; have := hb3.size; have : W3.drew.heap.size = W3.heap.size := rfl; omega), by have := hcd.size; have : W3.drew.heap.size = W3.heap.size := rfl; have := HW3.out; subst this; simp at *; omega⟩)
  obtain ⟨e0, e1, _⟩ := h4.cells
  have hq4 : W4.heap[w.heap.size]? = some (.cells #[.int .i64 (i : Int)] 3 (0, 0)) := by rw [hcd.other _ (by have := (Array.getElem?_eq_some_iff.1 hq2).1; omega)]; exact hQ.out
  have hQ4 : W4.heap[w2.heap.size + 1]? = some (.cells #[.slice (some ⟨w2.heap.size, 0, none⟩) 512 512] 30 (0, 0)) := by rw [hcd.other _ (by omega)]; exact hQQ.out
  have hB4 := hcd.at_
  clear d0 d1 cs ca cb hmk hcopy hsec
  gi_wp2_with fail
  refine ⟨trivial, ?_⟩
  gi_at_call 28
  refine (backward_in Fence.wide _ trivial rfl _ _ _ _).mono ?_
  rintro e W5 ⟨rfl, hW5⟩
  gi_wp2_with fail
  have hs5 : W5.heap.size = W4.heap.size + 1 := by rw [hW5, World.size_alloc]
  have hs4 : W4.heap.size = w2.heap.size + 2 := by rw [hcd.size]; show W3.heap.size = _; rw [HW3.out]; simp
  have hb5 : Below W4.heap.size W4 W5 := by rw [hW5]; exact (Below.refl _ _).alloc (Nat.le_refl _) _
  have hbox5 : W5.heap[W4.heap.size]? = some (.cells #[.slice wa D2.waits.length wc] 62 (0, 0)) := by rw [hW5]; exact heap_alloc_new _ _
  have h5 := h4.frame (w' := W5) (fun k hk _ => hb5.block k hk) hb5.size
  have hq5 : W5.heap[w.heap.size]? = some (.cells #[.int .i64 (i : Int)] 3 (0, 0)) := by rw [hb5.block _ (Array.getElem?_eq_some_iff.1 hq4).1]; exact hq4
  have hQ5 : W5.heap[w2.heap.size + 1]? = some (.cells #[.slice (some ⟨w2.heap.size, 0, none⟩) 512 512] 30 (0, 0)) := by rw [hb5.block _ (Array.getElem?_eq_some_iff.1 hQ4).1]; exact hQ4
  have hB5 : W5.heap[w2.heap.size]? = some (.cells ((D2.secs.getD i []).map byteV).toArray 5 (0, 0)) := by rw [hb5.block _ (by omega)]; exact hB4
  have hkeep : ∀ (W : World), (∀ k, k < W5.heap.size → k ≠ w2.heap.size → W.heap[k]? = W5.heap[k]?) → W5.heap.size ≤ W.heap.size → W.os = W5.os → W.tape = W5.tape → W.output = W5.output → Keeps M w W ∧ DiskAt W p D2 (fun k => M k ∧ k ≠ w2.heap.size) := by
    intro W hW hsz' ho ht hou
    have e5 : W5.os = w2.os ∧ W5.tape = w2.tape ∧ W5.output = w2.output := by
      refine ⟨?_, ?_, ?_⟩
      · rw [hb5.os, hcd.os]; exact hb3.os
      · rw [hb5.tape, hcd.tape]; exact hb3.tape
      · rw [hb5.output, hcd.output]; exact hb3.output
    refine ⟨((Keeps.of_below hb).trans hk).trans ⟨ho.trans e5.1, ht.trans e5.2.1, hou.trans e5.2.2, by omega, fun k hk' _ => ?_⟩, ?_⟩
    · rw [hW k (by omega) (by omega), hb5.block k (by omega), hcd.other k (by omega)]
      exact hb3.block k hk'
    · exact ⟨sb, scs, _, dvs, av, h5.frame' (fun k hk' hm => ⟨hW k hk' hm.2, hm⟩) (fun k hk' => ⟨(h5.new k (by omega)).1, by omega⟩)⟩
  have hone : ∀ x : Fin D2.waits.length, (dvs.getD x.1 undef).oneCell' = true := fun x => by
    obtain ⟨b, c, e, _⟩ := h5.datAt x.1 x.2
    rw [e]; rfl
  have hcells : ∀ x : Fin D2.waits.length, ∃ g, wa = some ⟨g, 0, none⟩ ∧ g < W5.heap.size ∧ W5.cell? ⟨g, x.1 * 2, none⟩ = some (.int .i64 (((D2.waits.getD x.1 (0, [])).1 : Nat) : Int)) ∧ W5.cell? ⟨g, x.1 * 2 + 1, none⟩ = some (dvs.getD x.1 undef) := fun x => by
    obtain ⟨wg, wc', e, hm, hh⟩ := h5.waitAt (by have := x.2; omega)
    simp only [Value.slice.injEq] at e
    obtain ⟨rfl, _, _⟩ := e
    obtain ⟨c1, c2⟩ := hh x.1 x.2
    exact ⟨wg, rfl, World.block_lt_of_cell? _ _ c1, c1, c2⟩
  have hle : w.heap.size ≤ w2.heap.size := by have := hk.size; omega
  have h0n : p < w2.heap.size ∧ sb < w2.heap.size := ⟨(Array.getElem?_eq_some_iff.1 h2.hp).1, (Array.getElem?_eq_some_iff.1 h2.hs).1⟩
  rw [← hW5]
  clear hW5 hb5 e0 e1 hq4 hQ4 hB4 h4 h3 hb3 hcd hb hq0 h2 hq2 HW3 HB3 hQ hQQ hD2 hk
  refine wpIn_rangeFunc_ownH rfl (by omega) (gf := 36) (lb := #[.pointer (some ⟨W4.heap.size, 0, none⟩)]) rfl trivial (enters_of Try.func36 (by kernel_rfl) rfl)
    (backward_stops Fence.wide _ trivial rfl (by omega) W4.heap.size D2.waits.length wc wa (fun x => (((D2.waits.getD x.1 (0, [])).1 : Nat) : Int)) (fun x => dvs.getD x.1 undef) W5 (by omega) hwl (cell_of hbox5) hone hcells)
    belowK_t (belowK_b (Nat.le_refl _)) (Below.refl _ _) (fun _ => rfl)
    (fun pre W => (∀ x ∈ pre, (D2.waits.getD x.1 (0, [])).1 ≠ i) ∧ Below W5.heap.size W5 W)
    (fun c pre W => c = .exit 0 ∧ ∃ ini last, pre = ini ++ [last] ∧ (∀ x ∈ ini, (D2.waits.getD x.1 (0, [])).1 ≠ i) ∧ (D2.waits.getD last.1 (0, [])).1 = i ∧ After w2.heap.size (D2.waits.getD last.1 (0, [])).2 W5 W)
    (OwnFrom.and (ownFrom_pure _ _) (ownFrom_below (Nat.le_refl _) (Nat.le_refl _)))
    (fun c pre A A' row h hg hr => by obtain ⟨e1, ini, last, e2, e3, e4, h⟩ := h; exact ⟨e1, ini, last, e2, e3, e4, h.grown hg hr⟩)
    ⟨by simp, Below.refl _ _⟩
    (fun x a' W => ∃ Bx, W5.heap.size ≤ Bx ∧ W.heap[Bx]? = some (.cells #[.int .i64 (((D2.waits.getD x.1 (0, [])).1 : Nat) : Int), dvs.getD x.1 undef] 70 (0, 0)) ∧
      a' = { tmps := #[Value.pointer (some { block := p, off := 0 }), Value.int IntKind.i64 ↑i, undef,
          Value.pointer (some { block := w.heap.size, off := 0 }), Value.slice none 0 0, Value.int IntKind.i64 0,
          Value.int IntKind.i64 0, Value.pointer (some { block := w2.heap.size + 1, off := 0 }), undef, Value.pointer (some { block := Bx, off := 0 }),
          Value.pointer (some { block := p, off := 0 }), Value.int IntKind.i64 ↑i, Value.bool true, Value.bool false,
          Value.pointer (some { block := p, off := 0 }), Value.int IntKind.i64 0, Value.int IntKind.i64 0,
          Value.bool false, undef, Value.slice (some { block := w2.heap.size, off := 0 }) 512 512,
          Value.slice (some { block := w2.heap.size, off := 0 }) 512 512, Value.pointer (some { block := p, off := 0 }),
          Value.pointer (some { block := p, off := 0 }), Value.pointer (some { block := p, off := 0 }),
          Value.slice (some { block := sb, off := 0 }) D2.secs.length D2.secs.length, Value.int IntKind.i64 ↑i,
          Value.pointer (some { block := sb, off := i }), sv, cr, Value.pointer (some { block := p, off := 0 }),
          Value.pointer (some { block := p, off := 0 }), Value.pointer (some { block := p, off := 1 }), Value.slice wa D2.waits.length wc,
          Value.func (.func 36) #[] #[.pointer (some ⟨W4.heap.size, 0, none⟩)], .int .i64 ((x.1 : Nat) : Int), .agg #[.int .i64 (((D2.waits.getD x.1 (0, [])).1 : Nat) : Int), dvs.getD x.1 undef], undef, undef,
          undef, undef, undef, undef, undef, undef, undef], defers := [] })
    (fun x a' u A A' row h hg hr => by
      obtain ⟨Bx, e1, e2, e3⟩ := h
      refine ⟨Bx, e1, ?_, e3⟩
      rw [hg.block Bx (Array.getElem?_eq_some_iff.1 e2).1 (fun e => ?_)]
      · exact e2
      · obtain ⟨_, o, ho, hc⟩ := hr Bx e.symm
        rw [e2] at ho; cases ho; cases hc) ?assign ?body ?done ?stop
  case assign =>
    rintro l pre x W K ⟨hp1, hp2⟩ hK
    obtain ⟨b, c, e, _⟩ := h5.datAt x.1 x.2
    rw [e] at hK ⊢
    obtain ⟨at_, hat⟩ : ∃ at_, at_ = (D2.waits.getD x.1 (0, [])).1 := ⟨_, rfl⟩
    rw [← hat] at hK ⊢
    clear hat e hs4 hs5 hone hcells
    gi_wp2
    exact hK _ _ ((KeepsOthers.alloc _ _).from _) ((Below.refl _ W).alloc hp2.size _) ⟨hp1, hp2.alloc hp2.size _⟩ ⟨W.heap.size, hp2.size, heap_alloc_new _ _, rfl⟩
  case body =>
    rintro l pre x a' W hl ⟨r, hr⟩ ⟨hne, hB⟩ ⟨Bx, hBx, bX, rfl⟩ hlt
    have cX : W.cell? ⟨Bx, 0, none⟩ = some (.int .i64 (((D2.waits.getD x.1 (0, [])).1 : Nat) : Int)) := cell_of bX
    have cX1 : W.cell? ⟨Bx, 1, none⟩ = some (dvs.getD x.1 undef) := cell_of bX
    have cq : W.cell? ⟨w.heap.size, 0, none⟩ = some (.int .i64 (i : Int)) := by rw [World.cell?_of_block (w := W5) (hB.block _ (Array.getElem?_eq_some_iff.1 hq5).1)]; exact cell_of hq5
    have cQ : W.cell? ⟨w2.heap.size + 1, 0, none⟩ = some (.slice (some ⟨w2.heap.size, 0, none⟩) 512 512) := by rw [World.cell?_of_block (w := W5) (hB.block _ (Array.getElem?_eq_some_iff.1 hQ5).1)]; exact cell_of hQ5
    have hBW : W.heap[w2.heap.size]? = some (.cells ((D2.secs.getD i []).map byteV).toArray 5 (0, 0)) := by rw [hB.block _ (by omega)]; exact hB5
    obtain ⟨at_, hat⟩ : ∃ at_, at_ = (D2.waits.getD x.1 (0, [])).1 := ⟨_, rfl⟩
    rw [← hat] at cX
    obtain ⟨g, gc, hgv, hgm, hgl, hg5, hgc⟩ := (h5.dat x.1 x.2).at
    rw [hgv] at cX1
    have hgW : ∀ j, j < 512 → W.cell? ⟨g, j, none⟩ = some (.int .u8 ((D2.waits.getD x.1 (0, [])).2.getD j 0).toNat) := fun j hj => by rw [World.cell?_of_block (w := W5) (hB.block _ hg5)]; exact hgc j hj
    have hsecl : (D2.secs.getD i []).length = 512 := h5.ok.secs _ (by simp [List.getD, hi2])
    have hrun := run_copy_full W w2.heap.size _ hBW (by rw [List.size_toArray, List.length_map]; exact hsecl) g gc _ hgl hgW 3
    obtain ⟨W7, hW7⟩ : ∃ W7, W7 = W.setRow w2.heap.size (((D2.waits.getD x.1 (0, [])).2).map byteV).toArray := ⟨_, rfl⟩
    rw [← hW7] at hrun
    have hc7 : Copied w2.heap.size (D2.waits.getD x.1 (0, [])).2 W W7 := by rw [hW7]; exact copied_setRow hBW _
    have hw25 : w2.heap.size < W5.heap.size := by omega
    have Hat := Lib.hid hat
    clear hat hgW hgc hW7 hBW hone hcells hgv hB5 hQ5 hq5 hs4 hs5
    by_cases hx : at_ = i
    · subst hx
      gi_wp2
      refine ⟨⟨by rw [hc7.size]; exact Nat.le_refl _, fun k o hk ho hco => ?_⟩, rfl, pre, x, rfl, hne, Hat.out.symm, hc7.at_, fun k hk hkB => by rw [hc7.other k hkB]; exact hB.block k hk, by rw [hc7.size]; exact hB.size, by rw [hc7.os]; exact hB.os, by rw [hc7.tape]; exact hB.tape, by rw [hc7.output]; exact hB.output⟩
      rw [hc7.other k (by omega)]; exact ho
    · gi_wp2
      exact ⟨KeepsFrom.refl _ _, Below.refl _ _, ⟨fun y hy => (List.mem_append.1 hy).elim (hne y) (fun e => by simp at e; subst e; rw [← Hat.out]; exact hx), hB⟩⟩
  case done =>
    rintro D' ys W hD' rfl ⟨hne, hB⟩ hK
    have cQ : W.cell? ⟨w2.heap.size + 1, 0, none⟩ = some (.slice (some ⟨w2.heap.size, 0, none⟩) 512 512) := by rw [World.cell?_of_block (w := W5) (hB.block _ (Array.getElem?_eq_some_iff.1 hQ5).1)]; exact cell_of hQ5
    have hbl := hB.trans (belowK_b (w := W5) (Nat.le_refl _) W D' _ (.deferred none) hD' hK rfl rfl)
    have hnow : D2.now i = D2.secs.getD i [] := by
      unfold Dk.now
      rw [now_none D2.waits i (fun j hj => hne ⟨j, hj⟩ (by unfold came; rw [List.take_of_length_le (by simp)]; simp))]
    obtain ⟨k1, k2⟩ := hkeep _ (fun k hk _ => hbl.block k hk) hbl.size hbl.os hbl.tape hbl.output
    have hBf := (hbl.block w2.heap.size (by omega)).trans hB5
    rw [← hnow] at hBf
    clear hnow hB5 hkeep
    gi_wp2
    refine ⟨by simp, .inl ⟨_, _, rfl, run_takeDeferred hK, ?_⟩⟩
    exact ⟨_, results_tmp2 rfl _ _ _, _, by omega, rfl, hBf, k2, k1⟩
  case stop =>
    rintro D' c pre W hD' ⟨k, hk, rfl⟩ ⟨rfl, ini, last, e1, e2, e3, hA⟩ hK
    have cQ : W.cell? ⟨w2.heap.size + 1, 0, none⟩ = some (.slice (some ⟨w2.heap.size, 0, none⟩) 512 512) := by rw [World.cell?_of_block (w := W5) (hA.other (w2.heap.size + 1) (Array.getElem?_eq_some_iff.1 hQ5).1 (by omega))]; exact cell_of hQ5
    have hA2 := hA.grown (grownBy_putObj' W D' (.deferred none)) (fun r e => by cases e; exact ⟨hD', _, hK, rfl⟩)
    obtain ⟨k', rfl⟩ : ∃ k', k = k' + 1 := by
      cases k with
      | zero => simp [came] at e1
      | succ k' => exact ⟨k', rfl⟩
    rw [came_succ (by omega) (D2.waits.length - 1 - k') (by omega) rfl] at e1
    obtain ⟨rfl, e5⟩ := List.append_inj' e1 rfl
    have e6 : last.1 = D2.waits.length - 1 - k' := by
      have := congrArg (fun l => l.map Fin.val) e5
      simpa using this.symm
    clear e5
    rw [e6] at e3
    have hnow : D2.now i = (D2.waits.getD (D2.waits.length - 1 - k') (0, [])).2 := by
      unfold Dk.now
      rw [now_hit D2.waits i k' _ (by omega) rfl (fun j h1 h2 => e2 ⟨j, h2⟩ ?_) e3]
      unfold came
      rw [List.mem_take_iff_getElem]
      refine ⟨D2.waits.length - 1 - j, by simp; omega, ?_⟩
      simp
      omega
    obtain ⟨k1, k2⟩ := hkeep _ hA2.other hA2.size hA2.os hA2.tape hA2.output
    have hBf := hA2.at_
    rw [e6, ← hnow] at hBf
    clear hnow hB5 hkeep
    gi_wp2
    refine ⟨by simp, .inl ⟨_, _, rfl, run_takeDeferred hK, ?_⟩⟩
    exact ⟨_, results_tmp2 rfl _ _ _, _, by omega, rfl, hBf, k2, k1⟩
end Go.Proofs.Ytgicpialopccpaa
