/- What Write comes to. -/
import Derived.Test.YtgicpialopccpaaDiskG
import Derived.Deep.RegionLaw
namespace Go.Proofs.Ytgicpialopccpaa
open Go.RowKit

/-- Another write waits. -/
theorem DiskIn.setWaits {w w' : World} {p sb : Nat} {scs : List Value} {wv : Value} {dvs : List Value} {av : Value} {D : Dk} {M : Nat → Prop} (h : DiskIn w p sb scs wv dvs av D M) (hg : w.grownBy w' wv.ownBlock) (wv' v : Value) (i : Nat) (b : List UInt8)
    (hw' : OwnsM w' M 70 2 wv' (D.waits.length + 1) (pairs D.waits dvs ++ [.int .i64 ((i : Nat) : Int), v])) (hv : OwnsM w M 5 1 v 512 (b.map byteV)) (hi : i < D.secs.length) (hb : b.length = 512) :
    DiskIn (w'.setCell ⟨p, 1, none⟩ wv') p sb scs wv' (dvs ++ [v]) av { D with waits := D.waits ++ [(i, b)] } M ∧ Keeps M w (w'.setCell ⟨p, 1, none⟩ wv') := by
  have lt : ∀ {k o}, w.heap[k]? = some o → k < w.heap.size := fun hh => (Array.getElem?_eq_some_iff.1 hh).1
  have hblk : ∀ g, wv.ownBlock = some g → M g ∧ ∃ cur, w.heap[g]? = some (.cells cur 70 (0, 0)) := fun g e => by
    refine ⟨h.hw.2 g e, ?_⟩
    rcases h.hw.1.2 with ⟨e2, _⟩ | ⟨g2, _, cur, e2, _, hh, _⟩
    · rw [e2] at e; cases e
    · rw [e2] at e; cases e; exact ⟨cur, hh⟩
  have hpk : w'.heap[p]? = w.heap[p]? := hg.block p (lt h.hp) (fun e => by
    obtain ⟨_, cur, hh⟩ := hblk p e.symm
    rw [h.hp] at hh; simp at hh)
  have hp' := hpk.trans h.hp
  have keep : ∀ k, k < w.heap.size → k ≠ p → (∀ cur, w.heap[k]? ≠ some (.cells cur 70 (0, 0))) → (w'.setCell ⟨p, 1, none⟩ wv').heap[k]? = w.heap[k]? := fun k hk hkp hc => by
    rw [heap_set_other hkp]
    exact hg.block k hk (fun e => by obtain ⟨_, cur, hh⟩ := hblk k e.symm; exact hc cur hh)
  have own : ∀ {e size n : Nat} {u : Value} {xs : List Value}, e ≠ 70 → e ≠ 65 → OwnsM w M e size u n xs → OwnsM (w'.setCell ⟨p, 1, none⟩ wv') M e size u n xs := by
    intro e size n u xs h1 h2 ho
    refine ⟨⟨ho.1.1, ?_⟩, ho.2⟩
    rcases ho.1.2 with h3 | ⟨g, cap, cur, rfl, hb, hh, r⟩
    · exact .inl h3
    · refine .inr ⟨g, cap, cur, rfl, hb, ?_, r⟩
      rw [keep g (lt hh) (fun e' => by subst e'; rw [h.hp] at hh; cases hh; exact h2 rfl) (fun cur' e' => by rw [hh] at e'; cases e'; exact h1 rfl)]
      exact hh
  have hsp : sb ≠ p := fun e => by have := h.hs; rw [e, h.hp] at this; simp at this
  have hpairs : pairs (D.waits ++ [(i, b)]) (dvs ++ [v]) = pairs D.waits dvs ++ [.int .i64 ((i : Nat) : Int), v] := by
    unfold pairs
    rw [List.zipWith_append h.dl.symm]
    simp
  refine ⟨⟨by rw [heap_set hp']; rfl, h.mp, h.msb, ?_, h.sl, fun j hj => (h.sec j hj).imp id fun x => ⟨x.1, own (by decide) (by decide) x.2⟩, ?_, by simp [h.dl], ?_, ?_, fun k hk => h.new k (by have := hg.size; simp at hk; omega), ⟨h.ok.secs, ?_⟩, h.len, h.ops⟩, ?_⟩
  · rw [keep sb (lt h.hs) hsp (fun cur e => by rw [h.hs] at e; simp at e)]; exact h.hs
  · show OwnsM _ M _ 2 wv' (D.waits ++ [(i, b)]).length (pairs (D.waits ++ [(i, b)]) (dvs ++ [v]))
    rw [hpairs, List.length_append]
    exact hw'.other hp' (by decide) (fun k _ hk => heap_set_other hk)
  · intro j hj
    have hj' : j < D.waits.length + 1 := by simpa using hj
    by_cases e : j = D.waits.length
    · subst e
      have e1 : (dvs ++ [v]).getD D.waits.length undef = v := by rw [← h.dl]; simp [List.getD]
      have e2 : (D.waits ++ [(i, b)]).getD D.waits.length (0, []) = (i, b) := by simp [List.getD]
      show OwnsM _ M _ 1 _ 512 (((D.waits ++ [(i, b)]).getD D.waits.length (0, [])).2.map byteV)
      rw [e1, e2]
      exact own (by decide) (by decide) hv
    · have hlt : j < D.waits.length := by omega
      have e1 : (dvs ++ [v]).getD j undef = dvs.getD j undef := by simp [List.getD, List.getElem?_append_left (show j < dvs.length by rw [h.dl]; exact hlt)]
      have e2 : (D.waits ++ [(i, b)]).getD j (0, []) = D.waits.getD j (0, []) := by simp [List.getD, List.getElem?_append_left hlt]
      show OwnsM _ M _ 1 _ 512 (((D.waits ++ [(i, b)]).getD j (0, [])).2.map byteV)
      rw [e1, e2]
      exact own (by decide) (by decide) (h.dat j hlt)
  · have ha := h.arm
    show ArmIn _ M av D.armed
    cases hx : D.armed with
    | none => rw [hx] at ha; exact ha
    | some x =>
      obtain ⟨left, kp⟩ := x
      rw [hx] at ha
      obtain ⟨ab, kv, e1, hm, hh, hr, hl⟩ := ha
      exact ⟨ab, kv, e1, hm, by rw [keep ab (lt hh) (fun e => by rw [e, h.hp] at hh; simp at hh) (fun cur e => by rw [hh] at e; simp at e)]; exact hh, own (by decide) (by decide) hr, hl⟩
  · intro x hx
    rcases List.mem_append.1 hx with hx | hx
    · exact h.ok.waits x hx
    · simp at hx; subst hx; exact ⟨hb, hi⟩
  · have k1 : Keeps M w w' := ⟨hg.os, hg.tape, hg.output, hg.size, fun k hk hc => hg.block k hk (fun e => by
      obtain ⟨hm, cur, hh⟩ := hblk k e.symm
      have := hc hm _ _ _ hh
      cases this)⟩
    exact k1.trans ((Keeps.refl _ _).setHot (p := ⟨p, 1, none⟩) hp' h.mp rfl _)

theorem step_append_wait {ops : Array Oper} {o : Oper} {a : Act} {w : World} {K : Act → World → Prop} {Q : Exit → Act → World → Prop} {E : Prop} (hgd : o.guard = none) (s x : Operand)
    (ho : o.op = .call { callee := .builtin .append, args := #[s, x], argTypes := #[62, 62] }) (M : Nat → Prop) (v : Value) (n : Nat) (xs : List Value) (hs : a.eval s = v) (ad : Addr) (c : Nat) (u1 u2 : Value) (hx : a.eval x = .slice (some ad) 1 c)
    (hM : ∀ k, w.heap.size ≤ k → M k) (hown : OwnsM w M 70 2 v n xs)
    (hc : ∀ j u, [u1, u2][j]? = some u → w.cell? (ad.add j) = some u) (h1 : ∀ u ∈ [u1, u2], u.oneCell' = true) (hn : n ≤ 1000000)
    (h : ∀ wa cap w', OwnsM w' M 70 2 (.slice wa (n + 1) cap) (n + 1) (xs ++ [u1, u2]) → w.grownBy w' v.ownBlock → K (a.put o.dst (.slice wa (n + 1) cap)) w') :
    if Region.wanted o (yielded ops a.tmps) = true then Oper.wp Try.prog o a w K Q else E := by
  have hw : Region.wanted o (yielded ops a.tmps) = true := by simp [Region.wanted, hgd]
  rw [if_pos hw]
  obtain ⟨wa, cap, w', hrun, h2, h3⟩ := run_append_wait w M hM o.type v n xs hown ad c u1 u2 hc h1 hn
  unfold Oper.wp
  simp [execOp, ho, resolve, invoke, builtin, hs, hx, hrun, Result.andThen]
  exact h _ _ _ h2 h3
theorem cells_pair (w : World) (u1 u2 : Value) (t : TypeId) : ∀ j u, [u1, u2][j]? = some u → (w.alloc (.cells #[u1, u2] t)).cell? ((⟨w.heap.size, 0, none⟩ : Addr).add j) = some u := fun j u hu => by
  rw [addr_add, Nat.zero_add, cell_of (heap_alloc_new _ _)]
  simpa using hu

set_option maxHeartbeats 800000 in
theorem write_arg (w : World) (p : Nat) (D : Dk) (M : Nat → Prop) (at_ : Int) (a : Option Addr) (n c : Nat) (hD : DiskAt w p D M) (h : ¬ (0 ≤ at_ ∧ at_ < (D.secs.length : Int) ∧ n = 512)) :
    Calls Try.prog 14 #[.pointer (some ⟨p, 0, none⟩), .int .i64 at_, .slice a n c] w fun e w' => e = .returned (.int .i64 1) ∧ w = w' := by
  by_cases h1 : 0 ≤ at_ ∧ at_ < (D.secs.length : Int)
  · have hn : n ≠ 512 := fun e => h ⟨h1.1, h1.2, e⟩
    have hdec : decide (0 ≤ at_ ∧ at_ < (D.secs.length : Int)) = true := decide_eq_true h1
    have hn2 : ((n : Int) != 512) = true := by simp; omega
    go_enter Try.func14, Try.ntmps14
    go_wp2_with fail
    refine (is_calls _ p D M at_ hD).mono ?_
    rw [hdec]
    rintro e w1 ⟨rfl, rfl⟩
    clear hdec h h1
    go_wp2
    go_ret
    exact ⟨rfl, rfl⟩
  · have hdec : decide (0 ≤ at_ ∧ at_ < (D.secs.length : Int)) = false := decide_eq_false h1
    go_enter Try.func14, Try.ntmps14
    go_wp2_with fail
    refine (is_calls _ p D M at_ hD).mono ?_
    rw [hdec]
    rintro e w1 ⟨rfl, rfl⟩
    clear hdec h h1
    go_wp2
    go_ret
    exact ⟨rfl, rfl⟩

set_option maxHeartbeats 800000 in
theorem write_down (w : World) (p : Nat) (D : Dk) (M : Nat → Prop) (i : Nat) (I : Int) (hI : I = (i : Int)) (b : List UInt8) (a : Option Addr) (c : Nat) (hD : DiskAt w p D M) (hi : i < D.secs.length) (hd : D.fell.down = true) :
    Calls Try.prog 14 #[.pointer (some ⟨p, 0, none⟩), .int .i64 I, .slice a 512 c] w fun e w' => e = .returned (.int .i64 11) ∧ DiskAt w' p (D.write i b) M ∧ Keeps M w w' := by
  subst hI
  have hdec : decide ((0 : Int) ≤ (i : Int) ∧ (i : Int) < (D.secs.length : Int)) = true := decide_eq_true ⟨by omega, by omega⟩
  have ew : D.write i b = D.begun := by simp [Dk.write, Dk.begun, hd]
  rw [ew]
  go_enter Try.func14, Try.ntmps14
  go_wp2_with fail
  refine (is_calls _ p D M i hD).mono ?_
  rw [hdec]
  rintro e w1 ⟨rfl, rfl⟩
  clear hdec
  go_wp2_with fail
  refine (begin_calls _ p D M hD).mono ?_
  have eb : beginE D = 11 := by simp [beginE, hd]
  rw [eb]
  rintro e w2 ⟨rfl, hD2, hk⟩
  clear eb hd
  go_wp2
  go_ret
  exact ⟨rfl, hD2, hk⟩

set_option maxHeartbeats 1600000 in
theorem write_ok (w : World) (p : Nat) (D : Dk) (M : Nat → Prop) (i : Nat) (I : Int) (hI : I = (i : Int)) (b : List UInt8) (a : Option Addr) (c : Nat) (hD : DiskAt w p D M) (hi : i < D.secs.length) (hd : D.fell.down = false) (hb : BytesAt w a b) (hbl : b.length = 512)
    (hcold : ∀ g o, a = some ⟨g, o, none⟩ → M g → Cold (w.heap[g]?)) (hwn : D.fell.waits.length ≤ 100000) :
    Calls Try.prog 14 #[.pointer (some ⟨p, 0, none⟩), .int .i64 I, .slice a 512 c] w fun e w' => e = .returned (.int .i64 0) ∧ DiskAt w' p (D.write i b) M ∧ Keeps M w w' := by
  subst hI
  have hdec : decide ((0 : Int) ≤ (i : Int) ∧ (i : Int) < (D.secs.length : Int)) = true := decide_eq_true ⟨by omega, by omega⟩
  have ew : D.write i b = { D.begun with waits := D.begun.waits ++ [(i, b)] } := by simp [Dk.write, Dk.begun, hd]
  have hwb : D.begun.waits.length ≤ 100000 := by simp [Dk.begun, hd, Dk.counted]; exact hwn
  have hlb : D.begun.secs.length = D.secs.length := by simp [Dk.begun, hd, Dk.counted, Dk.fell_len]
  rw [ew]
  obtain ⟨D2, hDe⟩ : ∃ D2, D2 = D.begun := ⟨_, rfl⟩
  rw [← hDe] at hwb hlb ⊢
  go_enter Try.func14, Try.ntmps14
  go_wp2_with fail
  refine (is_calls _ p D M i hD).mono ?_
  rw [hdec]
  rintro e w1 ⟨rfl, rfl⟩
  clear hdec ew
  go_wp2_with fail
  refine (begin_calls _ p D M hD).mono ?_
  have eb : beginE D = 0 := by simp [beginE, hd]
  rw [eb]
  rintro e w2 ⟨rfl, hD2, hk⟩
  rw [← hDe] at hD2
  have hi2 : i < D2.secs.length := by omega
  clear hDe eb hd hD hi hlb hwn
  -- the bytes that are handed in stand
  obtain ⟨g, o, rfl, hbc⟩ := hb.at (fun e => by subst e; cases hbl)
  have hb2 : BytesAt w2 (some ⟨g, o, none⟩) b := fun j hj => by
    obtain ⟨g', o', e, hcj⟩ := hb j hj
    cases e
    refine ⟨g, o, rfl, ?_⟩
    rw [World.cell?_of_block (w := w) (hk.block g (World.block_lt_of_cell? _ _ hcj) (hcold g o rfl))]
    exact hcj
  obtain ⟨sb, scs, wv, dvs, av, h2⟩ := id hD2
  obtain ⟨wa, wc, hwv, hwc⟩ := ownsRow_slice h2.hw.1
  subst hwv
  obtain ⟨d0, d1, d2, d3, d4, df⟩ := h2.cells
  have f1 := df 1
  have hpl : p < w2.heap.size := World.block_lt_of_cell? _ _ d0
  clear df d2 d3 d4 hb hbc
  have hM : ∀ k, w2.heap.size ≤ k → M k := h2.new
  have hwn1 : D2.waits.length ≤ 1000000 := by omega
  have hown := h2.hw
  have hne : ∀ g', (Value.slice wa D2.waits.length wc).ownBlock = some g' → p ≠ g' := fun g' e1 e2 => by
    subst e2
    rcases hown.1.2 with ⟨e, _⟩ | ⟨g2, _, _, e, _, hh, _⟩
    · rw [e] at e1; cases e1
    · rw [e] at e1; cases e1; rw [h2.hp] at hh; simp at hh
  go_wp2_with fail
  go_region_law (first
    | (go_simp; go_at_call_of 27 g; refine (clone_calls w2.drew (some ⟨g, o, none⟩) 512 c b hb2 hbl (by omega) (fun h => by cases h)).mono ?_; rintro e w9 ⟨g9, cap9, rfl, hown9, hb9⟩; have hp9 : p < w9.heap.size := Nat.lt_of_lt_of_le hpl hb9.size; have c9 := (hb9.cell (p := ⟨p, 1, none⟩) hpl).trans d1; have f9 := (hb9.frozen (p := ⟨p, 1, none⟩) hpl).trans f1)
    | (refine step_append_wait rfl (.tmp 26) (.tmp 31) rfl M _ D2.waits.length _ rfl _ 1 _ _ rfl (fun k hk => hM k (Nat.le_trans (Nat.le_trans hb9.size (by simp)) hk)) (hown.grow (fun k hk => (Below.heap_alloc _ _ _ (Nat.lt_of_lt_of_le hk hb9.size)).trans (hb9.block k hk))) (cells_pair _ _ _ _) (by intro u hu; simp at hu; rcases hu with rfl | rfl <;> rfl) hwn1 ?_; intro wa' cap' w10 hown10 hg10; have c10 := hg10.cell (a := ⟨p, 1, none⟩) ((World.cell?_of_block (w := w9) (Below.heap_alloc _ _ _ hp9)).trans c9) (fun e1 => hne p e1.symm rfl); have f10 : w10.frozen? ⟨p, 1, none⟩ = false := (World.frozen?_of_block (hg10.block p (by simp; omega) (fun e1 => hne p e1.symm rfl))).trans ((World.frozen?_of_block (w := w9) (Below.heap_alloc _ _ _ hp9)).trans f9); have hp10 : p < w10.heap.size := World.block_lt_of_cell? _ _ c10))
  all_goals
    have hg : (w9.alloc (.cells #[.int .i64 (i : Int), .slice g9 512 cap9] 70)).grownBy w10 (Value.slice wa D2.waits.length wc).ownBlock := hg10
    have hgrow : ∀ k, k < w2.heap.size → (w9.alloc (.cells #[.int .i64 (i : Int), .slice g9 512 cap9] 70)).heap[k]? = w2.heap[k]? := fun k hk => (Below.heap_alloc _ _ _ (Nat.lt_of_lt_of_le hk hb9.size)).trans (hb9.block k hk)
    have h9 := h2.frame (w' := w9.alloc (.cells #[.int .i64 (i : Int), .slice g9 512 cap9] 70)) (fun k hk _ => hgrow k hk) (Nat.le_trans hb9.size (by simp))
    have hv : OwnsM (w9.alloc (.cells #[.int .i64 (i : Int), .slice g9 512 cap9] 70)) M 5 1 (.slice g9 512 cap9) 512 (b.map byteV) :=
      ⟨⟨hown9.1, (hown9.alloc _).2.imp id fun ⟨g, cap, cur, e, _, r⟩ => ⟨g, cap, cur, e, Nat.zero_le _, r⟩⟩, fun g' hg' => hM g' (by
        rcases hown9.2 with ⟨e, _⟩ | ⟨g2, _, _, e, hb2, _⟩
        · rw [e] at hg'; cases hg'
        · rw [e] at hg'; cases hg'; exact hb2)⟩
    obtain ⟨hfin, hkeep⟩ := h9.setWaits hg (.slice wa' (D2.waits.length + 1) cap') (.slice g9 512 cap9) i b hown10 hv hi2 hbl
    have hk9 : Keeps M w2 (w9.alloc (.cells #[.int .i64 (i : Int), .slice g9 512 cap9] 70)) := Keeps.alloc (Keeps.trans (Keeps.drew (Keeps.refl M w2)) (Keeps.of_below hb9)) _
    have hkall : Keeps M w (w10.setCell ⟨p, 1, none⟩ (.slice wa' (D2.waits.length + 1) cap')) := Keeps.trans (Keeps.trans hk hk9) hkeep
    clear h9 hv hg hgrow hg10 hown10 hown9 hown h2 d0 d1 f1 c9 f9 hkeep hb9
    go_wp2
    go_ret
    exact ⟨rfl, ⟨_, _, _, _, _, hfin⟩, hkall⟩
end Go.Proofs.Ytgicpialopccpaa
