/- What number comes to. -/
import Derived.Test.YtoihfamiclbffaaJourC
import Derived.Test.YtoihfamiclbffaaJourP
import Derived.RangeFuncBox
namespace Go.Proofs.Ytoihfamiclbffaa
open Go.RowKit Go.Shelf
attribute [local go_sem] Oper.semAt_some

/-- What has come, as a number. -/
def valOf {m : Nat} (dv : Fin m → UInt8) (pre : List (Fin m)) : Nat := pre.foldl (fun n x => n * 256 + (dv x).toNat) 0
theorem valOf_snoc {m : Nat} (dv : Fin m → UInt8) (pre : List (Fin m)) (x : Fin m) : valOf dv (pre ++ [x]) = valOf dv pre * 256 + (dv x).toNat := by simp [valOf]
theorem valOf_lt {m : Nat} (dv : Fin m → UInt8) : ∀ (k : Nat) (pre : List (Fin m)), pre.length = k → valOf dv pre < 256 ^ k
  | 0, pre, h => by rw [List.eq_nil_of_length_eq_zero h]; simp [valOf]
  | k + 1, pre, h => by
    have hne : pre ≠ [] := fun e => by subst e; simp at h
    rw [← List.dropLast_concat_getLast hne, valOf_snoc, Nat.pow_succ]
    have := valOf_lt dv k pre.dropLast (by simp; omega)
    have := (dv (pre.getLast hne)).toNat_lt
    omega

theorem or_low (v : Nat) (c : UInt8) (hv : v < 72057594037927936) : Go.bits .or .u64 ((v : Int) * 256) (c.toNat : Int) = ((v * 256 + c.toNat : Nat) : Int) := by
  have hc := c.toNat_lt
  have e : v * 256 + c.toNat = v * 256 ||| c.toNat := by
    have := Nat.shiftLeft_add_eq_or_of_lt (b := c.toNat) (i := 8) (by omega) v
    rw [Nat.shiftLeft_eq] at this
    exact this
  unfold Go.bits
  have e1 : (v : Int) * 256 = ((v * 256 : Nat) : Int) := by simp
  rw [IntKind.wrap_u64, e1, BitVec.ofInt_natCast, BitVec.ofInt_natCast]
  show ((((BitVec.ofNat 64 (v * 256)) ||| (BitVec.ofNat 64 c.toNat)).toNat : Int)) % _ = _
  rw [BitVec.toNat_or, BitVec.toNat_ofNat, BitVec.toNat_ofNat, Nat.mod_eq_of_lt (by omega), Nat.mod_eq_of_lt (by omega), ← e]
  omega

set_option maxRecDepth 100000 in
set_option maxHeartbeats 2000000 in
theorem number_raw (w : World) (a : Option Addr) (m cap : Nat) (l : List UInt8) (hA : BytesAt w a l) (hl : l.length = m) (hm : m ≤ 8) :
    Calls Try.prog 39 #[.slice a m cap] w fun e w' => e = .returned (.int .u64 (valOf (fun x : Fin m => l.getD x.1 0) (bcame m m) : Nat)) ∧ Below w.heap.size w w' := by
  obtain ⟨dv, hdv⟩ : ∃ dv : Fin m → UInt8, dv = fun x => l.getD x.1 0 := ⟨_, rfl⟩
  rw [← hdv]
  have Hdv := Lib.hid hdv
  clear hdv
  refine (callsIn_wide (n := 9)).1 ?_
  refine callsIn_of_wp_marks Try.func39 rfl trivial ?_ rfl
  simp only [Try.ntmps39, List.size_toArray, List.length_cons, List.length_nil, Nat.reduceAdd, Nat.reduceSub, Array.replicate_succ, Array.replicate_zero, List.push_toArray, List.append_toArray, List.nil_append, List.cons_append]
  gi_wp2_with fail
  refine ⟨trivial, ?_⟩
  gi_at_call 56
  refine (bbackward_in Fence.wide _ trivial rfl _ _ _ _).mono ?_
  rintro e w' ⟨rfl, rfl⟩
  gi_wp2_with fail
  have bN := Boxed.new w 32 (.int .u64 0)
  have bS := Boxed.new (w.alloc (.cells #[.int .u64 0] 32)) 33 (.slice a m cap)
  rw [World.size_alloc] at bS
  have hB0 : Below w.heap.size w ((w.alloc (.cells #[.int .u64 0] 32)).alloc (.cells #[.slice a m cap] 33)) := ((Below.refl _ w).alloc (Nat.le_refl _) _).alloc (by simp) _
  refine wpIn_rangeFunc_ownG rfl (by omega) (gf := 61) (lb := #[.pointer (some ⟨w.heap.size + 1, 0, none⟩)]) rfl trivial (enters_of Try.func61 (by kernel_rfl) rfl)
    (bbackward_stops Fence.wide _ trivial rfl (by omega) (w.heap.size + 1) w.heap.size m cap a dv _ (by simp) (by simp; omega) (by omega) bS.cell (fun x => by
      obtain ⟨b, o, e, hc⟩ := hA x.1 (by rw [hl]; exact x.2)
      refine ⟨b, o, e, ?_, ?_⟩
      · exact World.block_lt_of_cell? _ _ hc
      · rw [Hdv.out]; exact (hB0.cell (p := ⟨b, o + x.1, none⟩) (World.block_lt_of_cell? _ _ hc)).trans hc)) (fun h k => KeepsBox.trans h k) (keepsBox_b (by simp; omega) (by simp)) (Below.refl _ _) (fun _ => rfl)
    (fun pre W => (W.cell? ⟨w.heap.size, 0, none⟩ = some (.int .u64 (valOf dv pre : Nat)) ∧ W.frozen? ⟨w.heap.size, 0, none⟩ = false) ∧ Below w.heap.size w W)
    (fun _ _ _ => False)
    (OwnFrom.and (Own.from (fun s A B row hs hg hr => ⟨cell_kept hs.1 hg hr, (frozen_kept hs.1 hg hr).trans hs.2⟩) _) (ownFrom_below (Nat.le_refl _) (by simp; omega)))
    (fun _ _ _ _ _ hs _ _ => hs)
    ⟨⟨(bN.alloc _).cell, (bN.alloc _).frozen⟩, hB0⟩
    (fun x => { tmps := #[.slice a m cap, undef, .pointer (some ⟨w.heap.size, 0, none⟩), undef, .int .u8 ((dv x).toNat : Int), .slice a m cap, .func (.func 61) #[] #[.pointer (some ⟨w.heap.size + 1, 0, none⟩)], .int .i64 ((x.1 : Nat) : Int), .int .u8 ((dv x).toNat : Int), undef, undef, undef, undef, undef, undef], defers := [] }) ?assign ?body ?done ?stop
  case assign =>
    intro l x W K hK
    gi_wp2
    exact hK
  case body =>
    rintro l' pre x W ⟨⟨hc, hf⟩, hB⟩ hlt
    obtain ⟨v, hv⟩ : ∃ v, v = valOf dv pre := ⟨_, rfl⟩
    obtain ⟨c, hcc⟩ : ∃ c, c = dv x := ⟨_, rfl⟩
    have hv2 : valOf dv (pre ++ [x]) = v * 256 + c.toNat := by rw [valOf_snoc, hv, hcc]
    have hvl : v < 72057594037927936 := by
      have h1 := valOf_lt dv pre.length pre rfl
      have h2 : 256 ^ pre.length ≤ 256 ^ 7 := Nat.pow_le_pow_right (by omega) (by omega)
      rw [hv]
      exact Nat.lt_of_lt_of_le h1 h2
    rw [← hv] at hc
    have Hv2 := Lib.hid hv2
    rw [← hcc]
    have hc256 := c.toNat_lt
    clear hv hcc hv2
    gi_wp2
    rw [or_low v c (by omega)]
    refine ⟨(KeepsOthers.setCell _ _ _).from _, ⟨(Below.refl w.heap.size W).setCell (p := ⟨w.heap.size, 0, none⟩) (Nat.le_refl _) _, Below.heap_setCell W _ _ _ (by simp)⟩, ⟨by rw [Hv2.out]; exact World.cell?_setCell_same' _ _ _ (by rw [hc]; rfl), by rw [World.frozen?_setCell]; exact hf⟩, hB.setCell (p := ⟨w.heap.size, 0, none⟩) (Nat.le_refl _) _⟩
  case done =>
    rintro D ys W hD rfl ⟨⟨hc, hf⟩, hB⟩ hK
    obtain ⟨v, hv⟩ : ∃ v, v = valOf dv (bcame m m) := ⟨_, rfl⟩
    rw [← hv] at hc
    have Hv := Lib.hid hv
    clear hv
    gi_wp2
    have hK' := (KeepsOthers.setCell W ⟨w.heap.size, 0, none⟩ (.int .u64 (v : Int))).same D _ hK rfl
    refine ⟨by simp, .inl ⟨_, _, rfl, run_takeDeferred hK', ?_⟩⟩
    have hc5 := cell_kept (World.cell?_setCell_same' W ⟨w.heap.size, 0, none⟩ (.int .u64 (v : Int)) (by rw [hc]; rfl)) (grownBy_putObj' _ D (.deferred none)) (fun r e => by cases e; exact ⟨_, hK', rfl⟩)
    refine ⟨.int .u64 (v : Int), ?_, by rw [Hv.out], (hB.setCell (p := ⟨w.heap.size, 0, none⟩) (Nat.le_refl _) _).trans (belowK_b (w := w) (Nat.le_refl _) _ D _ _ (by simp at hD; omega) hK' rfl rfl)⟩
    simp [results, Try.f39, go_sem, hc5]
  case stop =>
    rintro D c pre W _ _ h _
    exact h.elim
theorem numL_foldr (l : List UInt8) : numL l = l.foldr (fun c n => n * 256 + c.toNat) 0 := by
  induction l with
  | nil => rfl
  | cons c l ih => rw [numL, ih, List.foldr_cons]; omega
theorem valOf_all (l : List UInt8) : valOf (fun x : Fin l.length => l.getD x.1 0) (bcame l.length l.length) = numL l := by
  have e : bcame l.length l.length = (List.finRange l.length).reverse := by unfold bcame; rw [List.take_of_length_le (by simp)]
  rw [e, numL_foldr]
  unfold valOf
  rw [List.foldl_reverse]
  have h : l = (List.finRange l.length).map (fun x => l.getD x.1 0) := by
    apply List.ext_getElem
    · simp
    · intro i h1 h2
      simp [List.getD]
  conv => rhs; rw [h]
  rw [List.foldr_map]
theorem number_calls (w : World) (a : Option Addr) (m cap : Nat) (l : List UInt8) (hA : BytesAt w a l) (hl : l.length = m) (hm : m ≤ 8) :
    Calls Try.prog 39 #[.slice a m cap] w fun e w' => e = .returned (.int .u64 ((numL l : Nat) : Int)) ∧ Below w.heap.size w w' := by
  subst hl
  refine (number_raw w a _ cap l hA rfl hm).mono ?_
  rw [valOf_all]
  exact fun e w' h => h
end Go.Proofs.Ytoihfamiclbffaa
