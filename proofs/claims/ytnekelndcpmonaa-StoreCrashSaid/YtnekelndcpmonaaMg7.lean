/- put. A region that draws its order, where a late operation (a call that writes, a store) may undo what the loads ahead of it read: each operation names what it leaves true. -/
import Derived.Test.YtnekelndcpmonaaMg6
import Derived.RangeFuncBox
import Derived.BigRegionIn
import Derived.Deep.RegionHeld
import Derived.RegionTactic
import Derived.Test.YtnekelndcpmonaaMg1
set_option linter.all false
namespace Go.Proofs.Ytnekelndcpmonaa
set_option linter.unusedVariables false
open Go.RowKit Go.Shelf
attribute [local go_sem] Oper.semAt_some

theorem fell_waits (D : Dk) : D.fell.waits.length ≤ D.waits.length := by unfold Dk.fell; split <;> simp [Dk.crash]
theorem write_waits (D : Dk) (i : Nat) (b : List UInt8) : (D.write i b).waits.length ≤ D.waits.length + 1 := by
  have := fell_waits D
  unfold Dk.write; split
  · omega
  · simp [Dk.counted]; omega
theorem barrier_waits (D : Dk) : D.barrier.waits.length ≤ D.waits.length := by
  have := fell_waits D
  unfold Dk.barrier; split
  · exact this
  · simp
theorem write_len (D : Dk) (i : Nat) (b : List UInt8) : (D.write i b).secs.length = D.secs.length := by unfold Dk.write; split <;> simp [Dk.counted, Dk.fell_len]
theorem barrier_len (D : Dk) : D.barrier.secs.length = D.secs.length := by unfold Dk.barrier; split <;> simp [Dk.counted, Dk.fell_len, Dk.flush_len]
theorem wrs_snoc : ∀ (l : List (List UInt8)) (s : List UInt8) (D D1 : Dk) (at_ : Nat), wrs D at_ l = (true, D1) →
    wrs D at_ (l ++ [s]) = (!D1.fell.down, D1.write (at_ + l.length) s)
  | [], s, D, D1, at_, h => by
    simp [wrs] at h
    subst h
    cases hd : D.fell.down <;> simp [wrs, hd]
  | x :: l, s, D, D1, at_, h => by
    rw [wrs] at h
    by_cases hd : D.fell.down = true
    · rw [if_pos hd] at h; cases h
    · rw [if_neg hd] at h
      have := wrs_snoc l s _ D1 _ h
      rw [List.cons_append, wrs, if_neg hd, this, List.length_cons]
      congr 2
      omega
theorem wrs_prefix : ∀ (l l' : List (List UInt8)) (D D1 : Dk) (at_ : Nat), wrs D at_ l = (false, D1) → wrs D at_ (l ++ l') = (false, D1)
  | [], l', D, D1, at_, h => by simp [wrs] at h
  | x :: l, l', D, D1, at_, h => by
    rw [wrs] at h
    rw [List.cons_append, wrs]
    by_cases hd : D.fell.down = true
    · rw [if_pos hd] at h ⊢; exact h
    · rw [if_neg hd] at h ⊢; exact wrs_prefix l l' _ D1 _ h
theorem wrs_bound : ∀ (l : List (List UInt8)) (D D1 : Dk) (at_ : Nat) (b : Bool), wrs D at_ l = (b, D1) → D1.waits.length ≤ D.waits.length + l.length ∧ D1.secs.length = D.secs.length
  | [], D, D1, _, _, h => by cases h; exact ⟨by simp, rfl⟩
  | s :: l, D, D1, at_, b, h => by
    rw [wrs] at h
    have h1 := write_waits D at_ s
    have h2 := write_len D at_ s
    split at h
    · cases h; exact ⟨by simp; omega, h2⟩
    · obtain ⟨h3, h4⟩ := wrs_bound l _ D1 _ b h
      exact ⟨by simp; omega, by rw [h4, h2]⟩

/-- What is left at the end, when the block for deferred calls is done. -/
theorem Sep.putObj {w : World} {R : List Asn} {e : Nat} {v : Value} {t : TypeId} {bv : Value} {m : Nat} {pc : List UInt8} {q p : Nat} {j : Jn} {D : Dk} {B D' : Nat} (S : Sep w (blkA e #[v] t :: bytesA bv m pc :: jnA q p j :: diskA p D :: R)) (hR : ∀ A ∈ R, A.base ≤ B) (hD : B ≤ D') (hK : w.heap[D']? = some (.deferred (some []))) :
    Sep (w.putObj D' (.deferred none)) (blkA e #[v] t :: bytesA bv m pc :: jnA q p j :: diskA p D :: R) :=
  SepIn.grown (B := B) (grownBy_putObj' w D' (.deferred none)) (fun r e => by cases e; exact ⟨hD, _, hK, rfl⟩) (fun A hA => by
    simp only [List.mem_cons] at hA
    rcases hA with rfl | rfl | rfl | rfl | hA
    any_goals exact Nat.zero_le _
    exact hR A hA) S
theorem cutsTo_map (r : List (List UInt8)) (c : Nat) (h : r.length = c) : (cutsTo c c).map (fun x => r.getD x.1 []) = r := by
  subst h
  unfold cutsTo
  rw [List.take_of_length_le (by simp)]
  apply List.ext_getElem
  · simp
  · intro i h1 h2
    simp [List.getD]
theorem cutsTo_pre (r : List (List UInt8)) (c k : Nat) (h : r.length = c) : ∃ l', (cutsTo c k).map (fun x => r.getD x.1 []) ++ l' = r := by
  refine ⟨((List.finRange c).drop k).map (fun x => r.getD x.1 []), ?_⟩
  have := cutsTo_map r c h
  unfold cutsTo at this ⊢
  rw [List.take_of_length_le (by simp)] at this
  rw [← List.map_append, List.take_append_drop]
  exact this
theorem put_fail {D Df : Dk} {j : Jn} {pc : List UInt8} (h : wrs D (j.from_ + j.used + 1) (secsOf (pc.drop 512)) = (false, Df)) : putJ D j pc = (false, Df, j) := by simp [putJ, h]
theorem put_bar {D D1 : Dk} {j : Jn} {pc : List UInt8} (h : wrs D (j.from_ + j.used + 1) (secsOf (pc.drop 512)) = (true, D1)) (hc : (secsOf (pc.drop 512)).length ≠ 0) (hd : D1.fell.down = true) : putJ D j pc = (false, D1.barrier, j) := by simp [putJ, h, hc, hd]
/-- The disk when all but the first sector is safe. -/
def midD (c : Nat) (D1 : Dk) : Dk := if c = 0 then D1 else D1.barrier
theorem put_last {D D1 : Dk} {j : Jn} {pc : List UInt8} (h : wrs D (j.from_ + j.used + 1) (secsOf (pc.drop 512)) = (true, D1)) (hd : (secsOf (pc.drop 512)).length = 0 ∨ D1.fell.down = false) :
    putJ D j pc = if (midD (secsOf (pc.drop 512)).length D1).fell.down then (false, (midD (secsOf (pc.drop 512)).length D1).write (j.from_ + j.used) (pc.take 512), j)
      else (true, (midD (secsOf (pc.drop 512)).length D1).write (j.from_ + j.used) (pc.take 512), { j with used := j.used + (secsOf (pc.drop 512)).length + 1, next := j.next + 1 }) := by
  unfold putJ midD
  rcases hd with hd | hd
  · simp [h, hd]
  · by_cases hc : (secsOf (pc.drop 512)).length = 0
    · simp [h, hc]
    · simp [h, hc, hd]

set_option maxRecDepth 100000 in
set_option maxHeartbeats 4000000 in
theorem put_sep {w : World} {R : List Asn} {q p g m cap : Nat} {j : Jn} {D : Dk} {pc : List UInt8} (S : Sep w (bytesA (.slice (some ⟨g, 0, none⟩) m cap) m pc :: jnA q p j :: diskA p D :: R)) (c : Nat) (hm : m = 512 * c + 512)
    (hfit : j.from_ + j.used + c + 1 ≤ D.secs.length) (hw : D.waits.length + c ≤ 90000) (hn : j.next ≤ lastN) :
    Calls Try.prog 52 #[.pointer (some ⟨q, 0, none⟩), .slice (some ⟨g, 0, none⟩) m cap] w fun e w' => e = .returned (.int .i64 (eOf (putJ D j pc).1)) ∧ Sep w' (bytesA (.slice (some ⟨g, 0, none⟩) m cap) m pc :: jnA q p (putJ D j pc).2.2 :: diskA p (putJ D j pc).2.1 :: R) := by
  obtain ⟨hsec1, hsec2, hsec3⟩ := dk_len S.up2
  obtain ⟨_, _, e, hmc, hcm⟩ := ownsRow_slice S.own
  cases e
  have hpl := S.bytes.len
  have hgl : g < w.heap.size := by obtain ⟨_, e, _, h, _⟩ := S.bytes.at (by omega); cases e; exact h
  obtain ⟨c0, c1, c2, c3, c4, c5, _, hq⟩ := S.up1.jn
  have Hm := Lib.hid hm
  have m1 : (512 : Int) ≤ (m : Int) := by omega
  have m2 : (512 : Int) ≤ (cap : Int) := by omega
  have m3 : (m : Int) ≤ (cap : Int) := by omega
  have m4 : 512 ≤ m := by omega
  have m5 : 512 ≤ cap := by omega
  clear hm
  refine (callsIn_wide (n := 9)).1 ?_
  refine callsIn_of_wp_marks Try.func52 rfl trivial ?_ rfl
  simp only [Try.ntmps52, List.size_toArray, List.length_cons, List.length_nil, Nat.reduceAdd, Nat.reduceSub, Array.replicate_succ, Array.replicate_zero, List.push_toArray, List.append_toArray, List.nil_append, List.cons_append]
  obtain ⟨a1, c1, hsl, ha1, hc1, hc2⟩ : ∃ a1 c1, (∀ W, (Instr.sliceAt 31 (.slice (some ⟨g, 0, none⟩) m cap) (some (.int .i64 512)) none none).run Try.prog W = .ok (.slice a1 (512 * c) c1) W) ∧ (0 < c → a1 = some ⟨g, 512, none⟩) ∧ 512 * c ≤ c1 ∧ c1 ≤ cap := by
    by_cases he : cap = 512
    · refine ⟨some ⟨g, 0, none⟩, 0, fun W => ?_, fun h => by have := Hm.out; omega, by have := Hm.out; omega, by omega⟩
      have : m - 512 = 512 * c := by have := Hm.out; omega
      subst he
      go_simp
    · refine ⟨some ⟨g, 512, none⟩, cap - 512, fun W => ?_, fun h => rfl, by have := Hm.out; omega, by omega⟩
      have : m - 512 = 512 * c := by have := Hm.out; omega
      go_simp
  gi_wp2_with fail
  refine ⟨trivial, ?_⟩
  gi_at_call 64
  refine (cuts_in Fence.wide _ trivial rfl _ _ _ _).mono ?_
  rintro e w' ⟨rfl, rfl⟩
  gi_wp2_with fail
  obtain ⟨r, hr⟩ : ∃ r, r = secsOf (pc.drop 512) := ⟨_, rfl⟩
  have hrl : r.length = c := by rw [hr, secsOf_len, List.length_drop, hpl, Hm.out]; omega
  have hrx : ∀ i, i < c → r.getD i [] = (pc.drop (512 + 512 * i)).take 512 := fun i hi => by
    rw [hr, secsOf_getD _ _ (by rw [List.length_drop, hpl, Hm.out]; omega), List.drop_drop]
  obtain ⟨f0, hf0⟩ : ∃ f0, f0 = j.from_ + j.used + 1 := ⟨_, rfl⟩
  have S5 := (((S.alloc #[.pointer (some ⟨q, 0, none⟩)] 67).alloc #[.int .i64 0] 25).alloc #[.int .i64 (j.used : Int)] 3).alloc #[.slice a1 (512 * c) c1] 31
  simp only [World.size_alloc] at S5
  obtain ⟨B, hB⟩ : ∃ B, B = w.heap.size := ⟨_, rfl⟩
  rw [← hB] at S5 ⊢
  obtain ⟨w5, hw5⟩ : ∃ w5, w5 = (((w.alloc (.cells #[.pointer (some ⟨q, 0, none⟩)] 67)).alloc (.cells #[.int .i64 0] 25)).alloc (.cells #[.int .i64 (j.used : Int)] 3)).alloc (.cells #[.slice a1 (512 * c) c1] 31) := ⟨_, rfl⟩
  rw [← hw5] at S5 ⊢
  have hit := S5.blk
  have hitl := S5.blk_lt
  obtain ⟨L, hL⟩ : ∃ L : List (Fin c) → List Asn, L = fun pre => anyA (B + 1 + 1 + 1) 31 :: blkA (B + 1 + 1) #[.int .i64 ((j.used + pre.length : Nat) : Int)] 3 :: blkA (B + 1) #[.int .i64 0] 25 :: blkA B #[.pointer (some ⟨q, 0, none⟩)] 67 :: bytesA (.slice (some ⟨g, 0, none⟩) m cap) m pc :: jnA q p j :: diskA p (wrs D f0 (pre.map fun x => r.getD x.1 [])).2 :: R := ⟨_, rfl⟩
  obtain ⟨Lx, hLx⟩ : ∃ Lx : List (Fin c) → List Asn, Lx = fun pre => anyA (B + 1 + 1 + 1) 31 :: anyA (B + 1 + 1) 3 :: blkA (B + 1) #[.int .i64 11] 25 :: blkA B #[.pointer (some ⟨q, 0, none⟩)] 67 :: bytesA (.slice (some ⟨g, 0, none⟩) m cap) m pc :: jnA q p j :: diskA p (wrs D f0 (pre.map fun x => r.getD x.1 [])).2 :: R := ⟨_, rfl⟩
  have S6 : Sep w5 (L []) := by rw [hL]; simpa [wrs] using S5.any_shut
  have hbL : ∀ k, ∀ A ∈ L k, A.base ≤ w5.heap.size := fun k A hA => by
    have := S6.bases
    rw [hL] at hA this
    simp only [List.mem_cons] at hA this
    rcases hA with rfl | rfl | rfl | rfl | rfl | rfl | rfl | hA
    any_goals exact Nat.zero_le _
    exact this A (by simp [hA])
  have hbLx : ∀ k, ∀ A ∈ Lx k, A.base ≤ w5.heap.size := fun k A hA => by
    have := S6.bases
    rw [hL] at this
    rw [hLx] at hA
    simp only [List.mem_cons] at hA this
    rcases hA with rfl | rfl | rfl | rfl | rfl | rfl | rfl | hA
    any_goals exact Nat.zero_le _
    exact this A (by simp [hA])
  have hBl : B + 1 + 1 + 1 < w5.heap.size := hitl
  have hR : ∀ A ∈ R, A.base ≤ w5.heap.size := fun A hA => hbL [] A (by rw [hL]; simp [hA])
  have HR := Lib.hid hR
  have Hr := Lib.hid hr
  clear hR
  have HL := Lib.hid hL
  have HLx := Lib.hid hLx
  have Hf0 := Lib.hid hf0
  have Hrx := Lib.hid hrx
  have Hrl := Lib.hid hrl
  have Hbl := Lib.hid hbL
  have Hblx := Lib.hid hbLx
  have Hsec := Lib.hid hfit
  clear S5 hw5 hsl c0 c2 c3 c4 c5 S hr hB hL hLx hf0 hrx hrl hbL hbLx
  refine wpIn_rangeFunc_box rfl (by omega) (gf := 72) (lb := #[.pointer (some ⟨B + 1 + 1 + 1, 0, none⟩)]) rfl trivial (enters_of Try.func72 (by kernel_rfl) rfl) hitl
    (cuts1_box Fence.wide _ trivial rfl (by omega) (B + 1 + 1 + 1) g 512 c c1 w5 a1 hit ha1 hc1 (by unfold maxLen at hcm; omega)) (fun _ => rfl)
    (fun pre W => (wrs D f0 (pre.map fun x => r.getD x.1 [])).1 = true ∧ Sep W (L pre))
    (fun jc pre W => (jc = .ret ∧ (wrs D f0 (pre.map fun x => r.getD x.1 [])).1 = false) ∧ Sep W (Lx pre))
    (OwnFrom.and (ownFrom_pure _ _) (sep_ownFrom _ _ Hbl.out))
    (fun jc => OwnFrom.and (ownFrom_pure _ _) (sep_ownFrom _ _ Hblx.out))
    (fun pre W v h => ⟨h.1, by have := h.2; rw [HL.out] at this ⊢; exact this.any_set v⟩)
    ⟨by simp [wrs], S6⟩
    (fun x => { tmps := #[Value.pointer (some ⟨q, 0, none⟩), Value.slice (some ⟨g, 0, none⟩) m cap, Value.pointer (some ⟨B, 0, none⟩), undef, Value.pointer (some ⟨B + 1, 0, none⟩), Value.pointer (some ⟨B + 1 + 1, 0, none⟩), Value.slice (some ⟨g, 512 + 512 * x.1, none⟩) 512 (c1 - 512 * x.1), undef, undef, undef, Value.pointer (some ⟨q, 0, none⟩), Value.pointer (some ⟨q, 0, none⟩), Value.pointer (some ⟨q, 3, none⟩), Value.int .i64 (j.used : Int), Value.slice (some ⟨g, 0, none⟩) m cap, Value.slice a1 (512 * c) c1, Value.func (.func 72) #[] #[.pointer (some ⟨B + 1 + 1 + 1, 0, none⟩)], Value.slice (some ⟨g, 512 + 512 * x.1, none⟩) 512 (c1 - 512 * x.1), undef, undef, undef, undef, undef, undef, undef, undef, undef, undef, undef, undef, undef, undef, undef, undef, undef, undef, undef, undef, undef, undef, undef, undef, undef, undef, undef, undef, undef, undef, undef, undef, undef, undef, undef, undef, undef, undef, undef, undef, undef, undef, undef, undef, undef, undef, undef, undef, undef, undef, undef, undef, undef, undef, undef, undef, undef, undef, undef, undef, undef, undef], defers := [] }) ?assign ?body ?done ?stop
  case assign =>
    intro l x W K hK
    gi_wp2
    exact hK
  case body =>
    rintro l' pre x W ⟨hw1, S⟩ hlt
    obtain ⟨k, hk⟩ : ∃ k, k = pre.length := ⟨_, rfl⟩
    rw [HL.out] at S
    dsimp only at S
    rw [← hk] at S hlt
    obtain ⟨xi, hxi⟩ : ∃ xi, xi = x.1 := ⟨_, rfl⟩
    have hxc : xi < c := by rw [hxi]; exact x.2
    have hmap : ∀ (wx : World), (pre ++ [x]).map (fun x => r.getD x.1 []) = pre.map (fun x => r.getD x.1 []) ++ [r.getD xi []] := fun _ => by rw [List.map_append, hxi]; rfl
    have Hmap := Lib.hid (hmap w)
    have hplen : (pre.map fun x : Fin c => r.getD x.1 []).length = k := by rw [List.length_map, hk]
    dsimp only
    rw [← hxi]
    obtain ⟨u, hu⟩ : ∃ u, u = j.used + k := ⟨_, rfl⟩
    rw [← hu] at S
    have ca := S.up1.blk_cell 0
    have fa := S.up1.blk_free 0
    have S2 := (S.up1.blk_set 0 (.int .i64 ((u + 1 : Nat) : Int))).up1
    have huI : ((u + 1 : Nat) : Int) = (u : Int) + 1 := by omega
    rw [huI] at S2
    obtain ⟨W2, hW2⟩ : ∃ W2, W2 = W.setCell ⟨B + 1 + 1, 0, none⟩ (.int .i64 ((u : Int) + 1)) := ⟨_, rfl⟩
    rw [← hW2] at S2
    have HW2 := Lib.hid hW2
    have Hk := Lib.hid hk
    have Hu := Lib.hid hu
    have hub : (u : Int) ≤ 5000 := by omega
    clear hW2 huI hk hu S
    gi_wp2_with fail
    rw [← HW2.out]
    obtain ⟨D1, hD1⟩ : ∃ D1, D1 = (wrs D f0 (pre.map fun x => r.getD x.1 [])).2 := ⟨_, rfl⟩
    have hwr : wrs D f0 (pre.map fun x => r.getD x.1 []) = (true, D1) := by rw [hD1, ← hw1]
    rw [← hD1] at S2
    have cj := S2.up3.blk_cell 0
    have cat2 := S2.up1.blk_cell 0
    obtain ⟨j0, j1, _⟩ := S2.up5.jn
    have hbd := wrs_bound _ _ _ _ _ hwr
    rw [hplen] at hbd
    have hok := wrs_snoc _ (r.getD xi []) _ _ _ hwr
    rw [← Hmap.out, hplen] at hok
    have hby : BytesAt W2 (some ⟨g, 512 + 512 * xi, none⟩) (r.getD xi []) := by rw [Hrx.out xi hxc]; exact S2.up4.bytes.sub _ _ (by rw [Hm.out]; omega)
    have hbyl : (r.getD xi []).length = 512 := by rw [Hrx.out xi hxc, List.length_take, List.length_drop, hpl, Hm.out]; omega
    have hat : j.from_ + (u + 1) = f0 + k := by rw [Hf0.out, Hu.out]; omega
    have hcj2 : W2.drew.cell? ⟨B, 0, none⟩ = some (.pointer (some ⟨q, 0, none⟩)) := cj
    have hatI : IntKind.i64.wrap ((j.from_ : Int) + ((u : Int) + 1)) = ((f0 + k : Nat) : Int) := by rw [IntKind.wrap_i64]; omega
    have HatI := Lib.hid hatI
    have hcold : ∀ g' o', (some ⟨g, 512 + 512 * xi, none⟩ : Option Addr) = some ⟨g', o', none⟩ → Cold (W2.drew.heap[g']?) := fun g' o' e => by cases e; exact S2.up4.bytes.cold
    have S2d := S2.up6.drew
    have hby' : BytesAt W2.drew (some ⟨g, 512 + 512 * xi, none⟩) (r.getD xi []) := hby
    have hi2 : f0 + k < D1.secs.length := by have := Hf0.out; omega
    have hwd : D1.fell.waits.length ≤ 100000 := by have := fell_waits D1; omega
    have hl2 : w5.heap.size ≤ W2.heap.size ∨ True := .inr trivial
    have Hok := Lib.hid hok
    have hkO : KeepsOthers W W2 := by rw [HW2.out]; exact KeepsOthers.setCell _ _ _
    have hkB : W2.heap[B + 1 + 1 + 1]? = W.heap[B + 1 + 1 + 1]? := by rw [HW2.out]; exact heap_set_other (by omega)
    have HkB := Lib.hid hkB
    obtain ⟨bx, Sx⟩ := S2d.up1.any_open
    have Sx := Sx.up1
    have hbx := Sx.drop.blk
    have Hbx := Lib.hid hbx
    clear hat hatI hok S2 hwr hD1 hby hcj2 hkB S2d hbx hxi hmap hplen hw1
    have hcj2 : W2.drew.cell? ⟨B, 0, none⟩ = some (.pointer (some ⟨q, 0, none⟩)) := cj
    cases hd : D1.fell.down with
    | false =>
      have hrd : rdE D1 = 0 := by simp [rdE, hd]
      refine wpIn_region_held (S := fun w' => w'.cell? ⟨B, 0, none⟩ = some (.pointer (some ⟨q, 0, none⟩)) ∧ w'.cell? ⟨q, 0, none⟩ = some (.pointer (some ⟨p, 0, none⟩)) ∧ w'.cell? ⟨q, 1, none⟩ = some (.int .i64 (j.from_ : Int)) ∧ w'.cell? ⟨B + 1 + 1, 0, none⟩ = some (.int .i64 ((u : Int) + 1))) (by kernel_rfl) ?hd ?lo ⟨hcj2, j0, j1, cat2⟩ (fun hHeld => ?_)
      case hd => (intro o ho c hc; simp at ho; rcases ho with rfl | rfl | rfl | rfl | rfl | rfl | rfl | rfl | rfl | rfl | rfl | rfl | rfl <;> cases hc)
      case lo => (rintro ⟨_, _, h⟩; exact h)
      refine wpAnyH_take (i := 0) (v := ?v0) rfl (by kernel_rfl) (by kernel_rfl) (by kernel_rfl) (fun _ _ _ h => h) (Or.inl ⟨by rfl, ?y0⟩) (by assumption) ?r0
      case y0 => (intro w hSw; (try dsimp only at hSw); go_simp; (try with_reducible rfl))
      try simp only [Act.put, List.setIfInBounds_toArray]
      refine wpAnyH_take (i := 1) (v := ?v1) rfl (by kernel_rfl) (by kernel_rfl) (by kernel_rfl) (fun _ _ _ h => h) (Or.inl ⟨by rfl, ?y1⟩) (by assumption) ?r1
      case y1 => (intro w hSw; (try dsimp only at hSw); go_simp; (try with_reducible rfl))
      try simp only [Act.put]
      refine wpAnyH_take (i := 2) (v := ?v2) rfl (by kernel_rfl) (by kernel_rfl) (by kernel_rfl) (fun _ _ _ h => h) (Or.inl ⟨by rfl, ?y2⟩) (by assumption) ?r2
      case y2 => (intro w hSw; (try dsimp only at hSw); go_simp; (try with_reducible rfl))
      try simp only [Act.put]
      refine wpAnyH_take (i := 3) (v := ?v3) rfl (by kernel_rfl) (by kernel_rfl) (by kernel_rfl) (fun _ _ _ h => h) (Or.inl ⟨by rfl, ?y3⟩) (by assumption) ?r3
      case y3 => (intro w hSw; (try dsimp only at hSw); go_simp; (try with_reducible rfl))
      try simp only [Act.put]
      refine wpAnyH_take (i := 4) (v := ?v4) rfl (by kernel_rfl) (by kernel_rfl) (by kernel_rfl) (fun _ _ _ h => h) (Or.inl ⟨by rfl, ?y4⟩) (by assumption) ?r4
      case y4 => (intro w hSw; (try dsimp only at hSw); go_simp; (try with_reducible rfl))
      try simp only [Act.put]
      refine wpAnyH_take (i := 5) (v := ?v5) rfl (by kernel_rfl) (by kernel_rfl) (by kernel_rfl) (fun _ _ _ h => h) (Or.inl ⟨by rfl, ?y5⟩) (by assumption) ?r5
      case y5 => (intro w hSw; (try dsimp only at hSw); go_simp; (try with_reducible rfl))
      try simp only [Act.put]
      refine wpAnyH_take (i := 6) (v := ?v6) rfl (by kernel_rfl) (by kernel_rfl) (by kernel_rfl) (fun _ _ _ h => h) (Or.inl ⟨by rfl, ?y6⟩) (by assumption) ?r6
      case y6 => (intro w hSw; (try dsimp only at hSw); go_simp; (try with_reducible rfl))
      try simp only [Act.put]
      refine wpAnyH_take (i := 7) (v := ?v7) rfl (by kernel_rfl) (by kernel_rfl) (by kernel_rfl) (fun _ _ _ h => h) (Or.inl ⟨by rfl, ?y7⟩) (by assumption) ?r7
      case y7 => (intro w hSw; (try dsimp only at hSw); go_simp; (try with_reducible rfl))
      try simp only [Act.put]
      refine wpAnyH_take (i := 8) (v := ?v8) rfl (by kernel_rfl) (by kernel_rfl) (by kernel_rfl) (fun _ _ _ h => h) (Or.inl ⟨by rfl, ?y8⟩) (by assumption) ?r8
      case y8 => (intro w hSw; (try dsimp only at hSw); go_simp; (try with_reducible rfl))
      try simp only [Act.put]
      refine wpAnyH_take (i := 9) (v := ?v9) rfl (by kernel_rfl) (by kernel_rfl) (by kernel_rfl) (fun _ _ _ h => h) (Or.inl ⟨by rfl, ?y9⟩) (by assumption) ?r9
      case y9 => (intro w hSw; (try dsimp only at hSw); go_simp; (try with_reducible rfl))
      try simp only [Act.put]
      refine wpAnyH_take (i := 10) (v := ?v10) rfl (by kernel_rfl) (by kernel_rfl) (by kernel_rfl) (fun _ _ _ h => h) (Or.inl ⟨by rfl, ?y10⟩) (by assumption) ?r10
      case y10 => (intro w hSw; (try dsimp only at hSw); go_simp; (try with_reducible rfl))
      try simp only [Act.put]
      refine wpAnyH_ready (rs := [11]) (by kernel_rfl) (by simp) (AllReadyH.cons rfl (fun K hK => ?_) AllReadyH.nil)
      go_simp
      refine (write_sep Sx (f0 + k) _ HatI.out (r.getD xi []) (some ⟨g, 512 + 512 * xi, none⟩) (c1 - 512 * xi) hi2 hby' hbyl hcold hwd).mono ?_
      rw [hrd]
      rintro e wa ⟨rfl, S3, ko3⟩
      have S4 := S3.dn6
      have cj3 := S4.up3.blk_cell 0
      have cat3 := S4.up1.blk_cell 0
      obtain ⟨j03, j13, _⟩ := S4.up5.jn
      have hbk : BoxKept (B + 1 + 1 + 1) W wa := S4.blk.trans (Hbx.out.symm.trans HkB.out)
      have hko : KeepsOthers W wa := hkO.trans ⟨ko3.size, ko3.same⟩
      refine hK.out _ _ ⟨cj3, j03, j13, cat3⟩ (fun hHeld => ?_)
      clear hK K
      refine wpAnyH_ready (rs := [12]) (by kernel_rfl) (by simp) (AllReadyH.cons rfl (fun K hK => ?_) AllReadyH.nil)
      go_simp
      refine hK.out _ _ ⟨cj3, j03, j13, cat3⟩ (fun hHeld => ?_)
      clear hK K
      refine wpAnyH_done (by kernel_rfl) ?_ _
      have HS4 := Lib.hid S4
      have Hko := Lib.hid hko
      have Hbk := Lib.hid hbk
      clear S4 S3 hko hbk Sx cj cat2
      gi_wp2
      have e1 : (#[Value.int .i64 (u : Int)].setIfInBounds 0 (Value.int .i64 ((u : Int) + 1))) = #[Value.int .i64 ((j.used + (pre ++ [x]).length : Nat) : Int)] := by
        rw [List.length_append, ← Hk.out, List.length_singleton, ← Nat.add_assoc, ← Hu.out]; simp
      refine ⟨Hko.out.from _, Hbk.out, by rw [Hok.out, hd]; rfl, ?_⟩
      rw [HL.out]
      dsimp only
      rw [← e1, Hok.out]
      exact HS4.out.any_shut
    | true =>
      have hrd : rdE D1 = 11 := by simp [rdE, hd]
      refine wpIn_region_held (S := fun w' => w'.cell? ⟨B, 0, none⟩ = some (.pointer (some ⟨q, 0, none⟩)) ∧ w'.cell? ⟨q, 0, none⟩ = some (.pointer (some ⟨p, 0, none⟩)) ∧ w'.cell? ⟨q, 1, none⟩ = some (.int .i64 (j.from_ : Int)) ∧ w'.cell? ⟨B + 1 + 1, 0, none⟩ = some (.int .i64 ((u : Int) + 1))) (by kernel_rfl) ?hdb ?lob ⟨hcj2, j0, j1, cat2⟩ (fun hHeld => ?_)
      case hdb => (intro o ho c hc; simp at ho; rcases ho with rfl | rfl | rfl | rfl | rfl | rfl | rfl | rfl | rfl | rfl | rfl | rfl | rfl <;> cases hc)
      case lob => (rintro ⟨_, _, h⟩; exact h)
      refine wpAnyH_take (i := 0) (v := ?vb0) rfl (by kernel_rfl) (by kernel_rfl) (by kernel_rfl) (fun _ _ _ h => h) (Or.inl ⟨by rfl, ?yb0⟩) (by assumption) ?rb0
      case yb0 => (intro w hSw; (try dsimp only at hSw); go_simp; (try with_reducible rfl))
      try simp only [Act.put, List.setIfInBounds_toArray]
      refine wpAnyH_take (i := 1) (v := ?vb1) rfl (by kernel_rfl) (by kernel_rfl) (by kernel_rfl) (fun _ _ _ h => h) (Or.inl ⟨by rfl, ?yb1⟩) (by assumption) ?rb1
      case yb1 => (intro w hSw; (try dsimp only at hSw); go_simp; (try with_reducible rfl))
      try simp only [Act.put]
      refine wpAnyH_take (i := 2) (v := ?vb2) rfl (by kernel_rfl) (by kernel_rfl) (by kernel_rfl) (fun _ _ _ h => h) (Or.inl ⟨by rfl, ?yb2⟩) (by assumption) ?rb2
      case yb2 => (intro w hSw; (try dsimp only at hSw); go_simp; (try with_reducible rfl))
      try simp only [Act.put]
      refine wpAnyH_take (i := 3) (v := ?vb3) rfl (by kernel_rfl) (by kernel_rfl) (by kernel_rfl) (fun _ _ _ h => h) (Or.inl ⟨by rfl, ?yb3⟩) (by assumption) ?rb3
      case yb3 => (intro w hSw; (try dsimp only at hSw); go_simp; (try with_reducible rfl))
      try simp only [Act.put]
      refine wpAnyH_take (i := 4) (v := ?vb4) rfl (by kernel_rfl) (by kernel_rfl) (by kernel_rfl) (fun _ _ _ h => h) (Or.inl ⟨by rfl, ?yb4⟩) (by assumption) ?rb4
      case yb4 => (intro w hSw; (try dsimp only at hSw); go_simp; (try with_reducible rfl))
      try simp only [Act.put]
      refine wpAnyH_take (i := 5) (v := ?vb5) rfl (by kernel_rfl) (by kernel_rfl) (by kernel_rfl) (fun _ _ _ h => h) (Or.inl ⟨by rfl, ?yb5⟩) (by assumption) ?rb5
      case yb5 => (intro w hSw; (try dsimp only at hSw); go_simp; (try with_reducible rfl))
      try simp only [Act.put]
      refine wpAnyH_take (i := 6) (v := ?vb6) rfl (by kernel_rfl) (by kernel_rfl) (by kernel_rfl) (fun _ _ _ h => h) (Or.inl ⟨by rfl, ?yb6⟩) (by assumption) ?rb6
      case yb6 => (intro w hSw; (try dsimp only at hSw); go_simp; (try with_reducible rfl))
      try simp only [Act.put]
      refine wpAnyH_take (i := 7) (v := ?vb7) rfl (by kernel_rfl) (by kernel_rfl) (by kernel_rfl) (fun _ _ _ h => h) (Or.inl ⟨by rfl, ?yb7⟩) (by assumption) ?rb7
      case yb7 => (intro w hSw; (try dsimp only at hSw); go_simp; (try with_reducible rfl))
      try simp only [Act.put]
      refine wpAnyH_take (i := 8) (v := ?vb8) rfl (by kernel_rfl) (by kernel_rfl) (by kernel_rfl) (fun _ _ _ h => h) (Or.inl ⟨by rfl, ?yb8⟩) (by assumption) ?rb8
      case yb8 => (intro w hSw; (try dsimp only at hSw); go_simp; (try with_reducible rfl))
      try simp only [Act.put]
      refine wpAnyH_take (i := 9) (v := ?vb9) rfl (by kernel_rfl) (by kernel_rfl) (by kernel_rfl) (fun _ _ _ h => h) (Or.inl ⟨by rfl, ?yb9⟩) (by assumption) ?rb9
      case yb9 => (intro w hSw; (try dsimp only at hSw); go_simp; (try with_reducible rfl))
      try simp only [Act.put]
      refine wpAnyH_take (i := 10) (v := ?vb10) rfl (by kernel_rfl) (by kernel_rfl) (by kernel_rfl) (fun _ _ _ h => h) (Or.inl ⟨by rfl, ?yb10⟩) (by assumption) ?rb10
      case yb10 => (intro w hSw; (try dsimp only at hSw); go_simp; (try with_reducible rfl))
      try simp only [Act.put]
      refine wpAnyH_ready (rs := [11]) (by kernel_rfl) (by simp) (AllReadyH.cons rfl (fun K hK => ?_) AllReadyH.nil)
      go_simp
      refine (write_sep Sx (f0 + k) _ HatI.out (r.getD xi []) (some ⟨g, 512 + 512 * xi, none⟩) (c1 - 512 * xi) hi2 hby' hbyl hcold hwd).mono ?_
      rw [hrd]
      rintro e wa ⟨rfl, S3, ko3⟩
      have S4 := S3.dn6
      have cj3 := S4.up3.blk_cell 0
      have cat3 := S4.up1.blk_cell 0
      obtain ⟨j03, j13, _⟩ := S4.up5.jn
      have hbk : BoxKept (B + 1 + 1 + 1) W wa := S4.blk.trans (Hbx.out.symm.trans HkB.out)
      have hko : KeepsOthers W wa := hkO.trans ⟨ko3.size, ko3.same⟩
      refine hK.out _ _ ⟨cj3, j03, j13, cat3⟩ (fun hHeld => ?_)
      clear hK K
      refine wpAnyH_ready (rs := [12]) (by kernel_rfl) (by simp) (AllReadyH.cons rfl (fun K hK => ?_) AllReadyH.nil)
      go_simp
      refine hK.out _ _ ⟨cj3, j03, j13, cat3⟩ (fun hHeld => ?_)
      clear hK K
      refine wpAnyH_done (by kernel_rfl) ?_ _
      have ce := S4.up2.blk_cell 0
      have fe := S4.up2.blk_free 0
      have S5 := (S4.up2.blk_set 0 (.int .i64 11)).dn2
      have HS5 := Lib.hid S5
      have Hko := Lib.hid (hko.trans (KeepsOthers.setCell wa ⟨B + 1, 0, none⟩ (.int .i64 11)))
      clear S4 S3 S5 hko hbk Sx cj cat2
      gi_wp2
      refine ⟨Hko.out.from _, ⟨rfl, by rw [Hok.out, hd]; rfl⟩, ?_⟩
      rw [HLx.out]
      dsimp only
      rw [Hok.out]
      have S6 := HS5.out.any_shut.up1
      simp only [List.setIfInBounds_toArray, List.set_cons_zero] at S6
      exact S6.any_shut.up1
  case done =>
    rintro D' xs W hD' rfl ⟨hok, S⟩ hK
    rw [HL.out] at S
    dsimp only at S
    rw [cutsTo_map r c Hrl.out] at hok S
    obtain ⟨D1, hD1⟩ : ∃ D1, D1 = (wrs D f0 r).2 := ⟨_, rfl⟩
    have hwr : wrs D f0 r = (true, D1) := by rw [hD1, ← hok]
    rw [← hD1, cutsTo_len (Nat.le_refl _)] at S
    have ca := S.up1.blk_cell 0
    have cj := S.up3.blk_cell 0
    obtain ⟨j0, j1, _, j3, _⟩ := S.up5.jn
    have Hwr := Lib.hid hwr
    have HK := Lib.hid hK
    clear hok hD1 hwr hK
    have hbd := wrs_bound _ _ _ _ _ Hwr.out
    rw [Hrl.out] at hbd
    by_cases hc0 : c = 0
    · subst hc0
      obtain ⟨D2, hD2⟩ : ∃ D2, D2 = D1 := ⟨_, rfl⟩
      have Hput : Hid (putJ D j pc = if D2.fell.down then (false, D2.write (j.from_ + j.used) (pc.take 512), j) else (true, D2.write (j.from_ + j.used) (pc.take 512), { j with used := j.used + 0 + 1, next := j.next + 1 })) := Lib.hid (by
        have h := put_last (j := j) (pc := pc) (D := D) (D1 := D1) (by rw [← Hr.out, ← Hf0.out]; exact Hwr.out) (.inl (by rw [← Hr.out, Hrl.out]))
        rw [← Hr.out, Hrl.out] at h
        rw [hD2]; exact h)
      rw [← hD2] at S hbd
      have hi2 : j.from_ + j.used < D2.secs.length := by have := Hsec.out; omega
      have HS := Lib.hid S
      clear hD2 S
      gi_wp2_with fail
      gi_region
      gi_wp2_with fail
      obtain ⟨Wt, hWt⟩ : ∃ Wt, Wt = W.drew := ⟨_, rfl⟩
      have St := HS.out.drew
      have hKt : KeepsOthers W W.drew := ⟨Nat.le_refl _, fun _ _ h _ => h⟩
      rw [← hWt] at St hKt ⊢
      clear hWt ca cj j0 j1 j3
      have cj2 := St.up3.blk_cell 0
      obtain ⟨k0, k1, _, k3, k4, _, kf, kq⟩ := St.up5.jn
      have cj2' : Wt.drew.cell? ⟨B, 0, none⟩ = some (.pointer (some ⟨q, 0, none⟩)) := cj2
      have Std := St.up6.drew
      have hby : BytesAt Wt.drew (some ⟨g, 0, none⟩) (pc.take 512) := by have := St.up4.bytes.sub 0 512 (by omega); exact (by simpa using this : BytesAt Wt (some ⟨g, 0, none⟩) (pc.take 512))
      have hcold : ∀ g' o', (some ⟨g, 0, none⟩ : Option Addr) = some ⟨g', o', none⟩ → Cold (Wt.drew.heap[g']?) := fun g' o' e => by cases e; exact St.up4.bytes.cold
      have hbyl : (pc.take 512).length = 512 := by rw [List.length_take, hpl]; omega
      have hatI : IntKind.i64.wrap ((j.from_ : Int) + (j.used : Int)) = ((j.from_ + j.used : Nat) : Int) := by rw [IntKind.wrap_i64]; omega
      have HatI := Lib.hid hatI
      have hwd : D2.fell.waits.length ≤ 100000 := by have := fell_waits D2; omega
      have HKt := Lib.hid hKt
      clear hatI St hKt cj2
      cases hd : D2.fell.down with
      | false =>
        have hrd : rdE D2 = 0 := by simp [rdE, hd]
        have hp2 := Hput.out
        rw [hd] at hp2
        have Hp2 := Lib.hid hp2
        clear hp2
        refine wpIn_np ?_
        go_region_held (fun w' => w'.cell? ⟨B, 0, none⟩ = some (.pointer (some ⟨q, 0, none⟩)) ∧ w'.cell? ⟨q, 0, none⟩ = some (.pointer (some ⟨p, 0, none⟩)) ∧ w'.cell? ⟨q, 1, none⟩ = some (.int .i64 (j.from_ : Int)) ∧ w'.cell? ⟨q, 3, none⟩ = some (.int .i64 (j.used : Int))) (first | exact ⟨cj2', k0, k1, k3⟩ | exact ⟨cj3, j03, j13, j33⟩)
          (first | (go_at_call 22; refine (write_sep Std (j.from_ + j.used) _ HatI.out (pc.take 512) (some ⟨g, 0, none⟩) cap hi2 hby hbyl hcold hwd).mono ?_; rw [hrd]; rintro e wa ⟨rfl, S3, ko3⟩; have S4 := S3.dn6; have cj3 := S4.up3.blk_cell 0; obtain ⟨j03, j13, _, j33, j43, _, jf3, jq3⟩ := S4.up5.jn))
        dsimp only [NoPanic]
        have kot : KeepsOthers W wa := HKt.out.trans ⟨ko3.size, ko3.same⟩
        have ce3 := S4.up2.blk_cell 0
        have fe3 := S4.up2.blk_free 0
        have ca3 := S4.up1.blk_cell 0
        have f33 := jf3 3
        have f43 := jf3 4
        have hnl : (j.next : Int) ≤ 4611686018427387904 := by unfold lastN at hn; omega
        have hn0 : (0 : Int) ≤ (j.next : Int) := by omega
        have hul : (j.used : Int) ≤ 5000 := by omega
        have HS4 := Lib.hid S4
        have Hkot := Lib.hid kot
        clear S3 S4 Std kot jf3 kf
        gi_wp2
        have eu : ((j.used + 0 + 1 : Nat) : Int) = (j.used : Int) + 1 := by omega
        have en : ((j.next + 1 : Nat) : Int) = (j.next : Int) + 1 := by omega
        have Sa := (HS4.out.up5.jn_used (j.used + 0 + 1)).jn_next (j.next + 1)
        have Sb := (Sa.up3.blk_set 0 (.int .i64 0)).up5.up1.up3.drop.up3.drop.up3.drop
        rw [eu, en] at Sb
        have hko := ((Hkot.out.trans (KeepsOthers.setCell wa ⟨q, 3, none⟩ (.int .i64 ((j.used : Int) + 1)))).trans (KeepsOthers.setCell _ ⟨q, 4, none⟩ (.int .u64 ((j.next : Int) + 1)))).trans (KeepsOthers.setCell _ ⟨B + 1, 0, none⟩ (.int .i64 0))
        clear Sa
        have Se := Sb
        have hKf := KeepsOthers.same hko D' _ HK.out rfl
        have Sf := Sep.putObj Se HR.out hD' hKf
        have ce := Sf.blk_cell 0
        refine ⟨by simp, .inl ⟨_, _, rfl, run_takeDeferred hKf, ?_⟩⟩
        refine ⟨.int .i64 0, ?_, by rw [Hp2.out]; rfl, by rw [Hp2.out]; exact Sf.drop⟩
        simp at ce
        simp [results, Try.f52, go_sem, ce]
      | true =>
        have hrd : rdE D2 = 11 := by simp [rdE, hd]
        have hp2 := Hput.out
        rw [hd] at hp2
        have Hp2 := Lib.hid hp2
        clear hp2
        refine wpIn_np ?_
        go_region_held (fun w' => w'.cell? ⟨B, 0, none⟩ = some (.pointer (some ⟨q, 0, none⟩)) ∧ w'.cell? ⟨q, 0, none⟩ = some (.pointer (some ⟨p, 0, none⟩)) ∧ w'.cell? ⟨q, 1, none⟩ = some (.int .i64 (j.from_ : Int)) ∧ w'.cell? ⟨q, 3, none⟩ = some (.int .i64 (j.used : Int))) (first | exact ⟨cj2', k0, k1, k3⟩ | exact ⟨cj3, j03, j13, j33⟩)
          (first | (go_at_call 22; refine (write_sep Std (j.from_ + j.used) _ HatI.out (pc.take 512) (some ⟨g, 0, none⟩) cap hi2 hby hbyl hcold hwd).mono ?_; rw [hrd]; rintro e wa ⟨rfl, S3, ko3⟩; have S4 := S3.dn6; have cj3 := S4.up3.blk_cell 0; obtain ⟨j03, j13, _, j33, j43, _, jf3, jq3⟩ := S4.up5.jn))
        dsimp only [NoPanic]
        have kot : KeepsOthers W wa := HKt.out.trans ⟨ko3.size, ko3.same⟩
        have ce3 := S4.up2.blk_cell 0
        have fe3 := S4.up2.blk_free 0
        have ca3 := S4.up1.blk_cell 0
        have S5 := (S4.up2.blk_set 0 (.int .i64 11)).dn3
        have HS5 := Lib.hid (S4.up2.blk_set 0 (.int .i64 11))
        have Hkot := Lib.hid (kot.trans (KeepsOthers.setCell wa ⟨B + 1, 0, none⟩ (.int .i64 11)))
        clear S3 S4 S5 Std kot jf3 kf
        gi_wp2
        have Se := HS5.out.up1.drop.up1.drop.up1.drop
        have hKf := KeepsOthers.same Hkot.out D' _ HK.out rfl
        have Sf := Sep.putObj Se HR.out hD' hKf
        have ce := Sf.blk_cell 0
        refine ⟨by simp, .inl ⟨_, _, rfl, run_takeDeferred hKf, ?_⟩⟩
        refine ⟨.int .i64 11, ?_, by rw [Hp2.out]; rfl, by rw [Hp2.out]; exact Sf.drop⟩
        simp at ce
        simp [results, Try.f52, go_sem, ce]
    · have hlt : (j.used : Int) < ((j.used + c : Nat) : Int) := by omega
      have HS := Lib.hid S
      clear S
      gi_wp2_with fail
      gi_region
      gi_wp2_with fail
      obtain ⟨Wd, hWd⟩ : ∃ Wd, Wd = W.drew := ⟨_, rfl⟩
      have Sd := HS.out.drew
      have hKd : KeepsOthers W W.drew := ⟨Nat.le_refl _, fun _ _ h _ => h⟩
      rw [← hWd] at Sd hKd ⊢
      have hdd : D1.fell.down = true ∨ D1.fell.down = false := by cases D1.fell.down <;> simp
      refine ⟨trivial, ?_⟩
      gi_at_call 54
      refine (callsIn_wide.2 (barrier_sep Sd.up6)).mono ?_
      rcases hdd with hd1 | hd1
      · have hrd : rdE D1 = 11 := by simp [rdE, hd1]
        rw [hrd]
        rintro e wa ⟨rfl, S3, ko3⟩
        have S4 := S3.dn6
        have Hp2 : Hid (putJ D j pc = (false, D1.barrier, j)) := Lib.hid (put_bar (by rw [← Hr.out, ← Hf0.out]; exact Hwr.out) (by rw [← Hr.out, Hrl.out]; exact hc0) hd1)
        have ce3 := S4.up2.blk_cell 0
        have fe3 := S4.up2.blk_free 0
        have HS5 := Lib.hid (S4.up2.blk_set 0 (.int .i64 11))
        have Hkot := Lib.hid ((hKd.trans ko3).trans (KeepsOthers.setCell wa ⟨B + 1, 0, none⟩ (.int .i64 11)))
        clear S3 S4 Sd hWd ca cj j0 j1 j3
        gi_wp2
        have Se := HS5.out.up1.drop.up1.drop.up1.drop
        have hKf := KeepsOthers.same Hkot.out D' _ HK.out rfl
        have Sf := Sep.putObj Se HR.out hD' hKf
        have ce := Sf.blk_cell 0
        refine ⟨by simp, .inl ⟨_, _, rfl, run_takeDeferred hKf, ?_⟩⟩
        refine ⟨.int .i64 11, ?_, by rw [Hp2.out]; rfl, by rw [Hp2.out]; exact Sf.drop⟩
        simp at ce
        simp [results, Try.f52, go_sem, ce]
      · have hrd : rdE D1 = 0 := by simp [rdE, hd1]
        rw [hrd]
        rintro e Wt ⟨rfl, S3, ko3⟩
        have St := S3.dn6
        obtain ⟨D2, hD2⟩ : ∃ D2, D2 = D1.barrier := ⟨_, rfl⟩
        have Hput : Hid (putJ D j pc = if D2.fell.down then (false, D2.write (j.from_ + j.used) (pc.take 512), j) else (true, D2.write (j.from_ + j.used) (pc.take 512), { j with used := j.used + c + 1, next := j.next + 1 })) := Lib.hid (by
          have h := put_last (j := j) (pc := pc) (D := D) (D1 := D1) (by rw [← Hr.out, ← Hf0.out]; exact Hwr.out) (.inr hd1)
          rw [← Hr.out, Hrl.out] at h
          have e : midD c D1 = D2 := by rw [hD2]; simp [midD, hc0]
          rw [e] at h
          exact h)
        rw [← hD2] at St
        have hi2 : j.from_ + j.used < D2.secs.length := by have := Hsec.out; rw [hD2, barrier_len]; omega
        have hbw : D2.waits.length ≤ D1.waits.length := by rw [hD2]; exact barrier_waits D1
        have hKt : KeepsOthers W Wt := hKd.trans ko3
        clear S3 Sd hWd hD2 hd1 hrd ca cj j0 j1 j3
        gi_wp2_with fail
        have cj2 := St.up3.blk_cell 0
        obtain ⟨k0, k1, _, k3, k4, _, kf, kq⟩ := St.up5.jn
        have cj2' : Wt.drew.cell? ⟨B, 0, none⟩ = some (.pointer (some ⟨q, 0, none⟩)) := cj2
        have Std := St.up6.drew
        have hby : BytesAt Wt.drew (some ⟨g, 0, none⟩) (pc.take 512) := by have := St.up4.bytes.sub 0 512 (by omega); exact (by simpa using this : BytesAt Wt (some ⟨g, 0, none⟩) (pc.take 512))
        have hcold : ∀ g' o', (some ⟨g, 0, none⟩ : Option Addr) = some ⟨g', o', none⟩ → Cold (Wt.drew.heap[g']?) := fun g' o' e => by cases e; exact St.up4.bytes.cold
        have hbyl : (pc.take 512).length = 512 := by rw [List.length_take, hpl]; omega
        have hatI : IntKind.i64.wrap ((j.from_ : Int) + (j.used : Int)) = ((j.from_ + j.used : Nat) : Int) := by rw [IntKind.wrap_i64]; omega
        have HatI := Lib.hid hatI
        have hwd : D2.fell.waits.length ≤ 100000 := by have := fell_waits D2; omega
        have HKt := Lib.hid hKt
        clear hatI St hKt cj2
        cases hd : D2.fell.down with
        | false =>
          have hrd : rdE D2 = 0 := by simp [rdE, hd]
          have hp2 := Hput.out
          rw [hd] at hp2
          have Hp2 := Lib.hid hp2
          clear hp2
          refine wpIn_np ?_
          go_region_held (fun w' => w'.cell? ⟨B, 0, none⟩ = some (.pointer (some ⟨q, 0, none⟩)) ∧ w'.cell? ⟨q, 0, none⟩ = some (.pointer (some ⟨p, 0, none⟩)) ∧ w'.cell? ⟨q, 1, none⟩ = some (.int .i64 (j.from_ : Int)) ∧ w'.cell? ⟨q, 3, none⟩ = some (.int .i64 (j.used : Int))) (first | exact ⟨cj2', k0, k1, k3⟩ | exact ⟨cj3, j03, j13, j33⟩)
            (first | (go_at_call 22; refine (write_sep Std (j.from_ + j.used) _ HatI.out (pc.take 512) (some ⟨g, 0, none⟩) cap hi2 hby hbyl hcold hwd).mono ?_; rw [hrd]; rintro e wa ⟨rfl, S3, ko3⟩; have S4 := S3.dn6; have cj3 := S4.up3.blk_cell 0; obtain ⟨j03, j13, _, j33, j43, _, jf3, jq3⟩ := S4.up5.jn))
          dsimp only [NoPanic]
          have kot : KeepsOthers W wa := HKt.out.trans ⟨ko3.size, ko3.same⟩
          have ce3 := S4.up2.blk_cell 0
          have fe3 := S4.up2.blk_free 0
          have ca3 := S4.up1.blk_cell 0
          have f33 := jf3 3
          have f43 := jf3 4
          have hnl : (j.next : Int) ≤ 4611686018427387904 := by unfold lastN at hn; omega
          have hn0 : (0 : Int) ≤ (j.next : Int) := by omega
          have hul : (j.used : Int) ≤ 5000 := by omega
          have HS4 := Lib.hid S4
          have Hkot := Lib.hid kot
          clear S3 S4 Std kot jf3 kf
          gi_wp2
          have eu : ((j.used + c + 1 : Nat) : Int) = ((j.used + c : Nat) : Int) + 1 := by omega
          have en : ((j.next + 1 : Nat) : Int) = (j.next : Int) + 1 := by omega
          have Sa := (HS4.out.up5.jn_used (j.used + c + 1)).jn_next (j.next + 1)
          have Sb := (Sa.up3.blk_set 0 (.int .i64 0)).up5.up1.up3.drop.up3.drop.up3.drop
          rw [eu, en] at Sb
          have hko := ((Hkot.out.trans (KeepsOthers.setCell wa ⟨q, 3, none⟩ (.int .i64 (((j.used + c : Nat) : Int) + 1)))).trans (KeepsOthers.setCell _ ⟨q, 4, none⟩ (.int .u64 ((j.next : Int) + 1)))).trans (KeepsOthers.setCell _ ⟨B + 1, 0, none⟩ (.int .i64 0))
          clear Sa
          have Se := Sb
          have hKf := KeepsOthers.same hko D' _ HK.out rfl
          have Sf := Sep.putObj Se HR.out hD' hKf
          have ce := Sf.blk_cell 0
          refine ⟨by simp, .inl ⟨_, _, rfl, run_takeDeferred hKf, ?_⟩⟩
          refine ⟨.int .i64 0, ?_, by rw [Hp2.out]; rfl, by rw [Hp2.out]; exact Sf.drop⟩
          simp at ce
          simp [results, Try.f52, go_sem, ce]
        | true =>
          have hrd : rdE D2 = 11 := by simp [rdE, hd]
          have hp2 := Hput.out
          rw [hd] at hp2
          have Hp2 := Lib.hid hp2
          clear hp2
          refine wpIn_np ?_
          go_region_held (fun w' => w'.cell? ⟨B, 0, none⟩ = some (.pointer (some ⟨q, 0, none⟩)) ∧ w'.cell? ⟨q, 0, none⟩ = some (.pointer (some ⟨p, 0, none⟩)) ∧ w'.cell? ⟨q, 1, none⟩ = some (.int .i64 (j.from_ : Int)) ∧ w'.cell? ⟨q, 3, none⟩ = some (.int .i64 (j.used : Int))) (first | exact ⟨cj2', k0, k1, k3⟩ | exact ⟨cj3, j03, j13, j33⟩)
            (first | (go_at_call 22; refine (write_sep Std (j.from_ + j.used) _ HatI.out (pc.take 512) (some ⟨g, 0, none⟩) cap hi2 hby hbyl hcold hwd).mono ?_; rw [hrd]; rintro e wa ⟨rfl, S3, ko3⟩; have S4 := S3.dn6; have cj3 := S4.up3.blk_cell 0; obtain ⟨j03, j13, _, j33, j43, _, jf3, jq3⟩ := S4.up5.jn))
          dsimp only [NoPanic]
          have kot : KeepsOthers W wa := HKt.out.trans ⟨ko3.size, ko3.same⟩
          have ce3 := S4.up2.blk_cell 0
          have fe3 := S4.up2.blk_free 0
          have ca3 := S4.up1.blk_cell 0
          have S5 := (S4.up2.blk_set 0 (.int .i64 11)).dn3
          have HS5 := Lib.hid (S4.up2.blk_set 0 (.int .i64 11))
          have Hkot := Lib.hid (kot.trans (KeepsOthers.setCell wa ⟨B + 1, 0, none⟩ (.int .i64 11)))
          clear S3 S4 S5 Std kot jf3 kf
          gi_wp2
          have Se := HS5.out.up1.drop.up1.drop.up1.drop
          have hKf := KeepsOthers.same Hkot.out D' _ HK.out rfl
          have Sf := Sep.putObj Se HR.out hD' hKf
          have ce := Sf.blk_cell 0
          refine ⟨by simp, .inl ⟨_, _, rfl, run_takeDeferred hKf, ?_⟩⟩
          refine ⟨.int .i64 11, ?_, by rw [Hp2.out]; rfl, by rw [Hp2.out]; exact Sf.drop⟩
          simp at ce
          simp [results, Try.f52, go_sem, ce]
  case stop =>
    rintro D' jc pre W hD' ⟨k, hk, rfl⟩ ⟨⟨rfl, hok⟩, S⟩ hK
    rw [HLx.out] at S
    dsimp only at S
    obtain ⟨l', hl'⟩ := cutsTo_pre r c k Hrl.out
    obtain ⟨Df, hDf⟩ : ∃ Df, Df = (wrs D f0 ((cutsTo c k).map fun x => r.getD x.1 [])).2 := ⟨_, rfl⟩
    have hfail := wrs_prefix _ l' D Df f0 (by rw [hDf, ← hok])
    rw [hl'] at hfail
    rw [← hDf] at S
    have hput := put_fail (D := D) (Df := Df) (j := j) (pc := pc) (by rw [← Hr.out, ← Hf0.out]; exact hfail)
    have HS := Lib.hid S
    have Hput := Lib.hid hput
    have HK := Lib.hid hK
    clear S hput hK hDf hfail hl' hok
    gi_wp2
    have Se := HS.out.drop.drop.up1.drop
    have hKf := KeepsOthers.same (KeepsOthers.refl W) D' _ HK.out rfl
    have Sf := Sep.putObj Se HR.out hD' hKf
    have ce := Sf.blk_cell 0
    refine ⟨by simp, .inl ⟨_, _, rfl, run_takeDeferred hKf, ?_⟩⟩
    refine ⟨.int .i64 11, ?_, by rw [Hput.out]; rfl, by rw [Hput.out]; exact Sf.drop⟩
    simp at ce
    simp [results, Try.f52, go_sem, ce]
end Go.Proofs.Ytnekelndcpmonaa
namespace Go.Proofs.Ytnekelndcpmonaa
open Go

section
variable {P : Program} {ops : Array Oper} {Q : Exit → Act → World → Prop} {md : Region.Mode}

/-- Whatever order is picked from here on; behind operation i 'S i' holds. -/
def AnyK (P : Program) (md : Region.Mode) (ops : Array Oper) (Q : Exit → Act → World → Prop) (S : Nat → World → Prop) : Nat → Array Bool → Act → World → Prop
  | 0, listed, a, w => Region.ready md ops listed = [] ∧ Q .normal a w
  | fuel + 1, listed, a, w =>
    (Region.ready md ops listed = [] → Q .normal a w) ∧
    ∀ i ∈ Region.ready md ops listed, wpOp P ops Q i (fun a' w' => S i w' ∧ AnyK P md ops Q S fuel (listed.setIfInBounds i true) a' w') a w

theorem any_of_K {S : Nat → World → Prop} : ∀ (fuel : Nat) (listed : Array Bool) (a : Act) (w : World), AnyK P md ops Q S fuel listed a w → wpAny P md ops Q fuel listed a w
  | 0, _, _, _, h => h
  | fuel + 1, _, _, _, h => ⟨h.1, fun i hi => wpOp_mono (fun a' w' h' => any_of_K fuel _ a' w' h'.2) (h.2 i hi)⟩

/-- The operations T wait for i, each directly or through another of T. -/
def Waits (md : Region.Mode) (ops : Array Oper) (i : Nat) (T : List Nat) : Prop := ∀ j ∈ T, ∀ oj, ops[j]? = some oj → ∃ e ∈ oj.after, Region.binds md e = true ∧ (e.on = i ∨ e.on ∈ T)
theorem Waits.not_ready {i : Nat} {T : List Nat} {listed : Array Bool} (h : Waits md ops i T) (hi : listed.getD i false = false) (hT : ∀ j ∈ T, listed.getD j false = false) : ∀ j ∈ T, j ∉ Region.ready md ops listed := fun j hj hr => by
  obtain ⟨_, o, ho, hall⟩ := mem_ready.1 hr
  obtain ⟨e, he, hb, h2⟩ := h j hj o ho
  have := hall e he hb
  rcases h2 with h2 | h2
  · rw [h2, hi] at this; cases this
  · rw [hT _ h2] at this; cases this

theorem getD_set_ne' {listed : Array Bool} {i j : Nat} (d : Bool) (h : i ≠ j) : (listed.setIfInBounds i true).getD j d = listed.getD j d := by
  simp [Array.getElem?_setIfInBounds_ne h]

theorem AnyK.first {S : Nat → World → Prop} {S0 : World → Prop} {i : Nat} {oi : Oper} {v : Value} {T : List Nat} (hi : ops[i]? = some oi) (hsel : ∀ (j : Nat) (o : Oper) cs b, ops[j]? = some o → o.op ≠ .select cs b)
    (hQ : ∀ c a w, Q (.panic c) (a.put oi.dst v) w → Q (.panic c) a w) (hW : Waits md ops i T) (hSi : ∀ w, S0 w → S i w) :
    ∀ (fuel : Nat) (listed : Array Bool) (a : Act) (w : World),
      (∀ j oj, ops[j]? = some oj → j ≠ i → listed.getD j true = false → (∀ e ∈ oj.after, Region.binds md e = true → e.on ≠ i) → oi.apart ops oj = true) →
      (∀ j, j ≠ i → listed.getD j true = false → j ∉ T → ∀ w, S j w → S0 w) → (∀ j ∈ T, listed.getD j false = false) →
      i ∈ Region.ready md ops listed → YieldsIf P ops S0 oi v a → S0 w →
      AnyK P md ops Q S fuel (listed.setIfInBounds i true) (a.put oi.dst v) w → AnyK P md ops Q S (fuel + 1) listed a w := by
  intro fuel
  induction fuel with
  | zero =>
    intro listed a w _ _ _ hr hy hS H
    refine ⟨fun h => (by rw [h] at hr; cases hr), fun j hj => ?_⟩
    by_cases hji : j = i
    · subst hji; exact hy.wpOp hi hS ⟨hSi w hS, H⟩
    · have := ready_mono hj hji
      rw [H.1] at this
      cases this
  | succ fuel ih =>
    intro listed a w hfree hkeep hun hr hy hS H
    refine ⟨fun h => (by rw [h] at hr; cases hr), fun j hj => ?_⟩
    by_cases hji : j = i
    · subst hji; exact hy.wpOp hi hS ⟨hSi w hS, H⟩
    · have hil : listed.getD i false = false := by
        have h0 := (mem_ready.1 hr).1
        rcases Nat.lt_or_ge i listed.size with h' | h'
        · simp [h'] at h0 ⊢; exact h0
        · simp [Array.getElem?_eq_none h']
      have hjT : j ∉ T := fun hjT => hW.not_ready hil hun j hjT hj
      have h1 := H.2 j (ready_mono hj hji)
      obtain ⟨hjun, oj, hoj, hall⟩ := mem_ready.1 hj
      have hnot : ∀ e ∈ oj.after, Region.binds md e = true → e.on ≠ i := fun e he hb heq => by
        have h1 := hall e he hb
        rw [heq, hil] at h1
        cases h1
      have h2 := wpOp_putIf hoj (hfree j oj hoj hji hjun hnot) (fun cs b => hsel i oi cs b hi) (fun cs b => hsel j oj cs b hoj) hQ hy h1
      have hset : ∀ k, (listed.setIfInBounds j true).getD k true = false → listed.getD k true = false := fun k hk => by
        by_cases hjk : j = k
        · subst hjk; exact hjun
        · rw [getD_set_ne' true hjk] at hk; exact hk
      refine wpOp_mono (fun a' w' h3 => ⟨h3.2.1, ih (listed.setIfInBounds j true) a' w' (fun k ok hk hki hu hno => hfree k ok hk hki (hset k hu) hno) (fun k hki hu hkT => hkeep k hki (hset k hu) hkT)
        (fun k hkT => by rw [getD_set_ne' false (fun e : j = k => hjT (by rw [e]; exact hkT))]; exact hun k hkT) (ready_mono hr (Ne.symm hji)) h3.1 (hkeep j hji hjun hjT w' h3.2.1) ?_⟩) h2
      rw [Array.setIfInBounds_comm _ _ hji]
      exact h3.2.2

/-! The side conditions as Bools. -/
def waitsB (md : Region.Mode) (ops : Array Oper) (i : Nat) (T : List Nat) : Bool := T.all fun j => match ops[j]? with
  | some oj => oj.after.any fun e => Region.binds md e && (e.on == i || T.contains e.on)
  | none => true
theorem waits_spec {i : Nat} {T : List Nat} (h : waitsB md ops i T = true) : Waits md ops i T := fun j hj oj ho => by
  have := List.all_eq_true.1 h j hj
  simp only [ho, Array.any_eq_true'] at this
  obtain ⟨e, he, hb⟩ := this
  simp only [Bool.and_eq_true, Bool.or_eq_true, beq_iff_eq, List.contains_iff_mem] at hb
  exact ⟨e, he, hb.1, hb.2⟩
def unlistedB (listed : Array Bool) (T : List Nat) : Bool := T.all fun j => !listed.getD j false
/-- All that may come between, other than i: none of the late ones. -/
def earlyB (ops : Array Oper) (listed : Array Bool) (i : Nat) (T Late : List Nat) : Bool := (List.range ops.size).all fun j => j == i || listed.getD j true || T.contains j || !Late.contains j

/-- Each operation leaves S0 true, but for the late ones. -/
def lateS (S0 : World → Prop) (Late : List Nat) : Nat → World → Prop := fun j w => j ∈ Late ∨ S0 w
theorem AnyK.take {S0 : World → Prop} {Late T : List Nat} {i : Nat} {oi : Oper} {v : Value} {fuel : Nat} {listed : Array Bool} {a : Act} {w : World} (hi : ops[i]? = some oi)
    (hs : Region.noSelect ops = true) (hf : Region.free md ops listed i = true) (hr : (Region.ready md ops listed).contains i = true) (hw : waitsB md ops i T = true) (hu : unlistedB listed T = true) (he : earlyB ops listed i T Late = true) (hsz : ops.size = listed.size)
    (hQ : ∀ c a w, Q (.panic c) (a.put oi.dst v) w → Q (.panic c) a w) (hy : YieldsIf P ops S0 oi v a) (hS : S0 w)
    (h : AnyK P md ops Q (lateS S0 Late) fuel (listed.setIfInBounds i true) (a.put oi.dst v) w) : AnyK P md ops Q (lateS S0 Late) (fuel + 1) listed a w :=
  AnyK.first hi (Region.noSelect_spec hs) hQ (waits_spec hw) (fun w h => .inr h) fuel listed a w (Region.free_spec hi hf) (fun j hji hun hjT w hSj => by
      rcases hSj with hL | hS
      · have hj : j < ops.size := by
          rw [hsz]
          rcases Nat.lt_or_ge j listed.size with h' | h'
          · exact h'
          · simp [Array.getElem?_eq_none h'] at hun
        have := List.all_eq_true.1 he j (List.mem_range.2 hj)
        simp [hji, hun, hjT, hL] at this
      · exact hS) (fun j hj => by
      have := List.all_eq_true.1 hu j hj
      simpa using this) (by simpa using hr) hy hS h
/-- The one that may come up. -/
theorem AnyK.one {S0 : World → Prop} {Late : List Nat} {i : Nat} {oi : Oper} {fuel : Nat} {listed : Array Bool} {a : Act} {w : World} (hr : Region.ready md ops listed = [i]) (hi : ops[i]? = some oi)
    (h : ∀ K' : Act → World → Prop, Shut (∀ a w, lateS S0 Late i w → AnyK P md ops Q (lateS S0 Late) fuel (listed.setIfInBounds i true) a w → K' a w) → if Region.wanted oi (yielded ops a.tmps) = true then Oper.wp P oi a w K' Q else K' (a.put oi.dst undef) w) :
    AnyK P md ops Q (lateS S0 Late) (fuel + 1) listed a w := by
  refine ⟨fun h0 => (by rw [hr] at h0; cases h0), fun j hj => ?_⟩
  rw [hr] at hj
  obtain rfl := List.mem_singleton.1 hj
  exact wpOp_step hi (fun K' hK => h K' (fun a w h1 h2 => hK a w ⟨h1, h2⟩))
/-- One of two. -/
theorem AnyK.two {S0 : World → Prop} {Late : List Nat} {i j : Nat} {oi oj : Oper} {fuel : Nat} {listed : Array Bool} {a : Act} {w : World} (hr : Region.ready md ops listed = [i, j]) (hi : ops[i]? = some oi) (hj : ops[j]? = some oj)
    (h : ∀ K' : Act → World → Prop, Shut (∀ a w, lateS S0 Late i w → AnyK P md ops Q (lateS S0 Late) fuel (listed.setIfInBounds i true) a w → K' a w) → if Region.wanted oi (yielded ops a.tmps) = true then Oper.wp P oi a w K' Q else K' (a.put oi.dst undef) w)
    (h' : ∀ K' : Act → World → Prop, Shut (∀ a w, lateS S0 Late j w → AnyK P md ops Q (lateS S0 Late) fuel (listed.setIfInBounds j true) a w → K' a w) → if Region.wanted oj (yielded ops a.tmps) = true then Oper.wp P oj a w K' Q else K' (a.put oj.dst undef) w) :
    AnyK P md ops Q (lateS S0 Late) (fuel + 1) listed a w := by
  refine ⟨fun h0 => (by rw [hr] at h0; cases h0), fun k hk => ?_⟩
  rw [hr] at hk
  rcases List.mem_cons.1 hk with rfl | hk
  · exact wpOp_step hi (fun K' hK => h K' (fun a w h1 h2 => hK a w ⟨h1, h2⟩))
  · obtain rfl := List.mem_singleton.1 hk
    exact wpOp_step hj (fun K' hK => h' K' (fun a w h1 h2 => hK a w ⟨h1, h2⟩))
theorem AnyK.done {S : Nat → World → Prop} {listed : Array Bool} {a : Act} {w : World} (hr : Region.ready md ops listed = []) (h : Q .normal a w) : ∀ fuel, AnyK P md ops Q S fuel listed a w
  | 0 => ⟨hr, h⟩
  | _ + 1 => ⟨fun _ => h, by rw [hr]; simp⟩
/-- The beginning. -/
theorem AnyK.start {S : Nat → World → Prop} {id : Nat} {a : Act} {w : World} (hm : P.follows .mixedOrders = true) (h : AnyK P .any ops Q S ops.size (Array.replicate ops.size false) a w.drew) : (Code.region id ops true).wp P Q a w :=
  wp_region_any hm (any_of_K _ _ _ _ h)
end
end Go.Proofs.Ytnekelndcpmonaa
