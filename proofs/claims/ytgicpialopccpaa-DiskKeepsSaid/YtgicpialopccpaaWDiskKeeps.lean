/- DiskKeeps: the walk. -/
import Derived.Test.YtgicpialopccpaaSector
import Derived.Test.YtgicpialopccpaaKeepsP
import Derived.Deep.RegionHeld
import Derived.Deep.RegionHeldLaw
import Derived.BigRegion
import Derived.RegionTactic
import Derived.Deep.DeepCutAuto
import Derived.Deep.CutBlock
import Derived.Deep.QuietTactic
import Derived.BigQuiet
namespace Go.Proofs.Ytgicpialopccpaa
open Go.RowKit

theorem wrap8 (c : UInt8) : IntKind.u8.wrap (c.toNat : Int) = (c.toNat : Int) := by rw [IntKind.wrap_u8]; have := c.toNat_lt; omega
theorem wrap64n (n : Nat) (h : n < 9223372036854775808) : IntKind.i64.wrap (n : Int) = (n : Int) := by rw [IntKind.wrap_i64]; omega
/-- Rows of bytes. -/
def rowsL (vs : List Value) (L : List (List UInt8)) : List Asn := List.zipWith (fun v l => bytesA v l.length l) vs L
theorem rowsL_base (vs : List Value) (L : List (List UInt8)) : ∀ A ∈ rowsL vs L, A.base = 0 := by
  intro A hA
  unfold rowsL at hA
  rw [← List.map_uncurry_zip_eq_zipWith] at hA
  obtain ⟨x, _, rfl⟩ := List.mem_map.1 hA
  rfl
theorem rowsL_set (vs : List Value) (L : List (List UInt8)) (i : Nat) (v : Value) (l : List UInt8) : (rowsL vs L).set i (bytesA v l.length l) = rowsL (vs.set i v) (L.set i l) := by
  unfold rowsL
  induction vs generalizing L i with
  | nil => simp
  | cons u vs ih =>
    cases L with
    | nil => simp
    | cons m L => cases i with
      | zero => simp
      | succ i => simp [ih]
theorem Sep.row {w : World} {R : List Asn} {vs : List Value} {L : List (List UInt8)} (h : Sep w (packA (rowsL vs L) :: R)) (i : Nat) (hi : i < vs.length) (hl : vs.length = L.length) :
    Sep w (bytesA (vs.getD i undef) (L.getD i []).length (L.getD i []) :: ((rowsL vs L).eraseIdx i ++ R)) ∧ (∀ (w' : World) (R' : List Asn) (v : Value) (l : List UInt8), Sep w' (bytesA v l.length l :: ((rowsL vs L).eraseIdx i ++ R')) → Sep w' (packA (rowsL (vs.set i v) (L.set i l)) :: R')) := by
  have hlen : i < (rowsL vs L).length := by unfold rowsL; rw [List.length_zipWith]; omega
  have e : ∀ h, (rowsL vs L)[i]'h = bytesA (vs.getD i undef) (L.getD i []).length (L.getD i []) := by
    intro h
    have h1 : vs.getD i undef = vs[i] := by simp [List.getD, hi]
    have h2 : L.getD i [] = L[i] := by simp [List.getD, show i < L.length by omega]
    rw [h1, h2]
    exact List.getElem_zipWith (h := h)
  refine ⟨?_, fun w' R' v l h' => ?_⟩
  · rw [← e hlen]; exact h.unpack.pull i hlen
  · have := h'.push i hlen
    rw [rowsL_set] at this
    exact this.pack (rowsL_base _ _)

theorem arr4_get (l : List UInt8) (hl : l.length = 4) (i : Nat) (hi : i < 4) : ((l.map byteV).toArray)[i]? = some (.int .u8 ((l.getD i 0).toNat : Int)) := by
  simp [List.getElem?_eq_getElem (show i < l.length by omega), byteV, List.getD]
theorem arr4_set (l : List UInt8) (i : Nat) (c : UInt8) : ((l.map byteV).toArray).setIfInBounds i (.int .u8 (c.toNat : Int)) = ((l.set i c).map byteV).toArray := by
  simp [List.map_set, byteV]

set_option maxRecDepth 20000 in
set_option maxHeartbeats 2000000 in
theorem DiskKeeps_walk (w : World) (a : Option Addr) (c : Nat) (l : List Int) (len : Nat) (b : Option Addr) (bc : Nat) (bl : List Int) (blen : Nat) (ka : Option Addr) (kc : Nat) (kl : List Bool) (klen : Nat) (all : Int) (hA : NumsAt .u16 w a l) (hl : l.length = len) (hW : ∀ x ∈ l, 0 ≤ x ∧ x ≤ 65535)
    (hB : NumsAt .u16 w b bl) (hbl : bl.length = blen) (hBW : ∀ x ∈ bl, 0 ≤ x ∧ x ≤ 65535) (hK : BoolsAt w ka kl) (hkl : kl.length = klen) :
    Calls Try.prog 4 #[.slice a len c, .slice b blen bc, .slice ka klen kc, .int .i64 all] w fun e w' => e = .returned (.bool true) ∧ Below w.heap.size w w' := by
  obtain ⟨m0, hm0, hn0⟩ := and_i64 all 3 (by omega)
  have hn : Go.bits .and .i64 all 3 = (m0 : Int) := hn0
  have S := Sep.start w
  clear hn0
  go_enter Try.func4, Try.ntmps4
  go_wp2_with fail
  refine (shown_sep S).mono ?_
  rintro e w1 ⟨rfl, S⟩
  go_wp2_with fail
  refine (new_sep S 4 4 rfl (by omega) (by omega)).mono ?_
  rintro e w2 ⟨p, rfl, S⟩
  have i2 := Calm.new 4
  have v2 : Hid (∀ i, i < 4 → (Dk.new 4).now i = full (([0, 0, 0, 0] : List UInt8).getD i 0)) := Lib.hid fun i hi => by
    rw [now_new 4 i hi]
    have : i = 0 ∨ i = 1 ∨ i = 2 ∨ i = 3 := by omega
    rcases this with rfl | rfl | rfl | rfl <;> rfl
  obtain ⟨D0, hD0⟩ : ∃ D0, D0 = Dk.new 4 := ⟨_, rfl⟩
  rw [← hD0] at S i2 v2
  clear hD0
  replace S := S.alloc #[Value.int IntKind.u8 0, Value.int IntKind.u8 0, Value.int IntKind.u8 0, Value.int IntKind.u8 0] 37
  obtain ⟨A, hAA⟩ : ∃ A, A = w2.heap.size := ⟨_, rfl⟩
  obtain ⟨w3, hw3⟩ : ∃ w3, w3 = w2.alloc (Obj.cells #[Value.int IntKind.u8 0, Value.int IntKind.u8 0, Value.int IntKind.u8 0, Value.int IntKind.u8 0] 37) := ⟨_, rfl⟩
  rw [← hw3, ← hAA] at S
  have HAA := Lib.hid hAA
  have Hw3 := Lib.hid hw3
  replace S : Sep w3 [diskA p D0, oldA w, blkA A (([0, 0, 0, 0] : List UInt8).map byteV).toArray 37] := S.dn2
  clear hAA hw3
  go_upto_block 0 with fail
  rw [← Hw3.out, ← HAA.out]
  go_cut [13] from 37 to 73 (fun i wx => ∃ (D : Dk) (aa : List UInt8), Sep wx [diskA p D, oldA w, blkA A (aa.map byteV).toArray 37] ∧ Calm D 4 30 ∧ aa.length = 4 ∧ Hid (∀ i, i < 4 → D.now i = full (aa.getD i 0)))
  case first =>
    go_wp2_with fail
    go_loopw [13] (fun i wr => ∃ (k : Nat) (D : Dk) (aa : List UInt8), k ≤ len ∧ k ≤ 30 ∧ i = .int .i64 k ∧ Sep wr [diskA p D, oldA w, blkA A (aa.map byteV).toArray 37] ∧ Calm D 4 k ∧ aa.length = 4 ∧ Hid (∀ i, i < 4 → D.now i = full (aa.getD i 0))) (fun i _ => len - (intOf i).toNat)
    case atStart => exact ⟨0, D0, [0, 0, 0, 0], Nat.zero_le _, Nat.zero_le _, rfl, S, i2, rfl, v2⟩
    case round =>
      clear S i2 v2
      obtain ⟨k, D, aa, hk, hk8, rfl, S, hI, hal, HV⟩ := hrel
      by_cases hlt : k < len ∧ k < 30
      · obtain ⟨hlt1, hlt8⟩ := hlt
        have hlt8i : (k : Int) < 30 := by omega
        obtain ⟨ab, ao, rfl, hc⟩ := hA k (by omega)
        have hcr := S.up1.arg hc
        obtain ⟨x, hx⟩ : ∃ x, x = l.getD k 0 := ⟨_, rfl⟩
        have hxb : 0 ≤ x ∧ x ≤ 65535 := by rw [hx]; exact hW _ (by simp [List.getD, show k < l.length by omega])
        rw [← hx] at hc hcr
        obtain ⟨j, hj, hxj0⟩ := and_u16 x 3 (by omega)
        have hxj : Go.bits .and .u16 x 3 = (j : Int) := hxj0
        obtain ⟨cc, hcc⟩ : ∃ cc : UInt8, cc = UInt8.ofNat (x / 256).toNat := ⟨_, rfl⟩
        have hdiv : x / 256 = (cc.toNat : Int) := by rw [hcc, UInt8.toNat_ofNat']; omega
        have hrd := hI.rd
        have hlenD := hI.len
        have hwt := hI.fwaits
        have hI2 := hI.write j (full cc)
        have HV2 : Hid (∀ i, i < 4 → (D.write j (full cc)).now i = full ((aa.set j cc).getD i 0)) := Lib.hid (fun i hi => by
          rw [now_write hI j (full cc) i]
          by_cases e : j = i
          · subst e; rw [if_pos rfl]; simp [List.getD, show j < aa.length by omega]
          · rw [if_neg e, HV.out i hi]; simp [List.getD, e])
        have hc0 : (0 : Int) ≤ (cc.toNat : Int) := by omega
        have hc1 : (cc.toNat : Int) < 256 := by have := cc.toNat_lt; omega
        have hj0 : (0 : Int) ≤ (j : Int) := by omega
        have hj1 : (j : Int) < 4 := by omega
        have hk0 : (0 : Int) ≤ (k : Int) := by omega
        have hk1 : (k : Int) < (len : Int) := by omega
        have Hc := Lib.hid hc
        clear hc hx hA hxj0 hI HV hcc hW
        go_wp2_with fail
        go_region_held (fun w' => w'.cell? ⟨ab, ao + k, none⟩ = some (.int .u16 x)) (first | assumption | exact hcr) (first
          | (go_at_call 17; refine (sector_sep S.drew cc _ (wrap8 cc)).mono ?_; rintro e ws ⟨g, rfl, S1⟩; have hcs := S1.drop.up1.arg Hc.out)
          | (go_at_call 14; refine (write_own S1 j _ (wrap64n j (by omega)) (by omega) (by omega)).mono ?_; rintro e wa ⟨rfl, S2⟩; have hca := S2.drop.up1.arg Hc.out))
        have hcA := S2.up3.blk_cell j
        rw [arr4_get aa hal j (by omega)] at hcA
        have hfA := S2.up3.blk_free j
        obtain ⟨old, hold⟩ : ∃ old : Value, old = .int .u8 (aa.getD j 0).toNat := ⟨_, rfl⟩
        rw [← hold] at hcA
        replace S := S2.up3.blk_set j (.int .u8 (cc.toNat : Int))
        rw [arr4_set] at S
        replace S := S.dn3.drop.drew
        clear hcs S1 S2 hold
        go_wp2_with fail
        go_region
        go_wp2
        go_roundw
        case rel => exact ⟨k + 1, _, _, by omega, by omega, by go_num, S, hI2, by simp [hal], HV2⟩
        case measure => simp [intOf]; omega
      · by_cases hkl : k < len
        · have hk50 : ¬ (k : Int) < 30 := by omega
          clear hA
          go_wp2_with fail
          go_meet
          exact ⟨D, aa, S, hI.mono hk8, hal, HV⟩
        · have hkl' : ¬ (k : Int) < (len : Int) := by omega
          clear hA
          go_wp2_with fail
          go_meet
          exact ⟨D, aa, S, hI.mono hk8, hal, HV⟩
  case rest =>
    obtain ⟨D, aa, S, hI, hal, HV⟩ := hcut
    clear hA hW
    have hrd := hI.rd
    have hI2 := hI.barrier
    have HV2 : Hid (∀ i, i < 4 → D.barrier.now i = full (aa.getD i 0)) := Lib.hid (fun i hi => (now_barrier hI i hi).trans (HV.out i hi))
    go_wp2_with fail
    refine (barrier_sep S).mono ?_
    rw [hrd]
    rintro e w4 ⟨rfl, S, -⟩
    obtain ⟨D1, hD1⟩ : ∃ D1, D1 = D.barrier := ⟨_, rfl⟩
    rw [← hD1] at S hI2 HV2
    clear hI HV hrd hD1
    have hk1 := KInv.first m0 hI2 aa hal HV2.out
    obtain ⟨a0, a1, a2, a3, rfl⟩ : ∃ a0 a1 a2 a3, aa = [a0, a1, a2, a3] := by
      match aa, hal with
      | [a0, a1, a2, a3], _ => exact ⟨_, _, _, _, rfl⟩
    have cA := S.up2.blk_cell
    have cA0 := cA 0
    have cA1 := cA 1
    have cA2 := cA 2
    have cA3 := cA 3
    simp [byteV] at cA0 cA1 cA2 cA3
    have hlA := S.up2.blk_lt
    have hl1 : A < w4.heap.size + 1 := by omega
    have hl2 : A < w4.heap.size + 1 + 1 := by omega
    have hl3 : A < w4.heap.size + 1 + 1 + 1 := by omega
    have hl4 : A < w4.heap.size + 1 + 1 + 1 + 1 := by omega
    have hl5 : A < w4.heap.size + 1 + 1 + 1 + 1 + 1 := by omega
    clear cA HV2
    replace S := S.alloc #[.int .u8 (a0.toNat : Int), .int .u8 (a1.toNat : Int), .int .u8 (a2.toNat : Int), .int .u8 (a3.toNat : Int)] 37
    replace S := S.dn3
    replace S := ((S.alloc (([a0] : List UInt8).map byteV).toArray 5).blkBytes 1 rfl (by omega)).dn4
    replace S := ((S.alloc (([a1] : List UInt8).map byteV).toArray 5).blkBytes 1 rfl (by omega)).dn5
    replace S := ((S.alloc (([a2] : List UInt8).map byteV).toArray 5).blkBytes 1 rfl (by omega))
    replace S := ((S.alloc (([a3] : List UInt8).map byteV).toArray 5).blkBytes 1 rfl (by omega))
    simp only [World.size_alloc] at S
    replace S := S.alloc #[.slice (some ⟨w4.heap.size + 1, 0, none⟩) 1 1, .slice (some ⟨w4.heap.size + 1 + 1, 0, none⟩) 1 1, .slice (some ⟨w4.heap.size + 1 + 1 + 1, 0, none⟩) 1 1, .slice (some ⟨w4.heap.size + 1 + 1 + 1 + 1, 0, none⟩) 1 1] 42
    simp only [World.size_alloc] at S
    obtain ⟨q, hq⟩ : ∃ q, q = w4.heap.size := ⟨_, rfl⟩
    have Hq := Lib.hid hq
    go_upto_block 2 with fail
    rw [← Hq.out] at S ⊢
    obtain ⟨r0, hr0⟩ : ∃ r, r = q + 1 := ⟨_, rfl⟩
    rw [← hr0] at S ⊢
    obtain ⟨r1, hr1⟩ : ∃ r, r = r0 + 1 := ⟨_, rfl⟩
    rw [← hr1] at S ⊢
    obtain ⟨r2, hr2⟩ : ∃ r, r = r1 + 1 := ⟨_, rfl⟩
    rw [← hr2] at S ⊢
    obtain ⟨r3, hr3⟩ : ∃ r, r = r2 + 1 := ⟨_, rfl⟩
    rw [← hr3] at S ⊢
    obtain ⟨mb, hmb⟩ : ∃ r, r = r3 + 1 := ⟨_, rfl⟩
    rw [← hmb] at S ⊢
    obtain ⟨vs, hvs⟩ : ∃ vs : List Value, vs = [.slice (some ⟨r0, 0, none⟩) 1 1, .slice (some ⟨r1, 0, none⟩) 1 1, .slice (some ⟨r2, 0, none⟩) 1 1, .slice (some ⟨r3, 0, none⟩) 1 1] := ⟨_, rfl⟩
    replace S := (Sep.pack (L := rowsL vs [[a0], [a1], [a2], [a3]]) (rowsL_base _ _) (by rw [hvs]; exact S.up1.up2.up8.up8)).nilOwn 4 1
    replace S := S.up1.up2.up6.up6.up6.up6
    obtain ⟨w5, hw5⟩ : ∃ w5, w5 = ((((((w4.alloc (Obj.cells #[Value.int IntKind.u8 a0.toNat, Value.int IntKind.u8 a1.toNat, Value.int IntKind.u8 a2.toNat, Value.int IntKind.u8 a3.toNat] 37)).alloc
                      (Obj.cells #[Value.int IntKind.u8 a0.toNat] 5)).alloc (Obj.cells #[Value.int IntKind.u8 a1.toNat] 5)).alloc (Obj.cells #[Value.int IntKind.u8 a2.toNat] 5)).alloc (Obj.cells #[Value.int IntKind.u8 a3.toNat] 5)).alloc
      (Obj.cells #[Value.slice (some { block := r0, off := 0 }) 1 1, Value.slice (some { block := r1, off := 0 }) 1 1, Value.slice (some { block := r2, off := 0 }) 1 1, Value.slice (some { block := r3, off := 0 }) 1 1] 42)) := ⟨_, rfl⟩
    rw [← hw5]
    replace S : Sep w5 [diskA p D1, oldA w, blkA A (([a0, a1, a2, a3] : List UInt8).map byteV).toArray 37, blkA q (([a0, a1, a2, a3] : List UInt8).map byteV).toArray 37, blkA mb vs.toArray 42, packA (rowsL vs [[a0], [a1], [a2], [a3]]), ownA 4 1 (.slice none 0 0) 0 []] := by rw [hw5, hvs]; rw [hvs] at S; exact S
    have hvl : vs.length = 4 := by rw [hvs]; rfl
    obtain ⟨aa, haa⟩ : ∃ aa, aa = [a0, a1, a2, a3] := ⟨_, rfl⟩
    rw [← haa] at S hk1
    clear hw5 hvs hq Hq hr0 hr1 hr2 hr3 hmb cA0 cA1 cA2 cA3 hlA hl1 hl2 hl3 hl4 hl5 hI2
    go_cut [16, 17, 18, 19] from 90 to 158 (fun kv i c1 one wx => ∃ (D : Dk) (la s : List UInt8) (may : List (List UInt8)) (ks : List Bool) (vs : List Value), Sep wx [diskA p D, oldA w, blkA A (aa.map byteV).toArray 37, blkA q (la.map byteV).toArray 37, blkA mb vs.toArray 42, packA (rowsL vs may), ownA 4 1 kv ks.length (ks.map Value.bool)] ∧ KInv m0 D aa la s may ks ∧ vs.length = 4 ∧ ks.length ≤ 30 ∧ ∀ v ∈ may, v.length ≤ 31)
    case first =>
      go_wp2_with fail
      go_loopw [17, 16] (fun i kv wr => ∃ (k : Nat) (D : Dk) (la s : List UInt8) (may : List (List UInt8)) (ks : List Bool) (vs : List Value), k ≤ blen ∧ k ≤ 30 ∧ i = .int .i64 k ∧ ks.length = k ∧ Sep wr [diskA p D, oldA w, blkA A (aa.map byteV).toArray 37, blkA q (la.map byteV).toArray 37, blkA mb vs.toArray 42, packA (rowsL vs may), ownA 4 1 kv ks.length (ks.map Value.bool)] ∧ KInv m0 D aa la s may ks ∧ vs.length = 4 ∧ ∀ v ∈ may, v.length ≤ k + 1) (fun i _ _ => blen - (intOf i).toNat)
      case atStart => exact ⟨0, D1, aa, aa, _, [], vs, Nat.zero_le _, Nat.zero_le _, rfl, rfl, by subst haa; exact S, hk1, hvl, fun v hv => by obtain ⟨x, _, rfl⟩ := List.mem_map.1 hv; exact Nat.le_refl _⟩
      case round =>
        clear S hk1 hvl haa
        obtain ⟨k, D, la, s, may, ks, vs, hk, hk8, rfl, hks, S, hI, hvl, hml⟩ := hrel
        by_cases hlt : k < blen ∧ k < 30
        · obtain ⟨hlt1, hlt8⟩ := hlt
          have hlt8i : (k : Int) < 30 := by omega
          obtain ⟨bb, bo, rfl, hc⟩ := hB k (by omega)
          have hcr := S.drop.arg hc
          obtain ⟨x, hx⟩ : ∃ x, x = bl.getD k 0 := ⟨_, rfl⟩
          have hxb : 0 ≤ x ∧ x ≤ 65535 := by rw [hx]; exact hBW _ (by simp [List.getD, show k < bl.length by omega])
          rw [← hx] at hc hcr
          obtain ⟨j, hj, hxj0⟩ := and_u16 x 3 (by omega)
          have hxj : Go.bits .and .u16 x 3 = (j : Int) := hxj0
          obtain ⟨cc, hcc⟩ : ∃ cc : UInt8, cc = UInt8.ofNat (x / 256).toNat := ⟨_, rfl⟩
          have hdiv : x / 256 = (cc.toNat : Int) := by rw [hcc, UInt8.toNat_ofNat']; omega
          have hrd := hI.calm.rd
          have hlenD := hI.calm.len
          have hwt := hI.calm.fwaits
          have hks30 : ks.length ≤ 30 := by omega
          have hll := hI.ll
          have hmlen := hI.ml
          have hc0 : (0 : Int) ≤ (cc.toNat : Int) := by omega
          have hc1 : (cc.toNat : Int) < 256 := by have := cc.toNat_lt; omega
          have hj0 : (0 : Int) ≤ (j : Int) := by omega
          have hj1 : (j : Int) < 4 := by omega
          have hk0 : (0 : Int) ≤ (k : Int) := by omega
          have hk1 : (k : Int) < (blen : Int) := by omega
          have Hc := Lib.hid hc
          have Hks := Lib.hid hks
          clear hc hx hB hxj0 hcc hBW hks
          go_wp2_with fail
          go_region_held (fun w' => w'.cell? ⟨bb, bo + k, none⟩ = some (.int .u16 x)) (first | assumption | exact hcr) (first
            | (go_at_call 17; refine (sector_sep S.drew cc _ rfl).mono ?_; rintro e ws ⟨g, rfl, S1⟩; have hcs := S1.drop.drop.arg Hc.out)
            | (go_at_call 14; refine (write_own S1 j _ (wrap64n j (by omega)) (by omega) (by omega)).mono ?_; rintro e wa ⟨rfl, S2⟩; have hca := S2.drop.drop.arg Hc.out))
          replace S2 := S2.drop
          clear hcs S1 S
          have hcq := S2.up3.blk_cell j
          rw [arr4_get la hll j (by omega)] at hcq
          have hfq := S2.up3.blk_free j
          obtain ⟨old, hold⟩ : ∃ old : Value, old = .int .u8 (la.getD j 0).toNat := ⟨_, rfl⟩
          rw [← hold] at hcq
          replace S2 := S2.up3.blk_set j (.int .u8 (cc.toNat : Int))
          rw [arr4_set] at S2
          replace S2 := S2.dn3
          obtain ⟨wb, hwb⟩ : ∃ wb, wb = wa.setCell ⟨q, j, none⟩ (.int .u8 (cc.toNat : Int)) := ⟨_, rfl⟩
          rw [← hwb] at S2
          have Hwb := Lib.hid hwb
          clear hold hwb
          go_upto_region 21 with fail
          rw [← Hwb.out]
          go_cut [] from 123 to 138 (fun wx => ∃ (v : Value) (m : List UInt8), m = may.getD j [] ∧ Sep wx [diskA p (D.write j (full cc)), oldA w, blkA A (aa.map byteV).toArray 37, blkA q ((la.set j cc).map byteV).toArray 37, blkA mb (vs.set j v).toArray 42, packA (rowsL (vs.set j v) (may.set j (m ++ [cc]))), ownA 4 1 u16 ks.length (ks.map Value.bool)])
          case first =>
            have hcb := S2.drop.arg Hc.out
            have hcm := S2.up4.blk_cell j
            have ej : vs.toArray[j]? = some (vs.getD j undef) := by simp [List.getD, show j < vs.length by omega]
            rw [ej] at hcm
            have hmbl := S2.up4.blk_lt
            have hbbl := World.block_lt_of_cell? _ _ hcb
            have hmf := S2.up4.blk_free j
            obtain ⟨T, Tset⟩ := S2.up5.row j (by omega) (by omega)
            obtain ⟨m, hm⟩ : ∃ m, m = may.getD j [] := ⟨_, rfl⟩
            rw [← hm] at T
            obtain ⟨ga, gc, hvj, hgl1, hgl2⟩ := ownsRow_slice T.own
            rw [hvj] at hcm T
            have Hvj := Lib.hid hvj
            clear hvj
            have hmle : m.length ≤ k + 1 := hml m (by rw [hm]; simp [List.getD, show j < may.length by omega])
            have Hm := Lib.hid hm
            clear hm
            obtain ⟨i0, hi, hz0, hz1, hz2⟩ := info_parts info8
            have T1 := (T.alloc #[.int .u8 (cc.toNat : Int)] 5).up1.drew
            have hnew := Sep.cell_new wb (.int .u8 (cc.toNat : Int)) 5
            have Hnew := Lib.hid hnew
            have Hej := Lib.hid ej
            have Hi := Lib.hid hi
            have Hz0 := Lib.hid hz0
            have Hz1 := Lib.hid hz1
            have Hz2 := Lib.hid hz2
            have Htset : Hid (∀ W2 g2 gc2, Sep W2 (ownA 5 1 (.slice g2 (m.length + 1) gc2) (m.length + 1) (m.map byteV ++ [.int .u8 (cc.toNat : Int)]) :: blkA wb.heap.size #[.int .u8 (cc.toNat : Int)] 5 :: ((rowsL vs may).eraseIdx j ++ [diskA p (D.write j (full cc)), oldA w, blkA A (aa.map byteV).toArray 37, blkA q ((la.set j cc).map byteV).toArray 37, blkA mb vs.toArray 42, ownA 4 1 u16 ks.length (ks.map Value.bool)])) →
                Sep W2 (blkA mb vs.toArray 42 :: packA (rowsL (vs.set j (.slice g2 (m.length + 1) gc2)) (may.set j (m ++ [cc]))) :: [diskA p (D.write j (full cc)), oldA w, blkA A (aa.map byteV).toArray 37, blkA q ((la.set j cc).map byteV).toArray 37, ownA 4 1 u16 ks.length (ks.map Value.bool)])) := Lib.hid (fun W2 g2 gc2 T2 => (Tset W2 _ (.slice g2 (m.length + 1) gc2) (m ++ [cc]) (by
                  have := T2.up1.drop
                  simp only [List.length_append, List.length_cons, List.length_nil]
                  show Sep W2 (ownA _ 1 _ _ ((m ++ [cc]).map byteV) :: _)
                  rw [List.map_append]
                  exact this)).up5)
            clear T Tset hnew ej hi hz0 hz1 hz2
            refine wp_region_held_drew (S := fun w' => w'.cell? ⟨bb, bo + k, none⟩ = some (.int .u16 x)) (by kernel_rfl) hcb (fun hHeld => ?_)
            refine wpAnyH_take (i := 0) (v := ?v0) rfl (by kernel_rfl) (by kernel_rfl) (by kernel_rfl) (fun _ _ _ h => h) (Or.inl ⟨by rfl, ?y0⟩) (by assumption) ?r0
            case y0 => (intro w hSw; (try dsimp only at hSw); go_simp; (try with_reducible rfl))
            try simp only [Act.put, List.setIfInBounds_toArray, List.set_cons_zero, List.set_cons_succ]
            refine wpAnyH_take (i := 1) (v := ?v1) rfl (by kernel_rfl) (by kernel_rfl) (by kernel_rfl) (fun _ _ _ h => h) (Or.inl ⟨by rfl, ?y1⟩) (by assumption) ?r1
            case y1 => (intro w hSw; (try dsimp only at hSw); go_simp; (try with_reducible rfl))
            try simp only [Act.put, List.setIfInBounds_toArray, List.set_cons_zero, List.set_cons_succ]
            refine wpAnyH_take (i := 2) (v := ?v2) rfl (by kernel_rfl) (by kernel_rfl) (by kernel_rfl) (fun _ _ _ h => h) (Or.inl ⟨by rfl, ?y2⟩) (by assumption) ?r2
            case y2 => (intro w hSw; (try dsimp only at hSw); go_simp; (try with_reducible rfl))
            try simp only [Act.put, List.setIfInBounds_toArray, List.set_cons_zero, List.set_cons_succ]
            refine wpAnyH_take (i := 3) (v := ?v3) rfl (by kernel_rfl) (by kernel_rfl) (by kernel_rfl) (fun _ _ _ h => h) (Or.inl ⟨by rfl, ?y3⟩) (by assumption) ?r3
            case y3 => (intro w hSw; (try dsimp only at hSw); go_simp; (try with_reducible rfl))
            try simp only [Act.put, List.setIfInBounds_toArray, List.set_cons_zero, List.set_cons_succ]
            refine wpAnyH_take (i := 4) (v := ?v4) rfl (by kernel_rfl) (by kernel_rfl) (by kernel_rfl) (fun _ _ _ h => h) (Or.inl ⟨by rfl, ?y4⟩) (by assumption) ?r4
            case y4 => (intro w hSw; (try dsimp only at hSw); go_simp; (try with_reducible rfl))
            try simp only [Act.put, List.setIfInBounds_toArray, List.set_cons_zero, List.set_cons_succ]
            refine wpAnyH_take (i := 5) (v := ?v5) rfl (by kernel_rfl) (by kernel_rfl) (by kernel_rfl) (fun _ _ _ h => h) (Or.inl ⟨by rfl, ?y5⟩) (by assumption) ?r5
            case y5 => (intro w hSw; (try dsimp only at hSw); go_simp; (try with_reducible rfl))
            try simp only [Act.put, List.setIfInBounds_toArray, List.set_cons_zero, List.set_cons_succ]
            refine wpAnyH_take (i := 6) (v := ?v6) rfl (by kernel_rfl) (by kernel_rfl) (by kernel_rfl) (fun _ _ _ h => h) (Or.inl ⟨by rfl, ?y6⟩) (by assumption) ?r6
            case y6 => (intro w hSw; (try dsimp only at hSw); go_simp; (try with_reducible rfl))
            try simp only [Act.put, List.setIfInBounds_toArray, List.set_cons_zero, List.set_cons_succ]
            refine wpAnyH_take (i := 7) (v := ?v7) rfl (by kernel_rfl) (by kernel_rfl) (by kernel_rfl) (fun _ _ _ h => h) (Or.inl ⟨by rfl, ?y7⟩) (by assumption) ?r7
            case y7 => (intro w hSw; (try dsimp only at hSw); go_simp; (try with_reducible rfl))
            try simp only [Act.put, List.setIfInBounds_toArray, List.set_cons_zero, List.set_cons_succ]
            refine wpAnyH_take (i := 8) (v := ?v8) rfl (by kernel_rfl) (by kernel_rfl) (by kernel_rfl) (fun _ _ _ h => h) (Or.inl ⟨by rfl, ?y8⟩) (by assumption) ?r8
            case y8 => (intro w hSw; (try dsimp only at hSw); go_simp; (try with_reducible rfl))
            try simp only [Act.put, List.setIfInBounds_toArray, List.set_cons_zero, List.set_cons_succ]
            refine wpAnyH_take (i := 9) (v := ?v9) rfl (by kernel_rfl) (by kernel_rfl) (by kernel_rfl) (fun _ _ _ h => h) (Or.inl ⟨by rfl, ?y9⟩) (by assumption) ?r9
            case y9 => (intro w hSw; (try dsimp only at hSw); go_simp; (try with_reducible rfl))
            try simp only [Act.put, List.setIfInBounds_toArray, List.set_cons_zero, List.set_cons_succ]
            refine wpAnyH_take (i := 10) (v := ?v10) rfl (by kernel_rfl) (by kernel_rfl) (by kernel_rfl) (fun _ _ _ h => h) (Or.inl ⟨by rfl, ?y10⟩) (by assumption) ?r10
            case y10 => (intro w hSw; (try dsimp only at hSw); go_simp; (try with_reducible rfl))
            try simp only [Act.put, List.setIfInBounds_toArray, List.set_cons_zero, List.set_cons_succ]
            refine wpAnyH_take (i := 12) (v := ?v12) rfl (by kernel_rfl) (by kernel_rfl) (by kernel_rfl) (fun _ _ _ h => h) (Or.inl ⟨by rfl, ?y12⟩) (by assumption) ?r12
            case y12 => (intro w hSw; (try dsimp only at hSw); go_simp; (try with_reducible rfl))
            try simp only [Act.put, List.setIfInBounds_toArray, List.set_cons_zero, List.set_cons_succ]
            have hca1 : ((wb.alloc (Obj.cells #[.int .u8 (cc.toNat : Int)] 5)).drew).cell? ⟨bb, bo + k, none⟩ = some (.int .u16 x) := (World.cell?_alloc_lt _ _ _ hbbl).trans hcb
            refine wpAnyH_ready (rs := [11, 13]) (by kernel_rfl) (by simp) (AllReadyH.cons rfl (fun K hK => ?_) (AllReadyH.cons rfl (fun K hK => ?_) AllReadyH.nil))
            · go_simp
              refine hK.out _ _ (hcb) (fun hHeld => ?_)
              clear hK K
              refine wpAnyH_ready (rs := [13]) (by kernel_rfl) (by simp) (AllReadyH.cons rfl (fun K hK => ?_) AllReadyH.nil)
              go_simp
              refine hK.out _ _ hca1 (fun hHeld => ?_)
              clear hK K
              refine wpAnyH_ready (rs := [14]) (by kernel_rfl) (by simp) (AllReadyH.cons rfl (fun K hK => ?_) AllReadyH.nil)
              refine Sep.step_append Try.underlying30 Hi.out Hz0.out Hz1.out Hz2.out rfl (by decide) (by rfl) (.tmp 134) (.tmp 136) (by rfl) T1 (by rfl) ⟨wb.heap.size, 0, none⟩ 1 1 [.int .u8 (cc.toNat : Int)] (by rfl) rfl Hnew.out (by intro u hu; simp at hu; subst hu; rfl) (by unfold maxLen; omega) (by omega) ?_
              intro g2 gc2 W2 T2 hko hg1 hg2 hg3
              have T3 := Htset.out W2 g2 gc2 T2
              have cm2 := T3.blk_cell j
              rw [Hej.out, Hvj.out] at cm2
              have cf2 := T3.blk_free j
              have c2b := T3.drop.drop.drop.arg Hc.out
              have T4 := T3.blk_set j (.slice g2 (m.length + 1) gc2)
              have c4b := T4.drop.drop.drop.arg Hc.out
              refine hK.out _ _ c2b (fun hHeld => ?_)
              clear hK K
              refine wpAnyH_ready (rs := [15]) (by kernel_rfl) (by simp) (AllReadyH.cons rfl (fun K hK => ?_) AllReadyH.nil)
              go_simp
              refine hK.out _ _ c2b (fun hHeld => ?_)
              clear hK K
              refine wpAnyH_ready (rs := [16]) (by kernel_rfl) (by simp) (AllReadyH.cons rfl (fun K hK => ?_) AllReadyH.nil)
              go_simp
              refine hK.out _ _ c4b (fun hHeld => ?_)
              clear hK K
              refine wpAnyH_done (by kernel_rfl) ?_ _
              go_wp2_with fail
              go_meet
              refine ⟨.slice g2 (m.length + 1) gc2, m, Hm.out, ?_⟩
              simp only [List.setIfInBounds_toArray] at T4
              exact T4.up5.up5.up5.up5
            · go_simp
              refine hK.out _ _ (hca1) (fun hHeld => ?_)
              clear hK K
              refine wpAnyH_ready (rs := [11]) (by kernel_rfl) (by simp) (AllReadyH.cons rfl (fun K hK => ?_) AllReadyH.nil)
              go_simp
              refine hK.out _ _ hca1 (fun hHeld => ?_)
              clear hK K
              refine wpAnyH_ready (rs := [14]) (by kernel_rfl) (by simp) (AllReadyH.cons rfl (fun K hK => ?_) AllReadyH.nil)
              refine Sep.step_append Try.underlying30 Hi.out Hz0.out Hz1.out Hz2.out rfl (by decide) (by rfl) (.tmp 134) (.tmp 136) (by rfl) T1 (by rfl) ⟨wb.heap.size, 0, none⟩ 1 1 [.int .u8 (cc.toNat : Int)] (by rfl) rfl Hnew.out (by intro u hu; simp at hu; subst hu; rfl) (by unfold maxLen; omega) (by omega) ?_
              intro g2 gc2 W2 T2 hko hg1 hg2 hg3
              have T3 := Htset.out W2 g2 gc2 T2
              have cm2 := T3.blk_cell j
              rw [Hej.out, Hvj.out] at cm2
              have cf2 := T3.blk_free j
              have c2b := T3.drop.drop.drop.arg Hc.out
              have T4 := T3.blk_set j (.slice g2 (m.length + 1) gc2)
              have c4b := T4.drop.drop.drop.arg Hc.out
              refine hK.out _ _ c2b (fun hHeld => ?_)
              clear hK K
              refine wpAnyH_ready (rs := [15]) (by kernel_rfl) (by simp) (AllReadyH.cons rfl (fun K hK => ?_) AllReadyH.nil)
              go_simp
              refine hK.out _ _ c2b (fun hHeld => ?_)
              clear hK K
              refine wpAnyH_ready (rs := [16]) (by kernel_rfl) (by simp) (AllReadyH.cons rfl (fun K hK => ?_) AllReadyH.nil)
              go_simp
              refine hK.out _ _ c4b (fun hHeld => ?_)
              clear hK K
              refine wpAnyH_done (by kernel_rfl) ?_ _
              go_wp2_with fail
              go_meet
              refine ⟨.slice g2 (m.length + 1) gc2, m, Hm.out, ?_⟩
              simp only [List.setIfInBounds_toArray] at T4
              exact T4.up5.up5.up5.up5
          case rest =>
            obtain ⟨v, m, hm, S⟩ := hcut
            have Hm := Lib.hid hm
            have hml2 : ∀ v ∈ may.set j (m ++ [cc]), v.length ≤ k + 1 + 1 := by
              intro v hv
              rcases List.mem_or_eq_of_mem_set hv with hv | rfl
              · have := hml v hv; omega
              · have : m.length ≤ k + 1 := by rw [hm]; exact hml _ (by simp [List.getD, show j < may.length by omega])
                simp; omega
            have Hml2 := Lib.hid hml2
            have Hml := Lib.hid hml
            clear hm hml2 hml
            obtain ⟨i0, hi, hz0, hz1, hz2⟩ := info_parts infoB
            have Hi := Lib.hid hi
            have Hz0 := Lib.hid hz0
            have Hz1 := Lib.hid hz1
            have Hz2 := Lib.hid hz2
            clear hi hz0 hz1 hz2
            have hstep := fun (one : Bool) (h1 : m0 = 1 → one = true) (h2 : m0 = 2 → one = false) => hI.step j cc one h1 h2
            have Hstep := Lib.hid hstep
            have hone : ∀ (one : Bool) (wq : World), wq = wc → ∃ u : Value, u = .bool one := fun one _ _ => ⟨_, rfl⟩
            clear hstep hone
            have cases3 : (m0 = 1) ∨ (m0 = 2) ∨ ((m0 : Int) == 1) = false ∧ ((m0 : Int) == 2) = false ∧ m0 ≠ 1 ∧ m0 ≠ 2 := by
              by_cases h1 : m0 = 1
              · exact .inl h1
              · by_cases h2 : m0 = 2
                · exact .inr (.inl h2)
                · exact .inr (.inr ⟨by simp; omega, by simp; omega, h1, h2⟩)
            obtain ⟨kb, hkb⟩ : ∃ kb : Bool, kb = kl.getD k false := ⟨_, rfl⟩
            have Sk := S.up6
            clear S
            by_cases hkk : k < klen
            · obtain ⟨kbb, ko, rfl, hkc⟩ := hK k (by omega)
              rw [← hkb] at hkc
              have hkcr := Sk.drop.drop.arg hkc
              have hkk1 : (k : Int) < (klen : Int) := by omega
              have hkk0 : (0 : Int) ≤ (k : Int) := by omega
              clear hkb hK hkc
              rcases cases3 with rfl | rfl | ⟨e1, e2, e3, e4⟩
              · have Sn := (Sk.alloc #[.bool true] 4).up1
                have hnew := Lib.hid (Sep.cell_new wc (.bool true) 4)
                have hs1 : Hid (KInv 1 (D.write j (full cc)) aa (la.set j cc) (if true then s.set j cc else s) (may.set j (m ++ [cc])) (ks ++ [true])) := Lib.hid (by have := Hstep.out true (fun _ => rfl) (fun h => by omega); rw [← Hm.out] at this; exact this)
                clear Hstep
                go_wp2_with (at_builtin; refine Sep.wpList_append Try.underlying36 Hi.out Hz0.out Hz1.out Hz2.out rfl (by decide) rfl (.tmp 155) (.tmp 157) rfl Sn rfl ⟨wc.heap.size, 0, none⟩ 1 1 [.bool true] rfl rfl hnew.out (by intro u hu; simp at hu; subst hu; rfl) (by unfold maxLen; omega) (by omega) ?next)
                case next =>
                  intro gk ck wk Sw _ _ _ _
                  replace Sw := Sw.up1.drop.dn6
                  have e1 : (ks ++ [true]).length = ks.length + 1 := by simp
                  have e2 : (ks ++ [true]).map Value.bool = ks.map Value.bool ++ [Value.bool true] := by simp
                  have E1 := Lib.hid e1
                  have E2 := Lib.hid e2
                  have HSw := Lib.hid Sw
                  clear e1 e2 Sw
                  go_wp2
                  go_roundw
                  case rel => exact ⟨k + 1, D.write j (full cc), la.set j cc, _, may.set j (m ++ [cc]), ks ++ [true], vs.set j v, by omega, by omega, by go_num, by rw [E1.out, Hks.out], by rw [E1.out, E2.out, List.map_set]; exact HSw.out, hs1.out, by simp [hvl], Hml2.out⟩
                  case measure => simp [intOf]; omega
              · have Sn := (Sk.alloc #[.bool false] 4).up1
                have hnew := Lib.hid (Sep.cell_new wc (.bool false) 4)
                have hs1 : Hid (KInv 2 (D.write j (full cc)) aa (la.set j cc) (if false then s.set j cc else s) (may.set j (m ++ [cc])) (ks ++ [false])) := Lib.hid (by have := Hstep.out false (fun h => by omega) (fun _ => rfl); rw [← Hm.out] at this; exact this)
                clear Hstep
                go_wp2_with (at_builtin; refine Sep.wpList_append Try.underlying36 Hi.out Hz0.out Hz1.out Hz2.out rfl (by decide) rfl (.tmp 155) (.tmp 157) rfl Sn rfl ⟨wc.heap.size, 0, none⟩ 1 1 [.bool false] rfl rfl hnew.out (by intro u hu; simp at hu; subst hu; rfl) (by unfold maxLen; omega) (by omega) ?next)
                case next =>
                  intro gk ck wk Sw _ _ _ _
                  replace Sw := Sw.up1.drop.dn6
                  have e1 : (ks ++ [false]).length = ks.length + 1 := by simp
                  have e2 : (ks ++ [false]).map Value.bool = ks.map Value.bool ++ [Value.bool false] := by simp
                  have E1 := Lib.hid e1
                  have E2 := Lib.hid e2
                  have HSw := Lib.hid Sw
                  clear e1 e2 Sw
                  go_wp2
                  go_roundw
                  case rel => exact ⟨k + 1, D.write j (full cc), la.set j cc, _, may.set j (m ++ [cc]), ks ++ [false], vs.set j v, by omega, by omega, by go_num, by rw [E1.out, Hks.out], by rw [E1.out, E2.out, List.map_set]; exact HSw.out, hs1.out, by simp [hvl], Hml2.out⟩
                  case measure => simp [intOf]; omega
              · have Sn := (Sk.alloc #[.bool kb] 4).up1
                have hnew := Lib.hid (Sep.cell_new wc (.bool kb) 4)
                have hs1 : Hid (KInv m0 (D.write j (full cc)) aa (la.set j cc) (if kb then s.set j cc else s) (may.set j (m ++ [cc])) (ks ++ [kb])) := Lib.hid (by have := Hstep.out kb (fun h => absurd h e3) (fun h => absurd h e4); rw [← Hm.out] at this; exact this)
                clear Hstep
                go_wp2_with (at_builtin; refine Sep.wpList_append Try.underlying36 Hi.out Hz0.out Hz1.out Hz2.out rfl (by decide) rfl (.tmp 155) (.tmp 157) rfl Sn rfl ⟨wc.heap.size, 0, none⟩ 1 1 [.bool kb] rfl rfl hnew.out (by intro u hu; simp at hu; subst hu; rfl) (by unfold maxLen; omega) (by omega) ?next)
                case next =>
                  intro gk ck wk Sw _ _ _ _
                  replace Sw := Sw.up1.drop.dn6
                  have e1 : (ks ++ [kb]).length = ks.length + 1 := by simp
                  have e2 : (ks ++ [kb]).map Value.bool = ks.map Value.bool ++ [Value.bool kb] := by simp
                  have E1 := Lib.hid e1
                  have E2 := Lib.hid e2
                  have HSw := Lib.hid Sw
                  clear e1 e2 Sw
                  go_wp2
                  go_roundw
                  case rel => exact ⟨k + 1, D.write j (full cc), la.set j cc, _, may.set j (m ++ [cc]), ks ++ [kb], vs.set j v, by omega, by omega, by go_num, by rw [E1.out, Hks.out], by rw [E1.out, E2.out, List.map_set]; exact HSw.out, hs1.out, by simp [hvl], Hml2.out⟩
                  case measure => simp [intOf]; omega
            · have hkk1 : ¬ (k : Int) < (klen : Int) := by omega
              clear hkb hK
              rcases cases3 with rfl | rfl | ⟨e1, e2, e3, e4⟩
              · have Sn := (Sk.alloc #[.bool true] 4).up1
                have hnew := Lib.hid (Sep.cell_new wc (.bool true) 4)
                have hs1 : Hid (KInv 1 (D.write j (full cc)) aa (la.set j cc) (if true then s.set j cc else s) (may.set j (m ++ [cc])) (ks ++ [true])) := Lib.hid (by have := Hstep.out true (fun _ => rfl) (fun h => by omega); rw [← Hm.out] at this; exact this)
                clear Hstep
                go_wp2_with (at_builtin; refine Sep.wpList_append Try.underlying36 Hi.out Hz0.out Hz1.out Hz2.out rfl (by decide) rfl (.tmp 155) (.tmp 157) rfl Sn rfl ⟨wc.heap.size, 0, none⟩ 1 1 [.bool true] rfl rfl hnew.out (by intro u hu; simp at hu; subst hu; rfl) (by unfold maxLen; omega) (by omega) ?next)
                case next =>
                  intro gk ck wk Sw _ _ _ _
                  replace Sw := Sw.up1.drop.dn6
                  have e1 : (ks ++ [true]).length = ks.length + 1 := by simp
                  have e2 : (ks ++ [true]).map Value.bool = ks.map Value.bool ++ [Value.bool true] := by simp
                  have E1 := Lib.hid e1
                  have E2 := Lib.hid e2
                  have HSw := Lib.hid Sw
                  clear e1 e2 Sw
                  go_wp2
                  go_roundw
                  case rel => exact ⟨k + 1, D.write j (full cc), la.set j cc, _, may.set j (m ++ [cc]), ks ++ [true], vs.set j v, by omega, by omega, by go_num, by rw [E1.out, Hks.out], by rw [E1.out, E2.out, List.map_set]; exact HSw.out, hs1.out, by simp [hvl], Hml2.out⟩
                  case measure => simp [intOf]; omega
              · have Sn := (Sk.alloc #[.bool false] 4).up1
                have hnew := Lib.hid (Sep.cell_new wc (.bool false) 4)
                have hs1 : Hid (KInv 2 (D.write j (full cc)) aa (la.set j cc) (if false then s.set j cc else s) (may.set j (m ++ [cc])) (ks ++ [false])) := Lib.hid (by have := Hstep.out false (fun h => by omega) (fun _ => rfl); rw [← Hm.out] at this; exact this)
                clear Hstep
                go_wp2_with (at_builtin; refine Sep.wpList_append Try.underlying36 Hi.out Hz0.out Hz1.out Hz2.out rfl (by decide) rfl (.tmp 155) (.tmp 157) rfl Sn rfl ⟨wc.heap.size, 0, none⟩ 1 1 [.bool false] rfl rfl hnew.out (by intro u hu; simp at hu; subst hu; rfl) (by unfold maxLen; omega) (by omega) ?next)
                case next =>
                  intro gk ck wk Sw _ _ _ _
                  replace Sw := Sw.up1.drop.dn6
                  have e1 : (ks ++ [false]).length = ks.length + 1 := by simp
                  have e2 : (ks ++ [false]).map Value.bool = ks.map Value.bool ++ [Value.bool false] := by simp
                  have E1 := Lib.hid e1
                  have E2 := Lib.hid e2
                  have HSw := Lib.hid Sw
                  clear e1 e2 Sw
                  go_wp2
                  go_roundw
                  case rel => exact ⟨k + 1, D.write j (full cc), la.set j cc, _, may.set j (m ++ [cc]), ks ++ [false], vs.set j v, by omega, by omega, by go_num, by rw [E1.out, Hks.out], by rw [E1.out, E2.out, List.map_set]; exact HSw.out, hs1.out, by simp [hvl], Hml2.out⟩
                  case measure => simp [intOf]; omega
              · have Sn := (Sk.alloc #[.bool false] 4).up1
                have hnew := Lib.hid (Sep.cell_new wc (.bool false) 4)
                have hs1 : Hid (KInv m0 (D.write j (full cc)) aa (la.set j cc) (if false then s.set j cc else s) (may.set j (m ++ [cc])) (ks ++ [false])) := Lib.hid (by have := Hstep.out false (fun h => absurd h e3) (fun h => absurd h e4); rw [← Hm.out] at this; exact this)
                clear Hstep
                go_wp2_with (at_builtin; refine Sep.wpList_append Try.underlying36 Hi.out Hz0.out Hz1.out Hz2.out rfl (by decide) rfl (.tmp 155) (.tmp 157) rfl Sn rfl ⟨wc.heap.size, 0, none⟩ 1 1 [.bool false] rfl rfl hnew.out (by intro u hu; simp at hu; subst hu; rfl) (by unfold maxLen; omega) (by omega) ?next)
                case next =>
                  intro gk ck wk Sw _ _ _ _
                  replace Sw := Sw.up1.drop.dn6
                  have e1 : (ks ++ [false]).length = ks.length + 1 := by simp
                  have e2 : (ks ++ [false]).map Value.bool = ks.map Value.bool ++ [Value.bool false] := by simp
                  have E1 := Lib.hid e1
                  have E2 := Lib.hid e2
                  have HSw := Lib.hid Sw
                  clear e1 e2 Sw
                  go_wp2
                  go_roundw
                  case rel => exact ⟨k + 1, D.write j (full cc), la.set j cc, _, may.set j (m ++ [cc]), ks ++ [false], vs.set j v, by omega, by omega, by go_num, by rw [E1.out, Hks.out], by rw [E1.out, E2.out, List.map_set]; exact HSw.out, hs1.out, by simp [hvl], Hml2.out⟩
                  case measure => simp [intOf]; omega
        · by_cases hkl : k < blen
          · have hk50 : ¬ (k : Int) < 30 := by omega
            clear hB
            go_wp2_with fail
            go_meet
            exact ⟨D, la, s, may, ks, vs, S, hI, hvl, by omega, fun v hv => by have := hml v hv; omega⟩
          · have hkl' : ¬ (k : Int) < (blen : Int) := by omega
            clear hB
            go_wp2_with fail
            go_meet
            exact ⟨D, la, s, may, ks, vs, S, hI, hvl, by omega, fun v hv => by have := hml v hv; omega⟩
    case rest =>
      obtain ⟨D, la, s, may, ks, vs, S, hI, hvl, hkl30, hml⟩ := hcut
      obtain ⟨hq, hst⟩ := hI.crash
      replace S := S.up6
      obtain ⟨ka2, kc2, rfl, hkc1, hkc2⟩ := ownsRow_slice S.own
      go_wp2_with fail
      refine (crash_own S (by omega)).mono ?_
      rintro e w6 ⟨rfl, S⟩
      replace S := S.drop
      go_wp2_with fail
      refine (start_sep S).mono ?_
      rw [hst]
      rintro e w7 ⟨rfl, S⟩
      obtain ⟨D2, hD2⟩ : ∃ D2, D2 = (D.crash ks).start := ⟨_, rfl⟩
      rw [← hD2] at S hq
      have hmem := Lib.hid hI.mem
      have hall := Lib.hid hI.all
      have hnone := Lib.hid hI.none
      have hll := hI.ll
      have hal := hI.al
      have hsl := hI.sl
      have hmlen := hI.ml
      clear hI hst hD2 haa hk1
      go_wp2_with fail
      go_loopw [20] (fun i wr => ∃ (k : Nat) (D2 : Dk), k ≤ 4 ∧ i = .int .i64 k ∧ Sep wr [diskA p D2, oldA w, blkA A (aa.map byteV).toArray 37, blkA q (la.map byteV).toArray 37, blkA mb vs.toArray 42, packA (rowsL vs may)] ∧ Quiet D2 (s.map full)) (fun i _ => 4 - (intOf i).toNat)
      case atStart => exact ⟨0, D2, Nat.zero_le _, rfl, S, hq⟩
      case round =>
        clear S hq
        obtain ⟨k, D2, hk, rfl, S, hq⟩ := hrel
        by_cases hlt : k < 4
        · have hk0 : (0 : Int) ≤ (k : Int) := by omega
          have hk1 : (k : Int) < 4 := by omega
          obtain ⟨x, hx⟩ : ∃ x, x = s.getD k 0 := ⟨_, rfl⟩
          have hnow : D2.begun.now k = full x := by rw [hq.now, hx]; simp [List.getD, show k < s.length by omega]
          have hfd := hq.calm.fdown
          have hlenk : k < D2.secs.length := by rw [hq.secs]; simp; omega
          have hq2 := hq.begun
          have hxm : x ∈ may.getD k [] := by rw [hx]; exact hmem.out k hlt
          have hxa : Hid (m0 = 1 → x = la.getD k 0) := Lib.hid (fun h => by rw [hx, hall.out h])
          have hxn : Hid (m0 = 2 → x = aa.getD k 0) := Lib.hid (fun h => by rw [hx, hnone.out h])
          clear hq hx
          go_wp2_with fail
          refine (read_sep S k (k : Int) rfl hlenk hfd (full x) hnow).mono ?_
          rintro e w8 ⟨B, rfl, S⟩
          obtain ⟨D3, hD3⟩ : ∃ D3, D3 = D2.begun := ⟨_, rfl⟩
          rw [← hD3] at S hq2
          clear hnow hfd hlenk hD3
          obtain ⟨row, hrow⟩ : ∃ row, row = may.getD k [] := ⟨_, rfl⟩
          obtain ⟨vr, hvr⟩ : ∃ vr, vr = vs.getD k undef := ⟨_, rfl⟩
          have ej : vs.toArray[k]? = some vr := by rw [hvr]; simp [List.getD, show k < vs.length by omega]
          have hrowA := fun (wr : World) (S : Sep wr [bytesA (.slice (some ⟨B, 0, none⟩) 512 512) 512 (full x), diskA p D3, oldA w, blkA A (aa.map byteV).toArray 37, blkA q (la.map byteV).toArray 37, blkA mb vs.toArray 42, packA (rowsL vs may)]) => (S.up6.row k (by omega) (by omega)).1.bytes
          rw [← hrow, ← hvr] at hrowA
          rw [← hrow] at hxm
          obtain ⟨ra, rc, hvr2, hrl⟩ := ownsRow_slice (hrowA w8 S)
          rw [hvr2] at ej hrowA
          have HrowA := Lib.hid hrowA
          have Hej := Lib.hid ej
          have hrowl : row.length ≤ 31 := hml row (by rw [hrow]; simp [List.getD, show k < may.length by omega])
          clear hrowA ej hvr hrow hvr2
          go_wp2_with fail
          go_loopw [24, 23] (fun i fv wr => ∃ (m : Nat), m ≤ row.length ∧ i = .int .i64 m ∧ fv = .bool ((row.take m).any (· == x)) ∧ Sep wr [bytesA (.slice (some ⟨B, 0, none⟩) 512 512) 512 (full x), diskA p D3, oldA w, blkA A (aa.map byteV).toArray 37, blkA q (la.map byteV).toArray 37, blkA mb vs.toArray 42, packA (rowsL vs may)]) (fun i _ _ => row.length - (intOf i).toNat)
          case atStart => exact ⟨0, Nat.zero_le _, rfl, by simp, S⟩
          case round =>
            clear S
            obtain ⟨m, hm, rfl, rfl, S⟩ := hrel
            have cm := S.up5.blk_cell k
            rw [Hej.out] at cm
            by_cases hmt : m < row.length
            · have hm0' : (0 : Int) ≤ (m : Int) := by omega
              have hm1 : (m : Int) < (row.length : Int) := by omega
              obtain ⟨rg, e, _, hrgl, hrc, _⟩ := (HrowA.out wr S).at (by omega)
              cases e
              have hrcm := hrc m hmt
              obtain ⟨_, e, _, hBl, hBc, _⟩ := S.bytes.at (by omega)
              cases e
              have hB0 := hBc 0 (by omega)
              have hf0 : (full x).getD 0 0 = x := by unfold full; simp [List.getD]
              rw [hf0] at hB0
              obtain ⟨y, hy⟩ : ∃ y, y = row.getD m 0 := ⟨_, rfl⟩
              rw [← hy] at hrcm
              have hany : (row.take (m + 1)).any (· == x) = ((row.take m).any (· == x) || (y == x)) := by
                rw [List.take_succ_eq_append_getElem hmt, List.any_append]
                rw [hy]; simp [List.getD, hmt]
              obtain ⟨f, hf⟩ : ∃ f, f = (row.take m).any (· == x) := ⟨_, rfl⟩
              rw [← hf] at hany ⊢
              have Hany := Lib.hid hany
              clear hrc hBc hf0 hy hany hf
              have HS := Lib.hid S
              cases f with
              | true =>
                clear cm
                have cm := HS.out.up5.blk_cell k
                rw [Hej.out] at cm
                clear S
                go_wp2_with fail
                go_quiet (fail)
                go_wp2
                go_roundw
                case rel => exact ⟨m + 1, by omega, by go_num, by rw [Hany.out]; rfl, by first | exact HS.out.drewN _ | exact HS.out.drew⟩
                case measure => simp [intOf]; omega
              | false =>
                clear S
                by_cases hyx : y = x
                · have hb : (((y.toNat : Nat) : Int) == (x.toNat : Int)) = true := by rw [hyx]; simp
                  have hb2 : (y == x) = true := by rw [hyx]; simp
                  have Hb2 := Lib.hid hb2
                  clear hb2 hyx
                  go_wp2_with fail
                  go_quiet (fail)
                  go_wp2
                  go_roundw
                  case rel => exact ⟨m + 1, by omega, by go_num, by rw [Hany.out, Hb2.out]; rfl, by first | exact HS.out.drewN _ | exact HS.out.drew⟩
                  case measure => simp [intOf]; omega
                · have hb : (((y.toNat : Nat) : Int) == (x.toNat : Int)) = false := by
                    simp only [beq_eq_false_iff_ne]; intro h; exact hyx (UInt8.toNat_inj.1 (by omega))
                  have hb2 : (y == x) = false := by simpa using hyx
                  have Hb2 := Lib.hid hb2
                  clear hb2 hyx
                  go_wp2_with fail
                  go_quiet (fail)
                  go_wp2
                  go_roundw
                  case rel => exact ⟨m + 1, by omega, by go_num, by rw [Hany.out, Hb2.out]; rfl, by first | exact HS.out.drewN _ | exact HS.out.drew⟩
                  case measure => simp [intOf]; omega
            · have hm1 : ¬ (m : Int) < (row.length : Int) := by omega
              have hfnd : (row.take m).any (· == x) = true := by
                rw [List.take_of_length_le (by omega), List.any_eq_true]
                exact ⟨x, hxm, by simp⟩
              rw [hfnd]
              obtain ⟨_, e, _, hBl, hBc, _⟩ := S.bytes.at (by omega)
              cases e
              have hB0 := hBc 0 (by omega)
              have hf0 : (full x).getD 0 0 = x := by unfold full; simp [List.getD]
              rw [hf0] at hB0
              have rB := S.bytes.reads
              have tr : ∀ w', Below wr.heap.size wr w' → (convert 30 9 (.slice (some ⟨B, 0, none⟩) 512 512)).run Try.prog w' = .ok (.string ⟨(full x).toArray⟩) w' := fun w' h => run_string (rB.below h) 512 512 (full_len x)
              have hS := Lib.hid S
              clear hBc hf0 hfnd S rB hxm
              go_wp2_with fail
              go_region_held (fun w' => Below wr.heap.size wr w' ∧ w'.cell? ⟨B, 0, none⟩ = some (.int .u8 (x.toNat : Int))) (first | exact ⟨(Below.refl _ _).drew, hB0⟩ | exact ⟨bgo (Below.refl _ _).drew hb9, (hb9.cell (p := ⟨B, 0, none⟩) hBl).trans hB0⟩) (first | (go_at_call 17; refine (sector_calls _ x _ rfl).mono ?_; rintro e w9 ⟨rfl, hown9, hb9⟩; have t3 : (convert 30 9 (.slice (some ⟨wr.heap.size, 0, none⟩) 512 512)).run Try.prog w9 = _ := run_string hown9.reads 512 512 (full_len x)))
              have S := hS.out.below (bgo (Below.refl _ _).drew hb9)
              have cB := S.bytes.at (by omega)
              obtain ⟨_, e, _, hBl9, hBc, _⟩ := cB
              cases e
              have hB9 := hBc 0 (by omega)
              have hf0 : (full x).getD 0 0 = x := by unfold full; simp [List.getD]
              rw [hf0] at hB9
              have cA := S.up3.blk_cell k
              rw [arr4_get aa hal k hlt] at cA
              have cq := S.up4.blk_cell k
              rw [arr4_get la hll k hlt] at cq
              have HS := Lib.hid S
              clear hS tr t3 hown9 hb9 hBc hf0 S hB0 cm
              have cases3 : (m0 = 1) ∨ (m0 = 2) ∨ ((m0 : Int) == 1) = false ∧ ((m0 : Int) == 2) = false := by
                by_cases h1 : m0 = 1
                · exact .inl h1
                · by_cases h2 : m0 = 2
                  · exact .inr (.inl h2)
                  · exact .inr (.inr ⟨by simp; omega, by simp; omega⟩)
              rcases cases3 with rfl | rfl | ⟨e1, e2⟩
              · rw [← hxa.out rfl] at cq
                go_wp2_with fail
                go_quiet (fail)
                go_wp2
                go_roundw
                case rel => exact ⟨k + 1, D3, by omega, by go_num, (by first | exact (HS.out.drewN _).drop | exact HS.out.drew.drop), hq2⟩
                case measure => simp [intOf]; omega
              · rw [← hxn.out rfl] at cA
                go_wp2_with fail
                go_quiet (fail)
                go_wp2
                go_roundw
                case rel => exact ⟨k + 1, D3, by omega, by go_num, (by first | exact (HS.out.drewN _).drop | exact HS.out.drew.drop), hq2⟩
                case measure => simp [intOf]; omega
              · go_wp2_with fail
                go_quiet (fail)
                go_wp2
                go_roundw
                case rel => exact ⟨k + 1, D3, by omega, by go_num, (by first | exact (HS.out.drewN _).drop | exact HS.out.drew.drop), hq2⟩
                case measure => simp [intOf]; omega
        · have hk1 : ¬ (k : Int) < 4 := by omega
          have hfin := S.drop.old
          clear S
          go_wp2
          go_ret
          exact ⟨rfl, hfin⟩
end Go.Proofs.Ytgicpialopccpaa
