/- DiskApart: the law and the walk. -/
import Derived.Test.YtgicpialopccpaaDiskQ
import Derived.Test.YtgicpialopccpaaNums
import Derived.Deep.RegionHeld
namespace Go.Proofs.Ytgicpialopccpaa
open Go.RowKit

theorem now_write {D : Dk} {n k : Nat} (h : Calm D n k) (at_ : Nat) (b : List UInt8) (i : Nat) : (D.write at_ b).now i = if at_ = i then b else D.now i := by
  have e : D.write at_ b = { D.counted with waits := D.counted.waits ++ [(at_, b)] } := by simp [Dk.write, h.fell, h.down]
  rw [e]
  unfold Dk.now
  simp only [Dk.counted, List.reverse_append, List.reverse_cons, List.reverse_nil, List.nil_append, List.singleton_append, List.find?_cons]
  by_cases e2 : at_ = i
  · subst e2; simp
  · have : (at_ == i) = false := by simpa using e2
    rw [this, if_neg e2]
theorem flush_getD (l : List (Nat × List UInt8)) (s : List (List UInt8)) (i : Nat) (hi : i < s.length) : (Dk.flush l.reverse s).getD i [] = match l.find? (fun x => x.1 == i) with
    | some x => x.2
    | none => s.getD i [] := by
  induction l with
  | nil => rfl
  | cons x l ih =>
    have e : Dk.flush (x :: l).reverse s = (Dk.flush l.reverse s).set x.1 x.2 := by
      unfold Dk.flush; rw [List.reverse_cons, List.foldl_append]; rfl
    rw [e, List.find?_cons]
    by_cases e2 : x.1 = i
    · subst e2
      simp [List.getD, Dk.flush_len, hi]
    · have : (x.1 == i) = false := by simpa using e2
      rw [this]
      simp only [List.getD, List.getElem?_set_ne e2] at ih ⊢
      exact ih
theorem now_barrier {D : Dk} {n k : Nat} (h : Calm D n k) (i : Nat) (hi : i < n) : D.barrier.now i = D.now i := by
  have e : D.barrier = { D.counted with secs := Dk.flush D.counted.waits D.counted.secs, waits := [] } := by simp [Dk.barrier, h.fell, h.down]
  rw [e]
  have hf := flush_getD D.waits.reverse D.secs i (by rw [h.len]; exact hi)
  rw [List.reverse_reverse] at hf
  unfold Dk.now
  exact hf
theorem now_begun {D : Dk} {n k : Nat} (h : Calm D n k) (i : Nat) : D.begun.now i = D.now i := by
  have e : D.begun = D.counted := by simp [Dk.begun, h.fell, h.down]
  rw [e]; rfl
theorem now_new (n i : Nat) (hi : i < n) : (Dk.new n).now i = full 0 := by
  show (Dk.new n).secs.getD i [] = full 0
  simp [Dk.new, List.getD, hi]
  rfl
theorem OwnsB.keeps {w w' : World} {M : Nat → Prop} {base n : Nat} {v : Value} {l : List UInt8} (h : OwnsB w base v n l) (hk : Keeps M w w') : OwnsB w' base v n l :=
  ⟨h.1, h.2.imp id fun ⟨g, cap, cur, e, hb, hh, r⟩ => ⟨g, cap, cur, e, hb, hk.cool hh rfl, r⟩⟩
theorem OwnsB.same {w w' : World} {base n g cap : Nat} {l : List UInt8} (h : OwnsB w base (.slice (some ⟨g, 0, none⟩) n cap) n l) (hk : w'.heap[g]? = w.heap[g]?) : OwnsB w' base (.slice (some ⟨g, 0, none⟩) n cap) n l := by
  refine ⟨h.1, h.2.imp id fun ⟨g2, cap2, cur, e, hb, hh, r⟩ => ⟨g2, cap2, cur, e, hb, ?_, r⟩⟩
  simp only [Value.slice.injEq, Option.some.injEq, Addr.mk.injEq] at e
  obtain ⟨⟨rfl, _⟩, _⟩ := e
  rw [hk]; exact hh
theorem DiskAt.new {w : World} {p : Nat} {D : Dk} {M : Nat → Prop} (h : DiskAt w p D M) : ∀ k, w.heap.size ≤ k → M k := by
  obtain ⟨sb, scs, wv, dvs, av, h'⟩ := h
  exact h'.new
/-- A store into a row that is not the disk's. -/
theorem DiskAt.store {w : World} {p : Nat} {D : Dk} {M : Nat → Prop} (h : DiskAt w p D M) (g i : Nat) (v : Value) (hg : ¬ M g) : DiskAt (w.setCell ⟨g, i, none⟩ v) p D M :=
  h.frame (fun k _ hm => ⟨heap_set_other (fun e => hg (e ▸ hm)), hm⟩) (fun k hk => h.new k (by simpa using hk))
theorem and_u16 (n : Int) (M : Nat) (hM : M < 65536) : ∃ k : Nat, k ≤ M ∧ Go.bits .and .u16 n (M : Int) = (k : Int) := by
  refine ⟨(BitVec.ofInt 16 n).toNat &&& M, Nat.and_le_right, ?_⟩
  unfold Go.bits
  rw [IntKind.wrap_u16, BitVec.ofInt_natCast]
  show ((((BitVec.ofInt 16 n) &&& (BitVec.ofNat 16 M)).toNat : Int)) % _ = _
  rw [BitVec.toNat_and, BitVec.toNat_ofNat, Nat.mod_eq_of_lt (by omega)]
  have : (BitVec.ofInt 16 n).toNat &&& M ≤ M := Nat.and_le_right
  omega

set_option maxRecDepth 20000 in
set_option maxHeartbeats 8000000 in
theorem DiskApart_walk (w : World) (n : Int) (a : Option Addr) (c : Nat) (l : List Int) (len : Nat) (hA : NumsAt .u16 w a l) (hl : l.length = len) (hW : ∀ x ∈ l, 0 ≤ x ∧ x ≤ 65535) :
    Calls Try.prog 5 #[.int .i64 n, .slice a len c] w fun e w' => e = .returned (.bool true) ∧ Below w.heap.size w w' := by
  obtain ⟨k0, hk0, hn0⟩ := and_i64 n 15 (by omega)
  have hn : Go.bits .and .i64 n 15 = (k0 : Int) := hn0
  obtain ⟨N, hN⟩ : ∃ N, N = k0 + 1 := ⟨_, rfl⟩
  have hNe : (1 : Int) + (k0 : Int) = (N : Int) := by omega
  have hN1 : 1 ≤ N ∧ N ≤ 16 := by omega
  obtain ⟨M, hM⟩ : ∃ M : Nat → Prop, M = fun k => w.heap.size ≤ k := ⟨_, rfl⟩
  have hMn : ∀ k, w.heap.size ≤ k → M k := fun k hk => by rw [hM]; exact hk
  have hMd : ∀ k, M k → w.heap.size ≤ k := fun k hk => by rw [hM] at hk; exact hk
  clear hM hn0 hN
  go_enter Try.func5, Try.ntmps5
  go_wp2_with fail
  refine (shown_calls w).mono ?_
  rintro e w1 ⟨rfl, hb1⟩
  have k1 : Keeps M w w1 := Keeps.of_below hb1
  have hM1 : ∀ k, w1.heap.size ≤ k → M k := fun k hk => hMn k (Nat.le_trans hb1.size hk)
  clear hb1
  go_wp2_with fail
  refine (new_calls N (N : Int) rfl w1 M hM1 (by omega) (by omega)).mono ?_
  obtain ⟨p, hp⟩ : ∃ p, p = w1.heap.size + 1 := ⟨_, rfl⟩
  rw [← hp]
  rintro e w2 ⟨rfl, h2, hb2, -⟩
  have k2 := k1.trans (Keeps.of_below hb2)
  have i2 := Calm.new N
  have v2 : ∀ i, i < N → (Dk.new N).now i = full ((List.replicate N (0 : UInt8)).getD i 0) := fun i hi => by
    rw [now_new N i hi]; simp [List.getD, hi]
  obtain ⟨D0, hD0⟩ : ∃ D0, D0 = Dk.new N := ⟨_, rfl⟩
  rw [← hD0] at h2 i2 v2
  clear hp hM1 hb2 k1 hD0
  have hz0 : (N : Int) ≤ 281474976710656 := by omega
  have hz1 : (0 : Int) ≤ (N : Int) := by omega
  go_wp2_with (at_make; refine wpList_make_bytes w2 rfl _ _ rfl .i64 .i64 _ _ N rfl rfl rfl rfl (by omega) ?mk)
  case mk =>
  intro w3 o3 hb3
  obtain ⟨g, hg⟩ : ∃ g, g = w2.heap.size := ⟨_, rfl⟩
  rw [← hg] at o3 ⊢
  have hgl : g < w3.heap.size := World.ownsRow.lt o3 g rfl |>.2
  have h3 := h2.but hb3 g (by omega) hgl
  have k3 := k2.trans (Keeps.of_below hb3)
  have hwg : w.heap.size ≤ g := by have := k2.size; omega
  obtain ⟨M1, hM1⟩ : ∃ M1 : Nat → Prop, M1 = fun k => M k ∧ k ≠ g := ⟨_, rfl⟩
  rw [← hM1] at h3
  have hM1g : ¬ M1 g := by rw [hM1]; exact fun h => h.2 rfl
  have hM1d : ∀ k, M1 k → M k := fun k hk => by rw [hM1] at hk; exact hk.1
  obtain ⟨la0, hla⟩ : ∃ la : List UInt8, la = List.replicate N 0 := ⟨_, rfl⟩
  rw [← hla] at o3 v2
  have V2 := Lib.hid v2
  clear h2 k2 hb3 hM1 hla v2 hg hgl
  go_wp2
  go_loopw [9] (fun i wr => ∃ (k : Nat) (D : Dk) (la : List UInt8), k ≤ len ∧ k ≤ 50 ∧ i = .int .i64 k ∧ DiskAt wr p D M1 ∧ Calm D N k ∧ OwnsB wr g (.slice (some ⟨g, 0, none⟩) N N) N la ∧ Hid (∀ i, i < N → D.now i = full (la.getD i 0)) ∧ Keeps M w wr) (fun i _ => len - (intOf i).toNat)
  case atStart => exact ⟨0, D0, la0, Nat.zero_le _, Nat.zero_le _, rfl, h3, i2, o3, V2, k3⟩
  case round =>
    clear h3 i2 o3 V2 k3
    obtain ⟨k, D, la, hk, hk8, rfl, hD, hI, ho, HV, hkeep⟩ := hrel
    by_cases hlt : k < len ∧ k < 50
    · obtain ⟨hlt1, hlt8⟩ := hlt
      have hlt8i : (k : Int) < 50 := by omega
      obtain ⟨b, o, rfl, hc⟩ := hA k (by omega)
      have hBl := hkeep.below hMd (Nat.le_refl _)
      have hblt : b < w.heap.size := World.block_lt_of_cell? _ _ hc
      have hcr := (hBl.cell (p := ⟨b, o + k, none⟩) hblt).trans hc
      obtain ⟨x, hx⟩ : ∃ x, x = l.getD k 0 := ⟨_, rfl⟩
      have hxb : 0 ≤ x ∧ x ≤ 65535 := by rw [hx]; exact hW _ (by simp [List.getD, show k < l.length by omega])
      rw [← hx] at hcr
      obtain ⟨j, hj, hxj0⟩ := and_u16 x 255 (by omega)
      have hxj : Go.bits .and .u16 x 255 = (j : Int) := hxj0
      obtain ⟨j2, hj2, hxj20⟩ := and_u16 x 128 (by omega)
      have hxj2 : Go.bits .and .u16 x 128 = (j2 : Int) := hxj20
      obtain ⟨at_, hat⟩ : ∃ at_, at_ = j % N := ⟨_, rfl⟩
      have hrem : Int.tmod (j : Int) (N : Int) = (at_ : Int) := by rw [Int.tmod_eq_emod_of_nonneg (by omega), hat]; simp
      have hatN : at_ < N := by rw [hat]; exact Nat.mod_lt _ (by omega)
      obtain ⟨cc, hcc⟩ : ∃ cc : UInt8, cc = UInt8.ofNat (x / 256).toNat := ⟨_, rfl⟩
      have hdiv : x / 256 = (cc.toNat : Int) := by rw [hcc, UInt8.toNat_ofNat']; omega
      have hrd := hI.rd
      have hlenD := hI.len
      have hwt := hI.fwaits
      have hI2 := hI.write at_ (full cc)
      have hV2 : ∀ i, i < N → (D.write at_ (full cc)).now i = full ((la.set at_ cc).getD i 0) := fun i hi => by
        rw [now_write hI at_ (full cc) i]
        have hll := ho.len
        by_cases e : at_ = i
        · subst e; rw [if_pos rfl]; simp [List.getD, show at_ < la.length by omega]
        · rw [if_neg e, HV.out i hi]; simp [List.getD, e]
      have HV2 := Lib.hid hV2
      have hc0 : (0 : Int) ≤ (cc.toNat : Int) := by omega
      have hc1 : (cc.toNat : Int) < 256 := by have := cc.toNat_lt; omega
      have hat0 : (0 : Int) ≤ (at_ : Int) := by omega
      have hat1 : (at_ : Int) < (N : Int) := by omega
      have hN0 : ¬ (N : Int) = 0 := by omega
      clear hc hBl hx hA hxj0 hxj20 hI HV hV2 hcc hat hW
      go_wp2_with fail
      refine (sector_calls wr cc _ rfl).mono ?_
      rintro e ws ⟨rfl, os, hbs⟩
      have hDs := hD.grow hbs
      have hos := ho.below hbs
      have hkeep := hkeep.trans (Keeps.of_below hbs)
      go_wp2_with fail
      refine (write_calls ws p D M1 at_ (at_ : Int) rfl (full cc) _ _ 512 hDs (by omega) os (by omega)).mono ?_
      rw [hrd]
      rintro e wa ⟨rfl, hDa, hka⟩
      have hoa := hos.keeps hka
      have hk2 := hkeep.trans (hka.mono (fun k _ hm => hM1d k hm))
      have hBa := hk2.below hMd (Nat.le_refl _)
      have hca : wa.cell? ⟨b, o + k, none⟩ = some (.int .u16 x) := by
        rw [World.cell?_of_block (w := ws) (hka.block b (by have := hkeep.size; omega) (fun hm => by have := hMd b (hM1d b hm); omega)), World.cell?_of_block (w := wr) (hbs.block b (World.block_lt_of_cell? _ _ hcr))]; exact hcr
      obtain ⟨_, e, _, hgs, hgc, hgf⟩ := hoa.at (by omega)
      cases e
      have hgk := hgc at_ hatN
      have hfk := hgf at_
      have ho2 := hoa.set at_ cc
      obtain ⟨old, hold⟩ : ∃ old : Value, old = .int .u8 (la.getD at_ 0).toNat := ⟨_, rfl⟩
      rw [← hold] at hgk
      have hDb := hDa.store g at_ (.int .u8 cc.toNat) hM1g
      have hk3 : Keeps M w (wa.setCell ⟨g, at_, none⟩ (.int .u8 cc.toNat)) := hk2.setNew (p := ⟨g, at_, none⟩) hwg _
      have hbg : ¬ b = g := by omega
      have hcb : (wa.setCell ⟨g, at_, none⟩ (.int .u8 cc.toNat)).cell? ⟨b, o + k, none⟩ = some (.int .u16 x) := by rw [World.cell?_of_block (w := wa) (heap_set_other hbg)]; exact hca
      obtain ⟨wb, hwb⟩ : ∃ wb, wb = wa.setCell ⟨g, at_, none⟩ (.int .u8 cc.toNat) := ⟨_, rfl⟩
      have Hwb := Lib.hid hwb
      rw [← hwb] at ho2 hDb hk3 hcb
      clear hgc hgf hoa hDa hk2 hBa hos hDs hbs os ho hD hkeep hcr hold hwb
      by_cases hj0 : j2 = 0
      · subst hj0
        go_wp2_with fail
        go_roundw
        case rel => rw [← Hwb.out]; exact ⟨k + 1, _, _, by omega, by omega, by go_num, hDb, hI2, ho2, HV2, hk3⟩
        case measure => simp [intOf]; omega
      · have hj1 : ((j2 : Int) != 0) = true := by simp; omega
        go_wp2_with fail
        rw [← Hwb.out]
        refine (barrier_calls wb p _ M1 hDb).mono ?_
        rintro e wc ⟨rfl, hDc, hkc⟩
        have ho3 := ho2.keeps hkc
        have hk4 := hk3.trans (hkc.mono (fun k _ hm => hM1d k hm))
        have hI3 := hI2.barrier.mono (Nat.zero_le (k + 1))
        have HV3 : Hid (∀ i, i < N → ((D.write at_ (full cc)).barrier).now i = full ((la.set at_ cc).getD i 0)) := Lib.hid (fun i hi => (now_barrier hI2 i hi).trans (HV2.out i hi))
        clear hDb ho2 hk3
        go_wp2
        go_roundw
        case rel => exact ⟨k + 1, _, _, by omega, by omega, by go_num, hDc, hI3, ho3, HV3, hk4⟩
        case measure => simp [intOf]; omega
    · by_cases hkl : k < len
      · have hk50 : ¬ (k : Int) < 50 := by omega
        clear hlt hA
        go_wp2
        go_loopw [11] (fun i wr2 => ∃ (j : Nat) (D2 : Dk), j ≤ N ∧ i = .int .i64 j ∧ DiskAt wr2 p D2 M1 ∧ Calm D2 N 50 ∧ OwnsB wr2 g (.slice (some ⟨g, 0, none⟩) N N) N la ∧ Hid (∀ i, i < N → D2.now i = full (la.getD i 0)) ∧ Keeps M w wr2) (fun i _ => N - (intOf i).toNat)
        case atStart => exact ⟨0, D, Nat.zero_le _, rfl, hD, hI.mono hk8, ho, HV, hkeep⟩
        case round =>
          clear hD hI ho HV hkeep
          obtain ⟨j, D2, hj, rfl, hD, hI, ho, HV, hkeep⟩ := hrel
          by_cases hlt : j < N
          · obtain ⟨x, hx⟩ : ∃ x, x = la.getD j 0 := ⟨_, rfl⟩
            have hj0 : (0 : Int) ≤ (j : Int) := by omega
            have hj1 : (j : Int) < (N : Int) := by omega
            have hnow : D2.begun.now j = full x := by rw [now_begun hI, HV.out j hlt, hx]
            have fd := hI.fdown
            have hlen : j < D2.secs.length := by rw [hI.len]; exact hlt
            have hI2 := hI.begun
            have HV2 : Hid (∀ i, i < N → D2.begun.now i = full (la.getD i 0)) := Lib.hid (fun i hi => (now_begun hI i).trans (HV.out i hi))
            have Hx := Lib.hid hx
            clear hI HV hx
            go_wp2_with fail
            refine (read_ok _ p D2 M1 j (j : Int) rfl hD hlen fd).mono ?_
            rw [hnow]
            rintro e w4 ⟨B, hB, rfl, hB4, h4, k4⟩
            have ho4 := ho.keeps k4
            have k4 := hkeep.trans (k4.mono (fun k _ hm => hM1d k hm))
            have hwB : w.heap.size ≤ B := by have := hkeep.size; omega
            obtain ⟨_, e, _, hgl4, hgc, _⟩ := ho4.at (by omega)
            cases e
            have hgk4 : w4.cell? ⟨g, j, none⟩ = some (.int .u8 (x.toNat : Int)) := by rw [Hx.out]; exact hgc j hlt
            obtain ⟨D3, hD3⟩ : ∃ D3, D3 = D2.begun := ⟨_, rfl⟩
            obtain ⟨M2, hM2⟩ : ∃ M2 : Nat → Prop, M2 = fun k => M1 k ∧ k ≠ B := ⟨_, rfl⟩
            rw [← hD3, ← hM2] at h4
            rw [← hD3] at hI2 HV2
            have hM2B : ¬ M2 B := by rw [hM2]; exact fun h => h.2 rfl
            have hM2d : ∀ k, M2 k → M1 k := fun k hk => by rw [hM2] at hk; exact hk.1
            have rB := row_reads hB4
            have tr : ∀ w', Below w4.heap.size w4 w' → (convert 30 9 (.slice (some ⟨B, 0, none⟩) 512 512)).run Try.prog w' = .ok (.string ⟨(full x).toArray⟩) w' := fun w' h => run_string (rB.below h) 512 512 (full_len x)
            have hB4' := Lib.hid hB4
            have hgB : g ≠ B := fun e => by have := ho.at (by omega); obtain ⟨_, e2, _, h5, _⟩ := this; cases e2; omega
            clear hgc hD hkeep hB hnow fd hlen hD3 hM2 hB4 rB ho
            go_wp2_with fail
            go_region_held (fun w' => Below w4.heap.size w4 w' ∧ w'.cell? ⟨g, j, none⟩ = some (.int .u8 (x.toNat : Int))) (first | exact ⟨(Below.refl _ _).drew, hgk4⟩ | exact ⟨bgo (Below.refl _ _).drew hb9, (hb9.cell (p := ⟨g, j, none⟩) hgl4).trans hgk4⟩) (first | (go_at_call 17; refine (sector_calls _ x _ rfl).mono ?_; rintro e w9 ⟨rfl, hown9, hb9⟩; have t3 : (convert 30 9 (.slice (some ⟨w4.heap.size, 0, none⟩) 512 512)).run Try.prog w9 = _ := run_string hown9.reads 512 512 (full_len x)))
            have hb49 : Below w4.heap.size w4 w9 := bgo (Below.refl _ _).drew hb9
            have h9 := h4.grow hb49
            have ho9 := ho4.below hb49
            have oB := cells_ownsB (base := B) ((hb49.block B (Array.getElem?_eq_some_iff.1 hB4'.out).1).trans hB4'.out) (Nat.le_refl _) (full_len x)
            have k9 := k4.trans (Keeps.of_below hb49)
            clear hb9 hb49 h4 ho4 k4 hB4' tr t3 hown9 hgk4 hgl4
            go_wp2
            go_loopw [14] (fun i wr3 => ∃ (q : Nat) (bl : List UInt8), q ≤ 512 ∧ i = .int .i64 q ∧ DiskAt wr3 p D3 M2 ∧ OwnsB wr3 B (.slice (some ⟨B, 0, none⟩) 512 512) 512 bl ∧ OwnsB wr3 g (.slice (some ⟨g, 0, none⟩) N N) N la ∧ Keeps M w wr3) (fun i _ => 512 - (intOf i).toNat)
            case atStart => exact ⟨0, _, Nat.zero_le _, rfl, h9, oB, ho9, k9⟩
            case round =>
              clear h9 oB ho9 k9
              obtain ⟨q, bl, hq, rfl, hD, oB, ho, hkeep⟩ := hrel
              by_cases hql : q < 512
              · have hqi : (q : Int) < 512 := by omega
                obtain ⟨_, e, _, hBs, hgc, hgf⟩ := oB.at (by omega)
                cases e
                have hgk := hgc q hql
                have hfk := hgf q
                obtain ⟨old, hold⟩ : ∃ old : Value, old = .int .u8 (bl.getD q 0).toNat := ⟨_, rfl⟩
                rw [← hold] at hgk
                have oB2 := oB.set q 99
                have hD2 := hD.store B q (.int .u8 ((99 : UInt8).toNat : Int)) hM2B
                have ho2 := ho.same (heap_set_other (i := q) (v := .int .u8 ((99 : UInt8).toNat : Int)) hgB)
                have hk2 := hkeep.setNew (p := ⟨B, q, none⟩) hwB (.int .u8 ((99 : UInt8).toNat : Int))
                clear hgc hgf oB hD ho hkeep hold
                go_wp2
                go_roundw
                case rel => exact ⟨q + 1, _, by omega, by go_num, hD2, oB2, ho2, hk2⟩
                case measure => simp [intOf]; omega
              · have hqi : ¬ (q : Int) < 512 := by omega
                have hD1 : DiskAt _ p D3 M1 := hD.frame (fun k _ hm => ⟨rfl, hM2d k hm⟩) (fun k hk => hM2d k (hD.new k hk))
                have hnow : D3.begun.now j = full x := by rw [now_begun hI2, HV2.out j hlt, Hx.out]
                have fd := hI2.fdown
                have hlen : j < D3.secs.length := by rw [hI2.len]; exact hlt
                have hI3 := hI2.begun
                have HV3 : Hid (∀ i, i < N → D3.begun.now i = full (la.getD i 0)) := Lib.hid (fun i hi => (now_begun hI2 i).trans (HV2.out i hi))
                clear hD oB hI2 HV2
                go_wp2_with fail
                refine (read_live _ p D3 M1 j (j : Int) rfl hD1 hlen fd (full x) hnow).mono ?_
                rintro e w5 ⟨B2, -, rfl, hB5, h5, k5⟩
                have ho5 := ho.keeps k5
                have k5 := hkeep.trans (k5.mono (fun k _ hm => hM1d k hm))
                obtain ⟨_, e, _, hgl4, hgc, _⟩ := ho5.at (by omega)
                cases e
                have hgk4 : w5.cell? ⟨g, j, none⟩ = some (.int .u8 (x.toNat : Int)) := by rw [Hx.out]; exact hgc j hlt
                have rB := row_reads hB5
                have tr : ∀ w', Below w5.heap.size w5 w' → (convert 30 9 (.slice (some ⟨B2, 0, none⟩) 512 512)).run Try.prog w' = .ok (.string ⟨(full x).toArray⟩) w' := fun w' h => run_string (rB.below h) 512 512 (full_len x)
                clear hgc hD1 hkeep hnow fd hlen hB5 rB ho
                go_wp2_with fail
                go_region_held (fun w' => Below w5.heap.size w5 w' ∧ w'.cell? ⟨g, j, none⟩ = some (.int .u8 (x.toNat : Int))) (first | exact ⟨(Below.refl _ _).drew, hgk4⟩ | exact ⟨bgo (Below.refl _ _).drew hb9, (hb9.cell (p := ⟨g, j, none⟩) hgl4).trans hgk4⟩) (first | (go_at_call 17; refine (sector_calls _ x _ rfl).mono ?_; rintro e w9 ⟨rfl, hown9, hb9⟩; have t3 : (convert 30 9 (.slice (some ⟨w5.heap.size, 0, none⟩) 512 512)).run Try.prog w9 = _ := run_string hown9.reads 512 512 (full_len x)))
                have hb59 : Below w5.heap.size w5 w9 := bgo (Below.refl _ _).drew hb9
                have h9 := h5.grow hb59
                have ho9 := ho5.below hb59
                have k9 := k5.trans (Keeps.of_below hb59)
                clear hb9 hb59 h5 ho5 k5 tr t3 hown9 hgk4 hgl4
                go_wp2
                go_roundw
                case rel => exact ⟨j + 1, _, by omega, by go_num, h9, hI3, ho9, HV3, k9⟩
                case measure => simp [intOf]; omega
          · have hj1 : ¬ (j : Int) < (N : Int) := by omega
            have hfin := hkeep.below hMd (Nat.le_refl _)
            go_wp2
            go_ret
            exact ⟨rfl, hfin⟩
      · have hkl' : ¬ (k : Int) < (len : Int) := by omega
        clear hlt hA
        go_wp2
        go_loopw [11] (fun i wr2 => ∃ (j : Nat) (D2 : Dk), j ≤ N ∧ i = .int .i64 j ∧ DiskAt wr2 p D2 M1 ∧ Calm D2 N 50 ∧ OwnsB wr2 g (.slice (some ⟨g, 0, none⟩) N N) N la ∧ Hid (∀ i, i < N → D2.now i = full (la.getD i 0)) ∧ Keeps M w wr2) (fun i _ => N - (intOf i).toNat)
        case atStart => exact ⟨0, D, Nat.zero_le _, rfl, hD, hI.mono hk8, ho, HV, hkeep⟩
        case round =>
          clear hD hI ho HV hkeep
          obtain ⟨j, D2, hj, rfl, hD, hI, ho, HV, hkeep⟩ := hrel
          by_cases hlt : j < N
          · obtain ⟨x, hx⟩ : ∃ x, x = la.getD j 0 := ⟨_, rfl⟩
            have hj0 : (0 : Int) ≤ (j : Int) := by omega
            have hj1 : (j : Int) < (N : Int) := by omega
            have hnow : D2.begun.now j = full x := by rw [now_begun hI, HV.out j hlt, hx]
            have fd := hI.fdown
            have hlen : j < D2.secs.length := by rw [hI.len]; exact hlt
            have hI2 := hI.begun
            have HV2 : Hid (∀ i, i < N → D2.begun.now i = full (la.getD i 0)) := Lib.hid (fun i hi => (now_begun hI i).trans (HV.out i hi))
            have Hx := Lib.hid hx
            clear hI HV hx
            go_wp2_with fail
            refine (read_ok _ p D2 M1 j (j : Int) rfl hD hlen fd).mono ?_
            rw [hnow]
            rintro e w4 ⟨B, hB, rfl, hB4, h4, k4⟩
            have ho4 := ho.keeps k4
            have k4 := hkeep.trans (k4.mono (fun k _ hm => hM1d k hm))
            have hwB : w.heap.size ≤ B := by have := hkeep.size; omega
            obtain ⟨_, e, _, hgl4, hgc, _⟩ := ho4.at (by omega)
            cases e
            have hgk4 : w4.cell? ⟨g, j, none⟩ = some (.int .u8 (x.toNat : Int)) := by rw [Hx.out]; exact hgc j hlt
            obtain ⟨D3, hD3⟩ : ∃ D3, D3 = D2.begun := ⟨_, rfl⟩
            obtain ⟨M2, hM2⟩ : ∃ M2 : Nat → Prop, M2 = fun k => M1 k ∧ k ≠ B := ⟨_, rfl⟩
            rw [← hD3, ← hM2] at h4
            rw [← hD3] at hI2 HV2
            have hM2B : ¬ M2 B := by rw [hM2]; exact fun h => h.2 rfl
            have hM2d : ∀ k, M2 k → M1 k := fun k hk => by rw [hM2] at hk; exact hk.1
            have rB := row_reads hB4
            have tr : ∀ w', Below w4.heap.size w4 w' → (convert 30 9 (.slice (some ⟨B, 0, none⟩) 512 512)).run Try.prog w' = .ok (.string ⟨(full x).toArray⟩) w' := fun w' h => run_string (rB.below h) 512 512 (full_len x)
            have hB4' := Lib.hid hB4
            have hgB : g ≠ B := fun e => by have := ho.at (by omega); obtain ⟨_, e2, _, h5, _⟩ := this; cases e2; omega
            clear hgc hD hkeep hB hnow fd hlen hD3 hM2 hB4 rB ho
            go_wp2_with fail
            go_region_held (fun w' => Below w4.heap.size w4 w' ∧ w'.cell? ⟨g, j, none⟩ = some (.int .u8 (x.toNat : Int))) (first | exact ⟨(Below.refl _ _).drew, hgk4⟩ | exact ⟨bgo (Below.refl _ _).drew hb9, (hb9.cell (p := ⟨g, j, none⟩) hgl4).trans hgk4⟩) (first | (go_at_call 17; refine (sector_calls _ x _ rfl).mono ?_; rintro e w9 ⟨rfl, hown9, hb9⟩; have t3 : (convert 30 9 (.slice (some ⟨w4.heap.size, 0, none⟩) 512 512)).run Try.prog w9 = _ := run_string hown9.reads 512 512 (full_len x)))
            have hb49 : Below w4.heap.size w4 w9 := bgo (Below.refl _ _).drew hb9
            have h9 := h4.grow hb49
            have ho9 := ho4.below hb49
            have oB := cells_ownsB (base := B) ((hb49.block B (Array.getElem?_eq_some_iff.1 hB4'.out).1).trans hB4'.out) (Nat.le_refl _) (full_len x)
            have k9 := k4.trans (Keeps.of_below hb49)
            clear hb9 hb49 h4 ho4 k4 hB4' tr t3 hown9 hgk4 hgl4
            go_wp2
            go_loopw [14] (fun i wr3 => ∃ (q : Nat) (bl : List UInt8), q ≤ 512 ∧ i = .int .i64 q ∧ DiskAt wr3 p D3 M2 ∧ OwnsB wr3 B (.slice (some ⟨B, 0, none⟩) 512 512) 512 bl ∧ OwnsB wr3 g (.slice (some ⟨g, 0, none⟩) N N) N la ∧ Keeps M w wr3) (fun i _ => 512 - (intOf i).toNat)
            case atStart => exact ⟨0, _, Nat.zero_le _, rfl, h9, oB, ho9, k9⟩
            case round =>
              clear h9 oB ho9 k9
              obtain ⟨q, bl, hq, rfl, hD, oB, ho, hkeep⟩ := hrel
              by_cases hql : q < 512
              · have hqi : (q : Int) < 512 := by omega
                obtain ⟨_, e, _, hBs, hgc, hgf⟩ := oB.at (by omega)
                cases e
                have hgk := hgc q hql
                have hfk := hgf q
                obtain ⟨old, hold⟩ : ∃ old : Value, old = .int .u8 (bl.getD q 0).toNat := ⟨_, rfl⟩
                rw [← hold] at hgk
                have oB2 := oB.set q 99
                have hD2 := hD.store B q (.int .u8 ((99 : UInt8).toNat : Int)) hM2B
                have ho2 := ho.same (heap_set_other (i := q) (v := .int .u8 ((99 : UInt8).toNat : Int)) hgB)
                have hk2 := hkeep.setNew (p := ⟨B, q, none⟩) hwB (.int .u8 ((99 : UInt8).toNat : Int))
                clear hgc hgf oB hD ho hkeep hold
                go_wp2
                go_roundw
                case rel => exact ⟨q + 1, _, by omega, by go_num, hD2, oB2, ho2, hk2⟩
                case measure => simp [intOf]; omega
              · have hqi : ¬ (q : Int) < 512 := by omega
                have hD1 : DiskAt _ p D3 M1 := hD.frame (fun k _ hm => ⟨rfl, hM2d k hm⟩) (fun k hk => hM2d k (hD.new k hk))
                have hnow : D3.begun.now j = full x := by rw [now_begun hI2, HV2.out j hlt, Hx.out]
                have fd := hI2.fdown
                have hlen : j < D3.secs.length := by rw [hI2.len]; exact hlt
                have hI3 := hI2.begun
                have HV3 : Hid (∀ i, i < N → D3.begun.now i = full (la.getD i 0)) := Lib.hid (fun i hi => (now_begun hI2 i).trans (HV2.out i hi))
                clear hD oB hI2 HV2
                go_wp2_with fail
                refine (read_live _ p D3 M1 j (j : Int) rfl hD1 hlen fd (full x) hnow).mono ?_
                rintro e w5 ⟨B2, -, rfl, hB5, h5, k5⟩
                have ho5 := ho.keeps k5
                have k5 := hkeep.trans (k5.mono (fun k _ hm => hM1d k hm))
                obtain ⟨_, e, _, hgl4, hgc, _⟩ := ho5.at (by omega)
                cases e
                have hgk4 : w5.cell? ⟨g, j, none⟩ = some (.int .u8 (x.toNat : Int)) := by rw [Hx.out]; exact hgc j hlt
                have rB := row_reads hB5
                have tr : ∀ w', Below w5.heap.size w5 w' → (convert 30 9 (.slice (some ⟨B2, 0, none⟩) 512 512)).run Try.prog w' = .ok (.string ⟨(full x).toArray⟩) w' := fun w' h => run_string (rB.below h) 512 512 (full_len x)
                clear hgc hD1 hkeep hnow fd hlen hB5 rB ho
                go_wp2_with fail
                go_region_held (fun w' => Below w5.heap.size w5 w' ∧ w'.cell? ⟨g, j, none⟩ = some (.int .u8 (x.toNat : Int))) (first | exact ⟨(Below.refl _ _).drew, hgk4⟩ | exact ⟨bgo (Below.refl _ _).drew hb9, (hb9.cell (p := ⟨g, j, none⟩) hgl4).trans hgk4⟩) (first | (go_at_call 17; refine (sector_calls _ x _ rfl).mono ?_; rintro e w9 ⟨rfl, hown9, hb9⟩; have t3 : (convert 30 9 (.slice (some ⟨w5.heap.size, 0, none⟩) 512 512)).run Try.prog w9 = _ := run_string hown9.reads 512 512 (full_len x)))
                have hb59 : Below w5.heap.size w5 w9 := bgo (Below.refl _ _).drew hb9
                have h9 := h5.grow hb59
                have ho9 := ho5.below hb59
                have k9 := k5.trans (Keeps.of_below hb59)
                clear hb9 hb59 h5 ho5 k5 tr t3 hown9 hgk4 hgl4
                go_wp2
                go_roundw
                case rel => exact ⟨j + 1, _, by omega, by go_num, h9, hI3, ho9, HV3, k9⟩
                case measure => simp [intOf]; omega
          · have hj1 : ¬ (j : Int) < (N : Int) := by omega
            have hfin := hkeep.below hMd (Nat.le_refl _)
            go_wp2
            go_ret
            exact ⟨rfl, hfin⟩
end Go.Proofs.Ytgicpialopccpaa
