/- The reference's disk: Arm, Write, Barrier. -/
import Derived.Test.YtgicpialopccpaaRd3
import Derived.Deep.RegionLaw
namespace Go.Proofs.Ytgicpialopccpaa
open Go.RowKit
set_option linter.unusedVariables false

theorem infoSt : (Try.prog.info? 9).map (fun i => (i.zero, i.size, i.bytes)) = some (some (.string ⟨#[]⟩), 1, 16) := by kernel_rfl
theorem infoWr : (Try.prog.info? 83).map (fun i => (i.zero, i.size, i.bytes)) = some (some (.agg #[.int .i64 0, .string ⟨#[]⟩]), 2, 24) := by kernel_rfl
section
variable {w : World} {R : List Asn} {r : Nat} {D : Dk}
/-- append of bools that somebody holds. -/
theorem wpList_append_bools {ops : Array Oper} {rest : List Oper} {o : Oper} {a : Act} {Q : Exit → Act → World → Prop} (hgd : o.guard = none) (s x : Operand)
    (ho : o.op = .call { callee := .builtin .append, args := #[s, x], argTypes := #[36, 36] })
    {v : Value} {n : Nat} {xs : List Value} (h : Sep w (ownA 4 1 v n xs :: R)) (hs : a.eval s = v) (ad : Option Addr) (m c : Nat) (l : List Bool) (hx : a.eval x = .slice ad m c) (hc : ad = none → c = 0) (hp : BoolsAt w ad l) (hm : l.length = m) (hb : n + m ≤ 1000000000)
    (hK : ∀ g cap w', Sep w' (ownA 4 1 (.slice g (n + m) cap) (n + m) (xs ++ l.map Value.bool) :: R) → wpList Try.prog ops Q rest (a.put o.dst (.slice g (n + m) cap)) w') : wpList Try.prog ops Q (o :: rest) a w := by
  obtain ⟨i0, hi, hz0, hz1, hz2⟩ := info_parts infoB
  cases ad with
  | none =>
    have hm0 : m = 0 := by
      cases l with
      | nil => simpa using hm.symm
      | cons y p => obtain ⟨b, o, e, _⟩ := hp 0 (by simp); cases e
    subst hm0
    have hl0 : l = [] := by simpa using hm
    subst hl0
    obtain rfl := hc rfl
    have hown := h.own
    have hrun := run_append_owned_none (P := Try.prog) (w := w) 0 36 o.type 4 i0 1 Try.underlying36 hi v n _ hown
    obtain ⟨g, cap, rfl, h1, h2⟩ := ownsRow_slice hown
    refine wpList_plain hgd fun K hK' => ?_
    unfold Oper.wp
    simp [execOp, ho, resolve, invoke, builtin, hs, hx, hrun, Result.andThen]
    exact hK' _ _ (hK g cap w (by simpa using h))
  | some ad =>
    refine Sep.wpList_append Try.underlying36 hi hz0 hz1 hz2 rfl (by decide) hgd s x ho h hs ad m c (l.map Value.bool) hx (by simpa using hm) (fun j u hu => ?_) (fun u hu => by obtain ⟨y, _, rfl⟩ := List.mem_map.1 hu; rfl) (by unfold maxLen; omega) (by omega) (fun g cap w' h1 _ _ _ _ => hK g cap w' h1)
    have hj : j < l.length := by have := (List.getElem?_eq_some_iff.1 hu).1; simpa using this
    obtain ⟨b, o, e, hcj⟩ := hp j hj
    cases e
    rw [addr_add, hcj]
    simp [hj] at hu
    rw [← hu]
    simp [List.getD, hj]
theorem rd_set45 {dv wv kv : Value} (S : Sep w (rdB r D dv wv kv :: R)) (n : Int) (k : List Bool) (v : Int) (hv : v = if 0 ≤ n then n else -1) : Sep (w.setCell ⟨r, 4, none⟩ (.int .i64 v)) (rdB r (D.arm n k) dv wv kv :: R) := by
  refine rd_set4 S (if 0 ≤ n then some (n.toNat, k) else none) v ?_
  rw [hv]
  by_cases h : 0 ≤ n
  · rw [if_pos h]; simp [leftOf, h]; omega
  · rw [if_neg h]; simp [leftOf, h]
set_option maxHeartbeats 1600000 in
theorem rArm_sep {K : Asn} {ka : Option Addr} {kc : Nat} {keep : List Bool} (S : Sep w (rdA r D :: K :: R)) (hK : HoldsB K ka kc keep) (n : Int) (hkn : keep.length ≤ 1000000) :
    Calls Try.prog 35 #[.pointer (some ⟨r, 0, none⟩), .int .i64 n, .slice ka keep.length kc] w fun e w' => e = .returned (.tuple #[]) ∧ Sep w' (rdA r (D.arm n keep) :: K :: R) := by
  obtain ⟨dv, wv, kv, kp, h0, S1⟩ := S.rd_open
  obtain ⟨c0, c1, c2, c3, c4, c5⟩ := S1.rd
  have f4 := S1.blk_free 4
  obtain ⟨v, hv⟩ : ∃ v : Int, v = if 0 ≤ n then n else -1 := ⟨_, rfl⟩
  have hmax : (if n < -1 then (-1 : Int) else n) = v := by rw [hv]; split <;> split <;> omega
  have S2 := rd_set45 S1 n keep v hv
  have S4 : Sep ((w.setCell ⟨r, 4, none⟩ (.int .i64 v)).alloc (.cells #[] 4)) (ownA 4 1 (.slice (some ⟨(w.setCell ⟨r, 4, none⟩ (.int .i64 v)).heap.size, 0, none⟩) 0 0) 0 [] :: rdB r (D.arm n keep) dv wv kv :: strsA dv D.secs :: wtsA wv D.waits :: boolsA kv kp :: K :: R) :=
    S2.newOwn ((Below.refl _ _).alloc (Nat.le_refl _) _) (World.ownsRow_made (w.setCell ⟨r, 4, none⟩ (.int .i64 v)) #[] 0 (Nat.le_refl _) (by unfold maxLen; omega) rfl)
  rw [show (w.setCell ⟨r, 4, none⟩ (.int .i64 v)).heap.size = w.heap.size by simp] at S4
  have hbk := (hK _ _ (S4.pick [5, 0, 1, 2, 3, 4] 6 (by decide) rfl)).1
  have hnn := (hK _ _ (S4.pick [5, 0, 1, 2, 3, 4] 6 (by decide) rfl)).2
  obtain ⟨kn, hkn'⟩ : ∃ kn, kn = keep.length := ⟨_, rfl⟩
  rw [← hkn']
  have HKN := Lib.hid hkn'
  have HS4 := Lib.hid S4
  have HBK := Lib.hid hbk
  have HNN := Lib.hid hnn
  have hkb : kn ≤ 1000000 := by omega
  clear S S1 S2 S4 hbk hnn hkn' hK c0 c1 c2 c3 c5 hv h0 hkn
  go_enter Try.func35, Try.ntmps35
  go_wp2_with (at_builtin; refine wpList_append_bools rfl (.tmp 12) (.tmp 13) rfl HS4.out rfl ka kn kc keep rfl HNN.out HBK.out HKN.out.symm (by omega) ?next)
  case next =>
  intro g cap w3 S5
  obtain ⟨d0, d1, d2, d3, d4, d5⟩ := S5.up1.rd
  have f5 := S5.up1.blk_free 5
  have S6 : Sep (w3.setCell ⟨r, 5, none⟩ (.slice g kn cap)) (rdB r (D.arm n keep) dv wv (.slice g kn cap) :: ownA 4 1 (.slice g kn cap) kn (keep.map Value.bool) :: strsA dv D.secs :: wtsA wv D.waits :: boolsA kv kp :: K :: R) := rd_set5 S5.up1 _
  have S7 : Sep (w3.setCell ⟨r, 5, none⟩ (.slice g kn cap)) (rdA r (D.arm n keep) :: K :: R) := by
    refine Sep.rd_shut (D := D.arm n keep) (dv := dv) (wv := wv) (kv := .slice g kn cap) (kp := keep) (fun x hx => ?_) ?_
    · unfold Dk.arm at hx
      dsimp only at hx
      split at hx
      · cases hx; rfl
      · cases hx
    · unfold boolsA
      rw [← HKN.out]
      exact S6.pick [0, 2, 3, 1, 5] 6 (by decide) rfl
  have HS7 := Lib.hid S7
  clear S5 S6 S7 c4 f4 hmax HS4
  go_wp2
  go_end0
  exact ⟨rfl, HS7.out⟩

/-- What Write answers. -/
theorem write_waits {D : Dk} (i : Nat) (b : List UInt8) (hd : D.fell.down = false) : D.write i b = { D.begun with waits := D.begun.waits ++ [(i, b)] } := by simp [Dk.write, Dk.begun, hd]
set_option maxHeartbeats 1600000 in
theorem rWrite_arg (S : Sep w (rdA r D :: R)) (I : Int) (s : ByteArray) (h : ¬ (0 ≤ I ∧ I < (D.secs.length : Int)) ∨ s.size ≠ 512) (hsn : D.secs.length ≤ 4096) (hss : s.size ≤ 1000000) :
    Calls Try.prog 31 #[.pointer (some ⟨r, 0, none⟩), .int .i64 I, .string s] w fun e w' => e = .returned (.int .i64 1) ∧ Sep w' (rdA r D :: R) := by
  obtain ⟨dv, wv, kv, kp, h0, S1⟩ := S.rd_open
  obtain ⟨c0, _⟩ := S1.rd
  obtain ⟨da, dc, hdv, _⟩ := S1.up1.own_slice
  subst hdv
  have HS := Lib.hid S
  obtain ⟨n, hn⟩ : ∃ n, n = D.secs.length := ⟨_, rfl⟩
  rw [← hn] at c0 h hsn
  have hn0 : (0 : Int) ≤ (n : Int) := by omega
  clear S S1 h0 hn
  by_cases h1 : I < 0
  · clear h
    go_enter Try.func31, Try.ntmps31
    go_wp2
    go_ret
    exact ⟨rfl, HS.out⟩
  · by_cases h2 : (n : Int) ≤ I
    · clear h
      go_enter Try.func31, Try.ntmps31
      go_wp2
      go_ret
      exact ⟨rfl, HS.out⟩
    · have h3 : ((s.size : Int) != 512) = true := by rw [bne_iff_ne]; intro e; have : s.size = 512 := by omega
                                                     rcases h with h | h <;> omega
      clear h
      go_enter Try.func31, Try.ntmps31
      go_wp2
      go_ret
      exact ⟨rfl, HS.out⟩
set_option maxHeartbeats 1600000 in
theorem rWrite_sep (S : Sep w (rdA r D :: R)) (i : Nat) (I : Int) (hI : I = (i : Int)) (hi : i < D.secs.length) (b : List UInt8) (hb : b.length = 512) (ok : D.Ok) (hlb : ∀ x, D.armed = some x → x.1 ≤ 9223372036854775807) (hkp : D.keeps.length ≤ 1000000) (hwn : D.waits.length ≤ 100000) (hsn : D.secs.length ≤ 4096) :
    Calls Try.prog 31 #[.pointer (some ⟨r, 0, none⟩), .int .i64 I, strV b] w fun e w' => e = .returned (.int .i64 (rdE D)) ∧ Sep w' (rdA r (D.write i b) :: R) := by
  subst hI
  obtain ⟨dv, wv, kv, kp, h0, S1⟩ := S.rd_open
  obtain ⟨c0, _⟩ := S1.rd
  obtain ⟨da, dc, hdv, _⟩ := S1.up1.own_slice
  subst hdv
  have HOP := Lib.hid (rOp_sep S ok hlb hkp hwn hsn)
  have hbw := begun_waits D
  obtain ⟨n, hn⟩ : ∃ n, n = D.secs.length := ⟨_, rfl⟩
  rw [← hn] at c0 hi hsn
  have hi0 : (0 : Int) ≤ (i : Int) := by omega
  have hi1 : (i : Int) < (n : Int) := by omega
  have hi2 : ¬ (n : Int) ≤ (i : Int) := by omega
  have HB : Hid (D.begun.waits.length ≤ 100000) := Lib.hid (by omega)
  obtain ⟨sx, hsx⟩ : ∃ sx : ByteArray, strV b = .string sx ∧ sx.size = 512 := ⟨⟨b.toArray⟩, rfl, by rw [← hb]; simp [ByteArray.size]⟩
  obtain ⟨hsx, hsz⟩ := hsx
  rw [hsx]
  have HSX := Lib.hid hsx
  have hsz1 : (sx.size : Int) = 512 := by omega
  clear S S1 h0 hn hbw hlb hsx
  cases hd : D.fell.down with
  | true =>
    have e1 : rdE D = 11 := by simp [rdE, hd]
    have e2 : D.write i b = D.begun := by simp [Dk.write, Dk.begun, hd]
    rw [hd] at HOP
    rw [e1, e2]
    clear hd e1 e2
    go_enter Try.func31, Try.ntmps31
    go_wp2_with fail
    refine HOP.out.mono ?_
    simp only [Bool.not_true]
    rintro e w1 ⟨rfl, S2⟩
    have HS2 := Lib.hid S2
    clear S2
    go_wp2
    go_ret
    exact ⟨rfl, HS2.out⟩
  | false =>
    have e1 : rdE D = 0 := by simp [rdE, hd]
    rw [e1, write_waits i b hd]
    rw [hd] at HOP
    obtain ⟨D2, hD2⟩ : ∃ D2, D2 = D.begun := ⟨_, rfl⟩
    rw [← hD2] at HOP HB ⊢
    have HD2 := Lib.hid hD2
    clear hd e1 hD2
    go_enter Try.func31, Try.ntmps31
    go_wp2_with fail
    refine HOP.out.mono ?_
    simp only [Bool.not_false]
    rintro e w1 ⟨rfl, S2⟩
    obtain ⟨dv2, wv2, kv2, kp2, h02, S3⟩ := S2.rd_open
    obtain ⟨d0, d1, d2, d3, d4, d5⟩ := S3.rd
    have S4 := (S3.alloc #[.int .i64 (i : Int), .string sx] 83)
    have hnew : ∀ j u, [Value.int .i64 (i : Int), .string sx][j]? = some u → (w1.alloc (.cells #[.int .i64 (i : Int), .string sx] 83)).cell? ((⟨w1.heap.size, 0, none⟩ : Addr).add j) = some u := fun j u hu => by
      rw [addr_add, Nat.zero_add, cell_of (heap_alloc_new _ _)]
      simpa using hu
    have HN := Lib.hid hnew
    have HS4 := Lib.hid (S4.pick [3, 1, 2, 4] 5 (by decide) rfl)
    have H02 := Lib.hid h02
    obtain ⟨i0, hi', hz0, hz1, hz2⟩ := info_parts infoWr
    have Hi := Lib.hid hi'
    have Hz0 := Lib.hid hz0
    have Hz1 := Lib.hid hz1
    have Hz2 := Lib.hid hz2
    obtain ⟨wn, hwn2⟩ : ∃ wn, wn = D2.waits.length := ⟨_, rfl⟩
    have HWN := Lib.hid hwn2
    clear S2 S3 S4 hnew h02 hi' hz0 hz1 hz2 hwn2
    go_wp2_with (at_builtin; refine Sep.wpList_append Try.underlying55 Hi.out Hz0.out Hz1.out Hz2.out rfl (by decide) rfl (.tmp 30) (.tmp 34) rfl HS4.out rfl ⟨w1.heap.size, 0, none⟩ 1 1 [.int .i64 (i : Int), .string sx] rfl rfl HN.out (by intro u hu; simp at hu; rcases hu with rfl | rfl <;> rfl) (by have := HB.out; unfold maxLen; omega) (by have := HB.out; omega) ?next)
    case next =>
    intro g cap w3 S5 _ _ _ _
    obtain ⟨x0, x1, x2, x3, x4, x5⟩ := S5.up1.rd
    have f1 := S5.up1.blk_free 1
    have S6 : Sep (w3.setCell ⟨r, 1, none⟩ (.slice g (D2.waits.length + 1) cap)) (rdB r { D2 with waits := D2.waits ++ [(i, b)] } dv2 (.slice g (D2.waits.length + 1) cap) kv2 :: _) := rd_set1 S5.up1 _
    have S7 : Sep (w3.setCell ⟨r, 1, none⟩ (.slice g (D2.waits.length + 1) cap)) (rdA r { D2 with waits := D2.waits ++ [(i, b)] } :: R) := by
      refine Sep.rd_shut (D := { D2 with waits := D2.waits ++ [(i, b)] }) (dv := dv2) (wv := .slice g (D2.waits.length + 1) cap) (kv := kv2) (kp := kp2) H02.out ?_
      unfold wtsA
      rw [List.length_append, List.length_singleton, List.flatMap_append, show [(i, b)].flatMap wtV = [.int .i64 (i : Int), .string sx] by simp [wtV, HSX.out]]
      exact S6.pick [0, 2, 1, 3] 4 (by decide) rfl
    have HS7 := Lib.hid S7
    clear S5 S6 S7 d0 d1 d2 d3 d4 d5 x0 x2 x3 x4 x5
    go_wp2
    go_ret
    exact ⟨rfl, HS7.out⟩

/-- The sectors behind the first k rounds of Barrier. -/
def barN (D : Dk) (k : Nat) : List (List UInt8) := (List.range k).map D.now ++ D.secs.drop k
theorem barN_len (D : Dk) (k : Nat) (hk : k ≤ D.secs.length) : (barN D k).length = D.secs.length := by unfold barN; simp; omega
theorem barN_at (D : Dk) (k : Nat) (hk : k < D.secs.length) : (barN D k).getD k [] = D.secs.getD k [] := by
  have e : (barN D k)[k]? = D.secs[k]? := by unfold barN; rw [List.getElem?_append_right (by simp)]; simp
  simp only [List.getD, e]
theorem barN_set (D : Dk) (k : Nat) (hk : k < D.secs.length) : (barN D k).set k (D.now k) = barN D (k + 1) := by
  have e : D.secs.drop k = D.secs[k] :: D.secs.drop (k + 1) := List.drop_eq_getElem_cons hk
  unfold barN
  rw [List.range_succ, List.map_append, List.set_append_right _ _ (by simp), e]
  simp only [List.length_map, List.length_range, Nat.sub_self, List.set_cons_zero, List.append_assoc]
  rfl
theorem barN_end (D : Dk) : barN D D.secs.length = Dk.flush D.waits D.secs := by
  unfold barN
  rw [List.drop_length, List.append_nil]
  apply List.ext_getElem?
  intro i
  by_cases hi : i < D.secs.length
  · have h := flush_getD D.waits.reverse D.secs i hi
    rw [List.reverse_reverse] at h
    have hl : i < (Dk.flush D.waits D.secs).length := by rw [Dk.flush_len]; exact hi
    have e : (Dk.flush D.waits D.secs)[i]? = some ((Dk.flush D.waits D.secs).getD i []) := by simp [List.getD, hl]
    rw [e, h]
    have e2 : ((List.range D.secs.length).map D.now)[i]? = some (D.now i) := by simp [hi]
    rw [e2]
    rfl
  · rw [List.getElem?_eq_none (by simpa using hi), List.getElem?_eq_none (by rw [Dk.flush_len]; omega)]
theorem now_part (D : Dk) (k : Nat) (hk : k < D.secs.length) : ({ D with secs := barN D k } : Dk).now k = D.now k := by
  unfold Dk.now
  dsimp only
  rw [barN_at D k hk]
set_option maxRecDepth 20000 in
set_option maxHeartbeats 4000000 in
theorem rBarrier_sep (S : Sep w (rdA r D :: R)) (ok : D.Ok) (hlb : ∀ x, D.armed = some x → x.1 ≤ 9223372036854775807) (hkp : D.keeps.length ≤ 1000000) (hwn : D.waits.length ≤ 100000) (hsn : D.secs.length ≤ 4096) :
    Calls Try.prog 32 #[.pointer (some ⟨r, 0, none⟩)] w fun e w' => e = .returned (.int .i64 (rdE D)) ∧ Sep w' (rdA r D.barrier :: R) := by
  have HOP := Lib.hid (rOp_sep S ok hlb hkp hwn hsn)
  have hbw := begun_waits D
  have hbl := begun_len D
  have HB : Hid (D.begun.waits.length ≤ 100000 ∧ D.begun.secs.length ≤ 4096) := Lib.hid (by omega)
  clear S hbw hlb hbl ok hkp hwn hsn
  cases hd : D.fell.down with
  | true =>
    have e1 : rdE D = 11 := by simp [rdE, hd]
    have e2 : D.barrier = D.begun := by simp [Dk.barrier, Dk.begun, hd]
    rw [hd] at HOP
    rw [e1, e2]
    clear hd e1 e2
    go_enter Try.func32, Try.ntmps32
    go_wp2_with fail
    refine HOP.out.mono ?_
    simp only [Bool.not_true]
    rintro e w1 ⟨rfl, S2⟩
    have HS2 := Lib.hid S2
    clear S2
    go_wp2
    go_ret
    exact ⟨rfl, HS2.out⟩
  | false =>
    have e1 : rdE D = 0 := by simp [rdE, hd]
    have e2 : D.barrier = { D.begun with secs := Dk.flush D.begun.waits D.begun.secs, waits := [] } := by simp [Dk.barrier, Dk.begun, hd]
    rw [e1, e2]
    rw [hd] at HOP
    obtain ⟨D2, hD2⟩ : ∃ D2, D2 = D.begun := ⟨_, rfl⟩
    rw [← hD2] at HOP HB ⊢
    clear hd e1 e2 hD2
    go_enter Try.func32, Try.ntmps32
    go_wp2_with fail
    refine HOP.out.mono ?_
    simp only [Bool.not_false]
    rintro e w1 ⟨rfl, S2⟩
    obtain ⟨dv, wv, kv, kp, h0, S3⟩ := S2.rd_open
    obtain ⟨da, dc, hdv, _⟩ := S3.up1.own_slice
    subst hdv
    obtain ⟨sn, hsn⟩ : ∃ sn, sn = D2.secs.length := ⟨_, rfl⟩
    have S4 : Sep w1 (rdB r D2 (.slice da sn dc) wv kv :: ownA 9 1 (.slice da sn dc) sn ((barN D2 0).map strV) :: wtsA wv D2.waits :: boolsA kv kp :: R) := by
      have h := S3
      unfold strsA at h
      rw [← hsn] at h
      exact h
    have HS4 := Lib.hid S4
    have H0 := Lib.hid h0
    have HSN := Lib.hid hsn
    have hsb : (sn : Int) ≤ 4096 := by have := HB.out; omega
    clear S2 S3 S4 h0 hsn HOP
    go_wp2_with fail
    go_loopw [3] (fun i wr => ∃ k : Nat, k ≤ sn ∧ i = .int .i64 (k : Int) ∧ Sep wr (rdB r D2 (.slice da sn dc) wv kv :: ownA 9 1 (.slice da sn dc) sn ((barN D2 k).map strV) :: wtsA wv D2.waits :: boolsA kv kp :: R)) (fun i _ => sn - (intOf i).toNat)
    case atStart => exact ⟨0, Nat.zero_le _, rfl, HS4.out⟩
    case round =>
      obtain ⟨k, hk, rfl, Sr⟩ := hrel
      obtain ⟨c0, _⟩ := Sr.rd
      by_cases hlt : k < sn
      · have hl1 : (k : Int) < (sn : Int) := by omega
        have hk0 : (0 : Int) ≤ (k : Int) := by omega
        obtain ⟨gd, rfl, hdc, hdf⟩ := Sr.up1.own_at (by omega)
        have hdc1 := hdc k (by omega)
        have hdl : k < (barN D2 k).length := by rw [barN_len D2 k (by rw [← HSN.out]; exact hk), ← HSN.out]; exact hlt
        rw [show ((barN D2 k).map strV)[k]? = some (strV ((barN D2 k).getD k [])) by simp [List.getD, hdl]] at hdc1
        have Sr2 : Sep wr (rdB r { D2 with secs := barN D2 k } (.slice (some ⟨gd, 0, none⟩) sn dc) wv kv :: strsA (.slice (some ⟨gd, 0, none⟩) sn dc) (barN D2 k) :: wtsA wv D2.waits :: boolsA kv kp :: R) := by
          unfold strsA
          rw [barN_len D2 k (by rw [← HSN.out]; exact hk), ← HSN.out]
          exact Sr
        have hnow := rNow_calls (D := { D2 with secs := barN D2 k }) (rd_at Sr2.drew) k (k : Int) rfl (by show k < (barN D2 k).length; rw [barN_len D2 k (by rw [← HSN.out]; exact hk), ← HSN.out]; exact hlt) HB.out.1 (by show (barN D2 k).length ≤ 4096; rw [barN_len D2 k (by rw [← HSN.out]; exact hk)]; exact HB.out.2)
        rw [now_part D2 k (by rw [← HSN.out]; exact hlt)] at hnow
        obtain ⟨sx, hsx⟩ : ∃ sx : ByteArray, strV (D2.now k) = .string sx := ⟨_, rfl⟩
        have S5 := (Sr.drew.up1.own_set k (strV (D2.now k))).up1
        rw [List.map_set.symm, barN_set D2 k (by rw [← HSN.out]; exact hlt), hsx] at S5
        have cb5 := S5.rd.1
        rw [hsx] at hnow
        have HN := Lib.hid hnow
        have HS5 := Lib.hid S5
        have hfk := hdf k
        clear Sr Sr2 hnow hsx S5 hdf hdc hdl
        go_wp2_with fail
        go_region_held (fun w' => w'.cell? ⟨r, 0, none⟩ = some (.slice (some ⟨gd, 0, none⟩) sn dc)) (first | assumption | exact c0 | exact cb5)
          ((refine HN.out.mono ?_; rintro e w5 ⟨rfl, rfl⟩))
        all_goals
          go_wp2_with fail
          go_roundw
          case rel => exact ⟨k + 1, by omega, by go_num, HS5.out⟩
          case measure => simp [intOf]; omega
      · obtain rfl : k = sn := by omega
        have hfin : barN D2 k = Dk.flush D2.waits D2.secs := by rw [HSN.out]; exact barN_end D2
        have hfin2 : ownA 9 1 (.slice da k dc) k ((barN D2 k).map strV) = strsA (.slice da k dc) (Dk.flush D2.waits D2.secs) := by
          rw [hfin]
          unfold strsA
          rw [Dk.flush_len, ← HSN.out]
        rw [hfin2] at Sr
        obtain ⟨d0, d1, _⟩ := Sr.rd
        have f1 := Sr.blk_free 1
        have S5 := ((rd_set1 Sr (.slice none 0 0)).up2.drop).nilOwn 83 2
        have S6 : Sep (wr.setCell ⟨r, 1, none⟩ (.slice none 0 0)) (rdA r { D2 with secs := Dk.flush D2.waits D2.secs, waits := [] } :: R) :=
          Sep.rd_shut (D := { D2 with secs := Dk.flush D2.waits D2.secs, waits := [] }) (dv := .slice da k dc) (wv := .slice none 0 0) (kv := kv) (kp := kp) H0.out (S5.pick [1, 2, 0, 3] 4 (by decide) rfl)
        have HS6 := Lib.hid S6
        clear Sr S5 S6 hfin hfin2
        go_wp2
        go_ret
        exact ⟨rfl, HS6.out⟩
end
end Go.Proofs.Ytgicpialopccpaa
