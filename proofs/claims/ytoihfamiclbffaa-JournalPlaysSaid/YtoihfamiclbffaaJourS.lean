/- low, number, picture: by assertions. -/
import Derived.Test.YtoihfamiclbffaaDiskSep
import Derived.Test.YtoihfamiclbffaaJourA
import Derived.Test.YtoihfamiclbffaaJourD
import Derived.Test.YtoihfamiclbffaaJourE
import Derived.Test.YtoihfamiclbffaaCrcA
import Derived.Test.YtoihfamiclbffaaJnP
namespace Go.Proofs.Ytoihfamiclbffaa
set_option linter.unusedVariables false
open Go.RowKit

section
variable {w : World} {R : List Asn}
theorem low_sep (S : Sep w R) (n : Nat) (N : Int) (hN : N = (n : Int)) (size : Nat) (Z : Int) (hZ : Z = (size : Int)) (hn : n < 18446744073709551616) (hs : size ≤ 1000) :
    Calls Try.prog 53 #[.int .u64 N, .int .i64 Z] w fun e w' => ∃ g cap, e = .returned (.slice g size cap) ∧ Sep w' (bytesA (.slice g size cap) size (lowL n size) :: R) := by
  subst hN
  exact (low_calls w n size Z hZ hn hs).mono fun e w' ⟨g, cap, he, ho, hb⟩ => ⟨g, cap, he, S.newBytes hb ho⟩
theorem number_sep (S : Sep w R) (a : Option Addr) (m cap : Nat) (l : List UInt8) (hA : BytesAt w a l) (hl : l.length = m) (hm : m ≤ 8) :
    Calls Try.prog 39 #[.slice a m cap] w fun e w' => e = .returned (.int .u64 ((numL l : Nat) : Int)) ∧ Sep w' R :=
  (number_calls w a m cap l hA hl hm).mono fun e w' ⟨he, hb⟩ => ⟨he, S.below hb⟩
/-- What a slice of one's own reads as. -/
theorem Sep.reads {n cap : Nat} {a : Option Addr} {l : List UInt8} (S : Sep w (bytesA (.slice a n cap) n l :: R)) : BytesAt w a l := S.bytes.reads
/-- A slice that lies at or beyond a block. -/
def Fresh (B : Nat) (v : Value) : Prop := ∀ g, v.ownBlock = some g → B ≤ g
theorem fresh_of {base n size : Nat} {v : Value} {xs : List Value} {e : TypeId} (h : w.ownsRow base e size v n xs) : Fresh base v := fun g hg => (h.lt g hg).1
/-- append of bytes to a slice of one's own. -/
theorem run_append_bytes {v : Value} {n : Nat} {l : List UInt8} (h : Sep w (bytesA v n l :: R)) (ty : TypeId) (ad : Option Addr) (m c : Nat) (p : List UInt8) (hc : ad = none → c = 0) (hp : BytesAt w ad p) (hm : p.length = m) (hb : n + m ≤ 1000000000) :
    ∃ g cap w', (Builtin.append_ #[33, 33] ty #[v, .slice ad m c]).run Try.prog w = .ok (.slice g (n + m) cap) w' ∧ Sep w' (bytesA (.slice g (n + m) cap) (n + m) (l ++ p) :: R) ∧
      (∀ B, B ≤ w.heap.size → Fresh B v → Below B w w' ∧ Fresh B (.slice g (n + m) cap)) ∧ n + m ≤ cap ∧ cap ≤ maxLen ∧ (g = none → cap = 0) := by
  obtain ⟨i0, hi, hz0, hz1, hz2⟩ := info_parts info8
  cases ad with
  | none =>
    have hm0 : m = 0 := by
      cases p with
      | nil => simpa using hm.symm
      | cons y p => obtain ⟨b, o, e, _⟩ := hp 0 (by simp); cases e
    subst hm0
    have hp0 : p = [] := by simpa using hm
    subst hp0
    obtain rfl := hc rfl
    have hown := h.own
    have hrun := run_append_owned_none (P := Try.prog) (w := w) 0 33 ty 5 i0 1 Try.underlying33 hi v n _ hown
    obtain ⟨g, cap, rfl, h1, h2⟩ := ownsRow_slice hown
    refine ⟨g, cap, w, by simpa using hrun, by simpa using h, fun B hB hf => ⟨Below.refl _ _, fun g' hg' => hf g' (by simpa [Value.ownBlock] using hg')⟩, by simpa using h1, h2, fun e => ?_⟩
    subst e
    rcases hown.2 with ⟨e, _⟩ | ⟨g2, _, _, e, _⟩
    · simp at e; exact e.2
    · cases e
  | some ad =>
    obtain ⟨v', w', hr, h2, h3, h4, h5⟩ := run_append_own_at (P := Try.prog) w 0 33 ty 5 i0 (.int .u8 0) 1 1 Try.underlying33 hi hz0 hz1 hz2 rfl (by decide) v n _ h.own ad m c (p.map byteV) (by simpa using hm) (by
      intro j u hu
      have hj : j < p.length := by have := (List.getElem?_eq_some_iff.1 hu).1; simpa using this
      obtain ⟨b, o, e, hcj⟩ := hp j hj
      cases e
      rw [addr_add, hcj]
      simp [hj] at hu
      rw [← hu]
      simp [byteV, List.getD, hj]) (by intro u hu; obtain ⟨y, _, rfl⟩ := List.mem_map.1 hu; rfl) (by unfold maxLen; omega) (by omega) (Nat.zero_le _)
    have hS := h.appended h3 h2 h5
    obtain ⟨g, cap, rfl, h6, h7⟩ := ownsRow_slice h2
    rw [← List.map_append] at hS
    refine ⟨g, cap, w', hr, hS, fun B hB hf => ⟨(Below.refl _ _).grown h3 hB hf, fun g' hg' => ?_⟩, h6, h7, fun e => ?_⟩
    · rcases h5 with h5 | h5
      · exact hf g' (h5 ▸ hg')
      · rw [h5] at hg'; cases hg'; exact hB
    · subst e
      rcases h2.2 with ⟨e, _⟩ | ⟨g2, _, _, e, _⟩
      · simp at e; exact e.2
      · cases e
theorem wpList_append_b {ops : Array Oper} {rest : List Oper} {o : Oper} {a : Act} {Q : Exit → Act → World → Prop} (hgd : o.guard = none) (s x : Operand)
    (ho : o.op = .call { callee := .builtin .append, args := #[s, x], argTypes := #[33, 33] })
    {v : Value} {n : Nat} {l : List UInt8} (h : Sep w (bytesA v n l :: R)) (hs : a.eval s = v) (ad : Option Addr) (m c : Nat) (p : List UInt8) (hx : a.eval x = .slice ad m c) (hc : ad = none → c = 0) (hp : BytesAt w ad p) (hm : p.length = m) (hb : n + m ≤ 1000000000)
    (hK : ∀ g cap w', Sep w' (bytesA (.slice g (n + m) cap) (n + m) (l ++ p) :: R) → (∀ B, B ≤ w.heap.size → Fresh B v → Below B w w' ∧ Fresh B (.slice g (n + m) cap)) → n + m ≤ cap → cap ≤ maxLen → (g = none → cap = 0) → wpList Try.prog ops Q rest (a.put o.dst (.slice g (n + m) cap)) w') : wpList Try.prog ops Q (o :: rest) a w := by
  refine wpList_plain hgd fun K hK' => ?_
  obtain ⟨g, cap, w', hrun, h2, h3, h4, h5, h6⟩ := run_append_bytes h o.type ad m c p hc hp hm hb
  unfold Oper.wp
  simp [execOp, ho, resolve, invoke, builtin, hs, hx, hrun, Result.andThen]
  exact hK' _ _ (hK g cap w' h2 h3 h4 h5 h6)
/-- .. and of so many noughts. -/
theorem wpList_append_z {ops : Array Oper} {rest : List Oper} {o : Oper} {a : Act} {Q : Exit → Act → World → Prop} (hgd : o.guard = none) (s x : Operand)
    (ho : o.op = .call { callee := .builtin .append, args := #[s, x], argTypes := #[33, 3] })
    {g n cap : Nat} {l : List UInt8} (h : Sep w (bytesA (.slice (some ⟨g, 0, none⟩) n cap) n l :: R)) (hs : a.eval s = .slice (some ⟨g, 0, none⟩) n cap) (k : Nat) (hx : a.eval x = .int .i64 (k : Int)) (hk : n + k ≤ 1000000)
    (hK : ∀ g' cap' w', Sep w' (bytesA (.slice (some ⟨g', 0, none⟩) (n + k) cap') (n + k) (l ++ List.replicate k 0) :: R) → n + k ≤ cap' → cap' ≤ maxLen → wpList Try.prog ops Q rest (a.put o.dst (.slice (some ⟨g', 0, none⟩) (n + k) cap')) w') : wpList Try.prog ops Q (o :: rest) a w := by
  refine wpList_plain hgd fun K hK' => ?_
  obtain ⟨g', cap', w', hrun, h2, h3, h4⟩ := run_append_zeros w 0 g n cap l h.bytes k hk (Nat.zero_le _) o.type
  unfold Oper.wp
  simp [execOp, ho, resolve, invoke, builtin, hs, hx, hrun, Result.andThen]
  obtain ⟨ga, gc, e, h5, h6⟩ := ownsRow_slice h2
  cases e
  exact hK' _ _ (hK g' cap' w' (h.appended h3 h2 (by rcases h4 with rfl | rfl <;> simp [Value.ownBlock])) h5 h6)
end

set_option maxRecDepth 20000 in
set_option maxHeartbeats 1600000 in
theorem picture_sep {w : World} {R : List Asn} (S : Sep w R) (n : Nat) (N : Int) (hN : N = (n : Int)) (len : Nat) (L : Int) (hL : L = (len : Int)) (hn : n < 18446744073709551616) (hl : len < 18446744073709551616) (ba : Option Addr) (bn bc : Nat) (b : List UInt8) (hb : BytesAt w ba b) (hbl : b.length = bn) (hbn : bn ≤ 900000) (hnil : ba = none → bc = 0) :
    Calls Try.prog 36 #[.int .u64 N, .int .u64 L, .slice ba bn bc] w fun e w' => ∃ g m cap, e = .returned (.slice (some ⟨g, 0, none⟩) m cap) ∧ Sep w' (bytesA (.slice (some ⟨g, 0, none⟩) m cap) m (pic n len b) :: R) ∧ m ≤ cap ∧ cap ≤ maxLen := by
  subst hN hL
  go_enter Try.func36, Try.ntmps36
  go_wp2_with fail
  refine (low_calls w n 8 8 rfl hn (by omega)).mono ?_
  rintro e w1 ⟨g1, c1, rfl, o1, b1⟩
  have S1 := S.newBytes b1 o1
  have B1 := b1
  have f1 := fresh_of o1
  clear o1
  go_wp2_with fail
  refine (low_calls w1 len 4 4 rfl hl (by omega)).mono ?_
  rintro e w2 ⟨g2, c2, rfl, o2, b2⟩
  have S2 := (S1.newBytes b2 o2).up1
  have B2 := bgo B1 b2
  have hr2 := o2.reads
  have n2 : g2 = none → c2 = 0 := fun e => by subst e; obtain ⟨_, e, _⟩ := o2.at (by omega); cases e
  clear o2 S1 b1 b2 B1
  go_wp2_with (at_builtin; refine wpList_append_b rfl (.tmp 9) (.tmp 11) rfl S2 rfl g2 4 c2 (lowL len 4) rfl n2 hr2 (lowL_len _ _) (by omega) ?next)
  case next =>
  intro g3 c3 w3 S3 k3 hc3 hm3 _
  obtain ⟨k3, f3⟩ := k3 w.heap.size B2.size f1
  have B3 := B2.trans k3
  replace S3 := S3.up1.drop
  obtain ⟨pre, hpre⟩ : ∃ pre, pre = preL n len := ⟨_, rfl⟩
  have e3 : lowL n 8 ++ lowL len 4 = pre := hpre.symm
  rw [e3] at S3
  have hprel : pre.length = 12 := by rw [hpre, preL_len]
  have hr3 := S3.bytes.reads
  have Hpre := Lib.hid hpre
  clear S2 k3 B2 hr2 n2 e3 hpre f1
  go_wp2_with fail
  refine (sum_calls g3 12 c3 pre w3 hprel.symm (by omega) hr3).mono ?_
  rintro e w4 ⟨rfl, b4⟩
  have S4 := S3.below b4
  have B4 := bgo B3 b4
  clear S3 B3 b4 hr3
  go_wp2_with fail
  refine (more_at _ _ ba bn bc b w4 rfl hbl (by omega) (hb.below B4)).mono ?_
  rw [Crc.more_append]
  rintro e w5 ⟨rfl, b5⟩
  have S5 := S4.below b5
  have B5 := bgo B4 b5
  clear S4 B4 b5
  obtain ⟨sv, hsv⟩ : ∃ sv, sv = sumN (pre ++ b) := ⟨_, rfl⟩
  have hnum : Crc.num (Crc.more 0#32 (pre ++ b)) = (sv : Int) := by rw [hsv, Crc.num_eq]; rfl
  have hsl : sv < 4294967296 := by rw [hsv]; exact BitVec.isLt _
  have Hsv := Lib.hid hsv
  rw [hnum]
  clear hnum hsv
  have hs0 : (0 : Int) ≤ (sv : Int) := by omega
  have hs1 : (sv : Int) < 18446744073709551616 := by omega
  go_wp2_with fail
  refine (low_calls w5 sv 4 4 rfl (by omega) (by omega)).mono ?_
  rintro e w6 ⟨g6, c6, rfl, o6, b6⟩
  have S6 := (S5.newBytes b6 o6).up1
  have B6 := bgo B5 b6
  have hr6 := o6.reads
  have n6 : g6 = none → c6 = 0 := fun e => by subst e; obtain ⟨_, e, _⟩ := o6.at (by omega); cases e
  clear o6 S5 b6 B5
  go_wp2_with (at_builtin; refine wpList_append_b rfl (.tmp 13) (.tmp 19) rfl S6 rfl g6 4 c6 (lowL sv 4) rfl n6 hr6 (lowL_len _ _) (by omega) ?next)
  case next =>
  intro g7 c7 w7 S7 k7 hc7 hm7 _
  obtain ⟨k7, f7⟩ := k7 w.heap.size B6.size f3
  have B7 := B6.trans k7
  replace S7 := S7.up1.drop
  clear S6 k7 B6 hr6 n6 f3
  have hb7 := hb.below B7
  go_wp2_with (at_builtin; refine wpList_append_b rfl (.tmp 21) (.tmp 22) rfl S7 rfl ba bn bc b rfl hnil hb7 hbl (by omega) ?next)
  case next =>
  intro g8 c8 w8 S8 k8 hc8 hm8 n8
  have o8 := S8.bytes
  obtain ⟨g, rfl⟩ : ∃ g, g8 = some ⟨g, 0, none⟩ := by obtain ⟨g, e, _⟩ := o8.at (by omega); exact ⟨g, e⟩
  clear S7 k8 B7 f7 hb7 n8 o8
  obtain ⟨z, hz⟩ : ∃ z, z = (512 - (16 + bn) % 512) % 512 := ⟨_, rfl⟩
  have hzl : z ≤ 512 := by omega
  have hand : Go.bits .and .i64 (-((16 + bn : Nat) : Int)) 511 = (z : Int) := and511 (16 + bn) z (by omega) hz
  have hand2 : Go.bits .and .i64 (-(16 + (bn : Int))) 511 = (z : Int) := by rw [← hand]; congr 1
  have Hz := Lib.hid hz
  clear hz hand
  go_wp2_with (at_builtin; refine wpList_append_z rfl (.tmp 24) (.tmp 28) rfl S8 rfl z ?hz (by omega) ?next)
  case hz => first | rfl | exact congrArg _ hand2
  case next =>
  intro g9 c9 w9 S9 h9 m9
  have hpic : pic n len b = pre ++ (lowL sv 4 ++ (b ++ List.replicate z 0)) := by
    have e1 : headL n len b = pre ++ lowL sv 4 := by unfold headL; rw [← Hpre.out, Hsv.out]
    rw [pic_eq, e1, List.append_assoc]
    congr 3
    rw [List.length_append, List.length_append, hprel, lowL_len, hbl, Hz.out]
  rw [← hpic] at S9
  clear hpic hand2
  go_wp2
  go_ret
  exact ⟨g9, _, c9, rfl, S9, h9, m9⟩
end Go.Proofs.Ytoihfamiclbffaa
