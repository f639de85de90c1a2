/- low, number, picture: by assertions. made, Room, Next. cuts: what it hands out. -/
import Derived.Test.YtnekelndcpmonaaMg4
import Derived.Test.YtnekelndcpmonaaMg5
import Derived.BigRegion
import Derived.RegionTactic
import Derived.Deep.QuietTactic
import Derived.BigQuiet
set_option linter.all false
namespace Go.Proofs.Ytnekelndcpmonaa
set_option linter.unusedVariables false
open Go.RowKit

section
variable {w : World} {R : List Asn}
theorem low_sep (S : Sep w R) (n : Nat) (N : Int) (hN : N = (n : Int)) (size : Nat) (Z : Int) (hZ : Z = (size : Int)) (hn : n < 18446744073709551616) (hs : size ≤ 1000) :
    Calls Try.prog 65 #[.int .u64 N, .int .i64 Z] w fun e w' => ∃ g cap, e = .returned (.slice g size cap) ∧ Sep w' (bytesA (.slice g size cap) size (lowL n size) :: R) := by
  subst hN
  exact (low_calls w n size Z hZ hn hs).mono fun e w' ⟨g, cap, he, ho, hb⟩ => ⟨g, cap, he, S.newBytes hb ho⟩
theorem number_sep (S : Sep w R) (a : Option Addr) (m cap : Nat) (l : List UInt8) (hA : BytesAt w a l) (hl : l.length = m) (hm : m ≤ 8) :
    Calls Try.prog 57 #[.slice a m cap] w fun e w' => e = .returned (.int .u64 ((numL l : Nat) : Int)) ∧ Sep w' R :=
  (number_calls w a m cap l hA hl hm).mono fun e w' ⟨he, hb⟩ => ⟨he, S.below hb⟩
/-- What a slice of one's own reads as. -/
theorem Sep.reads {n cap : Nat} {a : Option Addr} {l : List UInt8} (S : Sep w (bytesA (.slice a n cap) n l :: R)) : BytesAt w a l := S.bytes.reads
/-- A slice that lies at or beyond a block. -/
def Fresh (B : Nat) (v : Value) : Prop := ∀ g, v.ownBlock = some g → B ≤ g
theorem fresh_of {base n size : Nat} {v : Value} {xs : List Value} {e : TypeId} (h : w.ownsRow base e size v n xs) : Fresh base v := fun g hg => (h.lt g hg).1
/-- append of bytes to a slice of one's own. -/
theorem run_append_bytes {v : Value} {n : Nat} {l : List UInt8} (h : Sep w (bytesA v n l :: R)) (ty : TypeId) (ad : Option Addr) (m c : Nat) (p : List UInt8) (hc : ad = none → c = 0) (hp : BytesAt w ad p) (hm : p.length = m) (hb : n + m ≤ 1000000000) :
    ∃ g cap w', (Builtin.append_ #[31, 31] ty #[v, .slice ad m c]).run Try.prog w = .ok (.slice g (n + m) cap) w' ∧ Sep w' (bytesA (.slice g (n + m) cap) (n + m) (l ++ p) :: R) ∧
      (∀ B, B ≤ w.heap.size → Fresh B v → Below B w w' ∧ Fresh B (.slice g (n + m) cap)) ∧ n + m ≤ cap ∧ cap ≤ maxLen ∧ (g = none → cap = 0) := by
  obtain ⟨i0, hi, hz0, hz1, hz2⟩ := info_parts info8
  cases ad with
  | none =>
    have hm0 : m = 0 := by
      cases p with
      | nil => simpa using hm.symm
      | cons y p => obtain ⟨b, o, e, _⟩ := hp 0 (by simp); cases e
    subst hm0
    have hp0 : p = [] := by simpa using hm
    subst hp0
    obtain rfl := hc rfl
    have hown := h.own
    have hrun := run_append_owned_none (P := Try.prog) (w := w) 0 31 ty 5 i0 1 Try.underlying31 hi v n _ hown
    obtain ⟨g, cap, rfl, h1, h2⟩ := ownsRow_slice hown
    refine ⟨g, cap, w, by simpa using hrun, by simpa using h, fun B hB hf => ⟨Below.refl _ _, fun g' hg' => hf g' (by simpa [Value.ownBlock] using hg')⟩, by simpa using h1, h2, fun e => ?_⟩
    subst e
    rcases hown.2 with ⟨e, _⟩ | ⟨g2, _, _, e, _⟩
    · simp at e; exact e.2
    · cases e
  | some ad =>
    obtain ⟨v', w', hr, h2, h3, h4, h5⟩ := run_append_own_at (P := Try.prog) w 0 31 ty 5 i0 (.int .u8 0) 1 1 Try.underlying31 hi hz0 hz1 hz2 rfl (by decide) v n _ h.own ad m c (p.map byteV) (by simpa using hm) (by
      intro j u hu
      have hj : j < p.length := by have := (List.getElem?_eq_some_iff.1 hu).1; simpa using this
      obtain ⟨b, o, e, hcj⟩ := hp j hj
      cases e
      rw [addr_add, hcj]
      simp [hj] at hu
      rw [← hu]
      simp [byteV, List.getD, hj]) (by intro u hu; obtain ⟨y, _, rfl⟩ := List.mem_map.1 hu; rfl) (by unfold maxLen; omega) (by omega) (Nat.zero_le _)
    have hS := h.appended h3 h2 h5
    obtain ⟨g, cap, rfl, h6, h7⟩ := ownsRow_slice h2
    rw [← List.map_append] at hS
    refine ⟨g, cap, w', hr, hS, fun B hB hf => ⟨(Below.refl _ _).grown h3 hB hf, fun g' hg' => ?_⟩, h6, h7, fun e => ?_⟩
    · rcases h5 with h5 | h5
      · exact hf g' (h5 ▸ hg')
      · rw [h5] at hg'; cases hg'; exact hB
    · subst e
      rcases h2.2 with ⟨e, _⟩ | ⟨g2, _, _, e, _⟩
      · simp at e; exact e.2
      · cases e
theorem wpList_append_b {ops : Array Oper} {rest : List Oper} {o : Oper} {a : Act} {Q : Exit → Act → World → Prop} (hgd : o.guard = none) (s x : Operand)
    (ho : o.op = .call { callee := .builtin .append, args := #[s, x], argTypes := #[31, 31] })
    {v : Value} {n : Nat} {l : List UInt8} (h : Sep w (bytesA v n l :: R)) (hs : a.eval s = v) (ad : Option Addr) (m c : Nat) (p : List UInt8) (hx : a.eval x = .slice ad m c) (hc : ad = none → c = 0) (hp : BytesAt w ad p) (hm : p.length = m) (hb : n + m ≤ 1000000000)
    (hK : ∀ g cap w', Sep w' (bytesA (.slice g (n + m) cap) (n + m) (l ++ p) :: R) → (∀ B, B ≤ w.heap.size → Fresh B v → Below B w w' ∧ Fresh B (.slice g (n + m) cap)) → n + m ≤ cap → cap ≤ maxLen → (g = none → cap = 0) → wpList Try.prog ops Q rest (a.put o.dst (.slice g (n + m) cap)) w') : wpList Try.prog ops Q (o :: rest) a w := by
  refine wpList_plain hgd fun K hK' => ?_
  obtain ⟨g, cap, w', hrun, h2, h3, h4, h5, h6⟩ := run_append_bytes h o.type ad m c p hc hp hm hb
  unfold Oper.wp
  simp [execOp, ho, resolve, invoke, builtin, hs, hx, hrun, Result.andThen]
  exact hK' _ _ (hK g cap w' h2 h3 h4 h5 h6)
/-- .. and of so many noughts. -/
theorem wpList_append_z {ops : Array Oper} {rest : List Oper} {o : Oper} {a : Act} {Q : Exit → Act → World → Prop} (hgd : o.guard = none) (s x : Operand)
    (ho : o.op = .call { callee := .builtin .append, args := #[s, x], argTypes := #[31, 3] })
    {g n cap : Nat} {l : List UInt8} (h : Sep w (bytesA (.slice (some ⟨g, 0, none⟩) n cap) n l :: R)) (hs : a.eval s = .slice (some ⟨g, 0, none⟩) n cap) (k : Nat) (hx : a.eval x = .int .i64 (k : Int)) (hk : n + k ≤ 1000000)
    (hK : ∀ g' cap' w', Sep w' (bytesA (.slice (some ⟨g', 0, none⟩) (n + k) cap') (n + k) (l ++ List.replicate k 0) :: R) → n + k ≤ cap' → cap' ≤ maxLen → wpList Try.prog ops Q rest (a.put o.dst (.slice (some ⟨g', 0, none⟩) (n + k) cap')) w') : wpList Try.prog ops Q (o :: rest) a w := by
  refine wpList_plain hgd fun K hK' => ?_
  obtain ⟨g', cap', w', hrun, h2, h3, h4⟩ := run_append_zeros w 0 g n cap l h.bytes k hk (Nat.zero_le _) o.type
  unfold Oper.wp
  simp [execOp, ho, resolve, invoke, builtin, hs, hx, hrun, Result.andThen]
  obtain ⟨ga, gc, e, h5, h6⟩ := ownsRow_slice h2
  cases e
  exact hK' _ _ (hK g' cap' w' (h.appended h3 h2 (by rcases h4 with rfl | rfl <;> simp [Value.ownBlock])) h5 h6)
end

set_option maxRecDepth 20000 in
set_option maxHeartbeats 1600000 in
theorem picture_sep {w : World} {R : List Asn} (S : Sep w R) (n : Nat) (N : Int) (hN : N = (n : Int)) (len : Nat) (L : Int) (hL : L = (len : Int)) (hn : n < 18446744073709551616) (hl : len < 18446744073709551616) (ba : Option Addr) (bn bc : Nat) (b : List UInt8) (hb : BytesAt w ba b) (hbl : b.length = bn) (hbn : bn ≤ 900000) (hnil : ba = none → bc = 0) :
    Calls Try.prog 53 #[.int .u64 N, .int .u64 L, .slice ba bn bc] w fun e w' => ∃ g m cap, e = .returned (.slice (some ⟨g, 0, none⟩) m cap) ∧ Sep w' (bytesA (.slice (some ⟨g, 0, none⟩) m cap) m (pic n len b) :: R) ∧ m ≤ cap ∧ cap ≤ maxLen := by
  subst hN hL
  go_enter Try.func53, Try.ntmps53
  go_wp2_with fail
  refine (low_calls w n 8 8 rfl hn (by omega)).mono ?_
  rintro e w1 ⟨g1, c1, rfl, o1, b1⟩
  have S1 := S.newBytes b1 o1
  have B1 := b1
  have f1 := fresh_of o1
  clear o1
  go_wp2_with fail
  refine (low_calls w1 len 4 4 rfl hl (by omega)).mono ?_
  rintro e w2 ⟨g2, c2, rfl, o2, b2⟩
  have S2 := (S1.newBytes b2 o2).up1
  have B2 := bgo B1 b2
  have hr2 := o2.reads
  have n2 : g2 = none → c2 = 0 := fun e => by subst e; obtain ⟨_, e, _⟩ := o2.at (by omega); cases e
  clear o2 S1 b1 b2 B1
  go_wp2_with (at_builtin; refine wpList_append_b rfl (.tmp 9) (.tmp 11) rfl S2 rfl g2 4 c2 (lowL len 4) rfl n2 hr2 (lowL_len _ _) (by omega) ?next)
  case next =>
  intro g3 c3 w3 S3 k3 hc3 hm3 _
  obtain ⟨k3, f3⟩ := k3 w.heap.size B2.size f1
  have B3 := B2.trans k3
  replace S3 := S3.up1.drop
  obtain ⟨pre, hpre⟩ : ∃ pre, pre = preL n len := ⟨_, rfl⟩
  have e3 : lowL n 8 ++ lowL len 4 = pre := hpre.symm
  rw [e3] at S3
  have hprel : pre.length = 12 := by rw [hpre, preL_len]
  have hr3 := S3.bytes.reads
  have Hpre := Lib.hid hpre
  clear S2 k3 B2 hr2 n2 e3 hpre f1
  go_wp2_with fail
  refine (sum_calls g3 12 c3 pre w3 hprel.symm (by omega) hr3).mono ?_
  rintro e w4 ⟨rfl, b4⟩
  have S4 := S3.below b4
  have B4 := bgo B3 b4
  clear S3 B3 b4 hr3
  go_wp2_with fail
  refine (more_at _ _ ba bn bc b w4 rfl hbl (by omega) (hb.below B4)).mono ?_
  rw [Crc.more_append]
  rintro e w5 ⟨rfl, b5⟩
  have S5 := S4.below b5
  have B5 := bgo B4 b5
  clear S4 B4 b5
  obtain ⟨sv, hsv⟩ : ∃ sv, sv = sumN (pre ++ b) := ⟨_, rfl⟩
  have hnum : Crc.num (Crc.more 0#32 (pre ++ b)) = (sv : Int) := by rw [hsv, Crc.num_eq]; rfl
  have hsl : sv < 4294967296 := by rw [hsv]; exact BitVec.isLt _
  have Hsv := Lib.hid hsv
  rw [hnum]
  clear hnum hsv
  have hs0 : (0 : Int) ≤ (sv : Int) := by omega
  have hs1 : (sv : Int) < 18446744073709551616 := by omega
  go_wp2_with fail
  refine (low_calls w5 sv 4 4 rfl (by omega) (by omega)).mono ?_
  rintro e w6 ⟨g6, c6, rfl, o6, b6⟩
  have S6 := (S5.newBytes b6 o6).up1
  have B6 := bgo B5 b6
  have hr6 := o6.reads
  have n6 : g6 = none → c6 = 0 := fun e => by subst e; obtain ⟨_, e, _⟩ := o6.at (by omega); cases e
  clear o6 S5 b6 B5
  go_wp2_with (at_builtin; refine wpList_append_b rfl (.tmp 13) (.tmp 19) rfl S6 rfl g6 4 c6 (lowL sv 4) rfl n6 hr6 (lowL_len _ _) (by omega) ?next)
  case next =>
  intro g7 c7 w7 S7 k7 hc7 hm7 _
  obtain ⟨k7, f7⟩ := k7 w.heap.size B6.size f3
  have B7 := B6.trans k7
  replace S7 := S7.up1.drop
  clear S6 k7 B6 hr6 n6 f3
  have hb7 := hb.below B7
  go_wp2_with (at_builtin; refine wpList_append_b rfl (.tmp 21) (.tmp 22) rfl S7 rfl ba bn bc b rfl hnil hb7 hbl (by omega) ?next)
  case next =>
  intro g8 c8 w8 S8 k8 hc8 hm8 n8
  have o8 := S8.bytes
  obtain ⟨g, rfl⟩ : ∃ g, g8 = some ⟨g, 0, none⟩ := by obtain ⟨g, e, _⟩ := o8.at (by omega); exact ⟨g, e⟩
  clear S7 k8 B7 f7 hb7 n8 o8
  obtain ⟨z, hz⟩ : ∃ z, z = (512 - (16 + bn) % 512) % 512 := ⟨_, rfl⟩
  have hzl : z ≤ 512 := by omega
  have hand : Go.bits .and .i64 (-((16 + bn : Nat) : Int)) 511 = (z : Int) := and511 (16 + bn) z (by omega) hz
  have hand2 : Go.bits .and .i64 (-(16 + (bn : Int))) 511 = (z : Int) := by rw [← hand]; congr 1
  have Hz := Lib.hid hz
  clear hz hand
  go_wp2_with (at_builtin; refine wpList_append_z rfl (.tmp 24) (.tmp 28) rfl S8 rfl z ?hz (by omega) ?next)
  case hz => first | rfl | exact congrArg _ hand2
  case next =>
  intro g9 c9 w9 S9 h9 m9
  have hpic : pic n len b = pre ++ (lowL sv 4 ++ (b ++ List.replicate z 0)) := by
    have e1 : headL n len b = pre ++ lowL sv 4 := by unfold headL; rw [← Hpre.out, Hsv.out]
    rw [pic_eq, e1, List.append_assoc]
    congr 3
    rw [List.length_append, List.length_append, hprel, lowL_len, hbl, Hz.out]
  rw [← hpic] at S9
  clear hpic hand2
  go_wp2
  go_ret
  exact ⟨g9, _, c9, rfl, S9, h9, m9⟩
end Go.Proofs.Ytnekelndcpmonaa
namespace Go.Proofs.Ytnekelndcpmonaa
open Go.RowKit

/-- A journal's cells. -/
def jnC (p : Nat) (j : Jn) : Array Value := #[.pointer (some ⟨p, 0, none⟩), .int .i64 (j.from_ : Int), .int .i64 (j.size : Int), .int .i64 (j.used : Int), .int .u64 (j.next : Int), .bool j.broken]
/-- A journal, on the disk at p. -/
def jnA (q p : Nat) (j : Jn) : Asn := blkA q (jnC p j) 93

section
variable {w : World} {R : List Asn} {q p : Nat} {j : Jn} {D : Dk}
theorem Sep.jn (S : Sep w (jnA q p j :: R)) : w.cell? ⟨q, 0, none⟩ = some (.pointer (some ⟨p, 0, none⟩)) ∧ w.cell? ⟨q, 1, none⟩ = some (.int .i64 (j.from_ : Int)) ∧ w.cell? ⟨q, 2, none⟩ = some (.int .i64 (j.size : Int)) ∧
    w.cell? ⟨q, 3, none⟩ = some (.int .i64 (j.used : Int)) ∧ w.cell? ⟨q, 4, none⟩ = some (.int .u64 (j.next : Int)) ∧ w.cell? ⟨q, 5, none⟩ = some (.bool j.broken) ∧ (∀ i, w.frozen? ⟨q, i, none⟩ = false) ∧ q < w.heap.size :=
  ⟨S.blk_cell 0, S.blk_cell 1, S.blk_cell 2, S.blk_cell 3, S.blk_cell 4, S.blk_cell 5, S.blk_free, S.blk_lt⟩
theorem Sep.jn_used (S : Sep w (jnA q p j :: R)) (u : Nat) : Sep (w.setCell ⟨q, 3, none⟩ (.int .i64 (u : Int))) (jnA q p { j with used := u } :: R) := S.blk_set 3 _
theorem Sep.jn_next (S : Sep w (jnA q p j :: R)) (u : Nat) : Sep (w.setCell ⟨q, 4, none⟩ (.int .u64 (u : Int))) (jnA q p { j with next := u } :: R) := S.blk_set 4 _
theorem Sep.jn_broken (S : Sep w (jnA q p j :: R)) (b : Bool) : Sep (w.setCell ⟨q, 5, none⟩ (.bool b)) (jnA q p { j with broken := b } :: R) := S.blk_set 5 _

set_option maxHeartbeats 1600000 in
theorem made_sep (S : Sep w (diskA p D :: R)) (from_ size : Nat) (F Z : Int) (hF : F = (from_ : Int)) (hZ : Z = (size : Int)) (h2 : 2 ≤ size) (hs : from_ + size ≤ D.secs.length) :
    Calls Try.prog 47 #[.pointer (some ⟨p, 0, none⟩), .int .i64 F, .int .i64 Z] w fun e w' => ∃ q, e = .returned (.tuple #[.pointer (some ⟨q, 0, none⟩), .int .i64 0]) ∧ Sep w' (jnA q p ⟨from_, size, 0, 1, false⟩ :: diskA p D :: R) := by
  subst hF hZ
  obtain ⟨_, hl1, hl2⟩ := dk_len S
  obtain ⟨n, hn⟩ : ∃ n, n = D.secs.length := ⟨_, rfl⟩
  have S2 := S.alloc (jnC p ⟨from_, size, 0, 1, false⟩) 93
  have hsec := sectors_sep S
  rw [← hn] at hsec hs hl1 hl2
  clear hn
  have HS := Lib.hid hsec
  have l1 : ¬ (size : Int) < 2 := by omega
  have l2 : ¬ (from_ : Int) < 0 := by omega
  have l3 : ¬ (n : Int) < (size : Int) := by omega
  have l4 : ¬ (n : Int) - (size : Int) < (from_ : Int) := by omega
  clear hsec
  go_enter Try.func47, Try.ntmps47
  go_wp2_with (first | (go_at_call 41; refine HS.out.mono ?_; rintro e w' ⟨rfl, rfl⟩))
  go_ret2
  exact ⟨_, rfl, S2⟩
set_option maxHeartbeats 1600000 in
theorem made_not (S : Sep w (diskA p D :: R)) (F Z : Int) (h : ¬ (2 ≤ Z ∧ 0 ≤ F ∧ Z ≤ (D.secs.length : Int) ∧ F ≤ (D.secs.length : Int) - Z)) :
    Calls Try.prog 47 #[.pointer (some ⟨p, 0, none⟩), .int .i64 F, .int .i64 Z] w fun e w' => e = .returned (.tuple #[.pointer none, .int .i64 1]) ∧ w = w' := by
  obtain ⟨_, hl1, hl2⟩ := dk_len S
  obtain ⟨n, hn⟩ : ∃ n, n = D.secs.length := ⟨_, rfl⟩
  have hsec := sectors_sep S
  rw [← hn] at hsec h hl1 hl2
  clear hn
  have HS := Lib.hid hsec
  have H := Lib.hid h
  clear hsec h
  by_cases l1 : Z < 2
  · go_enter Try.func47, Try.ntmps47
    go_wp2_with (first | (go_at_call 41; refine HS.out.mono ?_; rintro e w' ⟨rfl, rfl⟩))
    go_ret2
    exact ⟨rfl, rfl⟩
  · by_cases l2 : F < 0
    · go_enter Try.func47, Try.ntmps47
      go_wp2_with (first | (go_at_call 41; refine HS.out.mono ?_; rintro e w' ⟨rfl, rfl⟩))
      go_ret2
      exact ⟨rfl, rfl⟩
    · by_cases l3 : (n : Int) < Z
      · go_enter Try.func47, Try.ntmps47
        go_wp2_with (first | (go_at_call 41; refine HS.out.mono ?_; rintro e w' ⟨rfl, rfl⟩))
        go_ret2
        exact ⟨rfl, rfl⟩
      · have l4 : (n : Int) - Z < F := by
          have := H.out
          omega
        have z0 : 0 ≤ Z := by omega
        go_enter Try.func47, Try.ntmps47
        go_wp2_with (first | (go_at_call 41; refine HS.out.mono ?_; rintro e w' ⟨rfl, rfl⟩))
        go_ret2
        exact ⟨rfl, rfl⟩
set_option maxHeartbeats 1600000 in
theorem room_sep (S : Sep w (jnA q p j :: R)) (hs : j.size ≤ 4096) (hu : j.used ≤ j.size) :
    Calls Try.prog 55 #[.pointer (some ⟨q, 0, none⟩)] w fun e w' => e = .returned (.int .i64 (roomJ j)) ∧ w' = w.drew := by
  obtain ⟨c0, c1, c2, c3, c4, c5, _, hq⟩ := S.jn
  have HS := Lib.hid S
  clear S
  obtain ⟨r, hr⟩ : ∃ r : Int, r = roomJ j := ⟨_, rfl⟩
  have hr2 : r = max (-1) (((j.size : Int) - (j.used : Int)) * 512 - 16) := hr
  rw [← hr]
  clear hr
  have Hr := Lib.hid hr2
  clear hr2
  go_enter Try.func55, Try.ntmps55
  go_wp2
  go_region
  have e : (if -1 < ((j.size : Int) - (j.used : Int)) * 512 - 16 then ((j.size : Int) - (j.used : Int)) * 512 - 16 else -1) = r := by
    rw [Hr.out]; split <;> omega
  rw [e]
  clear e c0 c1 c2 c3 c4 c5
  go_wp2
  go_ret
  exact ⟨rfl, rfl⟩
end
end Go.Proofs.Ytnekelndcpmonaa
namespace Go.Proofs.Ytnekelndcpmonaa
open Go.RowKit Go.Shelf
attribute [local go_sem] Oper.semAt_some

/-- The length of the slice in a box. -/
def lenOfV : Option Value → Nat
  | some (.slice _ n _) => n
  | _ => 0
def lenAt (w : World) (B : Nat) : Nat := lenOfV (w.cell? ⟨B, 0, none⟩)
/-- What has come when k rounds are over. -/
def cutsTo (m k : Nat) : List (Fin m) := (List.finRange m).take k
theorem cutsTo_len {m k : Nat} (h : k ≤ m) : (cutsTo m k).length = k := by simp [cutsTo]; omega
theorem cutsTo_succ {m k : Nat} (h : k < m) : cutsTo m (k + 1) = cutsTo m k ++ [⟨k, h⟩] := by
  unfold cutsTo
  rw [List.take_succ_eq_append_getElem (by simpa using h)]
  congr 1
  simp

set_option maxRecDepth 100000 in
set_option maxHeartbeats 2000000 in
theorem cuts1_box (F : Fence) (n : Nat) (h59 : F.fn 72) (hro : F.round = none) (hn : 1 ≤ n) (Bp g o m cap : Nat) (w : World) (a : Option Addr)
    (hbox : w.heap[Bp]? = some (.cells #[.slice a (512 * m) cap] 31 (0, 0))) (ha : 0 < m → a = some ⟨g, o, none⟩) (hcap : 512 * m ≤ cap) (hcm : cap ≤ 9223372036854775807) :
    SeqBox F n Try.prog 72 #[.pointer (some ⟨Bp, 0, none⟩)] (fun x : Fin m => #[Value.slice (some ⟨g, o + 512 * x.1, none⟩) 512 (cap - 512 * x.1)]) Bp (fun ys => ys = cutsTo m m) (fun pre => ∃ k, k ≤ m ∧ pre = cutsTo m k) m w := by
  intro l J Jx W hW hJb hY h0
  refine callsIn_of_wp Try.func72 rfl h59 ?_ hro
  simp only [Try.ntmps72, List.size_toArray, List.length_cons, List.length_nil, Nat.reduceAdd, Nat.reduceSub, Array.replicate_succ, Array.replicate_zero, List.push_toArray, List.append_toArray, List.nil_append, List.cons_append]
  gi_wp2
  have hb0 : W.heap[Bp]? = some (.cells #[.slice a (512 * m) cap] 31 (0, 0)) := hW.trans hbox
  gi_loopw [] (fun wr => ∃ (k r cp : Nat) (av : Option Addr), k ≤ m ∧ r = 512 * (m - k) ∧ J (cutsTo m k) wr ∧ wr.heap[Bp]? = some (.cells #[.slice av r cp] 31 (0, 0)) ∧ (k < m → av = some ⟨g, o + 512 * k, none⟩ ∧ cp = cap - 512 * k))
    (fun wr => lenAt wr Bp)
  case atStart => exact ⟨0, 512 * m, cap, a, Nat.zero_le _, by omega, h0, hb0, fun h => ⟨by simpa using ha h, by omega⟩⟩
  case round =>
    obtain ⟨k, r, cp, av, hk, hr, hJs, hb, hav⟩ := hrel
    have hcB : wr.cell? ⟨Bp, 0, none⟩ = some (.slice av r cp) := cell_of hb
    have hlen : lenAt wr Bp = r := by unfold lenAt; rw [hcB]; rfl
    have Hlen := Lib.hid hlen
    clear hlen hb0 hbox hW
    by_cases hlt : k < m
    · obtain ⟨rfl, hcp⟩ := hav hlt
      obtain ⟨fn, tmps, assign, body, hy, hR⟩ := hY _ ⟨k, hlt⟩ wr hJs (by rw [cutsTo_len hk]; exact hlt)
      dsimp only at hy
      rw [← hcp] at hy
      have hr0 : (0 : Int) < (r : Int) := by omega
      have hr1 : (512 : Int) ≤ (r : Int) := by omega
      have hc1 : (512 : Int) ≤ (cp : Int) := by omega
      have hrc : (r : Int) ≤ (cp : Int) := by omega
      have hrn : 512 ≤ r := by omega
      have hcn : 512 ≤ cp := by omega
      have Hr := Lib.hid hr
      have Hcp := Lib.hid hcp
      clear hr hcp hav
      gi_wp2
      refine hR.mono ?_
      rintro e W3 (⟨rfl, hJ3, hk3⟩ | ⟨rfl, hJx3⟩)
      · have hb3 : W3.heap[Bp]? = some (.cells #[.slice (some ⟨g, o + 512 * k, none⟩) r cp] 31 (0, 0)) := hk3.trans hb
        have hc3 : W3.cell? ⟨Bp, 0, none⟩ = some (.slice (some ⟨g, o + 512 * k, none⟩) r cp) := cell_of hb3
        have hf3 : W3.frozen? ⟨Bp, 0, none⟩ = false := free_of hb3
        have Hb3 := Lib.hid hb3
        clear hb hb3 hk3 hcB
        by_cases he : cp = 512
        · subst he
          gi_wp2
          go_roundw
          case rel =>
            have hkm : k + 1 = m := by have := Hr.out; have := Hcp.out; omega
            exact ⟨k + 1, r - 512, 0, some ⟨g, o + 512 * k, none⟩, by omega, by have := Hr.out; omega, by rw [cutsTo_succ hlt]; exact hJb _ _ _ hJ3, heap_set Hb3.out, fun h => by omega⟩
          case measure =>
            rw [Hlen.out]
            unfold lenAt
            rw [cell_of (heap_set Hb3.out)]
            simp [lenOfV]
            omega
        · gi_wp2
          go_roundw
          case rel =>
            exact ⟨k + 1, r - 512, cp - 512, some ⟨g, o + 512 * k + 512, none⟩, by omega, by have := Hr.out; omega, by rw [cutsTo_succ hlt]; exact hJb _ _ _ hJ3, heap_set Hb3.out, fun h => ⟨by congr 2, by have := Hcp.out; omega⟩⟩
          case measure =>
            rw [Hlen.out]
            unfold lenAt
            rw [cell_of (heap_set Hb3.out)]
            simp [lenOfV]
            omega
      · gi_wp2
        go_end0
        exact ⟨⟨_, rfl⟩, .inr ⟨_, ⟨k + 1, by omega, (cutsTo_succ hlt).symm⟩, hJx3⟩⟩
    · obtain rfl : k = m := by omega
      obtain rfl : r = 0 := by omega
      clear hr hav
      gi_wp2
      refine ⟨fun f h => (by cases h), ?_⟩
      gi_wp2
      go_end0
      exact ⟨⟨_, rfl⟩, .inl ⟨_, rfl, hJs⟩⟩

set_option maxHeartbeats 1000000 in
theorem cuts_in (F : Fence) (n : Nat) (h5 : F.fn 64) (hro : F.round = none) (a : Option Addr) (len cap : Nat) (w : World) :
    CallsIn F n Try.prog 64 #[.slice a len cap] w fun e w' => e = .returned (.func (.func 72) #[] #[.pointer (some ⟨w.heap.size, 0, none⟩)]) ∧ w' = w.alloc (.cells #[.slice a len cap] 31) := by
  refine callsIn_of_wp Try.func64 rfl h5 ?_ hro
  simp only [Try.ntmps64, List.size_toArray, List.length_cons, List.length_nil, Nat.reduceAdd, Nat.reduceSub, Array.replicate_succ, Array.replicate_zero, List.push_toArray, List.append_toArray, List.nil_append, List.cons_append]
  gi_wp2
  go_ret
  exact ⟨rfl, rfl⟩
end Go.Proofs.Ytnekelndcpmonaa
