/- The store's small functions: Room, counted, count, Load. The store's count, Load, and what Format lays. The store's both. The store's Format. The store's Save: what it appends. -/
import Derived.Test.YtnekelndcpmonaaMg11
import Derived.Deep.RegionHeld
import Derived.Deep.RegionLaw
import Derived.RegionTactic
set_option linter.all false
namespace Go.Proofs.Ytnekelndcpmonaa
open Go.RowKit
set_option linter.unusedVariables false

structure St where
  size : Nat
  is : Int
  count : Nat
  broken : Bool
def stC (h0 h1 : Value) (s : St) (tv : Value) : Array Value := #[h0, h1, .int .i64 (s.size : Int), .int .i64 s.is, .int .u64 (s.count : Int), tv, .bool s.broken]
/-- A store, as it lies. -/
def stA (p : Nat) (h0 h1 : Value) (s : St) (tv : Value) : Asn := blkA p (stC h0 h1 s tv) 72
/-- Bytes that somebody holds: part of a row. -/
def thA (v : Value) (l : List UInt8) : Asn where
  holds w F := (v = .slice none 0 0 ∧ l = [] ∧ ∀ k, ¬ F k) ∨ ∃ g o cap c fz, v = .slice (some ⟨g, o, none⟩) l.length cap ∧ w.heap[g]? = some (.cells c 5 fz) ∧ (∀ i, i < l.length → c[o + i]? = some (byteV (l.getD i 0))) ∧ ∀ k, F k ↔ k = g
  base := 0
  le := fun _ _ _ => Nat.zero_le _
  lt := fun w F h k hk => by
    rcases h with ⟨_, _, h⟩ | ⟨g, o, cap, c, fz, _, e, _, h⟩
    · exact absurd hk (h k)
    · rw [(h k).1 hk]; exact (Array.getElem?_eq_some_iff.1 e).1
  cells := fun w F h k hk => by
    rcases h with ⟨_, _, h⟩ | ⟨g, o, cap, c, fz, _, e, _, h⟩
    · exact absurd hk (h k)
    · exact .inr ⟨_, _, _, by rw [(h k).1 hk]; exact e⟩
  keep := fun w w' F h e1 e2 e3 e4 e5 => by
    rcases h with h | ⟨g, o, cap, c, fz, h1, e, h2, h3⟩
    · exact .inl h
    · exact .inr ⟨g, o, cap, c, fz, h1, (e5 g ((h3 g).2 rfl)).trans e, h2, h3⟩
theorem Sep.thing {w : World} {R : List Asn} {v : Value} {l : List UInt8} (S : Sep w (thA v l :: R)) : ∃ a cap, v = .slice a l.length cap ∧ BytesAt w a l ∧ (a = none → cap = 0) := by
  obtain ⟨F, _, h, _⟩ := S
  rcases h with ⟨rfl, rfl, _⟩ | ⟨g, o, cap, c, fz, rfl, e, h2, _⟩
  · exact ⟨none, 0, rfl, BytesAt.nil _ _, fun _ => rfl⟩
  · refine ⟨_, _, rfl, fun i hi => ⟨g, o, rfl, ?_⟩, fun e => by cases e⟩
    rw [cell_of e, h2 i hi]
    rfl
theorem Sep.noThing {w : World} {R : List Asn} (S : Sep w R) : Sep w (thA (.slice none 0 0) [] :: R) :=
  Sep.stepNew (L' := [thA (.slice none 0 0) []]) S (Below.refl _ _) ⟨fun _ => False, fun k hk => hk.elim, .inl ⟨rfl, rfl, fun _ h => h⟩, trivial⟩
/-- A row of one's own is held; and part of it. -/
theorem Sep.hold {w : World} {R : List Asn} {g n cap : Nat} {l : List UInt8} (S : Sep w (bytesA (.slice (some ⟨g, 0, none⟩) n cap) n l :: R)) (o m : Nat) (h : o + m ≤ n) (cap' : Nat) : Sep w (thA (.slice (some ⟨g, o, none⟩) m cap') ((l.drop o).take m) :: R) := by
  obtain ⟨F, h1, ⟨⟨h2, h3⟩, h4⟩, h5⟩ := S
  have hl : l.length = n := by simpa using h2
  refine ⟨F, h1, .inr ?_, h5⟩
  rcases h3 with ⟨e, _⟩ | ⟨g2, cap2, cur, e, _, hh, hnc, _, hcs, htk⟩
  · cases e
  · simp only [Value.slice.injEq, Option.some.injEq, Addr.mk.injEq] at e
    obtain ⟨⟨rfl, _⟩, _, rfl⟩ := e
    have hlen : ((l.drop o).take m).length = m := by rw [List.length_take, List.length_drop]; omega
    refine ⟨g, o, cap', cur, (0, 0), by rw [hlen], hh, fun i hi => ?_, fun k => (h4 k).trans (by simp [Value.ownBlock, eq_comm])⟩
    rw [hlen] at hi
    have h6 : cur.toList[o + i]? = (l.map byteV)[o + i]? := by
      rw [← htk, List.getElem?_take, if_pos (by omega)]
    rw [Array.getElem?_toList] at h6
    rw [h6]
    simp [List.getD, List.getElem?_take, hi, show o + i < l.length by omega]
section
variable {w : World} {R : List Asn} {sp : Nat} {h0 h1 tv : Value} {s : St}
theorem Sep.st (S : Sep w (stA sp h0 h1 s tv :: R)) : w.cell? ⟨sp, 0, none⟩ = some h0 ∧ w.cell? ⟨sp, 1, none⟩ = some h1 ∧ w.cell? ⟨sp, 2, none⟩ = some (.int .i64 (s.size : Int)) ∧ w.cell? ⟨sp, 3, none⟩ = some (.int .i64 s.is) ∧
    w.cell? ⟨sp, 4, none⟩ = some (.int .u64 (s.count : Int)) ∧ w.cell? ⟨sp, 5, none⟩ = some tv ∧ w.cell? ⟨sp, 6, none⟩ = some (.bool s.broken) :=
  ⟨S.blk_cell 0, S.blk_cell 1, S.blk_cell 2, S.blk_cell 3, S.blk_cell 4, S.blk_cell 5, S.blk_cell 6⟩
theorem stRoom_sep (S : Sep w (stA sp h0 h1 s tv :: R)) (hs : s.size ≤ 4096) :
    Calls Try.prog 21 #[.pointer (some ⟨sp, 0, none⟩)] w fun e w' => e = .returned (.int .i64 (((s.size : Int) - 1) * 512 - 16 - 8)) ∧ w = w' := by
  obtain ⟨c0, c1, c2, c3, c4, c5, c6⟩ := S.st
  have hs1 : (s.size : Int) ≤ 4096 := by omega
  have hs0 : (0 : Int) ≤ (s.size : Int) := by omega
  clear S hs
  go_enter Try.func21, Try.ntmps21
  go_wp2
  go_ret
  exact ⟨rfl, rfl⟩
set_option maxHeartbeats 1600000 in
theorem counted_sep (S : Sep w R) (n : Nat) (N : Int) (hN : N = (n : Int)) (hn : n < 18446744073709551616) (ba : Option Addr) (bn bc : Nat) (b : List UInt8) (hb : BytesAt w ba b) (hbl : b.length = bn) (hbn : bn ≤ 900000) (hnil : ba = none → bc = 0) :
    Calls Try.prog 36 #[.int .u64 N, .slice ba bn bc] w fun e w' => ∃ g cap, e = .returned (.slice g (8 + bn) cap) ∧ (g = none → cap = 0) ∧ Sep w' (bytesA (.slice g (8 + bn) cap) (8 + bn) (lowL n 8 ++ b) :: R) ∧ Below w.heap.size w w' := by
  subst hN
  have HS := Lib.hid S
  have HB := Lib.hid hb
  have HBL := Lib.hid hbl
  have HNIL := Lib.hid hnil
  clear S hb hbl hnil
  go_enter Try.func36, Try.ntmps36
  go_wp2
  go_loopw [6, 0, 5] (fun i nv bv wr => ∃ (k X : Nat) (g : Option Addr) (cap : Nat), k ≤ 8 ∧ i = .int .i64 k ∧ X = n / 256 ^ k ∧ nv = .int .u64 X ∧ bv = .slice g k cap ∧ Hid (Sep wr (bytesA (.slice g k cap) k (lowL n k) :: R) ∧ Below w.heap.size w wr ∧ Fresh w.heap.size (.slice g k cap))) (fun i _ _ _ => 8 - (intOf i).toNat)
  case atStart => exact ⟨0, n, none, 0, Nat.zero_le _, rfl, by simp, rfl, rfl, Lib.hid ⟨HS.out.nilOwn _ _, Below.refl _ _, fun g hg => by cases hg⟩⟩
  case round =>
    obtain ⟨k, X, g, cap, hk, rfl, hX, rfl, rfl, HK⟩ := hrel
    by_cases hlt : k < 8
    · have hlt' : (k : Int) < 8 := by omega
      have hXn : X < 18446744073709551616 := by
        have : X ≤ n := by rw [hX]; exact Nat.div_le_self _ _
        omega
      obtain ⟨c, hc⟩ : ∃ c, c = UInt8.ofNat X := ⟨_, rfl⟩
      have hcv : (X : Int) % 256 = (c.toNat : Int) := by rw [hc, UInt8.toNat_ofNat']; omega
      obtain ⟨X2, hX2⟩ : ∃ X2, X2 = X / 256 := ⟨_, rfl⟩
      have hdv : (X : Int) / 256 = (X2 : Int) := by rw [hX2]; omega
      have hX3 : X2 = n / 256 ^ (k + 1) := by rw [hX2, hX, Nat.div_div_eq_div_mul, Nat.pow_succ]
      have hl2 : lowL n (k + 1) = lowL n k ++ [c] := by rw [lowL_succ, hc, hX]
      have HX3 := Lib.hid hX3
      have Hl2 := Lib.hid hl2
      have hX0 : (0 : Int) ≤ (X : Int) := by omega
      have S2 := (HK.out.1.alloc #[.int .u8 (c.toNat : Int)] 5).up1
      have HS2 := Lib.hid S2
      clear hX hc hX2 hX3 hl2 S2 hn
      go_wp2_with (at_builtin; refine wpList_append_b rfl (.tmp 8) (.tmp 11) rfl HS2.out rfl (some ⟨wr.heap.size, 0, none⟩) 1 1 [c] rfl (by simp) (BytesAt.made [c] rfl) rfl (by omega) ?next)
      case next =>
        intro g' cap' w2 S3 hf _ _ _
        rw [← Hl2.out] at S3
        obtain ⟨f1, f2⟩ := hf w.heap.size (by have := HK.out.2.1.size; simp; omega) HK.out.2.2
        have HK2 : Hid (Sep w2 (bytesA (.slice g' (k + 1) cap') (k + 1) (lowL n (k + 1)) :: R) ∧ Below w.heap.size w w2 ∧ Fresh w.heap.size (.slice g' (k + 1) cap')) := Lib.hid ⟨S3.up1.drop, (HK.out.2.1.alloc HK.out.2.1.size _).trans f1, f2⟩
        clear S3 hf f1 f2 HS2
        go_wp2
        go_roundw
        case rel => exact ⟨k + 1, X2, _, _, by omega, by go_num, HX3.out, rfl, rfl, HK2⟩
        case measure => simp [intOf]; omega
    · obtain rfl : k = 8 := by omega
      have hb1 := HB.out.below HK.out.2.1
      have HB1 := Lib.hid hb1
      clear hX hb1
      go_wp2_with (at_builtin; refine wpList_append_b rfl (.tmp 16) (.tmp 17) rfl HK.out.1 rfl ba bn bc b rfl HNIL.out HB1.out HBL.out (by omega) ?next2)
      case next2 =>
        intro g' cap' w2 S3 hf _ _ hn2
        obtain ⟨f1, f2⟩ := hf w.heap.size HK.out.2.1.size HK.out.2.2
        have HS3 := Lib.hid S3
        have HB2 := Lib.hid (HK.out.2.1.trans f1)
        have HN2 := Lib.hid hn2
        clear S3 hf f1 f2 hn2
        go_wp2
        go_ret
        exact ⟨_, _, rfl, HN2.out, HS3.out, HB2.out⟩
end
end Go.Proofs.Ytnekelndcpmonaa
namespace Go.Proofs.Ytnekelndcpmonaa
open Go.RowKit
set_option linter.unusedVariables false

theorem num_step (l : List UInt8) (k : Nat) (hk : k < 8) (hl : 8 ≤ l.length) (c : UInt8) (hc : c = l.getD (7 - k) 0) : numL ((l.take 8).drop (8 - (k + 1))) = numL ((l.take 8).drop (8 - k)) * 256 + c.toNat := by
  have h1 : (l.take 8).length = 8 := by rw [List.length_take]; omega
  have h2 : 8 - (k + 1) < (l.take 8).length := by omega
  rw [List.drop_eq_getElem_cons h2, numL, show 8 - (k + 1) + 1 = 8 - k by omega]
  have h3 : (l.take 8)[8 - (k + 1)] = c := by
    rw [hc, List.getElem_take]
    simp [List.getD, show 7 - k < l.length by omega, show 8 - (k + 1) = 7 - k by omega]
  rw [h3]
  omega
theorem num_lt56 (l : List UInt8) (k : Nat) (hk : k < 8) : numL ((l.take 8).drop (8 - k)) < 72057594037927936 := by
  have h := numL_lt ((l.take 8).drop (8 - k))
  have h1 : ((l.take 8).drop (8 - k)).length ≤ 7 := by rw [List.length_drop, List.length_take]; omega
  have h2 : 256 ^ ((l.take 8).drop (8 - k)).length ≤ 256 ^ 7 := Nat.pow_le_pow_right (by omega) h1
  omega
theorem shl_fits {v : Nat} (hv : v < 72057594037927936) : (v : Int) * 256 < 18446744073709551616 := by omega
section
variable {w : World} {R : List Asn}
set_option maxHeartbeats 1600000 in
theorem count_calls (a : Option Addr) (n cap : Nat) (l : List UInt8) (hA : BytesAt w a l) (hl : l.length = n) (h8 : 8 ≤ n) :
    Calls Try.prog 40 #[.slice a n cap] w fun e w' => e = .returned (.int .u64 (numL (l.take 8) : Int)) ∧ w = w' := by
  have HA := Lib.hid hA
  have HL := Lib.hid hl
  have h8' : (8 : Int) ≤ (n : Int) := by omega
  clear hA hl
  go_enter Try.func40, Try.ntmps40
  go_wp2
  go_loop [2, 3] (fun nv iv => ∃ k : Nat, k ≤ 8 ∧ iv = .int .i64 (7 - (k : Int)) ∧ nv = .int .u64 (numL ((l.take 8).drop (8 - k)) : Int)) (fun _ iv => (intOf iv + 1).toNat)
  case atStart => exact ⟨0, Nat.zero_le _, rfl, by rw [Nat.sub_zero, List.drop_of_length_le (by rw [List.length_take]; omega)]; rfl⟩
  case round =>
    obtain ⟨k, hk, rfl, rfl⟩ := hrel
    by_cases hlt : k < 8
    · obtain ⟨c, hc⟩ : ∃ c, c = l.getD (7 - k) 0 := ⟨_, rfl⟩
      have hst := num_step l k hlt (by rw [HL.out]; exact h8) c hc
      have hv := num_lt56 l k hlt
      obtain ⟨v, hvv⟩ : ∃ v, v = numL ((l.take 8).drop (8 - k)) := ⟨_, rfl⟩
      rw [← hvv] at hst hv
      rw [← hvv]
      obtain ⟨b, o, rfl, hcell⟩ := HA.out (7 - k) (by rw [HL.out]; omega)
      rw [← hc] at hcell
      obtain ⟨i, hi⟩ : ∃ i : Nat, i = 7 - k := ⟨_, rfl⟩
      have hii : 7 - (k : Int) = (i : Int) := by omega
      rw [← hi] at hcell
      rw [hii]
      have hi0 : (0 : Int) ≤ (i : Int) := by omega
      have hin : (i : Int) < (n : Int) := by omega
      have hor := or_low v c hv
      have hc0 : (0 : Int) ≤ (c.toNat : Int) := by omega
      have hc1 : (c.toNat : Int) < 256 := by have := c.toNat_lt; omega
      have hsf := shl_fits hv
      have hv0 : (0 : Int) ≤ (v : Int) := by omega
      have HST := Lib.hid hst
      have HI := Lib.hid hi
      clear hc hst hvv hi hv
      go_wp2
      go_round
      case rel => exact ⟨k + 1, by omega, by have := HI.out; congr 1; omega, by rw [HST.out]; simp⟩
      case measure => have := HI.out; first | (simp [intOf]; done) | (simp [intOf]; omega)
    · obtain rfl : k = 8 := by omega
      go_wp2
      go_ret
      exact ⟨rfl, rfl⟩
set_option maxHeartbeats 1600000 in
theorem load_sep {sp : Nat} {h0 h1 tv : Value} {s : St} {l : List UInt8} (S : Sep w (stA sp h0 h1 s tv :: thA tv l :: R)) (hb : s.broken = false) (hi : 0 ≤ s.is) (hl : l.length ≤ 900000) :
    Calls Try.prog 18 #[.pointer (some ⟨sp, 0, none⟩)] w fun e w' => ∃ g cap, e = .returned (.tuple #[.slice g l.length cap, .int .i64 0]) ∧ Sep w' (bytesA (.slice g l.length cap) l.length l :: stA sp h0 h1 s tv :: thA tv l :: R) := by
  obtain ⟨c0, c1, c2, c3, c4, c5, c6⟩ := S.st
  obtain ⟨a, cap, rfl, hbt, hnil⟩ := S.up1.thing
  rw [hb] at c6
  obtain ⟨i, hii⟩ := Int.eq_ofNat_of_zero_le hi
  rw [hii] at c3
  have hi0 : (0 : Int) ≤ (i : Int) := by omega
  have HBT := Lib.hid hbt
  have HN := Lib.hid hnil
  have HS := Lib.hid S
  obtain ⟨n, hn⟩ : ∃ n, n = l.length := ⟨_, rfl⟩
  rw [← hn] at c5
  have HNN := Lib.hid hn.symm
  clear hbt hnil S hn hb hi hii
  go_enter Try.func18, Try.ntmps18
  go_wp2_with fail
  refine (clone_calls _ a n cap l HBT.out HNN.out (by have := HNN.out; omega) HN.out).mono ?_
  rintro e w1 ⟨g, cap2, rfl, ho, hb⟩
  have S1 := HS.out.newBytes hb ho
  have HS1 := Lib.hid S1
  clear ho hb S1
  go_wp2
  go_ret2
  have e := HNN.out
  subst e
  exact ⟨_, _, rfl, HS1.out⟩
set_option maxHeartbeats 1600000 in
theorem load_none {sp : Nat} {h0 h1 tv : Value} {s : St} (S : Sep w (stA sp h0 h1 s tv :: R)) (hb : s.broken = false) (hi : s.is = -1) :
    Calls Try.prog 18 #[.pointer (some ⟨sp, 0, none⟩)] w fun e w' => e = .returned (.tuple #[.slice none 0 0, .int .i64 3]) ∧ w = w' := by
  obtain ⟨c0, c1, c2, c3, c4, c5, c6⟩ := S.st
  rw [hb] at c6
  rw [hi] at c3
  clear S hb hi
  go_enter Try.func18, Try.ntmps18
  go_wp2
  go_ret2
  exact ⟨by rfl, rfl⟩
end
end Go.Proofs.Ytnekelndcpmonaa
namespace Go.Proofs.Ytnekelndcpmonaa
open Go.RowKit
set_option linter.unusedVariables false

def pV (q : Nat) : Value := .pointer (some ⟨q, 0, none⟩)
section
variable {w : World} {R : List Asn} {p : Nat} {D : Dk}
set_option maxRecDepth 20000 in
set_option maxHeartbeats 4000000 in
theorem both_ok (P0 P1 : Nat → World → Prop) (S : Sep w (diskA p D :: R)) (size : Nat) (h4 : 4 ≤ D.secs.length) (hsz : size = D.secs.length / 2) (f : Nat) (c : Value) (heg : ∀ args w, (callFunc f args).run Try.prog w = .ok (.enter f args) w)
    (hc0 : ∀ sp w, P0 sp w → w.cell? ⟨sp, 2, none⟩ = some (.int .i64 (size : Int))) (hd0 : ∀ sp w, P0 sp w → P0 sp w.drew)
    (hc1 : ∀ sp w, P1 sp w → w.cell? ⟨sp, 2, none⟩ = some (.int .i64 (size : Int)))
    (h0 : ∀ sp w1, Sep w1 (stA sp (.pointer none) (.pointer none) ⟨size, -1, 0, false⟩ (.slice none 0 0) :: diskA p D :: R) → Calls Try.prog f #[.pointer (some ⟨sp, 0, none⟩), .int .i64 0, .int .i64 0, .int .i64 (size : Int), c] w1 fun e w2 => e = .returned (.int .i64 0) ∧ P0 sp w2)
    (h1 : ∀ sp w1, P0 sp w1 → Calls Try.prog f #[.pointer (some ⟨sp, 0, none⟩), .int .i64 1, .int .i64 (size : Int), .int .i64 (size : Int), c] w1 fun e w2 => e = .returned (.int .i64 0) ∧ P1 sp w2) :
    Calls Try.prog 28 #[.pointer (some ⟨p, 0, none⟩), .func (.func f) #[] #[c]] w fun e w' => ∃ sp, e = .returned (.tuple #[.pointer (some ⟨sp, 0, none⟩), .int .i64 0]) ∧ P1 sp w' := by
  obtain ⟨_, hl1, hl3⟩ := dk_len S
  obtain ⟨n, hn⟩ : ∃ n, n = D.secs.length := ⟨_, rfl⟩
  have hn4 : ¬ (n : Int) < 4 := by omega
  have hn0 : (0 : Int) ≤ (n : Int) := by omega
  have hnb : (n : Int) ≤ 4096 := by omega
  have hsd : (n : Int) / 2 = (size : Int) := by omega
  have hs0 : (0 : Int) ≤ (size : Int) := by omega
  have hsb : (size : Int) ≤ 2048 := by omega
  have HS := Lib.hid S
  have HN := Lib.hid hn.symm
  have HC0 := Lib.hid hc0
  have HC1 := Lib.hid hc1
  have HD0 := Lib.hid hd0
  have H0 := Lib.hid h0
  have H1 := Lib.hid h1
  clear S hn hsz h4 hc0 hd0 h0 h1 hl1 hl3 hc1
  go_enter Try.func28, Try.ntmps28
  go_wp2_with fail
  refine (sectors_sep HS.out).mono ?_
  rw [HN.out]
  rintro e w1 ⟨rfl, rfl⟩
  go_wp2_with fail
  refine (sectors_sep HS.out).mono ?_
  rw [HN.out]
  rintro e w1 ⟨rfl, rfl⟩
  have S1 : Sep (w.alloc (.cells #[.pointer none, .pointer none, .int .i64 (size : Int), .int .i64 (-1), .int .u64 0, .slice none 0 0, .bool false] 72)) (stA w.heap.size (.pointer none) (.pointer none) ⟨size, -1, 0, false⟩ (.slice none 0 0) :: diskA p D :: R) := HS.out.alloc _ _
  obtain ⟨w2, hw2⟩ : ∃ w2, w2 = w.alloc (.cells #[.pointer none, .pointer none, .int .i64 (size : Int), .int .i64 (-1), .int .u64 0, .slice none 0 0, .bool false] 72) := ⟨_, rfl⟩
  obtain ⟨sp, hsp⟩ : ∃ sp, sp = w.heap.size := ⟨_, rfl⟩
  rw [← hw2, ← hsp] at S1
  have HW2 := Lib.hid hw2
  have HSP := Lib.hid hsp
  have HS1 := Lib.hid S1
  clear S1 hw2 hsp
  go_wp2_with fail
  rw [← HW2.out, ← HSP.out]
  go_loopw [17] (fun i wr => ∃ K : Int, (K = 0 ∨ K = 1 ∨ K = 2) ∧ i = .int .i64 K ∧ Hid ((K = 0 → Sep wr (stA sp (.pointer none) (.pointer none) ⟨size, -1, 0, false⟩ (.slice none 0 0) :: diskA p D :: R)) ∧ (K = 1 → P0 sp wr) ∧ (K = 2 → P1 sp wr))) (fun i _ => 2 - (intOf i).toNat)
  case atStart => exact ⟨0, .inl rfl, rfl, Lib.hid ⟨fun _ => HS1.out, (fun h => absurd h (by decide)), (fun h => absurd h (by decide))⟩⟩
  case round =>
    obtain ⟨K, hK, rfl, HI⟩ := hrel
    rcases hK with rfl | rfl | rfl
    · have S2 := HI.out.1 rfl
      have c2 := S2.st.2.2.1
      have HS2 := Lib.hid S2
      clear S2
      go_wp2_with fail
      go_region_held (fun w' => w'.cell? ⟨sp, 2, none⟩ = some (.int .i64 (size : Int))) (first | assumption | exact c2)
        ((refine (H0.out sp _ HS2.out.drew).mono ?_; rintro e w5 ⟨rfl, hp⟩; have hcc := HC0.out sp w5 hp))
      have HP := Lib.hid hp
      clear hp hcc c2
      go_wp2_with fail
      go_roundw
      case rel => exact ⟨1, .inr (.inl rfl), rfl, Lib.hid ⟨(fun h => absurd h (by decide)), fun _ => HP.out, (fun h => absurd h (by decide))⟩⟩
      case measure => simp [intOf]
    · have hp0 := HI.out.2.1 rfl
      have c2 := HC0.out sp _ hp0
      have q1 : IntKind.i64.wrap (size : Int) = (size : Int) := by rw [IntKind.wrap_i64]; omega
      have HP0 := Lib.hid (HD0.out sp _ hp0)
      clear hp0
      go_wp2_with fail
      go_region_held (fun w' => w'.cell? ⟨sp, 2, none⟩ = some (.int .i64 (size : Int))) (first | assumption | exact c2)
        ((refine (H1.out sp _ HP0.out).mono ?_; rintro e w5 ⟨rfl, hp⟩; have hcc := HC1.out sp w5 hp))
      have HP := Lib.hid hp
      clear hp hcc c2
      go_wp2_with fail
      go_roundw
      case rel => exact ⟨2, .inr (.inr rfl), rfl, Lib.hid ⟨(fun h => absurd h (by decide)), (fun h => absurd h (by decide)), fun _ => HP.out⟩⟩
      case measure => simp [intOf]
    · have HP := Lib.hid (HI.out.2.2 rfl)
      go_wp2
      go_ret2
      exact ⟨sp, rfl, HP.out⟩
end
end Go.Proofs.Ytnekelndcpmonaa
namespace Go.Proofs.Ytnekelndcpmonaa
open Go.RowKit
set_option linter.unusedVariables false

section
variable {w : World} {R : List Asn} {p sp bx : Nat} {D : Dk}
set_option maxRecDepth 20000 in
set_option maxHeartbeats 4000000 in
theorem format1_0 {h0 h1 tv : Value} {s : St} (S : Sep w (stA sp h0 h1 s tv :: blkA bx #[.pointer (some ⟨p, 0, none⟩)] 24 :: diskA p D :: R)) (from_ size : Nat) (F Z : Int) (hF : F = (from_ : Int)) (hZ : Z = (size : Int)) (h2 : 2 ≤ size) (hs : from_ + size ≤ D.secs.length) (hw : D.waits.length ≤ 80000)
    (D1 D2 : Dk) (j1 j2 : Jn) (hr : resetJ D ⟨from_, size, 0, 1, false⟩ = (0, D1, j1)) (hc : commitJ D1 j1 = (0, D2, j2)) :
    Calls Try.prog 29 #[.pointer (some ⟨sp, 0, none⟩), .int .i64 0, .int .i64 F, .int .i64 Z, .pointer (some ⟨bx, 0, none⟩)] w fun e w' => e = .returned (.int .i64 0) ∧ ∃ q, Sep w' (stA sp (pV q) h1 s tv :: jnA q p j2 :: blkA bx #[.pointer (some ⟨p, 0, none⟩)] 24 :: diskA p D2 :: R) := by
  subst hF hZ
  have cb := S.up1.blk_cell 0
  simp at cb
  have HS := Lib.hid S.up2
  have HR := Lib.hid hr
  have HC := Lib.hid hc
  clear S hr hc
  go_enter Try.func29, Try.ntmps29
  go_wp2_with fail
  go_region_held (fun w' => w'.cell? ⟨bx, 0, none⟩ = some (.pointer (some ⟨p, 0, none⟩))) (first | assumption | exact cb | exact cb6)
    ((refine (format_sep HS.out.drew from_ size _ _ rfl rfl h2 hs hw D1 D2 j1 j2 HR.out HC.out).mono ?_; rintro e w5 ⟨q, rfl, S5⟩; have cb5 := S5.up3.blk_cell 0; simp at cb5; have cs5 := S5.up2.blk_cell 0; have fs5 := S5.up2.blk_free 0; simp [stC] at cs5; have S6 : Sep (w5.setCell ⟨sp, 0, none⟩ (.pointer (some ⟨q, 0, none⟩))) (stA sp (pV q) h1 s tv :: jnA q p j2 :: diskA p D2 :: blkA bx #[.pointer (some ⟨p, 0, none⟩)] 24 :: R) := S5.up2.blk_set 0 (.pointer (some ⟨q, 0, none⟩)); have cb6 : (w5.setCell ⟨sp, 0, none⟩ (.pointer (some ⟨q, 0, none⟩))).cell? ⟨bx, 0, none⟩ = some (.pointer (some ⟨p, 0, none⟩)) := (by rw [S6.up3.blk_cell 0]; rfl); have HS6 := Lib.hid S6; clear S5 S6))
  all_goals
    have HS7 := Lib.hid (HS6.out.up3.dn2)
    go_wp2
    go_ret
    exact ⟨rfl, q, HS7.out⟩
set_option maxRecDepth 20000 in
set_option maxHeartbeats 4000000 in
theorem format1_1 {h0 h1 tv : Value} {s : St} (S : Sep w (stA sp h0 h1 s tv :: blkA bx #[.pointer (some ⟨p, 0, none⟩)] 24 :: diskA p D :: R)) (from_ size : Nat) (F Z : Int) (hF : F = (from_ : Int)) (hZ : Z = (size : Int)) (h2 : 2 ≤ size) (hs : from_ + size ≤ D.secs.length) (hw : D.waits.length ≤ 80000)
    (D1 D2 : Dk) (j1 j2 : Jn) (hr : resetJ D ⟨from_, size, 0, 1, false⟩ = (0, D1, j1)) (hc : commitJ D1 j1 = (0, D2, j2)) :
    Calls Try.prog 29 #[.pointer (some ⟨sp, 0, none⟩), .int .i64 1, .int .i64 F, .int .i64 Z, .pointer (some ⟨bx, 0, none⟩)] w fun e w' => e = .returned (.int .i64 0) ∧ ∃ q, Sep w' (stA sp h0 (pV q) s tv :: jnA q p j2 :: blkA bx #[.pointer (some ⟨p, 0, none⟩)] 24 :: diskA p D2 :: R) := by
  subst hF hZ
  have cb := S.up1.blk_cell 0
  simp at cb
  have HS := Lib.hid S.up2
  have HR := Lib.hid hr
  have HC := Lib.hid hc
  clear S hr hc
  go_enter Try.func29, Try.ntmps29
  go_wp2_with fail
  go_region_held (fun w' => w'.cell? ⟨bx, 0, none⟩ = some (.pointer (some ⟨p, 0, none⟩))) (first | assumption | exact cb | exact cb6)
    ((refine (format_sep HS.out.drew from_ size _ _ rfl rfl h2 hs hw D1 D2 j1 j2 HR.out HC.out).mono ?_; rintro e w5 ⟨q, rfl, S5⟩; have cb5 := S5.up3.blk_cell 0; simp at cb5; have cs5 := S5.up2.blk_cell 1; have fs5 := S5.up2.blk_free 1; simp [stC] at cs5; have S6 : Sep (w5.setCell ⟨sp, 1, none⟩ (.pointer (some ⟨q, 0, none⟩))) (stA sp h0 (pV q) s tv :: jnA q p j2 :: diskA p D2 :: blkA bx #[.pointer (some ⟨p, 0, none⟩)] 24 :: R) := S5.up2.blk_set 1 (.pointer (some ⟨q, 0, none⟩)); have cb6 : (w5.setCell ⟨sp, 1, none⟩ (.pointer (some ⟨q, 0, none⟩))).cell? ⟨bx, 0, none⟩ = some (.pointer (some ⟨p, 0, none⟩)) := (by rw [S6.up3.blk_cell 0]; rfl); have HS6 := Lib.hid S6; clear S5 S6))
  all_goals
    have HS7 := Lib.hid (HS6.out.up3.dn2)
    go_wp2
    go_ret
    exact ⟨rfl, q, HS7.out⟩
/-- What both Formats make of a disk. -/
structure Fmt2 (D D4 : Dk) (size : Nat) (j0 j1 : Jn) : Prop where
  ex : ∃ D1 D2 D3 i0 i1, resetJ D ⟨0, size, 0, 1, false⟩ = (0, D1, i0) ∧ commitJ D1 i0 = (0, D2, j0) ∧ D2.secs.length = D.secs.length ∧ D2.waits.length ≤ 80000 ∧ resetJ D2 ⟨size, size, 0, 1, false⟩ = (0, D3, i1) ∧ commitJ D3 i1 = (0, D4, j1)
set_option maxHeartbeats 1600000 in
theorem storeFormat_sep (S : Sep w (diskA p D :: R)) (size : Nat) (h4 : 4 ≤ D.secs.length) (hsz : size = D.secs.length / 2) (hw : D.waits.length ≤ 80000) (D4 : Dk) (j0 j1 : Jn) (hf : Fmt2 D D4 size j0 j1) :
    Calls Try.prog 12 #[.pointer (some ⟨p, 0, none⟩)] w fun e w' => ∃ sp q0 q1, e = .returned (.tuple #[.pointer (some ⟨sp, 0, none⟩), .int .i64 0]) ∧ Sep w' (stA sp (pV q0) (pV q1) ⟨size, -1, 0, false⟩ (.slice none 0 0) :: jnA q0 p j0 :: jnA q1 p j1 :: diskA p D4 :: R) := by
  obtain ⟨D1, D2, D3, i0, i1, e1, e2, e3, e4, e5, e6⟩ := hf.ex
  have S1 := (S.alloc #[.pointer (some ⟨p, 0, none⟩)] 24).up1
  obtain ⟨bx, hbx⟩ : ∃ bx, bx = w.heap.size := ⟨_, rfl⟩
  obtain ⟨w1, hw1⟩ : ∃ w1, w1 = w.alloc (.cells #[.pointer (some ⟨p, 0, none⟩)] 24) := ⟨_, rfl⟩
  rw [← hbx, ← hw1] at S1
  have cb := S1.up1.blk_cell 0
  simp at cb
  have hboth := both_ok (R := blkA bx #[.pointer (some ⟨p, 0, none⟩)] 24 :: R)
    (fun sp w => ∃ q0, Sep w (stA sp (pV q0) (.pointer none) ⟨size, -1, 0, false⟩ (.slice none 0 0) :: jnA q0 p j0 :: blkA bx #[.pointer (some ⟨p, 0, none⟩)] 24 :: diskA p D2 :: R))
    (fun sp w => ∃ q0 q1, Sep w (stA sp (pV q0) (pV q1) ⟨size, -1, 0, false⟩ (.slice none 0 0) :: jnA q1 p j1 :: blkA bx #[.pointer (some ⟨p, 0, none⟩)] 24 :: diskA p D4 :: jnA q0 p j0 :: R))
    S1 size h4 hsz 29 (.pointer (some ⟨bx, 0, none⟩)) (enters_of Try.func29 (by kernel_rfl) rfl)
    (fun sp w h => by obtain ⟨q0, h⟩ := h; exact h.st.2.2.1) (fun sp w h => by obtain ⟨q0, h⟩ := h; exact ⟨q0, h.drew⟩) (fun sp w h => by obtain ⟨q0, q1, h⟩ := h; exact h.st.2.2.1)
    (fun sp w h => (format1_0 h.dn2.up1.up2 0 size _ _ rfl rfl (by omega) (by omega) hw D1 D2 i0 j0 e1 e2).mono fun e w' h => ⟨h.1, h.2⟩)
    (fun sp w h => by
      obtain ⟨q0, h⟩ := h
      exact (format1_1 (R := jnA q0 p j0 :: R) (by exact h.up1.dn3) size size _ _ rfl rfl (by omega) (by omega) e4 D3 D4 i1 j1 e5 e6).mono fun e w' h => ⟨h.1, by obtain ⟨q1, h2⟩ := h.2; exact ⟨q0, q1, h2⟩⟩)
  have HB := Lib.hid hboth
  have HW1 := Lib.hid hw1
  have HBX := Lib.hid hbx
  clear hboth S1 S hw1 hbx e1 e2 e3 e4 e5 e6 hf h4 hsz
  go_enter Try.func12, Try.ntmps12
  go_wp2_with fail
  rw [← HW1.out, ← HBX.out]
  refine HB.out.mono ?_
  rintro e w2 ⟨sp, rfl, q0, q1, S2⟩
  have HS2 := Lib.hid S2.up2.drop.up3.dn2.up2.up1
  clear S2
  go_wp2
  go_ret2
  exact ⟨sp, q0, q1, rfl, HS2.out⟩
end
end Go.Proofs.Ytnekelndcpmonaa
namespace Go.Proofs.Ytnekelndcpmonaa
open Go.RowKit
set_option linter.unusedVariables false

section
variable {w : World} {R : List Asn} {p sp q jb sb bb : Nat} {D : Dk} {j : Jn} {h0 h1 tv : Value} {s : St}
set_option maxRecDepth 20000 in
set_option maxHeartbeats 4000000 in
theorem save1_sep {ba : Option Addr} {bn bc : Nat} {b : List UInt8} (S : Sep w (jnA q p j :: diskA p D :: blkA jb #[.pointer (some ⟨q, 0, none⟩)] 67 :: blkA sb #[.pointer (some ⟨sp, 0, none⟩)] 28 :: blkA bb #[.slice ba bn bc] 31 :: stA sp h0 h1 s tv :: R))
    (hb : BytesAt w ba b) (hbl : b.length = bn) (hbn : bn ≤ 800000) (hnil : ba = none → bc = 0) (hc : s.count < 18446744073709551615) (c1 : Nat) (hc1 : c1 = s.count + 1)
    (hsz : j.size ≤ 4096) (hu : j.used ≤ j.size) (hs : j.from_ + j.size ≤ D.secs.length) (hw : D.waits.length ≤ 80000) :
    Calls Try.prog 34 #[.pointer (some ⟨jb, 0, none⟩), .pointer (some ⟨sb, 0, none⟩), .pointer (some ⟨bb, 0, none⟩)] w fun e w' => e = .returned (.int .i64 (appendJ D j (lowL c1 8 ++ b)).1) ∧
      Sep w' (jnA q p (appendJ D j (lowL c1 8 ++ b)).2.2 :: diskA p (appendJ D j (lowL c1 8 ++ b)).2.1 :: blkA jb #[.pointer (some ⟨q, 0, none⟩)] 67 :: blkA sb #[.pointer (some ⟨sp, 0, none⟩)] 28 :: blkA bb #[.slice ba bn bc] 31 :: stA sp h0 h1 s tv :: R) := by
  have k1 := S.up2.blk_cell 0
  have k2 := S.up3.blk_cell 0
  have k3 := S.up4.blk_cell 0
  have k4 := S.up5.st.2.2.2.2.1
  simp at k1 k2 k3
  have q1 : IntKind.u64.wrap ((s.count : Int) + 1) = (c1 : Int) := by rw [IntKind.wrap_u64]; omega
  have hc64 : c1 < 18446744073709551616 := by omega
  obtain ⟨ct, hct⟩ : ∃ ct, ct = s.count := ⟨_, rfl⟩
  rw [← hct] at k4 q1
  have HS := Lib.hid S.drew
  have HB := Lib.hid hb
  have HBL := Lib.hid hbl
  have HNIL := Lib.hid hnil
  have HC := Lib.hid hc64
  have hll : (lowL c1 8 ++ b).length = 8 + bn := by rw [List.length_append, lowL_len, hbl]
  obtain ⟨rec, hrec⟩ : ∃ rec, rec = lowL c1 8 ++ b := ⟨_, rfl⟩
  rw [← hrec] at hll ⊢
  have HREC := Lib.hid hrec
  have HLL := Lib.hid hll
  have HCT := Lib.hid hct
  clear S hb hbl hnil hc hc1 hc64 hrec hll hct
  go_enter Try.func34, Try.ntmps34
  go_wp2_with fail
  go_region_held (fun w' => w'.cell? ⟨jb, 0, none⟩ = some (.pointer (some ⟨q, 0, none⟩)) ∧ w'.cell? ⟨sb, 0, none⟩ = some (.pointer (some ⟨sp, 0, none⟩)) ∧ w'.cell? ⟨bb, 0, none⟩ = some (.slice ba bn bc) ∧ w'.cell? ⟨sp, 4, none⟩ = some (.int .u64 (ct : Int)))
    (first | exact ⟨k1, k2, k3, k4⟩ | exact ⟨m1, m2, m3, m4⟩ | exact ⟨n1, n2, n3, n4⟩)
    (first
      | (go_at_call 36; refine (counted_sep HS.out c1 (c1 : Int) rfl HC.out ba bn bc b (HB.out.below (Below.refl _ _).drew) HBL.out (by omega) HNIL.out).mono ?_; rintro e w5 ⟨g, cap, rfl, hn5, S5, b5⟩; rw [← HREC.out] at S5; have m1 := S5.up3.blk_cell 0; have m2 := S5.up4.blk_cell 0; have m3 := S5.up5.blk_cell 0; have m4 := S5.up6.st.2.2.2.2.1; rw [← HCT.out] at m4; simp at m1 m2 m3; have HS5 := Lib.hid S5; have HN5 := Lib.hid hn5; clear S5 b5 hn5)
      | (go_at_call 35; refine (append_sep (HS5.out.up2.up2) HS5.out.bytes.reads HLL.out HN5.out (by omega) hsz hu hs hw).mono ?_; rintro e w6 ⟨rfl, S6⟩; have n1 := S6.up3.blk_cell 0; have n2 := S6.up4.blk_cell 0; have n3 := S6.up5.blk_cell 0; have n4 := S6.up6.st.2.2.2.2.1; rw [← HCT.out] at n4; simp at n1 n2 n3; have HS6 := Lib.hid S6; clear S6))
  all_goals
    have HS7 := Lib.hid HS6.out.up2.drop
    go_wp2
    go_ret
    exact ⟨rfl, HS7.out⟩
end
/-- What Save does to the half's journal: the first n of its four steps. -/
def saveN (D : Dk) (j : Jn) (rec : List UInt8) (n : Nat) : Int × Dk × Jn :=
  let s1 := resetJ D j
  let s2 := commitJ s1.2.1 s1.2.2
  let s3 := appendJ s2.2.1 s2.2.2 rec
  match n with
  | 0 => (0, D, j)
  | 1 => s1
  | 2 => s2
  | 3 => s3
  | _ + 4 => commitJ s3.2.1 s3.2.2
end Go.Proofs.Ytnekelndcpmonaa
