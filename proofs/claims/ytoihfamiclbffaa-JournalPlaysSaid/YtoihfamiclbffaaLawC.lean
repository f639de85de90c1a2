/- law03's shown. -/
import Derived.Test.YtoihfamiclbffaaLawB
import Derived.Lib.SlBytesConst
namespace Go.Proofs.Ytoihfamiclbffaa
set_option linter.unusedVariables false
open Go.RowKit

def sc1 : Int × Dk × Jn := resetJ (Dk.new 5) ⟨1, 4, 0, 1, false⟩
def sc2 : Int × Dk × Jn := commitJ sc1.2.1 sc1.2.2
def sc3 : Int × Dk × Jn := appendJ sc2.2.1 sc2.2.2 [97, 98, 99]
def sc4 : Int × Dk × Jn := commitJ sc3.2.1 sc3.2.2
def sc5 : Int × Dk × Jn := appendJ sc4.2.1 sc4.2.2 (List.replicate 2000 0)
def sc6 : OpnR := opnJ (sc5.2.1.crash []).start 1 4
def fitB (x : Int × Dk × Jn) : Bool := decide (x.2.2.from_ = 1) && decide (x.2.2.size = 4) && decide (x.2.2.used ≤ 4) && decide (x.2.1.secs.length = 5) && decide (x.2.1.waits.length ≤ 100)
theorem fit_spec {x : Int × Dk × Jn} (h : fitB x = true) : x.2.2.from_ = 1 ∧ x.2.2.size = 4 ∧ x.2.2.used ≤ 4 ∧ x.2.1.secs.length = 5 ∧ x.2.1.waits.length ≤ 100 := by
  unfold fitB at h
  simp only [Bool.and_eq_true, decide_eq_true_eq] at h
  omega
theorem sc_all : (sc1.1 = 0 ∧ sc2.1 = 0 ∧ sc3.1 = 0 ∧ sc4.1 = 0 ∧ sc5.1 = 5) ∧ (fitB sc2 = true ∧ fitB sc4 = true) ∧ ((sc5.2.1.crash []).start.secs.length = 5) ∧
    (match sc6 with | .ok l D j => l == [[97, 98, 99]] && j.next == 3 && j.used == 2 && j.size == 4 | _ => false) = true := by
  refine ⟨⟨?_, ?_, ?_, ?_, ?_⟩, ⟨?_, ?_⟩, ?_, ?_⟩ <;> decide +kernel
theorem sc_open : ∃ D6 j6, sc6 = .ok [[97, 98, 99]] D6 j6 ∧ j6.next = 3 ∧ j6.used = 2 ∧ j6.size = 4 := by
  have h := sc_all.2.2.2
  cases hs : sc6 with
  | err e D => rw [hs] at h; cases h
  | ok l D j =>
    rw [hs] at h
    simp only [Bool.and_eq_true, beq_iff_eq] at h
    exact ⟨D, j, by rw [h.1.1.1], h.1.1.2, h.1.2, h.2⟩

/-- One of the records: where its header lies, and where its bytes. -/
theorem recs_at {w : World} {a : Option Addr} {n cap : Nat} {rs : List Rec} {R : List Asn} (h : Sep w (recsA (.slice a n cap) rs :: R)) (hok : ∀ r ∈ rs, r.ok) (i : Nat) (r : Rec) (hi : rs[i]? = some r) :
    ∃ g, a = some ⟨g, 0, none⟩ ∧ w.cell? ⟨g, i, none⟩ = some (.slice (some ⟨r.g, 16, none⟩) r.n (r.cap - 16)) ∧ BytesAt w (some ⟨r.g, 16, none⟩) r.bytes ∧ r.bytes.length = r.n := by
  have h1 := recs_open h
  obtain ⟨hil, hir⟩ := List.getElem?_eq_some_iff.1 hi
  have hrok := hok r (by rw [← hir]; exact List.getElem_mem hil)
  have ho := h1.own
  have h2 := Sep.pull i (by simpa using hil) h1.drop
  rw [List.getElem_map, hir] at h2
  have hb := h2.bytes
  have hbl := hb.len
  refine (?_ : ∃ g, a = some ⟨g, 0, none⟩ ∧ w.cell? ⟨g, i, none⟩ = some (.slice (some ⟨r.g, 16, none⟩) r.n (r.cap - 16))).elim fun g hg => ⟨g, hg.1, hg.2, hb.sub 16 r.n (by have := hrok.1; omega), ?_⟩
  · rcases ho.2 with ⟨_, e0⟩ | ⟨g, cap', cur, e, _, _, _⟩
    · omega
    · simp only [Value.slice.injEq] at e
      obtain ⟨rfl, _, rfl⟩ := e
      refine ⟨g, rfl, ?_⟩
      have ho2 := ho
      rename_i hlen
      have hn : n = rs.length := by omega
      subst hn
      rw [World.ownsRow.cellAt ho2 i (by omega)]
      simp [hi, Rec.val]
  · unfold Rec.bytes; rw [List.length_take, List.length_drop, hbl]; have := hrok.1; omega
theorem one_of {rs : List Rec} {b : List UInt8} (h : rs.map Rec.bytes = [b]) : ∃ r : Rec, rs = [r] ∧ r.bytes = b := by
  cases rs with
  | nil => cases h
  | cons r rs =>
    cases rs with
    | nil => exact ⟨r, rfl, by simpa using h⟩
    | cons _ _ => simp at h
theorem pair_eta {x : Int × Dk × Jn} {n : Int} (h : x.1 = n) : x = (n, x.2.1, x.2.2) := by subst h; rfl
theorem sc_ex : ∃ D1 j1 D2 j2 D3 j3 D4 j4 D5 j5 D6 j6, (resetJ (Dk.new 5) ⟨1, 4, 0, 1, false⟩ = (0, D1, j1) ∧ commitJ D1 j1 = (0, D2, j2) ∧ appendJ D2 j2 [97, 98, 99] = (0, D3, j3) ∧ commitJ D3 j3 = (0, D4, j4) ∧ appendJ D4 j4 (List.replicate 2000 0) = (5, D5, j5) ∧ opnJ (D5.crash []).start 1 4 = .ok [[97, 98, 99]] D6 j6) ∧
    (j2.from_ = 1 ∧ j2.size = 4 ∧ j2.used ≤ 4 ∧ D2.secs.length = 5 ∧ D2.waits.length ≤ 100) ∧ (j4.from_ = 1 ∧ j4.size = 4 ∧ j4.used ≤ 4 ∧ D4.secs.length = 5 ∧ D4.waits.length ≤ 100) ∧ (D5.crash []).start.secs.length = 5 ∧ (j6.next = 3 ∧ j6.used = 2 ∧ j6.size = 4) := by
  obtain ⟨⟨a1, a2, a3, a4, a5⟩, ⟨b2, b4⟩, b5, _⟩ := sc_all
  obtain ⟨D6, j6, ho, h6⟩ := sc_open
  have e1 : resetJ (Dk.new 5) ⟨1, 4, 0, 1, false⟩ = (0, sc1.2.1, sc1.2.2) := pair_eta (x := sc1) a1
  have e2 : commitJ sc1.2.1 sc1.2.2 = (0, sc2.2.1, sc2.2.2) := pair_eta (x := sc2) a2
  have e3 : appendJ sc2.2.1 sc2.2.2 [97, 98, 99] = (0, sc3.2.1, sc3.2.2) := pair_eta (x := sc3) a3
  have e4 : commitJ sc3.2.1 sc3.2.2 = (0, sc4.2.1, sc4.2.2) := pair_eta (x := sc4) a4
  have e5 : appendJ sc4.2.1 sc4.2.2 (List.replicate 2000 0) = (5, sc5.2.1, sc5.2.2) := pair_eta (x := sc5) a5
  have e6 : opnJ (sc5.2.1.crash []).start 1 4 = .ok [[97, 98, 99]] D6 j6 := ho
  exact ⟨sc1.2.1, sc1.2.2, sc2.2.1, sc2.2.2, sc3.2.1, sc3.2.2, sc4.2.1, sc4.2.2, sc5.2.1, sc5.2.2, D6, j6, ⟨e1, e2, e3, e4, e5, e6⟩, fit_spec b2, fit_spec b4, b5, h6⟩

section
variable {w : World} {R : List Asn}
set_option maxRecDepth 20000 in
set_option maxHeartbeats 4000000 in
theorem shown3_sep (S : Sep w R) :
    Calls Try.prog 10 #[] w fun e w' => e = .returned (.bool true) ∧ Sep w' R := by
  obtain ⟨D1, j1, D2, j2, D3, j3, D4, j4, D5, j5, D6, j6, ⟨e1, e2, e3, e4, e5, e6⟩, hf, hh, b5, h6⟩ := sc_ex
  have hnl : (Dk.new 5).secs.length = 5 := by simp [Dk.new]
  have hnw : (Dk.new 5).waits.length = 0 := rfl
  have HS := Lib.hid S
  have E1 := Lib.hid e1
  have E2 := Lib.hid e2
  have E3 := Lib.hid e3
  have E4 := Lib.hid e4
  have E5 := Lib.hid e5
  have E6 := Lib.hid e6
  have HF := Lib.hid hf
  have HH := Lib.hid hh
  have HB := Lib.hid b5
  have HN := Lib.hid hnl
  have H6 := Lib.hid h6
  clear S e1 e2 e3 e4 e5 e6 hf hh b5 hnl hnw h6
  have hcv := fun (w : World) (C : Array Value) (n c : Nat) => Go.Lib.run_convert_bytes_const (P := Try.prog) w 33 5 C n c Try.underlying33 Try.underlying5
  go_enter Try.func10, Try.ntmps10
  go_wp2_with fail
  refine (new_sep HS.out 5 _ rfl (by omega) (by omega)).mono ?_
  rintro e w1 ⟨p, rfl, S1⟩
  have HS1 := Lib.hid S1
  clear S1
  go_wp2_with fail
  refine (format_sep HS1.out 1 4 _ _ rfl rfl (by omega) (by rw [HN.out]; omega) (by show 0 ≤ _; omega) D1 D2 j1 j2 E1.out E2.out).mono ?_
  rintro e w2 ⟨q, rfl, S2⟩
  have HS2 := Lib.hid S2
  clear S2
  have S3 := HS2.out.alloc0 (.cells ([97, 98, 99].map byteV).toArray 5 (3, 4))
  have hr3 : BytesAt (w2.alloc (.cells ([97, 98, 99].map byteV).toArray 5 (3, 4))) (some ⟨w2.heap.size, 0, none⟩) [97, 98, 99] := BytesAt.made [97, 98, 99] rfl
  have HS3 := Lib.hid S3
  have Hr3 := Lib.hid hr3
  clear S3 hr3
  go_wp2_with fail
  refine (append_sep HS3.out Hr3.out (show ([97, 98, 99] : List UInt8).length = 3 from rfl) (by simp) (by omega) (by have := HF.out; omega) (by have := HF.out; omega) (by have := HF.out; omega) (by have := HF.out; omega)).mono ?_
  rw [E3.out]
  rintro e w3 ⟨rfl, S4⟩
  have HS4 := Lib.hid S4
  clear S4 hcv HS3 Hr3
  go_wp2_with fail
  refine (commit_sep HS4.out).mono ?_
  rw [E4.out]
  rintro e w4 ⟨rfl, S5⟩
  have HS5 := Lib.hid S5
  clear S5
  have hmk : (Instr.makeSlice 33 (.int .i64 2000) (.int .i64 2000)).run Try.prog w4 = _ := run_make_zeros w4 2000 (by omega)
  have S6 := made_bytes HS5.out 2000 (by omega)
  obtain ⟨w5, hw5⟩ : ∃ w5, w5 = w4.alloc (.cells ((List.replicate 2000 (0 : UInt8)).map byteV).toArray 5) := ⟨_, rfl⟩
  rw [← hw5] at hmk S6
  have hr6 := S6.bytes.reads
  have HS6 := Lib.hid S6.dn2
  have Hr6 := Lib.hid hr6
  clear hw5 S6 hr6
  go_wp2_with fail
  refine (append_sep HS6.out Hr6.out (List.length_replicate ..) (by simp) (by omega) (by have := HH.out; omega) (by have := HH.out; omega) (by have := HH.out; omega) (by have := HH.out; omega)).mono ?_
  rw [E5.out]
  rintro e w6 ⟨rfl, S7⟩
  have HS7 := Lib.hid S7.up1
  clear S7 HS6 Hr6 hmk
  go_wp2_with fail
  refine (crash_nil HS7.out).mono ?_
  rintro e w7 ⟨rfl, S8⟩
  have HS8 := Lib.hid S8
  clear S8
  go_wp2_with fail
  refine (start_sep HS8.out).mono ?_
  rintro e w8 ⟨rfl, S9⟩
  have HS9 := Lib.hid S9
  clear S9
  go_wp2_with fail
  refine (open_sep HS9.out 1 4 _ _ rfl rfl (by omega) (by omega) (by rw [HB.out]; omega)).mono ?_
  rw [E6.out]
  rintro e w9 ⟨k, v, rs, rfl, hl, hok, ⟨a, cap, rfl⟩, S10⟩
  obtain ⟨r, rfl, hrb⟩ := one_of hl
  obtain ⟨g, rfl, hc, hb, hbl⟩ := recs_at S10.up1 hok 0 r rfl
  have tr : (convert 33 9 (.slice (some ⟨r.g, 16, none⟩) r.n (r.cap - 16))).run Try.prog w9 = _ := run_string hb r.n _ hbl
  rw [hrb] at tr
  have hR : roomJ j6 = 1008 := by unfold roomJ; rw [H6.out.2.1, H6.out.2.2]; rfl
  have hX : j6.next = 3 := H6.out.1
  have HR := Lib.hid hR
  have HX := Lib.hid hX
  have HS10 := Lib.hid S10
  clear hok hl hrb hb hbl S10 hR hX
  go_wp2_with fail
  refine (next_sep HS10.out).mono ?_
  rw [HX.out]
  rintro e w11 ⟨rfl, rfl⟩
  go_wp2_with fail
  refine (room_sep HS10.out (by have := H6.out; omega) (by have := H6.out; omega)).mono ?_
  rw [HR.out]
  rintro e w12 ⟨rfl, rfl⟩
  have HS12 := Lib.hid HS10.out.drop.drop.drop.drop.drop.drew
  go_wp2
  go_ret
  exact ⟨rfl, HS12.out⟩
end
end Go.Proofs.Ytoihfamiclbffaa
