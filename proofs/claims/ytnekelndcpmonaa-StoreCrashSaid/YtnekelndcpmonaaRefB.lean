/- The reference's functions of chapter 03: Picture, Record, Begin. -/
import Derived.Test.YtnekelndcpmonaaRefA
set_option linter.all false
namespace Go.Proofs.Ytnekelndcpmonaa
open Go.RowKit
set_option linter.unusedVariables false

theorem cat_string (a b : List UInt8) : (⟨a.toArray⟩ : ByteArray) ++ (⟨b.toArray⟩ : ByteArray) = ⟨(a ++ b).toArray⟩ := by
  apply ByteArray.ext
  apply Array.ext'
  simp
theorem size_string (a : List UInt8) : (⟨a.toArray⟩ : ByteArray).size = a.length := rfl
/-- A string of so many bytes, in the walk's form. -/
theorem len_cast (a : List UInt8) (n : Nat) (h : a.length = n) : ((⟨a.toArray⟩ : ByteArray).size : Int) = (n : Int) := by rw [size_string, h]
def lenV : Value → Nat | .string s => s.size | _ => 0
theorem pad_snoc (h : List UInt8) (k : Nat) : (⟨(h ++ List.replicate k 0).toArray⟩ : ByteArray) ++ (⟨#[0]⟩ : ByteArray) = ⟨(h ++ List.replicate (k + 1) 0).toArray⟩ := by
  rw [show (⟨#[0]⟩ : ByteArray) = ⟨([0] : List UInt8).toArray⟩ from rfl, cat_string, List.append_assoc, List.replicate_succ']
set_option maxRecDepth 20000 in
set_option maxHeartbeats 1600000 in
theorem refPicture (n len : Nat) (N L : Int) (b : List UInt8) (w : World) (hN : N = (n : Int)) (hL : L = (len : Int)) (hn : n < 18446744073709551616) (hl : len < 18446744073709551616) (hb : b.length ≤ 1000000) :
    Calls Try.prog 31 #[.int .u64 N, .int .u64 L, .string ⟨b.toArray⟩] w fun e w' => e = .returned (.string ⟨(pic n len b).toArray⟩) ∧ Below w.heap.size w w' := by
  subst hN hL
  obtain ⟨m, hm⟩ : ∃ m, m = b.length := ⟨_, rfl⟩
  obtain ⟨s1, h1⟩ : ∃ s : ByteArray, s = ⟨(lowL n 8).toArray⟩ := ⟨_, rfl⟩
  obtain ⟨s2, h2⟩ : ∃ s : ByteArray, s = ⟨(lowL len 4).toArray⟩ := ⟨_, rfl⟩
  obtain ⟨s3, h3⟩ : ∃ s : ByteArray, s = ⟨b.toArray⟩ := ⟨_, rfl⟩
  have l1 : s1.size = 8 := by rw [h1, size_string, lowL_len]
  have l2 : s2.size = 4 := by rw [h2, size_string, lowL_len]
  have l3 : s3.size = m := by rw [h3, size_string, hm]
  obtain ⟨s4, h4⟩ : ∃ s : ByteArray, s1 ++ s2 = s := ⟨_, rfl⟩
  have l4 : s4.size = 12 := by rw [← h4, ByteArray.size_append, l1, l2]
  obtain ⟨s5, h5⟩ : ∃ s : ByteArray, s4 ++ s3 = s := ⟨_, rfl⟩
  have l5 : s5.size = 12 + m := by rw [← h5, ByteArray.size_append, l4, l3]
  have e4 : s4 = ⟨(preL n len).toArray⟩ := by rw [← h4, h1, h2, cat_string]; rfl
  have e5 : s5 = ⟨(preL n len ++ b).toArray⟩ := by rw [← h5, e4, h3, cat_string]
  obtain ⟨sv, hsv⟩ : ∃ sv : Nat, sv = sumN (preL n len ++ b) := ⟨_, rfl⟩
  have hsum : Crc.num (Crc.more 0#32 s5.data.toList) = (sv : Int) := by rw [e5, hsv]; unfold sumN Crc.num; simp
  have hsv4 : (sv : Int) < 4294967296 := by rw [← hsum]; exact Crc.num_lt _
  have hsv0 : (0 : Int) ≤ (sv : Int) := by omega
  obtain ⟨s6, h6⟩ : ∃ s : ByteArray, s = ⟨(lowL sv 4).toArray⟩ := ⟨_, rfl⟩
  have l6 : s6.size = 4 := by rw [h6, size_string, lowL_len]
  obtain ⟨s7, h7⟩ : ∃ s : ByteArray, s4 ++ s6 = s := ⟨_, rfl⟩
  have l7 : s7.size = 16 := by rw [← h7, ByteArray.size_append, l4, l6]
  obtain ⟨s8, h8⟩ : ∃ s : ByteArray, s7 ++ s3 = s := ⟨_, rfl⟩
  have e8 : s8 = ⟨(headL n len b ++ b).toArray⟩ := by rw [← h8, ← h7, e4, h6, h3, cat_string, cat_string, hsv]; rfl
  have hL8 : (headL n len b ++ b).length = 16 + m := by rw [List.length_append, headL_len, hm]
  have hmb : m ≤ 1000000 := by omega
  have c1 := fun (w : World) => refLow 8 n (n : Int) 8 w rfl rfl hn (by omega)
  have c2 := fun (w : World) => refLow 4 len (len : Int) 4 w rfl rfl hl (by omega)
  have c3 := fun (w : World) => refSum_calls s5 w (by rw [l5]; omega)
  have c4 := fun (w : World) => refLow 4 sv (sv : Int) 4 w rfl rfl (by omega) (by omega)
  rw [← h1] at c1
  rw [← h2] at c2
  rw [hsum] at c3
  rw [← h6] at c4
  rw [← h3]
  have C1 := Lib.hid c1
  have C2 := Lib.hid c2
  have C3 := Lib.hid c3
  have C4 := Lib.hid c4
  have E8 := Lib.hid e8
  have HL8 := Lib.hid hL8
  have HM := Lib.hid hm
  clear c1 c2 c3 c4 e8 hL8 hm h1 h2 h3 h6 e4 e5 hsum hsv hn hl hb l5
  go_enter Try.func31, Try.ntmps31
  go_wp2_with fail
  refine (C1.out _).mono ?_
  rintro e w1 ⟨rfl, b1⟩
  go_wp2_with fail
  refine (C2.out _).mono ?_
  rintro e w2 ⟨rfl, b2⟩
  go_wp2_with fail
  refine (C3.out _).mono ?_
  rintro e w3 ⟨rfl, rfl⟩
  go_wp2_with fail
  refine (C4.out _).mono ?_
  rintro e w4 ⟨rfl, b4⟩
  have B := Lib.hid (((b1.trans (b2.mono b1.size)).trans (b4.mono (Nat.le_trans b1.size b2.size))))
  clear b1 b2 b4
  obtain ⟨z, hz⟩ : ∃ z, z = (512 - (16 + m) % 512) % 512 := ⟨_, rfl⟩
  obtain ⟨h, hh⟩ : ∃ h, h = headL n len b ++ b := ⟨_, rfl⟩
  have hpic : pic n len b = h ++ List.replicate z 0 := by unfold pic padTo; rw [← hh, hz, hh, HL8.out]
  have HP := Lib.hid hpic
  have HZ := Lib.hid hz
  have hhl : h.length = 16 + m := by rw [hh, HL8.out]
  have HHL := Lib.hid hhl
  have e9 : s8 = ⟨(h ++ List.replicate 0 0).toArray⟩ := by rw [E8.out, hh]; simp
  have E9 := Lib.hid e9
  clear hpic hz hh hhl e9
  go_wp2_with fail
  go_loop [8] (fun pv => ∃ k : Nat, k ≤ z ∧ pv = .string ⟨(h ++ List.replicate k 0).toArray⟩) (fun pv => 16 + m + z - lenV pv)
  case atStart => exact ⟨0, Nat.zero_le _, by rw [E9.out]⟩
  case round =>
    obtain ⟨k, hk, rfl⟩ := hrel
    obtain ⟨t, ht⟩ : ∃ t : ByteArray, t = ⟨(h ++ List.replicate k 0).toArray⟩ := ⟨_, rfl⟩
    have hts : t.size = 16 + m + k := by rw [ht, size_string, List.length_append, List.length_replicate, HHL.out]
    have hsn : t ++ (⟨#[0]⟩ : ByteArray) = ⟨(h ++ List.replicate (k + 1) 0).toArray⟩ := by rw [ht, pad_snoc]
    have hk0 : k ≤ 511 := by have := HZ.out; omega
    have HSN := Lib.hid hsn
    have HTS := Lib.hid hts
    have HT := Lib.hid ht
    rw [← ht]
    obtain ⟨c, hc⟩ : ∃ c : Nat, c = t.size := ⟨_, rfl⟩
    have hc0 : (0 : Int) ≤ (c : Int) := by omega
    have hc1 : (c : Int) ≤ 2000000 := by omega
    have hcc : t.size = c := hc.symm
    by_cases hlt : k < z
    · have hne : ((c : Int) % 512 != 0) = true := by have := HZ.out; simp; omega
      clear ht hts hsn hc hk0
      go_wp2
      go_round
      case rel => exact ⟨k + 1, by omega, by rw [HSN.out]⟩
      case measure => rw [HSN.out]; show 16 + m + z - (⟨(h ++ List.replicate (k + 1) 0).toArray⟩ : ByteArray).size < 16 + m + z - t.size; rw [size_string, List.length_append, List.length_replicate, HHL.out, HTS.out]; omega
    · have hne : ((c : Int) % 512 != 0) = false := by have := HZ.out; simp; omega
      have hkz : k = z := by omega
      clear ht hts hsn hc hk0
      go_wp2
      go_ret
      exact ⟨by rw [HP.out, ← hkz, HT.out]; rfl, B.out⟩
set_option maxHeartbeats 1600000 in
theorem refRecord (n : Nat) (N : Int) (b : List UInt8) (w : World) (hN : N = (n : Int)) (hn : n < 18446744073709551616) (hb : b.length ≤ 1000000) :
    Calls Try.prog 16 #[.int .u64 N, .string ⟨b.toArray⟩] w fun e w' => e = .returned (.string ⟨(pic n b.length b).toArray⟩) ∧ Below w.heap.size w w' := by
  subst hN
  obtain ⟨m, hm⟩ : ∃ m, m = b.length := ⟨_, rfl⟩
  obtain ⟨s, hs⟩ : ∃ s : ByteArray, s = ⟨b.toArray⟩ := ⟨_, rfl⟩
  have hsz : s.size = m := by rw [hs, size_string, hm]
  have c1 := fun (w : World) => refPicture n m (n : Int) (m : Int) b w rfl rfl hn (by omega) hb
  rw [← hs] at c1 ⊢
  rw [← hm]
  have hm1 : (m : Int) ≤ 1000000 := by omega
  have hm0 : (0 : Int) ≤ (m : Int) := by omega
  have C1 := Lib.hid c1
  clear c1 hs hm hn hb
  go_enter Try.func16, Try.ntmps16
  go_wp2_with fail
  refine (C1.out _).mono ?_
  rintro e w1 ⟨rfl, b1⟩
  go_wp2
  go_ret
  exact ⟨rfl, b1⟩
set_option maxHeartbeats 1600000 in
theorem refBegin (n : Nat) (N : Int) (w : World) (hN : N = (n : Int)) (hn : n < 18446744073709551616) :
    Calls Try.prog 13 #[.int .u64 N] w fun e w' => e = .returned (.string ⟨(pic n startN []).toArray⟩) ∧ Below w.heap.size w w' := by
  subst hN
  have c1 := fun (w : World) => refPicture n startN (n : Int) 4294967295 [] w rfl rfl hn (by unfold startN; omega) (by simp)
  have C1 := Lib.hid c1
  clear c1 hn
  go_enter Try.func13, Try.ntmps13
  go_wp2_with fail
  refine (C1.out _).mono ?_
  rintro e w1 ⟨rfl, b1⟩
  go_wp2
  go_ret
  exact ⟨rfl, b1⟩
end Go.Proofs.Ytnekelndcpmonaa
