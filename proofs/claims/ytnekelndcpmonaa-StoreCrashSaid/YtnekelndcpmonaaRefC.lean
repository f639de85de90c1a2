/- The reference's functions of chapter 03: one. -/
import Derived.Test.YtnekelndcpmonaaRefB
set_option linter.all false
namespace Go.Proofs.Ytnekelndcpmonaa
open Go.RowKit
set_option linter.unusedVariables false

theorem extract_list (s : List UInt8) (lo hi : Nat) : (⟨s.toArray⟩ : ByteArray).extract lo hi = ⟨((s.drop lo).take (hi - lo)).toArray⟩ := by
  apply ByteArray.ext
  apply Array.ext'
  rw [ByteArray.data_extract, Array.toList_extract]
theorem slice_to (t : ByteArray) (s : List UInt8) (ht : t = ⟨s.toArray⟩) (hi : Nat) (H : Int) (hH : H = (hi : Int)) (h : hi ≤ s.length) (W : World) : (Instr.sliceAt 9 (.string t) none (some (.int .i64 H)) none).run Try.prog W = .ok (.string ⟨(s.take hi).toArray⟩) W := by
  subst hH
  have hz : t.size = s.length := by rw [ht]; rfl
  have e := extract_list s 0 hi
  rw [← ht, List.drop_zero, Nat.sub_zero] at e
  rw [← e]
  have a1 : (hi : Int) ≤ (t.size : Int) := by omega
  clear h ht e hz
  go_simp
theorem slice_mid (t : ByteArray) (s : List UInt8) (ht : t = ⟨s.toArray⟩) (lo hi : Nat) (L H : Int) (hL : L = (lo : Int)) (hH : H = (hi : Int)) (h0 : lo ≤ hi) (h : hi ≤ s.length) (W : World) : (Instr.sliceAt 9 (.string t) (some (.int .i64 L)) (some (.int .i64 H)) none).run Try.prog W = .ok (.string ⟨((s.drop lo).take (hi - lo)).toArray⟩) W := by
  have hz : t.size = s.length := by rw [ht]; rfl
  have e := extract_list s lo hi
  rw [← ht] at e
  rw [← e]
  have a1 : H ≤ (t.size : Int) := by omega
  have a2 : 0 ≤ L := by omega
  have a3 : 0 ≤ H := by omega
  have a4 : L ≤ (H.toNat : Int) := by omega
  have a5 : L.toNat = lo := by omega
  have a6 : H.toNat = hi := by omega
  have a7 : (lo : Int) ≤ (hi : Int) := by omega
  have a8 : L ≤ (hi : Int) := by omega
  have a9 : L ≤ H := by omega
  clear h h0 ht e hz hL hH
  go_simp
theorem slice_from (t : ByteArray) (s : List UInt8) (ht : t = ⟨s.toArray⟩) (lo : Nat) (L : Int) (hL : L = (lo : Int)) (h : lo ≤ s.length) (W : World) : (Instr.sliceAt 9 (.string t) (some (.int .i64 L)) none none).run Try.prog W = .ok (.string ⟨(s.drop lo).toArray⟩) W := by
  have hz : t.size = s.length := by rw [ht]; rfl
  have e := extract_list s lo t.size
  rw [← ht, List.take_of_length_le (by rw [List.length_drop]; omega)] at e
  rw [← e]
  have a1 : L ≤ (t.size : Int) := by omega
  have a2 : 0 ≤ L := by omega
  have a3 : L.toNat = lo := by omega
  clear h ht e hz hL
  go_simp

def OnePost (r : Option (List UInt8 × Nat)) (w : World) (e : Ending) (w' : World) : Prop := match r with
  | none => e = .returned (.tuple #[.string ⟨#[]⟩, .int .i64 0]) ∧ Below w.heap.size w w'
  | some (b, k) => e = .returned (.tuple #[.string ⟨b.toArray⟩, .int .i64 (k : Int)]) ∧ Below w.heap.size w w'
set_option maxRecDepth 100000 in
set_option maxHeartbeats 4000000 in
theorem refOne (s : List UInt8) (n : Nat) (N : Int) (w : World) (hN : N = (n : Int)) (hn : n < 9223372036854775808) (hs : s.length ≤ 1000000) :
    Calls Try.prog 71 #[.string ⟨s.toArray⟩, .int .u64 N] w (OnePost (oneB s n) w) := by
  subst hN
  obtain ⟨t, ht⟩ : ∃ t : ByteArray, t = ⟨s.toArray⟩ := ⟨_, rfl⟩
  obtain ⟨m, hm⟩ : ∃ m, m = s.length := ⟨_, rfl⟩
  have htm : t.size = m := by rw [ht, hm]; rfl
  have hm0 : (0 : Int) ≤ (m : Int) := by omega
  have hm1 : (m : Int) ≤ 1000000 := by omega
  have hn0 : (0 : Int) ≤ (n : Int) := by omega
  rw [← ht]
  by_cases h1 : s.length < 512
  · have h1' : (m : Int) < 512 := by omega
    rw [one_short h1]
    clear ht hm h1 hs hn
    go_enter Try.func71, Try.ntmps71
    go_wp2
    go_ret2
    exact ⟨rfl, Below.refl _ _⟩
  have h1' : ¬ (m : Int) < 512 := by omega
  by_cases h2 : lastN < n
  · have h2' : (4611686018427387904 : Int) < (n : Int) := by unfold lastN at h2; omega
    rw [one_last h2]
    clear ht hm h1 h2 hs hn
    go_enter Try.func71, Try.ntmps71
    go_wp2
    go_ret2
    exact ⟨rfl, Below.refl _ _⟩
  have h2' : ¬ (4611686018427387904 : Int) < (n : Int) := by unfold lastN at h2; omega
  have hsl8 := slice_to t s ht 8 8 rfl (by omega)
  have hsl16 := slice_to t s ht 16 16 rfl (by omega)
  have hsl12 := slice_mid t s ht 8 12 8 12 rfl rfl (by omega) (by omega)
  obtain ⟨x, hx⟩ : ∃ x, x = numL (s.take 8) := ⟨_, rfl⟩
  obtain ⟨len, hlen⟩ : ∃ len, len = numL ((s.drop 8).take 4) := ⟨_, rfl⟩
  have hl4 : len < 4294967296 := by rw [hlen]; exact num4_lt _
  have c1 := fun (w : World) => refHigh (s.take 8) w (List.length_take_le _ _)
  have c2 := fun (w : World) => refHigh ((s.drop 8).take 4) w (Nat.le_trans (List.length_take_le _ _) (by omega))
  rw [← hx] at c1
  rw [← hlen] at c2
  have C1 := Lib.hid c1
  have C2 := Lib.hid c2
  clear c1 c2
  by_cases h3 : numL (s.take 8) ≠ n
  · have h3' : ((x : Int) != (n : Int)) = true := by rw [hx]; simp; omega
    rw [one_num h3]
    clear ht hm h1 h2 hs hn hx hlen hl4 h3 hsl16 hsl12
    go_enter Try.func71, Try.ntmps71
    go_wp2_with fail
    refine (C1.out _).mono ?_
    rintro e w1 ⟨rfl, b1⟩
    go_wp2
    go_ret2
    exact ⟨rfl, b1⟩
  have h3' : x = n := by rw [hx]; omega
  have hl0 : (0 : Int) ≤ (len : Int) := by omega
  have hl1 : (len : Int) < 4294967296 := by omega
  by_cases h4 : s.length < len + 16
  · have h4' : (m : Int) < (len : Int) + 16 := by omega
    have ho : oneB s n = none := by unfold oneB; rw [if_neg (by omega), ← hlen, if_pos h4]
    rw [ho]
    rw [h3'] at C1
    clear ht hm h1 h2 hs hn hx hlen hl4 h3 h3' h4 ho hsl16
    go_enter Try.func71, Try.ntmps71
    go_wp2_with fail
    refine (C1.out _).mono ?_
    rintro e w1 ⟨rfl, b1⟩
    go_wp2_with fail
    refine (C2.out _).mono ?_
    rintro e w2 ⟨rfl, b2⟩
    go_wp2
    go_ret2
    exact ⟨rfl, b1.trans (b2.mono b1.size)⟩
  have h4' : ¬ (m : Int) < (len : Int) + 16 := by omega
  obtain ⟨b, hb⟩ : ∃ b, b = (s.drop 16).take len := ⟨_, rfl⟩
  have hbl : b.length = len := by rw [hb, List.length_take, List.length_drop]; omega
  have hslb := slice_mid t s ht 16 (16 + len) 16 (16 + (len : Int)) rfl (by omega) (by omega) (by omega)
  rw [show 16 + len - 16 = len by omega, ← hb] at hslb
  obtain ⟨sb, hsb⟩ : ∃ sb : ByteArray, sb = ⟨b.toArray⟩ := ⟨_, rfl⟩
  rw [← hsb] at hslb
  have c3 := fun (w : World) => refPicture n len (n : Int) (len : Int) b w rfl rfl (by omega) (by omega) (by omega)
  obtain ⟨pp, hpp⟩ : ∃ pp : ByteArray, pp = ⟨(pic n len b).toArray⟩ := ⟨_, rfl⟩
  rw [← hpp, ← hsb] at c3
  have hslp := slice_to pp (pic n len b) hpp 16 16 rfl (by rw [pic_len]; omega)
  rw [pic_head] at hslp
  obtain ⟨hd, hhd⟩ : ∃ hd, hd = headL n len b := ⟨_, rfl⟩
  rw [← hhd] at hslp
  have C3 := Lib.hid c3
  have hmb : (len : Int) ≤ 1000000 := by omega
  rw [h3'] at C1
  by_cases h5 : hd = s.take 16
  · have ho : oneB s n = some (b, (len + 527) / 512) := by unfold oneB; rw [if_neg (by omega), ← hlen, if_neg h4, ← hb, ← hhd, if_neg (by simpa using h5)]
    rw [ho]
    rw [← h5] at hsl16
    have hq : ((len : Int) + 16 + 511) / 512 = (((len + 527) / 512 : Nat) : Int) := by omega
    have HQ := Lib.hid hq
    have HSBX := Lib.hid hsb
    clear hq
    have hle : decide ((m : Int) < (len : Int) + 16) = false := by simpa using h4'
    clear ht hm h1 h2 hs hn hx hlen hl4 h3 h3' h4 ho hb hbl hsb c3 hpp hhd h5 h4'
    go_enter Try.func71, Try.ntmps71
    go_wp2_with fail
    refine (C1.out _).mono ?_
    rintro e w1 ⟨rfl, b1⟩
    go_wp2_with fail
    refine (C2.out _).mono ?_
    rintro e w2 ⟨rfl, b2⟩
    have HB := Lib.hid (b1.trans (b2.mono b1.size))
    clear b1 b2
    go_wp2_with fail
    go_region_with (first | (go_at_call 31; refine (C3.out _).mono ?_; rintro e w3 ⟨rfl, b3⟩))
    all_goals
      have HB2 := Lib.hid (HB.out.trans ((((Below.refl _ _).drew).trans (b3.mono (by simp))).mono HB.out.size))
      clear hle b3
      (try simp only [Act.put, List.getElem_toArray, List.getElem_cons_zero, List.getElem_cons_succ, List.setIfInBounds_toArray, List.set_cons_zero, List.set_cons_succ, Bool.not_false, Bool.not_true])
      go_wp2
      go_ret2
      exact ⟨by rw [HQ.out, ← HSBX.out]; rfl, HB2.out⟩
  · have ho : oneB s n = none := by unfold oneB; rw [if_neg (by omega), ← hlen, if_neg h4, ← hb, ← hhd, if_pos h5]
    rw [ho]
    have hq : (hd == s.take 16) = false := by simpa using h5
    have hle : decide ((m : Int) < (len : Int) + 16) = false := by simpa using h4'
    clear ht hm h1 h2 hs hn hx hlen hl4 h3 h3' h4 ho hb hbl hsb c3 hpp hhd h5 h4'
    go_enter Try.func71, Try.ntmps71
    go_wp2_with fail
    refine (C1.out _).mono ?_
    rintro e w1 ⟨rfl, b1⟩
    go_wp2_with fail
    refine (C2.out _).mono ?_
    rintro e w2 ⟨rfl, b2⟩
    have HB := Lib.hid (b1.trans (b2.mono b1.size))
    clear b1 b2
    go_wp2_with fail
    go_region_with (first | (go_at_call 31; refine (C3.out _).mono ?_; rintro e w3 ⟨rfl, b3⟩))
    all_goals
      have HB2 := Lib.hid (HB.out.trans ((((Below.refl _ _).drew).trans (b3.mono (by simp))).mono HB.out.size))
      clear hle b3
      (try simp only [Act.put, List.getElem_toArray, List.getElem_cons_zero, List.getElem_cons_succ, List.setIfInBounds_toArray, List.set_cons_zero, List.set_cons_succ, Bool.not_false, Bool.not_true])
      go_wp2
      go_ret2
      exact ⟨rfl, HB2.out⟩
end Go.Proofs.Ytnekelndcpmonaa
