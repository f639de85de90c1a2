/- The reference's functions of chapter 03: Replay. -/
import Derived.Test.YtnekelndcpmonaaRefC
import Derived.Deep.RegionHeld
import Derived.Deep.CutBlock
import Derived.Deep.DeepCutAuto
set_option linter.all false
namespace Go.Proofs.Ytnekelndcpmonaa
open Go.RowKit
set_option linter.unusedVariables false

/-- Bytes as strings. -/
def strV (b : List UInt8) : Value := .string ⟨b.toArray⟩
def strs (l : List (List UInt8)) : List Value := l.map strV
theorem strs_len (l : List (List UInt8)) : (strs l).length = l.length := by simp [strs]
theorem strs_snoc (l : List (List UInt8)) (b : List UInt8) : strs (l ++ [b]) = strs l ++ [.string ⟨b.toArray⟩] := by simp [strs, strV]
theorem strs_at (l : List (List UInt8)) (i : Nat) (b : List UInt8) (h : l[i]? = some b) : (strs l)[i]? = some (.string ⟨b.toArray⟩) := by simp [strs, strV, h]
theorem strs_cell {w : World} {R : List Asn} {a : Option Addr} {n c : Nat} {xs : List (List UInt8)} (S : Sep w (ownA 9 1 (.slice a n c) n (strs xs) :: R)) (hn : xs.length = n) (i : Nat) (b : List UInt8) (h : xs[i]? = some b) :
    ∃ g, a = some ⟨g, 0, none⟩ ∧ w.cell? ⟨g, i, none⟩ = some (.string ⟨b.toArray⟩) := by
  have hi : i < n := by rw [← hn]; exact (List.getElem?_eq_some_iff.1 h).1
  have ho := S.own
  rcases ho.2 with ⟨_, e0⟩ | ⟨g, cap', cur, e, _, _, _⟩
  · omega
  · simp only [Value.slice.injEq] at e
    obtain ⟨rfl, _, rfl⟩ := e
    refine ⟨g, rfl, ?_⟩
    rw [World.ownsRow.cellAt ho i (by omega)]
    exact strs_at xs i b h
theorem infoStr : (Try.prog.info? 9).map (fun i => (i.zero, i.size, i.bytes)) = some (some (.string ByteArray.empty), 1, 16) := by kernel_rfl
theorem own_empty {w : World} {R : List Asn} {g : Nat} (h : Sep w (blkA g #[] 9 :: R)) : Sep w (ownA 9 1 (.slice (some ⟨g, 0, none⟩) 0 0) 0 [] :: R) := by
  obtain ⟨F, h1, h2, h3⟩ := h
  refine ⟨F, h1, ⟨⟨by simp, .inr ⟨g, 0, _, rfl, Nat.zero_le _, h2.1, Nat.le_refl _, by unfold maxLen; omega, by simp, by simp⟩⟩, fun k => (h2.2 k).trans ?_⟩, h3⟩
  simp [Value.ownBlock, eq_comm]

theorem one_fits {s : List UInt8} {n k : Nat} {b : List UInt8} (h : oneB s n = some (b, k)) (hs : s.length % 512 = 0) : 1 ≤ k ∧ 512 * k ≤ s.length := by
  unfold oneB at h
  split at h
  · cases h
  · split at h
    · cases h
    · split at h
      · cases h
      · simp only [Option.some.injEq, Prod.mk.injEq] at h
        omega
def RepPost (R : List Asn) (r : Option (List (List UInt8) × Nat × Nat)) (e : Ending) (w' : World) : Prop := match r with
  | none => e = .returned (.tuple #[.slice none 0 0, .int .u64 0, .int .i64 0, .bool false]) ∧ Sep w' R
  | some (l, n, u) => ∃ a c, e = .returned (.tuple #[.slice a l.length c, .int .u64 (n : Int), .int .i64 (u : Int), .bool true]) ∧ Sep w' (ownA 9 1 (.slice a l.length c) l.length (strs l) :: R)

set_option maxRecDepth 100000 in
set_option maxHeartbeats 4000000 in
theorem refReplay (w : World) (R : List Asn) (S : Sep w R) (s : List UInt8) (size : Nat) (hs : s.length = 512 * size) (h1 : 1 ≤ size) (h2 : size ≤ 1000) :
    Calls Try.prog 61 #[.string ⟨s.toArray⟩] w (RepPost R (replB s)) := by
  obtain ⟨t, ht⟩ : ∃ t : ByteArray, t = ⟨s.toArray⟩ := ⟨_, rfl⟩
  have htm : t.size = s.length := by rw [ht]; rfl
  obtain ⟨n, hn⟩ : ∃ n, n = numL (s.take 8) := ⟨_, rfl⟩
  have hn64 : n < 18446744073709551616 := by
    have h := numL_lt (s.take 8)
    have h3 : 256 ^ (s.take 8).length ≤ 256 ^ 8 := Nat.pow_le_pow_right (by omega) (List.length_take_le _ _)
    omega
  have c1 := fun (w : World) => refHigh (s.take 8) w (List.length_take_le _ _)
  rw [← hn] at c1
  have C1 := Lib.hid c1
  have hsl8 := slice_to t s ht 8 8 rfl (by omega)
  have hsl16 := slice_to t s ht 16 16 rfl (by omega)
  have HS := Lib.hid S
  rw [← ht]
  clear c1 S
  by_cases a1 : n < 1
  · have e1 : replB s = none := by unfold replB; rw [if_pos (.inl (by rw [← hn]; exact a1))]
    rw [e1]
    obtain rfl : n = 0 := by omega
    clear hn hn64 ht htm hs h1 h2 e1 a1 hsl16
    go_enter Try.func61, Try.ntmps61
    go_wp2_with fail
    refine (C1.out _).mono ?_
    rintro e w1 ⟨rfl, b1⟩
    have HS1 := Lib.hid (HS.out.below b1)
    clear b1
    go_wp2_with fail
    go_quiet (fail)
    go_wp2
    exact bodyPost_ret (v := .tuple #[.slice none 0 0, .int .u64 0, .int .i64 0, .bool false]) (by simp [results, Try.results61, go_sem]) rfl ⟨rfl, by first | exact HS1.out.drewN _ | exact HS1.out.drew | exact HS1.out⟩
  have n1 : (1 : Int) ≤ (n : Int) := by omega
  by_cases a2 : lastN < n
  · have e1 : replB s = none := by unfold replB; rw [if_pos (.inr (.inl (by rw [← hn]; exact a2)))]
    have n2 : decide ((4611686018427387904 : Int) < (n : Int)) = true := by unfold lastN at a2; simp; omega
    have n3 : decide ((n : Int) < 1) = false := by simp; omega
    rw [e1]
    clear hn hn64 ht htm hs h1 h2 e1 a1 a2 hsl16 n1
    go_enter Try.func61, Try.ntmps61
    go_wp2_with fail
    refine (C1.out _).mono ?_
    rintro e w1 ⟨rfl, b1⟩
    have HS1 := Lib.hid (HS.out.below b1)
    clear b1
    go_wp2_with fail
    go_quiet (fail)
    go_wp2
    exact bodyPost_ret (v := .tuple #[.slice none 0 0, .int .u64 0, .int .i64 0, .bool false]) (by simp [results, Try.results61, go_sem]) rfl ⟨rfl, by first | exact HS1.out.drewN _ | exact HS1.out.drew | exact HS1.out⟩
  have n2 : decide ((4611686018427387904 : Int) < (n : Int)) = false := by unfold lastN at a2; simp; omega
  have n3 : decide ((n : Int) < 1) = false := by simp; omega
  have hnl : n ≤ lastN := by omega
  have c2 := fun (w : World) => refBegin n (n : Int) w rfl (by unfold lastN at hnl; omega)
  obtain ⟨pp, hpp⟩ : ∃ pp : ByteArray, pp = ⟨(pic n startN []).toArray⟩ := ⟨_, rfl⟩
  rw [← hpp] at c2
  have hslp := slice_to pp (pic n startN []) hpp 16 16 rfl (by rw [begin_len]; omega)
  rw [pic_head] at hslp
  obtain ⟨hd, hhd⟩ : ∃ hd, hd = headL n startN [] := ⟨_, rfl⟩
  rw [← hhd] at hslp
  have C2 := Lib.hid c2
  by_cases a3 : hd = s.take 16
  · have e1 : replB s = some (replL s (s.length / 512) 1 (n + 1) []) := by unfold replB; rw [← hn, if_neg (by rw [← hhd]; simp [a3]; omega)]
    obtain ⟨⟨fl, fn, fu⟩, hfin⟩ : ∃ x, x = replL s (s.length / 512) 1 (n + 1) [] := ⟨_, rfl⟩
    rw [e1, ← hfin]
    rw [← a3] at hsl16
    rw [show s.length / 512 = size by omega] at hfin
    have HFIN := Lib.hid hfin
    have HT := Lib.hid ht
    have HTM := Lib.hid htm
    have HSL := Lib.hid hs
    have HNL := Lib.hid hnl
    clear hn hn64 ht htm hs e1 a1 a2 n1 hnl c2 hpp hhd a3 hfin
    go_enter Try.func61, Try.ntmps61
    go_wp2_with fail
    refine (C1.out _).mono ?_
    rintro e w1 ⟨rfl, b1⟩
    have HS1 := Lib.hid (HS.out.below b1)
    clear b1
    go_wp2_with fail
    go_region_held (fun _ => True) (exact trivial) ((go_at_call 13; refine (C2.out _).mono ?_; rintro e w3 ⟨rfl, b3⟩))
    have S3 := own_empty ((HS1.out.drew.below b3).alloc #[] 9)
    have HS3 := Lib.hid S3
    clear b3 S3 n2 n3 hsl8 hsl16 hslp
    (try simp only [Act.put, List.getElem_toArray, List.getElem_cons_zero, List.getElem_cons_succ, List.setIfInBounds_toArray, List.set_cons_zero, List.set_cons_succ, Bool.not_false, Bool.not_true])
    go_wp2_with fail
    go_loopw [6, 7, 8, 9, 10] (fun nv uv ov u9 u10 wr => ∃ (f u nn : Nat) (acc : List (List UInt8)) (a : Option Addr) (c : Nat), size - u ≤ f ∧ 1 ≤ u ∧ u ≤ size ∧ acc.length + 1 ≤ u ∧ nn ≤ lastN + acc.length ∧ nv = .int .u64 (nn : Int) ∧ uv = .int .i64 (u : Int) ∧ ov = .slice a acc.length c ∧ Hid (replL s f u (nn + 1) acc = (fl, fn, fu)) ∧ Sep wr (ownA 9 1 (.slice a acc.length c) acc.length (strs acc) :: R)) (fun _ uv _ _ _ _ => size - (intOf uv).toNat)
    case atStart => exact ⟨size, 1, n, [], _, _, by omega, Nat.le_refl _, h1, Nat.le_refl _, HNL.out, rfl, rfl, rfl, Lib.hid HFIN.out.symm, HS3.out⟩
    case round =>
      obtain ⟨f, u, nn, acc, a, c, hf, hu1, hu2, hacc, hnn, rfl, rfl, rfl, hrep, Sr⟩ := hrel
      have hn0 : (0 : Int) ≤ (nn : Int) := by omega
      have hn1 : (nn : Int) + 1 ≤ 4611686018427388904 := by unfold lastN at hnn; omega
      obtain ⟨n2, hn2⟩ : ∃ n2, n2 = nn + 1 := ⟨_, rfl⟩
      have hn3 : (nn : Int) + 1 = (n2 : Int) := by omega
      have hu0 : (0 : Int) ≤ (u : Int) := by omega
      have hu3 : (u : Int) ≤ 1000 := by omega
      rw [← hn2] at hrep
      have hslu := slice_from t s HT.out (512 * u) (512 * (u : Int)) (by omega) (by have := HSL.out; omega)
      have c3 := fun (w : World) => refOne (s.drop (512 * u)) n2 (n2 : Int) w rfl (by unfold lastN at hnn; omega) (by rw [List.length_drop]; have := HSL.out; omega)
      have C3 := Lib.hid c3
      have HSr := Lib.hid Sr
      have hdl : (s.drop (512 * u)).length = 512 * (size - u) := by rw [List.length_drop, HSL.out, Nat.mul_sub]
      cases ho : oneB (s.drop (512 * u)) n2 with
      | none =>
        have hres : (fl, fn, fu) = (acc, n2, u) := by
          rw [← hrep.out]
          cases f with
          | zero => rfl
          | succ f => rw [replL, ho]
        rw [ho] at C3
        cases hres
        clear c3 Sr hdl ho hn2 HFIN hnn
        go_wp2_with fail
        refine (C3.out _).mono ?_
        rintro e w4 ⟨rfl, b4⟩
        have HS4 := Lib.hid (HSr.out.below b4)
        clear b4
        go_wp2
        exact bodyPost_ret (v := .tuple #[.slice a fl.length c, .int .u64 (fn : Int), .int .i64 (fu : Int), .bool true]) (by simp [results, Try.results61, go_sem]) rfl ⟨a, c, rfl, HS4.out⟩
      | some x =>
        obtain ⟨b, k⟩ := x
        obtain ⟨hk1, hk2⟩ := one_fits ho (by rw [hdl]; omega)
        rw [hdl] at hk2
        obtain ⟨f, rfl⟩ : ∃ f', f = f' + 1 := ⟨f - 1, by omega⟩
        have hrep2 : replL s f (u + k) (n2 + 1) (acc ++ [b]) = (fl, fn, fu) := by
          have h := hrep.out
          rw [replL, ho] at h
          exact h
        rw [ho] at C3
        have HREP := Lib.hid hrep2
        have hk3 : (k : Int) ≤ 1000 := by omega
        have hk4 : (0 : Int) ≤ (k : Int) := by omega
        have hk5 : ((k : Int) == 0) = false := by simp; omega
        have hal : acc.length ≤ 1000 := by omega
        obtain ⟨ac, hac⟩ : ∃ ac, ac = acc.length := ⟨_, rfl⟩
        rw [← hac] at HSr
        have HAC := Lib.hid hac
        rw [← hac]
        have haci : ac ≤ 1000 := by omega
        clear c3 Sr hdl ho hrep2 hrep hac hn2
        go_wp2_with fail
        refine (C3.out _).mono ?_
        rintro e w4 ⟨rfl, b4⟩
        have S4 := HSr.out.below b4
        have T := (S4.alloc #[.string ⟨b.toArray⟩] 9).up1
        have hone : (Value.string ⟨b.toArray⟩).oneCell' = true := by rfl
        have hnew := Lib.hid (Sep.cell_new w4 (.string ⟨b.toArray⟩) 9)
        obtain ⟨i0, hi, hz0, hz1, hz2⟩ := info_parts infoStr
        have Hi := Lib.hid hi
        have Hz0 := Lib.hid hz0
        have Hz1 := Lib.hid hz1
        have Hz2 := Lib.hid hz2
        have Hone := Lib.hid hone
        have HT2 := Lib.hid T
        clear hi hz0 hz1 hz2 hone T S4 b4
        go_wp2_with (at_builtin; refine Sep.wpList_append Try.underlying44 Hi.out Hz0.out Hz1.out Hz2.out rfl (by decide) rfl (.tmp 45) (.tmp 47) rfl HT2.out rfl ⟨w4.heap.size, 0, none⟩ 1 1 [.string ⟨b.toArray⟩] rfl rfl hnew.out (by intro u hu; simp at hu; subst hu; exact Hone.out) (by unfold maxLen; omega) (by omega) ?next)
        case next =>
          intro ga2 ca2 w9 S10 _ _ _ _
          have S11 := S10.up1.drop
          rw [← strs_snoc] at S11
          have e9 : (acc ++ [b]).length = ac + 1 := by rw [List.length_append, List.length_singleton, ← HAC.out]
          have HE9 := Lib.hid e9
          have HS11 := Lib.hid S11
          clear S10 S11 e9 HT2
          go_wp2
          go_roundw
          case rel => exact ⟨f, u + k, n2, acc ++ [b], ga2, ca2, by omega, by omega, by omega, by rw [HE9.out]; have := HAC.out; omega, by rw [HE9.out]; have := HAC.out; omega, rfl, by go_num, by rw [HE9.out], HREP, by rw [HE9.out]; exact HS11.out⟩
          case measure => simp [intOf]; omega
  · have e1 : replB s = none := by unfold replB; rw [if_pos (.inr (.inr (by rw [← hn, ← hhd]; exact a3)))]
    have hq : (hd == s.take 16) = false := by simpa using a3
    rw [e1]
    clear hn hn64 ht htm hs h1 h2 e1 a1 a2 n1 hnl c2 hpp hhd a3
    go_enter Try.func61, Try.ntmps61
    go_wp2_with fail
    refine (C1.out _).mono ?_
    rintro e w1 ⟨rfl, b1⟩
    have HS1 := Lib.hid (HS.out.below b1)
    clear b1
    go_wp2_with fail
    go_region_held (fun _ => True) (exact trivial) ((go_at_call 13; refine (C2.out _).mono ?_; rintro e w3 ⟨rfl, b3⟩))
    all_goals
      have HS3 := Lib.hid (HS1.out.drew.below b3)
      clear b3
      (try simp only [Act.put, List.getElem_toArray, List.getElem_cons_zero, List.getElem_cons_succ, List.setIfInBounds_toArray, List.set_cons_zero, List.set_cons_succ, Bool.not_false, Bool.not_true])
      go_wp2
      exact bodyPost_ret (v := .tuple #[.slice none 0 0, .int .u64 0, .int .i64 0, .bool false]) (by simp [results, Try.results61, go_sem]) rfl ⟨rfl, HS3.out⟩
end Go.Proofs.Ytnekelndcpmonaa
