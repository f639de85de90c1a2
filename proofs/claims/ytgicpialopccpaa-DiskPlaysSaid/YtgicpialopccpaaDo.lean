/- law01's do. -/
import Derived.Test.YtgicpialopccpaaRd5
import Derived.Test.YtgicpialopccpaaOpenS
import Derived.Test.YtgicpialopccpaaDiskS
namespace Go.Proofs.Ytgicpialopccpaa
open Go.RowKit
set_option linter.unusedVariables false

section
variable {w : World} {R : List Asn} {p r : Nat} {D : Dk}
theorem write_arg_sep (S : Sep w (diskA p D :: R)) (I : Int) (a : Option Addr) (n c : Nat) (h : ¬ (0 ≤ I ∧ I < (D.secs.length : Int) ∧ n = 512)) :
    Calls Try.prog 14 #[.pointer (some ⟨p, 0, none⟩), .int .i64 I, .slice a n c] w fun e w' => e = .returned (.int .i64 1) ∧ Sep w' (diskA p D :: R) := by
  obtain ⟨M, hD, h1, _⟩ := S.disk
  exact (write_arg w p D M I a n c hD h).mono fun e w' h => ⟨h.1, h.2 ▸ S⟩
theorem arm_neg_sep (S : Sep w (diskA p D :: R)) (n : Int) (hn : n < 0) (v : Value) (keep : List Bool) :
    Calls Try.prog 12 #[.pointer (some ⟨p, 0, none⟩), .int .i64 n, v] w fun e w' => e = .returned (.tuple #[]) ∧ Sep w' (diskA p (D.arm n keep) :: R) := by
  obtain ⟨M, hD, h1, _⟩ := S.disk
  exact (arm_not w p D M n keep hD hn v).mono fun e w' h => ⟨h.1, h1 w' _ h.2.1 h.2.2⟩
def inD (D : Dk) (i : Int) : Prop := 0 ≤ i ∧ i < (D.secs.length : Int)
instance (D : Dk) (i : Int) : Decidable (inD D i) := by unfold inD; infer_instance
def stepD (D : Dk) (x : StepD) : Dk :=
  if x.kind = 1 then (if inD D x.at_ then D.begun else D)
  else if x.kind = 2 then (if inD D x.at_ ∧ x.short = false then D.write x.at_.toNat (full x.fill) else D)
  else if x.kind = 3 then D.barrier
  else if x.kind = 4 then D.crash (x.keep.take 60)
  else if x.kind = 5 then D.start
  else if x.kind = 6 then D.arm x.n (x.keep.take 60)
  else D
structure PlD (D : Dk) (n : Nat) : Prop where
  len : D.secs.length = n
  n1 : 1 ≤ n ∧ n ≤ 16
  waits : D.waits.length ≤ 100
  keeps : D.keeps.length ≤ 60
  left : ∀ x, D.armed = some x → x.1 ≤ 9223372036854775807
set_option maxRecDepth 20000 in
set_option maxHeartbeats 4000000 in
theorem do_3 {w0 : World} {n : Nat} (S : Sep w (diskA p D :: rdA r D :: oldA w0 :: R)) (P : PlD D n) (x : StepD) (hb : BoolsAt w0 x.ka x.keep) (hcap : x.keep.length ≤ x.kc ∧ x.kc ≤ maxLen ∧ (x.ka = none → x.kc = 0)) (hnb : x.n ≤ 9223372036854775807) (hk : x.kind = 3) :
    Calls Try.prog 21 #[.pointer (some ⟨p, 0, none⟩), .pointer (some ⟨r, 0, none⟩), x.val] w fun e w' => e = .returned (.bool true) ∧ Sep w' (diskA p (D.barrier) :: rdA r (D.barrier) :: oldA w0 :: R) := by
  obtain ⟨kind, at_, nn, fill, short, ka, kc, keep⟩ := x
  dsimp only at hb hcap hk ⊢
  subst hk
  obtain ⟨hok, hl1, hl3⟩ := dk_len S
  obtain ⟨m, hm⟩ : ∃ m, m = min keep.length 60 := ⟨_, rfl⟩
  have hmin : (if (60 : Int) < (keep.length : Int) then (60 : Int) else (keep.length : Int)) = (m : Int) := by rw [hm]; split <;> omega
  have hmk : (keep.take 60).length = m := by rw [List.length_take]; omega
  have hm60 : m ≤ 60 := by omega
  have hmc : (m : Int) ≤ (kc : Int) := by omega
  have hm0 : (0 : Int) ≤ (m : Int) := by omega
  obtain ⟨kl, hkl⟩ : ∃ kl, kl = keep.take 60 := ⟨_, rfl⟩
  have hbk : BoolsAt w0 ka kl := fun i hi => by
    rw [hkl, List.length_take] at hi
    obtain ⟨b, o, e, hc⟩ := hb i (by omega)
    refine ⟨b, o, e, ?_⟩
    rw [hc, hkl]
    simp [List.getD, List.getElem?_take, show i < 60 by omega]
  rw [← hkl] at hmk 
  have hlen0 : (0 : Int) ≤ (keep.length : Int) := by omega
  obtain ⟨kn, hkn⟩ : ∃ kn, kn = keep.length := ⟨_, rfl⟩
  simp only [StepD.val]
  rw [← hkn] at hmin hlen0 ⊢
  have hnil : ka = none → kc = 0 := hcap.2.2
  have S1 := (S.alloc #[.int .i64 3, .int .i64 at_, .int .i64 nn, .int .u8 (fill.toNat : Int), .bool short, .slice ka kn kc] 53).dn3
  obtain ⟨w1, hw1⟩ : ∃ w1, w1 = w.alloc (.cells #[.int .i64 3, .int .i64 at_, .int .i64 nn, .int .u8 (fill.toNat : Int), .bool short, .slice ka kn kc] 53) := ⟨_, rfl⟩
  obtain ⟨bx, hbx⟩ : ∃ bx, bx = w.heap.size := ⟨_, rfl⟩
  rw [← hw1, ← hbx] at S1
  have HW1 := Lib.hid hw1
  have HBX := Lib.hid hbx
  have HS1 := Lib.hid S1
  have HP := Lib.hid P
  have HOK := Lib.hid hok
  have HMK := Lib.hid hmk
  have HBK := Lib.hid hbk
  have HNIL := Lib.hid hnil
  have HNB := Lib.hid hnb
  clear S S1 hw1 hbx hok hm hmk hbk hb hcap hkl hkn hnil P hl1 hl3 hnb
  go_enter Try.func21, Try.ntmps21
  go_wp2_with fail
  rw [← HW1.out, ← HBX.out]
  refine (barrier_sep HS1.out).mono ?_
  rintro e w2 ⟨rfl, S2, -⟩
  have HS2 := Lib.hid S2.up1
  clear S2
  go_wp2_with fail
  refine (rBarrier_sep HS2.out HOK.out HP.out.left (by have := HP.out.keeps; omega) (by have := HP.out.waits; omega) (by have := HP.out.len; have := HP.out.n1; omega)).mono ?_
  rintro e w3 ⟨rfl, S3⟩
  have HS3 := Lib.hid S3
  clear S3
  go_wp2
  go_ret
  exact ⟨rfl, HS3.out.pick [1, 0, 2] 4 (by decide) rfl⟩
set_option maxRecDepth 20000 in
set_option maxHeartbeats 4000000 in
theorem do_4 {w0 : World} {n : Nat} (S : Sep w (diskA p D :: rdA r D :: oldA w0 :: R)) (P : PlD D n) (x : StepD) (hb : BoolsAt w0 x.ka x.keep) (hcap : x.keep.length ≤ x.kc ∧ x.kc ≤ maxLen ∧ (x.ka = none → x.kc = 0)) (hnb : x.n ≤ 9223372036854775807) (hk : x.kind = 4) :
    Calls Try.prog 21 #[.pointer (some ⟨p, 0, none⟩), .pointer (some ⟨r, 0, none⟩), x.val] w fun e w' => e = .returned (.bool true) ∧ Sep w' (diskA p (D.crash (x.keep.take 60)) :: rdA r (D.crash (x.keep.take 60)) :: oldA w0 :: R) := by
  obtain ⟨kind, at_, nn, fill, short, ka, kc, keep⟩ := x
  dsimp only at hb hcap hk ⊢
  subst hk
  obtain ⟨hok, hl1, hl3⟩ := dk_len S
  obtain ⟨m, hm⟩ : ∃ m, m = min keep.length 60 := ⟨_, rfl⟩
  have hmin : (if (60 : Int) < (keep.length : Int) then (60 : Int) else (keep.length : Int)) = (m : Int) := by rw [hm]; split <;> omega
  have hmk : (keep.take 60).length = m := by rw [List.length_take]; omega
  have hm60 : m ≤ 60 := by omega
  have hmc : (m : Int) ≤ (kc : Int) := by omega
  have hm0 : (0 : Int) ≤ (m : Int) := by omega
  obtain ⟨kl, hkl⟩ : ∃ kl, kl = keep.take 60 := ⟨_, rfl⟩
  have hbk : BoolsAt w0 ka kl := fun i hi => by
    rw [hkl, List.length_take] at hi
    obtain ⟨b, o, e, hc⟩ := hb i (by omega)
    refine ⟨b, o, e, ?_⟩
    rw [hc, hkl]
    simp [List.getD, List.getElem?_take, show i < 60 by omega]
  rw [← hkl] at hmk ⊢
  have hlen0 : (0 : Int) ≤ (keep.length : Int) := by omega
  obtain ⟨kn, hkn⟩ : ∃ kn, kn = keep.length := ⟨_, rfl⟩
  simp only [StepD.val]
  rw [← hkn] at hmin hlen0 ⊢
  have hnil : ka = none → kc = 0 := hcap.2.2
  have S1 := (S.alloc #[.int .i64 4, .int .i64 at_, .int .i64 nn, .int .u8 (fill.toNat : Int), .bool short, .slice ka kn kc] 53).dn3
  obtain ⟨w1, hw1⟩ : ∃ w1, w1 = w.alloc (.cells #[.int .i64 4, .int .i64 at_, .int .i64 nn, .int .u8 (fill.toNat : Int), .bool short, .slice ka kn kc] 53) := ⟨_, rfl⟩
  obtain ⟨bx, hbx⟩ : ∃ bx, bx = w.heap.size := ⟨_, rfl⟩
  rw [← hw1, ← hbx] at S1
  have HW1 := Lib.hid hw1
  have HBX := Lib.hid hbx
  have HS1 := Lib.hid S1
  have HP := Lib.hid P
  have HOK := Lib.hid hok
  have HMK := Lib.hid hmk
  have HBK := Lib.hid hbk
  have HNIL := Lib.hid hnil
  have HNB := Lib.hid hnb
  clear S S1 hw1 hbx hok hm hmk hbk hb hcap hkl hkn hnil P hl1 hl3 hnb
  go_enter Try.func21, Try.ntmps21
  have hkt : kl.take 60 = kl := List.take_of_length_le (by rw [HMK.out]; exact hm60)
  have hc := fun (W : World) (R : List Asn) (S : Sep W (diskA p D :: oldA w0 :: R)) => crash_sep S ka kc m kl 60 HBK.out (by rw [hkt]; exact HMK.out) (by omega)
  rw [hkt] at hc
  have hc2 := fun (W : World) (R : List Asn) (S : Sep W (rdA r D :: oldA w0 :: R)) => rCrash_sep S (holds_old HBK.out HNIL.out) HOK.out (by rw [HMK.out]; omega) (by have := HP.out.waits; omega) (by have := HP.out.len; have := HP.out.n1; omega)
  rw [HMK.out] at hc2
  have HC := Lib.hid hc
  have HC2 := Lib.hid hc2
  clear hc hc2 hkt
  go_wp2_with fail
  rw [← HW1.out, ← HBX.out]
  refine (HC.out _ _ (HS1.out.pick [0, 2, 1, 3] 4 (by decide) rfl)).mono ?_
  rintro e w2 ⟨rfl, S2⟩
  have HS2 := Lib.hid S2
  clear S2
  go_wp2_with fail
  refine (HC2.out _ _ (HS2.out.pick [2, 1, 0, 3] 4 (by decide) rfl)).mono ?_
  rintro e w3 ⟨rfl, S3⟩
  have HS3 := Lib.hid S3
  clear S3
  go_wp2
  go_ret
  exact ⟨rfl, HS3.out.pick [2, 0, 1] 4 (by decide) rfl⟩
set_option maxRecDepth 20000 in
set_option maxHeartbeats 4000000 in
theorem do_5 {w0 : World} {n : Nat} (S : Sep w (diskA p D :: rdA r D :: oldA w0 :: R)) (P : PlD D n) (x : StepD) (hb : BoolsAt w0 x.ka x.keep) (hcap : x.keep.length ≤ x.kc ∧ x.kc ≤ maxLen ∧ (x.ka = none → x.kc = 0)) (hnb : x.n ≤ 9223372036854775807) (hk : x.kind = 5) :
    Calls Try.prog 21 #[.pointer (some ⟨p, 0, none⟩), .pointer (some ⟨r, 0, none⟩), x.val] w fun e w' => e = .returned (.bool true) ∧ Sep w' (diskA p (D.start) :: rdA r (D.start) :: oldA w0 :: R) := by
  obtain ⟨kind, at_, nn, fill, short, ka, kc, keep⟩ := x
  dsimp only at hb hcap hk ⊢
  subst hk
  obtain ⟨hok, hl1, hl3⟩ := dk_len S
  obtain ⟨m, hm⟩ : ∃ m, m = min keep.length 60 := ⟨_, rfl⟩
  have hmin : (if (60 : Int) < (keep.length : Int) then (60 : Int) else (keep.length : Int)) = (m : Int) := by rw [hm]; split <;> omega
  have hmk : (keep.take 60).length = m := by rw [List.length_take]; omega
  have hm60 : m ≤ 60 := by omega
  have hmc : (m : Int) ≤ (kc : Int) := by omega
  have hm0 : (0 : Int) ≤ (m : Int) := by omega
  obtain ⟨kl, hkl⟩ : ∃ kl, kl = keep.take 60 := ⟨_, rfl⟩
  have hbk : BoolsAt w0 ka kl := fun i hi => by
    rw [hkl, List.length_take] at hi
    obtain ⟨b, o, e, hc⟩ := hb i (by omega)
    refine ⟨b, o, e, ?_⟩
    rw [hc, hkl]
    simp [List.getD, List.getElem?_take, show i < 60 by omega]
  rw [← hkl] at hmk 
  have hlen0 : (0 : Int) ≤ (keep.length : Int) := by omega
  obtain ⟨kn, hkn⟩ : ∃ kn, kn = keep.length := ⟨_, rfl⟩
  simp only [StepD.val]
  rw [← hkn] at hmin hlen0 ⊢
  have hnil : ka = none → kc = 0 := hcap.2.2
  have S1 := (S.alloc #[.int .i64 5, .int .i64 at_, .int .i64 nn, .int .u8 (fill.toNat : Int), .bool short, .slice ka kn kc] 53).dn3
  obtain ⟨w1, hw1⟩ : ∃ w1, w1 = w.alloc (.cells #[.int .i64 5, .int .i64 at_, .int .i64 nn, .int .u8 (fill.toNat : Int), .bool short, .slice ka kn kc] 53) := ⟨_, rfl⟩
  obtain ⟨bx, hbx⟩ : ∃ bx, bx = w.heap.size := ⟨_, rfl⟩
  rw [← hw1, ← hbx] at S1
  have HW1 := Lib.hid hw1
  have HBX := Lib.hid hbx
  have HS1 := Lib.hid S1
  have HP := Lib.hid P
  have HOK := Lib.hid hok
  have HMK := Lib.hid hmk
  have HBK := Lib.hid hbk
  have HNIL := Lib.hid hnil
  have HNB := Lib.hid hnb
  clear S S1 hw1 hbx hok hm hmk hbk hb hcap hkl hkn hnil P hl1 hl3 hnb
  go_enter Try.func21, Try.ntmps21
  go_wp2_with fail
  rw [← HW1.out, ← HBX.out]
  refine (start_sep HS1.out).mono ?_
  rintro e w2 ⟨rfl, S2⟩
  have HS2 := Lib.hid S2.up1
  clear S2
  go_wp2_with fail
  refine (rStart_sep HS2.out).mono ?_
  rintro e w3 ⟨rfl, S3⟩
  have HS3 := Lib.hid S3
  clear S3
  go_wp2
  go_ret
  exact ⟨rfl, HS3.out.pick [1, 0, 2] 4 (by decide) rfl⟩
set_option maxRecDepth 20000 in
set_option maxHeartbeats 4000000 in
theorem do_0 {w0 : World} {n : Nat} (S : Sep w (diskA p D :: rdA r D :: oldA w0 :: R)) (P : PlD D n) (x : StepD) (hb : BoolsAt w0 x.ka x.keep) (hcap : x.keep.length ≤ x.kc ∧ x.kc ≤ maxLen ∧ (x.ka = none → x.kc = 0)) (hnb : x.n ≤ 9223372036854775807) (hk : ¬ (x.kind = 1 ∨ x.kind = 2 ∨ x.kind = 3 ∨ x.kind = 4 ∨ x.kind = 5 ∨ x.kind = 6)) :
    Calls Try.prog 21 #[.pointer (some ⟨p, 0, none⟩), .pointer (some ⟨r, 0, none⟩), x.val] w fun e w' => e = .returned (.bool true) ∧ Sep w' (diskA p (D) :: rdA r (D) :: oldA w0 :: R) := by
  obtain ⟨kind, at_, nn, fill, short, ka, kc, keep⟩ := x
  dsimp only at hb hcap hk ⊢
  obtain ⟨hok, hl1, hl3⟩ := dk_len S
  obtain ⟨m, hm⟩ : ∃ m, m = min keep.length 60 := ⟨_, rfl⟩
  have hmin : (if (60 : Int) < (keep.length : Int) then (60 : Int) else (keep.length : Int)) = (m : Int) := by rw [hm]; split <;> omega
  have hmk : (keep.take 60).length = m := by rw [List.length_take]; omega
  have hm60 : m ≤ 60 := by omega
  have hmc : (m : Int) ≤ (kc : Int) := by omega
  have hm0 : (0 : Int) ≤ (m : Int) := by omega
  obtain ⟨kl, hkl⟩ : ∃ kl, kl = keep.take 60 := ⟨_, rfl⟩
  have hbk : BoolsAt w0 ka kl := fun i hi => by
    rw [hkl, List.length_take] at hi
    obtain ⟨b, o, e, hc⟩ := hb i (by omega)
    refine ⟨b, o, e, ?_⟩
    rw [hc, hkl]
    simp [List.getD, List.getElem?_take, show i < 60 by omega]
  rw [← hkl] at hmk 
  have hlen0 : (0 : Int) ≤ (keep.length : Int) := by omega
  obtain ⟨kn, hkn⟩ : ∃ kn, kn = keep.length := ⟨_, rfl⟩
  simp only [StepD.val]
  rw [← hkn] at hmin hlen0 ⊢
  have hnil : ka = none → kc = 0 := hcap.2.2
  have S1 := (S.alloc #[.int .i64 kind, .int .i64 at_, .int .i64 nn, .int .u8 (fill.toNat : Int), .bool short, .slice ka kn kc] 53).dn3
  obtain ⟨w1, hw1⟩ : ∃ w1, w1 = w.alloc (.cells #[.int .i64 kind, .int .i64 at_, .int .i64 nn, .int .u8 (fill.toNat : Int), .bool short, .slice ka kn kc] 53) := ⟨_, rfl⟩
  obtain ⟨bx, hbx⟩ : ∃ bx, bx = w.heap.size := ⟨_, rfl⟩
  rw [← hw1, ← hbx] at S1
  have HW1 := Lib.hid hw1
  have HBX := Lib.hid hbx
  have HS1 := Lib.hid S1
  have HP := Lib.hid P
  have HOK := Lib.hid hok
  have HMK := Lib.hid hmk
  have HBK := Lib.hid hbk
  have HNIL := Lib.hid hnil
  have HNB := Lib.hid hnb
  clear S S1 hw1 hbx hok hm hmk hbk hb hcap hkl hkn hnil P hl1 hl3 hnb
  go_enter Try.func21, Try.ntmps21
  have h1 : (kind == 1) = false := by simp; omega
  have h2 : (kind == 2) = false := by simp; omega
  have h3 : (kind == 3) = false := by simp; omega
  have h4 : (kind == 4) = false := by simp; omega
  have h5 : (kind == 5) = false := by simp; omega
  have h6 : (kind == 6) = false := by simp; omega
  clear hk
  go_wp2
  rw [← HW1.out]
  go_ret
  exact ⟨rfl, HS1.out.pick [0, 1, 2] 4 (by decide) rfl⟩
set_option maxRecDepth 20000 in
set_option maxHeartbeats 4000000 in
theorem do_1out {w0 : World} {n : Nat} (S : Sep w (diskA p D :: rdA r D :: oldA w0 :: R)) (P : PlD D n) (x : StepD) (hb : BoolsAt w0 x.ka x.keep) (hcap : x.keep.length ≤ x.kc ∧ x.kc ≤ maxLen ∧ (x.ka = none → x.kc = 0)) (hnb : x.n ≤ 9223372036854775807) (hk : x.kind = 1) (hi : ¬ inD D x.at_) :
    Calls Try.prog 21 #[.pointer (some ⟨p, 0, none⟩), .pointer (some ⟨r, 0, none⟩), x.val] w fun e w' => e = .returned (.bool true) ∧ Sep w' (diskA p (D) :: rdA r (D) :: oldA w0 :: R) := by
  obtain ⟨kind, at_, nn, fill, short, ka, kc, keep⟩ := x
  dsimp only at hb hcap hk hi ⊢
  subst hk
  obtain ⟨hok, hl1, hl3⟩ := dk_len S
  obtain ⟨m, hm⟩ : ∃ m, m = min keep.length 60 := ⟨_, rfl⟩
  have hmin : (if (60 : Int) < (keep.length : Int) then (60 : Int) else (keep.length : Int)) = (m : Int) := by rw [hm]; split <;> omega
  have hmk : (keep.take 60).length = m := by rw [List.length_take]; omega
  have hm60 : m ≤ 60 := by omega
  have hmc : (m : Int) ≤ (kc : Int) := by omega
  have hm0 : (0 : Int) ≤ (m : Int) := by omega
  obtain ⟨kl, hkl⟩ : ∃ kl, kl = keep.take 60 := ⟨_, rfl⟩
  have hbk : BoolsAt w0 ka kl := fun i hi => by
    rw [hkl, List.length_take] at hi
    obtain ⟨b, o, e, hc⟩ := hb i (by omega)
    refine ⟨b, o, e, ?_⟩
    rw [hc, hkl]
    simp [List.getD, List.getElem?_take, show i < 60 by omega]
  rw [← hkl] at hmk 
  have hlen0 : (0 : Int) ≤ (keep.length : Int) := by omega
  obtain ⟨kn, hkn⟩ : ∃ kn, kn = keep.length := ⟨_, rfl⟩
  simp only [StepD.val]
  rw [← hkn] at hmin hlen0 ⊢
  have hnil : ka = none → kc = 0 := hcap.2.2
  have S1 := (S.alloc #[.int .i64 1, .int .i64 at_, .int .i64 nn, .int .u8 (fill.toNat : Int), .bool short, .slice ka kn kc] 53).dn3
  obtain ⟨w1, hw1⟩ : ∃ w1, w1 = w.alloc (.cells #[.int .i64 1, .int .i64 at_, .int .i64 nn, .int .u8 (fill.toNat : Int), .bool short, .slice ka kn kc] 53) := ⟨_, rfl⟩
  obtain ⟨bx, hbx⟩ : ∃ bx, bx = w.heap.size := ⟨_, rfl⟩
  rw [← hw1, ← hbx] at S1
  have HW1 := Lib.hid hw1
  have HBX := Lib.hid hbx
  have HS1 := Lib.hid S1
  have HP := Lib.hid P
  have HOK := Lib.hid hok
  have HMK := Lib.hid hmk
  have HBK := Lib.hid hbk
  have HNIL := Lib.hid hnil
  have HNB := Lib.hid hnb
  clear S S1 hw1 hbx hok hm hmk hbk hb hcap hkl hkn hnil P hl1 hl3 hnb
  go_enter Try.func21, Try.ntmps21
  have HI := Lib.hid hi
  clear hi
  go_wp2_with fail
  rw [← HW1.out, ← HBX.out]
  refine (read_arg_sep HS1.out at_ HI.out).mono ?_
  rintro e w2 ⟨rfl, S2⟩
  have cx := S2.up3.blk_cell 1
  simp at cx
  have HS2 := Lib.hid S2.up1
  have tr : (convert 30 9 (.slice none 0 0)).run Try.prog w2 = _ := run_string (BytesAt.nil w2 none) 0 0 rfl
  clear S2
  go_wp2_with fail
  refine (rRead_arg HS2.out at_ HI.out (by have := HP.out.len; have := HP.out.n1; omega)).mono ?_
  rintro e w3 ⟨rfl, S3⟩
  have HS3 := Lib.hid S3
  clear S3 tr
  have tr : (convert 30 9 (.slice none 0 0)).run Try.prog w3 = _ := run_string (BytesAt.nil w3 none) 0 0 rfl
  go_wp2
  go_ret
  exact ⟨rfl, HS3.out.pick [1, 0, 2] 4 (by decide) rfl⟩
set_option maxRecDepth 20000 in
set_option maxHeartbeats 4000000 in
theorem do_1in {w0 : World} {n : Nat} (S : Sep w (diskA p D :: rdA r D :: oldA w0 :: R)) (P : PlD D n) (x : StepD) (hb : BoolsAt w0 x.ka x.keep) (hcap : x.keep.length ≤ x.kc ∧ x.kc ≤ maxLen ∧ (x.ka = none → x.kc = 0)) (hnb : x.n ≤ 9223372036854775807) (hk : x.kind = 1) (i : Nat) (hi : x.at_ = (i : Int)) (hil : i < D.secs.length) :
    Calls Try.prog 21 #[.pointer (some ⟨p, 0, none⟩), .pointer (some ⟨r, 0, none⟩), x.val] w fun e w' => e = .returned (.bool true) ∧ Sep w' (diskA p (D.begun) :: rdA r (D.begun) :: oldA w0 :: R) := by
  obtain ⟨kind, at_, nn, fill, short, ka, kc, keep⟩ := x
  dsimp only at hb hcap hk hi ⊢
  subst hk hi
  obtain ⟨hok, hl1, hl3⟩ := dk_len S
  obtain ⟨m, hm⟩ : ∃ m, m = min keep.length 60 := ⟨_, rfl⟩
  have hmin : (if (60 : Int) < (keep.length : Int) then (60 : Int) else (keep.length : Int)) = (m : Int) := by rw [hm]; split <;> omega
  have hmk : (keep.take 60).length = m := by rw [List.length_take]; omega
  have hm60 : m ≤ 60 := by omega
  have hmc : (m : Int) ≤ (kc : Int) := by omega
  have hm0 : (0 : Int) ≤ (m : Int) := by omega
  obtain ⟨kl, hkl⟩ : ∃ kl, kl = keep.take 60 := ⟨_, rfl⟩
  have hbk : BoolsAt w0 ka kl := fun i hi => by
    rw [hkl, List.length_take] at hi
    obtain ⟨b, o, e, hc⟩ := hb i (by omega)
    refine ⟨b, o, e, ?_⟩
    rw [hc, hkl]
    simp [List.getD, List.getElem?_take, show i < 60 by omega]
  rw [← hkl] at hmk 
  have hlen0 : (0 : Int) ≤ (keep.length : Int) := by omega
  obtain ⟨kn, hkn⟩ : ∃ kn, kn = keep.length := ⟨_, rfl⟩
  simp only [StepD.val]
  rw [← hkn] at hmin hlen0 ⊢
  have hnil : ka = none → kc = 0 := hcap.2.2
  have S1 := (S.alloc #[.int .i64 1, .int .i64 (i : Int), .int .i64 nn, .int .u8 (fill.toNat : Int), .bool short, .slice ka kn kc] 53).dn3
  obtain ⟨w1, hw1⟩ : ∃ w1, w1 = w.alloc (.cells #[.int .i64 1, .int .i64 (i : Int), .int .i64 nn, .int .u8 (fill.toNat : Int), .bool short, .slice ka kn kc] 53) := ⟨_, rfl⟩
  obtain ⟨bx, hbx⟩ : ∃ bx, bx = w.heap.size := ⟨_, rfl⟩
  rw [← hw1, ← hbx] at S1
  have HW1 := Lib.hid hw1
  have HBX := Lib.hid hbx
  have HS1 := Lib.hid S1
  have HP := Lib.hid P
  have HOK := Lib.hid hok
  have HMK := Lib.hid hmk
  have HBK := Lib.hid hbk
  have HNIL := Lib.hid hnil
  have HNB := Lib.hid hnb
  clear S S1 hw1 hbx hok hm hmk hbk hb hcap hkl hkn hnil P hl1 hl3 hnb
  go_enter Try.func21, Try.ntmps21
  have HIL := Lib.hid hil
  clear hil
  have hrd := fun (W : World) (R : List Asn) (S : Sep W (rdA r D :: R)) => rRead_sep S i (i : Int) rfl HIL.out HOK.out HP.out.left (by have := HP.out.keeps; omega) (by have := HP.out.waits; omega) (by have := HP.out.len; have := HP.out.n1; omega)
  unfold readV at hrd
  cases hd : D.fell.down with
  | true =>
    rw [hd, if_pos rfl] at hrd
    have HR := Lib.hid hrd
    have HD := Lib.hid hd
    clear hrd hd
    go_wp2_with fail
    rw [← HW1.out, ← HBX.out]
    refine (read_sep_down HS1.out i (i : Int) rfl HIL.out HD.out).mono ?_
    rintro e w2 ⟨rfl, S2⟩
    have cx := S2.up3.blk_cell 1
    simp at cx
    have HS2 := Lib.hid S2.up1
    clear S2
    go_wp2_with fail
    refine (HR.out _ _ HS2.out).mono ?_
    rintro e w3 ⟨rfl, S3⟩
    have HS3 := Lib.hid S3
    clear S3
    have tr : (convert 30 9 (.slice none 0 0)).run Try.prog w3 = _ := run_string (BytesAt.nil w3 none) 0 0 rfl
    go_wp2
    go_ret
    exact ⟨rfl, HS3.out.pick [1, 0, 2] 4 (by decide) rfl⟩
  | false =>
    rw [hd, if_neg (by simp)] at hrd
    have HD := Lib.hid hd
    obtain ⟨l, hl⟩ : ∃ l, l = D.begun.now i := ⟨_, rfl⟩
    rw [← hl] at hrd
    obtain ⟨sx, hsx⟩ : ∃ sx : ByteArray, sx = ⟨l.toArray⟩ := ⟨_, rfl⟩
    rw [show strV l = .string sx by rw [hsx]; rfl] at hrd
    have HR := Lib.hid hrd
    have HL := Lib.hid hl
    have HSX := Lib.hid hsx
    clear hrd hd hl hsx
    go_wp2_with fail
    rw [← HW1.out, ← HBX.out]
    refine (read_sep HS1.out i (i : Int) rfl HIL.out HD.out l HL.out.symm).mono ?_
    rintro e w2 ⟨B, rfl, S2⟩
    have cx := S2.up4.blk_cell 1
    simp at cx
    have HS2 := Lib.hid S2.up2
    clear S2
    go_wp2_with fail
    refine (HR.out _ _ HS2.out).mono ?_
    rintro e w3 ⟨rfl, S3⟩
    have hl2 := S3.up1.bytes.len
    have tr : (convert 30 9 (.slice (some ⟨B, 0, none⟩) 512 512)).run Try.prog w3 = _ := run_string S3.up1.bytes.reads 512 512 hl2
    rw [← HSX.out] at tr
    have HS3 := Lib.hid S3
    clear S3 hl2
    go_wp2
    go_ret
    exact ⟨rfl, HS3.out.pick [2, 0, 3] 5 (by decide) rfl⟩
set_option maxRecDepth 20000 in
set_option maxHeartbeats 4000000 in
theorem do_2short {w0 : World} {n : Nat} (S : Sep w (diskA p D :: rdA r D :: oldA w0 :: R)) (P : PlD D n) (x : StepD) (hb : BoolsAt w0 x.ka x.keep) (hcap : x.keep.length ≤ x.kc ∧ x.kc ≤ maxLen ∧ (x.ka = none → x.kc = 0)) (hnb : x.n ≤ 9223372036854775807) (hk : x.kind = 2) (hi : x.short = true) :
    Calls Try.prog 21 #[.pointer (some ⟨p, 0, none⟩), .pointer (some ⟨r, 0, none⟩), x.val] w fun e w' => e = .returned (.bool true) ∧ Sep w' (diskA p (D) :: rdA r (D) :: oldA w0 :: R) := by
  obtain ⟨kind, at_, nn, fill, short, ka, kc, keep⟩ := x
  dsimp only at hb hcap hk hi ⊢
  subst hk hi
  obtain ⟨hok, hl1, hl3⟩ := dk_len S
  obtain ⟨m, hm⟩ : ∃ m, m = min keep.length 60 := ⟨_, rfl⟩
  have hmin : (if (60 : Int) < (keep.length : Int) then (60 : Int) else (keep.length : Int)) = (m : Int) := by rw [hm]; split <;> omega
  have hmk : (keep.take 60).length = m := by rw [List.length_take]; omega
  have hm60 : m ≤ 60 := by omega
  have hmc : (m : Int) ≤ (kc : Int) := by omega
  have hm0 : (0 : Int) ≤ (m : Int) := by omega
  obtain ⟨kl, hkl⟩ : ∃ kl, kl = keep.take 60 := ⟨_, rfl⟩
  have hbk : BoolsAt w0 ka kl := fun i hi => by
    rw [hkl, List.length_take] at hi
    obtain ⟨b, o, e, hc⟩ := hb i (by omega)
    refine ⟨b, o, e, ?_⟩
    rw [hc, hkl]
    simp [List.getD, List.getElem?_take, show i < 60 by omega]
  rw [← hkl] at hmk 
  have hlen0 : (0 : Int) ≤ (keep.length : Int) := by omega
  obtain ⟨kn, hkn⟩ : ∃ kn, kn = keep.length := ⟨_, rfl⟩
  simp only [StepD.val]
  rw [← hkn] at hmin hlen0 ⊢
  have hnil : ka = none → kc = 0 := hcap.2.2
  have S1 := (S.alloc #[.int .i64 2, .int .i64 at_, .int .i64 nn, .int .u8 (fill.toNat : Int), .bool true, .slice ka kn kc] 53).dn3
  obtain ⟨w1, hw1⟩ : ∃ w1, w1 = w.alloc (.cells #[.int .i64 2, .int .i64 at_, .int .i64 nn, .int .u8 (fill.toNat : Int), .bool true, .slice ka kn kc] 53) := ⟨_, rfl⟩
  obtain ⟨bx, hbx⟩ : ∃ bx, bx = w.heap.size := ⟨_, rfl⟩
  rw [← hw1, ← hbx] at S1
  have HW1 := Lib.hid hw1
  have HBX := Lib.hid hbx
  have HS1 := Lib.hid S1
  have HP := Lib.hid P
  have HOK := Lib.hid hok
  have HMK := Lib.hid hmk
  have HBK := Lib.hid hbk
  have HNIL := Lib.hid hnil
  have HNB := Lib.hid hnb
  clear S S1 hw1 hbx hok hm hmk hbk hb hcap hkl hkn hnil P hl1 hl3 hnb
  go_enter Try.func21, Try.ntmps21
  obtain ⟨sx, hsx⟩ : ∃ sx : ByteArray, sx = ⟨(((full fill).drop 1).take 511).toArray⟩ := ⟨_, rfl⟩
  have hsz : sx.size = 511 := by rw [hsx]; simp [ByteArray.size, full]
  have HSX := Lib.hid hsx
  have HSZ := Lib.hid hsz
  clear hsx hsz
  go_wp2_with fail
  rw [← HW1.out, ← HBX.out]
  refine (sector_calls _ fill _ rfl).mono ?_
  rintro e w2 ⟨rfl, ho, hbl⟩
  have S2 := HS1.out.newBytes hbl ho
  obtain ⟨g, hg⟩ : ∃ g, g = w1.heap.size := ⟨_, rfl⟩
  rw [← hg] at S2 ⊢
  have cx := S2.up4.blk_cell 1
  have cy := S2.up4.blk_cell 4
  simp at cx cy
  have HS2 := Lib.hid S2
  clear S2 ho hbl hg
  go_wp2_with fail
  refine (write_arg_sep HS2.out.up1 at_ (some ⟨g, 1, none⟩) 511 511 (by omega)).mono ?_
  rintro e w3 ⟨rfl, S3⟩
  have cx := S3.up4.blk_cell 1
  simp at cx
  have tr : (convert 30 9 (.slice (some ⟨g, 1, none⟩) 511 511)).run Try.prog w3 = .ok (.string sx) w3 := by rw [HSX.out]; exact run_string (S3.up1.bytes.sub 1 511 (by omega)) 511 511 (by simp [full])
  have HS3 := Lib.hid S3
  clear S3
  go_wp2_with fail
  refine (rWrite_arg HS3.out.up2 at_ sx (.inr (by rw [HSZ.out]; omega)) (by have := HP.out.len; have := HP.out.n1; omega) (by rw [HSZ.out]; omega)).mono ?_
  rintro e w4 ⟨rfl, S4⟩
  have S5 : Sep w4 (bytesA (.slice (some ⟨g, 0, none⟩) 512 512) 512 (full fill) :: rdA r D :: diskA p D :: oldA w0 :: R) := S4.pick [2, 0, 1, 3] 5 (by decide) rfl
  have HS5 := Lib.hid S5
  clear S4 S5 tr
  go_wp2_with fail
  go_loopw [15] (fun iv wr => ∃ (k : Nat) (l : List UInt8), k ≤ 511 ∧ iv = .int .i64 (k : Int) ∧ Sep wr (bytesA (.slice (some ⟨g, 0, none⟩) 512 512) 512 l :: rdA r (D) :: diskA p (D) :: oldA w0 :: R)) (fun iv _ => 511 - (intOf iv).toNat)
  case atStart => exact ⟨0, _, Nat.zero_le _, rfl, HS5.out⟩
  case round =>
    obtain ⟨k, l, hk, rfl, Sr⟩ := hrel
    by_cases hlt : k < 511
    · have hlt1 : (k : Int) < 511 := by omega
      have hk0 : (0 : Int) ≤ (k : Int) := by omega
      obtain ⟨_, e, _, _, hc, hf⟩ := Sr.bytes.at (by omega)
      cases e
      have hck := hc (1 + k) (by omega)
      have hfk := hf (1 + k)
      have e63 : ((63 : UInt8).toNat : Int) = 63 := rfl
      have S6 := Sr.bytes_set (1 + k) 63
      rw [e63] at S6
      have HS6 := Lib.hid S6
      clear Sr hc hf e63 S6
      go_wp2
      go_roundw
      case rel => exact ⟨k + 1, _, by omega, by go_num, HS6.out⟩
      case measure => simp [intOf]; omega
    · obtain rfl : k = 511 := by omega
      have HSr := Lib.hid Sr
      clear Sr
      go_wp2
      go_ret
      exact ⟨rfl, HSr.out.pick [2, 1, 3] 4 (by decide) rfl⟩
set_option maxRecDepth 20000 in
set_option maxHeartbeats 4000000 in
theorem do_2out {w0 : World} {n : Nat} (S : Sep w (diskA p D :: rdA r D :: oldA w0 :: R)) (P : PlD D n) (x : StepD) (hb : BoolsAt w0 x.ka x.keep) (hcap : x.keep.length ≤ x.kc ∧ x.kc ≤ maxLen ∧ (x.ka = none → x.kc = 0)) (hnb : x.n ≤ 9223372036854775807) (hk : x.kind = 2) (hs : x.short = false) (hi : ¬ inD D x.at_) :
    Calls Try.prog 21 #[.pointer (some ⟨p, 0, none⟩), .pointer (some ⟨r, 0, none⟩), x.val] w fun e w' => e = .returned (.bool true) ∧ Sep w' (diskA p (D) :: rdA r (D) :: oldA w0 :: R) := by
  obtain ⟨kind, at_, nn, fill, short, ka, kc, keep⟩ := x
  dsimp only at hb hcap hk hi hs ⊢
  subst hk hs
  obtain ⟨hok, hl1, hl3⟩ := dk_len S
  obtain ⟨m, hm⟩ : ∃ m, m = min keep.length 60 := ⟨_, rfl⟩
  have hmin : (if (60 : Int) < (keep.length : Int) then (60 : Int) else (keep.length : Int)) = (m : Int) := by rw [hm]; split <;> omega
  have hmk : (keep.take 60).length = m := by rw [List.length_take]; omega
  have hm60 : m ≤ 60 := by omega
  have hmc : (m : Int) ≤ (kc : Int) := by omega
  have hm0 : (0 : Int) ≤ (m : Int) := by omega
  obtain ⟨kl, hkl⟩ : ∃ kl, kl = keep.take 60 := ⟨_, rfl⟩
  have hbk : BoolsAt w0 ka kl := fun i hi => by
    rw [hkl, List.length_take] at hi
    obtain ⟨b, o, e, hc⟩ := hb i (by omega)
    refine ⟨b, o, e, ?_⟩
    rw [hc, hkl]
    simp [List.getD, List.getElem?_take, show i < 60 by omega]
  rw [← hkl] at hmk 
  have hlen0 : (0 : Int) ≤ (keep.length : Int) := by omega
  obtain ⟨kn, hkn⟩ : ∃ kn, kn = keep.length := ⟨_, rfl⟩
  simp only [StepD.val]
  rw [← hkn] at hmin hlen0 ⊢
  have hnil : ka = none → kc = 0 := hcap.2.2
  have S1 := (S.alloc #[.int .i64 2, .int .i64 at_, .int .i64 nn, .int .u8 (fill.toNat : Int), .bool false, .slice ka kn kc] 53).dn3
  obtain ⟨w1, hw1⟩ : ∃ w1, w1 = w.alloc (.cells #[.int .i64 2, .int .i64 at_, .int .i64 nn, .int .u8 (fill.toNat : Int), .bool false, .slice ka kn kc] 53) := ⟨_, rfl⟩
  obtain ⟨bx, hbx⟩ : ∃ bx, bx = w.heap.size := ⟨_, rfl⟩
  rw [← hw1, ← hbx] at S1
  have HW1 := Lib.hid hw1
  have HBX := Lib.hid hbx
  have HS1 := Lib.hid S1
  have HP := Lib.hid P
  have HOK := Lib.hid hok
  have HMK := Lib.hid hmk
  have HBK := Lib.hid hbk
  have HNIL := Lib.hid hnil
  have HNB := Lib.hid hnb
  clear S S1 hw1 hbx hok hm hmk hbk hb hcap hkl hkn hnil P hl1 hl3 hnb
  go_enter Try.func21, Try.ntmps21
  obtain ⟨sx, hsx⟩ : ∃ sx : ByteArray, sx = ⟨(full fill).toArray⟩ := ⟨_, rfl⟩
  have hsz : sx.size = 512 := by rw [hsx]; simp [ByteArray.size, full]
  have HSX := Lib.hid hsx
  have HSZ := Lib.hid hsz
  have HI := Lib.hid hi
  clear hsx hsz hi
  go_wp2_with fail
  rw [← HW1.out, ← HBX.out]
  refine (sector_calls _ fill _ rfl).mono ?_
  rintro e w2 ⟨rfl, ho, hbl⟩
  have S2 := HS1.out.newBytes hbl ho
  obtain ⟨g, hg⟩ : ∃ g, g = w1.heap.size := ⟨_, rfl⟩
  rw [← hg] at S2 ⊢
  have cx := S2.up4.blk_cell 1
  have cy := S2.up4.blk_cell 4
  simp at cx cy
  have HS2 := Lib.hid S2
  clear S2 ho hbl hg
  go_wp2_with fail
  refine (write_arg_sep HS2.out.up1 at_ (some ⟨g, 0, none⟩) 512 512 (fun h => HI.out ⟨h.1, h.2.1⟩)).mono ?_
  rintro e w3 ⟨rfl, S3⟩
  have cx := S3.up4.blk_cell 1
  simp at cx
  have tr : (convert 30 9 (.slice (some ⟨g, 0, none⟩) 512 512)).run Try.prog w3 = .ok (.string sx) w3 := by rw [HSX.out]; exact run_string (S3.up1.bytes.reads) 512 512 (by simp [full])
  have HS3 := Lib.hid S3
  clear S3
  go_wp2_with fail
  refine (rWrite_arg HS3.out.up2 at_ sx (.inl HI.out) (by have := HP.out.len; have := HP.out.n1; omega) (by rw [HSZ.out]; omega)).mono ?_
  rintro e w4 ⟨rfl, S4⟩
  have S5 : Sep w4 (bytesA (.slice (some ⟨g, 0, none⟩) 512 512) 512 (full fill) :: rdA r D :: diskA p D :: oldA w0 :: R) := S4.pick [2, 0, 1, 3] 5 (by decide) rfl
  have HS5 := Lib.hid S5
  clear S4 S5 tr
  go_wp2_with fail
  go_loopw [15] (fun iv wr => ∃ (k : Nat) (l : List UInt8), k ≤ 512 ∧ iv = .int .i64 (k : Int) ∧ Sep wr (bytesA (.slice (some ⟨g, 0, none⟩) 512 512) 512 l :: rdA r (D) :: diskA p (D) :: oldA w0 :: R)) (fun iv _ => 512 - (intOf iv).toNat)
  case atStart => exact ⟨0, _, Nat.zero_le _, rfl, HS5.out⟩
  case round =>
    obtain ⟨k, l, hk, rfl, Sr⟩ := hrel
    by_cases hlt : k < 512
    · have hlt1 : (k : Int) < 512 := by omega
      have hk0 : (0 : Int) ≤ (k : Int) := by omega
      obtain ⟨_, e, _, _, hc, hf⟩ := Sr.bytes.at (by omega)
      cases e
      have hck := hc (k) (by omega)
      have hfk := hf (k)
      have e63 : ((63 : UInt8).toNat : Int) = 63 := rfl
      have S6 := Sr.bytes_set (k) 63
      rw [e63] at S6
      have HS6 := Lib.hid S6
      clear Sr hc hf e63 S6
      go_wp2
      go_roundw
      case rel => exact ⟨k + 1, _, by omega, by go_num, HS6.out⟩
      case measure => simp [intOf]; omega
    · obtain rfl : k = 512 := by omega
      have HSr := Lib.hid Sr
      clear Sr
      go_wp2
      go_ret
      exact ⟨rfl, HSr.out.pick [2, 1, 3] 4 (by decide) rfl⟩
theorem fell_waits (D : Dk) : D.fell.waits.length ≤ D.waits.length := by
  unfold Dk.fell
  split
  · simp [Dk.crash]
  · exact Nat.le_refl _
set_option maxRecDepth 20000 in
set_option maxHeartbeats 4000000 in
theorem do_2in {w0 : World} {n : Nat} (S : Sep w (diskA p D :: rdA r D :: oldA w0 :: R)) (P : PlD D n) (x : StepD) (hb : BoolsAt w0 x.ka x.keep) (hcap : x.keep.length ≤ x.kc ∧ x.kc ≤ maxLen ∧ (x.ka = none → x.kc = 0)) (hnb : x.n ≤ 9223372036854775807) (hk : x.kind = 2) (hs : x.short = false) (i : Nat) (hi : x.at_ = (i : Int)) (hil : i < D.secs.length) :
    Calls Try.prog 21 #[.pointer (some ⟨p, 0, none⟩), .pointer (some ⟨r, 0, none⟩), x.val] w fun e w' => e = .returned (.bool true) ∧ Sep w' (diskA p (D.write i (full x.fill)) :: rdA r (D.write i (full x.fill)) :: oldA w0 :: R) := by
  obtain ⟨kind, at_, nn, fill, short, ka, kc, keep⟩ := x
  dsimp only at hb hcap hk hi hs ⊢
  subst hk hs hi
  obtain ⟨hok, hl1, hl3⟩ := dk_len S
  obtain ⟨m, hm⟩ : ∃ m, m = min keep.length 60 := ⟨_, rfl⟩
  have hmin : (if (60 : Int) < (keep.length : Int) then (60 : Int) else (keep.length : Int)) = (m : Int) := by rw [hm]; split <;> omega
  have hmk : (keep.take 60).length = m := by rw [List.length_take]; omega
  have hm60 : m ≤ 60 := by omega
  have hmc : (m : Int) ≤ (kc : Int) := by omega
  have hm0 : (0 : Int) ≤ (m : Int) := by omega
  obtain ⟨kl, hkl⟩ : ∃ kl, kl = keep.take 60 := ⟨_, rfl⟩
  have hbk : BoolsAt w0 ka kl := fun i hi => by
    rw [hkl, List.length_take] at hi
    obtain ⟨b, o, e, hc⟩ := hb i (by omega)
    refine ⟨b, o, e, ?_⟩
    rw [hc, hkl]
    simp [List.getD, List.getElem?_take, show i < 60 by omega]
  rw [← hkl] at hmk 
  have hlen0 : (0 : Int) ≤ (keep.length : Int) := by omega
  obtain ⟨kn, hkn⟩ : ∃ kn, kn = keep.length := ⟨_, rfl⟩
  simp only [StepD.val]
  rw [← hkn] at hmin hlen0 ⊢
  have hnil : ka = none → kc = 0 := hcap.2.2
  have S1 := (S.alloc #[.int .i64 2, .int .i64 (i : Int), .int .i64 nn, .int .u8 (fill.toNat : Int), .bool false, .slice ka kn kc] 53).dn3
  obtain ⟨w1, hw1⟩ : ∃ w1, w1 = w.alloc (.cells #[.int .i64 2, .int .i64 (i : Int), .int .i64 nn, .int .u8 (fill.toNat : Int), .bool false, .slice ka kn kc] 53) := ⟨_, rfl⟩
  obtain ⟨bx, hbx⟩ : ∃ bx, bx = w.heap.size := ⟨_, rfl⟩
  rw [← hw1, ← hbx] at S1
  have HW1 := Lib.hid hw1
  have HBX := Lib.hid hbx
  have HS1 := Lib.hid S1
  have HP := Lib.hid P
  have HOK := Lib.hid hok
  have HMK := Lib.hid hmk
  have HBK := Lib.hid hbk
  have HNIL := Lib.hid hnil
  have HNB := Lib.hid hnb
  clear S S1 hw1 hbx hok hm hmk hbk hb hcap hkl hkn hnil P hl1 hl3 hnb
  go_enter Try.func21, Try.ntmps21
  obtain ⟨sx, hsx⟩ : ∃ sx : ByteArray, sx = ⟨(full fill).toArray⟩ := ⟨_, rfl⟩
  have hsz : sx.size = 512 := by rw [hsx]; simp [ByteArray.size, full]
  have HSX := Lib.hid hsx
  have HSZ := Lib.hid hsz
  have HIL := Lib.hid hil
  have hfw := fell_waits D
  have HFW : Hid (D.fell.waits.length ≤ 100000) := Lib.hid (by have := HP.out.waits; omega)
  have hrw := fun (W : World) (R : List Asn) (S : Sep W (rdA r D :: R)) => rWrite_sep S i (i : Int) rfl HIL.out (full fill) (by simp [full]) HOK.out HP.out.left (by have := HP.out.keeps; omega) (by have := HP.out.waits; omega) (by have := HP.out.len; have := HP.out.n1; omega)
  rw [show strV (full fill) = .string sx by rw [hsx]; rfl] at hrw
  obtain ⟨ev, hev⟩ : ∃ ev, ev = rdE D := ⟨_, rfl⟩
  rw [← hev] at hrw
  have HRW := Lib.hid hrw
  have HEV := Lib.hid hev
  clear hsx hsz hil hrw hfw hev
  go_wp2_with fail
  rw [← HW1.out, ← HBX.out]
  refine (sector_calls _ fill _ rfl).mono ?_
  rintro e w2 ⟨rfl, ho, hbl⟩
  have S2 := HS1.out.newBytes hbl ho
  obtain ⟨g, hg⟩ : ∃ g, g = w1.heap.size := ⟨_, rfl⟩
  rw [← hg] at S2 ⊢
  have cx := S2.up4.blk_cell 1
  have cy := S2.up4.blk_cell 4
  simp at cx cy
  have HS2 := Lib.hid S2
  clear S2 ho hbl hg
  go_wp2_with fail
  refine (write_own HS2.out i (i : Int) rfl HIL.out HFW.out).mono ?_
  rw [← HEV.out]
  rintro e w3 ⟨rfl, S3⟩
  have cx := S3.up4.blk_cell 1
  simp at cx
  have tr : (convert 30 9 (.slice (some ⟨g, 0, none⟩) 512 512)).run Try.prog w3 = .ok (.string sx) w3 := by rw [HSX.out]; exact run_string (S3.bytes.reads) 512 512 (by simp [full])
  have HS3 := Lib.hid S3
  clear S3
  go_wp2_with fail
  refine (HRW.out _ _ HS3.out.up2).mono ?_
  rintro e w4 ⟨rfl, S4⟩
  have S5 : Sep w4 (bytesA (.slice (some ⟨g, 0, none⟩) 512 512) 512 (full fill) :: rdA r (D.write i (full fill)) :: diskA p (D.write i (full fill)) :: oldA w0 :: R) := S4.pick [1, 0, 2, 3] 5 (by decide) rfl
  have HS5 := Lib.hid S5
  clear S4 S5 tr
  go_wp2_with fail
  go_loopw [15] (fun iv wr => ∃ (k : Nat) (l : List UInt8), k ≤ 512 ∧ iv = .int .i64 (k : Int) ∧ Sep wr (bytesA (.slice (some ⟨g, 0, none⟩) 512 512) 512 l :: rdA r (D.write i (full fill)) :: diskA p (D.write i (full fill)) :: oldA w0 :: R)) (fun iv _ => 512 - (intOf iv).toNat)
  case atStart => exact ⟨0, _, Nat.zero_le _, rfl, HS5.out⟩
  case round =>
    obtain ⟨k, l, hk, rfl, Sr⟩ := hrel
    by_cases hlt : k < 512
    · have hlt1 : (k : Int) < 512 := by omega
      have hk0 : (0 : Int) ≤ (k : Int) := by omega
      obtain ⟨_, e, _, _, hc, hf⟩ := Sr.bytes.at (by omega)
      cases e
      have hck := hc (k) (by omega)
      have hfk := hf (k)
      have e63 : ((63 : UInt8).toNat : Int) = 63 := rfl
      have S6 := Sr.bytes_set (k) 63
      rw [e63] at S6
      have HS6 := Lib.hid S6
      clear Sr hc hf e63 S6
      go_wp2
      go_roundw
      case rel => exact ⟨k + 1, _, by omega, by go_num, HS6.out⟩
      case measure => simp [intOf]; omega
    · obtain rfl : k = 512 := by omega
      have HSr := Lib.hid Sr
      clear Sr
      go_wp2
      go_ret
      exact ⟨rfl, HSr.out.pick [2, 1, 3] 4 (by decide) rfl⟩
set_option maxRecDepth 20000 in
set_option maxHeartbeats 4000000 in
theorem do_6pos {w0 : World} {n : Nat} (S : Sep w (diskA p D :: rdA r D :: oldA w0 :: R)) (P : PlD D n) (x : StepD) (hb : BoolsAt w0 x.ka x.keep) (hcap : x.keep.length ≤ x.kc ∧ x.kc ≤ maxLen ∧ (x.ka = none → x.kc = 0)) (hnb : x.n ≤ 9223372036854775807) (hk : x.kind = 6) (y : Nat) (hy : x.n = (y : Int)) :
    Calls Try.prog 21 #[.pointer (some ⟨p, 0, none⟩), .pointer (some ⟨r, 0, none⟩), x.val] w fun e w' => e = .returned (.bool true) ∧ Sep w' (diskA p (D.arm x.n (x.keep.take 60)) :: rdA r (D.arm x.n (x.keep.take 60)) :: oldA w0 :: R) := by
  obtain ⟨kind, at_, nn, fill, short, ka, kc, keep⟩ := x
  dsimp only at hb hcap hk hy hnb ⊢
  subst hk hy
  obtain ⟨hok, hl1, hl3⟩ := dk_len S
  obtain ⟨m, hm⟩ : ∃ m, m = min keep.length 60 := ⟨_, rfl⟩
  have hmin : (if (60 : Int) < (keep.length : Int) then (60 : Int) else (keep.length : Int)) = (m : Int) := by rw [hm]; split <;> omega
  have hmk : (keep.take 60).length = m := by rw [List.length_take]; omega
  have hm60 : m ≤ 60 := by omega
  have hmc : (m : Int) ≤ (kc : Int) := by omega
  have hm0 : (0 : Int) ≤ (m : Int) := by omega
  obtain ⟨kl, hkl⟩ : ∃ kl, kl = keep.take 60 := ⟨_, rfl⟩
  have hbk : BoolsAt w0 ka kl := fun i hi => by
    rw [hkl, List.length_take] at hi
    obtain ⟨b, o, e, hc⟩ := hb i (by omega)
    refine ⟨b, o, e, ?_⟩
    rw [hc, hkl]
    simp [List.getD, List.getElem?_take, show i < 60 by omega]
  rw [← hkl] at hmk ⊢
  have hlen0 : (0 : Int) ≤ (keep.length : Int) := by omega
  obtain ⟨kn, hkn⟩ : ∃ kn, kn = keep.length := ⟨_, rfl⟩
  simp only [StepD.val]
  rw [← hkn] at hmin hlen0 ⊢
  have hnil : ka = none → kc = 0 := hcap.2.2
  have S1 := (S.alloc #[.int .i64 6, .int .i64 at_, .int .i64 (y : Int), .int .u8 (fill.toNat : Int), .bool short, .slice ka kn kc] 53).dn3
  obtain ⟨w1, hw1⟩ : ∃ w1, w1 = w.alloc (.cells #[.int .i64 6, .int .i64 at_, .int .i64 (y : Int), .int .u8 (fill.toNat : Int), .bool short, .slice ka kn kc] 53) := ⟨_, rfl⟩
  obtain ⟨bx, hbx⟩ : ∃ bx, bx = w.heap.size := ⟨_, rfl⟩
  rw [← hw1, ← hbx] at S1
  have HW1 := Lib.hid hw1
  have HBX := Lib.hid hbx
  have HS1 := Lib.hid S1
  have HP := Lib.hid P
  have HOK := Lib.hid hok
  have HMK := Lib.hid hmk
  have HBK := Lib.hid hbk
  have HNIL := Lib.hid hnil
  have HNB := Lib.hid hnb
  clear S S1 hw1 hbx hok hm hmk hbk hb hcap hkl hkn hnil P hl1 hl3 hnb
  go_enter Try.func21, Try.ntmps21
  have hsz : w1.heap.size = w.heap.size + 1 := by rw [HW1.out]; simp
  have S2 : Sep (w1.alloc (.cells #[] 4)) (ownA 4 1 (.slice (some ⟨w1.heap.size, 0, none⟩) 0 0) 0 [] :: diskA p D :: rdA r D :: oldA w0 :: blkA bx #[.int .i64 6, .int .i64 at_, .int .i64 (y : Int), .int .u8 (fill.toNat : Int), .bool short, .slice ka kn kc] 53 :: R) :=
    HS1.out.newOwn ((Below.refl _ _).alloc (Nat.le_refl _) _) (World.ownsRow_made w1 #[] 0 (Nat.le_refl _) (by unfold maxLen; omega) rfl)
  have hbk2 := HBK.out.below S2.up3.old
  rw [hsz, HW1.out] at S2
  rw [HW1.out] at hbk2
  have HS2 := Lib.hid S2
  have HBK2 := Lib.hid hbk2
  have hra := fun (W : World) (R : List Asn) (S : Sep W (rdA r D :: oldA w0 :: R)) => rArm_sep (D := D) S (holds_old HBK.out HNIL.out) (y : Int) (by rw [HMK.out]; omega)
  rw [HMK.out] at hra
  have HRA := Lib.hid hra
  clear S2 hbk2 hsz hra
  go_wp2_with (at_builtin; refine wpList_append_bools rfl (.tmp 108) (.tmp 109) rfl HS2.out rfl ka m kc kl rfl HNIL.out HBK2.out HMK.out (by omega) ?next)
  case next =>
  intro g cap w3 S3
  have cx := S3.up4.blk_cell 2
  simp at cx
  rw [HBX.out] at cx
  obtain ⟨_, _, e3, _, hg0⟩ := S3.own_slice
  cases e3
  have HS3 := Lib.hid S3
  have HG0 := Lib.hid hg0
  clear S3 hg0
  go_wp2_with fail
  refine (arm_own HS3.out y (y : Int) rfl (by have := HNB.out; omega) (by omega) HG0.out).mono ?_
  rintro e w4 ⟨rfl, S4⟩
  have S5 : Sep w4 (rdA r D :: oldA w0 :: ownA 4 1 (.slice g m cap) m (kl.map Value.bool) :: diskA p (D.arm (y : Int) kl) :: blkA bx #[.int .i64 6, .int .i64 at_, .int .i64 (y : Int), .int .u8 (fill.toNat : Int), .bool short, .slice ka kn kc] 53 :: R) := S4.pick [2, 3, 0, 1, 4] 5 (by decide) rfl
  have cx := S5.up4.blk_cell 2
  simp at cx
  rw [HBX.out] at cx
  have HS5 := Lib.hid S5
  clear S4 S5
  go_wp2_with fail
  refine (HRA.out _ _ HS5.out).mono ?_
  rintro e w5 ⟨rfl, S6⟩
  have S7 : Sep w5 (ownA 4 1 (.slice g m cap) m (kl.map Value.bool) :: rdA r (D.arm (y : Int) kl) :: oldA w0 :: diskA p (D.arm (y : Int) kl) :: R) := S6.pick [2, 0, 1, 3] 5 (by decide) rfl
  have HS7 := Lib.hid S7
  clear S6 S7 cx
  go_wp2_with fail
  go_loopw [17] (fun iv wr => ∃ (k : Nat) (l : List Bool), k ≤ m ∧ iv = .int .i64 (k : Int) ∧ l.length = m ∧ Sep wr (ownA 4 1 (.slice g m cap) m (l.map Value.bool) :: rdA r (D.arm (y : Int) kl) :: oldA w0 :: diskA p (D.arm (y : Int) kl) :: R)) (fun iv _ => m - (intOf iv).toNat)
  case atStart => exact ⟨0, kl, Nat.zero_le _, rfl, HMK.out, HS7.out⟩
  case round =>
    obtain ⟨k, l, hk, rfl, hll, Sr⟩ := hrel
    by_cases hlt : k < m
    · have hlt1 : (k : Int) < (m : Int) := by omega
      have hk0 : (0 : Int) ≤ (k : Int) := by omega
      obtain ⟨gb, rfl, hc, hf⟩ := Sr.own_at (by omega)
      have hck := hc k (by omega)
      rw [show (l.map Value.bool)[k]? = some (.bool (l.getD k false)) by simp [List.getD, show k < l.length by omega]] at hck
      obtain ⟨b, hb⟩ : ∃ b, b = l.getD k false := ⟨_, rfl⟩
      rw [← hb] at hck
      have hfk := hf k
      have S8 := Sr.own_set k (.bool (!b))
      rw [← List.map_set] at S8
      have HS8 := Lib.hid S8
      have HLL := Lib.hid hll
      clear Sr hc hf S8 hb hll
      go_wp2
      go_roundw
      case rel => exact ⟨k + 1, l.set k (!b), by omega, by go_num, by rw [List.length_set]; exact HLL.out, HS8.out⟩
      case measure => simp [intOf]; omega
    · obtain rfl : k = m := by omega
      have HSr := Lib.hid Sr
      clear Sr
      go_wp2
      go_ret
      exact ⟨rfl, HSr.out.pick [3, 1, 2] 4 (by decide) rfl⟩
set_option maxRecDepth 20000 in
set_option maxHeartbeats 4000000 in
theorem do_6neg {w0 : World} {n : Nat} (S : Sep w (diskA p D :: rdA r D :: oldA w0 :: R)) (P : PlD D n) (x : StepD) (hb : BoolsAt w0 x.ka x.keep) (hcap : x.keep.length ≤ x.kc ∧ x.kc ≤ maxLen ∧ (x.ka = none → x.kc = 0)) (hnb : x.n ≤ 9223372036854775807) (hk : x.kind = 6) (hy : x.n < 0) :
    Calls Try.prog 21 #[.pointer (some ⟨p, 0, none⟩), .pointer (some ⟨r, 0, none⟩), x.val] w fun e w' => e = .returned (.bool true) ∧ Sep w' (diskA p (D.arm x.n (x.keep.take 60)) :: rdA r (D.arm x.n (x.keep.take 60)) :: oldA w0 :: R) := by
  obtain ⟨kind, at_, nn, fill, short, ka, kc, keep⟩ := x
  dsimp only at hb hcap hk hy hnb ⊢
  subst hk
  obtain ⟨hok, hl1, hl3⟩ := dk_len S
  obtain ⟨m, hm⟩ : ∃ m, m = min keep.length 60 := ⟨_, rfl⟩
  have hmin : (if (60 : Int) < (keep.length : Int) then (60 : Int) else (keep.length : Int)) = (m : Int) := by rw [hm]; split <;> omega
  have hmk : (keep.take 60).length = m := by rw [List.length_take]; omega
  have hm60 : m ≤ 60 := by omega
  have hmc : (m : Int) ≤ (kc : Int) := by omega
  have hm0 : (0 : Int) ≤ (m : Int) := by omega
  obtain ⟨kl, hkl⟩ : ∃ kl, kl = keep.take 60 := ⟨_, rfl⟩
  have hbk : BoolsAt w0 ka kl := fun i hi => by
    rw [hkl, List.length_take] at hi
    obtain ⟨b, o, e, hc⟩ := hb i (by omega)
    refine ⟨b, o, e, ?_⟩
    rw [hc, hkl]
    simp [List.getD, List.getElem?_take, show i < 60 by omega]
  rw [← hkl] at hmk ⊢
  have hlen0 : (0 : Int) ≤ (keep.length : Int) := by omega
  obtain ⟨kn, hkn⟩ : ∃ kn, kn = keep.length := ⟨_, rfl⟩
  simp only [StepD.val]
  rw [← hkn] at hmin hlen0 ⊢
  have hnil : ka = none → kc = 0 := hcap.2.2
  have S1 := (S.alloc #[.int .i64 6, .int .i64 at_, .int .i64 nn, .int .u8 (fill.toNat : Int), .bool short, .slice ka kn kc] 53).dn3
  obtain ⟨w1, hw1⟩ : ∃ w1, w1 = w.alloc (.cells #[.int .i64 6, .int .i64 at_, .int .i64 nn, .int .u8 (fill.toNat : Int), .bool short, .slice ka kn kc] 53) := ⟨_, rfl⟩
  obtain ⟨bx, hbx⟩ : ∃ bx, bx = w.heap.size := ⟨_, rfl⟩
  rw [← hw1, ← hbx] at S1
  have HW1 := Lib.hid hw1
  have HBX := Lib.hid hbx
  have HS1 := Lib.hid S1
  have HP := Lib.hid P
  have HOK := Lib.hid hok
  have HMK := Lib.hid hmk
  have HBK := Lib.hid hbk
  have HNIL := Lib.hid hnil
  have HNB := Lib.hid hnb
  clear S S1 hw1 hbx hok hm hmk hbk hb hcap hkl hkn hnil P hl1 hl3 hnb
  go_enter Try.func21, Try.ntmps21
  have hsz : w1.heap.size = w.heap.size + 1 := by rw [HW1.out]; simp
  have S2 : Sep (w1.alloc (.cells #[] 4)) (ownA 4 1 (.slice (some ⟨w1.heap.size, 0, none⟩) 0 0) 0 [] :: diskA p D :: rdA r D :: oldA w0 :: blkA bx #[.int .i64 6, .int .i64 at_, .int .i64 nn, .int .u8 (fill.toNat : Int), .bool short, .slice ka kn kc] 53 :: R) :=
    HS1.out.newOwn ((Below.refl _ _).alloc (Nat.le_refl _) _) (World.ownsRow_made w1 #[] 0 (Nat.le_refl _) (by unfold maxLen; omega) rfl)
  have hbk2 := HBK.out.below S2.up3.old
  rw [hsz, HW1.out] at S2
  rw [HW1.out] at hbk2
  have HS2 := Lib.hid S2
  have HBK2 := Lib.hid hbk2
  have hra := fun (W : World) (R : List Asn) (S : Sep W (rdA r D :: oldA w0 :: R)) => rArm_sep (D := D) S (holds_old HBK.out HNIL.out) nn (by rw [HMK.out]; omega)
  rw [HMK.out] at hra
  have HRA := Lib.hid hra
  clear S2 hbk2 hsz hra
  go_wp2_with (at_builtin; refine wpList_append_bools rfl (.tmp 108) (.tmp 109) rfl HS2.out rfl ka m kc kl rfl HNIL.out HBK2.out HMK.out (by omega) ?next)
  case next =>
  intro g cap w3 S3
  have cx := S3.up4.blk_cell 2
  simp at cx
  rw [HBX.out] at cx
  obtain ⟨_, _, e3, _, hg0⟩ := S3.own_slice
  cases e3
  have HS3 := Lib.hid S3
  have HG0 := Lib.hid hg0
  clear S3 hg0
  go_wp2_with fail
  refine (arm_neg_sep HS3.out.up1 nn hy _ kl).mono ?_
  rintro e w4 ⟨rfl, S4⟩
  have S5 : Sep w4 (rdA r D :: oldA w0 :: ownA 4 1 (.slice g m cap) m (kl.map Value.bool) :: diskA p (D.arm nn kl) :: blkA bx #[.int .i64 6, .int .i64 at_, .int .i64 nn, .int .u8 (fill.toNat : Int), .bool short, .slice ka kn kc] 53 :: R) := S4.pick [2, 3, 1, 0, 4] 5 (by decide) rfl
  have cx := S5.up4.blk_cell 2
  simp at cx
  rw [HBX.out] at cx
  have HS5 := Lib.hid S5
  clear S4 S5
  go_wp2_with fail
  refine (HRA.out _ _ HS5.out).mono ?_
  rintro e w5 ⟨rfl, S6⟩
  have S7 : Sep w5 (ownA 4 1 (.slice g m cap) m (kl.map Value.bool) :: rdA r (D.arm nn kl) :: oldA w0 :: diskA p (D.arm nn kl) :: R) := S6.pick [2, 0, 1, 3] 5 (by decide) rfl
  have HS7 := Lib.hid S7
  clear S6 S7 cx
  go_wp2_with fail
  go_loopw [17] (fun iv wr => ∃ (k : Nat) (l : List Bool), k ≤ m ∧ iv = .int .i64 (k : Int) ∧ l.length = m ∧ Sep wr (ownA 4 1 (.slice g m cap) m (l.map Value.bool) :: rdA r (D.arm nn kl) :: oldA w0 :: diskA p (D.arm nn kl) :: R)) (fun iv _ => m - (intOf iv).toNat)
  case atStart => exact ⟨0, kl, Nat.zero_le _, rfl, HMK.out, HS7.out⟩
  case round =>
    obtain ⟨k, l, hk, rfl, hll, Sr⟩ := hrel
    by_cases hlt : k < m
    · have hlt1 : (k : Int) < (m : Int) := by omega
      have hk0 : (0 : Int) ≤ (k : Int) := by omega
      obtain ⟨gb, rfl, hc, hf⟩ := Sr.own_at (by omega)
      have hck := hc k (by omega)
      rw [show (l.map Value.bool)[k]? = some (.bool (l.getD k false)) by simp [List.getD, show k < l.length by omega]] at hck
      obtain ⟨b, hb⟩ : ∃ b, b = l.getD k false := ⟨_, rfl⟩
      rw [← hb] at hck
      have hfk := hf k
      have S8 := Sr.own_set k (.bool (!b))
      rw [← List.map_set] at S8
      have HS8 := Lib.hid S8
      have HLL := Lib.hid hll
      clear Sr hc hf S8 hb hll
      go_wp2
      go_roundw
      case rel => exact ⟨k + 1, l.set k (!b), by omega, by go_num, by rw [List.length_set]; exact HLL.out, HS8.out⟩
      case measure => simp [intOf]; omega
    · obtain rfl : k = m := by omega
      have HSr := Lib.hid Sr
      clear Sr
      go_wp2
      go_ret
      exact ⟨rfl, HSr.out.pick [3, 1, 2] 4 (by decide) rfl⟩
end
end Go.Proofs.Ytgicpialopccpaa
