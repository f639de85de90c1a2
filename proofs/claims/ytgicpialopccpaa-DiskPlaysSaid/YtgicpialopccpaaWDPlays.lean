/- DiskPlays: the walk. -/
import Derived.Test.YtgicpialopccpaaDo
import Derived.Test.YtgicpialopccpaaHeld
import Derived.Test.YtgicpialopccpaaDiskL
namespace Go.Proofs.Ytgicpialopccpaa
open Go.RowKit
set_option linter.unusedVariables false

section
variable {P : Program} {ops : Array Oper} {Q : Exit → Act → World → Prop} {md : Region.Mode}
/-- Two parts of a region: what holds in the first, and what holds in the second. -/
def phaseS (A B : World → Prop) (m : Nat) : Nat → World → Prop := fun j w => (j < m → A w) ∧ (m ≤ j → B w)
def allA (ops : Array Oper) (listed : Array Bool) (i m : Nat) (T : List Nat) : Bool := decide (i < m) && (List.range ops.size).all fun j => j == i || listed.getD j true || T.contains j || decide (j < m)
def allB (ops : Array Oper) (listed : Array Bool) (i m : Nat) (T : List Nat) : Bool := decide (m ≤ i) && (List.range ops.size).all fun j => j == i || listed.getD j true || T.contains j || decide (m ≤ j)
theorem in_size {listed : Array Bool} {j : Nat} (hun : listed.getD j true = false) : j < listed.size := by
  rcases Nat.lt_or_ge j listed.size with h' | h'
  · exact h'
  · simp [Array.getElem?_eq_none h'] at hun
theorem AnyK.takeA {A B : World → Prop} {m : Nat} {T : List Nat} {i : Nat} {oi : Oper} {v : Value} {fuel : Nat} {listed : Array Bool} {a : Act} {w : World} (hi : ops[i]? = some oi)
    (hs : Region.noSelect ops = true) (hf : Region.free md ops listed i = true) (hr : (Region.ready md ops listed).contains i = true) (hw : waitsB md ops i T = true) (hu : unlistedB listed T = true) (he : allA ops listed i m T = true) (hsz : (ops.size == listed.size) = true) (_ : true = true)
    (hQ : ∀ c a w, Q (.panic c) (a.put oi.dst v) w → Q (.panic c) a w) (hy : YieldsIf P ops A oi v a) (hS : A w)
    (h : AnyK P md ops Q (phaseS A B m) fuel (listed.setIfInBounds i true) (a.put oi.dst v) w) : AnyK P md ops Q (phaseS A B m) (fuel + 1) listed a w := by
  unfold allA at he
  simp only [Bool.and_eq_true, decide_eq_true_eq] at he
  have hsz : ops.size = listed.size := by simpa using hsz
  refine AnyK.first hi (Region.noSelect_spec hs) hQ (waits_spec hw) (fun w h => ⟨fun _ => h, fun hm => by omega⟩) fuel listed a w (Region.free_spec hi hf) (fun j hji hun hjT w hSj => ?_) (fun j hj => ?_) (by simpa using hr) hy hS h
  · have hj : j < ops.size := by rw [hsz]; exact in_size hun
    have := List.all_eq_true.1 he.2 j (List.mem_range.2 hj)
    have hjm : j < m := by
      simp only [Bool.or_eq_true, beq_iff_eq, List.contains_iff_mem, decide_eq_true_eq] at this
      rcases this with ((h | h) | h) | h
      · exact absurd h hji
      · rw [hun] at h; cases h
      · exact absurd h hjT
      · exact h
    exact hSj.1 hjm
  · have := List.all_eq_true.1 hu j hj
    simpa using this
theorem AnyK.takeB {A B : World → Prop} {m : Nat} {T : List Nat} {i : Nat} {oi : Oper} {v : Value} {fuel : Nat} {listed : Array Bool} {a : Act} {w : World} (hi : ops[i]? = some oi)
    (hs : Region.noSelect ops = true) (hf : Region.free md ops listed i = true) (hr : (Region.ready md ops listed).contains i = true) (hw : waitsB md ops i T = true) (hu : unlistedB listed T = true) (he : allB ops listed i m T = true) (hsz : (ops.size == listed.size) = true) (_ : true = true)
    (hQ : ∀ c a w, Q (.panic c) (a.put oi.dst v) w → Q (.panic c) a w) (hy : YieldsIf P ops B oi v a) (hS : B w)
    (h : AnyK P md ops Q (phaseS A B m) fuel (listed.setIfInBounds i true) (a.put oi.dst v) w) : AnyK P md ops Q (phaseS A B m) (fuel + 1) listed a w := by
  unfold allB at he
  simp only [Bool.and_eq_true, decide_eq_true_eq] at he
  have hsz : ops.size = listed.size := by simpa using hsz
  refine AnyK.first hi (Region.noSelect_spec hs) hQ (waits_spec hw) (fun w h => ⟨fun hm => by omega, fun _ => h⟩) fuel listed a w (Region.free_spec hi hf) (fun j hji hun hjT w hSj => ?_) (fun j hj => ?_) (by simpa using hr) hy hS h
  · have hj : j < ops.size := by rw [hsz]; exact in_size hun
    have := List.all_eq_true.1 he.2 j (List.mem_range.2 hj)
    have hjm : m ≤ j := by
      simp only [Bool.or_eq_true, beq_iff_eq, List.contains_iff_mem, decide_eq_true_eq] at this
      rcases this with ((h | h) | h) | h
      · exact absurd h hji
      · rw [hun] at h; cases h
      · exact absurd h hjT
      · exact h
    exact hSj.2 hjm
  · have := List.all_eq_true.1 hu j hj
    simpa using this
theorem AnyK.oneP {S : Nat → World → Prop} {i : Nat} {oi : Oper} {fuel : Nat} {listed : Array Bool} {a : Act} {w : World} (hr : Region.ready md ops listed = [i]) (hi : ops[i]? = some oi)
    (h : ∀ K' : Act → World → Prop, Shut (∀ a w, S i w → AnyK P md ops Q S fuel (listed.setIfInBounds i true) a w → K' a w) → if Region.wanted oi (yielded ops a.tmps) = true then Oper.wp P oi a w K' Q else K' (a.put oi.dst undef) w) :
    AnyK P md ops Q S (fuel + 1) listed a w := by
  refine ⟨fun h0 => (by rw [hr] at h0; cases h0), fun j hj => ?_⟩
  rw [hr] at hj
  obtain rfl := List.mem_singleton.1 hj
  exact wpOp_step hi (fun K' hK => h K' (fun a w h1 h2 => hK a w ⟨h1, h2⟩))
end

structure PlI (D : Dk) (n k : Nat) : Prop where
  len : D.secs.length = n
  waits : D.waits.length ≤ k
  keeps : D.keeps.length ≤ 60
  left : ∀ x, D.armed = some x → x.1 ≤ 9223372036854775807
theorem keeps_of {D D' : Dk} (h : D'.armed = D.armed ∨ D'.armed = none ∨ (∃ l k, D.armed = some (l, k) ∧ D'.armed = some (l - 1, k))) (hk : D.keeps.length ≤ 60) (hl : ∀ x, D.armed = some x → x.1 ≤ 9223372036854775807) : D'.keeps.length ≤ 60 ∧ ∀ x, D'.armed = some x → x.1 ≤ 9223372036854775807 := by
  rcases h with h | h | ⟨l, k, h1, h2⟩
  · exact ⟨by unfold Dk.keeps at hk ⊢; rw [h]; exact hk, fun x hx => hl x (by rw [← h]; exact hx)⟩
  · exact ⟨by unfold Dk.keeps; rw [h]; simp, fun x hx => by rw [h] at hx; cases hx⟩
  · refine ⟨by unfold Dk.keeps at hk ⊢; rw [h1] at hk; rw [h2]; exact hk, fun x hx => ?_⟩
    rw [h2] at hx; cases hx
    have := hl _ h1
    dsimp only at this ⊢; omega
theorem armed_fell (D : Dk) : D.fell.armed = D.armed ∨ D.fell.armed = none := by unfold Dk.fell; split; exact .inr rfl; exact .inl rfl
theorem armed_counted (D : Dk) : D.counted.armed = none ∧ D.armed = none ∨ (∃ l k, D.armed = some (l, k) ∧ D.counted.armed = some (l - 1, k)) := by
  unfold Dk.counted
  cases h : D.armed with
  | none => exact .inl ⟨rfl, rfl⟩
  | some x => exact .inr ⟨x.1, x.2, rfl, rfl⟩
theorem armed_begun (D : Dk) : D.begun.armed = D.armed ∨ D.begun.armed = none ∨ (∃ l k, D.armed = some (l, k) ∧ D.begun.armed = some (l - 1, k)) := by
  unfold Dk.begun
  split
  · rcases armed_fell D with h | h
    · exact .inl h
    · exact .inr (.inl h)
  · rcases armed_counted D.fell with ⟨h, _⟩ | ⟨l, k, h1, h2⟩
    · exact .inr (.inl h)
    · rcases armed_fell D with h | h
      · exact .inr (.inr ⟨l, k, by rw [← h]; exact h1, h2⟩)
      · rw [h] at h1; cases h1
theorem pl_step {D : Dk} {n k : Nat} (h : PlI D n k) (x : StepD) (hx : x.n ≤ 9223372036854775807) : PlI (stepD D x) n (k + 1) := by
  have hw := h.waits
  have hb := begun_waits D
  have hbl := begun_len D
  have ha := keeps_of (armed_begun D) h.keeps h.left
  have same : PlI D n (k + 1) := ⟨h.len, by omega, h.keeps, h.left⟩
  have hbeg : PlI D.begun n (k + 1) := ⟨by rw [hbl]; exact h.len, by omega, ha.1, ha.2⟩
  unfold stepD
  split
  · split
    · exact hbeg
    · exact same
  split
  · split
    · rename_i hc
      by_cases hd : D.fell.down = true
      · have e : D.write x.at_.toNat (full x.fill) = D.begun := by simp [Dk.write, Dk.begun, hd]
        rw [e]; exact hbeg
      · rw [write_waits _ _ (by simpa using hd)]
        exact ⟨by dsimp only; rw [hbl]; exact h.len, by dsimp only; rw [List.length_append, List.length_singleton]; omega, ha.1, ha.2⟩
    · exact same
  split
  · by_cases hd : D.fell.down = true
    · have e : D.barrier = D.begun := by simp [Dk.barrier, Dk.begun, hd]
      rw [e]; exact hbeg
    · have e : D.barrier = { D.begun with secs := Dk.flush D.begun.waits D.begun.secs, waits := [] } := by simp [Dk.barrier, Dk.begun, show D.fell.down = false by simpa using hd]
      rw [e]
      exact ⟨by dsimp only; rw [Dk.flush_len, hbl]; exact h.len, Nat.zero_le _, ha.1, ha.2⟩
  split
  · exact ⟨by show (Dk.keepFrom _ 0 D.waits D.secs).length = n; rw [Dk.keepFrom_len]; exact h.len, Nat.zero_le _, by simp [Dk.keeps, Dk.crash], fun y hy => by cases hy⟩
  split
  · unfold Dk.start
    split
    · exact ⟨h.len, by dsimp only; omega, h.keeps, h.left⟩
    · exact same
  split
  · refine ⟨h.len, by show D.waits.length ≤ _; omega, ?_, fun y hy => ?_⟩
    · unfold Dk.keeps Dk.arm
      dsimp only
      split
      · rename_i hq
        split at hq
        · cases hq; rw [List.length_take]; omega
        · cases hq
      · simp
    · unfold Dk.arm at hy
      dsimp only at hy
      split at hy
      · cases hy; dsimp only; omega
      · cases hy
  · exact same
theorem pl_new (n : Nat) : PlI (Dk.new n) n 0 := ⟨by simp [Dk.new], Nat.zero_le _, Nat.zero_le _, fun x hx => by cases hx⟩
theorem do_sep {w w0 : World} {R : List Asn} {p r n k : Nat} {D : Dk} (S : Sep w (diskA p D :: rdA r D :: oldA w0 :: R)) (P : PlI D n k) (hn : 1 ≤ n ∧ n ≤ 16) (hk : k ≤ 100) (x : StepD) (hb : BoolsAt w0 x.ka x.keep) (hcap : x.keep.length ≤ x.kc ∧ x.kc ≤ maxLen ∧ (x.ka = none → x.kc = 0)) (hnb : x.n ≤ 9223372036854775807) :
    Calls Try.prog 21 #[.pointer (some ⟨p, 0, none⟩), .pointer (some ⟨r, 0, none⟩), x.val] w fun e w' => e = .returned (.bool true) ∧ Sep w' (diskA p (stepD D x) :: rdA r (stepD D x) :: oldA w0 :: R) := by
  have P' : PlD D n := ⟨P.len, hn, by have := P.waits; omega, P.keeps, P.left⟩
  by_cases h1 : x.kind = 1
  · by_cases hi : inD D x.at_
    · have e : stepD D x = D.begun := by unfold stepD; rw [if_pos h1, if_pos hi]
      rw [e]
      have hi' := hi
      unfold inD at hi
      exact do_1in S P' x hb hcap hnb h1 x.at_.toNat (by omega) (by omega)
    · have e : stepD D x = D := by unfold stepD; rw [if_pos h1, if_neg hi]
      rw [e]
      exact do_1out S P' x hb hcap hnb h1 hi
  by_cases h2 : x.kind = 2
  · cases hs : x.short with
    | true =>
      have e : stepD D x = D := by unfold stepD; rw [if_neg h1, if_pos h2, if_neg (fun h => by rw [hs] at h; cases h.2)]
      rw [e]
      exact do_2short S P' x hb hcap hnb h2 hs
    | false =>
      by_cases hi : inD D x.at_
      · have e : stepD D x = D.write x.at_.toNat (full x.fill) := by unfold stepD; rw [if_neg h1, if_pos h2, if_pos ⟨hi, hs⟩]
        rw [e]
        unfold inD at hi
        exact do_2in S P' x hb hcap hnb h2 hs x.at_.toNat (by omega) (by omega)
      · have e : stepD D x = D := by unfold stepD; rw [if_neg h1, if_pos h2, if_neg (fun h => hi h.1)]
        rw [e]
        exact do_2out S P' x hb hcap hnb h2 hs hi
  by_cases h3 : x.kind = 3
  · have e : stepD D x = D.barrier := by unfold stepD; rw [if_neg h1, if_neg h2, if_pos h3]
    rw [e]; exact do_3 S P' x hb hcap hnb h3
  by_cases h4 : x.kind = 4
  · have e : stepD D x = D.crash (x.keep.take 60) := by unfold stepD; rw [if_neg h1, if_neg h2, if_neg h3, if_pos h4]
    rw [e]; exact do_4 S P' x hb hcap hnb h4
  by_cases h5 : x.kind = 5
  · have e : stepD D x = D.start := by unfold stepD; rw [if_neg h1, if_neg h2, if_neg h3, if_neg h4, if_pos h5]
    rw [e]; exact do_5 S P' x hb hcap hnb h5
  by_cases h6 : x.kind = 6
  · have e : stepD D x = D.arm x.n (x.keep.take 60) := by unfold stepD; rw [if_neg h1, if_neg h2, if_neg h3, if_neg h4, if_neg h5, if_pos h6]
    rw [e]
    by_cases hy : x.n < 0
    · exact do_6neg S P' x hb hcap hnb h6 hy
    · exact do_6pos S P' x hb hcap hnb h6 x.n.toNat (by omega)
  · have e : stepD D x = D := by unfold stepD; rw [if_neg h1, if_neg h2, if_neg h3, if_neg h4, if_neg h5, if_neg h6]
    rw [e]
    exact do_0 S P' x hb hcap hnb (by omega)
theorem new_arg_sep {w : World} {R : List Asn} (S : Sep w R) (n : Int) (h : n < 1 ∨ 4096 < n) :
    Calls Try.prog 11 #[.int .i64 n] w fun e w' => e = .returned (.tuple #[.pointer none, .int .i64 1]) ∧ Sep w' R :=
  (new_not n w h).mono fun e w' h => ⟨h.1, h.2 ▸ S⟩

set_option maxRecDepth 20000 in
set_option maxHeartbeats 8000000 in
theorem dplays_none (w : World) (R : List Asn) (S : Sep w R) (nn : Int) (a : Option Addr) (na ca : Nat) (hk : Go.bits .and .i64 nn 15 = 0) :
    Calls Try.prog 8 #[.int .i64 nn, .slice a na ca] w fun e w' => e = .returned (.bool true) ∧ Sep w' R := by
  have HS := Lib.hid S
  clear S
  go_enter Try.func8, Try.ntmps8
  go_wp2_with fail
  refine (shown_calls _).mono ?_
  rintro e w1 ⟨rfl, hb1⟩
  have HS1 := Lib.hid (HS.out.below hb1)
  clear hb1
  go_wp2_with fail
  refine (new_arg_sep HS1.out 0 (by omega)).mono ?_
  rintro e w2 ⟨rfl, S2⟩
  have HS2 := Lib.hid S2
  clear S2
  go_wp2_with fail
  refine (rNew_arg w2 0 (by omega)).mono ?_
  rintro e w3 ⟨rfl, rfl⟩
  go_wp2_with fail
  go_loopw [10] (fun i wr => i = .int .i64 0 ∧ Sep wr R) (fun _ _ => 0)
  case atStart => exact ⟨rfl, HS2.out⟩
  case round =>
    obtain ⟨rfl, Sr⟩ := hrel
    have HSr := Lib.hid Sr
    clear Sr
    by_cases h0 : 0 < na
    · have h1 : (0 : Int) < (na : Int) := by omega
      go_wp2
      go_ret
      exact ⟨rfl, HSr.out⟩
    · have h1 : ¬ (0 : Int) < (na : Int) := by omega
      go_wp2
      go_ret
      exact ⟨rfl, HSr.out⟩
set_option maxRecDepth 20000 in
set_option maxHeartbeats 8000000 in
theorem dplays_walk (w : World) (R : List Asn) (S : Sep w R) (nn : Int) (a : Option Addr) (la : List StepD) (ca n : Nat) (ha : StepsAt w a la) (hla : la.length ≤ 9223372036854775807) (hR : R = [oldA w]) (hk : Go.bits .and .i64 nn 15 = (n : Int)) (h1 : 1 ≤ n) (h16 : n ≤ 16) :
    Calls Try.prog 8 #[.int .i64 nn, .slice a la.length ca] w fun e w' => e = .returned (.bool true) ∧ Sep w' R := by
  subst hR
  obtain ⟨na, hna⟩ : ∃ na, na = la.length := ⟨_, rfl⟩
  rw [← hna]
  rw [← hna] at hla
  have HNA := Lib.hid hna
  have HA := Lib.hid ha
  have HS := Lib.hid S
  have HN : Hid (1 ≤ n ∧ n ≤ 16) := Lib.hid ⟨h1, h16⟩
  clear hna ha S h1 h16
  go_enter Try.func8, Try.ntmps8
  go_wp2_with fail
  refine (shown_calls _).mono ?_
  rintro e w1 ⟨rfl, hb1⟩
  have HS1 := Lib.hid (HS.out.below hb1)
  clear hb1
  go_wp2_with fail
  refine (new_sep HS1.out n (n : Int) rfl HN.out.1 (by have := HN.out.2; omega)).mono ?_
  rintro e w2 ⟨p, rfl, S2⟩
  have HS2 := Lib.hid S2
  clear S2
  go_wp2_with fail
  refine (rNew_sep HS2.out n (n : Int) rfl HN.out.1 (by have := HN.out.2; omega)).mono ?_
  rintro e w3 ⟨r, rfl, S3⟩
  have HS3 := Lib.hid S3.up1
  clear S3
  go_wp2_with fail
  go_loopw [10] (fun i wr => ∃ (k : Nat) (D : Dk), k ≤ na ∧ k ≤ 80 ∧ i = .int .i64 (k : Int) ∧ Sep wr [diskA p D, rdA r D, oldA w] ∧ Hid (PlI D n k)) (fun i _ => na - (intOf i).toNat)
  case atStart => exact ⟨0, Dk.new n, Nat.zero_le _, Nat.zero_le _, rfl, HS3.out, Lib.hid (pl_new n)⟩
  case round =>
    obtain ⟨k, D, hk1, hk8, rfl, Sr, HI⟩ := hrel
    by_cases hlt : k < na ∧ k < 80
    · obtain ⟨hlt1, hlt8⟩ := hlt
      have hl1 : (k : Int) < (na : Int) := by omega
      have hl8 : (k : Int) < 80 := by omega
      have hk0 : (0 : Int) ≤ (k : Int) := by omega
      obtain ⟨ab, ao, rfl, hx⟩ := HA.out k (by rw [← HNA.out]; exact hlt1)
      obtain ⟨x, hxe⟩ : ∃ x, x = la.getD k stepN := ⟨_, rfl⟩
      rw [← hxe] at hx
      have hdo := do_sep Sr.drew HI.out HN.out (by omega) x hx.bools hx.cap hx.nb
      have hpl := pl_step HI.out x hx.nb
      have s0 := Sr.up2.old.cell (p := ⟨ab, ao + k * 6, none⟩) (World.block_lt_of_cell? _ _ hx.kind)
      rw [hx.kind] at s0
      have s1 := Sr.up2.old.cell (p := ⟨ab, ao + k * 6 + 1, none⟩) (World.block_lt_of_cell? _ _ hx.at_)
      rw [hx.at_] at s1
      have s2 := Sr.up2.old.cell (p := ⟨ab, ao + k * 6 + 2, none⟩) (World.block_lt_of_cell? _ _ hx.n)
      rw [hx.n] at s2
      have s3 := Sr.up2.old.cell (p := ⟨ab, ao + k * 6 + 3, none⟩) (World.block_lt_of_cell? _ _ hx.fill)
      rw [hx.fill] at s3
      have s4 := Sr.up2.old.cell (p := ⟨ab, ao + k * 6 + 4, none⟩) (World.block_lt_of_cell? _ _ hx.short)
      rw [hx.short] at s4
      have s5 := Sr.up2.old.cell (p := ⟨ab, ao + k * 6 + 5, none⟩) (World.block_lt_of_cell? _ _ hx.keep)
      rw [hx.keep] at s5
      obtain ⟨D2, hD2⟩ : ∃ D2, D2 = stepD D x := ⟨_, rfl⟩
      rw [← hD2] at hdo hpl
      have HDO := Lib.hid hdo
      have HPL := Lib.hid hpl
      obtain ⟨xk, hxk⟩ : ∃ xk, xk = x.keep.length := ⟨_, rfl⟩
      have hxv : x.val = .agg #[.int .i64 x.kind, .int .i64 x.at_, .int .i64 x.n, .int .u8 (x.fill.toNat : Int), .bool x.short, .slice x.ka xk x.kc] := by rw [hxk]; rfl
      rw [← hxk] at s5
      rw [hxv] at HDO
      clear hdo hpl hx hxe Sr hD2 hxk hxv
      go_wp2_with fail
      refine AnyK.start (S := phaseS (fun w' => w'.cell? ⟨ab, ao + k * 6, none⟩ = some (.int .i64 x.kind) ∧ w'.cell? ⟨ab, ao + k * 6 + 1, none⟩ = some (.int .i64 x.at_) ∧ w'.cell? ⟨ab, ao + k * 6 + 2, none⟩ = some (.int .i64 x.n) ∧ w'.cell? ⟨ab, ao + k * 6 + 3, none⟩ = some (.int .u8 (x.fill.toNat : Int)) ∧ w'.cell? ⟨ab, ao + k * 6 + 4, none⟩ = some (.bool x.short) ∧ w'.cell? ⟨ab, ao + k * 6 + 5, none⟩ = some (.slice x.ka xk x.kc))
        (fun w' => w'.cell? ⟨r, 2, none⟩ = some (.bool D2.down) ∧ w'.cell? ⟨r, 3, none⟩ = some (.int .i64 D2.ops)) 6) (by kernel_rfl) ?_
      have hA := And.intro s0 (And.intro s1 (And.intro s2 (And.intro s3 (And.intro s4 s5))))
      refine AnyK.takeA (i := 0) (T := [6, 7, 8, 9, 10, 11, 12, 13, 14, 15, 16, 17, 18, 19, 20, 21, 22, 23, 24, 25, 26, 27, 28, 29, 30, 31]) (v := ?vA0) rfl (by kernel_rfl) (by kernel_rfl) (by kernel_rfl) (by kernel_rfl) (by kernel_rfl) (by kernel_rfl) (by kernel_rfl) (by kernel_rfl) (fun _ _ _ h => h) (Or.inl ⟨by rfl, ?yA0⟩) hA ?rA0
      case yA0 => (intro w hSw; (try dsimp only at hSw); go_simp; (try with_reducible rfl))
      try simp only [Act.put, List.getElem_toArray, List.getElem_cons_zero, List.getElem_cons_succ, List.setIfInBounds_toArray, List.set_cons_zero, List.set_cons_succ, Bool.not_true, Bool.not_false]
      refine AnyK.takeA (i := 1) (T := [6, 7, 8, 9, 10, 11, 12, 13, 14, 15, 16, 17, 18, 19, 20, 21, 22, 23, 24, 25, 26, 27, 28, 29, 30, 31]) (v := ?vA1) rfl (by kernel_rfl) (by kernel_rfl) (by kernel_rfl) (by kernel_rfl) (by kernel_rfl) (by kernel_rfl) (by kernel_rfl) (by kernel_rfl) (fun _ _ _ h => h) (Or.inl ⟨by rfl, ?yA1⟩) hA ?rA1
      case yA1 => (intro w hSw; (try dsimp only at hSw); go_simp; (try with_reducible rfl))
      try simp only [Act.put, List.getElem_toArray, List.getElem_cons_zero, List.getElem_cons_succ, List.setIfInBounds_toArray, List.set_cons_zero, List.set_cons_succ, Bool.not_true, Bool.not_false]
      refine AnyK.takeA (i := 2) (T := [4, 5, 6, 7, 8, 9, 10, 11, 12, 13, 14, 15, 16, 17, 18, 19, 20, 21, 22, 23, 24, 25, 26, 27, 28, 29, 30, 31]) (v := ?vA2) rfl (by kernel_rfl) (by kernel_rfl) (by kernel_rfl) (by kernel_rfl) (by kernel_rfl) (by kernel_rfl) (by kernel_rfl) (by kernel_rfl) (fun _ _ _ h => h) (Or.inl ⟨by rfl, ?yA2⟩) hA ?rA2
      case yA2 => (intro w hSw; (try dsimp only at hSw); go_simp; (try with_reducible rfl))
      try simp only [Act.put, List.getElem_toArray, List.getElem_cons_zero, List.getElem_cons_succ, List.setIfInBounds_toArray, List.set_cons_zero, List.set_cons_succ, Bool.not_true, Bool.not_false]
      refine AnyK.takeA (i := 3) (T := [4, 5, 6, 7, 8, 9, 10, 11, 12, 13, 14, 15, 16, 17, 18, 19, 20, 21, 22, 23, 24, 25, 26, 27, 28, 29, 30, 31]) (v := ?vA3) rfl (by kernel_rfl) (by kernel_rfl) (by kernel_rfl) (by kernel_rfl) (by kernel_rfl) (by kernel_rfl) (by kernel_rfl) (by kernel_rfl) (fun _ _ _ h => h) (Or.inl ⟨by rfl, ?yA3⟩) hA ?rA3
      case yA3 => (intro w hSw; (try dsimp only at hSw); go_simp; (try with_reducible rfl))
      try simp only [Act.put, List.getElem_toArray, List.getElem_cons_zero, List.getElem_cons_succ, List.setIfInBounds_toArray, List.set_cons_zero, List.set_cons_succ, Bool.not_true, Bool.not_false]
      refine AnyK.takeA (i := 4) (T := [5, 6, 7, 8, 9, 10, 11, 12, 13, 14, 15, 16, 17, 18, 19, 20, 21, 22, 23, 24, 25, 26, 27, 28, 29, 30, 31]) (v := ?vA4) rfl (by kernel_rfl) (by kernel_rfl) (by kernel_rfl) (by kernel_rfl) (by kernel_rfl) (by kernel_rfl) (by kernel_rfl) (by kernel_rfl) (fun _ _ _ h => h) (Or.inl ⟨by rfl, ?yA4⟩) hA ?rA4
      case yA4 => (intro w hSw; (try dsimp only at hSw); go_simp; (try with_reducible rfl))
      try simp only [Act.put, List.getElem_toArray, List.getElem_cons_zero, List.getElem_cons_succ, List.setIfInBounds_toArray, List.set_cons_zero, List.set_cons_succ, Bool.not_true, Bool.not_false]
      refine AnyK.takeA (i := 5) (T := [6, 7, 8, 9, 10, 11, 12, 13, 14, 15, 16, 17, 18, 19, 20, 21, 22, 23, 24, 25, 26, 27, 28, 29, 30, 31]) (v := ?vA5) rfl (by kernel_rfl) (by kernel_rfl) (by kernel_rfl) (by kernel_rfl) (by kernel_rfl) (by kernel_rfl) (by kernel_rfl) (by kernel_rfl) (fun _ _ _ h => h) (Or.inl ⟨by rfl, ?yA5⟩) hA ?rA5
      case yA5 => (intro w hSw; (try dsimp only at hSw); go_simp; (try with_reducible rfl))
      try simp only [Act.put, List.getElem_toArray, List.getElem_cons_zero, List.getElem_cons_succ, List.setIfInBounds_toArray, List.set_cons_zero, List.set_cons_succ, Bool.not_true, Bool.not_false]
      refine AnyK.oneP (i := 6) (by kernel_rfl) rfl (fun K hK => ?_)
      go_simp
      refine HDO.out.mono ?_
      rintro e w5 ⟨rfl, S5⟩
      obtain ⟨dv, wv, kv, kp, _, S6⟩ := S5.up1.rd_open
      obtain ⟨_, _, d2, d3, _, _⟩ := S6.rd
      have hB := And.intro d2 d3
      have HS5 := Lib.hid S5
      clear S5 S6 d2 d3 hA s0 s1 s2 s3 s4 s5
      refine hK.out _ _ ⟨fun h => absurd h (by decide), fun _ => hB⟩ ?_
      clear hK K
      refine AnyK.takeB (i := 7) (T := [8, 9, 10, 11, 12, 13, 14, 15, 16, 17, 18, 19, 20, 21, 22, 23, 24, 25, 26, 27, 28, 29, 30, 31]) (v := ?vB7) rfl (by kernel_rfl) (by kernel_rfl) (by kernel_rfl) (by kernel_rfl) (by kernel_rfl) (by kernel_rfl) (by kernel_rfl) (by kernel_rfl) (fun _ _ _ h => h) (Or.inl ⟨by rfl, ?yB7⟩) hB ?rB7
      case yB7 => (intro w hSw; (try dsimp only at hSw); go_simp; (try with_reducible rfl))
      try simp only [Act.put, List.getElem_toArray, List.getElem_cons_zero, List.getElem_cons_succ, List.setIfInBounds_toArray, List.set_cons_zero, List.set_cons_succ, Bool.not_true, Bool.not_false]
      refine AnyK.takeB (i := 8) (T := [9, 10, 11, 12, 13, 14, 15, 16, 17, 18, 19, 20, 21, 22, 23, 24, 25, 26, 27, 28, 29, 30, 31]) (v := ?vB8) rfl (by kernel_rfl) (by kernel_rfl) (by kernel_rfl) (by kernel_rfl) (by kernel_rfl) (by kernel_rfl) (by kernel_rfl) (by kernel_rfl) (fun _ _ _ h => h) (Or.inl ⟨by rfl, ?yB8⟩) hB ?rB8
      case yB8 => (intro w hSw; (try dsimp only at hSw); go_simp; (try with_reducible rfl))
      try simp only [Act.put, List.getElem_toArray, List.getElem_cons_zero, List.getElem_cons_succ, List.setIfInBounds_toArray, List.set_cons_zero, List.set_cons_succ, Bool.not_true, Bool.not_false]
      refine AnyK.takeB (i := 9) (T := [10, 15, 16, 17, 18, 19, 20, 21, 22, 23, 24, 25, 26, 27, 28, 29, 30, 31]) (v := ?vB9) rfl (by kernel_rfl) (by kernel_rfl) (by kernel_rfl) (by kernel_rfl) (by kernel_rfl) (by kernel_rfl) (by kernel_rfl) (by kernel_rfl) (fun _ _ _ h => h) (Or.inl ⟨by rfl, ?yB9⟩) hB ?rB9
      case yB9 => (intro w hSw; (try dsimp only at hSw); go_simp; (try with_reducible rfl))
      try simp only [Act.put, List.getElem_toArray, List.getElem_cons_zero, List.getElem_cons_succ, List.setIfInBounds_toArray, List.set_cons_zero, List.set_cons_succ, Bool.not_true, Bool.not_false]
      refine AnyK.takeB (i := 11) (T := [12, 13, 14, 15, 16, 17, 18, 19, 20, 21, 22, 23, 24, 25, 26, 27, 28, 29, 30, 31]) (v := ?vB11) rfl (by kernel_rfl) (by kernel_rfl) (by kernel_rfl) (by kernel_rfl) (by kernel_rfl) (by kernel_rfl) (by kernel_rfl) (by kernel_rfl) (fun _ _ _ h => h) (Or.inl ⟨by rfl, ?yB11⟩) hB ?rB11
      case yB11 => (intro w hSw; (try dsimp only at hSw); go_simp; (try with_reducible rfl))
      try simp only [Act.put, List.getElem_toArray, List.getElem_cons_zero, List.getElem_cons_succ, List.setIfInBounds_toArray, List.set_cons_zero, List.set_cons_succ, Bool.not_true, Bool.not_false]
      refine AnyK.takeB (i := 12) (T := [13, 14, 15, 16, 17, 18, 19, 20, 21, 22, 23, 24, 25, 26, 27, 28, 29, 30, 31]) (v := ?vB12) rfl (by kernel_rfl) (by kernel_rfl) (by kernel_rfl) (by kernel_rfl) (by kernel_rfl) (by kernel_rfl) (by kernel_rfl) (by kernel_rfl) (fun _ _ _ h => h) (Or.inl ⟨by rfl, ?yB12⟩) hB ?rB12
      case yB12 => (intro w hSw; (try dsimp only at hSw); go_simp; (try with_reducible rfl))
      try simp only [Act.put, List.getElem_toArray, List.getElem_cons_zero, List.getElem_cons_succ, List.setIfInBounds_toArray, List.set_cons_zero, List.set_cons_succ, Bool.not_true, Bool.not_false]
      refine AnyK.takeB (i := 13) (T := [14, 15, 16, 17, 18, 19, 20, 21, 22, 23, 24, 25, 26, 27, 28, 29, 30, 31]) (v := ?vB13) rfl (by kernel_rfl) (by kernel_rfl) (by kernel_rfl) (by kernel_rfl) (by kernel_rfl) (by kernel_rfl) (by kernel_rfl) (by kernel_rfl) (fun _ _ _ h => h) (Or.inl ⟨by rfl, ?yB13⟩) hB ?rB13
      case yB13 => (intro w hSw; (try dsimp only at hSw); go_simp; (try with_reducible rfl))
      try simp only [Act.put, List.getElem_toArray, List.getElem_cons_zero, List.getElem_cons_succ, List.setIfInBounds_toArray, List.set_cons_zero, List.set_cons_succ, Bool.not_true, Bool.not_false]
      refine AnyK.takeB (i := 14) (T := [15, 16, 17, 18, 19, 20, 21, 22, 23, 24, 25, 26, 27, 28, 29, 30, 31]) (v := ?vB14) rfl (by kernel_rfl) (by kernel_rfl) (by kernel_rfl) (by kernel_rfl) (by kernel_rfl) (by kernel_rfl) (by kernel_rfl) (by kernel_rfl) (fun _ _ _ h => h) (Or.inl ⟨by rfl, ?yB14⟩) hB ?rB14
      case yB14 => (intro w hSw; (try dsimp only at hSw); go_simp; (try with_reducible rfl))
      try simp only [Act.put, List.getElem_toArray, List.getElem_cons_zero, List.getElem_cons_succ, List.setIfInBounds_toArray, List.set_cons_zero, List.set_cons_succ, Bool.not_true, Bool.not_false]
      refine AnyK.oneP (i := 10) (by kernel_rfl) rfl (fun K hK => ?_)
      go_simp
      refine (down_sep HS5.out).mono ?_
      rintro e w6 ⟨rfl, rfl⟩
      refine hK.out _ _ ⟨fun h => absurd h (by decide), fun _ => hB⟩ ?_
      clear hK K
      refine AnyK.takeB (i := 15) (T := [16, 17, 18, 19, 20, 21, 22, 23, 24, 25, 26, 27, 28, 29, 30, 31]) (v := ?vB15) rfl (by kernel_rfl) (by kernel_rfl) (by kernel_rfl) (by kernel_rfl) (by kernel_rfl) (by kernel_rfl) (by kernel_rfl) (by kernel_rfl) (fun _ _ _ h => h) (Or.inl ⟨by rfl, ?yB15⟩) hB ?rB15
      case yB15 => (intro w hSw; (try dsimp only at hSw); go_simp; (try with_reducible rfl))
      try simp only [Act.put, List.getElem_toArray, List.getElem_cons_zero, List.getElem_cons_succ, List.setIfInBounds_toArray, List.set_cons_zero, List.set_cons_succ, Bool.not_true, Bool.not_false]
      refine AnyK.takeB (i := 16) (T := [17, 18, 19, 20, 21, 22, 23, 24, 25, 26, 27, 28, 29, 30, 31]) (v := ?vB16) rfl (by kernel_rfl) (by kernel_rfl) (by kernel_rfl) (by kernel_rfl) (by kernel_rfl) (by kernel_rfl) (by kernel_rfl) (by kernel_rfl) (fun _ _ _ h => h) (Or.inl ⟨by rfl, ?yB16⟩) hB ?rB16
      case yB16 => (intro w hSw; (try dsimp only at hSw); go_simp; (try with_reducible rfl))
      try simp only [Act.put, List.getElem_toArray, List.getElem_cons_zero, List.getElem_cons_succ, List.setIfInBounds_toArray, List.set_cons_zero, List.set_cons_succ, Bool.not_true, Bool.not_false]
      refine AnyK.takeB (i := 17) (T := [18, 19, 20, 21, 22, 23, 24, 25, 26, 27, 28, 29, 30, 31]) (v := ?vB17) rfl (by kernel_rfl) (by kernel_rfl) (by kernel_rfl) (by kernel_rfl) (by kernel_rfl) (by kernel_rfl) (by kernel_rfl) (by kernel_rfl) (fun _ _ _ h => h) (Or.inl ⟨by rfl, ?yB17⟩) hB ?rB17
      case yB17 => (intro w hSw; (try dsimp only at hSw); go_simp; (try with_reducible rfl))
      try simp only [Act.put, List.getElem_toArray, List.getElem_cons_zero, List.getElem_cons_succ, List.setIfInBounds_toArray, List.set_cons_zero, List.set_cons_succ, Bool.not_true, Bool.not_false]
      refine AnyK.takeB (i := 18) (T := [19, 24, 25, 26, 27, 28, 29, 30, 31]) (v := ?vB18) rfl (by kernel_rfl) (by kernel_rfl) (by kernel_rfl) (by kernel_rfl) (by kernel_rfl) (by kernel_rfl) (by kernel_rfl) (by kernel_rfl) (fun _ _ _ h => h) (Or.inl ⟨by rfl, ?yB18⟩) hB ?rB18
      case yB18 => (intro w hSw; (try dsimp only at hSw); go_simp; (try with_reducible rfl))
      try simp only [Act.put, List.getElem_toArray, List.getElem_cons_zero, List.getElem_cons_succ, List.setIfInBounds_toArray, List.set_cons_zero, List.set_cons_succ, Bool.not_true, Bool.not_false]
      refine AnyK.takeB (i := 20) (T := [21, 22, 23, 24, 25, 26, 27, 28, 29, 30, 31]) (v := ?vB20) rfl (by kernel_rfl) (by kernel_rfl) (by kernel_rfl) (by kernel_rfl) (by kernel_rfl) (by kernel_rfl) (by kernel_rfl) (by kernel_rfl) (fun _ _ _ h => h) (Or.inl ⟨by rfl, ?yB20⟩) hB ?rB20
      case yB20 => (intro w hSw; (try dsimp only at hSw); go_simp; (try with_reducible rfl))
      try simp only [Act.put, List.getElem_toArray, List.getElem_cons_zero, List.getElem_cons_succ, List.setIfInBounds_toArray, List.set_cons_zero, List.set_cons_succ, Bool.not_true, Bool.not_false]
      refine AnyK.takeB (i := 21) (T := [22, 23, 24, 25, 26, 27, 28, 29, 30, 31]) (v := ?vB21) rfl (by kernel_rfl) (by kernel_rfl) (by kernel_rfl) (by kernel_rfl) (by kernel_rfl) (by kernel_rfl) (by kernel_rfl) (by kernel_rfl) (fun _ _ _ h => h) (Or.inl ⟨by rfl, ?yB21⟩) hB ?rB21
      case yB21 => (intro w hSw; (try dsimp only at hSw); go_simp; (try with_reducible rfl))
      try simp only [Act.put, List.getElem_toArray, List.getElem_cons_zero, List.getElem_cons_succ, List.setIfInBounds_toArray, List.set_cons_zero, List.set_cons_succ, Bool.not_true, Bool.not_false]
      refine AnyK.takeB (i := 22) (T := [23, 24, 25, 26, 27, 28, 29, 30, 31]) (v := ?vB22) rfl (by kernel_rfl) (by kernel_rfl) (by kernel_rfl) (by kernel_rfl) (by kernel_rfl) (by kernel_rfl) (by kernel_rfl) (by kernel_rfl) (fun _ _ _ h => h) (Or.inl ⟨by rfl, ?yB22⟩) hB ?rB22
      case yB22 => (intro w hSw; (try dsimp only at hSw); go_simp; (try with_reducible rfl))
      try simp only [Act.put, List.getElem_toArray, List.getElem_cons_zero, List.getElem_cons_succ, List.setIfInBounds_toArray, List.set_cons_zero, List.set_cons_succ, Bool.not_true, Bool.not_false]
      refine AnyK.takeB (i := 23) (T := [24, 25, 26, 27, 28, 29, 30, 31]) (v := ?vB23) rfl (by kernel_rfl) (by kernel_rfl) (by kernel_rfl) (by kernel_rfl) (by kernel_rfl) (by kernel_rfl) (by kernel_rfl) (by kernel_rfl) (fun _ _ _ h => h) (Or.inl ⟨by rfl, ?yB23⟩) hB ?rB23
      case yB23 => (intro w hSw; (try dsimp only at hSw); go_simp; (try with_reducible rfl))
      try simp only [Act.put, List.getElem_toArray, List.getElem_cons_zero, List.getElem_cons_succ, List.setIfInBounds_toArray, List.set_cons_zero, List.set_cons_succ, Bool.not_true, Bool.not_false]
      refine AnyK.oneP (i := 19) (by kernel_rfl) rfl (fun K hK => ?_)
      go_simp
      refine (ops_sep HS5.out).mono ?_
      rintro e w6 ⟨rfl, rfl⟩
      refine hK.out _ _ ⟨fun h => absurd h (by decide), fun _ => hB⟩ ?_
      clear hK K
      refine AnyK.takeB (i := 24) (T := [25, 26, 27, 28, 29, 30, 31]) (v := ?vB24) rfl (by kernel_rfl) (by kernel_rfl) (by kernel_rfl) (by kernel_rfl) (by kernel_rfl) (by kernel_rfl) (by kernel_rfl) (by kernel_rfl) (fun _ _ _ h => h) (Or.inl ⟨by rfl, ?yB24⟩) hB ?rB24
      case yB24 => (intro w hSw; (try dsimp only at hSw); go_simp; (try with_reducible rfl))
      try simp only [Act.put, List.getElem_toArray, List.getElem_cons_zero, List.getElem_cons_succ, List.setIfInBounds_toArray, List.set_cons_zero, List.set_cons_succ, Bool.not_true, Bool.not_false]
      refine AnyK.takeB (i := 25) (T := [26, 27, 28, 29, 30, 31]) (v := ?vB25) rfl (by kernel_rfl) (by kernel_rfl) (by kernel_rfl) (by kernel_rfl) (by kernel_rfl) (by kernel_rfl) (by kernel_rfl) (by kernel_rfl) (fun _ _ _ h => h) (Or.inl ⟨by rfl, ?yB25⟩) hB ?rB25
      case yB25 => (intro w hSw; (try dsimp only at hSw); go_simp; (try with_reducible rfl))
      try simp only [Act.put, List.getElem_toArray, List.getElem_cons_zero, List.getElem_cons_succ, List.setIfInBounds_toArray, List.set_cons_zero, List.set_cons_succ, Bool.not_true, Bool.not_false]
      refine AnyK.takeB (i := 26) (T := [27, 28, 29, 30, 31]) (v := ?vB26) rfl (by kernel_rfl) (by kernel_rfl) (by kernel_rfl) (by kernel_rfl) (by kernel_rfl) (by kernel_rfl) (by kernel_rfl) (by kernel_rfl) (fun _ _ _ h => h) (Or.inl ⟨by rfl, ?yB26⟩) hB ?rB26
      case yB26 => (intro w hSw; (try dsimp only at hSw); go_simp; (try with_reducible rfl))
      try simp only [Act.put, List.getElem_toArray, List.getElem_cons_zero, List.getElem_cons_succ, List.setIfInBounds_toArray, List.set_cons_zero, List.set_cons_succ, Bool.not_true, Bool.not_false]
      refine AnyK.takeB (i := 27) (T := [28, 30, 31]) (v := ?vB27) rfl (by kernel_rfl) (by kernel_rfl) (by kernel_rfl) (by kernel_rfl) (by kernel_rfl) (by kernel_rfl) (by kernel_rfl) (by kernel_rfl) (fun _ _ _ h => h) (Or.inl ⟨by rfl, ?yB27⟩) hB ?rB27
      case yB27 => (intro w hSw; (try dsimp only at hSw); go_simp; (try with_reducible rfl))
      try simp only [Act.put, List.getElem_toArray, List.getElem_cons_zero, List.getElem_cons_succ, List.setIfInBounds_toArray, List.set_cons_zero, List.set_cons_succ, Bool.not_true, Bool.not_false]
      refine AnyK.takeB (i := 29) (T := [30, 31]) (v := ?vB29) rfl (by kernel_rfl) (by kernel_rfl) (by kernel_rfl) (by kernel_rfl) (by kernel_rfl) (by kernel_rfl) (by kernel_rfl) (by kernel_rfl) (fun _ _ _ h => h) (Or.inl ⟨by rfl, ?yB29⟩) hB ?rB29
      case yB29 => (intro w hSw; (try dsimp only at hSw); go_simp; (try with_reducible rfl))
      try simp only [Act.put, List.getElem_toArray, List.getElem_cons_zero, List.getElem_cons_succ, List.setIfInBounds_toArray, List.set_cons_zero, List.set_cons_succ, Bool.not_true, Bool.not_false]
      refine AnyK.oneP (i := 28) (by kernel_rfl) rfl (fun K hK => ?_)
      go_simp
      refine (sectors_sep HS5.out).mono ?_
      rw [HPL.out.len]
      rintro e w6 ⟨rfl, rfl⟩
      refine hK.out _ _ ⟨fun h => absurd h (by decide), fun _ => hB⟩ ?_
      clear hK K
      refine AnyK.takeB (i := 30) (T := [31]) (v := ?vB30) rfl (by kernel_rfl) (by kernel_rfl) (by kernel_rfl) (by kernel_rfl) (by kernel_rfl) (by kernel_rfl) (by kernel_rfl) (by kernel_rfl) (fun _ _ _ h => h) (Or.inl ⟨by rfl, ?yB30⟩) hB ?rB30
      case yB30 => (intro w hSw; (try dsimp only at hSw); go_simp; (try with_reducible rfl))
      try simp only [Act.put, List.getElem_toArray, List.getElem_cons_zero, List.getElem_cons_succ, List.setIfInBounds_toArray, List.set_cons_zero, List.set_cons_succ, Bool.not_true, Bool.not_false]
      refine AnyK.takeB (i := 31) (T := []) (v := ?vB31) rfl (by kernel_rfl) (by kernel_rfl) (by kernel_rfl) (by kernel_rfl) (by kernel_rfl) (by kernel_rfl) (by kernel_rfl) (by kernel_rfl) (fun _ _ _ h => h) (Or.inl ⟨by rfl, ?yB31⟩) hB ?rB31
      case yB31 => (intro w hSw; (try dsimp only at hSw); go_simp; (try with_reducible rfl))
      try simp only [Act.put, List.getElem_toArray, List.getElem_cons_zero, List.getElem_cons_succ, List.setIfInBounds_toArray, List.set_cons_zero, List.set_cons_succ, Bool.not_true, Bool.not_false]
      refine AnyK.done (by kernel_rfl) ?_ _
      go_wp2_with fail
      go_roundw
      case rel => exact ⟨k + 1, D2, by omega, by omega, by go_num, HS5.out, HPL⟩
      case measure => simp [intOf]; omega
    · have HSr := Lib.hid Sr
      clear Sr
      by_cases h1 : k < na
      · have hl1 : (k : Int) < (na : Int) := by omega
        have hl8 : ¬ (k : Int) < 80 := by omega
        clear hlt
        go_wp2
        go_ret
        exact ⟨rfl, HSr.out.pick [2] 3 (by decide) rfl⟩
      · have hl1 : ¬ (k : Int) < (na : Int) := by omega
        clear hlt
        go_wp2
        go_ret
        exact ⟨rfl, HSr.out.pick [2] 3 (by decide) rfl⟩
theorem DiskPlays_walk (W : World) (nn : Int) (a : Option Addr) (la : List StepD) (ca : Nat) (ha : StepsAt W a la) (hla : la.length ≤ 9223372036854775807) :
    Calls Try.prog 8 #[.int .i64 nn, .slice a la.length ca] W fun e w' => e = .returned (.bool true) ∧ Below W.heap.size W w' := by
  obtain ⟨n, hn, hk⟩ := and_i64 nn 15 (by omega)
  by_cases h0 : n = 0
  · subst h0
    exact (dplays_none W _ (Sep.start W) nn a la.length ca hk).mono fun e w' h => ⟨h.1, h.2.fin⟩
  · exact (dplays_walk W _ (Sep.start W) nn a la ca n ha hla rfl hk (by omega) (by omega)).mono fun e w' h => ⟨h.1, h.2.fin⟩
end Go.Proofs.Ytgicpialopccpaa
