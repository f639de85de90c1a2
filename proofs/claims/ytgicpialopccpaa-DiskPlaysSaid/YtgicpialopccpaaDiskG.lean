/- What slices.Clone and append come to. -/
import Derived.Test.YtgicpialopccpaaDiskC
import Derived.Deep.RegionHeld3
import Derived.Lib.LazyBuf
namespace Go.Proofs.Ytgicpialopccpaa
open Go.RowKit

set_option maxHeartbeats 800000 in
theorem clone_calls (w : World) (a : Option Addr) (n c : Nat) (l : List UInt8) (ha : BytesAt w a l) (hl : l.length = n) (hn : n ≤ 1000000) (hnil : a = none → c = 0) :
    Calls Try.prog 27 #[.slice a n c] w fun e w' => ∃ g cap, e = .returned (.slice g n cap) ∧ OwnsB w' w.heap.size (.slice g n cap) n l ∧ Below w.heap.size w w' := by
  cases a with
  | none =>
    have h0 : n = 0 := by
      cases l with
      | nil => simpa using hl.symm
      | cons y p => obtain ⟨b, o, e, _⟩ := ha 0 (by simp); cases e
    subst h0
    have hl0 : l = [] := by simpa using hl
    subst hl0
    obtain rfl := hnil rfl
    have heq := fun (a : Option Addr) (l c : Nat) => run_eql_slice_nil (P := Try.prog) w 30 _ a l c Try.underlying30
    go_enter Try.func27, Try.ntmps27
    go_wp2
    go_ret
    exact ⟨_, _, rfl, OwnsB.nil _ _, Below.refl _ _⟩
  | some ad =>
    have heq := fun (a : Option Addr) (l c : Nat) => run_eql_slice_nil (P := Try.prog) w 30 _ a l c Try.underlying30
    go_enter Try.func27, Try.ntmps27
    have hown := OwnsB.empty w
    have hb : Below w.heap.size w (w.alloc (.cells #[] 5)) := (Below.refl _ _).alloc (Nat.le_refl _) _
    have ha1 := ha.below hb
    have hnil' : (some ad : Option Addr) = none → c = 0 := fun h => by cases h
    have hsz : w.heap.size ≤ (w.alloc (.cells #[] 5)).heap.size := by simp
    clear ha
    go_wp2_with (at_builtin; refine wpList_append_bytes rfl (.tmp 5) (.tmp 6) rfl w.heap.size _ 0 [] rfl hown (some ad) n c l rfl hnil' ha1 hl (by omega) hsz ?next)
    case next =>
      intro g cap w' hown' hgrow _ _
      go_wp2
      go_ret
      exact ⟨_, _, rfl, hown', hb.grown hgrow hb.size (fun k e => by cases e; exact Nat.le_refl _)⟩

/-- What a slice of bools of the caller's reads as. -/
theorem BoolsAt.below {w w' : World} {a : Option Addr} {l : List Bool} (h : BoolsAt w a l) (hb : Below w.heap.size w w') : BoolsAt w' a l := fun i hi => by
  obtain ⟨b, o, e, hc⟩ := h i hi
  exact ⟨b, o, e, (hb.cell (p := ⟨b, o + i, none⟩) (World.block_lt_of_cell? _ _ hc)).trans hc⟩
theorem infoB : (Try.prog.info? 4).map (fun i => (i.zero, i.size, i.bytes)) = some (some (.bool false), 1, 1) := by kernel_rfl
set_option maxHeartbeats 800000 in
theorem cloneb_calls (w : World) (a : Option Addr) (n c : Nat) (l : List Bool) (ha : BoolsAt w a l) (hl : l.length = n) (hn : n ≤ 1000000) (hnil : a = none → c = 0) :
    Calls Try.prog 24 #[.slice a n c] w fun e w' => ∃ g cap, e = .returned (.slice g n cap) ∧ w'.ownsRow w.heap.size 4 1 (.slice g n cap) n (l.map Value.bool) ∧ Below w.heap.size w w' := by
  cases a with
  | none =>
    have h0 : n = 0 := by
      cases l with
      | nil => simpa using hl.symm
      | cons y p => obtain ⟨b, o, e, _⟩ := ha 0 (by simp); cases e
    subst h0
    have hl0 : l = [] := by simpa using hl
    subst hl0
    obtain rfl := hnil rfl
    have heq := fun (a : Option Addr) (l c : Nat) => run_eql_slice_nil (P := Try.prog) w 36 _ a l c Try.underlying36
    go_enter Try.func24, Try.ntmps24
    go_wp2
    go_ret
    exact ⟨_, _, rfl, World.ownsRow_nil _ _ _ _, Below.refl _ _⟩
  | some ad =>
    have heq := fun (a : Option Addr) (l c : Nat) => run_eql_slice_nil (P := Try.prog) w 36 _ a l c Try.underlying36
    go_enter Try.func24, Try.ntmps24
    have hown : (w.alloc (.cells #[] 4)).ownsRow w.heap.size 4 1 (.slice (some ⟨w.heap.size, 0, none⟩) 0 0) 0 [] := World.ownsRow_made w #[] 0 (Nat.le_refl _) (by unfold maxLen; omega) rfl
    have hb : Below w.heap.size w (w.alloc (.cells #[] 4)) := (Below.refl _ _).alloc (Nat.le_refl _) _
    have ha1 := ha.below hb
    have hsz : w.heap.size ≤ (w.alloc (.cells #[] 4)).heap.size := by simp
    obtain ⟨i0, hi, hz0, hz1, hz2⟩ := info_parts infoB
    obtain ⟨news, hnews⟩ : ∃ news, news = l.map Value.bool := ⟨_, rfl⟩
    have hnl : news.length = n * 1 := by rw [hnews]; simp [hl]
    have hat : ∀ j u, news[j]? = some u → (w.alloc (.cells #[] 4)).cell? (ad.add j) = some u := by
      intro j u hu
      rw [hnews] at hu
      have hj : j < l.length := by have := (List.getElem?_eq_some_iff.1 hu).1; simpa using this
      obtain ⟨b, o, e, hcj⟩ := ha1 j hj
      cases e
      rw [addr_add, hcj]
      simp [hj] at hu
      rw [← hu]
      simp [List.getD, hj]
    have hone : ∀ u ∈ news, u.oneCell' = true := by
      rw [hnews]; intro u hu; obtain ⟨y, _, rfl⟩ := List.mem_map.1 hu; rfl
    rw [← hnews]
    clear ha ha1 hnews
    go_wp2_with (at_builtin; refine wpList_append_own _ rfl (.tmp 5) (.tmp 6) _ rfl w.heap.size 4 i0 (.bool false) 1 1 Try.underlying36 hi hz0 hz1 hz2 rfl (by decide) _ 0 [] rfl hown ad n c news rfl hnl hat hone (by unfold maxLen; omega) (by omega) hsz ?next)
    case next =>
      intro v' w' hown' hgrow _
      obtain ⟨g, cap, rfl, _⟩ := ownsRow_slice hown'
      go_wp2
      go_ret
      exact ⟨_, _, rfl, hown', hb.grown hgrow hb.size (fun k e => by cases e; exact Nat.le_refl _)⟩

theorem infoW : (Try.prog.info? 70).map (fun i => (i.zero, i.size, i.bytes)) = some (some (.agg #[.int .i64 0, .slice none 0 0]), 2, 32) := by kernel_rfl

/-- append of one write. -/
theorem run_append_wait (w : World) (M : Nat → Prop) (hM : ∀ k, w.heap.size ≤ k → M k) (ty : TypeId) (v : Value) (n : Nat) (xs : List Value) (hown : OwnsM w M 70 2 v n xs) (ad : Addr) (c : Nat) (u1 u2 : Value)
    (hc : ∀ j u, [u1, u2][j]? = some u → w.cell? (ad.add j) = some u) (h1 : ∀ u ∈ [u1, u2], u.oneCell' = true) (hn : n ≤ 1000000) :
    ∃ wa cap w', (Builtin.append_ #[62, 62] ty #[v, .slice (some ad) 1 c]).run Try.prog w = .ok (.slice wa (n + 1) cap) w' ∧ OwnsM w' M 70 2 (.slice wa (n + 1) cap) (n + 1) (xs ++ [u1, u2]) ∧ w.grownBy w' v.ownBlock := by
  obtain ⟨i0, hi, hz0, hz1, hz2⟩ := info_parts infoW
  obtain ⟨v', w', hr, h2, h3, h4⟩ := run_append_own (P := Try.prog) w 0 62 ty 70 i0 (.agg #[.int .i64 0, .slice none 0 0]) 2 32 Try.underlying62 hi hz0 hz1 hz2 rfl (by decide) v n xs hown.1 ad 1 c [u1, u2] rfl hc h1 (by unfold maxLen; omega) (by omega) (Nat.zero_le _)
  obtain ⟨wa, cap, rfl, _⟩ := ownsRow_slice h2
  refine ⟨wa, cap, w', hr, ⟨h2, ?_⟩, h3⟩
  intro g' hg'
  rcases hown.1.2 with ⟨rfl, rfl⟩ | ⟨g, cap0, cur, rfl, _, hg, hcap, hcm, hcs, htk⟩
  · obtain ⟨v2, w2, hr2, k2, _, _⟩ := run_append_own (P := Try.prog) w w.heap.size 62 ty 70 i0 (.agg #[.int .i64 0, .slice none 0 0]) 2 32 Try.underlying62 hi hz0 hz1 hz2 rfl (by decide) (.slice none 0 0) 0 [] (World.ownsRow_nil _ _ _ _) ad 1 c [u1, u2] rfl hc h1 (by unfold maxLen; omega) (by omega) (Nat.le_refl _)
    rw [hr] at hr2
    cases hr2
    rcases k2.2 with ⟨e, _⟩ | ⟨g2, _, _, e, hb, _⟩
    · rw [e] at hg'; cases hg'
    · rw [e] at hg'; cases hg'; exact hM _ hb
  · by_cases hroom : n + 1 ≤ cap0
    · have hr2 := run_append_room (P := Try.prog) (w := w) 62 ty 70 i0 Try.underlying62 hi g n cap0 cur hg ad 1 c [u1, u2] (by rw [hz1]; rfl) hc h1 hroom (by rw [hz1, hcs]; simp; omega)
      rw [hr] at hr2
      simp only [Result.ok.injEq, Value.slice.injEq] at hr2
      obtain ⟨⟨e, _⟩, _⟩ := hr2
      rw [e] at hg'
      cases hg'
      exact hown.2 g rfl
    · have hr2 := run_append_grow (P := Try.prog) (w := w) 62 ty 70 i0 _ Try.underlying62 hi hz0 ⟨g, 0, none⟩ n cap0 xs (by rw [hz1]; exact hown.1.1) (fun j u hu => hown.1.cells (g := g) rfl j u hu) ad 1 c [u1, u2] (by rw [hz1]; rfl) hc (by omega) (by omega) (by rw [hz2]; exact growslice_fits (by omega) (by omega))
      rw [hr] at hr2
      simp only [Result.ok.injEq, Value.slice.injEq] at hr2
      obtain ⟨⟨e, _⟩, _⟩ := hr2
      rw [e] at hg'
      cases hg'
      exact hM _ (Nat.le_refl _)
end Go.Proofs.Ytgicpialopccpaa
