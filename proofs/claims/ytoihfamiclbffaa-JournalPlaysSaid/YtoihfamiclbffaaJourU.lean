/- cuts: what it hands out. -/
import Derived.Test.YtoihfamiclbffaaRange
import Derived.Test.YtoihfamiclbffaaJourT
namespace Go.Proofs.Ytoihfamiclbffaa
open Go.RowKit Go.Shelf
attribute [local go_sem] Oper.semAt_some

/-- The length of the slice in a box. -/
def lenOfV : Option Value → Nat
  | some (.slice _ n _) => n
  | _ => 0
def lenAt (w : World) (B : Nat) : Nat := lenOfV (w.cell? ⟨B, 0, none⟩)
/-- What has come when k rounds are over. -/
def cutsTo (m k : Nat) : List (Fin m) := (List.finRange m).take k
theorem cutsTo_len {m k : Nat} (h : k ≤ m) : (cutsTo m k).length = k := by simp [cutsTo]; omega
theorem cutsTo_succ {m k : Nat} (h : k < m) : cutsTo m (k + 1) = cutsTo m k ++ [⟨k, h⟩] := by
  unfold cutsTo
  rw [List.take_succ_eq_append_getElem (by simpa using h)]
  congr 1
  simp

set_option maxRecDepth 100000 in
set_option maxHeartbeats 2000000 in
theorem cuts1_box (F : Fence) (n : Nat) (h59 : F.fn 59) (hro : F.round = none) (hn : 1 ≤ n) (Bp g o m cap : Nat) (w : World) (a : Option Addr)
    (hbox : w.heap[Bp]? = some (.cells #[.slice a (512 * m) cap] 33 (0, 0))) (ha : 0 < m → a = some ⟨g, o, none⟩) (hcap : 512 * m ≤ cap) (hcm : cap ≤ 9223372036854775807) :
    SeqBox F n Try.prog 59 #[.pointer (some ⟨Bp, 0, none⟩)] (fun x : Fin m => #[Value.slice (some ⟨g, o + 512 * x.1, none⟩) 512 (cap - 512 * x.1)]) Bp (fun ys => ys = cutsTo m m) (fun pre => ∃ k, k ≤ m ∧ pre = cutsTo m k) m w := by
  intro l J Jx W hW hJb hY h0
  refine callsIn_of_wp Try.func59 rfl h59 ?_ hro
  simp only [Try.ntmps59, List.size_toArray, List.length_cons, List.length_nil, Nat.reduceAdd, Nat.reduceSub, Array.replicate_succ, Array.replicate_zero, List.push_toArray, List.append_toArray, List.nil_append, List.cons_append]
  gi_wp2
  have hb0 : W.heap[Bp]? = some (.cells #[.slice a (512 * m) cap] 33 (0, 0)) := hW.trans hbox
  gi_loopw [] (fun wr => ∃ (k r cp : Nat) (av : Option Addr), k ≤ m ∧ r = 512 * (m - k) ∧ J (cutsTo m k) wr ∧ wr.heap[Bp]? = some (.cells #[.slice av r cp] 33 (0, 0)) ∧ (k < m → av = some ⟨g, o + 512 * k, none⟩ ∧ cp = cap - 512 * k))
    (fun wr => lenAt wr Bp)
  case atStart => exact ⟨0, 512 * m, cap, a, Nat.zero_le _, by omega, h0, hb0, fun h => ⟨by simpa using ha h, by omega⟩⟩
  case round =>
    obtain ⟨k, r, cp, av, hk, hr, hJs, hb, hav⟩ := hrel
    have hcB : wr.cell? ⟨Bp, 0, none⟩ = some (.slice av r cp) := cell_of hb
    have hlen : lenAt wr Bp = r := by unfold lenAt; rw [hcB]; rfl
    have Hlen := Lib.hid hlen
    clear hlen hb0 hbox hW
    by_cases hlt : k < m
    · obtain ⟨rfl, hcp⟩ := hav hlt
      obtain ⟨fn, tmps, assign, body, hy, hR⟩ := hY _ ⟨k, hlt⟩ wr hJs (by rw [cutsTo_len hk]; exact hlt)
      dsimp only at hy
      rw [← hcp] at hy
      have hr0 : (0 : Int) < (r : Int) := by omega
      have hr1 : (512 : Int) ≤ (r : Int) := by omega
      have hc1 : (512 : Int) ≤ (cp : Int) := by omega
      have hrc : (r : Int) ≤ (cp : Int) := by omega
      have hrn : 512 ≤ r := by omega
      have hcn : 512 ≤ cp := by omega
      have Hr := Lib.hid hr
      have Hcp := Lib.hid hcp
      clear hr hcp hav
      gi_wp2
      refine hR.mono ?_
      rintro e W3 (⟨rfl, hJ3, hk3⟩ | ⟨rfl, hJx3⟩)
      · have hb3 : W3.heap[Bp]? = some (.cells #[.slice (some ⟨g, o + 512 * k, none⟩) r cp] 33 (0, 0)) := hk3.trans hb
        have hc3 : W3.cell? ⟨Bp, 0, none⟩ = some (.slice (some ⟨g, o + 512 * k, none⟩) r cp) := cell_of hb3
        have hf3 : W3.frozen? ⟨Bp, 0, none⟩ = false := free_of hb3
        have Hb3 := Lib.hid hb3
        clear hb hb3 hk3 hcB
        by_cases he : cp = 512
        · subst he
          gi_wp2
          go_roundw
          case rel =>
            have hkm : k + 1 = m := by have := Hr.out; have := Hcp.out; omega
            exact ⟨k + 1, r - 512, 0, some ⟨g, o + 512 * k, none⟩, by omega, by have := Hr.out; omega, by rw [cutsTo_succ hlt]; exact hJb _ _ _ hJ3, heap_set Hb3.out, fun h => by omega⟩
          case measure =>
            rw [Hlen.out]
            unfold lenAt
            rw [cell_of (heap_set Hb3.out)]
            simp [lenOfV]
            omega
        · gi_wp2
          go_roundw
          case rel =>
            exact ⟨k + 1, r - 512, cp - 512, some ⟨g, o + 512 * k + 512, none⟩, by omega, by have := Hr.out; omega, by rw [cutsTo_succ hlt]; exact hJb _ _ _ hJ3, heap_set Hb3.out, fun h => ⟨by congr 2, by have := Hcp.out; omega⟩⟩
          case measure =>
            rw [Hlen.out]
            unfold lenAt
            rw [cell_of (heap_set Hb3.out)]
            simp [lenOfV]
            omega
      · gi_wp2
        go_end0
        exact ⟨⟨_, rfl⟩, .inr ⟨_, ⟨k + 1, by omega, (cutsTo_succ hlt).symm⟩, hJx3⟩⟩
    · obtain rfl : k = m := by omega
      obtain rfl : r = 0 := by omega
      clear hr hav
      gi_wp2
      refine ⟨fun f h => (by cases h), ?_⟩
      gi_wp2
      go_end0
      exact ⟨⟨_, rfl⟩, .inl ⟨_, rfl, hJs⟩⟩

set_option maxHeartbeats 1000000 in
theorem cuts_in (F : Fence) (n : Nat) (h5 : F.fn 52) (hro : F.round = none) (a : Option Addr) (len cap : Nat) (w : World) :
    CallsIn F n Try.prog 52 #[.slice a len cap] w fun e w' => e = .returned (.func (.func 59) #[] #[.pointer (some ⟨w.heap.size, 0, none⟩)]) ∧ w' = w.alloc (.cells #[.slice a len cap] 33) := by
  refine callsIn_of_wp Try.func52 rfl h5 ?_ hro
  simp only [Try.ntmps52, List.size_toArray, List.length_cons, List.length_nil, Nat.reduceAdd, Nat.reduceSub, Array.replicate_succ, Array.replicate_zero, List.push_toArray, List.append_toArray, List.nil_append, List.cons_append]
  gi_wp2
  go_ret
  exact ⟨rfl, rfl⟩
end Go.Proofs.Ytoihfamiclbffaa
