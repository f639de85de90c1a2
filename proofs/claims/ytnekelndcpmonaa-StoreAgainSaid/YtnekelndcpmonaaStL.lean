/- What lies behind a store's records: nothing that reads as the next. -/
import Derived.Test.YtnekelndcpmonaaMg15
set_option linter.all false
namespace Go.Proofs.Ytnekelndcpmonaa
set_option linter.unusedVariables false

def rep1 (c : UInt8) (r q : Nat) : List UInt8 := List.replicate r c ++ List.replicate q 0
theorem num_rep (c : UInt8) (r q : Nat) : numL (rep1 c r q) ≤ c.toNat ∨ 257 ≤ numL (rep1 c r q) := by
  unfold rep1
  match r with
  | 0 => left; rw [List.replicate_zero, List.nil_append, numL_zeros]; omega
  | 1 => left; show numL (c :: ([] ++ List.replicate q 0)) ≤ _; rw [numL, List.nil_append, numL_zeros]; omega
  | r + 2 =>
    have e : numL (List.replicate (r + 2) c ++ List.replicate q 0) = c.toNat + 256 * (c.toNat + 256 * numL (List.replicate r c ++ List.replicate q 0)) := by
      rw [List.replicate_succ, List.replicate_succ, List.cons_append, List.cons_append, numL, numL]
    rw [e]
    by_cases hc : c.toNat = 0
    · have hc0 : c = 0 := UInt8.toNat_inj.1 (by rw [hc]; rfl)
      left
      have hz : List.replicate r c ++ List.replicate q 0 = List.replicate (r + q) (0 : UInt8) := by rw [hc0, List.replicate_append_replicate]
      rw [hz, numL_zeros, hc]
      omega
    · right; omega
/-- What a journal's bytes tell, and what stands at the head of its sectors. -/
structure Tight (a : List UInt8) (nx : Nat) : Prop where
  told : ∃ l u, replB a = some (l, nx, u)
  low : ∀ i, 1 ≤ i → numL ((a.drop (512 * i)).take 8) < nx ∨ 257 ≤ numL ((a.drop (512 * i)).take 8)
theorem tight_blank (z : Nat) : Tight (blankA z) 2 := by
  refine ⟨?_, fun i hi => .inl ?_⟩
  · have h := replB_recs 1 [] (List.replicate (512 * (z - 1)) 0) (blankA z) rfl (Nat.le_refl _) (one_zeros _ _ (by simp)) (by unfold lastN; simp) (by simp)
    exact ⟨_, _, h⟩
  · unfold blankA
    rw [List.drop_append, List.drop_of_length_le (by rw [begin_len]; omega), List.nil_append, List.drop_replicate, List.take_replicate, numL_zeros]
    omega
theorem tight_saved {a : List UInt8} {m : Nat} {rec : List UInt8} (h : Tight a m) (h1 : 1 ≤ m) (hm : m ≤ 200) (hr : rec.length ≤ 900) (hs : 497 ≤ rec.length → numL (((pic (m + 1) rec.length rec).drop 512).take 8) < m + 2 ∨ 257 ≤ numL (((pic (m + 1) rec.length rec).drop 512).take 8)) :
    Tight (logB m [rec] a) (m + 2) := by
  have hp : pages [rec] = (rec.length + 527) / 512 := by simp [pages]
  have hpl : (pic (m + 1) rec.length rec).length = 512 * ((rec.length + 527) / 512) := by rw [pic_len]; omega
  have hrest : numL ((a.drop (512 * (1 + pages [rec]))).take 8) < m ∨ 257 ≤ numL ((a.drop (512 * (1 + pages [rec]))).take 8) := h.low _ (by omega)
  refine ⟨⟨[rec], 1 + pages [rec], ?_⟩, fun i hi => ?_⟩
  · have := replB_recs m [rec] (a.drop (512 * (1 + pages [rec]))) (logB m [rec] a) rfl h1 (one_num (by simp; omega)) (by unfold lastN; simp; omega) (fun b hb => by rw [List.mem_singleton.1 hb]; omega)
    rw [this]
    rfl
  · have e : logB m [rec] a = pic m startN [] ++ (pic (m + 1) rec.length rec ++ a.drop (512 * (1 + pages [rec]))) := by unfold logB; rw [recs, recs, List.append_nil]
    rw [e, show 512 * i = 512 + 512 * (i - 1) by omega, ← List.drop_drop, ← begin_len m, List.drop_left, begin_len]
    by_cases h2 : i - 1 < (rec.length + 527) / 512
    · rw [List.drop_append_of_le_length (by rw [hpl]; omega), List.take_append_of_le_length (by rw [List.length_drop, hpl]; omega)]
      by_cases h3 : i = 1
      · subst h3
        left
        rw [show 512 * (1 - 1) = 0 by omega, List.drop_zero, pic_eq, headL_num _ _ _ _ (by omega)]
        omega
      · obtain rfl : i = 2 := by omega
        exact hs (by omega)
    · rw [List.drop_append, List.drop_of_length_le (by rw [hpl]; omega), List.nil_append, hpl, List.drop_drop, hp]
      rw [show 512 * (1 + (rec.length + 527) / 512) + (512 * (i - 1) - 512 * ((rec.length + 527) / 512)) = 512 * i by omega]
      rcases h.low i hi with h4 | h4
      · left; omega
      · exact .inr h4
/-- The second sector of a text. -/
theorem second_text (m cnt sz : Nat) (c : UInt8) (hs : sz < 500) : 497 ≤ (recS cnt (List.replicate sz c)).length → ∃ r q, ((pic (m + 1) (recS cnt (List.replicate sz c)).length (recS cnt (List.replicate sz c))).drop 512).take 8 = rep1 c r q := by
  intro h
  have hl : (recS cnt (List.replicate sz c)).length = 8 + sz := by rw [recS_len, List.length_replicate]
  obtain ⟨zs, hzs⟩ : ∃ zs, zs = (512 - (headL (m + 1) (recS cnt (List.replicate sz c)).length (recS cnt (List.replicate sz c)) ++ recS cnt (List.replicate sz c)).length % 512) % 512 := ⟨_, rfl⟩
  obtain ⟨hd, hhd⟩ : ∃ hd, hd = headL (m + 1) (recS cnt (List.replicate sz c)).length (recS cnt (List.replicate sz c)) := ⟨_, rfl⟩
  have hhl : hd.length = 16 := by rw [hhd, headL_len]
  have hll : (lowL cnt 8).length = 8 := lowL_len _ _
  rw [pic_eq, ← hzs, ← hhd]
  have e : hd ++ (recS cnt (List.replicate sz c) ++ List.replicate zs 0) = (hd ++ lowL cnt 8) ++ (List.replicate sz c ++ List.replicate zs 0) := by unfold recS; simp only [List.append_assoc]
  rw [e, List.drop_append, List.drop_of_length_le (by rw [List.length_append]; omega), List.nil_append, List.length_append, hhl, hll]
  rw [List.drop_append_of_le_length (by rw [List.length_replicate]; omega), List.drop_replicate, List.take_append, List.take_replicate, List.take_replicate]
  exact ⟨_, _, rfl⟩
theorem tight_text {a : List UInt8} {m cnt sz : Nat} {c : UInt8} (h : Tight a m) (h1 : 1 ≤ m) (hm : m ≤ 200) (hs : sz < 500) (hc : c.toNat < m + 2) : Tight (logB m [recS cnt (List.replicate sz c)] a) (m + 2) := by
  have hl : (recS cnt (List.replicate sz c)).length = 8 + sz := by rw [recS_len, List.length_replicate]
  refine tight_saved h h1 hm (by omega) (fun h9 => ?_)
  obtain ⟨r, q, e⟩ := second_text m cnt sz c hs h9
  rw [e]
  rcases num_rep c r q with h2 | h2
  · left; omega
  · exact .inr h2
end Go.Proofs.Ytnekelndcpmonaa
