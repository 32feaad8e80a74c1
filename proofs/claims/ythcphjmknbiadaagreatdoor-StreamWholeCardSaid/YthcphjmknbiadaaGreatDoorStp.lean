/- Streams, plain laws: what Open puts Get tells. -/
import Derived.Test.YthcphjmknbiadaaGreatDoorRt6
namespace Go.Proofs.YthcphjmknbiadaaGreatDoor
set_option maxRecDepth 100000
set_option linter.unusedVariables false

theorem openH_cases (h : Hd) (h0 : (openH h).2 = 0) : (h.ver = 1 ∧ h.sl = false ∧ openH h = put1 h.s ∧ (put1 h.s).2 = 0) ∨ (h.ver = 2 ∧ openH h = put2 h.s h.sl ∧ (put2 h.s h.sl).2 = 0) := by
  unfold openH at h0 ⊢
  by_cases h1 : h.ver = 1
  · rw [if_pos h1] at h0 ⊢
    unfold put1s at h0 ⊢
    cases hs : h.sl with
    | true => rw [if_pos hs] at h0; cases h0
    | false =>
      rw [if_neg (by rw [hs]; simp)] at h0
      exact .inl ⟨h1, rfl, by rw [if_neg (by simp)], h0⟩
  · rw [if_neg h1] at h0 ⊢
    by_cases h2 : h.ver = 2
    · rw [if_pos h2] at h0 ⊢
      exact .inr ⟨h2, rfl, h0⟩
    · rw [if_neg h2] at h0; cases h0
theorem openH_round (h : Hd) (h0 : (openH h).2 = 0) (p : List UInt8) : getH ⟨((openH h).1 ++ p).toArray⟩ = (0, h, (openH h).1.length) := by
  rcases openH_cases h h0 with ⟨h1, h2, h3, h4⟩ | ⟨h1, h3, h4⟩
  · rw [h3, round1 h.s h4 p]
    cases h
    simp only [] at h1 h2
    rw [h1, h2]
  · rw [h3, round2 h.s h.sl h4 p]
    cases h
    simp only [] at h1
    rw [h1]
theorem openH_part (h : Hd) (h0 : (openH h).2 = 0) (k : Nat) (hk : k < (openH h).1.length) : (getH ⟨((openH h).1.take k).toArray⟩).1 = 10 := by
  rcases openH_cases h h0 with ⟨h1, h2, h3, h4⟩ | ⟨h1, h3, h4⟩
  · rw [h3] at hk ⊢; exact part1 h.s h4 k hk
  · rw [h3] at hk ⊢; exact part2 h.s h.sl h4 k hk
theorem put1_err (x : Strm) (h0 : (put1 x).2 ≠ 0) : (put1 x).1 = [] := by
  unfold put1 at h0 ⊢
  split
  · rename_i h1
    rw [if_pos h1] at h0
    split at h0 <;> exact absurd rfl h0
  · rfl
theorem put2_err (x : Strm) (sl : Bool) (h0 : (put2 x sl).2 ≠ 0) : (put2 x sl).1 = [] := by
  unfold put2 at h0 ⊢
  split
  · rename_i h1
    rw [if_pos h1] at h0
    split
    · rfl
    · rename_i f hf
      rw [hf] at h0
      simp only [] at h0
      split at h0 <;> exact absurd rfl h0
  · rfl
theorem openH_err (h : Hd) (h0 : (openH h).2 ≠ 0) : (openH h).1 = [] := by
  unfold openH at h0 ⊢
  split
  · rename_i h1
    rw [if_pos h1] at h0
    unfold put1s at h0 ⊢
    split
    · rfl
    · rename_i h2
      rw [if_neg h2] at h0
      exact put1_err _ h0
  · rename_i h1
    rw [if_neg h1] at h0
    split
    · rename_i h2
      rw [if_pos h2] at h0
      exact put2_err _ _ h0
    · rfl
theorem put1_put2 (x : Strm) (h : (put1 x).2 = 0) (sl : Bool) : (put2 x sl).2 = 0 := by
  have h0 : check1 x = 0 := by
    rcases check1_cases x with h1 | h1
    · exact h1
    · unfold put1 at h; rw [if_neg (by omega)] at h; cases h
  have key : ∃ f, famOf x.fam = some f ∧ mayB x f = true ∧ (restL x f).length ≤ 36 := by
    by_cases hf : x.fam = 0
    · have hx : x = zeroS := by
        have := parse1_put x h
        have hp : put1 x = (lineL [unkS], 0) := by unfold put1; rw [if_pos h0, if_pos hf]
        rw [hp] at this
        unfold parse1 at this
        rw [if_pos (by decide +kernel)] at this
        injection this with h1 _
        exact h1.symm
      subst hx
      exact ⟨⟨0, 0, 0⟩, rfl, by decide, by decide⟩
    · obtain ⟨s1, s2, hp1, hp2, hl, hfl⟩ := check1_zero x h0 hf
      have hsz : x.fam = 1 ∨ x.fam = 2 := by
        unfold sz1 at s1
        split at s1
        · rename_i h; exact .inl h
        · split at s1
          · rename_i h; exact .inr h
          · omega
      have gen : ∀ f : Fam, f.n ≠ 0 → sz1 x.fam = f.size → f.size ≤ 16 → mayB x f = true ∧ (restL x f).length ≤ 36 := by
        intro f hn hs h16
        constructor
        · unfold mayB portOk lastB mostOf
          rw [if_neg hn, hl, hfl]
          simp only [Bool.and_eq_true, decide_eq_true_eq, List.all_nil, beq_iff_eq, Bool.not_false, Bool.true_or, and_true]
          refine ⟨⟨⟨hp1.1, hp1.2⟩, hp2.1, hp2.2⟩, by omega, by omega⟩
        · unfold restL restHead fldBytes
          rw [hfl]
          split
          · simp only [List.length_append, be_length, len_toList, List.flatMap_nil, List.length_nil]; omega
          · simp
      rcases hsz with h | h
      · refine ⟨⟨1, 17, 4⟩, by rw [h]; rfl, gen _ (by decide) (by rw [h]; rfl) (by decide)⟩
      · refine ⟨⟨2, 33, 16⟩, by rw [h]; rfl, gen _ (by decide) (by rw [h]; rfl) (by decide)⟩
  obtain ⟨f, hfo, hm, hr⟩ := key
  have hc : check2 x sl = 0 := by
    unfold check2
    rw [hfo]
    simp only []
    rw [if_pos hm, if_neg (by split <;> omega)]
  unfold put2
  rw [if_pos hc, hfo]
  simp only []
  split <;> rfl
theorem openH_len (h : Hd) (h0 : (openH h).2 = 0) : 1 ≤ (openH h).1.length ∧ (openH h).1.length ≤ 70000 := by
  rcases openH_cases h h0 with ⟨h1, h2, h3, h4⟩ | ⟨h1, h3, h4⟩
  · rw [h3]
    obtain ⟨pre, hp, _, hl, _⟩ := put1_len h.s h4
    rw [hp, List.length_append]; simp; omega
  · rw [h3]
    obtain ⟨f, hfo, hm, hn, ht⟩ := put2_text h.s h.sl h4
    rw [ht, text2_len]; omega
theorem openH_1 (x : Strm) (h0 : (openH ⟨x, 1, false⟩).2 = 0) : (put1 x).2 = 0 ∧ ∃ r, (openH ⟨x, 1, false⟩).1 = 80 :: r := by
  rcases openH_cases _ h0 with ⟨h1, h2, h3, h4⟩ | ⟨h1, h3, h4⟩
  · rw [h3]
    obtain ⟨pre, hp, _, hl, hf⟩ := put1_len x h4
    exact ⟨h4, by show ∃ r, (put1 x).1 = 80 :: r; rw [hp]; exact front_cons hf⟩
  · cases h1
theorem openH_2 (x : Strm) (sl : Bool) (h0 : (openH ⟨x, 2, sl⟩).2 = 0) : ∃ r, (openH ⟨x, 2, sl⟩).1 = 13 :: r := by
  rcases openH_cases _ h0 with ⟨h1, h2, h3, h4⟩ | ⟨h1, h3, h4⟩
  · cases h1
  · rw [h3]
    obtain ⟨f, hfo, hm, hn, ht⟩ := put2_text x sl h4
    show ∃ r, (put2 x sl).1 = 13 :: r
    rw [ht]; exact text2_13 x f sl
theorem openH_12 (x : Strm) (sl : Bool) (h0 : (openH ⟨x, 1, false⟩).2 = 0) : (openH ⟨x, 2, sl⟩).2 = 0 := put1_put2 x (openH_1 x h0).1 sl
end Go.Proofs.YthcphjmknbiadaaGreatDoor
