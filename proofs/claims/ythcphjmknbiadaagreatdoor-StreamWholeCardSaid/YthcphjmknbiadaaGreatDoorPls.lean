/- Lists cut at one sign: plain words. -/
import Derived.Lib.SplitLaws
import Derived.Lib.IndexLaws
import Derived.Lib.Join
import Derived.Lib.AtoiAll
namespace Go.Proofs.YthcphjmknbiadaaGreatDoor
set_option linter.unusedVariables false

/-- A text's pieces between a sign. -/
def sp (c : UInt8) : List UInt8 → List (List UInt8)
  | [] => [[]]
  | b :: l => if b = c then [] :: sp c l else match sp c l with
    | [] => [[b]]
    | h :: t => (b :: h) :: t
theorem sp_ne (c : UInt8) (l : List UInt8) : sp c l ≠ [] := by
  cases l with
  | nil => simp [sp]
  | cons b l =>
    unfold sp
    split
    · simp
    · split <;> simp
theorem sp_cons (c b : UInt8) (l : List UInt8) (h : b ≠ c) : ∃ x r, sp c l = x :: r ∧ sp c (b :: l) = (b :: x) :: r := by
  obtain ⟨x, r, hx⟩ := List.exists_cons_of_ne_nil (sp_ne c l)
  exact ⟨x, r, hx, by rw [sp, if_neg h, hx]⟩
theorem sp_none (c : UInt8) (l : List UInt8) (h : c ∉ l) : sp c l = [l] := by
  induction l with
  | nil => rfl
  | cons b l ih =>
    rw [List.mem_cons, not_or] at h
    rw [sp, if_neg (fun e => h.1 e.symm), ih h.2]
theorem sp_append (c : UInt8) (x l : List UInt8) (h : c ∉ x) : sp c (x ++ c :: l) = x :: sp c l := by
  induction x with
  | nil => rw [List.nil_append, sp, if_pos rfl]
  | cons b x ih =>
    rw [List.mem_cons, not_or] at h
    rw [List.cons_append, sp, if_neg (fun e => h.1 e.symm), ih h.2]
theorem join_cons2 (c : UInt8) (x y : List UInt8) (r : List (List UInt8)) : Lib.join (x :: y :: r) [c] = x ++ c :: Lib.join (y :: r) [c] := by
  rw [Lib.join_cons, Lib.join_cons]
  simp [Lib.joinTail]
theorem sp_join (c : UInt8) (xs : List (List UInt8)) (hn : xs ≠ []) (h : ∀ x ∈ xs, c ∉ x) : sp c (Lib.join xs [c]) = xs := by
  induction xs with
  | nil => exact absurd rfl hn
  | cons x r ih =>
    cases r with
    | nil => rw [Lib.join_one]; exact sp_none c x (h x (by simp))
    | cons y r =>
      rw [join_cons2, sp_append c x _ (h x (by simp)), ih (by simp) (fun z hz => h z (by simp [hz]))]
theorem join_sp (c : UInt8) (l : List UInt8) : Lib.join (sp c l) [c] = l := by
  induction l with
  | nil => rfl
  | cons b l ih =>
    by_cases hb : b = c
    · subst hb
      rw [sp, if_pos rfl]
      obtain ⟨x, r, hx⟩ := List.exists_cons_of_ne_nil (sp_ne b l)
      rw [hx, join_cons2, ← hx, ih]; rfl
    · obtain ⟨x, r, hx, h2⟩ := sp_cons c b l hb
      rw [h2]
      rw [hx] at ih
      cases r with
      | nil => rw [Lib.join_one] at ih ⊢; rw [ih]
      | cons y r => rw [join_cons2] at ih ⊢; rw [List.cons_append, ih]
theorem sp_sub (c : UInt8) (l : List UInt8) : ∀ x ∈ sp c l, c ∉ x := by
  induction l with
  | nil => intro x hx; simp [sp] at hx; subst hx; simp
  | cons b l ih =>
    by_cases hb : b = c
    · intro x hx
      rw [sp, if_pos hb, List.mem_cons] at hx
      rcases hx with rfl | hx
      · simp
      · exact ih x hx
    · obtain ⟨y, r, hy, h2⟩ := sp_cons c b l hb
      intro x hx
      rw [h2, List.mem_cons] at hx
      rcases hx with rfl | hx
      · rw [List.mem_cons, not_or]
        exact ⟨fun e => hb e.symm, ih y (by rw [hy]; simp)⟩
      · exact ih x (by rw [hy]; simp [hx])
theorem sp_len (c : UInt8) (l : List UInt8) : (sp c l).length = l.count c + 1 := by
  induction l with
  | nil => rfl
  | cons b l ih =>
    by_cases hb : b = c
    · subst hb; rw [sp, if_pos rfl, List.length_cons, ih, List.count_cons_self]
    · obtain ⟨y, r, hy, h2⟩ := sp_cons c b l hb
      rw [h2, List.count_cons_of_ne (by simpa using hb), ← ih, hy]; rfl
theorem splitK_sp (c : UInt8) (l : List UInt8) : ∀ k : Nat, l.count c ≤ k → Lib.splitK [c] 0 k l = sp c l := by
  induction l with
  | nil =>
    intro k _
    cases k with
    | zero => rfl
    | succ k => rfl
  | cons b l ih =>
    intro k hk
    by_cases hb : b = c
    · subst hb
      rw [List.count_cons_self] at hk
      obtain ⟨k, rfl⟩ : ∃ m, k = m + 1 := ⟨k - 1, by omega⟩
      have hi : Lib.index (b :: l) [b] = 0 := by rw [Lib.index_one, Lib.indexByte]; simp
      rw [Lib.splitK, if_neg (by rw [hi]; decide), hi, sp, if_pos rfl]
      have := ih k (by omega)
      simpa using this
    · rw [List.count_cons_of_ne (by simpa using hb)] at hk
      have hi : Lib.index (b :: l) [c] = if Lib.index l [c] == -1 then -1 else Lib.index l [c] + 1 := by
        rw [Lib.index_one, Lib.index_one, Lib.indexByte, if_neg (by simpa using hb)]
      obtain ⟨y, r, hy, h2⟩ := sp_cons c b l hb
      have h := ih k hk
      cases k with
      | zero =>
        rw [Lib.splitK] at h ⊢
        rw [h2]
        rw [hy] at h
        injection h with h3 h4
        rw [h3, h4]
      | succ k =>
        rw [Lib.splitK] at h ⊢
        rw [h2]
        rw [hy] at h
        rw [hi]
        by_cases hm : (Lib.index l [c] == -1) = true
        · rw [if_pos hm] at h
          rw [if_pos (by rw [if_pos hm]; rfl)]
          injection h with h3 h4
          rw [h3, h4]
        · rw [if_neg hm] at h
          have hge := Lib.index_ge l [c]
          have hne : Lib.index l [c] ≠ -1 := fun e => hm (beq_iff_eq.2 e)
          obtain ⟨i, hi2⟩ : ∃ i : Nat, Lib.index l [c] = i := ⟨(Lib.index l [c]).toNat, by omega⟩
          rw [hi2] at h
          rw [if_neg hm, hi2, if_neg (by intro e; have := beq_iff_eq.1 e; omega)]
          injection h with h3 h4
          have e1 : ((i : Int) + 1).toNat = i + 1 := by omega
          have e2 : ((i : Int)).toNat = i := by omega
          rw [e1]
          rw [e2] at h3 h4
          congr 1
          · rw [← h3]; rfl
theorem split_sp (s : ByteArray) (c : UInt8) : (Lib.splitB ⟨#[c]⟩ 0 (Lib.countB s ⟨#[c]⟩) s).map (·.data.toList) = sp c s.data.toList := by
  rw [Lib.splitB_data]
  have : (ByteArray.mk #[c]).data.toList = [c] := rfl
  rw [this]
  refine splitK_sp c _ _ ?_
  show s.data.toList.count c ≤ Lib.count s.data.toList [c]
  rw [Lib.count_one]
  exact Nat.le_refl _
end Go.Proofs.YthcphjmknbiadaaGreatDoor
