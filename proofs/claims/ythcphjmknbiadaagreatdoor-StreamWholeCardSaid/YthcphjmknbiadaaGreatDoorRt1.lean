/- The first version: what is put is got back; its beginnings need more. -/
import Derived.Test.YthcphjmknbiadaaGreatDoorPar
import Derived.Test.YthcphjmknbiadaaGreatDoorStr
namespace Go.Proofs.YthcphjmknbiadaaGreatDoor
set_option maxRecDepth 100000
set_option linter.unusedVariables false

theorem len_toList (a : ByteArray) : a.data.toList.length = a.size := by rw [Array.length_toList]; rfl
theorem toList_data (a : ByteArray) : a.toList = a.data.toList := ByteArray.toList_eq a
/-! ### Numbers -/
theorem parse10_app (l r : List UInt8) : ∀ m n : Nat, Lib.parseUint10 m l = .ok n → Lib.parseUint10 m (l ++ r) = Lib.parseUint10 n r := by
  induction l with
  | nil => intro m n h; simp only [Lib.parseUint10] at h; cases h; rfl
  | cons c l ih =>
    intro m n h
    rw [List.cons_append]
    simp only [Lib.parseUint10] at h ⊢
    split at h
    · rename_i hc
      rw [if_pos hc]
      split at h
      · cases h
      · rename_i h1
        rw [if_neg h1]
        split at h
        · cases h
        · rename_i h2
          rw [if_neg h2]
          exact ih _ _ h
    · cases h
theorem parse10_dec (n : Nat) : n ≤ 65535 → Lib.parseUint10 0 (Lib.decDigits n) = .ok n := by
  have key : ∀ d : Fin 10, (UInt8.ofNat (48 + d.val)).toNat = 48 + d.val := by decide
  induction n using Nat.strongRecOn with
  | ind n ih =>
    intro h
    rw [Lib.decDigits]
    split
    · rename_i h10
      have := key ⟨n, h10⟩
      simp only [] at this
      simp only [Lib.parseUint10, this]
      rw [if_pos (by omega), if_neg (by omega), if_neg (by omega)]
      congr 1; omega
    · rename_i h10
      rw [parse10_app _ _ 0 (n / 10) (ih (n / 10) (by omega) (by omega))]
      have := key ⟨n % 10, by omega⟩
      simp only [] at this
      simp only [Lib.parseUint10, this]
      rw [if_pos (by omega), if_neg (by omega), if_neg (by omega)]
      congr 1; omega
theorem atoi_dec (n : Nat) (h : n ≤ 65535) : Lib.atoiAll (Lib.decDigits n) = .ok (n : Int) := by
  obtain ⟨c, r, hc⟩ := List.exists_cons_of_ne_nil (dec_ne n)
  have hm := dec_mem n c (by rw [hc]; simp)
  have hp : Lib.parseMag (c :: r) = .ok n := by
    unfold Lib.parseMag
    rw [if_neg (by simp), ← hc, parse10_dec n h]
  rw [hc]
  unfold Lib.atoiAll
  simp only []
  rw [if_neg (by omega), hp]
  simp only []
  rw [if_neg (by omega), if_neg (by omega), if_neg (by omega)]
theorem numP_dec (n : Int) (h0 : 0 ≤ n) (h : n ≤ 65535) : numP (decI n) 65535 = (n, 0) := by
  obtain ⟨k, rfl⟩ := Int.eq_ofNat_of_zero_le h0
  have hd : (decI (k : Int)).data.toList = Lib.decDigits k := by
    show (Lib.itoa (k : Int)).toArray.toList = _
    rw [List.toList_toArray, itoa_nat]
  unfold numP
  rw [hd, atoi_dec k (by omega)]
  simp only []
  rw [if_neg (by omega), if_neg (by omega), if_pos]
  rw [toList_data, hd, itoa_nat]; simp
/-! ### Lengths -/
theorem dec_len3 (n : Nat) (h : n ≤ 255) : (Lib.decDigits n).length ≤ 3 := by
  rw [Lib.decDigits]; split
  · simp
  · rw [Lib.decDigits]; split
    · simp
    · rw [Lib.decDigits, dif_pos (by omega)]; simp
theorem dec_len5 (n : Nat) (h : n ≤ 65535) : (Lib.decDigits n).length ≤ 5 := by
  rw [Lib.decDigits]; split
  · simp
  · have := dec_len4 (n / 10) (by omega)
    rw [List.length_append]; simp; omega
where
  dec_len4 (n : Nat) (h : n ≤ 6553) : (Lib.decDigits n).length ≤ 4 := by
    rw [Lib.decDigits]; split
    · simp
    · have := dec_len3 (n / 10)
      by_cases h2 : n / 10 ≤ 255
      · have := this h2
        rw [List.length_append]; simp; omega
      · rw [Lib.decDigits, dif_neg (by omega), Lib.decDigits, dif_neg (by omega), Lib.decDigits, dif_pos (by omega)]
        simp
theorem join_len (c : UInt8) (m : Nat) (xs : List (List UInt8)) (hn : xs ≠ []) (h : ∀ x ∈ xs, x.length ≤ m) : (Lib.join xs [c]).length + 1 ≤ (m + 1) * xs.length := by
  induction xs with
  | nil => exact absurd rfl hn
  | cons x r ih =>
    have hx := h x (by simp)
    cases r with
    | nil => rw [Lib.join_one]; simp; omega
    | cons y r =>
      have := ih (by simp) (fun z hz => h z (by simp [hz]))
      rw [join_cons2]
      simp only [List.length_append, List.length_cons] at this ⊢
      rw [Nat.mul_add, Nat.mul_one]
      have e : (m + 1) * (r.length + 1) = (m + 1) * r.length + (m + 1) := by rw [Nat.mul_add, Nat.mul_one]
      omega
theorem joinX_le (L : List Nat) (hm : ∀ x ∈ L, x ≤ 65535) : (joinX L).length ≤ 5 * L.length ∧ (L ≠ [] → (joinX L).length + 1 ≤ 5 * L.length) := by
  by_cases hL : L = []
  · subst hL; exact ⟨by show 0 ≤ _; omega, fun h => absurd rfl h⟩
  · have := join_len 58 4 (L.map hexL) (by simpa using hL) (by
      intro x hx
      rw [List.mem_map] at hx
      obtain ⟨n, hn, rfl⟩ := hx
      exact hexL_len n (by have := hm n hn; omega))
    rw [List.length_map] at this
    exact ⟨by unfold joinX; omega, fun _ => this⟩
theorem printP_39 (a : ByteArray) : (printP a).1.length ≤ 39 := by
  unfold printP
  split
  · have := join_len 46 3 (((List.range 4).map (at8 a)).map Lib.decDigits) (by simp) (by
      intro x hx
      rw [List.mem_map] at hx
      obtain ⟨n, hn, rfl⟩ := hx
      rw [List.mem_map] at hn
      obtain ⟨j, _, rfl⟩ := hn
      exact dec_len3 _ (by have := at8_lt a j; omega))
    rw [← print4_eq] at this
    simp at this ⊢; omega
  split
  · show (print6 a).length ≤ 39
    have hle := rowTo_le (n6 a) 8
    have h8 := n6l_len a
    unfold print6
    split
    · have := (joinX_le (n6l a) (n6l_le a)).2 (by intro h; rw [h] at h8; cases h8)
      rw [h8] at this; omega
    · have h1 := (joinX_le ((n6l a).take (rowTo (n6 a) 8).1) (fun x hx => n6l_le a x (List.mem_of_mem_take hx))).1
      have h2 := (joinX_le ((n6l a).drop ((rowTo (n6 a) 8).1 + (rowTo (n6 a) 8).2.1)) (fun x hx => n6l_le a x (List.mem_of_mem_drop hx))).1
      rw [List.length_take] at h1
      rw [List.length_drop] at h2
      simp only [List.length_append, List.length_cons, List.length_nil]
      omega
  · simp
end Go.Proofs.YthcphjmknbiadaaGreatDoor
