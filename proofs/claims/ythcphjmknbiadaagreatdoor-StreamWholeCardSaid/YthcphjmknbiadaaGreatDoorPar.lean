/- What Print tells, Parse gives back. -/
import Derived.Test.YthcphjmknbiadaaGreatDoorParse
import Derived.Test.YthcphjmknbiadaaGreatDoorNumb
import Derived.Test.YthcphjmknbiadaaGreatDoorPls
namespace Go.Proofs.YthcphjmknbiadaaGreatDoor
set_option maxRecDepth 100000
set_option linter.unusedVariables false

theorem pUgo_app (b : Nat) (l r : List UInt8) : ∀ m n : Nat, pUgo b m l = (n, 0) → pUgo b m (l ++ r) = pUgo b n r := by
  induction l with
  | nil => intro m n h; simp only [pUgo] at h; cases h; rfl
  | cons c l ih =>
    intro m n h
    rw [List.cons_append]
    cases hd : digV c.toNat with
    | none => simp only [pUgo, hd] at h; cases h
    | some d =>
      simp only [pUgo, hd] at h ⊢
      by_cases h1 : b ≤ d
      · rw [if_pos h1] at h; cases h
      · rw [if_neg h1] at h ⊢
        by_cases h2 : 4294967295 < m * b + d
        · rw [if_pos h2] at h; cases h
        · rw [if_neg h2] at h ⊢
          exact ih _ _ h
theorem digV_dec : ∀ d : Fin 10, digV (UInt8.ofNat (48 + d.val)).toNat = some d.val := by decide
theorem digV_hex : ∀ d : Fin 16, digV (hexc d.val).toNat = some d.val := by decide
theorem pU_dec (n : Nat) : n ≤ 65535 → pUgo 10 0 (Lib.decDigits n) = (n, 0) := by
  induction n using Nat.strongRecOn with
  | ind n ih =>
    intro h
    rw [Lib.decDigits]
    split
    · rename_i h10
      have := digV_dec ⟨n, h10⟩
      simp only [] at this
      simp only [pUgo, this]
      rw [if_neg (by omega), if_neg (by omega)]
      simp
    · rename_i h10
      rw [pUgo_app 10 _ _ 0 (n / 10) (ih (n / 10) (by omega) (by omega))]
      have := digV_dec ⟨n % 10, by omega⟩
      simp only [] at this
      simp only [pUgo, this]
      rw [if_neg (by omega), if_neg (by omega)]
      congr 1; omega
theorem pU_hex (n : Nat) : n ≤ 65535 → pUgo 16 0 (hexL n) = (n, 0) := by
  induction n using Nat.strongRecOn with
  | ind n ih =>
    intro h
    rw [hexL]
    split
    · rename_i h10
      have := digV_hex ⟨n, h10⟩
      simp only [] at this
      simp only [pUgo, this]
      rw [if_neg (by omega), if_neg (by omega)]
      simp
    · rename_i h10
      rw [pUgo_app 16 _ _ 0 (n / 16) (ih (n / 16) (by omega) (by omega))]
      have := digV_hex ⟨n % 16, by omega⟩
      simp only [] at this
      simp only [pUgo, this]
      rw [if_neg (by omega), if_neg (by omega)]
      congr 1; omega
theorem dec_mem (n : Nat) : ∀ c ∈ Lib.decDigits n, 48 ≤ c.toNat ∧ c.toNat ≤ 57 := by
  induction n using Nat.strongRecOn with
  | ind n ih =>
    have key : ∀ d : Fin 10, 48 ≤ (UInt8.ofNat (48 + d.val)).toNat ∧ (UInt8.ofNat (48 + d.val)).toNat ≤ 57 := by decide
    rw [Lib.decDigits]
    split
    · rename_i h10
      intro c hc
      rw [List.mem_singleton] at hc
      subst hc
      exact key ⟨n, h10⟩
    · rename_i h10
      intro c hc
      rw [List.mem_append, List.mem_singleton] at hc
      rcases hc with hc | rfl
      · exact ih _ (by omega) c hc
      · exact key ⟨n % 10, by omega⟩
theorem hex_mem (n : Nat) : ∀ c ∈ hexL n, (48 ≤ c.toNat ∧ c.toNat ≤ 57) ∨ (97 ≤ c.toNat ∧ c.toNat ≤ 102) := by
  induction n using Nat.strongRecOn with
  | ind n ih =>
    have key : ∀ d : Fin 16, (48 ≤ (hexc d.val).toNat ∧ (hexc d.val).toNat ≤ 57) ∨ (97 ≤ (hexc d.val).toNat ∧ (hexc d.val).toNat ≤ 102) := by decide
    rw [hexL]
    split
    · rename_i h10
      intro c hc
      rw [List.mem_singleton] at hc
      subst hc
      exact key ⟨n, h10⟩
    · rename_i h10
      intro c hc
      rw [List.mem_append, List.mem_singleton] at hc
      rcases hc with hc | rfl
      · exact ih _ (by omega) c hc
      · exact key ⟨n % 16, by omega⟩
theorem dec_ne (n : Nat) : Lib.decDigits n ≠ [] := by
  rw [Lib.decDigits]; split <;> simp
theorem hex_ne (n : Nat) : hexL n ≠ [] := by
  rw [hexL]; split <;> simp
theorem itoa_nat (n : Nat) : Lib.itoa (n : Int) = Lib.decDigits n := by unfold Lib.itoa; rw [if_neg (by omega)]; simp
theorem numsGo_all (b most : Nat) (dg : Nat → List UInt8) (hd : ∀ x, x ≤ most → pUgo b 0 (dg x) = (x, 0)) (hne : ∀ x, dg x ≠ []) (ps : List ByteArray) : ∀ (L acc : List Nat), ps.map (·.data.toList) = L.map dg → (∀ x ∈ L, x ≤ most) → numsGo b most acc ps = acc ++ L := by
  induction ps with
  | nil =>
    intro L acc h _
    cases L with
    | nil => simp [numsGo]
    | cons x L => cases h
  | cons p ps ih =>
    intro L acc h hm
    cases L with
    | nil => cases h
    | cons x L =>
      simp only [List.map_cons, List.cons.injEq] at h
      have hx : x ≤ most := hm x (by simp)
      have hp : pU b p = (x, 0) := by
        unfold pU
        rw [if_neg, h.1, hd x hx]
        intro h0
        have : p.data.toList = [] := by
          apply List.eq_nil_of_length_eq_zero
          rw [Array.length_toList]; exact h0
        rw [h.1] at this
        exact hne x this
      unfold numsGo
      rw [hp, if_neg (by simp; exact hx), ih L _ h.2 (fun y hy => hm y (by simp [hy]))]
      simp
theorem nums_join (b most : Nat) (c : UInt8) (dg : Nat → List UInt8) (hd : ∀ x, x ≤ most → pUgo b 0 (dg x) = (x, 0)) (hne : ∀ x, dg x ≠ []) (hc : ∀ x, c ∉ dg x) (L : List Nat) (hm : ∀ x ∈ L, x ≤ most) (s : ByteArray) (hs : s.data.toList = Lib.join (L.map dg) [c]) : nums b most s ⟨#[c]⟩ = L := by
  have h3 : s.data.toList.length = s.size := by rw [Array.length_toList]; rfl
  cases L with
  | nil =>
    unfold nums
    rw [if_pos]
    rw [← h3, hs]; rfl
  | cons x L =>
    have hsz : s.size ≠ 0 := by
      rw [← h3, hs, List.map_cons, Lib.join_cons]
      have := hne x
      intro h0
      rw [List.length_append] at h0
      exact this (List.eq_nil_of_length_eq_zero (by omega))
    unfold nums
    rw [if_neg hsz, numsGo_all b most dg hd hne _ (x :: L) [] ?_ hm]
    · rfl
    · unfold partsB
      rw [split_sp, hs, sp_join c _ (by simp)]
      intro y hy
      rw [List.mem_map] at hy
      obtain ⟨z, _, rfl⟩ := hy
      exact hc z
theorem idxB_mem (l : List UInt8) (c : UInt8) : 0 ≤ Lib.indexByte l c ↔ c ∈ l := by
  have hge := Lib.indexByte_ge l c
  constructor
  · intro h
    obtain ⟨o, ho⟩ : ∃ o : Nat, Lib.indexByte l c = o := ⟨(Lib.indexByte l c).toNat, by omega⟩
    exact List.mem_of_getElem? (Lib.indexByte_some ho).1
  · intro h
    by_cases h1 : Lib.indexByte l c = -1
    · obtain ⟨k, hk⟩ := List.getElem?_of_mem h
      exact absurd hk (Lib.indexByte_none h1 k)
    · omega
/-! ### Where a double colon stands -/
def dd : List UInt8 := [58, 58]
theorem idx_skip (b : UInt8) (l : List UInt8) (h : b ≠ 58) : Lib.index (b :: l) dd = if Lib.index l dd == -1 then -1 else Lib.index l dd + 1 := by
  have : dd.isPrefixOf (b :: l) = false := by
    simp [dd, List.isPrefixOf]; intro e; exact absurd e.symm h
  rw [Lib.index, this]; simp
theorem idx_skip2 (b : UInt8) (l : List UInt8) (h : b ≠ 58) : Lib.index (58 :: b :: l) dd = if Lib.index (b :: l) dd == -1 then -1 else Lib.index (b :: l) dd + 1 := by
  have : dd.isPrefixOf (58 :: b :: l) = false := by
    simp [dd, List.isPrefixOf]; intro e; exact absurd e.symm h
  rw [Lib.index, this]; simp
theorem idx_word (x l : List UInt8) (n : Nat) (h : 58 ∉ x) (hl : Lib.index l dd = n) : Lib.index (x ++ l) dd = (x.length + n : Nat) := by
  induction x with
  | nil => simpa using hl
  | cons b x ih =>
    rw [List.mem_cons, not_or] at h
    rw [List.cons_append, idx_skip b _ (fun e => h.1 e.symm), ih h.2, if_neg (by simp; omega)]
    simp; omega
theorem idx_word_no (x l : List UInt8) (h : 58 ∉ x) (hl : Lib.index l dd = -1) : Lib.index (x ++ l) dd = -1 := by
  induction x with
  | nil => simpa using hl
  | cons b x ih =>
    rw [List.mem_cons, not_or] at h
    rw [List.cons_append, idx_skip b _ (fun e => h.1 e.symm), ih h.2]; rfl
theorem idx_join (xs : List (List UInt8)) (hne : ∀ x ∈ xs, x ≠ []) (hno : ∀ x ∈ xs, 58 ∉ x) (B : List UInt8) : Lib.index (Lib.join xs [58] ++ 58 :: 58 :: B) dd = ((Lib.join xs [58]).length : Nat) := by
  induction xs with
  | nil =>
    show Lib.index (58 :: 58 :: B) dd = 0
    rw [Lib.index]; rfl
  | cons x r ih =>
    have ih := ih (fun y hy => hne y (by simp [hy])) (fun y hy => hno y (by simp [hy]))
    cases r with
    | nil =>
      rw [Lib.join_one]
      have := idx_word x (58 :: 58 :: B) 0 (hno x (by simp)) (by rw [Lib.index]; rfl)
      simpa using this
    | cons y r =>
      rw [join_cons2, List.append_assoc, List.cons_append]
      obtain ⟨b, y', hy⟩ := List.exists_cons_of_ne_nil (hne y (by simp))
      have hb : b ≠ 58 := by
        have := hno y (by simp)
        rw [hy, List.mem_cons, not_or] at this
        exact fun e => this.1 e.symm
      obtain ⟨T, hT⟩ : ∃ T, Lib.join (y :: r) [58] = b :: T := by rw [Lib.join_cons, hy]; exact ⟨_, rfl⟩
      rw [hT] at ih ⊢
      rw [List.cons_append] at ih ⊢
      have := idx_word x (58 :: b :: (T ++ 58 :: 58 :: B)) ((b :: T).length + 1) (hno x (by simp)) (by
        rw [idx_skip2 b _ hb, ih, if_neg (by simp; omega)]; simp)
      rw [this]
      simp
theorem idx_join_no (xs : List (List UInt8)) (hne : ∀ x ∈ xs, x ≠ []) (hno : ∀ x ∈ xs, 58 ∉ x) : Lib.index (Lib.join xs [58]) dd = -1 := by
  induction xs with
  | nil => rfl
  | cons x r ih =>
    have ih := ih (fun y hy => hne y (by simp [hy])) (fun y hy => hno y (by simp [hy]))
    cases r with
    | nil =>
      rw [Lib.join_one]
      have := idx_word_no x [] (hno x (by simp)) rfl
      simpa using this
    | cons y r =>
      rw [join_cons2]
      obtain ⟨b, y', hy⟩ := List.exists_cons_of_ne_nil (hne y (by simp))
      have hb : b ≠ 58 := by
        have := hno y (by simp)
        rw [hy, List.mem_cons, not_or] at this
        exact fun e => this.1 e.symm
      obtain ⟨T, hT⟩ : ∃ T, Lib.join (y :: r) [58] = b :: T := by rw [Lib.join_cons, hy]; exact ⟨_, rfl⟩
      rw [hT] at ih ⊢
      exact idx_word_no x _ (hno x (by simp)) (by rw [idx_skip2 b _ hb, ih]; rfl)
/-! ### The row of noughts -/
theorem rowTo_zero (f : Nat → Nat) (k : Nat) : (∀ j, (rowTo f k).1 ≤ j → j < (rowTo f k).1 + (rowTo f k).2.1 → f j = 0) ∧ (∀ j, k - (rowTo f k).2.2 ≤ j → j < k → f j = 0) := by
  induction k with
  | zero => simp [rowTo]
  | succ k ih =>
    have hle := rowTo_le f k
    obtain ⟨h1, h2⟩ := ih
    unfold rowTo rowStep
    split
    · rename_i hx
      refine ⟨h1, ?_⟩
      intro j a b; simp at a; omega
    · rename_i hx
      have hx0 : f k = 0 := by omega
      split
      · rename_i hlt
        constructor
        · intro j a b
          simp only [] at a b
          by_cases hj : j = k
          · subst hj; exact hx0
          · exact h2 j (by omega) (by omega)
        · intro j a b
          simp only [] at a
          by_cases hj : j = k
          · subst hj; exact hx0
          · exact h2 j (by omega) (by omega)
      · refine ⟨h1, ?_⟩
        intro j a b
        simp only [] at a
        by_cases hj : j = k
        · subst hj; exact hx0
        · exact h2 j (by omega) (by omega)
theorem n6l_get (a : ByteArray) (j : Nat) (h : j < 8) : (n6l a)[j]? = some (n6 a j) := by
  unfold n6l; rw [List.getElem?_map, List.getElem?_range h]; rfl
theorem n6l_len (a : ByteArray) : (n6l a).length = 8 := by simp [n6l]
theorem n6l_gap (a : ByteArray) (at_ n : Nat) (h : at_ + n ≤ 8) (hz : ∀ j, at_ ≤ j → j < at_ + n → n6 a j = 0) : (n6l a).take at_ ++ List.replicate n 0 ++ (n6l a).drop (at_ + n) = n6l a := by
  apply List.ext_getElem?
  intro j
  have h8 := n6l_len a
  by_cases h1 : j < at_
  · rw [List.append_assoc, List.getElem?_append_left (by simp; omega), List.getElem?_take, if_pos h1]
  · by_cases h2 : j < at_ + n
    · rw [List.getElem?_append_left (by simp; omega), List.getElem?_append_right (by simp; omega), n6l_get a j (by omega), hz j (by omega) h2, List.getElem?_replicate, if_pos (by simp; omega)]
    · rw [List.getElem?_append_right (by simp; omega), List.getElem?_drop]
      congr 1
      simp; omega
/-! ### The bytes again -/
theorem list_at (a : ByteArray) (n : Nat) (h : a.size = n) : a.data.toList = (List.range n).map fun j => UInt8.ofNat (at8 a j) := by
  have h3 : a.data.toList.length = a.size := by rw [Array.length_toList]; rfl
  apply List.ext_getElem?
  intro j
  by_cases hj : j < n
  · rw [List.getElem?_map, List.getElem?_range hj, List.getElem?_eq_getElem (by omega)]
    show _ = some (UInt8.ofNat (at8 a j))
    unfold at8
    rw [List.getD_eq_getElem?_getD, List.getElem?_eq_getElem (by omega)]
    simp
  · rw [List.getElem?_eq_none (by omega), List.getElem?_eq_none (by simp; omega)]
theorem be_1 (x : Nat) : be x 1 = [UInt8.ofNat x] := by simp [be]
theorem be_n6 (a : ByteArray) (j : Nat) : be (n6 a j) 2 = [UInt8.ofNat (at8 a (2 * j)), UInt8.ofNat (at8 a (2 * j + 1))] := by
  have h1 := at8_lt a (2 * j)
  have h2 := at8_lt a (2 * j + 1)
  unfold n6
  simp only [be, Nat.pow_one, Nat.pow_zero, Nat.div_one]
  congr 1
  · congr 1; omega
  · congr 1
    apply UInt8.toNat_inj.1
    simp
theorem bytes1 (a : ByteArray) (h : a.size = 4) : bytesL 1 ((List.range 4).map (at8 a)) = a.data.toList := by
  rw [list_at a 4 h]
  simp [List.range, List.range.loop, bytesL, be_1]
theorem bytes2 (a : ByteArray) (h : a.size = 16) : bytesL 2 (n6l a) = a.data.toList := by
  rw [list_at a 16 h]
  simp [List.range, List.range.loop, bytesL, n6l, be_n6]
theorem mk_list (a : ByteArray) : (⟨a.data.toList.toArray⟩ : ByteArray) = a := by cases a; simp
theorem join_mem (s : UInt8) (xs : List (List UInt8)) : ∀ c ∈ Lib.join xs [s], c = s ∨ ∃ x ∈ xs, c ∈ x := by
  induction xs with
  | nil => intro c hc; cases hc
  | cons x r ih =>
    cases r with
    | nil => intro c hc; rw [Lib.join_one] at hc; exact .inr ⟨x, by simp, hc⟩
    | cons y r =>
      intro c hc
      rw [join_cons2, List.mem_append, List.mem_cons] at hc
      rcases hc with hc | rfl | hc
      · exact .inr ⟨x, by simp, hc⟩
      · exact .inl rfl
      · rcases ih c hc with h | ⟨z, hz, h⟩
        · exact .inl h
        · exact .inr ⟨z, by simp [hz], h⟩
theorem print4_eq (a : ByteArray) : print4 a = Lib.join (((List.range 4).map (at8 a)).map Lib.decDigits) [46] := by
  unfold print4 p4s decS
  rw [List.map_map, List.map_map]
  congr 1
theorem dec_no (n : Nat) (c : UInt8) (h : c.toNat < 48 ∨ 57 < c.toNat) : c ∉ Lib.decDigits n := fun hc => by have := dec_mem n c hc; omega
theorem hex_no (n : Nat) (c : UInt8) (h : c.toNat < 48 ∨ (57 < c.toNat ∧ c.toNat < 97)) : c ∉ hexL n := fun hc => by have := hex_mem n c hc; omega
theorem print4_mem (a : ByteArray) : ∀ c ∈ print4 a, c = 46 ∨ (48 ≤ c.toNat ∧ c.toNat ≤ 57) := by
  intro c hc
  rw [print4_eq] at hc
  rcases join_mem 46 _ c hc with h | ⟨x, hx, h⟩
  · exact .inl h
  · rw [List.mem_map] at hx
    obtain ⟨n, _, rfl⟩ := hx
    exact .inr (dec_mem n c h)
theorem cand4 (a : ByteArray) (h : a.size = 4) : candP ⟨(print4 a).toArray⟩ = a := by
  have hno : ¬ 0 ≤ Lib.indexByte (ByteArray.mk (print4 a).toArray).data.toList 58 := by
    rw [idxB_mem]
    intro hc
    rcases print4_mem a 58 (by simpa using hc) with h | h
    · cases h
    · have : (58 : UInt8).toNat = 58 := rfl
      omega
  unfold candP
  rw [if_neg hno, show dot = ⟨#[46]⟩ from rfl]
  rw [nums_join 10 255 46 Lib.decDigits (fun x hx => pU_dec x (by omega)) dec_ne (fun x => dec_no x 46 (by decide)) ((List.range 4).map (at8 a)) ?_ _ ?_, bytes1 a h, mk_list]
  · intro x hx
    rw [List.mem_map] at hx
    obtain ⟨j, _, rfl⟩ := hx
    have := at8_lt a j; omega
  · show (print4 a).toArray.toList = _
    rw [List.toList_toArray, print4_eq]
theorem joinX_mem (l : List Nat) : ∀ c ∈ joinX l, c = 58 ∨ (48 ≤ c.toNat ∧ c.toNat ≤ 57) ∨ (97 ≤ c.toNat ∧ c.toNat ≤ 102) := by
  intro c hc
  rcases join_mem 58 _ c hc with h | ⟨x, hx, h⟩
  · exact .inl h
  · rw [List.mem_map] at hx
    obtain ⟨n, _, rfl⟩ := hx
    exact .inr (hex_mem n c h)
theorem print6_mem (a : ByteArray) : ∀ c ∈ print6 a, c = 58 ∨ (48 ≤ c.toNat ∧ c.toNat ≤ 57) ∨ (97 ≤ c.toNat ∧ c.toNat ≤ 102) := by
  intro c hc
  unfold print6 at hc
  split at hc
  · exact joinX_mem _ c hc
  · rw [List.mem_append, List.mem_append] at hc
    rcases hc with (hc | hc) | hc
    · exact joinX_mem _ c hc
    · simp at hc; exact .inl hc
    · exact joinX_mem _ c hc
theorem n6l_le (a : ByteArray) : ∀ x ∈ n6l a, x ≤ 65535 := by
  intro x hx
  unfold n6l at hx
  rw [List.mem_map] at hx
  obtain ⟨j, _, rfl⟩ := hx
  have := n6_lt a j; omega
theorem nums_X (L : List Nat) (hm : ∀ x ∈ L, x ≤ 65535) (s : ByteArray) (hs : s.data.toList = joinX L) : nums 16 65535 s colon = L :=
  nums_join 16 65535 58 hexL (fun x hx => pU_hex x hx) hex_ne (fun x => hex_no x 58 (by decide)) L hm s hs
theorem hexs_ne (L : List Nat) : ∀ x ∈ L.map hexL, x ≠ [] := by
  intro x hx
  rw [List.mem_map] at hx
  obtain ⟨n, _, rfl⟩ := hx
  exact hex_ne n
theorem hexs_no (L : List Nat) : ∀ x ∈ L.map hexL, 58 ∉ x := by
  intro x hx
  rw [List.mem_map] at hx
  obtain ⟨n, _, rfl⟩ := hx
  exact hex_no n 58 (by decide)
theorem cand6 (a : ByteArray) (h : a.size = 16) : candP ⟨(print6 a).toArray⟩ = a := by
  have hle := rowTo_le (n6 a) 8
  obtain ⟨hz, _⟩ := rowTo_zero (n6 a) 8
  have h8 := n6l_len a
  have key : (0 ≤ Lib.indexByte (print6 a) 58) ∧ num6 ⟨(print6 a).toArray⟩ = n6l a := by
    generalize hat : (rowTo (n6 a) 8).1 = A at *
    generalize hn : (rowTo (n6 a) 8).2.1 = n at *
    unfold print6
    rw [hat, hn]
    by_cases h2 : n < 2
    · rw [if_pos h2]
      constructor
      · rw [idxB_mem]
        obtain ⟨x, y, r, hx⟩ : ∃ x y r, n6l a = x :: y :: r := by
          match n6l a, h8 with
          | x :: y :: r, _ => exact ⟨x, y, r, rfl⟩
        unfold joinX
        rw [hx, List.map_cons, List.map_cons, join_cons2]
        simp
      · have hi : Lib.index (joinX (n6l a)) [58, 58] = -1 := idx_join_no _ (hexs_ne _) (hexs_no _)
        have hcut : Lib.cut (ByteArray.mk (joinX (n6l a)).toArray).data.toList [58, 58] = (joinX (n6l a), [], false) := by
          unfold Lib.cut
          simp only []
          rw [hi, if_neg (by decide)]
        unfold num6 cutB cutH cutT
        rw [hcut]
        simp only [Bool.false_eq_true, false_and, if_false]
        rw [nums_X _ (n6l_le a) _ (by simp), nums_X [] (by simp) _ (by rfl)]
        simp
    · rw [if_neg h2]
      constructor
      · rw [idxB_mem]; simp
      · have hi : Lib.index (joinX ((n6l a).take A) ++ [58, 58] ++ joinX ((n6l a).drop (A + n))) [58, 58] = ((joinX ((n6l a).take A)).length : Nat) := by
          have := idx_join (((n6l a).take A).map hexL) (hexs_ne _) (hexs_no _) (joinX ((n6l a).drop (A + n)))
          rw [List.append_assoc]
          exact this
        have hcut : Lib.cut (ByteArray.mk (joinX ((n6l a).take A) ++ [58, 58] ++ joinX ((n6l a).drop (A + n))).toArray).data.toList [58, 58] = (joinX ((n6l a).take A), joinX ((n6l a).drop (A + n)), true) := by
          unfold Lib.cut
          simp only []
          rw [hi, if_pos (by omega)]
          have e : ((joinX ((n6l a).take A)).length : Int).toNat = (joinX ((n6l a).take A)).length := by omega
          rw [e]
          congr 1
          · rw [List.append_assoc, List.take_left]
          · congr 1
            rw [List.drop_append]
            simp
        unfold num6 cutB cutH cutT
        rw [hcut]
        simp only []
        rw [nums_X ((n6l a).take A) (fun x hx => n6l_le a x (List.mem_of_mem_take hx)) _ (by simp), nums_X ((n6l a).drop (A + n)) (fun x hx => n6l_le a x (List.mem_of_mem_drop hx)) _ (by simp)]
        have hl1 : ((n6l a).take A).length = A := by rw [List.length_take]; omega
        have hl2 : ((n6l a).drop (A + n)).length = 8 - (A + n) := by rw [List.length_drop, h8]
        rw [if_pos ⟨trivial, by omega⟩, hl1, hl2, show 8 - A - (8 - (A + n)) = n by omega]
        exact n6l_gap a A n (by omega) hz
  unfold candP
  rw [if_pos (by simpa using key.1), key.2, bytes2 a h, mk_list]
theorem parse_print (a : ByteArray) (h : a.size = 4 ∨ a.size = 16) : parseP ⟨(printP a).1.toArray⟩ = (a, 0) := by
  have key : candP ⟨(printP a).1.toArray⟩ = a ∧ (printP a).2 = 0 := by
    rcases h with h | h
    · have : printP a = (print4 a, 0) := by unfold printP; rw [if_pos h]
      rw [this]; exact ⟨cand4 a h, rfl⟩
    · have : printP a = (print6 a, 0) := by unfold printP; rw [if_neg (by omega), if_pos h]
      rw [this]; exact ⟨cand6 a h, rfl⟩
  unfold parseP
  rw [key.1, if_pos ⟨key.2, by rw [ByteArray.toList_eq]; simp⟩]
/-- Parse tells only what prints back. -/
theorem parseP_zero (s : ByteArray) (h : (parseP s).2 = 0) : (printP (parseP s).1).2 = 0 ∧ (printP (parseP s).1).1 = s.data.toList := by
  unfold parseP at h ⊢
  split
  · rename_i hc
    refine ⟨hc.1, ?_⟩
    have := beq_iff_eq.1 hc.2
    rw [this, ByteArray.toList_eq]
  · rename_i hc; rw [if_neg hc] at h; cases h
theorem printP_size (a : ByteArray) : (printP a).2 = 0 ↔ a.size = 4 ∨ a.size = 16 := by
  unfold printP
  split
  · rename_i h; simp [h]
  · split
    · rename_i h; simp [h]
    · simp; omega
end Go.Proofs.YthcphjmknbiadaaGreatDoor
