/- The first version's line: put, got back; its beginnings need more. -/
import Derived.Test.YthcphjmknbiadaaGreatDoorRt1
namespace Go.Proofs.YthcphjmknbiadaaGreatDoor
set_option maxRecDepth 100000
set_option linter.unusedVariables false

theorem indexByte_first (pre post : List UInt8) (c : UInt8) (h : c ∉ pre) : Lib.indexByte (pre ++ c :: post) c = pre.length := by
  induction pre with
  | nil => rw [List.nil_append, Lib.indexByte]; simp
  | cons b pre ih =>
    rw [List.mem_cons, not_or] at h
    rw [List.cons_append, Lib.indexByte, if_neg (by simp; exact fun e => h.1 e.symm), ih h.2, if_neg (by intro e; have := beq_iff_eq.1 e; omega)]
    simp
theorem indexByte_no (l : List UInt8) (c : UInt8) (h : c ∉ l) : Lib.indexByte l c = -1 := by
  have := idxB_mem l c
  have hge := Lib.indexByte_ge l c
  by_cases h0 : 0 ≤ Lib.indexByte l c
  · exact absurd (this.1 h0) h
  · omega
theorem mk_toList (l : List UInt8) : (ByteArray.mk l.toArray).data.toList = l := by simp
theorem mk_size (l : List UInt8) : (ByteArray.mk l.toArray).size = l.length := by show l.toArray.size = _; simp
theorem extract_take (l : List UInt8) (n : Nat) : (ByteArray.mk l.toArray).extract 0 n = ⟨(l.take n).toArray⟩ := by
  apply ByteArray.ext
  apply Array.toList_inj.1
  rw [Lib.extract_data]; simp
/-- A line, whatever stands behind it. -/
theorem get1_line (pre p : List UInt8) (x : Strm) (hno : 10 ∉ pre) (hl : pre.length < 107) (hf : (pre ++ [10]).take 6 = frontL) (hx : parse1 ⟨(pre ++ [10]).toArray⟩ = (x, true)) :
    get1 ⟨(pre ++ [10] ++ p).toArray⟩ = (0, x, pre.length + 1) := by
  have h6 : 6 ≤ (pre ++ [10]).length := by
    have := congrArg List.length hf
    rw [List.length_take] at this
    have h : frontL.length = 6 := rfl
    omega
  have ht : (pre ++ [10] ++ p).take 6 = frontL := by rw [List.take_append_of_le_length h6]; exact hf
  have hi : Lib.indexByte ((pre ++ [10] ++ p).take 107) 10 = pre.length := by
    rw [List.append_assoc, List.take_append]
    rw [List.take_of_length_le (by omega)]
    obtain ⟨k, hk⟩ : ∃ k, 107 - pre.length = k + 1 := ⟨107 - pre.length - 1, by omega⟩
    rw [hk]
    exact indexByte_first pre _ 10 hno
  have hfr : (frontL.take (pre ++ [10] ++ p).length) = frontL := by
    rw [List.take_of_length_le]
    have h : frontL.length = 6 := rfl
    rw [List.length_append]; omega
  unfold get1 b107
  rw [mk_toList, mk_size, ht, hfr, hi, if_neg (by simp), if_neg (by omega)]
  have e : ((pre.length : Int)).toNat + 1 = (pre ++ [10]).length := by simp
  rw [e, extract_take, List.take_left, hx]
  simp
theorem get1_part (pre : List UInt8) (k : Nat) (hk : k ≤ pre.length) (hno : 10 ∉ pre) (hl : pre.length < 107) (hf : (pre ++ [10]).take 6 = frontL) :
    (get1 ⟨((pre ++ [10]).take k).toArray⟩).1 = 10 := by
  have hkt : (pre ++ [10]).take k = pre.take k := List.take_append_of_le_length hk
  have hft : ((pre ++ [10]).take k).take 6 = frontL.take ((pre ++ [10]).take k).length := by
    rw [List.length_take, List.take_take, ← hf, List.take_take]
    congr 1
    rw [List.length_append]; simp; omega
  have hi : Lib.indexByte (((pre ++ [10]).take k).take 107) 10 = -1 := by
    rw [hkt]
    apply indexByte_no
    intro h
    exact hno (List.mem_of_mem_take (List.mem_of_mem_take h))
  unfold get1 b107
  rw [mk_toList, mk_size, hft, hi, if_neg (by simp), if_pos (by omega)]
  show (if _ then (4 : Int) else 10) = 10
  rw [if_neg]
  rw [List.length_take]; omega
/-! ### The words of a line -/
theorem map_inj {P Q : List ByteArray} (h : P.map (·.data.toList) = Q.map (·.data.toList)) : P = Q := by
  induction P generalizing Q with
  | nil =>
    cases Q with
    | nil => rfl
    | cons q Q => cases h
  | cons p P ih =>
    cases Q with
    | nil => cases h
    | cons q Q =>
      simp only [List.map_cons, List.cons.injEq] at h
      have hp : p = q := by
        apply ByteArray.ext
        exact Array.toList_inj.1 h.1
      rw [hp, ih h.2]
theorem lineL_words (ws : List ByteArray) (hn : ws ≠ []) (h : ∀ x ∈ ws, 32 ∉ x.data.toList) : words1 ⟨(lineL ws).toArray⟩ = ws := by
  have ht : trim1 ⟨(lineL ws).toArray⟩ = ⟨(Lib.join (ws.map (·.data.toList)) [32]).toArray⟩ := by
    unfold trim1
    rw [mk_toList]
    congr 2
    have h1 : Lib.trimPrefix (lineL ws) frontL = Lib.join (ws.map (·.data.toList)) [32] ++ [13, 10] := by
      unfold Lib.trimPrefix Lib.hasPrefix
      have hp : frontL.isPrefixOf (lineL ws) = true := by
        rw [List.isPrefixOf_iff_prefix]
        unfold lineL
        rw [List.append_assoc]
        exact List.prefix_append _ _
      rw [if_pos hp]
      unfold lineL
      rw [List.append_assoc, List.drop_left]
    rw [h1]
    unfold Lib.trimSuffix Lib.hasSuffix
    have hs : ([13, 10] : List UInt8).isSuffixOf (Lib.join (ws.map (·.data.toList)) [32] ++ [13, 10]) = true := by
      rw [List.isSuffixOf_iff_suffix]
      exact List.suffix_append _ _
    rw [if_pos hs, List.length_append, Nat.add_sub_cancel, List.take_left]
  unfold words1 partsB
  rw [ht]
  apply map_inj
  rw [split_sp, mk_toList, sp_join 32 _ (by simpa using hn)]
  intro x hx
  rw [List.mem_map] at hx
  obtain ⟨y, hy, rfl⟩ := hx
  exact h y hy
theorem printP_mem (a : ByteArray) : ∀ c ∈ (printP a).1, c = 46 ∨ c = 58 ∨ (48 ≤ c.toNat ∧ c.toNat ≤ 57) ∨ (97 ≤ c.toNat ∧ c.toNat ≤ 102) := by
  intro c hc
  unfold printP at hc
  split at hc
  · rcases print4_mem a c hc with h | h
    · exact .inl h
    · exact .inr (.inr (.inl h))
  split at hc
  · rcases print6_mem a c hc with h | h | h
    · exact .inr (.inl h)
    · exact .inr (.inr (.inl h))
    · exact .inr (.inr (.inr h))
  · cases hc
theorem decI_list (n : Int) (h0 : 0 ≤ n) : (decI n).data.toList = Lib.decDigits n.toNat := by
  obtain ⟨k, rfl⟩ := Int.eq_ofNat_of_zero_le h0
  show (Lib.itoa (k : Int)).toArray.toList = _
  rw [List.toList_toArray, itoa_nat]; rfl
/-- What the words of a line that is put hold: no blank, no line's end. -/
theorem wordsP_mem (x : Strm) (h1 : 0 ≤ x.sp) (h2 : 0 ≤ x.dp) : ∀ s ∈ wordsP x, ∀ c ∈ s.data.toList, 46 ≤ c.toNat := by
  intro s hs c hc
  unfold wordsP at hs
  simp only [List.mem_cons, List.not_mem_nil, or_false] at hs
  rcases hs with rfl | rfl | rfl | rfl | rfl
  · unfold nameS at hc
    split at hc <;> · simp at hc; rcases hc with rfl | rfl | rfl | rfl <;> decide
  · rw [mk_toList] at hc
    rcases printP_mem _ c hc with rfl | rfl | h | h
    · decide
    · decide
    · omega
    · omega
  · rw [mk_toList] at hc
    rcases printP_mem _ c hc with rfl | rfl | h | h
    · decide
    · decide
    · omega
    · omega
  · rw [decI_list _ h1] at hc
    have := dec_mem _ c hc; omega
  · rw [decI_list _ h2] at hc
    have := dec_mem _ c hc; omega
theorem wordsP_size (x : Strm) (h1 : 0 ≤ x.sp ∧ x.sp ≤ 65535) (h2 : 0 ≤ x.dp ∧ x.dp ≤ 65535) : (lineL (wordsP x)).length ≤ 104 := by
  have l1 := printP_39 x.src
  have l2 := printP_39 x.dst
  have l3 := dec_len5 x.sp.toNat (by omega)
  have l4 := dec_len5 x.dp.toNat (by omega)
  have l0 : (nameS x.fam).data.toList.length = 4 := by unfold nameS; split <;> rfl
  unfold lineL wordsP
  simp only [List.map_cons, List.map_nil]
  rw [join_cons2, join_cons2, join_cons2, join_cons2, Lib.join_one, decI_list _ h1.1, decI_list _ h2.1, mk_toList, mk_toList]
  simp only [List.length_append, List.length_cons, List.length_nil, l0]
  have : frontL.length = 6 := rfl
  omega
theorem lineL_pre (ws : List ByteArray) : lineL ws = (frontL ++ Lib.join (ws.map (·.data.toList)) [32] ++ [13]) ++ [10] := by
  unfold lineL; simp
theorem lineL_front (ws : List ByteArray) : (lineL ws).take 6 = frontL := by
  unfold lineL
  rw [List.append_assoc, show 6 = frontL.length from rfl, List.take_left]
/-- A line that is put is told as it was put. -/
theorem parse1_put (x : Strm) (h : (put1 x).2 = 0) : parse1 ⟨(put1 x).1.toArray⟩ = (x, true) := by
  have h0 : check1 x = 0 := by
    rcases check1_cases x with h1 | h1
    · exact h1
    · unfold put1 at h; rw [if_neg (by omega)] at h; cases h
  by_cases hf : x.fam = 0
  · have hx : x = zeroS := by
      unfold check1 at h0
      split at h0
      · rename_i hb
        unfold ok1 at hb
        rw [if_pos hf] at hb
        simp only [Bool.and_eq_true, beq_iff_eq, Bool.not_eq_true'] at hb
        obtain ⟨⟨⟨⟨h1, h2⟩, h3⟩, h4⟩, h5, h6⟩ := hb
        have e1 : x.src = ⟨#[]⟩ := by
          apply ByteArray.ext; apply Array.toList_inj.1
          rw [← toList_data]; exact List.isEmpty_iff.1 h1
        have e2 : x.dst = ⟨#[]⟩ := by
          apply ByteArray.ext; apply Array.toList_inj.1
          rw [← toList_data]; exact List.isEmpty_iff.1 h2
        have e6 : x.flds = [] := List.eq_nil_of_length_eq_zero (by omega)
        cases x
        simp only [] at *
        unfold zeroS
        rw [hf, e1, e2, h3, h4, h5, e6]
      · cases h0
    subst hx
    unfold parse1
    rw [if_pos (by decide +kernel)]
  · obtain ⟨s1, s2, hp1, hp2, hl, hfl⟩ := check1_zero x h0 hf
    have hsz : x.fam = 1 ∨ x.fam = 2 := by
      unfold sz1 at s1
      split at s1
      · rename_i h; exact .inl h
      · split at s1
        · rename_i h; exact .inr h
        · omega
    have hs4 : (x.src.size = 4 ∨ x.src.size = 16) ∧ (x.dst.size = 4 ∨ x.dst.size = 16) := by
      rcases hsz with h | h <;> rw [h] at s1 s2 <;> unfold sz1 at s1 s2 <;> simp at s1 s2 <;> omega
    have hp : put1 x = (lineL (wordsP x), 0) := by unfold put1; rw [if_pos h0, if_neg hf]
    have hw : words1 ⟨(lineL (wordsP x)).toArray⟩ = wordsP x := lineL_words _ (by unfold wordsP; simp) (by
      intro s hs hc
      have := wordsP_mem x hp1.1 hp2.1 s hs 32 hc
      have h32 : (32 : UInt8).toNat = 32 := rfl
      omega)
    have h84 : (lineL (wordsP x))[6]? = some 84 := by
      have hn : ∃ r, (nameS x.fam).data.toList = 84 :: r := by unfold nameS; split <;> exact ⟨_, rfl⟩
      obtain ⟨r, hr⟩ := hn
      unfold lineL wordsP
      simp only [List.map_cons, List.map_nil]
      rw [join_cons2, hr]
      rfl
    have hu : isUnk ⟨(lineL (wordsP x)).toArray⟩ = false := by
      unfold isUnk
      rw [toList_data, mk_toList]
      have h1 : (lineL (wordsP x) == lineL [unkS]) = false := by
        rw [beq_eq_false_iff_ne]
        intro e
        rw [e] at h84
        exact absurd h84 (by decide)
      have h2 : Lib.hasPrefix (lineL (wordsP x)) unkPre = false := by
        cases hq : Lib.hasPrefix (lineL (wordsP x)) unkPre with
        | false => rfl
        | true =>
          unfold Lib.hasPrefix at hq
          rw [List.isPrefixOf_iff_prefix] at hq
          obtain ⟨r, hr⟩ := hq
          rw [← hr] at h84
          rw [List.getElem?_append_left (by decide)] at h84
          exact absurd h84 (by decide)
      rw [h1, h2]; rfl
    have hst : strmW (wordsP x) = x := by
      unfold strmW wordsP
      simp only [List.getD_cons_zero, List.getD_cons_succ]
      rw [parse_print x.src hs4.1, parse_print x.dst hs4.2, numP_dec x.sp hp1.1 hp1.2, numP_dec x.dp hp2.1 hp2.2]
      have hfn : famN (nameS x.fam) = x.fam := by
        rcases hsz with h | h <;> rw [h] <;> decide +kernel
      rw [hfn]
      cases x
      simp only [] at hl hfl
      subst hl; subst hfl
      rfl
    rw [hp]
    unfold parse1
    rw [if_neg (by rw [hu]; simp), hw, if_neg (by unfold wordsP; simp), hst, hp, toList_data, mk_toList]
    simp
end Go.Proofs.YthcphjmknbiadaaGreatDoor
