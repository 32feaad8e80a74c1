/- The second version: what is put is got back. -/
import Derived.Test.YthcphjmknbiadaaGreatDoorRt3
namespace Go.Proofs.YthcphjmknbiadaaGreatDoor
set_option maxRecDepth 100000
set_option linter.unusedVariables false

theorem fldBytes_cons (f : Int × ByteArray) (l : List (Int × ByteArray)) : fldBytes (f :: l) = be f.1.toNat 1 ++ be f.2.size 2 ++ f.2.data.toList ++ fldBytes l := by
  unfold fldBytes; rw [List.flatMap_cons]
theorem mk_data (a : ByteArray) : (⟨a.data.toList.toArray⟩ : ByteArray) = a := mk_list a
/-- The fields, as they were put, are told one by one. -/
theorem fldR_put (l : List (Int × ByteArray)) (hl : ∀ f ∈ l, fldOk f = true) (post : List UInt8) : ∀ (pre : List UInt8) (st : FSt),
    fldR ⟨(pre ++ fldBytes l ++ post).toArray⟩ pre.length st = fldR ⟨(pre ++ fldBytes l ++ post).toArray⟩ (pre ++ fldBytes l).length { st with acc := st.acc ++ l } := by
  induction l with
  | nil => intro pre st; simp [fldBytes]
  | cons f l ih =>
    intro pre st
    have hf := hl f (by simp)
    obtain ⟨h0, h1, h2, h3⟩ := fldOk_yes f hf
    obtain ⟨t, txt⟩ := f
    simp only [] at h0 h1 h2 h3
    obtain ⟨tn, rfl⟩ := Int.eq_ofNat_of_zero_le h0
    have hb : pre ++ fldBytes ((((tn : Nat) : Int), txt) :: l) ++ post = (pre ++ (be tn 1 ++ be txt.size 2 ++ txt.data.toList)) ++ fldBytes l ++ post := by
      rw [fldBytes_cons]; simp
    have ih2 := ih (fun g hg => hl g (by simp [hg])) (pre ++ (be tn 1 ++ be txt.size 2 ++ txt.data.toList)) { st with acc := st.acc ++ [((tn : Int), txt)] }
    have hlen : (pre ++ (be tn 1 ++ be txt.size 2 ++ txt.data.toList)).length = pre.length + 3 + txt.size := by
      simp only [List.length_append, be_length, len_toList]; omega
    rw [hb]
    have e1 : num ⟨((pre ++ (be tn 1 ++ be txt.size 2 ++ txt.data.toList)) ++ fldBytes l ++ post).toArray⟩ pre.length 1 = tn := by
      have := num_at pre (be txt.size 2 ++ txt.data.toList ++ fldBytes l ++ post) tn 1 pre.length rfl (by omega)
      simpa using this
    have e2 : num ⟨((pre ++ (be tn 1 ++ be txt.size 2 ++ txt.data.toList)) ++ fldBytes l ++ post).toArray⟩ (pre.length + 1) 2 = txt.size := by
      have := num_at (pre ++ be tn 1) (txt.data.toList ++ fldBytes l ++ post) txt.size 2 (pre.length + 1) (by rw [List.length_append, be_length]) (by omega)
      simpa using this
    have e3 : (ByteArray.mk ((pre ++ (be tn 1 ++ be txt.size 2 ++ txt.data.toList)) ++ fldBytes l ++ post).toArray).extract (pre.length + 3) (pre.length + 3 + txt.size) = txt := by
      have := ext_at (pre ++ be tn 1 ++ be txt.size 2) txt.data.toList (fldBytes l ++ post) (pre.length + 3) (pre.length + 3 + txt.size) (by simp only [List.length_append, be_length]) (by rw [len_toList])
      rw [mk_data] at this
      simpa using this
    have hsz : (ByteArray.mk ((pre ++ (be tn 1 ++ be txt.size 2 ++ txt.data.toList)) ++ fldBytes l ++ post).toArray).size = pre.length + 3 + txt.size + (fldBytes l).length + post.length := by
      rw [mk_size, List.length_append, List.length_append, hlen]
    rw [hlen] at ih2
    have htx : ((tn : Nat) : Int) ≠ 3 := h2
    rw [fldR, if_neg (by omega), e1, e2, if_neg (by omega), if_neg (by omega), if_neg (by omega), e3, ih2]
    congr 1
    · simp only [List.length_append, be_length, len_toList, fldBytes_cons]; simp; omega
    · simp
theorem crc_parts (x : Nat) (a b c : List UInt8) : crcParts x [⟨a.toArray⟩, ⟨b.toArray⟩, ⟨c.toArray⟩] = crcParts x [⟨(a ++ b ++ c).toArray⟩] := by
  unfold crcParts crcOver
  simp only [List.foldl_cons, List.foldl_nil, mk_toList, List.foldl_append]
end Go.Proofs.YthcphjmknbiadaaGreatDoor
