/- The second version: what is put is got back; its beginnings need more. -/
import Derived.Test.YthcphjmknbiadaaGreatDoorRt4
namespace Go.Proofs.YthcphjmknbiadaaGreatDoor
set_option maxRecDepth 100000
set_option linter.unusedVariables false

def pre16 (x : Strm) (f : Fam) (sl : Bool) : List UInt8 := signL ++ be (if x.loc then 32 else 33) 1 ++ be f.code.toNat 1 ++ be (tailL x f sl).length 2
def sealS (x : Strm) (f : Fam) (sl : Bool) : List UInt8 := if sl then be 3 1 ++ be 4 2 ++ be (crcSum [⟨(bodyL x f sl).toArray⟩]) 4 else []
/-- A header's bytes by the second version. -/
def text2 (x : Strm) (f : Fam) (sl : Bool) : List UInt8 := (pre16 x f sl ++ restHead x f) ++ fldBytes x.flds ++ sealS x f sl
theorem pre16_len (x : Strm) (f : Fam) (sl : Bool) : (pre16 x f sl).length = 16 := by
  unfold pre16 signL; simp [be_length]
theorem crcSum_lt (l : List ByteArray) : crcSum l < 256 ^ 4 := by
  unfold crcSum; have : (256 : Nat) ^ 4 = 4294967296 := by decide
  omega
theorem famL_mem {f : Fam} (h : f ∈ famL) : famCode f.code = some f ∧ 0 ≤ f.code ∧ f.code < 256 ∧ (f.size = 0 ∨ f.size = 4 ∨ f.size = 16) ∧ (f.n = 0 ↔ f.size = 0) := by
  unfold famL at h
  simp only [List.mem_cons, List.not_mem_nil, or_false] at h
  rcases h with rfl | rfl | rfl | rfl | rfl <;> exact ⟨rfl, by decide, by decide, by decide, by decide⟩
theorem famOf_mem {n : Int} {f : Fam} (h : famOf n = some f) : f ∈ famL ∧ f.n = n := by
  unfold famOf at h
  exact ⟨List.mem_of_find?_eq_some h, by have := List.find?_some h; simpa using this⟩
theorem body_eq (x : Strm) (f : Fam) (sl : Bool) : bodyL x f sl = pre16 x f sl ++ tailL x f sl := rfl
theorem put2_text (x : Strm) (sl : Bool) (h : (put2 x sl).2 = 0) : ∃ f, famOf x.fam = some f ∧ mayB x f = true ∧ (tailL x f sl).length ≤ 65535 ∧ (put2 x sl).1 = text2 x f sl := by
  have h0 : check2 x sl = 0 := by
    unfold put2 at h
    by_cases hc : check2 x sl = 0
    · exact hc
    · rw [if_neg hc] at h; exact h
  obtain ⟨f, hfo, hm, hlen⟩ := check2_zero x sl h0
  refine ⟨f, hfo, hm, hlen, ?_⟩
  unfold put2
  rw [if_pos h0, hfo]
  simp only []
  cases sl with
  | false => simp [text2, bodyL, tailL, restL, sealS, pre16]
  | true =>
    simp only [if_true]
    unfold sealedL
    have hb : bodyL x f true = (pre16 x f true ++ restHead x f ++ fldBytes x.flds ++ be 3 1 ++ be 4 2) ++ [0, 0, 0, 0] := by
      rw [body_eq]
      simp [tailL, restL, be]
    have hl : (bodyL x f true).length - 4 = (pre16 x f true ++ restHead x f ++ fldBytes x.flds ++ be 3 1 ++ be 4 2).length := by
      rw [hb, List.length_append]; rfl
    have ht : (bodyL x f true).take ((bodyL x f true).length - 4) = pre16 x f true ++ restHead x f ++ fldBytes x.flds ++ be 3 1 ++ be 4 2 := by
      rw [hl]
      conv => lhs; rw [hb]
      rw [List.take_left]
    rw [ht]
    simp [text2, sealS]
theorem text2_len (x : Strm) (f : Fam) (sl : Bool) : (text2 x f sl).length = 16 + (tailL x f sl).length := by
  unfold text2 tailL restL sealS
  simp only [List.length_append, pre16_len]
  cases sl <;> simp [be_length] <;> omega
theorem restHead_len (x : Strm) (f : Fam) (hs : (x.src.size : Int) = f.size) (hd : (x.dst.size : Int) = f.size) : 16 + (restHead x f).length = folAt f := by
  unfold restHead folAt
  by_cases h : 0 < f.size
  · rw [if_pos h, if_pos h]
    simp only [List.length_append, be_length, len_toList]; omega
  · rw [if_neg h, if_neg h]; rfl
theorem folR_text (x : Strm) (f : Fam) (sl : Bool) (hm : mayB x f = true) : folR ⟨(text2 x f sl).toArray⟩ f = .ok ⟨x.flds, if sl then (text2 x f sl).length - 4 else 0, if sl then crcSum [⟨(bodyL x f sl).toArray⟩] else 0, false⟩ := by
  obtain ⟨hp1, hp2, hfl, hs, hd⟩ := mayB_yes x f hm
  have hall : ∀ g ∈ x.flds, fldOk g = true := by
    unfold mayB at hm
    simp only [Bool.and_eq_true] at hm
    exact fun g hg => List.all_eq_true.1 hm.1.2 g hg
  have hrl := restHead_len x f hs hd
  have hpl := pre16_len x f sl
  have hk : folAt f = (pre16 x f sl ++ restHead x f).length := by rw [List.length_append, hpl, hrl]
  have htl : (text2 x f sl).length = (pre16 x f sl ++ restHead x f ++ fldBytes x.flds).length + (sealS x f sl).length := by unfold text2; rw [List.length_append]
  have hfr : fldR ⟨(text2 x f sl).toArray⟩ (folAt f) ⟨[], 0, 0, false⟩ = some ⟨x.flds, if sl then (text2 x f sl).length - 4 else 0, if sl then crcSum [⟨(bodyL x f sl).toArray⟩] else 0, false⟩ := by
    rw [hk]
    have := fldR_put x.flds hall (sealS x f sl) (pre16 x f sl ++ restHead x f) ⟨[], 0, 0, false⟩
    unfold text2 at htl ⊢
    rw [this]
    simp only [List.nil_append]
    generalize hP : pre16 x f sl ++ restHead x f ++ fldBytes x.flds = P at *
    cases sl with
    | false =>
      have : sealS x f false = [] := rfl
      rw [this, List.append_nil, fldR, if_pos (by rw [mk_size]; exact Nat.le_refl _)]
      rfl
    | true =>
      have hS : sealS x f true = be 3 1 ++ be 4 2 ++ be (crcSum [⟨(bodyL x f true).toArray⟩]) 4 := rfl
      generalize hC : crcSum [⟨(bodyL x f true).toArray⟩] = C at *
      have hC2 : C < 256 ^ 4 := by rw [← hC]; exact crcSum_lt _
      rw [hS] at htl ⊢
      have e1 : num ⟨(P ++ (be 3 1 ++ be 4 2 ++ be C 4)).toArray⟩ P.length 1 = 3 := by
        have := num_at P (be 4 2 ++ be C 4) 3 1 P.length rfl (by decide)
        simpa using this
      have e2 : num ⟨(P ++ (be 3 1 ++ be 4 2 ++ be C 4)).toArray⟩ (P.length + 1) 2 = 4 := by
        have := num_at (P ++ be 3 1) (be C 4) 4 2 (P.length + 1) (by rw [List.length_append, be_length]) (by decide)
        simpa using this
      have e3 : num ⟨(P ++ (be 3 1 ++ be 4 2 ++ be C 4)).toArray⟩ (P.length + 3) 4 = C := by
        have := num_at (P ++ be 3 1 ++ be 4 2) [] C 4 (P.length + 3) (by simp only [List.length_append, be_length]) hC2
        simpa using this
      have hsz : (ByteArray.mk (P ++ (be 3 1 ++ be 4 2 ++ be C 4)).toArray).size = P.length + 7 := by rw [mk_size]; simp only [List.length_append, be_length]
      rw [fldR, if_neg (by omega), if_neg (by omega), e2, if_neg (by omega), e1, if_pos rfl, if_pos rfl, e3, fldR, if_pos (by omega)]
      simp only [if_true]
      congr 2
      simp only [List.length_append, be_length]
      omega
  unfold folR
  rw [if_neg, hfr]
  · simp only [Bool.false_eq_true, if_false]
    rw [if_neg]
    rintro ⟨h1, h2⟩
    apply h2
    cases sl with
    | false => simp at h1
    | true =>
      simp only [if_true] at h1 ⊢
      have hS : sealS x f true = be 3 1 ++ be 4 2 ++ be (crcSum [⟨(bodyL x f true).toArray⟩]) 4 := rfl
      have hT : text2 x f true = (pre16 x f true ++ restHead x f ++ fldBytes x.flds ++ be 3 1 ++ be 4 2) ++ be (crcSum [⟨(bodyL x f true).toArray⟩]) 4 ++ [] := by
        unfold text2; rw [hS]; simp
      have hl4 : (text2 x f true).length - 4 = (pre16 x f true ++ restHead x f ++ fldBytes x.flds ++ be 3 1 ++ be 4 2).length := by
        rw [hT]; simp only [List.length_append, be_length, List.length_nil]; omega
      generalize hP : pre16 x f true ++ restHead x f ++ fldBytes x.flds ++ be 3 1 ++ be 4 2 = P at *
      have hb : bodyL x f true = P ++ [0, 0, 0, 0] := by
        rw [body_eq, ← hP]
        simp [tailL, restL, be]
      generalize hC : crcSum [⟨(bodyL x f true).toArray⟩] = C at *
      have x1 : (ByteArray.mk (text2 x f true).toArray).extract 0 P.length = ⟨P.toArray⟩ := by
        have := ext_at [] P (be C 4) 0 P.length rfl (by simp)
        rw [hT, List.append_nil]; simpa using this
      have x2 : (ByteArray.mk (text2 x f true).toArray).extract (P.length + 4) (ByteArray.mk (text2 x f true).toArray).size = ⟨([] : List UInt8).toArray⟩ := by
        have := ext_at (P ++ be C 4) [] [] (P.length + 4) (P.length + 4) (by rw [List.length_append, be_length]) (by simp)
        rw [mk_size, hT]
        have e : (P ++ be C 4 ++ []).length = P.length + 4 := by simp only [List.length_append, be_length, List.length_nil]
        rw [e]
        simpa using this
      rw [hl4, x1, x2, ← hC, hb]
      unfold crcSum
      have : seal4 = ⟨([0, 0, 0, 0] : List UInt8).toArray⟩ := rfl
      rw [this, crc_parts, List.append_nil]
  · rintro ⟨h1, h2⟩
    rw [mk_size, htl, List.length_append, ← hk] at h2
    unfold folAt at h2
    rw [if_pos h1] at h2
    omega
end Go.Proofs.YthcphjmknbiadaaGreatDoor
