/- The second version: what is put is got back; its beginnings need more. -/
import Derived.Test.YthcphjmknbiadaaGreatDoorRt5
namespace Go.Proofs.YthcphjmknbiadaaGreatDoor
set_option maxRecDepth 100000
set_option linter.unusedVariables false

theorem num_take (l : List UInt8) (k a c : Nat) (h : a + c ≤ k) : num ⟨(l.take k).toArray⟩ a c = num ⟨l.toArray⟩ a c := by
  rw [num_mk, num_mk, List.drop_take, List.take_take, Nat.min_eq_left (by omega)]
theorem num_pre (l p : List UInt8) (a c : Nat) (h : a + c ≤ l.length) : num ⟨(l ++ p).toArray⟩ a c = num ⟨l.toArray⟩ a c := by
  have := num_take (l ++ p) l.length a c h
  rw [List.take_left] at this
  exact this.symm
theorem pre16_nums (x : Strm) (f : Fam) (sl : Bool) (hf : f ∈ famL) (hn : (tailL x f sl).length ≤ 65535) (r : List UInt8) :
    num ⟨(pre16 x f sl ++ r).toArray⟩ 12 1 = (if x.loc then 32 else 33) ∧ ((num ⟨(pre16 x f sl ++ r).toArray⟩ 13 1 : Nat) : Int) = f.code ∧ num ⟨(pre16 x f sl ++ r).toArray⟩ 14 2 = (tailL x f sl).length := by
  obtain ⟨_, h0, h1, _, _⟩ := famL_mem hf
  have hs : signL.length = 12 := rfl
  have e1 := num_at signL (be f.code.toNat 1 ++ be (tailL x f sl).length 2 ++ r) (if x.loc then 32 else 33) 1 12 rfl (by split <;> decide)
  have e2 := num_at (signL ++ be (if x.loc then 32 else 33) 1) (be (tailL x f sl).length 2 ++ r) f.code.toNat 1 13 (by rw [List.length_append, be_length]; rfl) (by omega)
  have e3 := num_at (signL ++ be (if x.loc then 32 else 33) 1 ++ be f.code.toNat 1) r (tailL x f sl).length 2 14 (by rw [List.length_append, List.length_append, be_length, be_length]; rfl) (by omega)
  unfold pre16
  refine ⟨?_, ?_, ?_⟩
  · exact Eq.trans (by simp) e1
  · have : num ⟨(signL ++ be (if x.loc then 32 else 33) 1 ++ be f.code.toNat 1 ++ be (tailL x f sl).length 2 ++ r).toArray⟩ 13 1 = f.code.toNat := Eq.trans (by simp) e2
    rw [this]
    omega
  · exact e3
theorem sign_take (r : List UInt8) (k : Nat) : signB ⟨((signL ++ r).take k).toArray⟩ = true := by
  unfold signB
  rw [beq_iff_eq, toList_data, toList_data, Lib.extract_data, Lib.extract_data, mk_toList]
  have : signA.data.toList = signL := rfl
  rw [this]
  simp only [List.drop_zero, Nat.sub_zero]
  rw [mk_size, List.length_take, List.take_take]
  have hs : signL.length = 12 := rfl
  rw [List.take_append_of_le_length (by rw [hs]; omega)]
  rw [List.length_append, hs]
  by_cases h : k ≤ 12
  · congr 1; omega
  · rw [List.take_of_length_le (by rw [hs]; omega), List.take_of_length_le (by rw [hs]; omega)]
theorem text2_pre (x : Strm) (f : Fam) (sl : Bool) : ∃ r, text2 x f sl = pre16 x f sl ++ r ∧ ∃ r2, pre16 x f sl = signL ++ r2 := by
  refine ⟨restHead x f ++ fldBytes x.flds ++ sealS x f sl, by unfold text2; simp, _, by unfold pre16; rw [List.append_assoc, List.append_assoc]⟩
theorem leadR_of (b : ByteArray) (a c n : Nat) (f : Fam) (hs : 16 ≤ b.size) (h1 : num b 12 1 = a) (h2 : num b 13 1 = c) (h3 : num b 14 2 = n) (ha : a / 16 = 2) (ha2 : a % 16 < 2) (hc : famCode c = some f) : leadR b 12 = .ok f n (a % 16 == 0) := by
  unfold leadR
  rw [if_neg (by omega), h1, if_neg (by omega), if_neg (by omega), if_neg (by omega), show 12 + 1 = 13 from rfl, h2, hc]
  simp only []
  rw [if_neg (by omega), h3]
theorem leadR_short (b : ByteArray) (a c : Nat) (f : Fam) (hs : b.size < 16) (h1 : 13 ≤ b.size → num b 12 1 = a) (h2 : 14 ≤ b.size → num b 13 1 = c) (ha : a / 16 = 2) (ha2 : a % 16 < 2) (hc : famCode c = some f) : leadR b 12 = .stop 2 := by
  unfold leadR
  by_cases h13 : b.size < 12 + 1
  · rw [if_pos h13]
  · rw [if_neg h13, h1 (by omega), if_neg (by omega), if_neg (by omega)]
    by_cases h14 : b.size < 12 + 2
    · rw [if_pos h14]
    · rw [if_neg h14, show 12 + 1 = 13 from rfl, h2 (by omega), hc]
      simp only []
      rw [if_pos (by omega)]
theorem lead_text (x : Strm) (f : Fam) (sl : Bool) (hf : f ∈ famL) (hn : (tailL x f sl).length ≤ 65535) (b : ByteArray) (r : List UInt8) (hb : b = ⟨(pre16 x f sl ++ r).toArray⟩) :
    leadR b 12 = .ok f (tailL x f sl).length x.loc := by
  obtain ⟨e1, e2, e3⟩ := pre16_nums x f sl hf hn r
  have hsz : b.size = 16 + r.length := by rw [hb, mk_size, List.length_append, pre16_len]
  rw [← hb] at e1 e2 e3
  have := leadR_of b _ _ _ f (by omega) e1 rfl e3 (by split <;> decide) (by split <;> decide) (by rw [e2]; exact (famL_mem hf).1)
  rw [this]
  congr 1
  cases x.loc <;> rfl
theorem folX_text (x : Strm) (f : Fam) (sl : Bool) (hfo : famOf x.fam = some f) (hm : mayB x f = true) : folX ⟨(text2 x f sl).toArray⟩ f x.loc x.flds = x := by
  obtain ⟨hf, hfn⟩ := famOf_mem hfo
  obtain ⟨_, _, _, hsz, hn0⟩ := famL_mem hf
  obtain ⟨hp1, hp2, hfl, hs, hd⟩ := mayB_yes x f hm
  have hl : x.loc = true → f.n = 0 := by
    intro hl
    unfold mayB lastB at hm
    simp only [Bool.and_eq_true, Bool.or_eq_true, beq_iff_eq, Bool.not_eq_true'] at hm
    rcases hm.2.2 with h | h
    · rw [hl] at h; cases h
    · exact h
  have hfam : (if x.loc = true then 0 else f.n) = x.fam := by
    by_cases h : x.loc = true
    · rw [if_pos h, ← hfn, hl h]
    · rw [if_neg h, hfn]
  unfold folX folX0
  by_cases h0 : 0 < f.size
  · have hlf : x.loc = false := by
      cases h : x.loc with
      | false => rfl
      | true => have := hn0.1 (hl h); omega
    rw [if_pos ⟨hlf, h0⟩]
    obtain ⟨k, hk⟩ : ∃ k : Nat, f.size = k := ⟨f.size.toNat, by omega⟩
    rw [hk] at hs hd
    have hk2 : f.size.toNat = k := by omega
    have hrh : restHead x f = x.src.data.toList ++ x.dst.data.toList ++ be x.sp.toNat 2 ++ be x.dp.toNat 2 := if_pos h0
    have hpl := pre16_len x f sl
    have e1 : (ByteArray.mk (text2 x f sl).toArray).extract 16 (16 + k) = x.src := by
      have := ext_at (pre16 x f sl) x.src.data.toList (x.dst.data.toList ++ be x.sp.toNat 2 ++ be x.dp.toNat 2 ++ fldBytes x.flds ++ sealS x f sl) 16 (16 + k) hpl.symm (by rw [len_toList]; omega)
      rw [mk_data] at this
      rw [← this]; unfold text2; rw [hrh]; simp
    have e2 : (ByteArray.mk (text2 x f sl).toArray).extract (16 + k) (16 + k + k) = x.dst := by
      have := ext_at (pre16 x f sl ++ x.src.data.toList) x.dst.data.toList (be x.sp.toNat 2 ++ be x.dp.toNat 2 ++ fldBytes x.flds ++ sealS x f sl) (16 + k) (16 + k + k) (by rw [List.length_append, hpl, len_toList]; omega) (by rw [len_toList]; omega)
      rw [mk_data] at this
      rw [← this]; unfold text2; rw [hrh]; simp
    have e3 : num ⟨(text2 x f sl).toArray⟩ (16 + k + k) 2 = x.sp.toNat := by
      have := num_at (pre16 x f sl ++ x.src.data.toList ++ x.dst.data.toList) (be x.dp.toNat 2 ++ fldBytes x.flds ++ sealS x f sl) x.sp.toNat 2 (16 + k + k) (by simp only [List.length_append, hpl, len_toList]; omega) (by omega)
      rw [← this]; unfold text2; rw [hrh]; simp
    have e4 : num ⟨(text2 x f sl).toArray⟩ (16 + k + k + 2) 2 = x.dp.toNat := by
      have := num_at (pre16 x f sl ++ x.src.data.toList ++ x.dst.data.toList ++ be x.sp.toNat 2) (fldBytes x.flds ++ sealS x f sl) x.dp.toNat 2 (16 + k + k + 2) (by simp only [List.length_append, hpl, len_toList, be_length]; omega) (by omega)
      rw [← this]; unfold text2; rw [hrh]; simp
    rw [hk2, e1, e2, e3, e4]
    simp only []
    rw [hfam]
    have h1 : ((x.sp.toNat : Nat) : Int) = x.sp := by omega
    have h2 : ((x.dp.toNat : Nat) : Int) = x.dp := by omega
    rw [h1, h2]
  · have hz : f.size = 0 := by omega
    rw [if_neg (by rintro ⟨_, h⟩; omega)]
    simp only []
    rw [hfam]
    have hmost : mostOf f = 0 := by unfold mostOf; rw [if_pos (hn0.2 hz)]
    unfold mayB portOk at hm
    rw [hmost] at hm
    simp only [Bool.and_eq_true, decide_eq_true_eq] at hm
    have e1 : x.src = ⟨#[]⟩ := by
      apply ByteArray.ext; apply Array.toList_inj.1
      apply List.eq_nil_of_length_eq_zero
      rw [len_toList]; omega
    have e2 : x.dst = ⟨#[]⟩ := by
      apply ByteArray.ext; apply Array.toList_inj.1
      apply List.eq_nil_of_length_eq_zero
      rw [len_toList]; omega
    have e3 : x.sp = 0 := by omega
    have e4 : x.dp = 0 := by omega
    cases x
    simp only [] at e1 e2 e3 e4 ⊢
    rw [e1, e2, e3, e4]
theorem getR_text (x : Strm) (f : Fam) (sl : Bool) (hfo : famOf x.fam = some f) (hm : mayB x f = true) (hn : (tailL x f sl).length ≤ 65535) (p : List UInt8) :
    getR ⟨(text2 x f sl ++ p).toArray⟩ = .ok (f, (tailL x f sl).length, x.loc, ⟨x.flds, if sl then (text2 x f sl).length - 4 else 0, if sl then crcSum [⟨(bodyL x f sl).toArray⟩] else 0, false⟩) := by
  obtain ⟨hf, hfn⟩ := famOf_mem hfo
  obtain ⟨r, hr, r2, hr2⟩ := text2_pre x f sl
  have hlen := text2_len x f sl
  have hsz : (ByteArray.mk (text2 x f sl ++ p).toArray).size = 16 + (tailL x f sl).length + p.length := by rw [mk_size, List.length_append, hlen]
  have h1 : signB ⟨(text2 x f sl ++ p).toArray⟩ = true := by
    have := sign_take (r2 ++ r ++ p) (text2 x f sl ++ p).length
    rw [List.take_of_length_le (by rw [hr, hr2]; simp)] at this
    rw [hr, hr2]; simpa using this
  have h2 : leadR ⟨(text2 x f sl ++ p).toArray⟩ 12 = .ok f (tailL x f sl).length x.loc := by
    exact lead_text x f sl hf hn _ (r ++ p) (by rw [hr, List.append_assoc])
  unfold getR
  rw [if_neg (by rw [h1]; simp), if_neg (by omega), h2]
  simp only []
  rw [if_neg (by omega), ← hlen, extract_take, List.take_left, folR_text x f sl hm]
theorem text2_13 (x : Strm) (f : Fam) (sl : Bool) : ∃ r, text2 x f sl = 13 :: r := by
  obtain ⟨r, hr, r2, hr2⟩ := text2_pre x f sl
  rw [hr, hr2]; exact ⟨_, rfl⟩
theorem round2 (x : Strm) (sl : Bool) (h : (put2 x sl).2 = 0) (p : List UInt8) : getH ⟨((put2 x sl).1 ++ p).toArray⟩ = (0, ⟨x, 2, sl⟩, (put2 x sl).1.length) := by
  obtain ⟨f, hfo, hm, hn, ht⟩ := put2_text x sl h
  have hg := getR_text x f sl hfo hm hn p
  obtain ⟨r, hr⟩ := text2_13 x f sl
  have hlen := text2_len x f sl
  rw [ht]
  have h8 : at8 ⟨(text2 x f sl ++ p).toArray⟩ 0 = 13 := by rw [hr, List.cons_append, at8_mk0]; rfl
  have hG : get2H ⟨(text2 x f sl ++ p).toArray⟩ = (0, ⟨x, 2, sl⟩, (text2 x f sl).length) := by
    unfold get2H
    rw [hg]
    simp only []
    rw [← hlen, extract_take, List.take_left, folX_text x f sl hfo hm]
    congr 3
    cases sl with
    | false => rfl
    | true =>
      simp only [if_true]
      rw [decide_eq_true_iff]; omega
  unfold getH
  rw [if_pos h8, hG]
  simp
theorem part2 (x : Strm) (sl : Bool) (h : (put2 x sl).2 = 0) (k : Nat) (hk : k < (put2 x sl).1.length) : (getH ⟨((put2 x sl).1.take k).toArray⟩).1 = 10 := by
  obtain ⟨f, hfo, hm, hn, ht⟩ := put2_text x sl h
  obtain ⟨hf, hfn⟩ := famOf_mem hfo
  rw [ht] at hk ⊢
  have hlen := text2_len x f sl
  obtain ⟨r, hr, r2, hr2⟩ := text2_pre x f sl
  by_cases hk0 : k = 0
  · subst hk0
    rw [List.take_zero]; decide +kernel
  have h8 : at8 ⟨((text2 x f sl).take k).toArray⟩ 0 = 13 := by
    obtain ⟨r, hr⟩ := text2_13 x f sl
    obtain ⟨j, rfl⟩ : ∃ j, k = j + 1 := ⟨k - 1, by omega⟩
    rw [hr, List.take_succ_cons, at8_mk0]; rfl
  have hsz : (ByteArray.mk ((text2 x f sl).take k).toArray).size = k := by rw [mk_size, List.length_take]; omega
  have h1 : signB ⟨((text2 x f sl).take k).toArray⟩ = true := by
    rw [hr, hr2, List.append_assoc]; exact sign_take _ k
  obtain ⟨e1, e2, e3⟩ := pre16_nums x f sl hf hn r
  rw [← hr] at e1 e2 e3
  have hg : getR ⟨((text2 x f sl).take k).toArray⟩ = .error 2 := by
    unfold getR
    rw [if_neg (by rw [h1]; simp), hsz]
    by_cases h12 : k < 12
    · rw [if_pos h12]
    · rw [if_neg h12]
      have n1 : 13 ≤ k → num ⟨((text2 x f sl).take k).toArray⟩ 12 1 = (if x.loc then 32 else 33) := fun h => (num_take _ _ _ _ (by omega)).trans e1
      have n2 : 14 ≤ k → num ⟨((text2 x f sl).take k).toArray⟩ 13 1 = num ⟨(text2 x f sl).toArray⟩ 13 1 := fun h => num_take _ _ _ _ (by omega)
      have n3 : 16 ≤ k → num ⟨((text2 x f sl).take k).toArray⟩ 14 2 = (tailL x f sl).length := fun h => (num_take _ _ _ _ (by omega)).trans e3
      have hc : famCode ((num ⟨(text2 x f sl).toArray⟩ 13 1 : Nat) : Int) = some f := by rw [e2]; exact (famL_mem hf).1
      generalize (ByteArray.mk ((text2 x f sl).take k).toArray) = B at *
      generalize num ⟨(text2 x f sl).toArray⟩ 13 1 = C at *
      by_cases h16 : k < 16
      · rw [leadR_short B _ C f (by omega) (fun h => n1 (by omega)) (fun h => n2 (by omega)) (by split <;> decide) (by split <;> decide) hc]
      · rw [leadR_of B _ C _ f (by omega) (n1 (by omega)) (n2 (by omega)) (n3 (by omega)) (by split <;> decide) (by split <;> decide) hc]
        simp only []
        rw [if_pos (by omega)]
  have hG : (get2H ⟨((text2 x f sl).take k).toArray⟩).1 = 10 := by
    unfold get2H; rw [hg]; rfl
  unfold getH
  rw [if_pos h8, hG]; rfl
end Go.Proofs.YthcphjmknbiadaaGreatDoor
