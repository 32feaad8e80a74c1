/- The first version, got: vone.Get. -/
import Derived.Test.YthcphjmknbiadaaGreatDoorVget
namespace Go.Proofs.YthcphjmknbiadaaGreatDoor
set_option maxRecDepth 100000
set_option linter.unusedVariables false
open Go.RowKit (wrap32 wrap64 intOf)

def b107 (b : ByteArray) : List UInt8 := b.data.toList.take 107
/-- The first version's header that a text begins with: an error, the header, how long it is. -/
def get1 (b : ByteArray) : Int × Strm × Nat :=
  if (b.data.toList.take 6 == frontL.take b.size) = false then (13, zeroS, 0) else
  if Lib.indexByte (b107 b) 10 < 0 then (if 107 ≤ b.size then 4 else 10, zeroS, 0) else
  if (parse1 (b.extract 0 ((Lib.indexByte (b107 b) 10).toNat + 1))).2 = false then (9, zeroS, 0)
  else (0, (parse1 (b.extract 0 ((Lib.indexByte (b107 b) 10).toNat + 1))).1, (Lib.indexByte (b107 b) 10).toNat + 1)
theorem front_eq (b : ByteArray) (m : Nat) (hm : min b.size 6 = m) : ((b.extract 0 m).toList == ((⟨#[80, 82, 79, 88, 89, 32]⟩ : ByteArray).extract 0 m).toList) = (b.data.toList.take 6 == frontL.take b.size) := by
  have h3 : b.data.toList.length = b.size := by rw [Array.length_toList]; rfl
  have h1 : (b.extract 0 m).toList = b.data.toList.take 6 := by
    rw [Lib.extract_toList]
    simp only [List.drop_zero, Nat.sub_zero]
    by_cases h : m = 6
    · rw [h]
    · rw [List.take_of_length_le (by omega), List.take_of_length_le (by omega)]
  have h2 : ((⟨#[80, 82, 79, 88, 89, 32]⟩ : ByteArray).extract 0 m).toList = frontL.take b.size := by
    rw [Lib.extract_toList]
    show frontL.take m = _
    by_cases h : m = 6
    · rw [h, List.take_of_length_le (by decide), List.take_of_length_le (by show 6 ≤ _; omega)]
    · congr 1; omega
  rw [h1, h2]
theorem b107_eq (b : ByteArray) (m : Nat) (hm : min b.size 107 = m) : (b.extract 0 m).data.toList = b107 b := by
  have h3 : b.data.toList.length = b.size := by rw [Array.length_toList]; rfl
  rw [Lib.extract_data]
  unfold b107
  simp only [List.drop_zero, Nat.sub_zero]
  by_cases h : m = 107
  · rw [h]
  · rw [List.take_of_length_le (by omega), List.take_of_length_le (by omega)]
theorem idx_lt (l : List UInt8) (c : UInt8) : Lib.indexByte l c < l.length ∨ Lib.indexByte l c = -1 := by
  have hge := Lib.indexByte_ge l c
  by_cases h : Lib.indexByte l c = -1
  · exact .inr h
  · obtain ⟨o, ho⟩ : ∃ o : Nat, Lib.indexByte l c = o := ⟨(Lib.indexByte l c).toNat, by omega⟩
    obtain ⟨h1, _⟩ := List.getElem?_eq_some_iff.1 (Lib.indexByte_some ho).1
    exact .inl (by omega)
theorem idx107_lt (b : ByteArray) (m : Nat) (hm : min b.size 107 = m) : Lib.indexByte (b107 b) 10 < m := by
  have h3 : b.data.toList.length = b.size := by rw [Array.length_toList]; rfl
  have hl : (b107 b).length = m := by unfold b107; rw [List.length_take]; omega
  rcases idx_lt (b107 b) 10 with h | h <;> omega
theorem get1v_ok (b : ByteArray) (w : World) (hg : Gl w) (hb : b.size ≤ 1000000) :
    Calls Tryz.prog 28 #[.string b] w fun e w' => e = .returned (.tuple #[sval (get1 b).2.1 none 0, .int .i64 ((get1 b).2.2 : Nat), .int .i64 (get1 b).1]) ∧ Kp [] w w' := by
  have hk1 : Kp [] w (w.alloc (.cells (scells zeroS none 0) 24)) := (Kp.refl [] w).alloc _
  have hx1 := heap_alloc_new w (.cells (scells zeroS none 0) 24)
  have HG := Lib.hid hg
  clear hg
  go_enter Tryz.func28, Tryz.ntmps28
  go_wp2_with fail
  obtain ⟨m, hm⟩ : ∃ m : Nat, min b.size 6 = m := ⟨_, rfl⟩
  have hmi : min ((b.size : Nat) : Int) 6 = (m : Int) := by omega
  have hm1 : m ≤ b.size := by omega
  have hm2 : m ≤ 6 := by omega
  rw [hmi]
  have HM := Lib.hid hm
  clear hmi hm
  have hq := front_eq b m HM.out
  obtain ⟨m2, hm⟩ : ∃ m : Nat, min b.size 107 = m := ⟨_, rfl⟩
  have hmi : min ((b.size : Nat) : Int) 107 = (m2 : Int) := by omega
  have hm3 : m2 ≤ b.size := by omega
  have hm4 : m2 ≤ 107 := by omega
  have HM2 := Lib.hid hm
  have HMI := Lib.hid hmi
  have HK := Lib.hid hk1
  have HX := Lib.hid hx1
  clear hmi hm hk1 hx1
  cases hf : (b.data.toList.take 6 == frontL.take b.size) with
  | false =>
    rw [hf] at hq
    have hr : get1 b = (13, zeroS, 0) := by unfold get1; rw [if_pos hf]
    have HR := Lib.hid hr
    clear hr hf
    go_quiet (fail)
    go_wp2_with fail
    refine ret_cell2 (by rfl) w.heap.size 24 _ (0, 0) _ (heap_alloc_new w _) (by rfl) Tryz.underlying24 rfl (by kernel_rfl) rfl ?_
    exact ⟨by rw [HR.out]; rfl, HK.out.drewN _⟩
  | true =>
    rw [hf] at hq
    go_quiet (fail)
    have hg2 := HG.out.kp (HK.out.drewN nq)
    have HG2 := Lib.hid hg2
    have HK2 := Lib.hid (HK.out.drewN nq)
    have HX2 := Lib.hid HX.out
    obtain ⟨I, hI⟩ : ∃ I, I = Lib.indexByte (b107 b) 10 := ⟨_, rfl⟩
    have hI2 : Lib.indexByte (b.extract 0 m2).data.toList ((10 : Int).toNat.toUInt8) = I := by rw [hI, b107_eq b m2 HM2.out]; rfl
    have hI3 : -1 ≤ I := by rw [hI]; exact Lib.indexByte_ge _ _
    have hI4 : I < m2 := by rw [hI]; exact idx107_lt b m2 HM2.out
    have hcon := fun w => Tryz.strings_IndexByte (b.extract 0 m2) 10 w
    rw [hI2] at hcon
    have HCON := Lib.hid hcon
    have HI := Lib.hid hI
    have HF := Lib.hid hf
    clear hg2 hI2 hcon hI hf
    go_wp2_with fail
    rw [HMI.out, Int.toNat_natCast]
    refine (HCON.out _).mono ?_
    rintro e w2 ⟨rfl, rfl⟩
    by_cases hneg : I < 0
    · obtain rfl : I = -1 := by omega
      by_cases h7 : 107 ≤ b.size
      · have hd : decide ((107 : Int) ≤ (b.size : Int)) = true := by simp; omega
        have hr : get1 b = (4, zeroS, 0) := by unfold get1; rw [if_neg (by rw [HF.out]; simp), if_pos (by rw [← HI.out]; omega), if_pos h7]
        have HR := Lib.hid hr
        clear hr
        go_wp2_with fail
        refine ret_cell2 (by rfl) w.heap.size 24 _ (0, 0) _ (heap_alloc_new w _) (by rfl) Tryz.underlying24 rfl (by kernel_rfl) rfl ?_
        exact ⟨by rw [HR.out]; rfl, HK.out.drewN _⟩
      · have hd : decide ((107 : Int) ≤ (b.size : Int)) = false := by simp; omega
        have hr : get1 b = (10, zeroS, 0) := by unfold get1; rw [if_neg (by rw [HF.out]; simp), if_pos (by rw [← HI.out]; omega), if_neg h7]
        have HR := Lib.hid hr
        clear hr
        go_wp2_with fail
        refine ret_cell2 (by rfl) w.heap.size 24 _ (0, 0) _ (heap_alloc_new w _) (by rfl) Tryz.underlying24 rfl (by kernel_rfl) rfl ?_
        exact ⟨by rw [HR.out]; rfl, HK.out.drewN _⟩
    · obtain ⟨k, rfl⟩ : ∃ k : Nat, I = k := ⟨I.toNat, by omega⟩
      have hb0 : ((k : Int) + 1 == 0) = false := by rw [beq_eq_false_iff_ne]; omega
      go_wp2_with fail
      have hsz : (b.extract 0 (k + 1)).size ≤ 10000 := by rw [ByteArray.size_extract]; omega
      refine (parse1_ok (b.extract 0 (k + 1)) _ HG2.out hsz).mono ?_
      rintro e w3 ⟨rfl, k3⟩
      have x3 := k3.block HX2.out (by simp)
      have hlt := heap_lt x3
      obtain ⟨d0, d1, d2, d3, d4, d5, d6, f0, f1, f2, f3, f4, f5, f6⟩ := cells7 x3
      have X3 := Lib.hid x3
      have K3 := Lib.hid (HK2.out.trans k3 (by simp))
      have hkk : ((k : Int)).toNat = k := by omega
      obtain ⟨R, hR⟩ : ∃ R, R = parse1 (b.extract 0 (k + 1)) := ⟨_, rfl⟩
      rw [← hR]
      have HRR := Lib.hid hR
      clear hR k3 x3
      cases h2 : R.2 with
      | false =>
        have hr : get1 b = (9, zeroS, 0) := by
          unfold get1
          rw [if_neg (by rw [HF.out]; simp), if_neg (by rw [← HI.out]; omega), if_pos (by rw [← HI.out, hkk, ← HRR.out]; exact h2)]
        have HR := Lib.hid hr
        clear hr hkk
        go_wp2_with fail
        refine ret_cell2 (by rfl) w.heap.size 24 _ (0, 0) _ (heap_alloc_old (heap_set (heap_set (heap_set (heap_set (heap_set (heap_set (heap_set X3.out 0 _) 1 _) 2 _) 3 _) 4 _) 5 _) 6 _) _) (by rfl) Tryz.underlying24 rfl (by kernel_rfl) rfl ?_
        exact ⟨by rw [HR.out]; rfl, ((((((((K3.out).setCell _ _ (by right; simp)).setCell _ _ (by right; simp)).setCell _ _ (by right; simp)).setCell _ _ (by right; simp)).setCell _ _ (by right; simp)).setCell _ _ (by right; simp)).setCell _ _ (by right; simp)).alloc _⟩
      | true =>
        have hr : get1 b = (0, R.1, k + 1) := by
          unfold get1
          rw [if_neg (by rw [HF.out]; simp), if_neg (by rw [← HI.out]; omega), if_neg (by rw [← HI.out, hkk, ← HRR.out, h2]; simp), ← HI.out, hkk, ← HRR.out]
        have HR := Lib.hid hr
        clear hr hkk
        go_wp2_with fail
        refine ret_cell2 (by rfl) w.heap.size 24 _ (0, 0) _ (heap_alloc_old (heap_set (heap_set (heap_set (heap_set (heap_set (heap_set (heap_set X3.out 0 _) 1 _) 2 _) 3 _) 4 _) 5 _) 6 _) _) (by rfl) Tryz.underlying24 rfl (by kernel_rfl) rfl ?_
        exact ⟨by rw [HR.out]; rfl, ((((((((K3.out).setCell _ _ (by right; simp)).setCell _ _ (by right; simp)).setCell _ _ (by right; simp)).setCell _ _ (by right; simp)).setCell _ _ (by right; simp)).setCell _ _ (by right; simp)).setCell _ _ (by right; simp)).alloc _⟩
end Go.Proofs.YthcphjmknbiadaaGreatDoor
