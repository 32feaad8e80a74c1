/- stream.Get. -/
import Derived.Test.YthcphjmknbiadaaGreatDoorStr
namespace Go.Proofs.YthcphjmknbiadaaGreatDoor
set_option maxRecDepth 100000
set_option linter.unusedVariables false
open Go.RowKit (wrap32 wrap64 intOf)

theorem sget_ok (b : ByteArray) (w : World) (hg : Gl w) (hb : b.size ≤ 1000000) :
    Calls Tryz.prog 10 #[.string b] w fun e w' => GotPost (getH b) w e w' := by
  have hk : Kp [] w (w.alloc (.cells (hcells zeroH none 0) 31)) := (Kp.refl [] w).alloc _
  have hx := heap_alloc_new w (.cells (hcells zeroH none 0) 31)
  have HG := Lib.hid (hg.kp hk)
  have HK := Lib.hid hk
  have HX := Lib.hid hx
  clear hk hg hx
  go_enter Tryz.func10, Tryz.ntmps10
  go_upto_region 2 with fail
  go_cut [17] from 18 (fun s17 wc => s17 = .bool (at8 b 0 == 13) ∧ wc = w.alloc (.cells (hcells zeroH none 0) 31))
  case first =>
    have HB := Lib.hid hb
    cases he : b.toList.isEmpty with
    | true =>
      have h0 := size_empty he
      have h8 : (at8 b 0 == 13) = false := by
        have : b.data.toList = [] := by
          apply List.eq_nil_of_length_eq_zero
          rw [Array.length_toList]; exact h0
        unfold at8; rw [this]; rfl
      have H8 := Lib.hid h8
      clear h0 h8
      go_wp2_with fail
      go_meet
      case rel => exact ⟨by rw [H8.out], rfl⟩
    | false =>
      have h0 := size_nonempty he
      have hpos : 0 < b.size := by omega
      have h8 := at8_get b 0 hpos
      have H8 := Lib.hid h8
      clear h0 h8
      go_wp2_with fail
      go_meet
      case rel =>
        refine ⟨?_, rfl⟩
        rw [H8.out]
        congr 1
        rw [Bool.eq_iff_iff, beq_iff_eq, beq_iff_eq]
        omega
  case rest =>
    obtain ⟨rfl, rfl⟩ := hcut
    by_cases h13 : at8 b 0 = 13
    · have hb13 : (at8 b 0 == 13) = true := by rw [beq_iff_eq]; exact h13
      have hgh : getH b = if (get2H b).1 = 0 then get2H b else ((get2H b).1, zeroH, 0) := by unfold getH; rw [if_pos h13]
      rw [hb13]
      have HGH := Lib.hid hgh
      clear hb13 hgh h13
      go_wp2_with fail
      refine (vers_ok 2 _).mono ?_
      rintro e w1 ⟨rfl, k1⟩
      have hv : versV 2 = (.agg #[.func (.func 29) #[] #[], .func (.func 31) #[] #[]], true) := rfl
      rw [hv]
      have X1 := Lib.hid (k1.block HX.out (by simp))
      have G1 := Lib.hid (HG.out.kp k1)
      have K1 := Lib.hid (HK.out.trans k1 (by simp))
      have hlt1 := heap_lt X1.out
      clear hv k1
      go_wp2_with fail
      refine (get2c_ok b _ (G1.out.kp ((Kp.refl [] w1).alloc _)) hb).mono ?_
      rintro e w2 ⟨k2, A, c, rfl, hf, hlc, hA0⟩
      have X2 := Lib.hid (k2.block (heap_alloc_old X1.out _) (by simp))
      have K2 := Lib.hid ((K1.out.alloc _).trans k2 (by simp))
      have hlt := heap_lt X2.out
      obtain ⟨c0, c1, c2, c3, c4, c5, c6, c7, c8, f0, f1, f2, f3, f4, f5, f6, f7, f8⟩ := cells9 X2.out
      obtain ⟨R, hR⟩ : ∃ R, R = get2H b := ⟨_, rfl⟩
      rw [← hR] at hf hlc ⊢
      have hz := HGH.out
      rw [← hR] at hz
      have hA : ∀ g o, A = some ⟨g, o, none⟩ → w.heap.size < g := fun g o hg => by have := hA0 g o hg; simp at this; omega
      have HA := Lib.hid hA
      have HF := Lib.hid hf
      clear k2 hf hR X1 G1 K1 hlt1 hA hA0
      by_cases h0 : R.1 = 0
      · have hb0 : (R.1 == 0) = true := by rw [beq_iff_eq]; exact h0
        rw [if_pos h0] at hz
        have HZ := Lib.hid hz
        have H0 := Lib.hid h0
        clear hz h0
        go_wp2_with fail
        refine ret_cell2 (by rfl) w.heap.size 31 _ (0, 0) _ (set9_heap X2.out _ _ _ _ _ _ _ _ _ _) (by rfl) Tryz.underlying31 rfl (by kernel_rfl) rfl ?_
        refine ⟨set9_kp K2.out _ (Nat.le_refl _) _ _ _ _ _ _ _ _ _ _, A, c, ?_, ?_, ?_, fun g o hg => by have := HA.out g o hg; omega⟩
        · rw [HZ.out, H0.out]; rfl
        · rw [HZ.out]; exact set9_fat HF.out _ (fun g o hg => HA.out g o hg) _ _ _ _ _ _ _ _ _ _
        · rw [HZ.out]; exact hlc
      · have hb0 : (R.1 == 0) = false := by rw [beq_eq_false_iff_ne]; exact h0
        rw [if_neg h0] at hz
        have HZ := Lib.hid hz
        clear hz h0
        go_wp2_with fail
        refine ret_cell2 (by rfl) w.heap.size 31 _ (0, 0) _ (set9_heap X2.out _ _ _ _ _ _ _ _ _ _) (by rfl) Tryz.underlying31 rfl (by kernel_rfl) rfl ?_
        refine ⟨set9_kp K2.out _ (Nat.le_refl _) _ _ _ _ _ _ _ _ _ _, none, 0, ?_, ?_, ?_, by intro g o h; cases h⟩
        · rw [HZ.out]; rfl
        · rw [HZ.out]; exact fat_nil _
        · rw [HZ.out]; exact Nat.le_refl _
    · have hb13 : (at8 b 0 == 13) = false := by rw [beq_eq_false_iff_ne]; exact h13
      have hgh : getH b = if (get1H b).1 = 0 then get1H b else ((get1H b).1, zeroH, 0) := by unfold getH; rw [if_neg h13]
      rw [hb13]
      have HGH := Lib.hid hgh
      clear hb13 hgh h13
      go_wp2_with fail
      refine (vers_ok 1 _).mono ?_
      rintro e w1 ⟨rfl, k1⟩
      have hv : versV 1 = (.agg #[.func (.func 25) #[] #[], .func (.func 27) #[] #[]], true) := rfl
      rw [hv]
      have X1 := Lib.hid (k1.block HX.out (by simp))
      have G1 := Lib.hid (HG.out.kp k1)
      have K1 := Lib.hid (HK.out.trans k1 (by simp))
      have hlt1 := heap_lt X1.out
      clear hv k1
      go_wp2_with fail
      refine (get1c_ok b _ (G1.out.kp ((Kp.refl [] w1).alloc _)) hb).mono ?_
      rintro e w2 ⟨k2, A, c, rfl, hf, hlc, hA0⟩
      have X2 := Lib.hid (k2.block (heap_alloc_old X1.out _) (by simp))
      have K2 := Lib.hid ((K1.out.alloc _).trans k2 (by simp))
      have hlt := heap_lt X2.out
      obtain ⟨c0, c1, c2, c3, c4, c5, c6, c7, c8, f0, f1, f2, f3, f4, f5, f6, f7, f8⟩ := cells9 X2.out
      obtain ⟨R, hR⟩ : ∃ R, R = get1H b := ⟨_, rfl⟩
      rw [← hR] at hf hlc ⊢
      have hz := HGH.out
      rw [← hR] at hz
      have hA : ∀ g o, A = some ⟨g, o, none⟩ → w.heap.size < g := fun g o hg => by have := hA0 g o hg; simp at this; omega
      have HA := Lib.hid hA
      have HF := Lib.hid hf
      clear k2 hf hR X1 G1 K1 hlt1 hA hA0
      by_cases h0 : R.1 = 0
      · have hb0 : (R.1 == 0) = true := by rw [beq_iff_eq]; exact h0
        rw [if_pos h0] at hz
        have HZ := Lib.hid hz
        have H0 := Lib.hid h0
        clear hz h0
        go_wp2_with fail
        refine ret_cell2 (by rfl) w.heap.size 31 _ (0, 0) _ (set9_heap X2.out _ _ _ _ _ _ _ _ _ _) (by rfl) Tryz.underlying31 rfl (by kernel_rfl) rfl ?_
        refine ⟨set9_kp K2.out _ (Nat.le_refl _) _ _ _ _ _ _ _ _ _ _, A, c, ?_, ?_, ?_, fun g o hg => by have := HA.out g o hg; omega⟩
        · rw [HZ.out, H0.out]; rfl
        · rw [HZ.out]; exact set9_fat HF.out _ (fun g o hg => HA.out g o hg) _ _ _ _ _ _ _ _ _ _
        · rw [HZ.out]; exact hlc
      · have hb0 : (R.1 == 0) = false := by rw [beq_eq_false_iff_ne]; exact h0
        rw [if_neg h0] at hz
        have HZ := Lib.hid hz
        clear hz h0
        go_wp2_with fail
        refine ret_cell2 (by rfl) w.heap.size 31 _ (0, 0) _ (set9_heap X2.out _ _ _ _ _ _ _ _ _ _) (by rfl) Tryz.underlying31 rfl (by kernel_rfl) rfl ?_
        refine ⟨set9_kp K2.out _ (Nat.le_refl _) _ _ _ _ _ _ _ _ _ _, none, 0, ?_, ?_, ?_, by intro g o h; cases h⟩
        · rw [HZ.out]; rfl
        · rw [HZ.out]; exact fat_nil _
        · rw [HZ.out]; exact Nat.le_refl _
end Go.Proofs.YthcphjmknbiadaaGreatDoor
