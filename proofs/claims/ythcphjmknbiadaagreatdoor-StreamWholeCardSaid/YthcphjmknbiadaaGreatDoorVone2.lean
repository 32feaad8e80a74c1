/- The first version's Put. -/
import Derived.Test.YthcphjmknbiadaaGreatDoorVone
namespace Go.Proofs.YthcphjmknbiadaaGreatDoor
set_option maxRecDepth 100000
set_option linter.unusedVariables false
open Go.RowKit (wrap32 wrap64 intOf)

def decI (n : Int) : ByteArray := ⟨(Lib.itoa n).toArray⟩
def unkS : ByteArray := ⟨#[85, 78, 75, 78, 79, 87, 78]⟩
def nameS (n : Int) : ByteArray := if n = 2 then ⟨#[84, 67, 80, 54]⟩ else ⟨#[84, 67, 80, 52]⟩
def wordsP (x : Strm) : List ByteArray := [nameS x.fam, ⟨(printP x.src).1.toArray⟩, ⟨(printP x.dst).1.toArray⟩, decI x.sp, decI x.dp]
def put1 (x : Strm) : List UInt8 × Int :=
  if check1 x = 0 then (if x.fam = 0 then (lineL [unkS], 0) else (lineL (wordsP x), 0)) else ([], 1)
theorem check1_cases (x : Strm) : check1 x = 0 ∨ check1 x = 1 := by unfold check1; split <;> simp
theorem check1_zero (x : Strm) (h : check1 x = 0) (hf : x.fam ≠ 0) : (x.src.size : Int) = sz1 x.fam ∧ (x.dst.size : Int) = sz1 x.fam ∧ (0 ≤ x.sp ∧ x.sp ≤ 65535) ∧ (0 ≤ x.dp ∧ x.dp ≤ 65535) ∧ x.loc = false ∧ x.flds = [] := by
  unfold check1 at h
  split at h
  · rename_i hb
    unfold ok1 at hb
    rw [if_neg hf] at hb
    simp only [Bool.and_eq_true, beq_iff_eq, portB, decide_eq_true_eq, Bool.not_eq_true'] at hb
    obtain ⟨⟨⟨⟨h1, h2⟩, h3⟩, h4⟩, h5, h6⟩ := hb
    exact ⟨h1, h2, h3, h4, h5, by rw [← List.length_eq_zero_iff]; omega⟩
  · cases h
theorem print4_len (a : ByteArray) : (print4 a).length ≤ 5000 := by
  have := join_bound ((p4s a).map (·.data.toList)) [46] 256 (by
    intro x hx
    simp only [p4s, List.map_map, List.mem_map, List.mem_range, Function.comp] at hx
    obtain ⟨j, _, rfl⟩ := hx
    have := itoa_len (at8 a j)
    have := at8_lt a j
    simp [decS]; omega)
  rw [List.length_map, show (p4s a).length = 4 by simp [p4s]] at this
  exact Nat.le_trans this (by decide)
theorem print6_len (a : ByteArray) : (print6 a).length ≤ 5000 := by
  have hm : ∀ l : List Nat, (∀ x ∈ l, x ∈ n6l a) → l.length ≤ 8 → (joinX l).length ≤ 40 := by
    intro l hl h8
    have := joinX_len l (fun x hx => by
      have := hl x hx
      unfold n6l at this
      rw [List.mem_map] at this
      obtain ⟨j, _, rfl⟩ := this
      exact n6_lt a j)
    omega
  unfold print6
  split
  · exact Nat.le_trans (hm _ (fun _ h => h) (by simp [n6l])) (by decide)
  · have h1 := hm ((n6l a).take (rowTo (n6 a) 8).1) (fun x hx => List.mem_of_mem_take hx) (by simp [n6l]; omega)
    have h2 := hm ((n6l a).drop ((rowTo (n6 a) 8).1 + (rowTo (n6 a) 8).2.1)) (fun x hx => List.mem_of_mem_drop hx) (by simp [n6l])
    simp; omega
theorem printP_len (a : ByteArray) : (printP a).1.length ≤ 5000 := by
  unfold printP
  split
  · exact print4_len a
  split
  · exact print6_len a
  · simp
set_option maxHeartbeats 1000000 in
theorem put1_ok (x : Strm) (A : Option Addr) (c : Nat) (w : World) (hg : Gl w) : Calls Tryz.prog 26 #[sval x A c] w fun e w' => e = .returned (.tuple #[.string ⟨(put1 x).1.toArray⟩, .int .i64 (put1 x).2]) ∧ Kp [] w w' := by
  have hk : Kp [] w (w.alloc (.cells (scells x A c) 24)) := (Kp.refl [] w).alloc _
  have hb := heap_alloc_new w (.cells (scells x A c) 24)
  go_enter Tryz.func26, Tryz.ntmps26
  obtain ⟨c0, c1, c2, c3, c4, c5, c6, _⟩ := cells7 hb
  go_wp2_with fail
  refine (check1_ok x A c _).mono ?_
  rintro e w1 ⟨rfl, k1⟩
  have hb1 := k1.block hb (by simp)
  have hk1 := hk.trans k1 (by simp)
  clear c0 c1 c2 c3 c4 c5 c6 hb hk k1
  rcases check1_cases x with h0 | h1
  · rw [h0]
    obtain ⟨c0, c1, c2, c3, c4, c5, c6, _⟩ := cells7 hb1
    by_cases hf : x.fam = 0
    · have hf0 : (x.fam == 0) = true := by rw [beq_iff_eq]; exact hf
      have hp : put1 x = (lineL [unkS], 0) := by unfold put1; rw [if_pos h0, if_pos hf]
      have HP := Lib.hid hp
      clear hp hf
      go_wp2_with fail
      refine (line_ok [unkS] w1.heap.size 1 _ ?_ (by simp) (by simp) (by simp) ?_).mono ?_
      · intro j y hj
        match j, hj with
        | 0, hj => cases hj; exact cell_of (heap_alloc_new w1 _) 0
      · intro s hs; simp at hs; subst hs; decide
      rintro e w2 ⟨rfl, k2⟩
      go_wp2_with fail
      go_ret2
      exact ⟨by rw [HP.out]; rfl, (hk1.alloc _).trans k2 (by simp)⟩
    · have hf0 : (x.fam == 0) = false := by rw [beq_eq_false_iff_ne]; exact hf
      have hp : put1 x = (lineL (wordsP x), 0) := by unfold put1; rw [if_pos h0, if_neg hf]
      obtain ⟨hs1, hs2, hp1, hp2, _⟩ := check1_zero x h0 hf
      have HP := Lib.hid hp
      have hpl1 := printP_len x.src
      have hpl2 := printP_len x.dst
      have hwords : ∀ s ∈ wordsP x, s.size ≤ 1000000 := by
        intro s hs
        unfold wordsP at hs
        simp only [List.mem_cons, List.not_mem_nil, or_false] at hs
        rcases hs with rfl | rfl | rfl | rfl | rfl
        · unfold nameS; split <;> decide
        · show (printP x.src).1.length ≤ _; omega
        · show (printP x.dst).1.length ≤ _; omega
        · have := itoa_len x.sp.toNat
          rw [Int.toNat_of_nonneg hp1.1] at this
          show (Lib.itoa x.sp).length ≤ _; omega
        · have := itoa_len x.dp.toNat
          rw [Int.toNat_of_nonneg hp2.1] at this
          show (Lib.itoa x.dp).length ≤ _; omega
      have HW := Lib.hid hwords
      have HB := Lib.hid hb1
      have HK := Lib.hid hk1
      have HFN := Lib.hid hf
      clear hwords hp hf hb1 hk1 hs1 hs2
      go_upto_if 22 with fail
      go_cut [5] from 6 (fun s5 wc => s5 = .string (nameS x.fam) ∧ w1 = wc)
      case first =>
        by_cases h2 : x.fam = 2
        · have hb2 : (x.fam == 2) = true := by rw [beq_iff_eq]; exact h2
          go_wp2_with fail
          go_meet
          case rel => exact ⟨by unfold nameS; rw [if_pos h2], rfl⟩
        · have hb2 : (x.fam == 2) = false := by rw [beq_eq_false_iff_ne]; exact h2
          go_wp2_with fail
          go_meet
          case rel => exact ⟨by unfold nameS; rw [if_neg h2], rfl⟩
      case rest =>
        obtain ⟨rfl, rfl⟩ := hcut
        have hg1 := hg.kp HK.out
        obtain ⟨W, hW⟩ : ∃ W, W = w.heap.size := ⟨_, rfl⟩
        rw [← hW] at c0 c1 c2 c3 c4 c5 c6 HB ⊢
        clear hg hW
        go_wp2_with fail
        refine (print_ok x.src _ hg1).mono ?_
        rintro e w2 ⟨rfl, k2⟩
        have d3 := k2.cell c3 (by simp)
        have d4 := k2.cell c4 (by simp)
        have d5 := k2.cell c5 (by simp)
        have hg2 := hg1.kp k2
        have hk2 := Lib.hid (HK.out.trans k2 (by simp))
        clear c0 c1 c2 c3 c4 c5 c6 k2 HK HB hg1
        go_wp2_with fail
        refine (print_ok x.dst _ hg2).mono ?_
        rintro e w3 ⟨rfl, k3⟩
        have e4 := k3.cell d4 (by simp)
        have e5 := k3.cell d5 (by simp)
        have hg3 := hg2.kp k3
        have hk3 := Lib.hid (hk2.out.trans k3 (by simp))
        clear d3 d4 d5 k3 hk2 hg2
        have hj : ∀ n : Int, (0 ≤ n ∧ n ≤ 65535) → ∀ w2, Kp [] w3 w2 → Calls Tryz.prog 52 #[.int .i64 n] w2 fun e w' => e = .returned (.string (decI n)) ∧ Kp [] w3 w' := by
          intro n hn w2 k2
          refine (itoa_ok n (by omega) (by omega) w2 (hg3.kp k2)).mono ?_
          rintro e w' ⟨rfl, k⟩
          exact ⟨rfl, k2.trans k (by simp)⟩
        have HS := Lib.hid (hj x.sp hp1)
        have HD := Lib.hid (hj x.dp hp2)
        have hln : ∀ w5, Kp [] w3 w5 → Calls Tryz.prog 50 #[.slice (some ⟨w5.heap.size, 0, none⟩) 5 5] (w5.alloc (.cells #[.string (nameS x.fam), .string ⟨(printP x.src).1.toArray⟩, .string ⟨(printP x.dst).1.toArray⟩, .string (decI x.sp), .string (decI x.dp)] 9)) fun e w' => e = .returned (.string ⟨(lineL (wordsP x)).toArray⟩) ∧ Kp [] w3 w' := by
          intro w5 k5
          refine (line_ok (wordsP x) w5.heap.size 5 _ ?_ (by simp) (by simp [wordsP]) (by simp [wordsP]) HW.out).mono ?_
          · intro j y hy
            have hb5 := heap_alloc_new w5 (.cells #[.string (nameS x.fam), .string ⟨(printP x.src).1.toArray⟩, .string ⟨(printP x.dst).1.toArray⟩, .string (decI x.sp), .string (decI x.dp)] 9)
            match j, hy with
            | 0, hy => cases hy; exact cell_of hb5 0
            | 1, hy => cases hy; exact cell_of hb5 1
            | 2, hy => cases hy; exact cell_of hb5 2
            | 3, hy => cases hy; exact cell_of hb5 3
            | 4, hy => cases hy; exact cell_of hb5 4
          · rintro e w' ⟨rfl, k⟩
            exact ⟨rfl, (KpF.alloc k5 _).trans k (by simp)⟩
        have HLN := Lib.hid hln
        have k33 : Kp [] w3 w3.drew := KpF.drew (Kp.refl [] w3)
        clear hj hln hpl1 hpl2 hp1 hp2 hg3 h0
        go_wp2_with fail
        go_region_held3 (fun w' => w'.cell? ⟨W, 4, none⟩ = some (.int .i64 x.sp) ∧ w'.cell? ⟨W, 5, none⟩ = some (.int .i64 x.dp)) (go_keep) (first
          | (go_at_call 52; refine (HD.out _ k4).mono ?_; rintro e w5 ⟨rfl, k5⟩; have g4 := k5.cell e4 (by simp); have g5 := k5.cell e5 (by simp))
          | (go_at_call 52; refine (HS.out _ k33).mono ?_; rintro e w4 ⟨rfl, k4⟩; have f4 := k4.cell e4 (by simp); have f5 := k4.cell e5 (by simp))
          | (go_at_call 50; refine (HLN.out _ k5).mono ?_; rintro e w6 ⟨rfl, k6⟩; have i4 := k6.cell e4 (by simp); have i5 := k6.cell e5 (by simp)))
        go_wp2_with fail
        go_ret2
        exact ⟨by rw [HP.out]; rfl, hk3.out.trans k6 (by simp)⟩
  · have h1b : ((1 : Int) == 0) = false := rfl
    have hp : put1 x = ([], 1) := by unfold put1; rw [if_neg (by omega)]
    rw [h1]
    have HP := Lib.hid hp
    clear hp
    go_wp2_with fail
    go_ret2
    exact ⟨by rw [HP.out]; rfl, hk1⟩
end Go.Proofs.YthcphjmknbiadaaGreatDoor
