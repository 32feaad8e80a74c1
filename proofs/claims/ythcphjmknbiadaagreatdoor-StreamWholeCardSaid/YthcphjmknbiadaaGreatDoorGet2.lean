/- The second version's Get. -/
import Derived.Test.YthcphjmknbiadaaGreatDoorFol2
namespace Go.Proofs.YthcphjmknbiadaaGreatDoor
set_option maxRecDepth 100000
set_option linter.unusedVariables false
open Go.RowKit (wrap32 wrap64 intOf)

theorem fldCells_get (l : List (Int × ByteArray)) (j : Nat) (f : Int × ByteArray) (h : l[j]? = some f) : (fldCells l)[0 + j * 2]? = some (.int .i64 f.1) ∧ (fldCells l)[0 + j * 2 + 1]? = some (.string f.2) := by
  induction l generalizing j with
  | nil => cases h
  | cons a l ih =>
    cases j with
    | zero => simp at h; subst h; simp [fldCells]
    | succ j =>
      have := ih j (by simpa using h)
      have e1 : 0 + (j + 1) * 2 = (0 + j * 2) + 2 := by omega
      have e2 : 0 + (j + 1) * 2 + 1 = (0 + j * 2 + 1) + 2 := by omega
      rw [e2, e1]
      simpa [fldCells] using this
theorem own_fat {w : World} {base : Nat} {v : Value} {l : List (Int × ByteArray)} (h : w.ownsRow base 53 2 v l.length (fldCells l)) : ∃ A c, v = .slice A l.length c ∧ FAt w A l ∧ l.length ≤ c ∧ ∀ g o, A = some ⟨g, o, none⟩ → base ≤ g := by
  rcases h.2 with ⟨rfl, h0⟩ | ⟨g, cap, cur, rfl, hbg, hg, hn, _, hs, ht⟩
  · refine ⟨none, 0, by rw [h0], ?_, by omega, by intro g o h; cases h⟩
    intro j f hj
    rw [List.length_eq_zero_iff] at h0
    rw [h0] at hj; cases hj
  · refine ⟨some ⟨g, 0, none⟩, cap, rfl, ?_, hn, by intro g' o h; cases h; exact hbg⟩
    intro j f hj
    have hjl : j < l.length := (List.getElem?_eq_some_iff.1 hj).1
    refine ⟨g, 0, rfl, ?_, ?_⟩
    · rw [cell_of hg, ← Array.getElem?_toList, ← List.getElem?_take_of_lt (show 0 + j * 2 < l.length * 2 by omega), ht]
      exact (fldCells_get l j f hj).1
    · rw [cell_of hg, ← Array.getElem?_toList, ← List.getElem?_take_of_lt (show 0 + j * 2 + 1 < l.length * 2 by omega), ht]
      exact (fldCells_get l j f hj).2
theorem leadR_err {b : ByteArray} {k : Nat} {c : Int} (h : leadR b k = .stop c) : c = 2 ∨ c = 3 ∨ c = 9 ∨ c = 6 := by
  unfold leadR at h
  split at h; · injection h with h; omega
  split at h; · injection h with h; omega
  split at h; · injection h with h; omega
  split at h; · injection h with h; omega
  split at h; · injection h with h; omega
  split at h; · injection h with h; omega
  cases h
theorem getR_err {b : ByteArray} {c : Int} (h : getR b = .error c) : c ≠ 0 ∧ c ≠ 10 := by
  unfold getR at h
  split at h; · injection h with h; omega
  split at h; · injection h with h; omega
  split at h
  · rename_i hl
    injection h with h
    have := leadR_err hl
    omega
  split at h; · injection h with h; omega
  split at h
  · rename_i hl
    injection h with h
    have := folR_err hl
    omega
  cases h
def get2E (c : Int) : Int := if c = 2 then 10 else c
def Get2Post (b : ByteArray) (w : World) (e : Ending) (w' : World) : Prop :=
  Kp [] w w' ∧ match getR b with
  | .error c => e = .returned (.tuple #[sval ⟨false, 0, ⟨#[]⟩, ⟨#[]⟩, 0, 0, []⟩ none 0, .bool false, .int .i64 0, .int .i64 (get2E c)])
  | .ok (f, n, loc, st) => ∃ A c, e = .returned (.tuple #[sval (folX (b.extract 0 (16 + n)) f loc st.acc) A c, .bool (decide (0 < st.sat)), .int .i64 (16 + n : Nat), .int .i64 0]) ∧ FAt w' A st.acc ∧ st.acc.length ≤ c ∧ ∀ g o, A = some ⟨g, o, none⟩ → w.heap.size ≤ g
theorem get2_ok (b : ByteArray) (w : World) (hg : GlF w) (hb : b.size ≤ 1000000) (hw : 0 < w.heap.size) :
    Calls Tryz.prog 32 #[.string b] w fun e w' => Get2Post b w e w' := by
  have hmf : ∀ (fn : Fn) (first cap : Array Value) (w : World), (Instr.makeFunc fn first cap).run Tryz.prog w = .ok (.func fn first cap) w := fun _ _ _ _ => rfl
  have HG := Lib.hid hg
  clear hg
  go_enter Tryz.func32, Tryz.ntmps32
  go_wp2_with fail
  have hk : Kp [] w ((((w.alloc (.cells #[.string b] 9)).alloc (.cells #[.bool false, .int .i64 0, .string ⟨#[]⟩, .string ⟨#[]⟩, .int .i64 0, .int .i64 0, .slice none 0 0] 24)).alloc (.cells #[.bool false, .int .i64 0, .string ⟨#[]⟩, .string ⟨#[]⟩, .int .i64 0, .int .i64 0, .slice none 0 0, .int .i64 0, .int .u32 0] 113)).alloc (.cells #[.int .i64 0] 3)) := ((((Kp.refl [] w).alloc _).alloc _).alloc _).alloc _
  have q0 := heap_alloc_old (alloc3_0 w (.cells #[.string b] 9) (.cells #[.bool false, .int .i64 0, .string ⟨#[]⟩, .string ⟨#[]⟩, .int .i64 0, .int .i64 0, .slice none 0 0] 24) (.cells #[.bool false, .int .i64 0, .string ⟨#[]⟩, .string ⟨#[]⟩, .int .i64 0, .int .i64 0, .slice none 0 0, .int .i64 0, .int .u32 0] 113)) (.cells #[.int .i64 0] 3)
  have q1 := heap_alloc_old (alloc3_1 w (.cells #[.string b] 9) (.cells #[.bool false, .int .i64 0, .string ⟨#[]⟩, .string ⟨#[]⟩, .int .i64 0, .int .i64 0, .slice none 0 0] 24) (.cells #[.bool false, .int .i64 0, .string ⟨#[]⟩, .string ⟨#[]⟩, .int .i64 0, .int .i64 0, .slice none 0 0, .int .i64 0, .int .u32 0] 113)) (.cells #[.int .i64 0] 3)
  have q2 := heap_alloc_old (alloc3_2 w (.cells #[.string b] 9) (.cells #[.bool false, .int .i64 0, .string ⟨#[]⟩, .string ⟨#[]⟩, .int .i64 0, .int .i64 0, .slice none 0 0] 24) (.cells #[.bool false, .int .i64 0, .string ⟨#[]⟩, .string ⟨#[]⟩, .int .i64 0, .int .i64 0, .slice none 0 0, .int .i64 0, .int .u32 0] 113)) (.cells #[.int .i64 0] 3)
  have q3 := heap_alloc_new (((w.alloc (.cells #[.string b] 9)).alloc (.cells #[.bool false, .int .i64 0, .string ⟨#[]⟩, .string ⟨#[]⟩, .int .i64 0, .int .i64 0, .slice none 0 0] 24)).alloc (.cells #[.bool false, .int .i64 0, .string ⟨#[]⟩, .string ⟨#[]⟩, .int .i64 0, .int .i64 0, .slice none 0 0, .int .i64 0, .int .u32 0] 113)) (.cells #[.int .i64 0] 3)
  simp only [World.size_alloc] at q3
  generalize (((w.alloc (.cells #[.string b] 9)).alloc (.cells #[.bool false, .int .i64 0, .string ⟨#[]⟩, .string ⟨#[]⟩, .int .i64 0, .int .i64 0, .slice none 0 0] 24)).alloc (.cells #[.bool false, .int .i64 0, .string ⟨#[]⟩, .string ⟨#[]⟩, .int .i64 0, .int .i64 0, .slice none 0 0, .int .i64 0, .int .u32 0] 113)).alloc (.cells #[.int .i64 0] 3) = w4 at *
  have hg4 := HG.out.kp hk (by simp)
  have hs4 := heap_lt q3
  generalize hW : w.heap.size = W at *
  refine (read_ok 66 _ b w4 (by omega) (fun c w' => c = getC b ∧ KpF (fun i o => i = w4.heap.size + 1 ∨ i = W + 1 + 1 + 1 ∨ i = W + 1 + 1 ∨ (W + 1 + 1 < i ∧ isFld o)) w4 w' ∧ GetIn b (W + 1 + 1) (W + 1 + 1 + 1) w' ∧ w'.heap[w4.heap.size]? = some (.cells #[.int .i64 0] 27 (0, 0))) (fun _ _ => by simp [go_sem]) ?_).mono ?_
  · intro w5 k5 s5 z5 r5
    have hz5 := heap_lt z5
    refine (get1_ok b (w4.heap.size + 1) (W + 1 + 1) (W + 1 + 1 + 1) W w5 (hg4.kp k5 (by simp)) r5 hb (k5.block q2 (by simp)) (k5.block q3 (by simp)) (k5.block q0 (by simp)) (by omega) (by omega) (by omega) (by omega) (by omega) (by omega) (by omega) (by omega)).mono ?_
    rintro e w6 ⟨h6, k6, g6⟩
    refine ⟨_, h6, ?_, rfl, KpF.trans (KpF.mono k5 (by simp)) k6 (fun _ _ _ g => g), g6, ?_⟩ <;> exact k6.keep _ _ z5 (by rintro (g | g | g | ⟨_, g⟩); omega; omega; omega; exact absurd (show (27 : TypeId) = 53 from g) (by decide))
  rintro e w5 ⟨c, w6, ⟨rfl, k6, h6, z6⟩, rfl, k5⟩
  have hk5 : Kp [] w w5 := by
    refine KpF.trans (F := fun i _ => i ∈ ([] : List Nat)) hk (KpF.trans (F := fun i _ => W ≤ i) (KpF.mono k6 ?_) k5 ?_) ?_
    · rintro i o _ (g | g | g | ⟨g, _⟩) <;> omega
    · intro i o _ g; simp at g; omega
    · intro i o h g; omega
  have x1 : w5.heap[W + 1]? = some (.cells #[.bool false, .int .i64 0, .string ⟨#[]⟩, .string ⟨#[]⟩, .int .i64 0, .int .i64 0, .slice none 0 0] 24 (0, 0)) :=
    k5.block (k6.keep _ _ q1 (by rintro (g | g | g | ⟨g, _⟩) <;> omega)) (by simp; omega)
  have X1 := Lib.hid x1
  have K5 := Lib.hid hk5
  have hlt := heap_lt x1
  have hni := there_of x1
  clear q0 q1 q2 q3 hk hg4 k6 x1 hk5
  cases hgr : getR b with
  | error c =>
    have hgc : getC b = c := by unfold getC; rw [hgr]
    rw [hgc]
    have HGR := Lib.hid hgr
    obtain ⟨hc0, _⟩ := getR_err hgr
    obtain ⟨c0, c1, c2, c3, c4, c5, c6, f0, f1, f2, f3, f4, f5, f6⟩ := cells7 X1.out
    clear hgr hgc h6
    have hb0 : ((c : Int) == 0) = false := by rw [beq_eq_false_iff_ne]; omega
    by_cases h2 : c = 2
    · have hb2 : ((c : Int) == 2) = true := by rw [beq_iff_eq]; omega
      go_wp2_with fail
      refine ret_cell3 (by rfl) (W + 1) 24 _ (0, 0) _ (heap_set (heap_set (heap_set (heap_set (heap_set (heap_set (heap_set X1.out 0 _) 1 _) 2 _) 3 _) 4 _) 5 _) 6 _) (by rfl) Tryz.underlying24 rfl (by kernel_rfl) rfl ?_
      refine ⟨(((((((K5.out.setCell _ _ (by right; simp; omega)).setCell _ _ (by right; simp; omega)).setCell _ _ (by right; simp; omega)).setCell _ _ (by right; simp; omega)).setCell _ _ (by right; simp; omega)).setCell _ _ (by right; simp; omega)).setCell _ _ (by right; simp; omega)), ?_⟩
      rw [HGR.out]
      subst h2
      rfl
    · have hb2 : ((c : Int) == 2) = false := by rw [beq_eq_false_iff_ne]; omega
      go_wp2_with fail
      refine ret_cell3 (by rfl) (W + 1) 24 _ (0, 0) _ (heap_set (heap_set (heap_set (heap_set (heap_set (heap_set (heap_set X1.out 0 _) 1 _) 2 _) 3 _) 4 _) 5 _) 6 _) (by rfl) Tryz.underlying24 rfl (by kernel_rfl) rfl ?_
      refine ⟨(((((((K5.out.setCell _ _ (by right; simp; omega)).setCell _ _ (by right; simp; omega)).setCell _ _ (by right; simp; omega)).setCell _ _ (by right; simp; omega)).setCell _ _ (by right; simp; omega)).setCell _ _ (by right; simp; omega)).setCell _ _ (by right; simp; omega)), ?_⟩
      rw [HGR.out]
      show _ = Ending.returned (.tuple #[sval ⟨false, 0, ⟨#[]⟩, ⟨#[]⟩, 0, 0, []⟩ none 0, .bool false, .int .i64 0, .int .i64 (get2E c)])
      rw [show get2E c = c by unfold get2E; rw [if_neg h2]]
      rfl
  | ok r =>
    obtain ⟨f, n, loc, st⟩ := r
    have hgc : getC b = 0 := by unfold getC; rw [hgr]
    rw [hgc]
    unfold GetIn at h6
    rw [hgr] at h6
    obtain ⟨y3, h6⟩ := h6
    have hfr : folR (b.extract 0 (16 + n)) f = .ok st := by
      unfold getR at hgr
      split at hgr; · cases hgr
      split at hgr; · cases hgr
      split at hgr; · cases hgr
      split at hgr; · cases hgr
      split at hgr; · cases hgr
      rename_i hq
      injection hgr with hgr
      injection hgr with g1 hgr; injection hgr with g2 hgr; injection hgr with g3 hgr
      subst g1; subst g2; subst g3; subst hgr; exact hq
    unfold FolIn at h6
    rw [hfr] at h6
    obtain ⟨v, x6, o6⟩ := h6
    have hW6 := heap_lt z6
    have x7 := k5.block x6 (by simp; omega)
    have y7 := k5.block y3 (by simp; omega)
    have o7 := own_kp o6 k5 (by intro i c _ hh; simp; rintro rfl; rw [z6] at hh; injection hh with hh; injection hh with _ hh; exact absurd hh (by decide))
    obtain ⟨A, c, rfl, fa, hac, hA⟩ := own_fat o7
    have HGR := Lib.hid hgr
    have FA := Lib.hid fa
    have cz := cell_of y7 0
    simp only [List.getElem?_toArray, List.getElem?_cons_zero] at cz
    have hfx : folX (b.extract 0 (16 + n)) f loc [] = { folX (b.extract 0 (16 + n)) f loc st.acc with flds := [] } := by unfold folX folX0; split <;> rfl
    obtain ⟨x, hx⟩ : ∃ x, x = folX (b.extract 0 (16 + n)) f loc st.acc := ⟨_, rfl⟩
    rw [hfx, ← hx] at x7
    have hxf : x.flds = st.acc := by rw [hx]; unfold folX folX0; split <;> rfl
    have HXX := Lib.hid hx
    have HXF := Lib.hid hxf
    obtain ⟨a0, a1, a2, a3, a4, a5, a6, a7, a8, _⟩ := cells9 x7
    obtain ⟨c0, c1, c2, c3, c4, c5, c6, f0, f1, f2, f3, f4, f5, f6⟩ := cells7 X1.out
    simp only [] at a0 a1 a2 a3 a4 a5
    obtain ⟨N, hN⟩ : ∃ N : Nat, N = 16 + n := ⟨_, rfl⟩
    rw [← hN] at cz
    have HN := Lib.hid hN
    clear hgr hgc fa o7 o6 x6 y3 y7 z6 hx hxf hfx hN hfr x7
    have hb0 : decide ((0 : Int) < (st.sat : Int)) = decide (0 < st.sat) := by rw [decide_eq_decide]; omega
    obtain ⟨B, hB⟩ : ∃ B, B = decide (0 < st.sat) := ⟨_, rfl⟩
    rw [← hB] at hb0
    have HB := Lib.hid hB
    clear hB
    go_wp2_with fail
    go_region
    have X7 : (((((((w5.setCell ⟨W + 1, 0, none⟩ (.bool x.loc)).setCell ⟨W + 1, 1, none⟩ (.int .i64 x.fam)).setCell ⟨W + 1, 2, none⟩ (.string x.src)).setCell ⟨W + 1, 3, none⟩ (.string x.dst)).setCell ⟨W + 1, 4, none⟩ (.int .i64 x.sp)).setCell ⟨W + 1, 5, none⟩ (.int .i64 x.dp)).setCell ⟨W + 1, 6, none⟩ (.slice A st.acc.length c)).heap[W + 1]? = some (.cells #[.bool x.loc, .int .i64 x.fam, .string x.src, .string x.dst, .int .i64 x.sp, .int .i64 x.dp, .slice A st.acc.length c] 24 (0, 0)) :=
      heap_set (heap_set (heap_set (heap_set (heap_set (heap_set (heap_set X1.out 0 (.bool x.loc)) 1 (.int .i64 x.fam)) 2 (.string x.src)) 3 (.string x.dst)) 4 (.int .i64 x.sp)) 5 (.int .i64 x.dp)) 6 (.slice A st.acc.length c)
    have KK : Kp [] w (((((((w5.setCell ⟨W + 1, 0, none⟩ (.bool x.loc)).setCell ⟨W + 1, 1, none⟩ (.int .i64 x.fam)).setCell ⟨W + 1, 2, none⟩ (.string x.src)).setCell ⟨W + 1, 3, none⟩ (.string x.dst)).setCell ⟨W + 1, 4, none⟩ (.int .i64 x.sp)).setCell ⟨W + 1, 5, none⟩ (.int .i64 x.dp)).setCell ⟨W + 1, 6, none⟩ (.slice A st.acc.length c)) := (((((((K5.out.setCell ⟨W + 1, 0, none⟩ (.bool x.loc) (by right; simp; omega)).setCell ⟨W + 1, 1, none⟩ (.int .i64 x.fam) (by right; simp; omega)).setCell ⟨W + 1, 2, none⟩ (.string x.src) (by right; simp; omega)).setCell ⟨W + 1, 3, none⟩ (.string x.dst) (by right; simp; omega)).setCell ⟨W + 1, 4, none⟩ (.int .i64 x.sp) (by right; simp; omega)).setCell ⟨W + 1, 5, none⟩ (.int .i64 x.dp) (by right; simp; omega)).setCell ⟨W + 1, 6, none⟩ (.slice A st.acc.length c) (by right; simp; omega))
    have FK : FAt (((((((w5.setCell ⟨W + 1, 0, none⟩ (.bool x.loc)).setCell ⟨W + 1, 1, none⟩ (.int .i64 x.fam)).setCell ⟨W + 1, 2, none⟩ (.string x.src)).setCell ⟨W + 1, 3, none⟩ (.string x.dst)).setCell ⟨W + 1, 4, none⟩ (.int .i64 x.sp)).setCell ⟨W + 1, 5, none⟩ (.int .i64 x.dp)).setCell ⟨W + 1, 6, none⟩ (.slice A st.acc.length c)) A st.acc := by
      refine FA.out.kp (F := fun i _ => i = W + 1) ?_ ?_
      · exact (KpF.setCell (KpF.setCell (KpF.setCell (KpF.setCell (KpF.setCell (KpF.setCell (KpF.setCell (KpF.refl _ w5) _ _ (fun _ _ => rfl)) _ _ (fun _ _ => rfl)) _ _ (fun _ _ => rfl)) _ _ (fun _ _ => rfl)) _ _ (fun _ _ => rfl)) _ _ (fun _ _ => rfl)) _ _ (fun _ _ => rfl))
      · intro g o hg _ he
        have := hA g o hg
        omega
    generalize ((((((w5.setCell ⟨W + 1, 0, none⟩ (.bool x.loc)).setCell ⟨W + 1, 1, none⟩ (.int .i64 x.fam)).setCell ⟨W + 1, 2, none⟩ (.string x.src)).setCell ⟨W + 1, 3, none⟩ (.string x.dst)).setCell ⟨W + 1, 4, none⟩ (.int .i64 x.sp)).setCell ⟨W + 1, 5, none⟩ (.int .i64 x.dp)).setCell ⟨W + 1, 6, none⟩ (.slice A st.acc.length c) = w7 at *
    go_wp2
    refine ret_cell3 (by rfl) (W + 1) 24 _ (0, 0) _ X7 (by rfl) Tryz.underlying24 rfl (by kernel_rfl) rfl ?_
    refine ⟨KpF.drew KK, ?_⟩
    rw [HGR.out]
    refine ⟨A, c, ?_, FK, hac, fun g o hg => by have := hA g o hg; have := hW; omega⟩
    rw [← HXX.out, ← HN.out]
    show Ending.returned (.tuple #[.agg #[.bool x.loc, .int .i64 x.fam, .string x.src, .string x.dst, .int .i64 x.sp, .int .i64 x.dp, .slice A st.acc.length c], _, _, _]) = Ending.returned (.tuple #[.agg #[.bool x.loc, .int .i64 x.fam, .string x.src, .string x.dst, .int .i64 x.sp, .int .i64 x.dp, .slice A x.flds.length c], _, _, _])
    rw [HXF.out]
    rfl
end Go.Proofs.YthcphjmknbiadaaGreatDoor
