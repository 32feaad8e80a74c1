/- The second version's Check and Put. -/
import Derived.Test.YthcphjmknbiadaaGreatDoorMay
import Derived.Test.YthcphjmknbiadaaGreatDoorCrc
namespace Go.Proofs.YthcphjmknbiadaaGreatDoor
set_option maxRecDepth 100000
set_option linter.unusedVariables false
open Go.RowKit (wrap32 wrap64 intOf)

theorem isn_ok1 (f : Fam) (n : Int) (sb : Nat) (w : World) (h : w.cell? ⟨sb, 1, none⟩ = some (.int .i64 n)) :
    Calls Tryz.prog 91 #[fv f, .pointer (some ⟨sb, 0, none⟩)] w fun e w' => e = .returned (.bool (f.n == n)) ∧ Kp [] w w' := by
  have hlt := World.block_lt_of_cell? _ _ h
  go_enter Tryz.func91, Tryz.ntmps91
  go_wp2
  go_ret
  exact ⟨rfl, (Kp.refl [] w).alloc _⟩
theorem isn_ok2 (f : Fam) (n : Int) (sb : Nat) (w : World) (h : w.cell? ⟨sb, 1, none⟩ = some (.int .i64 n)) :
    Calls Tryz.prog 57 #[fv f, .pointer (some ⟨sb, 0, none⟩)] w fun e w' => e = .returned (.bool (f.n == n)) ∧ Kp [] w w' := by
  have hlt := World.block_lt_of_cell? _ _ h
  go_enter Tryz.func57, Tryz.ntmps57
  go_wp2
  go_ret
  exact ⟨rfl, (Kp.refl [] w).alloc _⟩
theorem iscode_ok (f : Fam) (n : Int) (cb : Nat) (w : World) (h : w.cell? ⟨cb, 0, none⟩ = some (.int .i64 n)) :
    Calls Tryz.prog 100 #[fv f, .pointer (some ⟨cb, 0, none⟩)] w fun e w' => e = .returned (.bool (f.code == n)) ∧ Kp [] w w' := by
  have hlt := World.block_lt_of_cell? _ _ h
  go_enter Tryz.func100, Tryz.ntmps100
  go_wp2
  go_ret
  exact ⟨rfl, (Kp.refl [] w).alloc _⟩

/-- The family of a number. -/
def famOf (n : Int) : Option Fam := famL.find? fun f => f.n == n
/-- Check's answer. -/
def check2 (x : Strm) (sl : Bool) : Int :=
  match famOf x.fam with
  | none => 1
  | some f => if mayB x f then (if (restL x f).length + (if sl then 7 else 0) > 65535 then 4 else 0) else 1

theorem mayB_yes (x : Strm) (f : Fam) (h : mayB x f = true) : (0 ≤ x.sp ∧ x.sp ≤ 65535) ∧ (0 ≤ x.dp ∧ x.dp ≤ 65535) ∧ (∀ fl ∈ x.flds, 0 ≤ fl.1 ∧ fl.1 ≤ 255 ∧ fl.2.size ≤ 65535) ∧ (x.src.size : Int) = f.size ∧ (x.dst.size : Int) = f.size := by
  unfold mayB at h
  simp only [Bool.and_eq_true] at h
  obtain ⟨⟨⟨h1, h2⟩, h3⟩, h4⟩ := h
  have hm : mostOf f ≤ 65535 := by unfold mostOf; split <;> omega
  unfold portOk at h1 h2
  simp only [Bool.and_eq_true, decide_eq_true_eq] at h1 h2
  unfold lastB at h4
  simp only [Bool.and_eq_true, beq_iff_eq] at h4
  refine ⟨⟨h1.1, by omega⟩, ⟨h2.1, by omega⟩, fun fl hm => ?_, h4.1.1, h4.1.2⟩
  obtain ⟨a, b, c, d⟩ := fldOk_yes fl (List.all_eq_true.1 h3 fl hm)
  exact ⟨a, b, by omega⟩
theorem famOf_size (n : Int) (f : Fam) (h : famOf n = some f) : 0 ≤ f.size ∧ f.size ≤ 16 ∧ 0 ≤ f.code ∧ f.code ≤ 255 ∧ f.n = n := by
  have hm := List.mem_of_find?_eq_some h
  have hn := List.find?_some h
  have hn' : f.n = n := by simpa using hn
  simp only [famL, List.mem_cons, List.not_mem_nil, or_false] at hm
  rcases hm with rfl | rfl | rfl | rfl | rfl <;> exact ⟨by decide, by decide, by decide, by decide, hn'⟩
theorem famFind_some (n : Int) (f : Fam) (h : famOf n = some f) : famFind (fun f => f.n == n) = .tuple #[fv f, .bool true] := by
  unfold famFind; unfold famOf at h; rw [h]
theorem famFind_none (n : Int) (h : famOf n = none) : famFind (fun f => f.n == n) = .tuple #[fv ⟨0, 0, 0⟩, .bool false] := by
  unfold famFind; unfold famOf at h; rw [h]

theorem fldBytes_len (l : List (Int × ByteArray)) (h : ∀ fl ∈ l, 0 ≤ fl.1 ∧ fl.1 ≤ 255 ∧ fl.2.size ≤ 65535) : (fldBytes l).length ≤ l.length * 65538 := by
  induction l with
  | nil => simp [fldBytes]
  | cons a l ih =>
    have h1 := ih (fun fl hm => h fl (List.mem_cons_of_mem _ hm))
    have h2 := (h a List.mem_cons_self).2.2
    have h3 : fldBytes (a :: l) = (be a.1.toNat 1 ++ be a.2.size 2 ++ a.2.data.toList) ++ fldBytes l := by simp [fldBytes]
    rw [h3]
    simp [be_length] at *
    omega
theorem restL_len (x : Strm) (f : Fam) (hn : x.flds.length ≤ 1000) (hs : x.src.size ≤ 70000) (hd : x.dst.size ≤ 70000) (h : ∀ fl ∈ x.flds, 0 ≤ fl.1 ∧ fl.1 ≤ 255 ∧ fl.2.size ≤ 65535) : (restL x f).length ≤ 140737488351232 := by
  have h1 := fldBytes_len x.flds h
  unfold restL restHead
  split
  · simp [be_length]; omega
  · simp; omega
theorem check2_ok (x : Strm) (A : Option Addr) (c : Nat) (sl : Bool) (w : World) (hg : GlF w) (hf : FAt w A x.flds) (hn : x.flds.length ≤ 1000) (hs : x.src.size ≤ 140737488351232) (hd : x.dst.size ≤ 140737488351232) :
    Calls Tryz.prog 55 #[sval x A c, .bool sl] w fun e w' => e = .returned (.int .i64 (check2 x sl)) ∧ Kp [] w w' := by
  have hmf : ∀ (fn : Fn) (first cap : Array Value) (w : World), (Instr.makeFunc fn first cap).run Tryz.prog w = .ok (.func fn first cap) w := fun _ _ _ _ => rfl
  have HG := Lib.hid hg
  have HFF := Lib.hid hf
  clear hg hf
  go_enter Tryz.func55, Tryz.ntmps55
  go_wp2_with fail
  have hk0 : Kp [] w (w.alloc (.cells (scells x A c) 24)) := (Kp.refl [] w).alloc _
  have hsb0 := heap_alloc_new w (.cells (scells x A c) 24)
  refine (find_ok 91 #[.pointer (some ⟨w.heap.size, 0, none⟩)] (fun f => f.n == x.fam) _ (HG.out.kp hk0 (by simp)) (fun _ _ => by simp [go_sem]) (fun w1 j k => isn_ok1 _ _ _ _ (by rw [cell_of (k.block hsb0 (by simp)) 1]; rfl))).mono ?_
  rintro e w1 ⟨rfl, k1⟩
  have hk1 : Kp [] w w1 := hk0.trans k1 (by simp)
  have hsb1 := k1.block hsb0 (by simp)
  clear hsb0 k1 hk0
  cases hfo : famOf x.fam with
  | none =>
    have hfin : check2 x sl = 1 := by unfold check2; rw [hfo]
    rw [famFind_none _ hfo]
    have HFI := Lib.hid hfin
    clear hfin hfo
    go_wp2
    go_ret
    exact ⟨by rw [HFI.out]; rfl, hk1.alloc _⟩
  | some f =>
    rw [famFind_some _ _ hfo]
    obtain ⟨z0, z1, z2, z3, z4⟩ := famOf_size _ _ hfo
    have HFO := Lib.hid hfo
    clear hfo z4
    obtain ⟨c0, c1, c2, c3, c4, c5, c6, _⟩ := cells7 hsb1
    have hlt1 := heap_lt hsb1
    go_wp2_with fail
    have hk2 : Kp [] w (w1.alloc (.cells #[.int .i64 f.n, .int .i64 f.code, .int .i64 f.size] 97)) := hk1.alloc _
    have hsb2 := heap_alloc_old hsb1 (.cells #[.int .i64 f.n, .int .i64 f.code, .int .i64 f.size] 97)
    have hfb2 := heap_alloc_new w1 (.cells #[.int .i64 f.n, .int .i64 f.code, .int .i64 f.size] 97)
    refine (may_ok x A c f _ (HFF.out.below hk2 (by simp)) (by omega)).mono ?_
    rintro e w2 ⟨rfl, k2⟩
    have hk3 : Kp [] w w2 := hk2.trans k2 (by simp)
    have hsb3 := k2.block hsb2 (by simp)
    have hfb3 := k2.block hfb2 (by simp)
    clear hk2 hsb2 hfb2 hsb1 k2 c0 c1 c2 c3 c4 c5 c6
    cases hmy : mayB x f with
    | false =>
      have hfin : check2 x sl = 1 := by unfold check2; rw [HFO.out]; simp [hmy]
      have HFI := Lib.hid hfin
      clear hfin hmy
      go_wp2
      go_ret
      exact ⟨by rw [HFI.out]; rfl, hk3⟩
    | true =>
      obtain ⟨m1, m2, m3, m4, m5⟩ := mayB_yes x f hmy
      have HMY := Lib.hid hmy
      clear hmy
      obtain ⟨c0, c1, c2, c3, c4, c5, c6, _⟩ := cells7 hsb3
      obtain ⟨d0, d1, d2, _⟩ := cells3 hfb3
      have hlt3 := heap_lt hsb3
      have M4 := Lib.hid m4
      have M5 := Lib.hid m5
      have M3 := Lib.hid m3
      have q1 : x.src.size ≤ 70000 := by omega
      have q2 : x.dst.size ≤ 70000 := by omega
      clear m3 m4 m5
      go_wp2_with fail
      refine (rest_ok x A c f _ (HFF.out.below hk3 (by simp)) hn q1 q2 m1 m2 M3.out).mono ?_
      rintro e w3 ⟨rfl, k3⟩
      have hkf : Kp [] w w3 := hk3.trans k3 (by simp)
      have hrl : (restL x f).length ≤ 140737488351232 := restL_len x f hn q1 q2 M3.out
      have hsz : (ByteArray.mk (restL x f).toArray).size = (restL x f).length := rfl
      generalize hrr : (ByteArray.mk (restL x f).toArray) = r at *
      have HRR := Lib.hid hrr
      clear hrr c0 c1 c2 c3 c4 c5 c6 d0 d1 d2 hsb3 hfb3
      obtain ⟨L, hL⟩ : ∃ L, L = (restL x f).length := ⟨_, rfl⟩
      rw [← hL] at hsz hrl
      have HLL := Lib.hid hL
      clear hL
      cases sl with
      | true =>
        by_cases hgt : L + 7 > 65535
        · have hfin : check2 x true = 4 := by unfold check2; rw [HFO.out]; simp only [HMY.out, if_true]; rw [if_pos (by rw [← HLL.out]; omega)]
          have HFI := Lib.hid hfin
          have hb : decide ((65535 : Int) < (L : Int) + 7) = true := decide_eq_true (by omega)
          clear hfin hgt
          go_wp2
          go_ret
          exact ⟨by rw [HFI.out]; rfl, hkf⟩
        · have hfin : check2 x true = 0 := by unfold check2; rw [HFO.out]; simp only [HMY.out, if_true]; rw [if_neg (by rw [← HLL.out]; omega)]
          have HFI := Lib.hid hfin
          have hb : decide ((65535 : Int) < (L : Int) + 7) = false := decide_eq_false (by omega)
          clear hfin hgt
          go_wp2
          go_ret
          exact ⟨by rw [HFI.out]; rfl, hkf⟩
      | false =>
        by_cases hgt : 65535 < L
        · have hfin : check2 x false = 4 := by unfold check2; rw [HFO.out]; simp only [HMY.out, if_true, Bool.false_eq_true, if_false]; rw [if_pos (by rw [← HLL.out]; omega)]
          have HFI := Lib.hid hfin
          have hb : decide ((65535 : Int) < L) = true := decide_eq_true (by omega)
          clear hfin hgt
          go_wp2
          go_ret
          exact ⟨by rw [HFI.out]; rfl, hkf⟩
        · have hfin : check2 x false = 0 := by unfold check2; rw [HFO.out]; simp only [HMY.out, if_true, Bool.false_eq_true, if_false]; rw [if_neg (by rw [← HLL.out]; omega)]
          have HFI := Lib.hid hfin
          have hb : decide ((65535 : Int) < L) = false := decide_eq_false (by omega)
          clear hfin hgt
          go_wp2
          go_ret
          exact ⟨by rw [HFI.out]; rfl, hkf⟩
end Go.Proofs.YthcphjmknbiadaaGreatDoor
