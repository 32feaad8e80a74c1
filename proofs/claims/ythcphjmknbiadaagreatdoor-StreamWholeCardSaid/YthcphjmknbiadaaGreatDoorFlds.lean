/- The second version's fields, read. -/
import Derived.Test.YthcphjmknbiadaaGreatDoorLead
import Derived.Deep.RegionLaw
import Derived.Deep.AppendLies
import Derived.Laws.OwnMore
namespace Go.Proofs.YthcphjmknbiadaaGreatDoor
set_option maxRecDepth 100000
set_option linter.unusedVariables false
open Go.RowKit (wrap32 wrap64 intOf)

structure FSt where
  acc : List (Int × ByteArray)
  sat : Nat
  sn : Nat
  tw : Bool
/-- What the fields from `k` on come to; nothing: a length is wrong. -/
def fldR (b : ByteArray) (k : Nat) (st : FSt) : Option FSt :=
  if b.size ≤ k then some st else
  if b.size < k + 3 then none else
  if b.size < k + 3 + num b (k + 1) 2 then none else
  if num b k 1 = 3 then
    (if num b (k + 1) 2 = 4 then fldR b (k + 3 + 4) { st with sat := k + 3, sn := num b (k + 3) 4, tw := st.tw || decide (0 < st.sat) } else none)
  else fldR b (k + 3 + num b (k + 1) 2) { st with acc := st.acc ++ [((num b k 1 : Int), b.extract (k + 3) (k + 3 + num b (k + 1) 2))] }
termination_by b.size - k

def isFld : Obj → Prop
  | .cells _ e _ => e = 53
  | _ => False
/-- All stays but the reader, what was read, and rows of fields that came behind it. -/
abbrev KpX (rb xb : Nat) (w w' : World) : Prop := KpF (fun i o => i = rb ∨ i = xb ∨ (xb < i ∧ isFld o)) w w'
theorem KpX.trans {rb xb : Nat} {a b c : World} (h : KpX rb xb a b) (k : KpX rb xb b c) : KpX rb xb a c := KpF.trans h k (fun _ _ _ g => g)
theorem KpX.of_kp {rb xb : Nat} {a b : World} {l : List Nat} (k : Kp l a b) (hl : ∀ i, i ∈ l → i = rb ∨ i = xb) : KpX rb xb a b := KpF.mono k (fun i _ _ g => by rcases hl i g with h | h; exact .inl h; exact .inr (.inl h))
def fldCells (l : List (Int × ByteArray)) : List Value := l.flatMap fun f => [.int .i64 f.1, .string f.2]
theorem fldCells_snoc (l : List (Int × ByteArray)) (a : Int) (s : ByteArray) : fldCells (l ++ [(a, s)]) = fldCells l ++ [.int .i64 a, .string s] := by simp [fldCells]
theorem fldCells_length (l : List (Int × ByteArray)) : (fldCells l).length = l.length * 2 := by
  induction l with
  | nil => rfl
  | cons a l ih => simp [fldCells] at *; omega
theorem new2 (w : World) (a b : Value) (T : TypeId) : ∀ (j : Nat) (u : Value), [a, b][j]? = some u → (w.alloc (.cells #[a, b] T)).cell? ((⟨w.heap.size, 0, none⟩ : Addr).add j) = some u := by
  intro j u hj
  have hc := cell_of (heap_alloc_new w (.cells #[a, b] T))
  match j, hj with
  | 0, hj => simp at hj; subst hj; exact hc 0
  | 1, hj => simp at hj; subst hj; simp only [Addr.add_mid]; exact hc 1
theorem info_fld : (Tryz.prog.info? 53).map (fun i => (i.zero, i.size, i.bytes)) = some (some (.agg #[.int .i64 0, .string ⟨#[]⟩]), 2, 24) := by kernel_rfl
theorem own_kp {F : Nat → Obj → Prop} {w w' : World} {base : Nat} {e : TypeId} {n m : Nat} {v : Value} {xs : List Value} (h : w.ownsRow base e n v m xs) (k : KpF F w w') (hn : ∀ i c, base ≤ i → w.heap[i]? = some (.cells c e (0, 0)) → ¬ F i (.cells c e (0, 0))) : w'.ownsRow base e n v m xs := by
  refine ⟨h.1, ?_⟩
  rcases h.2 with h2 | ⟨g, cap, cur, hv, hb, hh, r⟩
  · exact .inl h2
  · exact .inr ⟨g, cap, cur, hv, hb, k.block hh (hn g cur hb hh), r⟩

theorem IsRd.kp {l : List Nat} {w w' : World} {b : Nat} {s : ByteArray} {k : Nat} (h : IsRd w b s k) (kp : Kp l w w') (hn : b ∉ l) : IsRd w' b s k := ⟨kp.block h.1 hn, h.2⟩
theorem left_kp (b : Nat) (s : ByteArray) (k : Nat) (w : World) (h : IsRd w b s k) :
    Calls Tryz.prog 98 #[.pointer (some ⟨b, 0, none⟩)] w fun e w' => e = .returned (.int .i64 (s.size - k)) ∧ Kp [] w w' :=
  (left_ok b s k w h).mono (by rintro e w' ⟨rfl, n, rfl⟩; exact ⟨rfl, (Kp.refl [] w).drewN n⟩)
theorem own_rd {w w' : World} {rb base n m k : Nat} {s : ByteArray} {v : Value} {xs : List Value} (h : w.ownsRow base 53 n v m xs) (kp : Kp [rb] w w') (hr : IsRd w rb s k) : w'.ownsRow base 53 n v m xs :=
  own_kp h kp (by intro i c _ hh; simp; rintro rfl; rw [hr.1] at hh; injection hh with hh; injection hh with _ hh; exact absurd hh (by decide))
def FldsPost (rb xb : Nat) (b : ByteArray) (x : Strm) (w : World) (r : Option FSt) (e : Ending) (w' : World) : Prop :=
  match r with
  | none => e = stopped 4 ∧ KpX rb xb w w'
  | some st => (if st.tw then e = stopped 12 else e = .returned (.tuple #[])) ∧ KpX rb xb w w' ∧ IsRd w' rb b b.size ∧
      ∃ v, w'.heap[xb]? = some (.cells (xcells x v st.sat st.sn) 113 (0, 0)) ∧ w'.ownsRow (xb + 1) 53 2 v st.acc.length (fldCells st.acc)

def atOf (b : Nat) (w : World) : Nat := match w.cell? ⟨b, 1, none⟩ with | some (.int _ n) => n.toNat | _ => 0
theorem atOf_rd {w : World} {b : Nat} {s : ByteArray} {k : Nat} (h : IsRd w b s k) : atOf b w = k := by
  unfold atOf; rw [h.c1]; simp

theorem grow_keep {w w' : World} {xb n m : Nat} {v : Value} {xs : List Value} {o : Obj} {e : TypeId} (ho : w.ownsRow (xb + 1) e n v m xs) (hg : w.grownBy w' v.ownBlock) {i : Nat} (hi : i ≤ xb) (hx : w.heap[i]? = some o) : w'.heap[i]? = some o := by
  rw [hg.block i (heap_lt hx) (fun e => by have := (ho.lt i e.symm).1; omega)]; exact hx
theorem grow_kp {w w' : World} {rb xb n m : Nat} {v : Value} {xs : List Value} (ho : w.ownsRow (xb + 1) 53 n v m xs) (hg : w.grownBy w' v.ownBlock) : KpX rb xb w w' := by
  refine ⟨hg.os, hg.tape, hg.output, hg.size, fun i o hi hn => ?_⟩
  by_cases hv : some i = v.ownBlock
  · exfalso
    refine hn (.inr (.inr ⟨by have := (ho.lt i hv.symm).1; omega, ?_⟩))
    rcases ho.2 with ⟨rfl, _⟩ | ⟨g, cap, cur, rfl, _, hh, _⟩
    · simp [Value.ownBlock] at hv
    · have : i = g := by simpa [Value.ownBlock] using hv
      subst this
      rw [hh] at hi
      injection hi with hi
      subst hi
      rfl
  · rw [hg.block i (heap_lt hi) hv]; exact hi
theorem grow_other {w w' : World} {xb n m b : Nat} {v : Value} {xs : List Value} {c : Array Value} {T : TypeId} (ho : w.ownsRow (xb + 1) 53 n v m xs) (hg : w.grownBy w' v.ownBlock) (hb : w.heap[b]? = some (.cells c T (0, 0))) (hT : T ≠ 53) : w'.heap[b]? = some (.cells c T (0, 0)) := by
  rw [hg.block b (heap_lt hb) (fun hv => by
    rcases ho.2 with ⟨rfl, _⟩ | ⟨g, cap, cur, rfl, _, hh, _⟩
    · simp [Value.ownBlock] at hv
    · have : b = g := by simpa [Value.ownBlock] using hv
      subst this
      rw [hh] at hb
      injection hb with hb
      injection hb with _ hb
      exact hT hb.symm)]; exact hb
set_option maxHeartbeats 2000000 in
theorem fields_ok (b : ByteArray) (k0 rb xb : Nat) (x : Strm) (v0 : Value) (st0 : FSt) (w : World) (hr : IsRd w rb b k0) (hx : w.heap[xb]? = some (.cells (xcells x v0 st0.sat st0.sn) 113 (0, 0)))
    (ho : w.ownsRow (xb + 1) 53 2 v0 st0.acc.length (fldCells st0.acc)) (hacc : st0.acc.length ≤ k0) (htw : st0.tw = false) (hb : b.size ≤ 1000000) (hne : rb ≠ xb) :
    Calls Tryz.prog 103 #[.pointer (some ⟨xb, 0, none⟩), .pointer (some ⟨rb, 0, none⟩)] w fun e w' => FldsPost rb xb b x w (fldR b k0 st0) e w' := by
  obtain ⟨i0, hi, hz0, hz1, hz2⟩ := info_parts info_fld
  generalize hR : fldR b k0 st0 = R
  have HR := Lib.hid hR
  clear hR
  go_enter Tryz.func103, Tryz.ntmps103
  go_wp2_with fail
  go_loopw [4] (fun t wr => ∃ (k : Nat) (st : FSt) (v : Value), t = .bool st.tw ∧ IsRd wr rb b k ∧ wr.heap[xb]? = some (.cells (xcells x v st.sat st.sn) 113 (0, 0)) ∧ wr.ownsRow (xb + 1) 53 2 v st.acc.length (fldCells st.acc) ∧ st.acc.length ≤ k ∧ KpX rb xb w wr ∧ fldR b k st = R) (fun _ wr => b.size - atOf rb wr)
  case atStart => exact ⟨k0, st0, v0, by rw [htw], hr, hx, ho, hacc, KpF.refl _ _, HR.out⟩
  case round =>
    obtain ⟨k, st, v, rfl, hr, hx, ho, hacc, hk, hst⟩ := hrel
    have HO := Lib.hid ho
    have HX := Lib.hid hx
    have HK := Lib.hid hk
    have HST := Lib.hid hst
    have hka := atOf_rd hr
    have HKA := Lib.hid hka
    clear ho hx hk hst hka
    have hks := hr.2.1
    go_wp2_with fail
    refine (left_kp rb b k _ hr).mono ?_
    rintro e w1 ⟨rfl, k1⟩
    have r1 := hr.kp k1 (by simp)
    have X1 := Lib.hid (k1.block HX.out (by simp))
    have O1 := Lib.hid (own_kp HO.out k1 (by simp))
    have K1 := Lib.hid (HK.out.trans (KpX.of_kp k1 (by simp)))
    clear k1 hr HX HO HK
    by_cases hz : b.size = k
    · have hb0 : decide ((0 : Int) < (b.size : Int) - k) = false := decide_eq_false (by omega)
      have hR2 : R = some st := by rw [← HST.out, fldR, if_pos (by omega)]
      subst hz
      cases htw2 : st.tw with
      | true =>
        have HX2 : FldsPost rb xb b x w R (stopped 12) w1 := by rw [hR2]; exact ⟨by rw [htw2]; rfl, K1.out, r1, v, X1.out, O1.out⟩
        clear hR2 r1
        go_wp2_with fail
        refine (need_no _ _ _).mono ?_
        rintro e w2 ⟨rfl, rfl⟩
        exact ⟨rfl, HX2⟩
      | false =>
        have HX2 : FldsPost rb xb b x w R (.returned (.tuple #[])) w1 := by rw [hR2]; exact ⟨by rw [htw2]; rfl, K1.out, r1, v, X1.out, O1.out⟩
        have HX3 := Lib.hid HX2
        clear hR2 r1 HX2
        go_wp2_with fail
        refine (need_yes _ _ _).mono ?_
        rintro e w2 ⟨rfl, rfl⟩
        go_wp2
        go_end0
        exact HX3.out
    have hb0 : decide ((0 : Int) < (b.size : Int) - k) = true := decide_eq_true (by omega)
    go_wp2_with fail
    refine (left_kp rb b k _ r1).mono ?_
    rintro e w2 ⟨rfl, k2⟩
    have r2 := r1.kp k2 (by simp)
    have X2 := Lib.hid (k2.block X1.out (by simp))
    have O2 := Lib.hid (own_kp O1.out k2 (by simp))
    have K2 := Lib.hid (K1.out.trans (KpX.of_kp k2 (by simp)))
    clear k2 r1 X1 O1 K1 hb0
    by_cases h3 : b.size < k + 3
    · have hR2 : R = none := by rw [← HST.out, fldR, if_neg (by omega), if_pos h3]
      have hb1 : decide ((3 : Int) ≤ (b.size : Int) - k) = false := decide_eq_false (by omega)
      have HX2 : FldsPost rb xb b x w R (stopped 4) w2 := by rw [hR2]; exact ⟨rfl, K2.out⟩
      clear hR2 r2
      go_wp2_with fail
      refine (need_no _ _ _).mono ?_
      rintro e w3 ⟨rfl, rfl⟩
      exact ⟨rfl, HX2⟩
    have hb1 : decide ((3 : Int) ≤ (b.size : Int) - k) = true := decide_eq_true (by omega)
    go_wp2_with fail
    refine (need_yes _ _ _).mono ?_
    rintro e w3 ⟨rfl, rfl⟩
    clear hb1
    go_wp2_with fail
    refine (u8_ok rb b k _ r2 (by omega)).mono ?_
    rintro e w3 ⟨rfl, k3, r3⟩
    have X3 := Lib.hid (k3.block X2.out (by simpa using hne.symm))
    have O3 := Lib.hid (own_rd O2.out k3 r2)
    have K3 := Lib.hid (K2.out.trans (KpX.of_kp k3 (by simp)))
    clear k3 r2 X2 O2 K2
    go_wp2_with fail
    refine (u16_ok rb b (k + 1) _ r3 (by omega)).mono ?_
    rintro e w4 ⟨rfl, k4, r4⟩
    have X4 := Lib.hid (k4.block X3.out (by simpa using hne.symm))
    have O4 := Lib.hid (own_rd O3.out k4 r3)
    have K4 := Lib.hid (K3.out.trans (KpX.of_kp k4 (by simp)))
    clear k4 r3 X3 O3 K3
    have r4 : IsRd w4 rb b (k + 3) := r4
    have hc8 := num_lt b k 1
    have hn16 := num_lt b (k + 1) 2
    obtain ⟨C, hC⟩ : ∃ C, C = num b k 1 := ⟨_, rfl⟩
    obtain ⟨N, hN⟩ : ∃ N, N = num b (k + 1) 2 := ⟨_, rfl⟩
    rw [← hC, ← hN]
    rw [← hC] at hc8
    rw [← hN] at hn16
    have HC := Lib.hid hC
    have HN := Lib.hid hN
    clear hC hN
    go_wp2_with fail
    refine (left_kp rb b (k + 3) _ r4).mono ?_
    rintro e w5 ⟨rfl, k5⟩
    have r5 := r4.kp k5 (by simp)
    have X5 := Lib.hid (k5.block X4.out (by simp))
    have O5 := Lib.hid (own_kp O4.out k5 (by simp))
    have K5 := Lib.hid (K4.out.trans (KpX.of_kp k5 (by simp)))
    clear k5 r4 X4 O4 K4
    by_cases h4 : b.size < k + 3 + N
    · have hR2 : R = none := by rw [← HST.out, fldR, if_neg (by omega), if_neg h3, ← HN.out, if_pos h4]
      have hb1 : decide ((N : Int) ≤ (b.size : Int) - ((k : Int) + 3)) = false := decide_eq_false (by omega)
      have HX2 : FldsPost rb xb b x w R (stopped 4) w5 := by rw [hR2]; exact ⟨rfl, K5.out⟩
      clear hR2 r5
      go_wp2_with fail
      refine (need_no _ _ _).mono ?_
      rintro e w6 ⟨rfl, rfl⟩
      exact ⟨rfl, HX2⟩
    have hb1 : decide ((N : Int) ≤ (b.size : Int) - ((k : Int) + 3)) = true := decide_eq_true (by omega)
    go_wp2_with fail
    refine (need_yes _ _ _).mono ?_
    rintro e w6 ⟨rfl, rfl⟩
    clear hb1
    by_cases h5 : C = 3
    · have h5b : ((C : Int) == 3) = true := by rw [beq_iff_eq]; omega
      by_cases h6 : N = 4
      · have h6b : ((N : Int) == 4) = true := by rw [beq_iff_eq]; omega
        have hR2 : fldR b (k + 3 + 4) { st with sat := k + 3, sn := num b (k + 3) 4, tw := st.tw || decide (0 < st.sat) } = R := by
          have := HST.out
          rw [fldR, if_neg (by omega), if_neg h3, ← HN.out, if_neg h4, ← HC.out, if_pos h5, if_pos h6] at this
          exact this
        have HR2 := Lib.hid hR2
        clear hR2
        go_wp2_with fail
        refine (need_yes _ _ _).mono ?_
        rintro e w6 ⟨rfl, rfl⟩
        clear h5b h6b
        obtain ⟨c0, c1, c2, c3, c4, c5, c6, c7, c8, f0, f1, f2, f3, f4, f5, f6, f7, f8⟩ := cells9 X5.out
        clear c0 c1 c2 c3 c4 c5 c6 c8 f0 f1 f2 f3 f4 f5 f6 f8
        cases htw3 : st.tw with
        | true =>
          have HTW := Lib.hid htw3
          clear htw3
          go_wp2_with fail
          refine (at_ok rb b (k + 3) _ r5).mono ?_
          rintro e w6 ⟨rfl, rfl⟩
          go_wp2_with fail
          have r6 : IsRd (w5.setCell ⟨xb, 7, none⟩ (.int .i64 ((k + 3 : Nat) : Int))) rb b (k + 3) := ⟨heap_set_other r5.1 (by simpa using hne.symm) _, r5.2⟩
          have X6 := Lib.hid (heap_set X5.out 7 (.int .i64 ((k + 3 : Nat) : Int)))
          have O6 := Lib.hid (Go.RowKit.ownsRow_setCell_below O5.out (a := ⟨xb, 7, none⟩) (by simp) (.int .i64 ((k + 3 : Nat) : Int)))
          have K6 := Lib.hid (K5.out.setCell ⟨xb, 7, none⟩ (.int .i64 ((k + 3 : Nat) : Int)) (fun _ _ => .inr (.inl rfl)))
          rw [show ((k : Int) + 3) = ((k + 3 : Nat) : Int) from by omega]
          generalize w5.setCell ⟨xb, 7, none⟩ (.int .i64 ((k + 3 : Nat) : Int)) = w6 at *
          refine (u32_ok rb b (k + 3) _ r6 (by omega)).mono ?_
          rintro e w7 ⟨rfl, k7, r7⟩
          have X7 := Lib.hid (k7.block X6.out (by simpa using hne.symm))
          have O7 := Lib.hid (own_rd O6.out k7 r6)
          have K7 : Go.RowKit.Hid (KpX rb xb w w7) := Lib.hid (KpX.trans K6.out (KpX.of_kp k7 (by simp)))
          clear k7 r6 X6 O6 K6 c7 f7
          obtain ⟨c0, c1, c2, c3, c4, c5, c6, c7, c8, f0, f1, f2, f3, f4, f5, f6, f7, f8⟩ := cells9 X7.out
          clear c0 c1 c2 c3 c4 c5 c6 c7 f0 f1 f2 f3 f4 f5 f6 f7
          have R8 := Lib.hid (⟨heap_set_other r7.1 (p := ⟨xb, 8, none⟩) (by simpa using hne.symm) (.int .u32 (num b (k + 3) 4 : Nat)), r7.2⟩ : IsRd _ rb b (k + 3 + 4))
          have X8 := Lib.hid (heap_set X7.out 8 (.int .u32 (num b (k + 3) 4 : Nat)))
          have O8 := Lib.hid (Go.RowKit.ownsRow_setCell_below O7.out (a := ⟨xb, 8, none⟩) (by simp) (.int .u32 (num b (k + 3) 4 : Nat)))
          have K8 := Lib.hid (K7.out.setCell ⟨xb, 8, none⟩ (.int .u32 (num b (k + 3) 4 : Nat)) (fun _ _ => .inr (.inl rfl)))
          clear r7
          go_wp2_with fail
          go_roundw
          case rel => exact ⟨k + 3 + 4, { st with sat := k + 3, sn := num b (k + 3) 4, tw := st.tw || decide (0 < st.sat) }, v, by show _ = Value.bool (st.tw || decide (0 < st.sat)); rw [HTW.out]; simp, R8.out, X8.out, O8.out, by show st.acc.length ≤ _; omega, K8.out, HR2.out⟩
          case measure => rw [atOf_rd R8.out, HKA.out]; omega
        | false =>
          have HTW := Lib.hid htw3
          clear htw3
          go_wp2_with fail
          refine (at_ok rb b (k + 3) _ r5).mono ?_
          rintro e w6 ⟨rfl, rfl⟩
          go_wp2_with fail
          have r6 : IsRd (w5.setCell ⟨xb, 7, none⟩ (.int .i64 ((k + 3 : Nat) : Int))) rb b (k + 3) := ⟨heap_set_other r5.1 (by simpa using hne.symm) _, r5.2⟩
          have X6 := Lib.hid (heap_set X5.out 7 (.int .i64 ((k + 3 : Nat) : Int)))
          have O6 := Lib.hid (Go.RowKit.ownsRow_setCell_below O5.out (a := ⟨xb, 7, none⟩) (by simp) (.int .i64 ((k + 3 : Nat) : Int)))
          have K6 := Lib.hid (K5.out.setCell ⟨xb, 7, none⟩ (.int .i64 ((k + 3 : Nat) : Int)) (fun _ _ => .inr (.inl rfl)))
          rw [show ((k : Int) + 3) = ((k + 3 : Nat) : Int) from by omega]
          generalize w5.setCell ⟨xb, 7, none⟩ (.int .i64 ((k + 3 : Nat) : Int)) = w6 at *
          refine (u32_ok rb b (k + 3) _ r6 (by omega)).mono ?_
          rintro e w7 ⟨rfl, k7, r7⟩
          have X7 := Lib.hid (k7.block X6.out (by simpa using hne.symm))
          have O7 := Lib.hid (own_rd O6.out k7 r6)
          have K7 : Go.RowKit.Hid (KpX rb xb w w7) := Lib.hid (KpX.trans K6.out (KpX.of_kp k7 (by simp)))
          clear k7 r6 X6 O6 K6 c7 f7
          obtain ⟨c0, c1, c2, c3, c4, c5, c6, c7, c8, f0, f1, f2, f3, f4, f5, f6, f7, f8⟩ := cells9 X7.out
          clear c0 c1 c2 c3 c4 c5 c6 c7 f0 f1 f2 f3 f4 f5 f6 f7
          have R8 := Lib.hid (⟨heap_set_other r7.1 (p := ⟨xb, 8, none⟩) (by simpa using hne.symm) (.int .u32 (num b (k + 3) 4 : Nat)), r7.2⟩ : IsRd _ rb b (k + 3 + 4))
          have X8 := Lib.hid (heap_set X7.out 8 (.int .u32 (num b (k + 3) 4 : Nat)))
          have O8 := Lib.hid (Go.RowKit.ownsRow_setCell_below O7.out (a := ⟨xb, 8, none⟩) (by simp) (.int .u32 (num b (k + 3) 4 : Nat)))
          have K8 := Lib.hid (K7.out.setCell ⟨xb, 8, none⟩ (.int .u32 (num b (k + 3) 4 : Nat)) (fun _ _ => .inr (.inl rfl)))
          clear r7
          go_wp2_with fail
          go_roundw
          case rel => exact ⟨k + 3 + 4, { st with sat := k + 3, sn := num b (k + 3) 4, tw := st.tw || decide (0 < st.sat) }, v, by show _ = Value.bool (st.tw || decide (0 < st.sat)); rw [HTW.out]; simp, R8.out, X8.out, O8.out, by show st.acc.length ≤ _; omega, K8.out, HR2.out⟩
          case measure => rw [atOf_rd R8.out, HKA.out]; omega
      · have h6b : ((N : Int) == 4) = false := by rw [beq_eq_false_iff_ne]; omega
        have hR2 : R = none := by
          have := HST.out
          rw [fldR, if_neg (by omega), if_neg h3, ← HN.out, if_neg h4, ← HC.out, if_pos h5, if_neg h6] at this
          exact this.symm
        have HX2 : FldsPost rb xb b x w R (stopped 4) w5 := by rw [hR2]; exact ⟨rfl, K5.out⟩
        clear hR2 r5
        go_wp2_with fail
        refine (need_no _ _ _).mono ?_
        rintro e w6 ⟨rfl, rfl⟩
        exact ⟨rfl, HX2⟩
    · have h5b : ((C : Int) == 3) = false := by rw [beq_eq_false_iff_ne]; omega
      have hR2 : fldR b (k + 3 + N) { st with acc := st.acc ++ [((C : Int), b.extract (k + 3) (k + 3 + N))] } = R := by
        have := HST.out
        rw [fldR, if_neg (by omega), if_neg h3, ← HN.out, if_neg h4, ← HC.out, if_neg h5] at this
        exact this
      have HR2 := Lib.hid hR2
      clear hR2
      obtain ⟨c0, c1, c2, c3, c4, c5, c6, c7, c8, f0, f1, f2, f3, f4, f5, f6, f7, f8⟩ := cells9 X5.out
      clear c0 c1 c2 c3 c4 c5 c7 c8 f0 f1 f2 f3 f4 f5 f7 f8
      have htk : Calls Tryz.prog 68 #[.pointer (some ⟨rb, 0, none⟩), .int .i64 N] w5.drew fun e w' =>
          e = .returned (.string (b.extract (k + 3) (k + 3 + N))) ∧ Go.RowKit.Hid (Kp [rb] w5 w' ∧ IsRd w' rb b (k + 3 + N) ∧ w'.heap[xb]? = some (.cells (xcells x v st.sat st.sn) 113 (0, 0)) ∧ w'.ownsRow (xb + 1) 53 2 v st.acc.length (fldCells st.acc)) ∧ w'.cell? ⟨xb, 6, none⟩ = some v ∧ w'.frozen? ⟨xb, 6, none⟩ = false ∧ xb < w'.heap.size := by
        refine (take_yes rb b (k + 3) N w5.drew ⟨r5.1, r5.2⟩ (by omega) (by omega)).mono ?_
        rintro e w7 ⟨rfl, k7, r7⟩
        rw [Int.toNat_natCast] at r7 ⊢
        have k7' : Kp [rb] w5 w7 := (Kp.drew (Kp.refl [rb] w5)).trans k7 (by simp)
        have hx7 := k7'.block X5.out (by simpa using hne.symm)
        exact ⟨rfl, ⟨k7', r7, hx7, own_rd O5.out k7' r5⟩, cell_of hx7 6, free_of hx7 6, heap_lt hx7⟩
      generalize hT : b.extract (k + 3) (k + 3 + N) = T at *
      have HTK := Lib.hid htk
      have HT := Lib.hid hT
      clear hT r5 htk
      go_wp2_with fail
      go_region_law? (first | (go_simp; go_at_call 68; refine HTK.out.mono ?_; rintro e w7 ⟨rfl, M7, y6, z6, l7⟩) | (refine step_append_lies _ rfl (.tmp 32) (.tmp 38) 22 rfl (xb + 1) 53 i0 _ 2 24 Tryz.underlying22 hi hz0 hz1 hz2 rfl (by decide) v st.acc.length (fldCells st.acc) rfl (M7.out.2.2.2.alloc _) ⟨w7.heap.size, 0, none⟩ 1 1 [.int .i64 C, .string T] rfl rfl (new2 w7 _ _ _) (by simp [Value.oneCell']) (by decide) (by unfold maxLen; omega) (by omega) (by simp; omega) _ rfl ?_; intro g cap w8 hown8 hgrow8 hat8 hlt8; have B8 := grow_keep (M7.out.2.2.2.alloc _) hgrow8 (Nat.le_refl xb) (heap_alloc_old M7.out.2.2.1 _); have y8 := cell_of B8 6; have z8 := free_of B8 6; have HB8 := Lib.hid B8; have HO8 := Lib.hid hown8; have HG8 := Lib.hid hgrow8; clear B8 hown8 hgrow8 hat8))
      all_goals
        have R8 := Lib.hid (⟨heap_set_other (grow_other (M7.out.2.2.2.alloc _) HG8.out (heap_alloc_old M7.out.2.1.1 _) (by decide)) (p := ⟨xb, 6, none⟩) (by simpa using hne.symm) (.slice (some ⟨g, 0, none⟩) (st.acc.length + 1) cap), M7.out.2.1.2⟩ : IsRd _ rb b (k + 3 + N))
        have X8 := Lib.hid (heap_set HB8.out 6 (.slice (some ⟨g, 0, none⟩) (st.acc.length + 1) cap))
        have O8 := Lib.hid (Go.RowKit.ownsRow_setCell_below HO8.out (a := ⟨xb, 6, none⟩) (by simp) (.slice (some ⟨g, 0, none⟩) (st.acc.length + 1) cap))
        have K8 := Lib.hid (((K5.out.trans (KpX.of_kp M7.out.1 (by simp))).alloc (.cells #[.int .i64 C, .string T] 53)).trans (G := fun i o => i = rb ∨ i = xb ∨ (xb < i ∧ isFld o)) (grow_kp (M7.out.2.2.2.alloc _) HG8.out) (fun _ _ _ g => g) |>.setCell ⟨xb, 6, none⟩ (.slice (some ⟨g, 0, none⟩) (st.acc.length + 1) cap) (fun _ _ => .inr (.inl rfl)))
        go_wp2_with fail
        go_roundw
        case rel => exact ⟨k + 3 + N, { st with acc := st.acc ++ [((C : Int), T)] }, .slice (some ⟨g, 0, none⟩) (st.acc.length + 1) cap, rfl, R8.out, X8.out, by simpa [fldCells_snoc] using O8.out, by simp; omega, K8.out, HR2.out⟩
        case measure => rw [atOf_rd R8.out, HKA.out]; omega
end Go.Proofs.YthcphjmknbiadaaGreatDoor
