/- The second version's addresses, fields and seal, read. -/
import Derived.Test.YthcphjmknbiadaaGreatDoorFlds
import Derived.Test.YthcphjmknbiadaaGreatDoorCrc
import Derived.Deep.Cut
import Derived.Test.YthcphjmknbiadaaGreatDoorShelf
namespace Go.Proofs.YthcphjmknbiadaaGreatDoor
set_option maxRecDepth 100000
set_option linter.unusedVariables false
open Go.RowKit (wrap32 wrap64 intOf)

def folAt (f : Fam) : Nat := if 0 < f.size then 20 + 2 * f.size.toNat else 16
def folX0 (b : ByteArray) (f : Fam) (loc : Bool) (l : List (Int × ByteArray)) : Strm :=
  if loc = false ∧ 0 < f.size then ⟨loc, 0, b.extract 16 (16 + f.size.toNat), b.extract (16 + f.size.toNat) (16 + f.size.toNat + f.size.toNat), num b (16 + f.size.toNat + f.size.toNat) 2, num b (16 + f.size.toNat + f.size.toNat + 2) 2, l⟩
  else ⟨loc, 0, ⟨#[]⟩, ⟨#[]⟩, 0, 0, l⟩
def folX (b : ByteArray) (f : Fam) (loc : Bool) (l : List (Int × ByteArray)) : Strm := { folX0 b f loc l with fam := if loc then 0 else f.n }
abbrev seal4 : ByteArray := ⟨(Lib.repeatL [0] 4).toArray⟩
def folR (b : ByteArray) (f : Fam) : Except Int FSt :=
  if 0 < f.size ∧ (b.size : Int) - 16 < 2 * f.size + 4 then .error 4 else
  match fldR b (folAt f) ⟨[], 0, 0, false⟩ with
  | none => .error 4
  | some st => if st.tw then .error 12 else
    if 0 < st.sat ∧ crcSum [b.extract 0 st.sat, seal4, b.extract (st.sat + 4) b.size] ≠ st.sn then .error 5 else .ok st

theorem fldR_sat (b : ByteArray) (n k : Nat) (hn : b.size - k ≤ n) (st st' : FSt) (h : fldR b k st = some st') (h4 : st.sat = 0 ∨ st.sat + 4 ≤ b.size) : st'.sat = 0 ∨ st'.sat + 4 ≤ b.size := by
  induction n generalizing k st with
  | zero =>
    rw [fldR, if_pos (by omega)] at h
    cases h; exact h4
  | succ n ih =>
    rw [fldR] at h
    split at h
    · cases h; exact h4
    split at h
    · cases h
    split at h
    · cases h
    split at h
    · split at h
      · exact ih _ (by omega) _ h (by right; show k + 3 + 4 ≤ _; omega)
      · cases h
    · exact ih _ (by omega) _ h h4
theorem KpX.keep_other {rb xb : Nat} {w w' : World} (k : KpX rb xb w w') {i : Nat} {c : Array Value} {T : TypeId} {f : Nat × Nat} (h : w.heap[i]? = some (.cells c T f)) (h1 : i ≠ rb) (h2 : i ≠ xb) (hT : T ≠ 53) : w'.heap[i]? = some (.cells c T f) :=
  k.keep i _ h (by rintro (g | g | ⟨_, g⟩); exact h1 g; exact h2 g; exact hT g)

theorem need_stop (p : Value) (n : Int) (w : World) : Calls Tryz.prog 67 #[p, .bool false, .int .i64 n] w fun e w' => e = stopped n ∧ Kp [] w w' :=
  (need_no p n w).mono (by rintro e w7 ⟨rfl, rfl⟩; exact ⟨rfl, KpF.refl _ _⟩)
theorem ownsRow_none (w : World) (base : Nat) (e : TypeId) : w.ownsRow base e 2 (.slice none 0 0) 0 [] :=
  World.ownsRow_nil w _ _ _
theorem sum3_size (b : ByteArray) (k : Nat) (hb : b.size ≤ 140737488351232) : ∀ s ∈ [b.extract 0 k, seal4, b.extract (k + 4) b.size], s.size ≤ 140737488351232 := by
  intro s hs
  simp only [List.mem_cons, List.not_mem_nil, or_false] at hs
  rcases hs with rfl | rfl | rfl
  · simp; omega
  · decide
  · simp; omega
def Fol1Post (b : ByteArray) (f : Fam) (loc : Bool) (rb xb : Nat) (w : World) (e : Ending) (w' : World) : Prop :=
  KpX rb xb w w' ∧ match folR b f with
  | .error c => e = stopped c
  | .ok st => e = .returned (.tuple #[]) ∧ ∃ v, w'.heap[xb]? = some (.cells (xcells (folX b f loc []) v st.sat st.sn) 113 (0, 0)) ∧ w'.ownsRow (xb + 1) 53 2 v st.acc.length (fldCells st.acc)

set_option maxHeartbeats 1000000 in
theorem fol1_ok (b : ByteArray) (f : Fam) (loc : Bool) (rb xb fb xp bp : Nat) (w : World) (hsz : 0 ≤ f.size ∧ f.size ≤ 16) (hr : IsRd w rb b 0) (h16 : 16 ≤ b.size) (hb : b.size ≤ 1000000)
    (hx : w.heap[xb]? = some (.cells (xcells ⟨loc, 0, ⟨#[]⟩, ⟨#[]⟩, 0, 0, []⟩ (.slice none 0 0) 0 0) 113 (0, 0)))
    (hf : w.heap[fb]? = some (.cells #[.int .i64 f.n, .int .i64 f.code, .int .i64 f.size] 97 (0, 0)))
    (hxp : w.heap[xp]? = some (.cells #[.pointer (some ⟨xb, 0, none⟩)] 148 (0, 0)))
    (hbp : w.heap[bp]? = some (.cells #[.string b] 9 (0, 0)))
    (hne : rb ≠ xb) (hr1 : fb ≠ rb) (hr2 : xp ≠ rb) (hr3 : bp ≠ rb) (hr4 : fb ≠ xb) (hr5 : xp ≠ xb) (hr6 : bp ≠ xb) :
    Calls Tryz.prog 102 #[.pointer (some ⟨rb, 0, none⟩), .pointer (some ⟨fb, 0, none⟩), .pointer (some ⟨xp, 0, none⟩), .pointer (some ⟨bp, 0, none⟩)] w fun e w' => Fol1Post b f loc rb xb w e w' := by
  obtain ⟨hs0, hs16⟩ := hsz
  obtain ⟨sz, hszn⟩ : ∃ sz : Nat, f.size = sz := ⟨f.size.toNat, by omega⟩
  have HX := Lib.hid hx
  have HF := Lib.hid hf
  have HXP := Lib.hid hxp
  have HBP := Lib.hid hbp
  clear hx hf hxp hbp
  go_enter Tryz.func102, Tryz.ntmps102
  go_wp2_with fail
  refine (take_yes rb b 0 16 _ hr (by omega) (by omega)).mono ?_
  rintro e w1 ⟨rfl, k1, r1⟩
  have r1 : IsRd w1 rb b 16 := r1
  have X1 := Lib.hid (k1.block HX.out (by simpa using hne.symm))
  have F1 := Lib.hid (k1.block HF.out (by simpa using hr1))
  have P1 := Lib.hid (k1.block HXP.out (by simpa using hr2))
  have B1 := Lib.hid (k1.block HBP.out (by simpa using hr3))
  have K1 := Lib.hid (KpX.of_kp (rb := rb) (xb := xb) k1 (by simp))
  have KHD : Go.RowKit.Hid (Kp [rb, xb] w w1) := Lib.hid (KpF.mono k1 (by simp; omega))
  clear k1 hr
  have hf2 := cell_of F1.out 2
  simp only [List.getElem?_toArray, List.getElem?_cons_zero, List.getElem?_cons_succ] at hf2
  rw [hszn] at hf2
  have HSZ := Lib.hid hszn
  have hsz16 : sz ≤ 16 := by omega
  clear hszn hs0 hs16
  go_upto_if 13 with fail
  go_cut [] from 5 (fun wc => (¬ (0 < f.size ∧ (b.size : Int) - 16 < 2 * f.size + 4)) ∧ IsRd wc rb b (folAt f) ∧ wc.heap[xb]? = some (.cells (xcells (folX0 b f loc []) (.slice none 0 0) 0 0) 113 (0, 0)) ∧ Go.RowKit.Hid (Kp [rb, xb] w wc))
  case first =>
    by_cases hz : 0 < sz
    · have hw1 : IntKind.i64.wrap (2 * (sz : Int)) = 2 * sz := IntWalk.i64_in _ (by omega)
      have hw2 : IntKind.i64.wrap (2 * (sz : Int) + 4) = 2 * sz + 4 := IntWalk.i64_in _ (by omega)
      have R1 := Lib.hid (⟨r1.1, r1.2⟩ : IsRd w1.drew rb b 16)
      by_cases hl : b.size < 20 + 2 * sz
      · have hb1 : decide (2 * (sz : Int) + 4 ≤ (b.size : Int) - 16) = false := decide_eq_false (by omega)
        have HS : ∀ n w7, Kp [] (w1.drewN n) w7 → Fol1Post b f loc rb xb w (stopped 4) w7 := fun n w7 k7 => ⟨K1.out.trans (KpX.of_kp (((Kp.refl [] w1).drewN n).trans k7 (by simp)) (by simp)), by unfold folR; rw [if_pos ⟨by rw [HSZ.out]; omega, by rw [HSZ.out]; omega⟩]⟩
        clear hl
        go_wp2_with fail
        go_region_held (fun w' => w'.cell? ⟨fb, 2, none⟩ = some (.int .i64 sz)) (go_keep) (first
          | (go_at_call 98; refine (left_ok rb b 16 _ R1.out).mono ?_; rintro e w7 ⟨rfl, n7, rfl⟩)
          | (go_at_call 67; (try rw [hw1]); (try rw [hw2]); (try rw [hb1]); refine stop_arm (need_stop _ _ _) (fun w7 k7 => ⟨rfl, HS _ w7 k7⟩) (fun v w7 hF k7 => ?_); have c7 : w7.cell? ⟨fb, 2, none⟩ = some (.int .i64 sz) := hF.out.elim))
        all_goals exact hF.out.elim
      · have hb1 : decide (2 * (sz : Int) + 4 ≤ (b.size : Int) - 16) = true := decide_eq_true (by omega)
        go_wp2_with fail
        go_region_held3 (fun w' => w'.cell? ⟨fb, 2, none⟩ = some (.int .i64 sz)) (go_keep) (first
          | (go_at_call 98; refine (left_ok rb b 16 _ R1.out).mono ?_; rintro e w7 ⟨rfl, n7, rfl⟩)
          | (go_at_call 67; (try rw [hw1]); (try rw [hw2]); (try rw [hb1]); refine (need_yes _ _ _).mono ?_; rintro e w8 ⟨rfl, rfl⟩))
        have R3 : Go.RowKit.Hid (∀ n, IsRd (w1.drewN n) rb b 16) := Lib.hid (fun n => ⟨r1.1, r1.2⟩)
        go_wp2_with fail
        go_region_held3 (fun w' => w'.cell? ⟨fb, 2, none⟩ = some (.int .i64 sz)) (go_keep) (first
          | (go_at_call 68; refine (take_yes rb b 16 sz _ (R3.out _) (by omega) (by omega)).mono ?_; rintro e wa ⟨rfl, ka, ra⟩; rw [Int.toNat_natCast] at ra ⊢; have ca := ka.cell (by assumption) (by simpa using hr1))
          | (go_at_call 68; refine (take_yes rb b (16 + sz) sz _ ra (by omega) (by omega)).mono ?_; rintro e wb ⟨rfl, kb, rb1⟩; rw [Int.toNat_natCast] at rb1 ⊢; have cb := kb.cell ca (by simpa using hr1))
          | (go_at_call 101; refine (u16_ok rb b (16 + sz + sz) _ rb1 (by omega)).mono ?_; rintro e wc ⟨rfl, kc, rc⟩; have cc := kc.cell cb (by simpa using hr1))
          | (go_at_call 101; refine (u16_ok rb b (16 + sz + sz + 2) _ rc (by omega)).mono ?_; rintro e wd ⟨rfl, kd, rd⟩; have cd := kd.cell cc (by simpa using hr1)))
        have kd4 : Kp [rb] w1 wd := ((((Kp.refl [rb] w1).drewN _).trans ka (by simp)).trans kb (by simp)).trans (kc.trans kd (by simp)) (by simp)
        have XD := Lib.hid (kd4.block X1.out (by simpa using hne.symm))
        have PD := Lib.hid (kd4.block P1.out (by simpa using hr2))
        have KD := Lib.hid (K1.out.trans (KpX.of_kp (xb := xb) kd4 (by simp)))
        have cp := cell_of PD.out 0
        have cl := cell_of XD.out 0
        obtain ⟨_, _, c2, c3, c4, c5, _, _, _, _, _, f2, f3, f4, f5, _, _, _⟩ := cells9 XD.out
        have hat : folAt f = 16 + sz + sz + 2 + 2 := by unfold folAt; rw [HSZ.out, if_pos (by omega)]; simp; omega
        have HAT := Lib.hid hat
        have hKD : Go.RowKit.Hid (Kp [rb, xb] w wd) := Lib.hid (KHD.out.trans kd4 (by simp))
        clear ka kb kc kd ca cb cc cd kd4 ra rb1 rc hat
        simp only [List.getElem?_toArray, List.getElem?_cons_zero] at cp cl
        have hlt := heap_lt XD.out
        cases loc with
        | true =>
          go_wp2_with fail
          go_meet
          case rel =>
            refine ⟨by rw [HSZ.out]; omega, by rw [HAT.out]; exact rd, ?_, hKD⟩
            unfold folX0; rw [if_neg (by simp)]; exact XD.out
        | false =>
          go_wp2_with fail
          go_meet
          case rel =>
            refine ⟨by rw [HSZ.out]; omega, ⟨?_, by rw [HAT.out]; exact rd.2⟩, ?_, Lib.hid ((((hKD.out.setCell _ _ (by left; simp)).setCell _ _ (by left; simp)).setCell _ _ (by left; simp)).setCell _ _ (by left; simp))⟩
            · rw [HAT.out]
              exact heap_set_other (heap_set_other (heap_set_other (heap_set_other rd.1 (by simpa using hne.symm) _) (by simpa using hne.symm) _) (by simpa using hne.symm) _) (by simpa using hne.symm) _
            · have hx4 := heap_set (heap_set (heap_set (heap_set XD.out 2 (.string (b.extract 16 (16 + sz)))) 3 (.string (b.extract (16 + sz) (16 + sz + sz)))) 4 (.int .i64 (num b (16 + sz + sz) 2))) 5 (.int .i64 (num b (16 + sz + sz + 2) 2))
              unfold folX0; rw [if_pos (by rw [HSZ.out]; simp; omega), HSZ.out, Int.toNat_natCast]
              exact hx4
    · go_wp2_with fail
      go_meet
      case rel =>
        refine ⟨by rw [HSZ.out]; omega, ?_, ?_, KHD⟩
        · unfold folAt; rw [HSZ.out, if_neg (by omega)]; exact r1
        · unfold folX0; rw [HSZ.out, if_neg (by omega)]; exact X1.out
  case rest =>
    obtain ⟨hno, rc, xc, KC⟩ := hcut
    have XC := Lib.hid xc
    have HNO := Lib.hid hno
    have PC := Lib.hid (KC.out.block HXP.out (by simp; omega))
    have FC := Lib.hid (KC.out.block HF.out (by simp; omega))
    have BC := Lib.hid (KC.out.block HBP.out (by simp; omega))
    have cp := cell_of PC.out 0
    have cl : wc.cell? ⟨xb, 0, none⟩ = some (.bool loc) := by rw [cell_of XC.out 0]; unfold folX0; split <;> rfl
    have hlt := heap_lt XC.out
    have cf0 := cell_of FC.out 0
    have hfr := free_of XC.out 1
    have cf1 : wc.cell? ⟨xb, 1, none⟩ = some (.int .i64 0) := by rw [cell_of XC.out 1]; unfold folX0; split <;> rfl
    simp only [List.getElem?_toArray, List.getElem?_cons_zero] at cp cf0
    clear xc hno r1 hf2 X1 F1 P1 B1 K1 KHD
    go_upto_if 66 with fail
    go_cut [] from 5 (fun wc2 => IsRd wc2 rb b (folAt f) ∧ wc2.heap[xb]? = some (.cells (xcells (folX b f loc []) (.slice none 0 0) 0 0) 113 (0, 0)) ∧ Go.RowKit.Hid (Kp [rb, xb] w wc2))
    case first =>
      cases loc with
      | true =>
        go_wp2_with fail
        go_meet
        case rel => exact ⟨rc, XC.out, KC⟩
      | false =>
        go_wp2_with fail
        go_meet
        case rel =>
          refine ⟨⟨heap_set_other rc.1 (by simpa using hne.symm) _, rc.2⟩, ?_, Lib.hid (KC.out.setCell _ _ (by left; simp))⟩
          have := heap_set XC.out 1 (.int .i64 f.n)
          exact this
    case rest =>
      obtain ⟨rd, xd, KD⟩ := hcut
      have PD := Lib.hid (KD.out.block HXP.out (by simp; omega))
      have FD := Lib.hid (KD.out.block HF.out (by simp; omega))
      have BD := Lib.hid (KD.out.block HBP.out (by simp; omega))
      have cp := cell_of PD.out 0
      simp only [List.getElem?_toArray, List.getElem?_cons_zero] at cp
      have HXD := Lib.hid xd
      clear xd rc XC HXP HF HBP KC PC FC BC cl hlt cf0 hfr cf1
      go_wp2_with fail
      refine (fields_ok b (folAt f) rb xb (folX b f loc []) (.slice none 0 0) ⟨[], 0, 0, false⟩ _ rd HXD.out (ownsRow_none _ _ _) (by simp) rfl hb hne).mono ?_
      rintro e w5 h5
      cases hfr : fldR b (folAt f) ⟨[], 0, 0, false⟩ with
      | none =>
        rw [hfr] at h5
        obtain ⟨rfl, k5⟩ := h5
        refine ⟨rfl, (KpX.of_kp KD.out (by simp)).trans k5, ?_⟩
        unfold folR; rw [if_neg HNO.out, hfr]
      | some st =>
        rw [hfr] at h5
        obtain ⟨he5, k5, r5, v5, x5, o5⟩ := h5
        have hsat := fldR_sat b _ _ (Nat.le_refl _) _ _ hfr (by left; rfl)
        have HFR := Lib.hid hfr
        clear hfr
        have K5 := Lib.hid ((KpX.of_kp (rb := rb) (xb := xb) KD.out (by simp)).trans k5)
        by_cases htw : st.tw = true
        · rw [if_pos htw] at he5
          subst he5
          refine ⟨rfl, K5.out, ?_⟩
          unfold folR; rw [if_neg HNO.out, HFR.out]; simp only []; rw [if_pos htw]
        rw [if_neg htw] at he5
        subst he5
        have P5 := Lib.hid (k5.keep_other PD.out hr2 hr5 (by decide))
        have B5 := Lib.hid (k5.keep_other BD.out hr3 hr6 (by decide))
        have X5 := Lib.hid x5
        have O5 := Lib.hid o5
        have HTW := Lib.hid htw
        have cp5 := cell_of P5.out 0
        have cb5 := cell_of B5.out 0
        have c7 := cell_of X5.out 7
        have c8 := cell_of X5.out 8
        simp only [List.getElem?_toArray, List.getElem?_cons_zero, List.getElem?_cons_succ] at cp5 cb5 c7 c8
        have hlt := heap_lt X5.out
        clear k5 x5 o5 htw r5 rd cp
        by_cases hz : 0 < st.sat
        · have h4 : st.sat + 4 ≤ b.size := by omega
          have hw1 : IntKind.i64.wrap ((st.sat : Int) + 4) = (st.sat : Int) + 4 := IntWalk.i64_in _ (by omega)
          generalize hS : crcSum [b.extract 0 st.sat, seal4, b.extract (st.sat + 4) b.size] = S at *
          have hsum : ∀ g (c : Nat) w9, (w9 : World).cell? ⟨g, 0, none⟩ = some (.string (b.extract 0 st.sat)) → w9.cell? ⟨g, 1, none⟩ = some (.string seal4) → w9.cell? ⟨g, 2, none⟩ = some (.string (b.extract (st.sat + 4) b.size)) → Calls Tryz.prog 64 #[.slice (some ⟨g, 0, none⟩) 3 c] w9 fun e w' => e = .returned (.int .u32 (S : Nat)) ∧ Kp [] w9 w' := by
            intro g c w9 q0 q1 q2
            rw [← hS]
            refine sum_ok g c _ w9 (sum3_size _ _ (by omega)) (by simp) ?_
            intro j s hj
            match j, hj with
            | 0, hj => cases hj; exact q0
            | 1, hj => cases hj; exact q1
            | 2, hj => cases hj; exact q2
          have HSUM := Lib.hid hsum
          have HSS := Lib.hid hS
          clear hsum hS
          have hs1 : (0 : Int) ≤ (st.sat : Int) := by omega
          have hs2 : (st.sat : Int) ≤ b.size := by omega
          have hs3 : (0 : Int) ≤ (st.sat : Int) + 4 := by omega
          have hs4 : (st.sat : Int) + 4 ≤ b.size := by omega
          have HZ := Lib.hid hz
          clear hz hsat
          by_cases heq : S = st.sn
          · have hbe : ((S : Int) == (st.sn : Int)) = true := by rw [beq_iff_eq]; omega
            have hfol : folR b f = .ok st := by
              unfold folR; rw [if_neg HNO.out, HFR.out]; simp only []; rw [if_neg HTW.out, HSS.out, if_neg (by rintro ⟨_, h⟩; exact h heq)]
            have HFOL := Lib.hid hfol
            clear hfol heq
            go_wp2_with fail
            go_region_held3 (fun w' => w'.cell? ⟨bp, 0, none⟩ = some (.string b) ∧ w'.cell? ⟨xp, 0, none⟩ = some (.pointer (some ⟨xb, 0, none⟩)) ∧ w'.cell? ⟨xb, 7, none⟩ = some (.int .i64 st.sat) ∧ w'.cell? ⟨xb, 8, none⟩ = some (.int .u32 st.sn)) (go_keep) (first
              | (go_at_call 104; refine (Tryz.strings_Repeat ⟨#[0]⟩ 4 _ (by omega) (by decide)).mono ?_; rintro e w7 ⟨rfl, kr⟩; have kr : Kp [] w5 w7 := (KpF.drew (Kp.refl [] w5)).trans (Kp.of_below kr) (by simp); have ap := kr.cell cp5 (by simp); have ab := kr.cell cb5 (by simp); have a7 := kr.cell c7 (by simp); have a8 := kr.cell c8 (by simp))
              | (go_at_call 64; refine (HSUM.out w7.heap.size 3 _ (cell_of (heap_alloc_new _ _) 0) (cell_of (heap_alloc_new _ _) 1) (cell_of (heap_alloc_new _ _) 2)).mono ?_; rintro e w8 ⟨rfl, ks⟩; have ks2 : Kp [] w5 w8 := (KpF.alloc kr _).trans ks (by simp); have dp := ks2.cell cp5 (by simp); have db := ks2.cell cb5 (by simp); have d7 := ks2.cell c7 (by simp); have d8 := ks2.cell c8 (by simp))
              | (go_at_call 67; (try rw [hbe]); refine (need_yes _ _ _).mono ?_; rintro e w9 ⟨rfl, rfl⟩))
            go_wp2_with fail
            go_end0
            refine ⟨K5.out.trans (KpX.of_kp ks2 (by simp)), ?_⟩
            rw [HFOL.out]
            exact ⟨rfl, v5, ks2.block X5.out (by simp), own_kp O5.out ks2 (by simp)⟩
          · have hbe : ((S : Int) == (st.sn : Int)) = false := by rw [beq_eq_false_iff_ne]; omega
            have hfol : folR b f = .error 5 := by
              unfold folR; rw [if_neg HNO.out, HFR.out]; simp only []; rw [if_neg HTW.out, HSS.out, if_pos ⟨HZ.out, heq⟩]
            have HFOL := Lib.hid hfol
            have HS : ∀ wx w7, Kp [] w5 wx → Kp [] wx w7 → Fol1Post b f loc rb xb w (stopped 5) w7 := fun wx w7 kx k7 => ⟨(K5.out.trans (KpX.of_kp kx (by simp))).trans (KpX.of_kp k7 (by simp)), by rw [HFOL.out]⟩
            clear hfol heq
            go_wp2_with fail
            go_region_held (fun w' => w'.cell? ⟨bp, 0, none⟩ = some (.string b) ∧ w'.cell? ⟨xp, 0, none⟩ = some (.pointer (some ⟨xb, 0, none⟩)) ∧ w'.cell? ⟨xb, 7, none⟩ = some (.int .i64 st.sat) ∧ w'.cell? ⟨xb, 8, none⟩ = some (.int .u32 st.sn)) (go_keep) (first
              | (go_at_call 104; refine (Tryz.strings_Repeat ⟨#[0]⟩ 4 _ (by omega) (by decide)).mono ?_; rintro e w7 ⟨rfl, kr⟩; have kr : Kp [] w5 w7 := (KpF.drew (Kp.refl [] w5)).trans (Kp.of_below kr) (by simp); have ap := kr.cell cp5 (by simp); have ab := kr.cell cb5 (by simp); have a7 := kr.cell c7 (by simp); have a8 := kr.cell c8 (by simp))
              | (go_at_call 64; refine (HSUM.out w7.heap.size 3 _ (cell_of (heap_alloc_new _ _) 0) (cell_of (heap_alloc_new _ _) 1) (cell_of (heap_alloc_new _ _) 2)).mono ?_; rintro e w8 ⟨rfl, ks⟩; have ks2 : Kp [] w5 w8 := (KpF.alloc kr _).trans ks (by simp); have dp := ks2.cell cp5 (by simp); have db := ks2.cell cb5 (by simp); have d7 := ks2.cell c7 (by simp); have d8 := ks2.cell c8 (by simp))
              | (go_at_call 67; (try rw [hbe]); refine stop_arm (need_stop _ _ _) (fun w9 k9 => ⟨rfl, HS _ w9 ks2 k9⟩) (fun v w9 hF k9 => ?_); have c9 : w9.cell? ⟨bp, 0, none⟩ = some (.string b) ∧ w9.cell? ⟨xp, 0, none⟩ = some (.pointer (some ⟨xb, 0, none⟩)) ∧ w9.cell? ⟨xb, 7, none⟩ = some (.int .i64 st.sat) ∧ w9.cell? ⟨xb, 8, none⟩ = some (.int .u32 st.sn) := hF.out.elim))
            all_goals exact hF.out.elim
        · have hfol : folR b f = .ok st := by
            unfold folR; rw [if_neg HNO.out, HFR.out]; simp only []; rw [if_neg HTW.out, if_neg (by rintro ⟨h, _⟩; exact hz h)]
          have HFOL := Lib.hid hfol
          clear hfol
          go_wp2_with fail
          go_end0
          refine ⟨K5.out, ?_⟩
          rw [HFOL.out]
          exact ⟨rfl, v5, X5.out, O5.out⟩
end Go.Proofs.YthcphjmknbiadaaGreatDoor
