/- The first version, got. -/
import Derived.Test.YthcphjmknbiadaaGreatDoorParse
import Derived.Test.YthcphjmknbiadaaGreatDoorNumb
import Derived.Test.YthcphjmknbiadaaGreatDoorVone2
import Derived.Deep.Cut
import Derived.Deep.CutBlock
import Derived.Outline
namespace Go.Proofs.YthcphjmknbiadaaGreatDoor
set_option maxRecDepth 100000
set_option linter.unusedVariables false
open Go.RowKit (wrap32 wrap64 intOf)

def unkPre : List UInt8 := [80, 82, 79, 88, 89, 32, 85, 78, 75, 78, 79, 87, 78, 32]
def isUnk (t : ByteArray) : Bool := (t.toList == lineL [unkS]) || (Lib.hasPrefix t.data.toList unkPre && Lib.hasSuffix t.data.toList [13, 10])
def trim1 (t : ByteArray) : ByteArray := ⟨(Lib.trimSuffix (Lib.trimPrefix t.data.toList frontL) [13, 10]).toArray⟩
def words1 (t : ByteArray) : List ByteArray := partsB (trim1 t) ⟨#[32]⟩
def zeroS : Strm := ⟨false, 0, ⟨#[]⟩, ⟨#[]⟩, 0, 0, []⟩
def tcp4 : ByteArray := ⟨#[84, 67, 80, 52]⟩
def tcp6 : ByteArray := ⟨#[84, 67, 80, 54]⟩
def famN (t : ByteArray) : Int := if (t.toList == [84, 67, 80, 52]) = true then 1 else if (t.toList == [84, 67, 80, 54]) = true then 2 else 0
def strmW (l : List ByteArray) : Strm := ⟨false, famN (l.getD 0 ⟨#[]⟩), (parseP (l.getD 1 ⟨#[]⟩)).1, (parseP (l.getD 2 ⟨#[]⟩)).1, (numP (l.getD 3 ⟨#[]⟩) 65535).1, (numP (l.getD 4 ⟨#[]⟩) 65535).1, []⟩
def parse1 (t : ByteArray) : Strm × Bool :=
  if isUnk t = true then (zeroS, true) else if (words1 t).length ≠ 5 then (zeroS, false) else
  (strmW (words1 t), ((put1 (strmW (words1 t))).2 == 0) && ((put1 (strmW (words1 t))).1 == t.toList))
theorem len5 {P : List ByteArray} (h : P.length = 5) : ∃ p0 p1 p2 p3 p4, P = [p0, p1, p2, p3, p4] := by
  match P, h with
  | [a, b, c, d, e], _ => exact ⟨a, b, c, d, e, rfl⟩
theorem cells5 {w : World} {b : Nat} {T : TypeId} {p0 p1 p2 p3 p4 : ByteArray} (h : w.heap[b]? = some (.cells ([p0, p1, p2, p3, p4].map Value.string).toArray T (0, 0))) : w.cell? ⟨b, 0, none⟩ = some (.string p0) ∧ w.cell? ⟨b, 1, none⟩ = some (.string p1) ∧ w.cell? ⟨b, 2, none⟩ = some (.string p2) ∧ w.cell? ⟨b, 3, none⟩ = some (.string p3) ∧ w.cell? ⟨b, 4, none⟩ = some (.string p4) := ⟨cell_of h 0, cell_of h 1, cell_of h 2, cell_of h 3, cell_of h 4⟩
theorem split_ok (s sep : ByteArray) (w : World) (hg : Gl w) (hs : s.size ≤ 100000) (h1 : sep.size = 1) :
    Calls Tryz.prog 86 #[.string s, .string sep] w fun e w' => e = .returned (.slice (some ⟨w.heap.size, 0, none⟩) (partsB s sep).length (partsB s sep).length) ∧ Kp [] w w' ∧ w'.heap[w.heap.size]? = some (.cells ((partsB s sep).map Value.string).toArray 9 (0, 0)) := by
  obtain ⟨m, hmx⟩ := hg.mx
  have hpl : (partsB s sep).length = Lib.countB s sep + 1 := Lib.splitB_all sep (by omega) 0 _ s rfl
  refine (Tryz.strings_Split s sep m w (by omega) hmx (by omega)).mono ?_
  rintro e w1 ⟨rfl, rfl⟩
  exact ⟨by rw [hpl], (Kp.refl [] w).alloc _, heap_alloc_new w _⟩
theorem unk_line (w : World) (g : Nat) (hgw : g = w.heap.size) : Calls Tryz.prog 50 #[.slice (some ⟨g, 0, none⟩) 1 1] (w.alloc (.cells #[.string ⟨#[85, 78, 75, 78, 79, 87, 78]⟩] 9)) fun e w' => e = .returned (.string ⟨(lineL [unkS]).toArray⟩) ∧ Kp [] w w' := by
  subst hgw
  refine (line_ok [unkS] w.heap.size 1 _ ?_ (by simp) (by simp) (by simp) ?_).mono ?_
  · intro j y hj
    match j, hj with
    | 0, hj => cases hj; exact cell_of (heap_alloc_new w _) 0
  · intro s hs; simp at hs; subst hs; decide
  · rintro e w' ⟨rfl, k⟩
    exact ⟨rfl, (KpF.alloc (Kp.refl [] w) _).trans k (by simp)⟩
def Parse1Post (t : ByteArray) (w : World) (e : Ending) (w' : World) : Prop :=
  e = .returned (.tuple #[sval (parse1 t).1 none 0, .bool (parse1 t).2]) ∧ Kp [] w w'
set_option maxHeartbeats 1000000 in
theorem parse1_ok (t : ByteArray) (w : World) (hg : Gl w) (hs : t.size ≤ 10000) :
    Calls Tryz.prog 54 #[.string t] w fun e w' => Parse1Post t w e w' := by
  have hk1 : Kp [] w (w.alloc (.cells (scells zeroS none 0) 24)) := (Kp.refl [] w).alloc _
  have hx1 := heap_alloc_new w (.cells (scells zeroS none 0) 24)
  go_enter Tryz.func54, Tryz.ntmps54
  go_upto_region 1 with fail
  obtain ⟨W, hW⟩ : ∃ W, W = w.heap.size := ⟨_, rfl⟩
  rw [← hW] at hx1 ⊢
  have HK1 := Lib.hid hk1
  have HX1 := Lib.hid hx1
  have HW := Lib.hid hW
  have HG1 := Lib.hid (hg.kp hk1)
  have hun : isUnk t = ((t.toList == lineL [unkS]) || (Lib.hasPrefix t.data.toList unkPre && Lib.hasSuffix t.data.toList [13, 10])) := rfl
  have HUN := Lib.hid hun
  have HG0 := Lib.hid hg
  clear hW hk1 hx1 hg hun
  go_cut [19] from 8 (fun v wc => v = .bool (isUnk t) ∧ Kp [] w wc ∧ wc.heap[W]? = some (.cells (scells zeroS none 0) 24 (0, 0)))
  case first =>
    go_wp2_with fail
    refine (unk_line _ _ (by simp [← HW.out])).mono ?_
    rintro e w1 ⟨rfl, k1⟩
    have HK2 := Lib.hid (HK1.out.trans k1 (by simp))
    have HX2 := Lib.hid (k1.block HX1.out (by simp))
    have hA := Tryz.strings_HasPrefix t ⟨#[80, 82, 79, 88, 89, 32, 85, 78, 75, 78, 79, 87, 78, 32]⟩ w1
    have hB := Tryz.strings_HasSuffix t ⟨#[13, 10]⟩ w1 (by omega)
    have hA2 : Lib.hasPrefix t.data.toList (ByteArray.mk #[80, 82, 79, 88, 89, 32, 85, 78, 75, 78, 79, 87, 78, 32]).data.toList = Lib.hasPrefix t.data.toList unkPre := rfl
    have hB2 : Lib.hasSuffix t.data.toList (ByteArray.mk #[13, 10]).data.toList = Lib.hasSuffix t.data.toList [13, 10] := rfl
    rw [hA2] at hA
    rw [hB2] at hB
    have HA := Lib.hid hA
    have HB := Lib.hid hB
    clear hA hB hA2 hB2 k1 HK1 HX1 HG1
    cases hq : (t.toList == lineL [unkS]) with
    | true =>
      go_wp2_with fail
      go_meet
      case rel => exact ⟨by rw [HUN.out, hq]; rfl, HK2.out, HX2.out⟩
    | false =>
      cases hpre : Lib.hasPrefix t.data.toList unkPre with
      | true =>
        have ha := HA.out
        rw [hpre] at ha
        have HA3 := Lib.hid ha
        clear ha
        go_wp2_with fail
        refine HA3.out.mono ?_
        rintro e w2 ⟨rfl, rfl⟩
        go_wp2_with fail
        refine HB.out.mono ?_
        rintro e w3 ⟨rfl, rfl⟩
        go_wp2_with fail
        go_meet
        case rel => exact ⟨by rw [HUN.out, hq, hpre]; rfl, HK2.out, HX2.out⟩
      | false =>
        have ha := HA.out
        rw [hpre] at ha
        have HA3 := Lib.hid ha
        clear ha
        go_wp2_with fail
        refine HA3.out.mono ?_
        rintro e w2 ⟨rfl, rfl⟩
        go_wp2_with fail
        go_meet
        case rel => exact ⟨by rw [HUN.out, hq, hpre]; rfl, HK2.out, HX2.out⟩
  case rest =>
    obtain ⟨rfl, kc, xc⟩ := hcut
    have HK2 := Lib.hid kc
    have HX2 := Lib.hid xc
    have HGC := Lib.hid (HG0.out.kp kc)
    obtain ⟨c0, c1, c2, c3, c4, c5, c6, f0, f1, f2, f3, f4, f5, f6⟩ := cells7 xc
    have hwl : W < wc.heap.size := heap_lt xc
    clear kc xc HK1 HX1 HUN
    cases hu : isUnk t with
    | true =>
      have hp : parse1 t = (zeroS, true) := by unfold parse1; rw [if_pos hu]
      have HP := Lib.hid hp
      clear hp
      go_wp2_with fail
      refine ret_cell1 (by rfl) W 24 _ (0, 0) _ (heap_set (heap_set (heap_set (heap_set (heap_set (heap_set (heap_set HX2.out 0 _) 1 _) 2 _) 3 _) 4 _) 5 _) 6 _) (by rfl) Tryz.underlying24 rfl (by kernel_rfl) rfl ?_
      exact ⟨by rw [HP.out]; rfl, (((((((HK2.out.setCell _ _ (by right; simp [HW.out])).setCell _ _ (by right; simp [HW.out])).setCell _ _ (by right; simp [HW.out])).setCell _ _ (by right; simp [HW.out])).setCell _ _ (by right; simp [HW.out])).setCell _ _ (by right; simp [HW.out])).setCell _ _ (by right; simp [HW.out]))⟩
    | false =>
      have hA := Tryz.strings_TrimPrefix t ⟨#[80, 82, 79, 88, 89, 32]⟩ wc
      have hB := Tryz.strings_TrimSuffix ⟨(Lib.trimPrefix t.data.toList frontL).toArray⟩ ⟨#[13, 10]⟩ wc (by show (Lib.trimPrefix t.data.toList frontL).length ≤ _; unfold Lib.trimPrefix; split <;> simp <;> omega)
      have hts : (trim1 t).size ≤ 10000 := by
        show (Lib.trimSuffix (Lib.trimPrefix t.data.toList frontL) [13, 10]).length ≤ _
        have h3 : t.data.toList.length = t.size := by rw [Array.length_toList]; rfl
        unfold Lib.trimSuffix Lib.trimPrefix
        split <;> split <;> simp <;> omega
      have hC := split_ok (trim1 t) ⟨#[32]⟩ wc HGC.out (by omega) rfl
      have HA := Lib.hid hA
      have HB := Lib.hid hB
      have HC := Lib.hid hC
      have HU := Lib.hid hu
      clear hA hB hC hu
      go_wp2_with fail
      refine HA.out.mono ?_
      rintro e w2 ⟨rfl, rfl⟩
      go_wp2_with fail
      refine HB.out.mono ?_
      rintro e w2 ⟨rfl, rfl⟩
      go_wp2_with fail
      refine HC.out.mono ?_
      rintro e w3 ⟨rfl, k2, b2⟩
      have HX3 := Lib.hid (k2.block HX2.out (by simp))
      have HK3 := Lib.hid (HK2.out.trans k2 (by simp))
      have HG3 := Lib.hid (HGC.out.kp k2)
      obtain ⟨P, hP⟩ : ∃ P, P = words1 t := ⟨_, rfl⟩
      rw [show partsB (trim1 t) ⟨#[32]⟩ = P from hP.symm] at b2 ⊢
      have HPW := Lib.hid hP
      obtain ⟨B, hBw⟩ : ∃ B, B = w2.heap.size := ⟨_, rfl⟩
      rw [← hBw] at b2 hwl ⊢
      have HBW := Lib.hid hBw
      have HB2 := Lib.hid b2
      have hnWB : W ≠ B := by omega
      clear c0 c1 c2 c3 c4 c5 c6 f0 f1 f2 f3 f4 f5 f6 k2 b2 hP hwl hBw HA HB HC HX2 HK2 HGC
      obtain ⟨c0, c1, c2, c3, c4, c5, c6, f0, f1, f2, f3, f4, f5, f6⟩ := cells7 HX3.out
      have hwl2 : W < w3.heap.size := heap_lt HX3.out
      by_cases h5 : P.length = 5
      · obtain ⟨p0, p1, p2, p3, p4, rfl⟩ := len5 h5
        obtain ⟨q0, q1, q2, q3, q4⟩ := cells5 HB2.out
        have hBlt : B < w3.heap.size := heap_lt HB2.out
        clear h5
        go_upto_block 0 with fail
        go_cut [] from 8 (fun wd => wd.heap[w3.heap.size]? = some (.cells (scells ⟨false, famN p0, ⟨#[]⟩, ⟨#[]⟩, 0, 0, []⟩ none 0) 24 (0, 0)) ∧ wd.heap[W]? = some (.cells (scells zeroS none 0) 24 (0, 0)) ∧ wd.heap[B]? = some (.cells ([p0, p1, p2, p3, p4].map Value.string).toArray 9 (0, 0)) ∧ Kp [] w wd)
        case first =>
          have hA := fun o => heap_alloc_old HX3.out o
          have hB := fun o => heap_alloc_old HB2.out o
          have hC := fun o => HK3.out.alloc o
          have HA := Lib.hid hA
          have HB := Lib.hid hB
          have HC := Lib.hid hC
          clear hA hB hC
          cases h4 : (p0.toList == [84, 67, 80, 52]) with
          | true =>
            have hfn : famN p0 = 1 := by unfold famN; rw [if_pos h4]
            have HF := Lib.hid hfn
            clear hfn
            go_wp2_with fail
            go_meet
            case rel => exact ⟨by rw [HF.out]; exact heap_alloc_new w3 _, HA.out _, HB.out _, HC.out _⟩
          | false =>
            cases h6 : (p0.toList == [84, 67, 80, 54]) with
            | true =>
              have hfn : famN p0 = 2 := by unfold famN; rw [if_neg (by rw [h4]; simp), if_pos h6]
              have HF := Lib.hid hfn
              clear hfn
              go_wp2_with fail
              go_meet
              case rel => exact ⟨by rw [HF.out]; exact heap_alloc_new w3 _, HA.out _, HB.out _, HC.out _⟩
            | false =>
              have hfn : famN p0 = 0 := by unfold famN; rw [if_neg (by rw [h4]; simp), if_neg (by rw [h6]; simp)]
              have HF := Lib.hid hfn
              clear hfn
              go_wp2_with fail
              go_meet
              case rel => exact ⟨by rw [HF.out]; exact heap_alloc_new w3 _, HA.out _, HB.out _, HC.out _⟩
        case rest =>
          obtain ⟨s1, x1, b1, k1⟩ := hcut
          have HG4 := Lib.hid (HG0.out.kp k1)
          obtain ⟨S, hS⟩ : ∃ S, S = w3.heap.size := ⟨_, rfl⟩
          rw [← hS] at s1 hBlt hwl2 ⊢
          have hSW : w.heap.size ≤ S := by have := HK3.out.size; omega
          clear c0 c1 c2 c3 c4 c5 c6 f0 f1 f2 f3 f4 f5 f6 q0 q1 q2 q3 q4 HX3 HK3 HG3 HB2 hS
          have hnSB : S ≠ B := by omega
          have hnSW : S ≠ W := by omega
          have hnBS : B ≠ S := by omega
          have hnWS : W ≠ S := by omega
          have hps : ∀ p ∈ [p0, p1, p2, p3, p4], p.size ≤ 10000 := by
            intro p hp
            rw [HPW.out] at hp
            have := splitB_size ⟨#[32]⟩ _ (trim1 t) p hp
            omega
          have HPS := Lib.hid hps
          have g1 := hps p1 (by simp)
          have g2 := hps p2 (by simp)
          have g3 := hps p3 (by simp)
          have g4 := hps p4 (by simp)
          clear hps
          obtain ⟨q0, q1, q2, q3, q4⟩ := cells5 b1
          go_wp2_with fail
          refine (parse_ok p1 _ (HG0.out.kp k1) g1).mono ?_
          rintro e y1 ⟨rfl, j1⟩
          have z2 := j1.block s1 (by simp)
          clear q0 q1 q2 q3 q4
          obtain ⟨q0, q1, q2, q3, q4⟩ := cells5 (j1.block b1 (by simp))
          have x2 := heap_set_other (j1.block x1 (by simp)) (p := ⟨S, 2, none⟩) hnSW (.string (parseP p1).1)
          have b2 := heap_set_other (j1.block b1 (by simp)) (p := ⟨S, 2, none⟩) hnSB (.string (parseP p1).1)
          have s2 : (y1.setCell ⟨S, 2, none⟩ (.string (parseP p1).1)).heap[S]? = some (.cells (scells ⟨false, famN p0, (parseP p1).1, ⟨#[]⟩, 0, 0, []⟩ none 0) 24 (0, 0)) := heap_set z2 2 _
          have k2 := (k1.trans j1 (by simp)).setCell ⟨S, 2, none⟩ (.string (parseP p1).1) (.inr hSW)
          obtain ⟨c0, c1, c2, c3, c4, c5, c6, f0, f1, f2, f3, f4, f5, f6⟩ := cells7 z2
          clear s1 x1 b1 k1 j1 z2
          go_wp2_with fail
          refine (parse_ok p2 _ (HG0.out.kp k2) g2).mono ?_
          rintro e y2 ⟨rfl, j2⟩
          clear c0 c1 c2 c3 c4 c5 c6 f0 f1 f2 f3 f4 f5 f6
          have z3 := j2.block s2 (by simp)
          clear q0 q1 q2 q3 q4
          obtain ⟨q0, q1, q2, q3, q4⟩ := cells5 (j2.block b2 (by simp))
          have x3 := heap_set_other (j2.block x2 (by simp)) (p := ⟨S, 3, none⟩) hnSW (.string (parseP p2).1)
          have b3 := heap_set_other (j2.block b2 (by simp)) (p := ⟨S, 3, none⟩) hnSB (.string (parseP p2).1)
          have s3 : (y2.setCell ⟨S, 3, none⟩ (.string (parseP p2).1)).heap[S]? = some (.cells (scells ⟨false, famN p0, (parseP p1).1, (parseP p2).1, 0, 0, []⟩ none 0) 24 (0, 0)) := heap_set z3 3 _
          have k3 := (k2.trans j2 (by simp)).setCell ⟨S, 3, none⟩ (.string (parseP p2).1) (.inr hSW)
          obtain ⟨c0, c1, c2, c3, c4, c5, c6, f0, f1, f2, f3, f4, f5, f6⟩ := cells7 z3
          clear s2 x2 b2 k2 j2 z3
          go_wp2_with fail
          refine (port_ok p3 _ (HG0.out.kp k3) (by omega)).mono ?_
          rintro e y3 ⟨rfl, j3⟩
          clear c0 c1 c2 c3 c4 c5 c6 f0 f1 f2 f3 f4 f5 f6
          have z4 := j3.block s3 (by simp)
          clear q0 q1 q2 q3 q4
          obtain ⟨q0, q1, q2, q3, q4⟩ := cells5 (j3.block b3 (by simp))
          have x4 := heap_set_other (j3.block x3 (by simp)) (p := ⟨S, 4, none⟩) hnSW (.int .i64 (numP p3 65535).1)
          have b4 := heap_set_other (j3.block b3 (by simp)) (p := ⟨S, 4, none⟩) hnSB (.int .i64 (numP p3 65535).1)
          have s4 : (y3.setCell ⟨S, 4, none⟩ (.int .i64 (numP p3 65535).1)).heap[S]? = some (.cells (scells ⟨false, famN p0, (parseP p1).1, (parseP p2).1, (numP p3 65535).1, 0, []⟩ none 0) 24 (0, 0)) := heap_set z4 4 _
          have k4 := (k3.trans j3 (by simp)).setCell ⟨S, 4, none⟩ (.int .i64 (numP p3 65535).1) (.inr hSW)
          obtain ⟨c0, c1, c2, c3, c4, c5, c6, f0, f1, f2, f3, f4, f5, f6⟩ := cells7 z4
          clear s3 x3 b3 k3 j3 z4
          go_wp2_with fail
          refine (port_ok p4 _ (HG0.out.kp k4) (by omega)).mono ?_
          rintro e y4 ⟨rfl, j4⟩
          clear c0 c1 c2 c3 c4 c5 c6 f0 f1 f2 f3 f4 f5 f6
          have z5 := j4.block s4 (by simp)
          have x5 := heap_set_other (j4.block x4 (by simp)) (p := ⟨S, 5, none⟩) hnSW (.int .i64 (numP p4 65535).1)
          have b5 := heap_set_other (j4.block b4 (by simp)) (p := ⟨S, 5, none⟩) hnSB (.int .i64 (numP p4 65535).1)
          have s5 : (y4.setCell ⟨S, 5, none⟩ (.int .i64 (numP p4 65535).1)).heap[S]? = some (.cells (scells ⟨false, famN p0, (parseP p1).1, (parseP p2).1, (numP p3 65535).1, (numP p4 65535).1, []⟩ none 0) 24 (0, 0)) := heap_set z5 5 _
          have k5 := (k4.trans j4 (by simp)).setCell ⟨S, 5, none⟩ (.int .i64 (numP p4 65535).1) (.inr hSW)
          obtain ⟨c0, c1, c2, c3, c4, c5, c6, f0, f1, f2, f3, f4, f5, f6⟩ := cells7 z5
          clear q0 q1 q2 q3 q4 s4 x4 b4 k4 j4 z5 b5
          obtain ⟨R, hR⟩ : ∃ R, R = put1 ⟨false, famN p0, (parseP p1).1, (parseP p2).1, (numP p3 65535).1, (numP p4 65535).1, []⟩ := ⟨_, rfl⟩
          have hput := put1_ok ⟨false, famN p0, (parseP p1).1, (parseP p2).1, (numP p3 65535).1, (numP p4 65535).1, []⟩ none 0 _ (HG0.out.kp k5)
          rw [← hR] at hput
          have HR := Lib.hid hR
          clear hR
          go_wp2_with fail
          refine hput.mono ?_
          rintro e y5 ⟨rfl, j5⟩
          have s6 := j5.block s5 (by simp)
          have x6 := j5.block x5 (by simp)
          have k6 := k5.trans j5 (by simp)
          clear hput c0 c1 c2 c3 c4 c5 c6 f0 f1 f2 f3 f4 f5 f6 s5 x5 k5 j5
          obtain ⟨c0, c1, c2, c3, c4, c5, c6, _, _, _, _, _, _, _⟩ := cells7 s6
          obtain ⟨d0, d1, d2, d3, d4, d5, d6, f0, f1, f2, f3, f4, f5, f6⟩ := cells7 x6
          have S6 := Lib.hid s6
          have X6 := Lib.hid x6
          have K6 := Lib.hid k6
          clear s6 x6 k6
          have hp : parse1 t = (⟨false, famN p0, (parseP p1).1, (parseP p2).1, (numP p3 65535).1, (numP p4 65535).1, []⟩, (R.2 == 0) && (R.1 == t.toList)) := by
            unfold parse1
            rw [if_neg (by rw [HU.out]; simp), ← HPW.out, if_neg (by simp), HR.out]
            rfl
          have HP := Lib.hid hp
          clear hp
          cases hr2 : (R.2 == 0) with
          | true =>
            have HR2 := Lib.hid hr2
            go_wp2_with fail
            refine ret_cell1 (by rfl) W 24 _ (0, 0) _ (heap_set (heap_set (heap_set (heap_set (heap_set (heap_set (heap_set X6.out 0 _) 1 _) 2 _) 3 _) 4 _) 5 _) 6 _) (by rfl) Tryz.underlying24 rfl (by kernel_rfl) rfl ?_
            exact ⟨by rw [HP.out, HR2.out]; rfl, (((((((K6.out.setCell _ _ (by right; simp [HW.out])).setCell _ _ (by right; simp [HW.out])).setCell _ _ (by right; simp [HW.out])).setCell _ _ (by right; simp [HW.out])).setCell _ _ (by right; simp [HW.out])).setCell _ _ (by right; simp [HW.out])).setCell _ _ (by right; simp [HW.out]))⟩
          | false =>
            have HR2 := Lib.hid hr2
            go_wp2_with fail
            refine ret_cell1 (by rfl) W 24 _ (0, 0) _ (heap_set (heap_set (heap_set (heap_set (heap_set (heap_set (heap_set X6.out 0 _) 1 _) 2 _) 3 _) 4 _) 5 _) 6 _) (by rfl) Tryz.underlying24 rfl (by kernel_rfl) rfl ?_
            exact ⟨by rw [HP.out, HR2.out]; rfl, (((((((K6.out.setCell _ _ (by right; simp [HW.out])).setCell _ _ (by right; simp [HW.out])).setCell _ _ (by right; simp [HW.out])).setCell _ _ (by right; simp [HW.out])).setCell _ _ (by right; simp [HW.out])).setCell _ _ (by right; simp [HW.out])).setCell _ _ (by right; simp [HW.out]))⟩
      · have hb5 : ((P.length : Int) == 5) = false := by rw [beq_eq_false_iff_ne]; omega
        have hp : parse1 t = (zeroS, false) := by unfold parse1; rw [if_neg (by rw [HU.out]; simp), if_pos (by rw [← HPW.out]; exact h5)]
        have HP := Lib.hid hp
        clear hp h5
        go_wp2_with fail
        refine ret_cell1 (by rfl) W 24 _ (0, 0) _ (heap_set (heap_set (heap_set (heap_set (heap_set (heap_set (heap_set HX3.out 0 _) 1 _) 2 _) 3 _) 4 _) 5 _) 6 _) (by rfl) Tryz.underlying24 rfl (by kernel_rfl) rfl ?_
        exact ⟨by rw [HP.out]; rfl, (((((((HK3.out.setCell _ _ (by right; simp [HW.out])).setCell _ _ (by right; simp [HW.out])).setCell _ _ (by right; simp [HW.out])).setCell _ _ (by right; simp [HW.out])).setCell _ _ (by right; simp [HW.out])).setCell _ _ (by right; simp [HW.out])).setCell _ _ (by right; simp [HW.out]))⟩
end Go.Proofs.YthcphjmknbiadaaGreatDoor
