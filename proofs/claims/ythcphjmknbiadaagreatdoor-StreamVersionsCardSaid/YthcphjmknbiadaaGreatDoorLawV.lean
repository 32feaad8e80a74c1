/- The law StreamVersions, walked. -/
import Derived.Test.YthcphjmknbiadaaGreatDoorStp
import Derived.Test.YthcphjmknbiadaaGreatDoorSame
import Derived.Test.YthcphjmknbiadaaGreatDoorAwake
namespace Go.Proofs.YthcphjmknbiadaaGreatDoor
set_option maxRecDepth 100000
set_option linter.unusedVariables false
open Go.RowKit (wrap32 wrap64 intOf)

/-- What the law asks of the two texts. -/
structure VFacts (x : Strm) (sl : Bool) (a b : ByteArray) (e1 e2 : Int) : Prop where
  one : e1 = 0 → getH a = (0, ⟨x, 1, false⟩, a.size) ∧ at8 a 0 = 80 ∧ 0 < a.size ∧ e2 = 0
  two : e2 = 0 → getH b = (0, ⟨x, 2, sl⟩, b.size) ∧ at8 b 0 = 13 ∧ 0 < b.size
  no : e2 ≠ 0 → b = ⟨#[]⟩ ∧ e1 ≠ 0
  la : a.size ≤ 1000000
  lb : b.size ≤ 1000000
theorem openH_le (h : Hd) : (openH h).1.length ≤ 70000 := by
  by_cases h0 : (openH h).2 = 0
  · exact (openH_len h h0).2
  · rw [openH_err h h0]; simp
theorem vfacts (x : Strm) (sl : Bool) : VFacts x sl ⟨(openH ⟨x, 1, false⟩).1.toArray⟩ ⟨(openH ⟨x, 2, sl⟩).1.toArray⟩ (openH ⟨x, 1, false⟩).2 (openH ⟨x, 2, sl⟩).2 := by
  have ha := openH_le ⟨x, 1, false⟩
  have hb := openH_le ⟨x, 2, sl⟩
  refine ⟨fun h0 => ?_, fun h0 => ?_, fun h0 => ?_, ?_, ?_⟩
  · obtain ⟨_, r, hr⟩ := openH_1 x h0
    have hg := openH_round _ h0 []
    rw [List.append_nil] at hg
    refine ⟨?_, ?_, ?_, openH_12 x sl h0⟩
    · rw [hg, mk_size]
    · rw [hr, at8_mk0]; rfl
    · rw [mk_size, hr]; simp
  · obtain ⟨r, hr⟩ := openH_2 x sl h0
    have hg := openH_round _ h0 []
    rw [List.append_nil] at hg
    refine ⟨?_, ?_, ?_⟩
    · rw [hg, mk_size]
    · rw [hr, at8_mk0]; rfl
    · rw [mk_size, hr]; simp
  · exact ⟨by rw [openH_err _ h0], fun h1 => h0 (openH_12 x sl h1)⟩
  · rw [mk_size]; omega
  · rw [mk_size]; omega
set_option maxHeartbeats 1000000 in
theorem versions_ok (x : Strm) (A : Option Addr) (c : Nat) (sl : Bool) (w : World) (hg : Gl w) (hf : FAt w A x.flds) (hs : x.src.size ≤ 140737488351232) (hd : x.dst.size ≤ 140737488351232) (hn : x.flds.length ≤ 140737488351232) (hfs : ∀ f ∈ x.flds, f.2.size ≤ 140737488351232) :
    Calls Tryz.prog 4 #[sval x A c, .bool sl] w fun e w' => e = .returned (.bool true) ∧ Kp [] w w' := by
  have hk : Kp [] w (w.alloc (.cells (scells x A c) 24)) := (Kp.refl [] w).alloc _
  have hx0 := heap_alloc_new w (.cells (scells x A c) 24)
  have HF := Lib.hid hf
  have HG := Lib.hid hg
  have HK := Lib.hid hk
  have HX := Lib.hid hx0
  have HFS := Lib.hid hfs
  clear hf hg hk hx0 hfs
  go_enter Tryz.func4, Tryz.ntmps4
  go_wp2_with fail
  refine (awake_ok _ (HG.out.kp HK.out)).mono ?_
  rintro e w1 ⟨rfl, k1⟩
  have K1 := Lib.hid (HK.out.trans k1 (by simp))
  have X1 := Lib.hid (k1.block HX.out (by simp))
  have F1 := Lib.hid (HF.out.below K1.out (by simp))
  obtain ⟨c0, c1, c2, c3, c4, c5, c6, _⟩ := cells7 X1.out
  clear k1
  go_wp2_with fail
  refine (short_ok x A c w1 F1.out hs hd hn HFS.out).mono ?_
  rintro e w2 ⟨rfl, k2⟩
  have K2 := Lib.hid (K1.out.trans k2 (by simp))
  have X2 := Lib.hid (k2.block X1.out (by simp))
  have F2 := Lib.hid (HF.out.below K2.out (by simp))
  have G2 := Lib.hid (HG.out.kp K2.out)
  clear c0 c1 c2 c3 c4 c5 c6 k2 K1 X1 F1
  obtain ⟨c0, c1, c2, c3, c4, c5, c6, _⟩ := cells7 X2.out
  cases hsh : shortB x with
  | false =>
    go_wp2_with fail
    go_ret
    exact ⟨rfl, K2.out⟩
  | true =>
    obtain ⟨s1, s2, s3, s4⟩ := shortB_true hsh
    have hv := vfacts x sl
    have hA := open_ok ⟨x, 1, false⟩ A c w2 G2.out F2.out (by show x.flds.length ≤ 1000; omega) hs hd
    have hB := fun w3 (k : Kp [] w2 w3) => open_ok ⟨x, 2, sl⟩ A c w3 (G2.out.kp k) (F2.out.below k (by simp)) (by show x.flds.length ≤ 1000; omega) hs hd
    generalize (⟨(openH ⟨x, 1, false⟩).1.toArray⟩ : ByteArray) = a at *
    generalize (⟨(openH ⟨x, 2, sl⟩).1.toArray⟩ : ByteArray) = b at *
    generalize (openH ⟨x, 1, false⟩).2 = e1 at *
    generalize (openH ⟨x, 2, sl⟩).2 = e2 at *
    have HV := Lib.hid hv
    have HA := Lib.hid hA
    have HB := Lib.hid hB
    clear hv hA hB s4 hsh
    go_wp2_with fail
    refine HA.out.mono ?_
    rintro e w3 ⟨rfl, k3⟩
    have K3 := Lib.hid k3
    have X3 := Lib.hid (k3.block X2.out (by simp))
    clear c0 c1 c2 c3 c4 c5 c6 k3
    obtain ⟨c0, c1, c2, c3, c4, c5, c6, _⟩ := cells7 X3.out
    go_wp2_with fail
    refine (HB.out w3 K3.out).mono ?_
    rintro e w4 ⟨rfl, k4⟩
    have K4 := Lib.hid ((K2.out.trans K3.out (by simp)).trans k4 (by simp))
    have G4 := Lib.hid (HG.out.kp K4.out)
    clear c0 c1 c2 c3 c4 c5 c6 k4 HA HB K3 X3 X2 F2 G2 K2 HX HK
    by_cases h1 : e1 = 0
    · subst h1
      obtain ⟨hga, h80, hpa, h2⟩ := HV.out.one rfl
      subst h2
      have hla := HV.out.la
      have HGA := Lib.hid hga
      clear hga
      go_wp2_with fail
      refine (sget_ok a w4 G4.out hla).mono ?_
      rintro e w5 ⟨k5, A5, cc, rfl, _⟩
      rw [HGA.out]
      have K5 := Lib.hid (K4.out.trans k5 (by simp))
      have G5 := Lib.hid (HG.out.kp K5.out)
      clear k5
      have h8 := at8_get a 0 hpa
      rw [h80] at h8
      have h80b : ((a[0].toNat : Int) == 80) = true := by rw [beq_iff_eq]; omega
      clear h8 h80
      obtain ⟨hgb, h13, hpb⟩ := HV.out.two rfl
      have hlb := HV.out.lb
      have HGB := Lib.hid hgb
      have h9 := at8_get b 0 hpb
      rw [h13] at h9
      have h13b : ((b[0].toNat : Int) == 13) = true := by rw [beq_iff_eq]; omega
      clear hgb h13 h9
      go_wp2_with fail
      refine (sget_ok b _ (G5.out.kp ((Kp.refl [] w5).alloc _)) hlb).mono ?_
      rintro e w6 ⟨k6, A6, cd, rfl, _⟩
      rw [HGB.out]
      have K6 := Lib.hid ((K5.out.alloc _).trans k6 (by simp))
      clear k6
      go_wp2_with fail
      go_ret
      exact ⟨rfl, K6.out.alloc _⟩
    · have hb1 : (e1 == 0) = false := by rw [beq_eq_false_iff_ne]; exact h1
      have hb1' : (e1 != 0) = true := by rw [bne_iff_ne]; exact h1
      clear h1
      by_cases h2 : e2 = 0
      · subst h2
        obtain ⟨hgb, h13, hpb⟩ := HV.out.two rfl
        have hlb := HV.out.lb
        have HGB := Lib.hid hgb
        have h9 := at8_get b 0 hpb
        rw [h13] at h9
        have h13b : ((b[0].toNat : Int) == 13) = true := by rw [beq_iff_eq]; omega
        clear hgb h13 h9
        go_wp2_with fail
        refine (sget_ok b _ (G4.out) hlb).mono ?_
        rintro e w6 ⟨k6, A6, cd, rfl, _⟩
        rw [HGB.out]
        have K6 := Lib.hid (K4.out.trans k6 (by simp))
        clear k6
        go_wp2_with fail
        go_ret
        exact ⟨rfl, K6.out.alloc _⟩
      · have hb2 : (e2 == 0) = false := by rw [beq_eq_false_iff_ne]; exact h2
        have hb2' : (e2 != 0) = true := by rw [bne_iff_ne]; exact h2
        obtain ⟨rfl, _⟩ := HV.out.no h2
        clear h2
        go_wp2_with fail
        go_ret
        exact ⟨rfl, K4.out⟩
end Go.Proofs.YthcphjmknbiadaaGreatDoor
