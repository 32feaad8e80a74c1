/- The law StreamWhole, walked. -/
import Derived.Test.YthcphjmknbiadaaGreatDoorStp
import Derived.Test.YthcphjmknbiadaaGreatDoorSame
import Derived.Test.YthcphjmknbiadaaGreatDoorAwake
import Derived.Deep.Cut
import Derived.Deep.CutRange
import Derived.Deep.RegionHeld3
namespace Go.Proofs.YthcphjmknbiadaaGreatDoor
set_option linter.unusedSimpArgs false
set_option maxRecDepth 100000
set_option linter.unusedVariables false
open Go.RowKit (wrap32 wrap64 intOf)

theorem ext_list (a : ByteArray) (i j : Nat) : (a.extract i j).data.toList = (a.data.toList.drop i).take (j - i) := Lib.extract_data a i j
theorem ba_ext {a b : ByteArray} (h : a.data.toList = b.data.toList) : a = b := by
  apply ByteArray.ext; exact Array.toList_inj.1 h
theorem ext_join (a : ByteArray) (i k n : Nat) (hi : i ≤ k) (hk : k + n ≤ a.size) : a.extract i k ++ a.extract k (k + n) = a.extract i (k + n) := by
  apply ba_ext
  rw [ByteArray.data_append, Array.toList_append, ext_list, ext_list, ext_list]
  have e : k + n - i = (k - i) + (k + n - k) := by omega
  rw [e, List.take_add, List.drop_drop, show i + (k - i) = k by omega]
theorem ext_ext0 (a : ByteArray) (i k : Nat) (hi : i ≤ k) (hk : k ≤ a.size) : (a.extract 0 k).extract i k = a.extract i k := by
  apply ba_ext
  rw [ext_list, ext_list, ext_list, List.drop_zero, Nat.sub_zero, List.drop_take, List.take_take, Nat.min_self]
theorem ext_size (a : ByteArray) (i k : Nat) (hk : k ≤ a.size) : (a.extract i k).size = k - i := by rw [ByteArray.size_extract]; omega
theorem ext_all (t p : ByteArray) : (t ++ p).extract t.size (t ++ p).size = p := by
  apply ba_ext
  rw [ext_list, ByteArray.data_append, Array.toList_append, ByteArray.size_append, ← len_toList t, List.drop_left, ← len_toList p, Nat.add_sub_cancel_left, List.take_length]
/-- What the law asks of the header's text, with what stands behind it. -/
structure WFacts (h : Hd) (t p all : ByteArray) : Prop where
  all_ : all = t ++ p
  size : all.size = t.size + p.size
  one : 1 ≤ t.size
  part : ∀ k, k < t.size → (getH (all.extract 0 k)).1 = 10
  whole : ∀ k, t.size ≤ k → k ≤ all.size → getH (all.extract 0 k) = (0, h, t.size)
theorem wfacts (h : Hd) (h0 : (openH h).2 = 0) (p : ByteArray) : WFacts h ⟨(openH h).1.toArray⟩ p (⟨(openH h).1.toArray⟩ ++ p) := by
  have hl := openH_len h h0
  refine ⟨rfl, ByteArray.size_append, by rw [mk_size]; omega, fun k hk => ?_, fun k hk hk2 => ?_⟩
  · rw [mk_size] at hk
    have : (⟨(openH h).1.toArray⟩ ++ p : ByteArray).extract 0 k = ⟨((openH h).1.take k).toArray⟩ := by
      apply ba_ext
      rw [ext_list, ByteArray.data_append, Array.toList_append, mk_toList, mk_toList, List.drop_zero, Nat.sub_zero, List.take_append_of_le_length (by omega)]
    rw [this]
    exact openH_part h h0 k hk
  · rw [mk_size] at hk
    have : (⟨(openH h).1.toArray⟩ ++ p : ByteArray).extract 0 k = ⟨((openH h).1 ++ p.data.toList.take (k - (openH h).1.length)).toArray⟩ := by
      apply ba_ext
      rw [ext_list, ByteArray.data_append, Array.toList_append, mk_toList, mk_toList, List.drop_zero, Nat.sub_zero, List.take_append, List.take_of_length_le hk]
    rw [this, openH_round h h0, mk_size]
theorem openH_le2 (h : Hd) : (openH h).1.length ≤ 70000 := by
  by_cases h0 : (openH h).2 = 0
  · exact (openH_len h h0).2
  · rw [openH_err h h0]; simp
/-- The cuts' cells. -/
def CutAt (w : World) (A : Option Addr) (l : List Nat) : Prop := ∀ (j x : Nat), l[j]? = some x → x < 256 ∧ ∃ g o, A = some ⟨g, o, none⟩ ∧ w.cell? ⟨g, o + j, none⟩ = some (.int .u8 x)
theorem CutAt.below {F : Nat → Obj → Prop} {w w' : World} {A : Option Addr} {l : List Nat} (h : CutAt w A l) (k : KpF F w w') (hn : ∀ g x, g < w.heap.size → ¬ F g x) : CutAt w' A l := fun j x hj => by
  obtain ⟨h1, g, o, ha, h0⟩ := h j x hj
  have hg := World.block_lt_of_cell? _ _ h0
  exact ⟨h1, g, o, ha, k.cell h0 (fun y => hn g y hg)⟩
/-- The stream's state, so many bytes of all having come. -/
def WState (h : Hd) (t all : ByteArray) (a k : Nat) (w : World) : Prop :=
  if k < t.size then AWait w a (all.extract 0 k) else ∃ A c, AOpen w a h A c ∧ FAt w A h.s.flds
def outB (t all : ByteArray) (k : Nat) : ByteArray := if k < t.size then ⟨#[]⟩ else all.extract t.size k
theorem outB_lt (t all : ByteArray) (k : Nat) (h : k < t.size) : outB t all k = ⟨#[]⟩ := if_pos h
theorem outB_ge (t all : ByteArray) (k : Nat) (h : t.size ≤ k) : outB t all k = all.extract t.size k := if_neg (by omega)
theorem WState.lt {h : Hd} {t all : ByteArray} {a k : Nat} {w : World} (hs : WState h t all a k w) (hk : k < t.size) : AWait w a (all.extract 0 k) := by unfold WState at hs; rw [if_pos hk] at hs; exact hs
theorem WState.ge {h : Hd} {t all : ByteArray} {a k : Nat} {w : World} (hs : WState h t all a k w) (hk : t.size ≤ k) : ∃ A c, AOpen w a h A c ∧ FAt w A h.s.flds := by unfold WState at hs; rw [if_neg (by omega)] at hs; exact hs
def gotB (t all : ByteArray) (k n : Nat) : ByteArray := if k < t.size then all.extract t.size (k + n) else all.extract k (k + n)
theorem outB_size (t all : ByteArray) (k : Nat) (h : all.size ≤ 6000) : (outB t all k).size ≤ 6000 := by
  unfold outB; split
  · decide
  · rw [ByteArray.size_extract]; omega
theorem gotB_size (t all : ByteArray) (k n : Nat) (h : all.size ≤ 6000) : (gotB t all k n).size ≤ 6000 := by
  unfold gotB; split <;> · rw [ByteArray.size_extract]; omega
theorem out_got (t all : ByteArray) (k n : Nat) (h : t.size ≤ k + n) (hk : k + n ≤ all.size) : outB t all k ++ gotB t all k n = all.extract t.size (k + n) := by
  unfold outB gotB
  by_cases hlt : k < t.size
  · rw [if_pos hlt, if_pos hlt]
    apply ba_ext; simp
  · rw [if_neg hlt, if_neg hlt]
    exact ext_join all t.size k n (by omega) hk
/-- A piece, while the header isn't whole behind it. -/
theorem feed_part (h : Hd) (t p all : ByteArray) (hf : WFacts h t p all) (a k n : Nat) (w : World) (hg : Gl w) (hs : WState h t all a k w) (hk : k + n ≤ all.size) (hb : all.size ≤ 6000) (hkn : k + n < t.size) :
    Calls Tryz.prog 15 #[.pointer (some ⟨a, 0, none⟩), .string (all.extract k (k + n))] w fun e w' => e = .returned (.tuple #[.string ⟨#[]⟩, .int .i64 10]) ∧ AWait w' a (all.extract 0 (k + n)) ∧ Kp [a] w w' := by
  have hj := ext_join all 0 k n (by omega) hk
  have h1 := feed_more w a (all.extract 0 k) (all.extract k (k + n)) hg (hs.lt (by omega)) (by rw [ext_size _ _ _ (by omega), ext_size _ _ _ (by omega)]; omega) (by rw [hj]; exact hf.part _ hkn)
  rw [hj] at h1
  exact h1
/-- A piece by which, or behind which, the header is whole. -/
theorem feed_whole (h : Hd) (t p all : ByteArray) (hf : WFacts h t p all) (a k n : Nat) (w : World) (hg : Gl w) (hs : WState h t all a k w) (hk : k + n ≤ all.size) (hb : all.size ≤ 6000) (hkn : t.size ≤ k + n) :
    Calls Tryz.prog 15 #[.pointer (some ⟨a, 0, none⟩), .string (all.extract k (k + n))] w fun e w' => e = .returned (.tuple #[.string (gotB t all k n), .int .i64 0]) ∧ (∃ A c, AOpen w' a h A c ∧ FAt w' A h.s.flds) ∧ Kp [a] w w' := by
  by_cases hlt : k < t.size
  · have hj := ext_join all 0 k n (by omega) hk
    have hw := hf.whole (k + n) hkn hk
    have h1 := feed_open w a (all.extract 0 k) (all.extract k (k + n)) hg (hs.lt hlt) (by rw [ext_size _ _ _ (by omega), ext_size _ _ _ (by omega)]; omega) (by rw [hj, hw]) (by rw [hj, hw, ext_size _ _ _ (by omega), ext_size _ _ _ (by omega)]; simp only []; omega)
    rw [hj, hw, ext_size _ _ _ (by omega), ext_size _ _ _ (by omega), show k - 0 + (k + n - k) = k + n by omega, ext_ext0 all t.size (k + n) hkn hk] at h1
    refine h1.mono ?_
    rintro e w' ⟨⟨A, c, ao, fa, _⟩, he, hk'⟩
    refine ⟨?_, ⟨A, c, ao, fa⟩, hk'⟩
    rw [he]; unfold gotB; rw [if_pos hlt]
  · obtain ⟨A, c, ao, fa⟩ := hs.ge (by omega)
    refine (feed_on w a h A c _ ao).mono ?_
    rintro e w' ⟨he, rfl⟩
    refine ⟨?_, ⟨A, c, ao, fa⟩, Kp.refl _ _⟩
    rw [he]; unfold gotB; rw [if_neg hlt]
/-- The loop's relation: so many bytes have come, in so many pieces. -/
def WRel (h : Hd) (A : Option Addr) (c : Nat) (t all : ByteArray) (cuts : List Nat) (S B : Nat) (w : World) (o at_ i : Value) (wr : World) : Prop :=
  ∃ k j : Nat, k ≤ all.size ∧ j ≤ 601 ∧ at_ = .int .i64 k ∧ i = .int .i64 j ∧ o = .string (outB t all k) ∧ (cuts.length < j → k = all.size) ∧ WState h t all S k wr ∧ wr.heap[B]? = some (.cells (hcells h A c) 31 (0, 0)) ∧ Kp [] w wr
def wMeas (all : ByteArray) (cuts : List Nat) (at_ i : Value) : Nat := (cuts.length - (intOf i).toNat) + (if (intOf at_).toNat < all.size then 1 else 0)
theorem wMeas_lt (all : ByteArray) (cuts : List Nat) (k n j : Nat) (hk : k < all.size) (hn : cuts.length ≤ j → k + n = all.size) : wMeas all cuts (.int .i64 (k + n : Nat)) (.int .i64 (j + 1 : Nat)) < wMeas all cuts (.int .i64 k) (.int .i64 j) := by
  unfold wMeas
  show (cuts.length - ((j + 1 : Nat) : Int).toNat) + (if ((k + n : Nat) : Int).toNat < all.size then 1 else 0) < (cuts.length - ((j : Nat) : Int).toNat) + (if ((k : Nat) : Int).toNat < all.size then 1 else 0)
  rw [Int.toNat_natCast, Int.toNat_natCast, Int.toNat_natCast, Int.toNat_natCast, if_pos hk]
  by_cases h : cuts.length ≤ j
  · rw [if_neg (by have := hn h; omega)]; omega
  · split <;> omega
set_option maxHeartbeats 8000000 in
theorem whole_ok (x : Strm) (A : Option Addr) (c : Nat) (ver : Int) (sl : Bool) (p : ByteArray) (Ac : Option Addr) (cuts : List Nat) (cc : Nat) (w : World) (hg : Gl w) (hf : FAt w A x.flds) (hs : x.src.size ≤ 140737488351232) (hd : x.dst.size ≤ 140737488351232) (hn : x.flds.length ≤ 140737488351232) (hfs : ∀ f ∈ x.flds, f.2.size ≤ 140737488351232)
    (hc : CutAt w Ac cuts) :
    Calls Tryz.prog 5 #[sval x A c, .int .i64 ver, .bool sl, .string p, .slice Ac cuts.length cc] w fun e w' => e = .returned (.bool true) ∧ Kp [] w w' := by
  have hk : Kp [] w (w.alloc (.cells (scells x A c) 24)) := (Kp.refl [] w).alloc _
  have hx0 := heap_alloc_new w (.cells (scells x A c) 24)
  have HF := Lib.hid hf
  have HG := Lib.hid hg
  have HK := Lib.hid hk
  have HX := Lib.hid hx0
  have HFS := Lib.hid hfs
  have HC := Lib.hid hc
  clear hf hg hk hx0 hfs hc
  go_enter Tryz.func5, Tryz.ntmps5
  go_wp2_with fail
  refine (awake_ok _ (HG.out.kp HK.out)).mono ?_
  rintro e w1 ⟨rfl, k1⟩
  have K1 := Lib.hid (HK.out.trans k1 (by simp))
  have X1 := Lib.hid (k1.block HX.out (by simp))
  have F1 := Lib.hid (HF.out.below K1.out (by simp))
  obtain ⟨c0, c1, c2, c3, c4, c5, c6, _⟩ := cells7 X1.out
  clear k1
  go_wp2_with fail
  refine (short_ok x A c w1 F1.out hs hd hn HFS.out).mono ?_
  rintro e w2 ⟨rfl, k2⟩
  have K2 := Lib.hid (K1.out.trans k2 (by simp))
  have X2 := Lib.hid (k2.block X1.out (by simp))
  have F2 := Lib.hid (HF.out.below K2.out (by simp))
  have G2 := Lib.hid (HG.out.kp K2.out)
  clear c0 c1 c2 c3 c4 c5 c6 k2 K1 X1 F1
  obtain ⟨c0, c1, c2, c3, c4, c5, c6, _⟩ := cells7 X2.out
  have hlt2 := heap_lt X2.out
  cases hsh : shortB x with
  | false =>
    go_wp2_with fail
    go_ret
    exact ⟨rfl, K2.out⟩
  | true =>
    by_cases hp2 : 3000 < p.size
    · have hd1 : decide ((3000 : Int) < (p.size : Int)) = true := by simp; omega
      go_wp2_with fail
      go_ret
      exact ⟨rfl, K2.out⟩
    have hd1 : decide ((3000 : Int) < (p.size : Int)) = false := by simp; omega
    by_cases hc2 : 600 < cuts.length
    · have hd2 : decide ((600 : Int) < (cuts.length : Int)) = true := by simp; omega
      go_wp2_with fail
      go_ret
      exact ⟨rfl, K2.out⟩
    have hd2 : decide ((600 : Int) < (cuts.length : Int)) = false := by simp; omega
    obtain ⟨s1, s2, s3, s4⟩ := shortB_true hsh
    have hA := fun o => open_ok ⟨x, ver, sl⟩ A c (w2.alloc o) (G2.out.kp ((Kp.refl [] w2).alloc o)) (F2.out.below ((Kp.refl [] w2).alloc o) (by simp)) (by show x.flds.length ≤ 1000; omega) hs hd
    have hE := openH_err ⟨x, ver, sl⟩
    have hW := fun h0 => wfacts ⟨x, ver, sl⟩ h0 p
    have hL := openH_le2 ⟨x, ver, sl⟩
    rw [← mk_size] at hL
    have hE2 : (openH ⟨x, ver, sl⟩).2 ≠ 0 → (⟨(openH ⟨x, ver, sl⟩).1.toArray⟩ : ByteArray) = ⟨#[]⟩ := fun h0 => by rw [hE h0]
    clear hE
    generalize (⟨(openH ⟨x, ver, sl⟩).1.toArray⟩ : ByteArray) = t at *
    generalize (openH ⟨x, ver, sl⟩).2 = e1 at *
    have HA := Lib.hid hA
    have HE := Lib.hid hE2
    have HW := Lib.hid hW
    clear hA hE2 hW s4 hsh
    go_wp2_with fail
    refine (HA.out _).mono ?_
    rintro e w3 ⟨rfl, k3⟩
    obtain ⟨B, hB⟩ : ∃ B, B = w2.heap.size := ⟨_, rfl⟩
    have hxb := k3.block (heap_alloc_new w2 (.cells (hcells ⟨x, ver, sl⟩ A c) 31)) (by simp)
    rw [← hB] at hxb ⊢
    have hBw : w.heap.size ≤ B := by have := K2.out.size; omega
    have XB := Lib.hid hxb
    have K3 := Lib.hid ((K2.out.alloc _).trans k3 (by simp))
    have G3 := Lib.hid (HG.out.kp K3.out)
    clear c0 c1 c2 c3 c4 c5 c6 k3 HA X2 F2 G2 K2 HX HK hxb hB hlt2
    by_cases h1 : e1 = 0
    · subst h1
      by_cases ht : 3000 < t.size
      · have hd3 : decide ((3000 : Int) < (t.size : Int)) = true := by simp; omega
        go_wp2_with fail
        go_ret
        exact ⟨rfl, K3.out⟩
      have hd3 : decide ((3000 : Int) < (t.size : Int)) = false := by simp; omega
      have hWF := HW.out rfl
      obtain ⟨all, ha⟩ : ∃ all, all = t ++ p := ⟨_, rfl⟩
      rw [← ha] at hWF
      have HWF := Lib.hid hWF
      have HALL := Lib.hid ha
      have HASZ := Lib.hid hWF.size
      have hasz : all.size ≤ 6000 := by have := hWF.size; omega
      have hat : t.size ≤ all.size := by have := hWF.size; omega
      have ht1 := hWF.one
      clear hWF HW HE
      go_wp2_with fail
      rw [← HALL.out]
      refine (new_ok w3).mono ?_
      rintro e w4 ⟨rfl, a4, k4⟩
      obtain ⟨S, hS⟩ : ∃ S, S = w3.heap.size := ⟨_, rfl⟩
      rw [← hS] at a4 ⊢
      have hSw : w.heap.size ≤ S := by have := K3.out.size; omega
      have hSB : B < S := by have := heap_lt XB.out; omega
      have A4 := Lib.hid a4
      have XB4 := Lib.hid (k4.block XB.out (by simp))
      have K4 := Lib.hid (K3.out.trans k4 (by simp))
      clear a4 k4 hS ha XB K3 G3
      go_wp2_with fail
      go_loopw [16, 17, 18] (fun o at_ i wr => WRel ⟨x, ver, sl⟩ A c t all cuts S B w o at_ i wr) (fun _ at_ i _ => wMeas all cuts at_ i)
      case atStart =>
        refine ⟨0, 0, by omega, by omega, rfl, rfl, ?_, fun h => by omega, ?_, XB4.out, K4.out⟩
        · rw [outB_lt _ _ _ (by omega)]
        · unfold WState; rw [if_pos (by omega)]
          have h0 : all.extract 0 0 = ⟨#[]⟩ := by
            apply ba_ext; rw [ext_list]; rfl
          rw [h0]; exact A4.out
      case round =>
        obtain ⟨k, j, hk, hj, rfl, rfl, rfl, hjk, hst0, xb, kr⟩ := hrel
        have HS := Lib.hid hst0
        clear hst0
        have HJK := Lib.hid hjk
        clear hjk
        by_cases hlt : k < all.size
        · have hj6 : j ≤ cuts.length := by
            by_cases h : cuts.length < j
            · have := HJK.out h; omega
            · omega
          go_upto_if 80 with fail
          go_cut [19] from 67 to 158 (fun s19 wc => ∃ n : Nat, s19 = .int .i64 n ∧ k + n ≤ all.size ∧ (cuts.length ≤ j → k + n = all.size) ∧ wr = wc)
          case first =>
            by_cases hjl : j < cuts.length
            · obtain ⟨y, hy⟩ : ∃ y, cuts[j]? = some y := ⟨_, List.getElem?_eq_getElem hjl⟩
              obtain ⟨hy1, g, o, rfl, hcy⟩ := (HC.out.below kr (by simp)) j y hy
              obtain ⟨n, hn2⟩ : ∃ n : Nat, min (all.size - k) y = n := ⟨_, rfl⟩
              have hmi : min ((all.size : Int) - (k : Int)) (y : Int) = (n : Int) := by omega
              have hkn : k + n ≤ all.size := by omega
              have HMI := Lib.hid hmi
              clear hmi hn2 hy
              go_wp2_with fail
              go_meet
              case rel => exact ⟨n, by rw [HMI.out], hkn, fun h => by omega, rfl⟩
            · go_wp2_with fail
              go_meet
              case rel => exact ⟨all.size - k, by congr 1; omega, by omega, fun _ => by omega, rfl⟩
          case rest =>
            obtain ⟨n, rfl, hkn, hjn, rfl⟩ := hcut
            have HJN := Lib.hid hjn
            clear hjn
            have q1 : (k : Int) ≤ (k : Int) + (n : Int) := by omega
            have q2 : (k : Int) + (n : Int) ≤ (all.size : Int) := by omega
            have q0 : 0 ≤ (k : Int) + (n : Int) := by omega
            have q3 : ((k : Int) + (n : Int)).toNat = k + n := by omega
            have g0 := HG.out.kp kr
            have hos := outB_size t all k hasz
            by_cases hpt : k + n < t.size
            · have hdg : decide ((t.size : Int) ≤ (k : Int) + (n : Int)) = false := by simp; omega
              have hdl : decide ((k : Int) + (n : Int) < (t.size : Int)) = true := by simp; omega
              have hfd := feed_part _ t p all HWF.out S k n wr g0 HS.out hkn hasz hpt
              have hob : outB t all k ++ ⟨#[]⟩ = outB t all (k + n) := by rw [outB_lt _ _ _ (by omega), outB_lt _ _ _ hpt]; rfl
              have HOB := Lib.hid hob
              have HFD := Lib.hid hfd
              clear hfd g0 hob
              go_wp2_with fail
              refine HFD.out.mono ?_
              rintro e w5 ⟨rfl, a5, k5⟩
              have XB5 := Lib.hid (k5.block xb (by simp; omega))
              have A5 := Lib.hid a5
              have K5 := Lib.hid (kr.trans k5 (by intro i hi; simp at hi; subst hi; right; exact hSw))
              clear a5 k5 xb kr HFD
              go_wp2_with fail
              rw [HOB.out]
              refine (head_wait w5 S _ A5.out).mono ?_
              rintro e w6 ⟨rfl, k6⟩
              have A6 := Lib.hid (A5.out.kp k6 (by simp))
              have XB6 := Lib.hid (k6.block XB5.out (by simp))
              have K6 := Lib.hid (K5.out.trans k6 (by simp))
              clear k6
              go_wp2_with fail
              go_quiet (fail)
              have hcell : ∀ o nq, ((w6.alloc o).drewN nq).cell? ⟨S, 11, none⟩ = some (.string (all.extract 0 (k + n))) := fun o nq => by
                have := cell_of (heap_alloc_old A6.out o) 11
                exact this
              have hheld := fun o nq => held_ok ((w6.alloc o).drewN nq) S 0 (all.extract 0 (k + n)) (hcell o nq)
              rw [ext_size all 0 (k + n) hkn, show ((k + n - 0 : Nat) : Int) = (k : Int) + (n : Int) by omega] at hheld
              have HHD := Lib.hid hheld
              clear hcell hheld
              go_wp2_with fail
              refine (HHD.out _ _).mono ?_
              rintro e w7 ⟨rfl, rfl⟩
              have hst : ∀ o nq, WState ⟨x, ver, sl⟩ t all S (k + n) ((w6.alloc o).drewN nq) := fun o nq => by unfold WState; rw [if_pos hpt]; exact heap_alloc_old A6.out o
              have HST := Lib.hid hst
              clear hst q3

              clear q0 q1 q2 hdg hdl hos HHD
              go_wp2_with fail
              go_roundw
              case rel =>
                exact ⟨k + n, j + 1, hkn, by omega, rfl, rfl, rfl, fun h => HJN.out (by omega), HST.out _ _, heap_alloc_old XB6.out _, (K6.out.alloc _).drewN _⟩
              case measure => exact wMeas_lt all cuts k n j hlt HJN.out
            · have hdg : decide ((t.size : Int) ≤ (k : Int) + (n : Int)) = true := by simp; omega
              have hdl : decide ((k : Int) + (n : Int) < (t.size : Int)) = false := by simp; omega
              have hfd := feed_whole _ t p all HWF.out S k n wr g0 HS.out hkn hasz (by omega)
              have hcat := out_got t all k n (by omega) hkn
              have hgs := gotB_size t all k n hasz
              have HCAT := Lib.hid hcat
              have HFD := Lib.hid hfd
              clear hfd g0 hcat
              go_wp2_with fail
              refine HFD.out.mono ?_
              rintro e w5 ⟨rfl, ⟨A5, c5, a5, f5⟩, k5⟩
              have XB5 := Lib.hid (k5.block xb (by simp; omega))
              have H5 := Lib.hid a5
              have FA5 := Lib.hid f5
              have K5 := Lib.hid (kr.trans k5 (by intro i hi; simp at hi; subst hi; right; exact hSw))
              clear a5 k5 xb kr HFD f5
              go_wp2_with fail
              rw [HCAT.out]
              refine (head_open w5 S _ A5 c5 H5.out).mono ?_
              rintro e w6 ⟨rfl, k6⟩
              have H6 := Lib.hid (H5.out.kp k6 (by simp))
              have XB6 := Lib.hid (k6.block XB5.out (by simp))
              have K6 := Lib.hid (K5.out.trans k6 (by simp))
              have FA6 := Lib.hid (FA5.out.below k6 (by simp))
              have FB6 := Lib.hid (HF.out.below K6.out (by simp))
              clear k6
              go_wp2_with fail
              have hD7 := heap_alloc_new w6 (.cells (hcells ⟨x, ver, sl⟩ A5 c5) 31)
              have hB7 := heap_alloc_old XB6.out (.cells (hcells ⟨x, ver, sl⟩ A5 c5) 31)
              have K7 := Lib.hid (K6.out.alloc (.cells (hcells ⟨x, ver, sl⟩ A5 c5) 31))
              have H7 := Lib.hid (H6.out.kp ((Kp.refl [] w6).alloc (.cells (hcells ⟨x, ver, sl⟩ A5 c5) 31)) (by simp))
              have FA7 := Lib.hid (FA6.out.below ((Kp.refl [] w6).alloc (.cells (hcells ⟨x, ver, sl⟩ A5 c5) 31)) (by simp))
              have FB7 := Lib.hid (FB6.out.below ((Kp.refl [] w6).alloc (.cells (hcells ⟨x, ver, sl⟩ A5 c5) 31)) (by simp))
              obtain ⟨D, hD⟩ : ∃ D, D = w6.heap.size := ⟨_, rfl⟩
              rw [← hD] at hD7 ⊢
              generalize w6.alloc (.cells (hcells ⟨x, ver, sl⟩ A5 c5) 31) = w7 at *
              have HD7 := Lib.hid hD7
              have HB7 := Lib.hid hB7
              obtain ⟨d0, d1, d2, d3, d4, d5, d6, d7, d8, _⟩ := cells9 hD7
              obtain ⟨b0, b1, b2, b3, b4, b5, b6, b7, b8, _⟩ := cells9 hB7
              clear hD7 hB7 hD
              clear d0 d1 d2 d3 d4 d5 d6 d7 d8 b0 b1 b2 b3 b4 b5 b6 b7 b8
              go_cut [126] from 67 to 158 (fun s126 wc => s126 = .bool false ∧ Kp [] w7 wc)
              case first =>
                clear HF HG HFS HC HWF HALL HASZ A4 XB4 K4 HS HJK HJN HCAT H5 FA5 XB5 K5 H6 XB6 K6 FA6 FB6 K7 H7 hos hgs hp2 hd1 hc2 hd2 hd3 ht hlt hj6 hk hj hkn hSw hSB hBw hat ht1 hasz hL
                obtain ⟨d0, d1, d2, d3, d4, d5, d6, d7, d8, _⟩ := cells9 HD7.out
                obtain ⟨b0, b1, b2, b3, b4, b5, b6, b7, b8, _⟩ := cells9 HB7.out
                go_region_held3 (fun w' => w'.cell? ⟨D, 0, none⟩ = some (.bool x.loc) ∧ w'.cell? ⟨D, 1, none⟩ = some (.int .i64 x.fam) ∧ w'.cell? ⟨D, 2, none⟩ = some (.string x.src) ∧ w'.cell? ⟨D, 3, none⟩ = some (.string x.dst) ∧ w'.cell? ⟨D, 4, none⟩ = some (.int .i64 x.sp) ∧ w'.cell? ⟨D, 5, none⟩ = some (.int .i64 x.dp) ∧ w'.cell? ⟨D, 6, none⟩ = some (.slice A5 x.flds.length c5) ∧ w'.cell? ⟨D, 7, none⟩ = some (.int .i64 ver) ∧ w'.cell? ⟨D, 8, none⟩ = some (.bool sl) ∧ w'.cell? ⟨B, 0, none⟩ = some (.bool x.loc) ∧ w'.cell? ⟨B, 1, none⟩ = some (.int .i64 x.fam) ∧ w'.cell? ⟨B, 2, none⟩ = some (.string x.src) ∧ w'.cell? ⟨B, 3, none⟩ = some (.string x.dst) ∧ w'.cell? ⟨B, 4, none⟩ = some (.int .i64 x.sp) ∧ w'.cell? ⟨B, 5, none⟩ = some (.int .i64 x.dp) ∧ w'.cell? ⟨B, 6, none⟩ = some (.slice A x.flds.length c) ∧ w'.cell? ⟨B, 7, none⟩ = some (.int .i64 ver) ∧ w'.cell? ⟨B, 8, none⟩ = some (.bool sl)) (go_keep) (first
                  | (go_at_call 13; refine (head_ok ⟨x, ver, sl⟩ A5 c5 _).mono ?_; rintro e w8 ⟨rfl, k8⟩; obtain ⟨dd0, dd1, dd2, dd3, dd4, dd5, dd6, dd7, dd8, _⟩ := cells9 (k8.block HD7.out (by simp)); obtain ⟨bb0, bb1, bb2, bb3, bb4, bb5, bb6, bb7, bb8, _⟩ := cells9 (k8.block HB7.out (by simp)))
                  | (go_at_call 13; refine (head_ok ⟨x, ver, sl⟩ A c _).mono ?_; rintro e w9 ⟨rfl, k9⟩; obtain ⟨de0, de1, de2, de3, de4, de5, de6, de7, de8, _⟩ := cells9 (k9.block (k8.block HD7.out (by simp)) (by simp)); obtain ⟨be0, be1, be2, be3, be4, be5, be6, be7, be8, _⟩ := cells9 (k9.block (k8.block HB7.out (by simp)) (by simp)))
                  | (go_at_call 12; have k8' : Kp [] w7 w8 := (by first | exact k8 | exact ((Kp.refl [] w7).drew).trans k8 (by simp) | exact (((Kp.refl [] w7).drew).drew).trans k8 (by simp)); have k9' : Kp [] w8 w9 := (by first | exact k9 | exact ((Kp.refl [] w8).drew).trans k9 (by simp) | exact (((Kp.refl [] w8).drew).drew).trans k9 (by simp)); have fa9 := (FA7.out.below k8' (by simp)).below k9' (by simp); have fb9 := (FB7.out.below k8' (by simp)).below k9' (by simp); refine (same19_ok ⟨x, ver, sl⟩ A5 A c5 c _ (by first | exact fa9 | exact fa9.below ((Kp.refl [] w9).drew) (by simp)) (by first | exact fb9 | exact fb9.below ((Kp.refl [] w9).drew) (by simp)) (by show x.flds.length ≤ 100000; omega)).mono ?_; rintro e w10 ⟨rfl, k10⟩; obtain ⟨df0, df1, df2, df3, df4, df5, df6, df7, df8, _⟩ := cells9 (k10.block (k9.block (k8.block HD7.out (by simp)) (by simp)) (by simp)); obtain ⟨bf0, bf1, bf2, bf3, bf4, bf5, bf6, bf7, bf8, _⟩ := cells9 (k10.block (k9.block (k8.block HB7.out (by simp)) (by simp)) (by simp))))
                go_wp2_with fail
                go_meet
                case rel =>
                  first
                  | exact ⟨rfl, by simpa using (k8'.trans k9' (by simp)).trans k10 (by simp)⟩
                  | exact ⟨by simp, (k8'.trans k9' (by simp)).trans k10 (by simp)⟩
                  | exact ⟨rfl, (k8'.trans k9' (by simp)).trans (((Kp.refl [] _).drew).trans k10 (by simp)) (by simp)⟩
              case rest =>
                obtain ⟨rfl, k8⟩ := hcut
                have K8 := Lib.hid (K7.out.trans k8 (by simp))
                have H8 := Lib.hid (H7.out.kp k8 (by simp))
                have FA8 := Lib.hid (FA7.out.below k8 (by simp))
                have HB8 := Lib.hid (k8.block HB7.out (by simp))
                have hheld := held_ok wc S 0 ⟨#[]⟩ (cell_of H8.out 11)
                rw [show (((⟨#[]⟩ : ByteArray).size : Nat) : Int) = 0 from rfl] at hheld
                have HHD := Lib.hid hheld
                have p1 : (t.size : Int) ≤ (k : Int) + (n : Int) := by omega
                have p2 : ((t.size : Int)).toNat = t.size := by omega
                clear hheld k8
                go_wp2_with fail
                refine HHD.out.mono ?_
                rintro e w8 ⟨rfl, rfl⟩
                clear p2
                go_wp2_with fail
                go_roundw
                case rel =>
                  refine ⟨k + n, j + 1, hkn, by omega, rfl, rfl, ?_, fun h => HJN.out (by omega), ?_, HB8.out, K8.out⟩
                  · rw [outB_ge _ _ _ (by omega)]
                  · unfold WState; rw [if_neg (by omega)]; exact ⟨_, _, H8.out, FA8.out⟩
                case measure => exact wMeas_lt all cuts k n j hlt HJN.out
        · obtain rfl : k = all.size := by omega
          have hout : outB t all all.size = p := by
            rw [outB_ge _ _ _ hat, HALL.out]; exact ext_all t p
          rw [hout]
          have HOUT := Lib.hid hout
          clear hout
          go_wp2_with fail
          go_ret
          exact ⟨by simp, kr⟩
    · have hb1 : (e1 == 0) = false := by rw [beq_eq_false_iff_ne]; exact h1
      have hb1' : (e1 != 0) = true := by rw [bne_iff_ne]; exact h1
      obtain rfl := HE.out h1
      clear h1 HW
      go_wp2_with fail
      go_ret
      exact ⟨rfl, K3.out⟩
end Go.Proofs.YthcphjmknbiadaaGreatDoor
