/- Streams: a header of either version, put and got. -/
import Derived.Test.YthcphjmknbiadaaGreatDoorGet1
import Derived.Test.YthcphjmknbiadaaGreatDoorGet2
import Derived.Test.YthcphjmknbiadaaGreatDoorPut3
import Derived.Laws.EntriesVeiled
namespace Go.Proofs.YthcphjmknbiadaaGreatDoor
set_option maxRecDepth 100000
set_option linter.unusedVariables false
open Go.RowKit (wrap32 wrap64 intOf)

structure Hd where
  s : Strm
  ver : Int
  sl : Bool
abbrev hcells (h : Hd) (A : Option Addr) (c : Nat) : Array Value := #[.bool h.s.loc, .int .i64 h.s.fam, .string h.s.src, .string h.s.dst, .int .i64 h.s.sp, .int .i64 h.s.dp, .slice A h.s.flds.length c, .int .i64 h.ver, .bool h.sl]
abbrev hval (h : Hd) (A : Option Addr) (c : Nat) : Value := .agg (hcells h A c)
def zeroH : Hd := ⟨zeroS, 0, false⟩

/-- What `versions` hands back. -/
def versV (n : Int) : Value × Bool := if n = 1 then (.agg #[.func (.func 25) #[] #[], .func (.func 27) #[] #[]], true) else if n = 2 then (.agg #[.func (.func 29) #[] #[], .func (.func 31) #[] #[]], true) else (.agg #[.nilFunc, .nilFunc], false)
theorem vers_ok (n : Int) (w : World) : Calls Tryz.prog 18 #[.int .i64 n] w fun e w' => e = .returned (.tuple #[(versV n).1, .bool (versV n).2]) ∧ Kp [] w w' := by
  go_enter Tryz.func18, Tryz.ntmps18
  by_cases h1 : n = 1
  · subst h1
    go_wp2_with fail
    refine ret_cell1 (by rfl) w.heap.size 55 _ (0, 0) _ (heap_alloc_new w _) (by rfl) Tryz.underlying55 rfl (by kernel_rfl) rfl ?_
    exact ⟨rfl, (Kp.refl [] w).alloc _⟩
  by_cases h2 : n = 2
  · subst h2
    go_wp2_with fail
    refine ret_cell1 (by rfl) w.heap.size 55 _ (0, 0) _ (heap_alloc_new w _) (by rfl) Tryz.underlying55 rfl (by kernel_rfl) rfl ?_
    exact ⟨rfl, (Kp.refl [] w).alloc _⟩
  have hb1 : (n == 1) = false := by rw [beq_eq_false_iff_ne]; exact h1
  have hb2 : (n == 2) = false := by rw [beq_eq_false_iff_ne]; exact h2
  go_wp2_with fail
  refine ret_cell1 (by rfl) w.heap.size 55 _ (0, 0) _ (heap_alloc_new w _) (by rfl) Tryz.underlying55 rfl (by kernel_rfl) rfl ?_
  exact ⟨by unfold versV; rw [if_neg h1, if_neg h2]; rfl, (Kp.refl [] w).alloc _⟩
/-- A header's bytes by the first version, and by the second. -/
def put1s (h : Hd) : List UInt8 × Int := if h.sl = true then ([], 1) else put1 h.s
def openH (h : Hd) : List UInt8 × Int := if h.ver = 1 then put1s h else if h.ver = 2 then put2 h.s h.sl else ([], 3)
theorem put1c_ok (h : Hd) (A : Option Addr) (c : Nat) (w : World) (hg : Gl w) :
    Calls Tryz.prog 25 #[hval h A c] w fun e w' => e = .returned (.tuple #[.string ⟨(put1s h).1.toArray⟩, .int .i64 (put1s h).2]) ∧ Kp [] w w' := by
  have hk : Kp [] w (w.alloc (.cells (hcells h A c) 31)) := (Kp.refl [] w).alloc _
  have hg1 := hg.kp hk
  have HG := Lib.hid hg1
  clear hg hg1
  go_enter Tryz.func25, Tryz.ntmps25
  cases hsl : h.sl with
  | true =>
    have hp : put1s h = ([], 1) := by unfold put1s; rw [if_pos hsl]
    have HP := Lib.hid hp
    clear hp
    go_wp2_with fail
    go_ret2
    exact ⟨by rw [HP.out]; rfl, hk⟩
  | false =>
    have hp : put1s h = put1 h.s := by unfold put1s; rw [if_neg (by rw [hsl]; simp)]
    have HP := Lib.hid hp
    have HK := Lib.hid hk
    clear hk hp
    go_wp2_with fail
    refine (put1_ok h.s A c _ HG.out).mono ?_
    rintro e w1 ⟨rfl, k1⟩
    go_wp2_with fail
    go_ret2
    exact ⟨by rw [HP.out]; rfl, HK.out.trans k1 (by simp)⟩
theorem put2c_ok (h : Hd) (A : Option Addr) (c : Nat) (w : World) (hg : Gl w) (hf : FAt w A h.s.flds) (hn : h.s.flds.length ≤ 1000) (hs : h.s.src.size ≤ 140737488351232) (hd : h.s.dst.size ≤ 140737488351232) :
    Calls Tryz.prog 29 #[hval h A c] w fun e w' => e = .returned (.tuple #[.string ⟨(put2 h.s h.sl).1.toArray⟩, .int .i64 (put2 h.s h.sl).2]) ∧ Kp [] w w' := by
  have hk : Kp [] w (w.alloc (.cells (hcells h A c) 31)) := (Kp.refl [] w).alloc _
  have hg1 := hg.kp hk
  have hf1 := hf.below hk (by simp)
  have HG := Lib.hid hg1
  have HF := Lib.hid hf1
  have HK := Lib.hid hk
  clear hg hg1 hf hf1 hk
  go_enter Tryz.func29, Tryz.ntmps29
  go_wp2_with fail
  refine (put2_ok h.s A c h.sl _ HG.out.fam HF.out hn hs hd).mono ?_
  rintro e w1 ⟨rfl, k1⟩
  go_wp2_with fail
  go_ret2
  exact ⟨rfl, HK.out.trans k1 (by simp)⟩
theorem open_ok (h : Hd) (A : Option Addr) (c : Nat) (w : World) (hg : Gl w) (hf : FAt w A h.s.flds) (hn : h.s.flds.length ≤ 1000) (hs : h.s.src.size ≤ 140737488351232) (hd : h.s.dst.size ≤ 140737488351232) :
    Calls Tryz.prog 8 #[hval h A c] w fun e w' => e = .returned (.tuple #[.string ⟨(openH h).1.toArray⟩, .int .i64 (openH h).2]) ∧ Kp [] w w' := by
  have hk : Kp [] w (w.alloc (.cells (hcells h A c) 31)) := (Kp.refl [] w).alloc _
  have hb := heap_alloc_new w (.cells (hcells h A c) 31)
  have HG := Lib.hid (hg.kp hk)
  have HF := Lib.hid (hf.below hk (by simp))
  have HK := Lib.hid hk
  clear hg hf hk
  go_enter Tryz.func8, Tryz.ntmps8
  go_wp2_with fail
  refine (vers_ok h.ver _).mono ?_
  rintro e w1 ⟨rfl, k1⟩
  have HB := Lib.hid (k1.block hb (by simp))
  have HG1 := Lib.hid (HG.out.kp k1)
  have HF1 := Lib.hid (HF.out.below k1 (by simp))
  have HK1 := Lib.hid (HK.out.trans k1 (by simp))
  obtain ⟨c0, c1, c2, c3, c4, c5, c6, c7, c8, f0, f1, f2, f3, f4, f5, f6, f7, f8⟩ := cells9 HB.out
  have hsz := heap_lt HB.out
  clear hb k1
  by_cases h1 : h.ver = 1
  · have hv : versV h.ver = (.agg #[.func (.func 25) #[] #[], .func (.func 27) #[] #[]], true) := by unfold versV; rw [if_pos h1]
    have ho : openH h = put1s h := by unfold openH; rw [if_pos h1]
    rw [hv]
    have HO := Lib.hid ho
    clear hv ho h1
    go_wp2_with fail
    refine (put1c_ok h A c _ (HG1.out.kp ((Kp.refl [] w1).alloc _))).mono ?_
    rintro e w2 ⟨rfl, k2⟩
    have hk := Lib.hid ((HK1.out.alloc _).trans k2 (by simp))
    clear c0 c1 c2 c3 c4 c5 c6 c7 c8 f0 f1 f2 f3 f4 f5 f6 f7 f8 k2
    go_wp2_with fail
    go_ret2
    exact ⟨by rw [HO.out]; rfl, hk.out⟩
  · by_cases h2 : h.ver = 2
    · have hv : versV h.ver = (.agg #[.func (.func 29) #[] #[], .func (.func 31) #[] #[]], true) := by unfold versV; rw [if_neg h1, if_pos h2]
      have ho : openH h = put2 h.s h.sl := by unfold openH; rw [if_neg h1, if_pos h2]
      rw [hv]
      have HO := Lib.hid ho
      clear hv ho h2 h1
      go_wp2_with fail
      refine (put2c_ok h A c _ (HG1.out.kp ((Kp.refl [] w1).alloc _)) (HF1.out.below ((Kp.refl [] w1).alloc _) (by simp)) hn hs hd).mono ?_
      rintro e w2 ⟨rfl, k2⟩
      have hk := Lib.hid ((HK1.out.alloc _).trans k2 (by simp))
      clear c0 c1 c2 c3 c4 c5 c6 c7 c8 f0 f1 f2 f3 f4 f5 f6 f7 f8 k2
      go_wp2_with fail
      go_ret2
      exact ⟨by rw [HO.out]; rfl, hk.out⟩
    · have hv : versV h.ver = (.agg #[.nilFunc, .nilFunc], false) := by unfold versV; rw [if_neg h1, if_neg h2]
      have ho : openH h = ([], 3) := by unfold openH; rw [if_neg h1, if_neg h2]
      rw [hv]
      have HO := Lib.hid ho
      clear hv ho h2 h1
      go_wp2_with fail
      go_ret2
      exact ⟨by rw [HO.out]; rfl, HK1.out.alloc _⟩
/-! ### Got -/
def get1H (b : ByteArray) : Int × Hd × Nat := ((get1 b).1, ⟨(get1 b).2.1, 1, false⟩, (get1 b).2.2)
def get2H (b : ByteArray) : Int × Hd × Nat := match getR b with
  | .error c => (get2E c, ⟨zeroS, 2, false⟩, 0)
  | .ok (f, n, loc, st) => (0, ⟨folX (b.extract 0 (16 + n)) f loc st.acc, 2, decide (0 < st.sat)⟩, 16 + n)
/-- The header that a text begins with: an error, the header, how long it is. -/
def getH (b : ByteArray) : Int × Hd × Nat :=
  if (if at8 b 0 = 13 then get2H b else get1H b).1 = 0 then (if at8 b 0 = 13 then get2H b else get1H b) else ((if at8 b 0 = 13 then get2H b else get1H b).1, zeroH, 0)
def GotPost (r : Int × Hd × Nat) (w : World) (e : Ending) (w' : World) : Prop :=
  Kp [] w w' ∧ ∃ A c, e = .returned (.tuple #[hval r.2.1 A c, .int .i64 (r.2.2 : Nat), .int .i64 r.1]) ∧ FAt w' A r.2.1.s.flds ∧ r.2.1.s.flds.length ≤ c ∧ ∀ g o, A = some ⟨g, o, none⟩ → w.heap.size ≤ g
theorem folX_flds (b : ByteArray) (f : Fam) (loc : Bool) (l : List (Int × ByteArray)) : (folX b f loc l).flds = l := by
  unfold folX folX0; split <;> rfl
theorem hcells_sval (x : Strm) (ver : Int) (sl : Bool) (A : Option Addr) (c : Nat) : hcells ⟨x, ver, sl⟩ A c = #[.bool x.loc, .int .i64 x.fam, .string x.src, .string x.dst, .int .i64 x.sp, .int .i64 x.dp, .slice A x.flds.length c, .int .i64 ver, .bool sl] := rfl
theorem get1_flds (b : ByteArray) : (get1 b).2.1.flds = [] := by
  unfold get1
  split
  · rfl
  split
  · rfl
  split
  · rfl
  · show (parse1 _).1.flds = []
    unfold parse1
    split
    · rfl
    split
    · rfl
    · rfl
theorem fat_nil (w : World) : FAt w none [] := fun j f hj => by cases hj
theorem set9_heap {w : World} {b : Nat} {T : TypeId} {x0 x1 x2 x3 x4 x5 x6 x7 x8 : Value} (h : w.heap[b]? = some (.cells #[x0, x1, x2, x3, x4, x5, x6, x7, x8] T (0, 0))) (v0 v1 v2 v3 v4 v5 v6 v7 v8 : Value) (o : Obj) :
    ((((((((((w.setCell ⟨b, 0, none⟩ v0).setCell ⟨b, 1, none⟩ v1).setCell ⟨b, 2, none⟩ v2).setCell ⟨b, 3, none⟩ v3).setCell ⟨b, 4, none⟩ v4).setCell ⟨b, 5, none⟩ v5).setCell ⟨b, 6, none⟩ v6).setCell ⟨b, 7, none⟩ v7).setCell ⟨b, 8, none⟩ v8).alloc o).heap[b]? = some (.cells #[v0, v1, v2, v3, v4, v5, v6, v7, v8] T (0, 0)) := by
  have h9 := heap_alloc_old (heap_set (heap_set (heap_set (heap_set (heap_set (heap_set (heap_set (heap_set (heap_set h 0 v0) 1 v1) 2 v2) 3 v3) 4 v4) 5 v5) 6 v6) 7 v7) 8 v8) o
  simp only [List.setIfInBounds_toArray, List.set_cons_succ, List.set_cons_zero] at h9
  exact h9
theorem set9_fat {w : World} {A : Option Addr} {l : List (Int × ByteArray)} (h : FAt w A l) (b : Nat) (hb : ∀ g o, A = some ⟨g, o, none⟩ → b < g) (v0 v1 v2 v3 v4 v5 v6 v7 v8 : Value) (o : Obj) : FAt ((((((((((w.setCell ⟨b, 0, none⟩ v0).setCell ⟨b, 1, none⟩ v1).setCell ⟨b, 2, none⟩ v2).setCell ⟨b, 3, none⟩ v3).setCell ⟨b, 4, none⟩ v4).setCell ⟨b, 5, none⟩ v5).setCell ⟨b, 6, none⟩ v6).setCell ⟨b, 7, none⟩ v7).setCell ⟨b, 8, none⟩ v8).alloc o) A l := by
  refine h.kp (F := fun i _ => i = b) ?_ (fun g o hg _ he => by have := hb g o hg; omega)
  exact KpF.alloc (KpF.setCell (KpF.setCell (KpF.setCell (KpF.setCell (KpF.setCell (KpF.setCell (KpF.setCell (KpF.setCell (KpF.setCell (KpF.refl _ w) ⟨b, 0, none⟩ v0 (fun _ _ => rfl)) ⟨b, 1, none⟩ v1 (fun _ _ => rfl)) ⟨b, 2, none⟩ v2 (fun _ _ => rfl)) ⟨b, 3, none⟩ v3 (fun _ _ => rfl)) ⟨b, 4, none⟩ v4 (fun _ _ => rfl)) ⟨b, 5, none⟩ v5 (fun _ _ => rfl)) ⟨b, 6, none⟩ v6 (fun _ _ => rfl)) ⟨b, 7, none⟩ v7 (fun _ _ => rfl)) ⟨b, 8, none⟩ v8 (fun _ _ => rfl)) o
theorem set9_kp {w0 w : World} (k : Kp [] w0 w) (b : Nat) (hb : w0.heap.size ≤ b) (v0 v1 v2 v3 v4 v5 v6 v7 v8 : Value) (o : Obj) : Kp [] w0 ((((((((((w.setCell ⟨b, 0, none⟩ v0).setCell ⟨b, 1, none⟩ v1).setCell ⟨b, 2, none⟩ v2).setCell ⟨b, 3, none⟩ v3).setCell ⟨b, 4, none⟩ v4).setCell ⟨b, 5, none⟩ v5).setCell ⟨b, 6, none⟩ v6).setCell ⟨b, 7, none⟩ v7).setCell ⟨b, 8, none⟩ v8).alloc o) := (((((((((k.setCell ⟨b, 0, none⟩ v0 (.inr hb)).setCell ⟨b, 1, none⟩ v1 (.inr hb)).setCell ⟨b, 2, none⟩ v2 (.inr hb)).setCell ⟨b, 3, none⟩ v3 (.inr hb)).setCell ⟨b, 4, none⟩ v4 (.inr hb)).setCell ⟨b, 5, none⟩ v5 (.inr hb)).setCell ⟨b, 6, none⟩ v6 (.inr hb)).setCell ⟨b, 7, none⟩ v7 (.inr hb)).setCell ⟨b, 8, none⟩ v8 (.inr hb)).alloc o
theorem get1c_ok (b : ByteArray) (w : World) (hg : Gl w) (hb : b.size ≤ 1000000) :
    Calls Tryz.prog 27 #[.string b] w fun e w' => GotPost (get1H b) w e w' := by
  have hk : Kp [] w (w.alloc (.cells (hcells zeroH none 0) 31)) := (Kp.refl [] w).alloc _
  have hx := heap_alloc_new w (.cells (hcells zeroH none 0) 31)
  have HG := Lib.hid (hg.kp hk)
  have HK := Lib.hid hk
  clear hk hg
  go_enter Tryz.func27, Tryz.ntmps27
  go_wp2_with fail
  refine (get1v_ok b _ HG.out hb).mono ?_
  rintro e w1 ⟨rfl, k1⟩
  have X := Lib.hid (k1.block hx (by simp))
  have K := Lib.hid (HK.out.trans k1 (by simp))
  clear hx k1
  have hlt := heap_lt X.out
  obtain ⟨c0, c1, c2, c3, c4, c5, c6, c7, c8, f0, f1, f2, f3, f4, f5, f6, f7, f8⟩ := cells9 X.out
  go_wp2_with fail
  refine ret_cell2 (by rfl) w.heap.size 31 _ (0, 0) _ (set9_heap X.out _ _ _ _ _ _ _ _ _ _) (by rfl) Tryz.underlying31 rfl (by kernel_rfl) rfl ?_
  exact ⟨set9_kp K.out _ (Nat.le_refl _) _ _ _ _ _ _ _ _ _ _, none, 0, rfl, by show FAt _ none (get1 b).2.1.flds; rw [get1_flds]; exact fat_nil _, by show (get1 b).2.1.flds.length ≤ 0; rw [get1_flds]; exact Nat.le_refl _, by intro g o h; cases h⟩
theorem get2c_ok (b : ByteArray) (w : World) (hg : Gl w) (hb : b.size ≤ 1000000) :
    Calls Tryz.prog 31 #[.string b] w fun e w' => GotPost (get2H b) w e w' := by
  have hk : Kp [] w (w.alloc (.cells (hcells zeroH none 0) 31)) := (Kp.refl [] w).alloc _
  have hx := heap_alloc_new w (.cells (hcells zeroH none 0) 31)
  have HG := Lib.hid (hg.kp hk)
  have HK := Lib.hid hk
  clear hk hg
  go_enter Tryz.func31, Tryz.ntmps31
  go_wp2_with fail
  refine (get2_ok b _ HG.out.fam hb HG.out.lt).mono ?_
  rintro e w1 ⟨k1, hr⟩
  have X := Lib.hid (k1.block hx (by simp))
  have K := Lib.hid (HK.out.trans k1 (by simp))
  clear hx k1
  have hlt := heap_lt X.out
  obtain ⟨c0, c1, c2, c3, c4, c5, c6, c7, c8, f0, f1, f2, f3, f4, f5, f6, f7, f8⟩ := cells9 X.out
  cases hgr : getR b with
  | error c =>
    rw [hgr] at hr
    simp only at hr
    subst hr
    have hh : get2H b = (get2E c, ⟨zeroS, 2, false⟩, 0) := by unfold get2H; rw [hgr]
    have HH := Lib.hid hh
    clear hh hgr
    go_wp2_with fail
    refine ret_cell2 (by rfl) w.heap.size 31 _ (0, 0) _ (set9_heap X.out _ _ _ _ _ _ _ _ _ _) (by rfl) Tryz.underlying31 rfl (by kernel_rfl) rfl ?_
    refine ⟨set9_kp K.out _ (Nat.le_refl _) _ _ _ _ _ _ _ _ _ _, none, 0, ?_, ?_, ?_, by intro g o h; cases h⟩
    · rw [HH.out]; rfl
    · rw [HH.out]; exact fat_nil _
    · rw [HH.out]; exact Nat.le_refl _
  | ok r =>
    obtain ⟨f, n, loc, st⟩ := r
    rw [hgr] at hr
    obtain ⟨A, c, rfl, hf, hlc, hA⟩ := hr
    have hh : get2H b = (0, ⟨folX (b.extract 0 (16 + n)) f loc st.acc, 2, decide (0 < st.sat)⟩, 16 + n) := by unfold get2H; rw [hgr]
    have HH := Lib.hid hh
    have HF := Lib.hid hf
    clear hh hgr hf
    go_wp2_with fail
    refine ret_cell2 (by rfl) w.heap.size 31 _ (0, 0) _ (set9_heap X.out _ _ _ _ _ _ _ _ _ _) (by rfl) Tryz.underlying31 rfl (by kernel_rfl) rfl ?_
    refine ⟨set9_kp K.out _ (Nat.le_refl _) _ _ _ _ _ _ _ _ _ _, A, c, ?_, ?_, ?_, fun g o hg => by have := hA g o hg; simp at this; omega⟩
    · rw [HH.out]; rfl
    · rw [HH.out]
      show FAt _ A (folX (b.extract 0 (16 + n)) f loc st.acc).flds
      rw [folX_flds]
      exact set9_fat HF.out _ (fun g o hg => by have := hA g o hg; simp at this; omega) _ _ _ _ _ _ _ _ _ _
    · rw [HH.out]
      show (folX (b.extract 0 (16 + n)) f loc st.acc).flds.length ≤ c
      rw [folX_flds]; exact hlc
end Go.Proofs.YthcphjmknbiadaaGreatDoor
