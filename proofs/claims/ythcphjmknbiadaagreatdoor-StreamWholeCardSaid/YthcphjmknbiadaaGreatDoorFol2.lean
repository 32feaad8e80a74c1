/- The second version's follow, and Get. -/
import Derived.Test.YthcphjmknbiadaaGreatDoorFlow
namespace Go.Proofs.YthcphjmknbiadaaGreatDoor
set_option maxRecDepth 100000
set_option linter.unusedVariables false
open Go.RowKit (wrap32 wrap64 intOf)

theorem stopped_inj {a c : Int} (h : stopped a = stopped c) : a = c := by
  injection h with h; injection h with h _; injection h with h _; injection h with _ h; injection h with h; injection h with h; injection h with h _; injection h
def folC (b : ByteArray) (f : Fam) : Int := match folR b f with | .error c => c | .ok _ => 0
def FolIn (b : ByteArray) (f : Fam) (loc : Bool) (xb : Nat) (w : World) : Prop :=
  match folR b f with
  | .error _ => True
  | .ok st => ∃ v, w.heap[xb]? = some (.cells (xcells (folX b f loc []) v st.sat st.sn) 113 (0, 0)) ∧ w.ownsRow (xb + 1) 53 2 v st.acc.length (fldCells st.acc)
theorem FolIn.kp {b : ByteArray} {f : Fam} {loc : Bool} {xb q : Nat} {w w' : World} {x : Array Value} {T : TypeId} (h : FolIn b f loc xb w) (k : Kp [q] w w') (hq : w.heap[q]? = some (.cells x T (0, 0))) (hT : T ≠ 53) (hT2 : T ≠ 113) : FolIn b f loc xb w' := by
  unfold FolIn at *
  cases hf : folR b f with
  | error c => trivial
  | ok st =>
    rw [hf] at h
    obtain ⟨v, hx, ho⟩ := h
    refine ⟨v, k.block hx ?_, own_kp ho k ?_⟩
    · simp; rintro rfl; rw [hq] at hx; injection hx with hx; injection hx with _ hx; exact hT2 hx
    · intro i c _ hh; simp; rintro rfl; rw [hq] at hh; injection hh with hh; injection hh with _ hh; exact hT hh

theorem fol_ok (b : ByteArray) (f : Fam) (loc : Bool) (xb : Nat) (w : World) (hsz : 0 ≤ f.size ∧ f.size ≤ 16) (h16 : 16 ≤ b.size) (hb : b.size ≤ 1000000)
    (hx : w.heap[xb]? = some (.cells (xcells ⟨loc, 0, ⟨#[]⟩, ⟨#[]⟩, 0, 0, []⟩ (.slice none 0 0) 0 0) 113 (0, 0))) :
    Calls Tryz.prog 70 #[.pointer (some ⟨xb, 0, none⟩), .string b, fv f] w fun e w' => e = .returned (.int .i64 (folC b f)) ∧ KpX xb xb w w' ∧ FolIn b f loc xb w' := by
  have hmf : ∀ (fn : Fn) (first cap : Array Value) (w : World), (Instr.makeFunc fn first cap).run Tryz.prog w = .ok (.func fn first cap) w := fun _ _ _ _ => rfl
  have HX := Lib.hid hx
  have hlt := heap_lt hx
  clear hx
  go_enter Tryz.func70, Tryz.ntmps70
  go_wp2_with fail
  have h0 := alloc3_0 w (.cells #[.pointer (some ⟨xb, 0, none⟩)] 148) (.cells #[.string b] 9) (.cells #[.int .i64 f.n, .int .i64 f.code, .int .i64 f.size] 97)
  have h1 := alloc3_1 w (.cells #[.pointer (some ⟨xb, 0, none⟩)] 148) (.cells #[.string b] 9) (.cells #[.int .i64 f.n, .int .i64 f.code, .int .i64 f.size] 97)
  have h2 := alloc3_2 w (.cells #[.pointer (some ⟨xb, 0, none⟩)] 148) (.cells #[.string b] 9) (.cells #[.int .i64 f.n, .int .i64 f.code, .int .i64 f.size] 97)
  have hk : Kp [] w (((w.alloc (.cells #[.pointer (some ⟨xb, 0, none⟩)] 148)).alloc (.cells #[.string b] 9)).alloc (.cells #[.int .i64 f.n, .int .i64 f.code, .int .i64 f.size] 97)) := (((Kp.refl [] w).alloc _).alloc _).alloc _
  have hs : (((w.alloc (.cells #[.pointer (some ⟨xb, 0, none⟩)] 148)).alloc (.cells #[.string b] 9)).alloc (.cells #[.int .i64 f.n, .int .i64 f.code, .int .i64 f.size] 97)).heap.size = w.heap.size + 3 := by simp
  generalize ((w.alloc (.cells #[.pointer (some ⟨xb, 0, none⟩)] 148)).alloc (.cells #[.string b] 9)).alloc (.cells #[.int .i64 f.n, .int .i64 f.code, .int .i64 f.size] 97) = w3 at *
  have hx3 := hk.block HX.out (by simp)
  refine (read_ok 102 _ b w3 (by omega) (fun c w' => c = folC b f ∧ KpX (w3.heap.size + 1) xb w3 w' ∧ FolIn b f loc xb w' ∧ w'.heap[w3.heap.size]? = some (.cells #[.int .i64 0] 27 (0, 0))) (fun _ _ => by simp [go_sem]) ?_).mono ?_
  · intro w4 k4 s4 q4 r4
    have hq4 := heap_lt q4
    refine (fol1_ok b f loc (w3.heap.size + 1) xb (w.heap.size + 1 + 1) w.heap.size (w.heap.size + 1) w4 hsz r4 h16 hb (k4.block hx3 (by simp)) (k4.block h2 (by simp)) (k4.block h0 (by simp)) (k4.block h1 (by simp)) (by omega) (by omega) (by omega) (by omega) (by omega) (by omega) (by omega)).mono ?_
    rintro e w5 ⟨k5, h5⟩
    have q5 := k5.keep_other q4 (by omega) (by omega) (by decide)
    have kk : KpX (w3.heap.size + 1) xb w3 w5 := KpF.trans (KpX.of_kp k4 (by simp)) k5 (fun _ _ _ g => g)
    cases hf : folR b f with
    | error c =>
      rw [hf] at h5
      subst h5
      exact ⟨c, .inr rfl, q5, by unfold folC; rw [hf], kk, by unfold FolIn; rw [hf]; trivial, q5⟩
    | ok st =>
      rw [hf] at h5
      obtain ⟨rfl, v, hx5, ho5⟩ := h5
      exact ⟨0, .inl ⟨rfl, rfl⟩, q5, by unfold folC; rw [hf], kk, by unfold FolIn; rw [hf]; exact ⟨v, hx5, ho5⟩, q5⟩
  rintro e w5 ⟨c, w4, ⟨rfl, k4, h4, q4⟩, rfl, k5⟩
  go_wp2_with fail
  go_ret
  refine ⟨rfl, ?_, h4.kp k5 q4 (by decide) (by decide)⟩
  have kk : KpF (fun i o => i = xb ∨ (xb < i ∧ isFld o)) w3 w5 := (KpF.mono (F := fun i o => i = xb ∨ w3.heap.size ≤ i ∨ (xb < i ∧ isFld o)) k4 (by rintro i o hi (g | g | g); exact .inr (.inl (by omega)); exact .inl g; exact .inr (.inr g))).trans k5 (by intro i o hi g; simp at g; omega) |>.mono (by rintro i o hi (g | g | g); exact .inl g; omega; exact .inr g)
  exact KpF.trans (KpX.of_kp (rb := xb) (xb := xb) hk (by simp)) kk (by rintro i o _ (g | g); exact .inl g; exact .inr (.inr g))

/-! ### Get -/
def signA : ByteArray := ⟨#[13, 10, 13, 10, 0, 13, 10, 81, 85, 73, 84, 10]⟩
def signB (b : ByteArray) : Bool := (b.extract 0 (min b.size 12)).toList == (signA.extract 0 (min b.size 12)).toList
def getR (b : ByteArray) : Except Int (Fam × Nat × Bool × FSt) :=
  if signB b = false then .error 13 else
  if b.size < 12 then .error 2 else
  match leadR b 12 with
  | .stop c => .error c
  | .ok f n loc => if b.size < 16 + n then .error 2 else
    match folR (b.extract 0 (16 + n)) f with
    | .error c => .error c
    | .ok st => .ok (f, n, loc, st)
def GetIn (b : ByteArray) (xb sp : Nat) (w : World) : Prop :=
  match getR b with
  | .error _ => True
  | .ok (f, n, loc, st) => w.heap[sp]? = some (.cells #[.int .i64 (16 + n : Nat)] 3 (0, 0)) ∧ FolIn (b.extract 0 (16 + n)) f loc xb w
def getC (b : ByteArray) : Int := match getR b with | .error c => c | .ok _ => 0

theorem leadR_ok {b : ByteArray} {k : Nat} {f : Fam} {n : Nat} {loc : Bool} (h : leadR b k = .ok f n loc) : 0 ≤ f.size ∧ f.size ≤ 16 ∧ n = num b (k + 2) 2 ∧ k + 4 ≤ b.size ∧ famCode (num b (k + 1) 1) = some f ∧ loc = (num b k 1 % 16 == 0) ∧ num b k 1 / 16 = 2 ∧ num b k 1 % 16 < 2 := by
  unfold leadR at h
  split at h; · cases h
  split at h; · cases h
  split at h; · cases h
  split at h; · cases h
  split at h; · cases h
  rename_i hf
  split at h; · cases h
  injection h with h1 h2 h3
  subst h1
  have hm := List.mem_of_find?_eq_some hf
  simp only [famL, List.mem_cons, List.not_mem_nil, or_false] at hm
  refine ⟨?_, ?_, h2.symm, by omega, hf, h3.symm, by omega, by omega⟩ <;> rcases hm with rfl | rfl | rfl | rfl | rfl <;> decide
theorem folR_err {b : ByteArray} {f : Fam} {c : Int} (h : folR b f = .error c) : c = 4 ∨ c = 12 ∨ c = 5 := by
  unfold folR at h
  split at h; · injection h with h; exact .inl h.symm
  split at h; · injection h with h; exact .inl h.symm
  split at h; · injection h with h; exact .inr (.inl h.symm)
  split at h; · injection h with h; exact .inr (.inr h.symm)
  cases h
set_option maxHeartbeats 1000000 in
theorem get1_ok (b : ByteArray) (rb xb sp bp : Nat) (w : World) (hg : GlF w) (hr : IsRd w rb b 0) (hb : b.size ≤ 1000000)
    (hx : w.heap[xb]? = some (.cells (xcells ⟨false, 0, ⟨#[]⟩, ⟨#[]⟩, 0, 0, []⟩ (.slice none 0 0) 0 0) 113 (0, 0)))
    (hs : w.heap[sp]? = some (.cells #[.int .i64 0] 3 (0, 0)))
    (hbp : w.heap[bp]? = some (.cells #[.string b] 9 (0, 0)))
    (hne : rb ≠ xb) (h0 : rb ≠ 0) (h1 : xb ≠ 0) (h2 : sp ≠ rb) (h3 : bp ≠ rb) (h4 : sp ≠ xb) (h5 : bp ≠ xb) (h6 : sp ≠ bp) :
    Calls Tryz.prog 66 #[.pointer (some ⟨rb, 0, none⟩), .pointer (some ⟨bp, 0, none⟩), .pointer (some ⟨xb, 0, none⟩), .pointer (some ⟨sp, 0, none⟩)] w fun e w' =>
      RdEnd (getC b) e ∧ KpF (fun i o => i = rb ∨ i = sp ∨ i = xb ∨ (xb < i ∧ isFld o)) w w' ∧ GetIn b xb sp w' := by
  have HX := Lib.hid hx
  have HS := Lib.hid hs
  have HBP := Lib.hid hbp
  have HG := Lib.hid hg
  have hbb := cell_of hbp 0
  simp only [List.getElem?_toArray, List.getElem?_cons_zero] at hbb
  clear hx hs hbp hg
  go_enter Tryz.func66, Tryz.ntmps66
  go_wp2_with fail
  rw [show min (b.size : Int) 12 = ((min b.size 12 : Nat) : Int) from by omega]
  obtain ⟨m, hm⟩ : ∃ m, m = min b.size 12 := ⟨_, rfl⟩
  rw [← hm]
  have ha1 : (0 : Int) ≤ (m : Int) := by omega
  have ha2 : (m : Int) ≤ b.size := by omega
  have ha3 : (m : Int) ≤ 12 := by omega
  have hsg : signB b = ((b.extract 0 m).toList == ((ByteArray.mk #[13, 10, 13, 10, 0, 13, 10, 81, 85, 73, 84, 10]).extract 0 m).toList) := by unfold signB; rw [← hm]; rfl
  have HM := Lib.hid hm
  clear hm
  cases hsb : ((b.extract 0 m).toList == ((ByteArray.mk #[13, 10, 13, 10, 0, 13, 10, 81, 85, 73, 84, 10]).extract 0 m).toList) with
  | false =>
    have hgr : getR b = .error 13 := by unfold getR; rw [hsg, hsb, if_pos rfl]
    have hA : ∀ w7, Kp [] w w7 → ∀ e, e = stopped 13 → RdEnd (getC b) e ∧ KpF (fun i o => i = rb ∨ i = sp ∨ i = xb ∨ (xb < i ∧ isFld o)) w w7 ∧ GetIn b xb sp w7 := by
      rintro w7 k7 e rfl
      refine ⟨.inr (by unfold getC; rw [hgr]), KpF.mono k7 (by simp), by unfold GetIn; rw [hgr]; trivial⟩
    have HA := Lib.hid hA
    clear hgr hA hsg
    go_wp2_with fail
    go_region_held (fun w' => w'.cell? ⟨bp, 0, none⟩ = some (.string b)) (go_keep) (first
      | (go_at_call 67; (try rw [hsb]); refine stop_arm (need_stop _ _ _) (fun w9 k9 => ⟨rfl, HA.out w9 ((KpF.drew (Kp.refl [] w)).trans k9 (by simp)) _ rfl⟩) (fun v w9 hF k9 => ?_); have c9 : w9.cell? ⟨bp, 0, none⟩ = some (.string b) := hF.out.elim))
    all_goals exact hF.out.elim
  | true =>
    go_wp2_with fail
    go_region_held3 (fun w' => w'.cell? ⟨bp, 0, none⟩ = some (.string b)) (go_keep) (first
      | (go_at_call 67; (try rw [hsb]); refine (need_yes _ _ _).mono ?_; rintro e w9 ⟨rfl, rfl⟩))
    have hsb2 : signB b = true := by rw [hsg, hsb]
    have HSB := Lib.hid hsb2
    clear hsb hsg hsb2
    have rd0 : IsRd w.drew rb b 0 := ⟨hr.1, hr.2⟩
    have HX0 := Lib.hid (show w.drew.heap[xb]? = _ from HX.out)
    have HS0 := Lib.hid (show w.drew.heap[sp]? = _ from HS.out)
    have HB0 := Lib.hid (show w.drew.heap[bp]? = _ from HBP.out)
    have HG0 := Lib.hid (show GlF w.drew from HG.out)
    have K0 := Lib.hid (KpF.drew (Kp.refl [rb] w))
    generalize w.drew = w0 at *
    clear HX HS HBP HG hr hbb
    go_wp2_with fail
    by_cases h12 : b.size < 12
    · have hgr : getR b = .error 2 := by unfold getR; rw [HSB.out, if_neg (by simp), if_pos h12]
      refine (take_no rb b 0 12 _ rd0 (by omega)).mono ?_
      rintro e w1 ⟨rfl, k1⟩
      exact ⟨rfl, .inr (by unfold getC; rw [hgr]), KpF.mono (K0.out.trans k1 (by simp)) (by intro i o _ g; left; simpa using g), by unfold GetIn; rw [hgr]; trivial⟩
    refine (take_yes rb b 0 12 _ rd0 (by omega) (by omega)).mono ?_
    rintro e w1 ⟨rfl, k1, r1⟩
    have r1 : IsRd w1 rb b 12 := r1
    have X1 := Lib.hid (k1.block HX0.out (by simpa using hne.symm))
    have S1 := Lib.hid (k1.block HS0.out (by simpa using h2))
    have B1 := Lib.hid (k1.block HB0.out (by simpa using h3))
    have G1 := Lib.hid (HG0.out.kp k1 (by simpa using h0.symm))
    have K1 := Lib.hid (K0.out.trans k1 (by simp))
    clear k1 rd0 HX0 HS0 HB0 HG0 K0
    go_wp2_with fail
    refine (lead_ok b 12 rb xb _ _ 0 0 _ G1.out r1 X1.out hne h0 h1).mono ?_
    intro e w2 hL
    cases hlr : leadR b 12 with
    | stop c =>
      have hgr : getR b = .error c := by unfold getR; rw [HSB.out, if_neg (by simp), if_neg h12, hlr]
      rw [hlr] at hL
      obtain ⟨rfl, k2⟩ := hL
      exact ⟨rfl, .inr (by unfold getC; rw [hgr]), KpF.mono (KpF.trans (F := fun i _ => i ∈ [rb, xb]) (KpF.mono K1.out (by simp; omega)) k2 (fun _ _ _ g => g)) (by simp; omega), by unfold GetIn; rw [hgr]; trivial⟩
    | ok f n loc =>
      obtain ⟨hf0, hf16, hn, h16, _⟩ := leadR_ok hlr
      have hn16 : n < 65536 := by rw [hn]; exact num_lt _ _ 2
      rw [hlr] at hL
      obtain ⟨rfl, k2, r2, x2⟩ := hL
      have HLR := Lib.hid hlr
      have X2 := Lib.hid x2
      have S2 := Lib.hid (k2.block S1.out (by simp; omega))
      have B2 := Lib.hid (k2.block B1.out (by simp; omega))
      have K2 := Lib.hid (KpF.trans (F := fun i _ => i ∈ [rb, xb]) (KpF.mono K1.out (by simp; omega)) k2 (fun _ _ _ g => g))
      clear hlr hn x2 k2 r1 X1 S1 B1 G1 K1
      have hs2 := cell_of S2.out 0
      have hlt := heap_lt S2.out
      have hfs := free_of S2.out 0
      simp only [List.getElem?_toArray, List.getElem?_cons_zero] at hs2
      have hw1 : IntKind.i64.wrap (16 + (n : Int)) = 16 + (n : Int) := IntWalk.i64_in _ (by omega)
      have hni := there_of (heap_alloc_new w2 (.cells #[.int .i64 0, .int .i64 0, .int .i64 0] 97))
      go_wp2_with fail
      have x3 := heap_alloc_old (heap_set_other X2.out (p := ⟨sp, 0, none⟩) h4 (.int .i64 (16 + (n : Int)))) (.cells #[.int .i64 f.n, .int .i64 f.code, .int .i64 f.size] 97)
      have s3 := heap_alloc_old (heap_set S2.out 0 (.int .i64 (16 + (n : Int)))) (.cells #[.int .i64 f.n, .int .i64 f.code, .int .i64 f.size] 97)
      have b3 := heap_alloc_old (heap_set_other B2.out (p := ⟨sp, 0, none⟩) h6 (.int .i64 (16 + (n : Int)))) (.cells #[.int .i64 f.n, .int .i64 f.code, .int .i64 f.size] 97)
      have r3 : IsRd _ rb b 16 := ⟨heap_alloc_old (heap_set_other r2.1 (p := ⟨sp, 0, none⟩) h2 (.int .i64 (16 + (n : Int)))) (.cells #[.int .i64 f.n, .int .i64 f.code, .int .i64 f.size] 97), r2.2⟩
      have f3 := heap_alloc_new (w2.setCell ⟨sp, 0, none⟩ (.int .i64 (16 + (n : Int)))) (.cells #[.int .i64 f.n, .int .i64 f.code, .int .i64 f.size] 97)
      rw [World.size_setCell] at f3
      have k3 : KpF (fun i _ => i ∈ [rb, xb, sp]) w ((w2.setCell ⟨sp, 0, none⟩ (.int .i64 (16 + (n : Int)))).alloc (.cells #[.int .i64 f.n, .int .i64 f.code, .int .i64 f.size] 97)) :=
        (KpF.setCell (KpF.mono K2.out (by simp; omega)) ⟨sp, 0, none⟩ _ (by simp)).alloc _
      have hxl := heap_lt X2.out
      have hrl := heap_lt r2.1
      have hbl := heap_lt B2.out
      generalize (w2.setCell ⟨sp, 0, none⟩ (.int .i64 (16 + (n : Int)))).alloc (.cells #[.int .i64 f.n, .int .i64 f.code, .int .i64 f.size] 97) = w3 at *
      generalize w2.heap.size = F at *
      have X3 := Lib.hid x3
      have S3 := Lib.hid s3
      have B3 := Lib.hid b3
      have F3 := Lib.hid f3
      have K3 := Lib.hid k3
      clear x3 s3 b3 f3 k3 hni hfs hs2 hlt X2 S2 B2 K2 r2
      by_cases h16n : b.size < 16 + n
      · have hgr : getR b = .error 2 := by unfold getR; rw [HSB.out, if_neg (by simp), if_neg h12, HLR.out]; simp only []; rw [if_pos h16n]
        refine (take_no rb b 16 n _ r3 (by omega)).mono ?_
        rintro e w4 ⟨rfl, k4⟩
        exact ⟨rfl, .inr (by unfold getC; rw [hgr]), KpF.mono (KpF.trans K3.out k4 (by simp)) (by simp; omega), by unfold GetIn; rw [hgr]; trivial⟩
      refine (take_yes rb b 16 n _ r3 (by omega) (by omega)).mono ?_
      rintro e w4 ⟨rfl, k4, _⟩
      have X4 := Lib.hid (k4.block X3.out (by simpa using hne.symm))
      have S4 := Lib.hid (k4.block S3.out (by simpa using h2))
      have B4 := Lib.hid (k4.block B3.out (by simpa using h3))
      have F4 := Lib.hid (k4.block F3.out (by simp; omega))
      have K4 := Lib.hid (KpF.trans (F := fun i _ => i ∈ [rb, xb, sp]) K3.out k4 (by simp; omega))
      clear k4 r3 X3 S3 B3 F3 K3
      obtain ⟨g0, g1, g2, _⟩ := cells3 F4.out
      have e16 : 16 + (n : Int) = ((16 + n : Nat) : Int) := by omega
      rw [e16]
      rw [e16] at S4
      have cs : w4.cell? ⟨sp, 0, none⟩ = some (.int .i64 ((16 + n : Nat) : Int)) := by rw [cell_of S4.out 0]; rfl
      have cb := cell_of B4.out 0
      simp only [List.getElem?_toArray, List.getElem?_cons_zero] at cb
      have hv0 : (0 : Int) ≤ ((16 + n : Nat) : Int) := by omega
      have hv1 : ((16 + n : Nat) : Int) ≤ b.size := by omega
      have hfol : Calls Tryz.prog 70 #[.pointer (some ⟨xb, 0, none⟩), .string (b.extract 0 (16 + n)), fv f] w4.drew fun e w' => e = .returned (.int .i64 (folC (b.extract 0 (16 + n)) f)) ∧ KpX xb xb w4 w' ∧ FolIn (b.extract 0 (16 + n)) f loc xb w' := by
        refine (fol_ok (b.extract 0 (16 + n)) f loc xb w4.drew ⟨hf0, hf16⟩ (by simp; omega) (by simp; omega) X4.out).mono ?_
        rintro e w5 ⟨rfl, k5, h5⟩
        exact ⟨rfl, KpF.trans (KpF.drew (KpF.refl _ w4)) k5 (fun _ _ _ g => g), h5⟩
      have HFOL := Lib.hid hfol
      clear hfol
      go_wp2_with fail
      obtain ⟨N, hN⟩ : ∃ N, N = 16 + n := ⟨_, rfl⟩
      rw [← hN] at cs hv0 hv1 HFOL S4 ⊢
      have HN := Lib.hid hN
      have H16N := Lib.hid h16n
      have hbn : 16 ≤ N := by omega
      clear e16 hN hw1 hn16 h16 h16n hb h0 h1 hf0 hf16
      go_region_held3 (fun w' => w'.cell? ⟨bp, 0, none⟩ = some (.string b) ∧ w'.cell? ⟨sp, 0, none⟩ = some (.int .i64 (N : Int)) ∧ w'.cell? ⟨F, 0, none⟩ = some (.int .i64 f.n) ∧ w'.cell? ⟨F, 1, none⟩ = some (.int .i64 f.code) ∧ w'.cell? ⟨F, 2, none⟩ = some (.int .i64 f.size)) (go_keep) (first
        | (go_at_call 70; refine HFOL.out.mono ?_; rintro e w5 ⟨rfl, k5, h5⟩; have S5 := k5.keep_other S4.out h4 h4 (by decide); have B5 := k5.keep_other B4.out (by omega) (by omega) (by decide); have F5 := k5.keep_other F4.out (by omega) (by omega) (by decide); obtain ⟨y0, y1, y2, _⟩ := cells3 F5; have ys : w5.cell? ⟨sp, 0, none⟩ = some (.int .i64 (N : Int)) := (cell_of S5 0).trans rfl; have yb := (cell_of B5 0)))
      have SH := Lib.hid S5
      have K5 := Lib.hid k5
      have F5 := Lib.hid h5
      have HG5 : Go.RowKit.Hid (getR b = (match folR (b.extract 0 N) f with | .error c => .error c | .ok st => .ok (f, n, loc, st))) := Lib.hid (by
        unfold getR; rw [HSB.out, if_neg (by simp), if_neg h12, HLR.out]; simp only []; rw [if_neg H16N.out, ← HN.out])
      have KK : Go.RowKit.Hid (KpF (fun i o => i = rb ∨ i = sp ∨ i = xb ∨ (xb < i ∧ isFld o)) w w5) := Lib.hid (KpF.trans (KpF.mono K4.out (by simp; omega)) k5 (by rintro i o _ (g | g | g); exact .inr (.inr (.inl g)); exact .inr (.inr (.inl g)); exact .inr (.inr (.inr g))))
      clear S5 B5 k5 h5 y0 y1 y2 ys yb cs cb g0 g1 g2 hv0 hv1 K4
      cases hfr : folR (b.extract 0 N) f with
      | error c =>
        have hc : folC (b.extract 0 N) f = c := by unfold folC; rw [hfr]
        have hc0 := folR_err hfr
        have hb0 : ((c : Int) == 0) = false := by rw [beq_eq_false_iff_ne]; omega
        have hg : getR b = .error c := by rw [HG5.out, hfr]
        have HG6 := Lib.hid hg
        rw [hc]
        clear hfr hc hc0 hg
        go_wp2_with fail
        refine (need_stop _ _ _).mono ?_
        rintro e w6 ⟨rfl, k6⟩
        exact ⟨rfl, .inr (by unfold getC; rw [HG6.out]), KpF.trans KK.out k6 (by simp), by unfold GetIn; rw [HG6.out]; trivial⟩
      | ok st =>
        have hc : folC (b.extract 0 N) f = 0 := by unfold folC; rw [hfr]
        have hg : getR b = .ok (f, n, loc, st) := by rw [HG5.out, hfr]
        have HG6 := Lib.hid hg
        rw [hc]
        clear hfr hc hg
        go_wp2_with fail
        go_end0
        refine ⟨.inl ⟨rfl, by unfold getC; rw [HG6.out]⟩, KK.out, ?_⟩
        unfold GetIn; rw [HG6.out]
        refine ⟨?_, by rw [← HN.out]; exact F5.out⟩
        rw [← HN.out]; exact SH.out
end Go.Proofs.YthcphjmknbiadaaGreatDoor
