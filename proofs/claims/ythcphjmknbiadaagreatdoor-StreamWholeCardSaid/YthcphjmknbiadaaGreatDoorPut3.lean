/- The second version's Put. -/
import Derived.Test.YthcphjmknbiadaaGreatDoorPut2
namespace Go.Proofs.YthcphjmknbiadaaGreatDoor
set_option maxRecDepth 100000
set_option linter.unusedVariables false
open Go.RowKit (wrap32 wrap64 intOf)

def signL : List UInt8 := [13, 10, 13, 10, 0, 13, 10, 81, 85, 73, 84, 10]
def tailL (x : Strm) (f : Fam) (sl : Bool) : List UInt8 := restL x f ++ (if sl then [3, 0, 4, 0, 0, 0, 0] else [])
/-- The bytes, the seal's sum not yet reckoned. -/
def bodyL (x : Strm) (f : Fam) (sl : Bool) : List UInt8 := signL ++ be (if x.loc then 32 else 33) 1 ++ be f.code.toNat 1 ++ be (tailL x f sl).length 2 ++ tailL x f sl
def sealedL (l : List UInt8) : List UInt8 := l.take (l.length - 4) ++ be (crcSum [⟨l.toArray⟩]) 4
/-- Put's answer. -/
def put2 (x : Strm) (sl : Bool) : List UInt8 × Int :=
  if check2 x sl = 0 then
    match famOf x.fam with
    | none => ([], 0)
    | some f => if sl then (sealedL (bodyL x f sl), 0) else (bodyL x f sl, 0)
  else ([], check2 x sl)
theorem check2_zero (x : Strm) (sl : Bool) (h : check2 x sl = 0) : ∃ f, famOf x.fam = some f ∧ mayB x f = true ∧ (tailL x f sl).length ≤ 65535 := by
  unfold check2 at h
  cases hfo : famOf x.fam with
  | none => rw [hfo] at h; simp at h
  | some f =>
    rw [hfo] at h
    refine ⟨f, rfl, ?_⟩
    simp only at h
    cases hm : mayB x f with
    | false => rw [hm] at h; simp at h
    | true =>
      rw [hm] at h
      simp only [if_true] at h
      refine ⟨rfl, ?_⟩
      have h2 : (restL x f).length + (if sl = true then 7 else 0) ≤ 65535 := by
        by_cases g : (restL x f).length + (if sl = true then 7 else 0) > 65535
        · rw [if_pos g] at h; omega
        · omega
      unfold tailL
      cases sl <;> simp at * <;> omega

theorem mk_extract (l : List UInt8) (n : Nat) : (ByteArray.mk l.toArray).extract 0 n = ByteArray.mk (l.take n).toArray := by
  apply ByteArray.ext
  apply Array.toList_inj.1
  rw [Lib.extract_data]
  simp
theorem mk_append (a b : List UInt8) : ByteArray.mk a.toArray ++ ByteArray.mk b.toArray = ByteArray.mk (a ++ b).toArray := by
  apply ByteArray.ext
  simp
theorem bodyL_len (x : Strm) (f : Fam) (h : (tailL x f true).length ≤ 65535) : 20 ≤ (bodyL x f true).length ∧ (bodyL x f true).length ≤ 65551 := by
  have h7 : 7 ≤ (tailL x f true).length := by unfold tailL; simp
  unfold bodyL
  simp [be_length, signL]
  omega
set_option maxHeartbeats 2000000 in
theorem put2_ok (x : Strm) (A : Option Addr) (c : Nat) (sl : Bool) (w : World) (hg : GlF w) (hf : FAt w A x.flds) (hn : x.flds.length ≤ 1000) (hs : x.src.size ≤ 140737488351232) (hd : x.dst.size ≤ 140737488351232) :
    Calls Tryz.prog 30 #[sval x A c, .bool sl] w fun e w' => e = .returned (.tuple #[.string ⟨(put2 x sl).1.toArray⟩, .int .i64 (put2 x sl).2]) ∧ Kp [] w w' := by
  have hmf : ∀ (fn : Fn) (first cap : Array Value) (w : World), (Instr.makeFunc fn first cap).run Tryz.prog w = .ok (.func fn first cap) w := fun _ _ _ _ => rfl
  have HG := Lib.hid hg
  have HFF := Lib.hid hf
  clear hg hf
  have hk0 : Kp [] w (w.alloc (.cells (scells x A c) 24)) := (Kp.refl [] w).alloc _
  have hsb0 := heap_alloc_new w (.cells (scells x A c) 24)
  go_enter Tryz.func30, Tryz.ntmps30
  go_wp2_with fail
  refine (check2_ok x A c sl _ (HG.out.kp hk0 (by simp)) (HFF.out.below hk0 (by simp)) hn hs hd).mono ?_
  rintro e w1 ⟨rfl, k1⟩
  have hk1 : Kp [] w w1 := hk0.trans k1 (by simp)
  have hsb1 := k1.block hsb0 (by simp)
  clear hsb0 k1 hk0
  by_cases hz : check2 x sl = 0
  · obtain ⟨f, hfo, hmy, htl⟩ := check2_zero x sl hz
    have hfin : put2 x sl = (if sl then (sealedL (bodyL x f sl), 0) else (bodyL x f sl, 0)) := by unfold put2; rw [if_pos hz, hfo]
    have HFI := Lib.hid hfin
    rw [hz]
    clear hfin hz
    obtain ⟨z0, z1, z2, z3, z4⟩ := famOf_size _ _ hfo
    go_wp2_with fail
    refine (find_ok 57 #[.pointer (some ⟨w.heap.size, 0, none⟩)] (fun f => f.n == x.fam) _ (HG.out.kp hk1 (by simp)) (fun _ _ => by simp [go_sem]) (fun w1 j k => isn_ok2 _ _ _ _ (by rw [cell_of (k.block hsb1 (by simp)) 1]; rfl))).mono ?_
    rintro e w2 ⟨rfl, k2⟩
    have hk2 : Kp [] w w2 := hk1.trans k2 (by simp)
    have hsb2 := k2.block hsb1 (by simp)
    rw [famFind_some _ _ hfo]
    obtain ⟨m1, m2, m3, m4, m5⟩ := mayB_yes x f hmy
    have M3 := Lib.hid m3
    have q1 : x.src.size ≤ 70000 := by omega
    have q2 : x.dst.size ≤ 70000 := by omega
    clear hfo hmy z4 k2 hsb1 m3 m4 m5
    obtain ⟨c0, c1, c2, c3, c4, c5, c6, _⟩ := cells7 hsb2
    have hlt2 := heap_lt hsb2
    go_wp2_with fail
    have hk3 : Kp [] w (w2.alloc (.cells #[.int .i64 f.n, .int .i64 f.code, .int .i64 f.size] 97)) := hk2.alloc _
    refine (rest_ok x A c f _ (HFF.out.below hk3 (by simp)) hn q1 q2 m1 m2 M3.out).mono ?_
    rintro e w3 ⟨rfl, k3⟩
    have hsb3 := k3.block (heap_alloc_old hsb2 (.cells #[.int .i64 f.n, .int .i64 f.code, .int .i64 f.size] 97)) (by simp)
    have hfb3 := k3.block (heap_alloc_new w2 (.cells #[.int .i64 f.n, .int .i64 f.code, .int .i64 f.size] 97)) (by simp)
    have hk4 : Kp [] w w3 := hk3.trans k3 (by simp)
    have hlt3 := heap_lt hfb3
    clear c0 c1 c2 c3 c4 c5 c6 hsb2 k3 hk3
    have hrz : (ByteArray.mk (restL x f).toArray).size ≤ 65535 := by
      have : (ByteArray.mk (restL x f).toArray).size = (restL x f).length := rfl
      rw [this]; unfold tailL at htl; simp at htl; omega
    cases sl with
    | true =>
      have htl' : (ByteArray.mk (restL x f).toArray ++ ByteArray.mk #[3, 0, 4, 0, 0, 0, 0]).data.toList = tailL x f true := by unfold tailL; simp
      generalize htt : (ByteArray.mk (restL x f).toArray ++ ByteArray.mk #[3, 0, 4, 0, 0, 0, 0]) = tl at *
      have htz0 : tl.size = (tailL x f true).length := by rw [← htl']; rfl
      have htz : tl.size ≤ 65535 := by omega
      have HTZ := Lib.hid htz0
      clear htz0
      have HTT := Lib.hid htt
      have HTL := Lib.hid htl'
      have hcat : ∀ (w : World), (Op.stringOp .add (ByteArray.mk (restL x f).toArray) (ByteArray.mk #[3, 0, 4, 0, 0, 0, 0])).run Tryz.prog w = .ok (.string tl) w := fun w => by rw [run_string_add_sum _ _ _ (by have : (ByteArray.mk #[3, 0, 4, 0, 0, 0, 0]).size = 7 := rfl; omega), HTT.out]
      clear htt htl'
      cases hloc : x.loc with
      | true =>
        have hbl : bodyL x f true = [] ++ (ByteArray.mk #[13, 10, 13, 10, 0, 13, 10, 81, 85, 73, 84, 10]).data.toList ++ be (32 : Int).toNat 1 ++ be f.code.toNat 1 ++ be (tl.size : Int).toNat 2 ++ tl.data.toList := by
          unfold bodyL; rw [hloc, ← HTZ.out, HTL.out]; simp [signL]
        have HBL := Lib.hid hbl
        clear hbl
        obtain ⟨c0, _⟩ := cells7 hsb3
        rw [hloc] at c0
        obtain ⟨_, d1, _⟩ := cells3 hfb3
        go_wp2_with fail
        refine (text_ok _ [] _ _ (IsWr.fresh (heap_alloc_new w3 _)) (by decide)).mono ?_
        rintro e v1 ⟨rfl, g1, k1⟩
        have hsc1 := k1.old (heap_alloc_old hsb3 _) (by omega)
        have hfc1 := k1.old (heap_alloc_old hfb3 _) (by omega)
        clear c0 d1
        obtain ⟨c0, _⟩ := cells7 hsc1
        rw [hloc] at c0
        obtain ⟨_, d1, _⟩ := cells3 hfc1
        go_wp2_with fail
        refine (wu8_ok _ _ 32 _ g1 (by decide) (by decide) (by decide)).mono ?_
        rintro e v2 ⟨rfl, g2, k2⟩
        have hfc2 := k2.old hfc1 (by omega)
        clear c0 d1
        obtain ⟨_, d1, _⟩ := cells3 hfc2
        go_wp2_with fail
        refine (wu8_ok _ _ f.code _ g2 z2 (by omega) (by simp [be_length])).mono ?_
        rintro e v3 ⟨rfl, g3, k3⟩
        clear d1
        go_wp2_with fail
        refine (wu16_ok _ _ (tl.size : Int) _ g3 (by omega) (by omega) (by simp [be_length])).mono ?_
        rintro e v4 ⟨rfl, g4, k4⟩
        go_wp2_with fail
        refine (text_ok _ _ tl _ g4 (by simp [be_length]; omega)).mono ?_
        rintro e v5 ⟨rfl, g5, k5⟩
        rw [← HBL.out] at g5
        have k6 := (((k1.trans k2).trans k3).trans k4).trans k5
        have hk6 : Kp [] w v5 := KpW.kp (hk4.alloc _) k6 (by have := hk4.size; omega)
        have hnb := g5.lt
        clear k1 k2 k3 k4 k5 g1 g2 g3 g4 hsc1 hfc1 hfc2
        go_wp2_with fail
        refine (wstring_ok _ _ _ g5).mono ?_
        rintro e v6 ⟨rfl, k7⟩
        have hk7 : Kp [] w v6 := KpW.kp hk6 k7 (by have := hk4.size; omega)
        have hbs : (ByteArray.mk (bodyL x f true).toArray).size = (bodyL x f true).length := rfl
        have hbn : 20 ≤ (bodyL x f true).length ∧ (bodyL x f true).length ≤ 65551 := bodyL_len x f htl
        generalize hbb : (ByteArray.mk (bodyL x f true).toArray) = B at *
        generalize hLL : (bodyL x f true).length = L at *
        have HBB := Lib.hid hbb
        have HLL := Lib.hid hLL
        clear hbb hLL
        go_wp2_with fail
        have hk8 : Kp [] w ((v6.alloc (.cells #[.pointer none, .slice none 0 0] 106)).alloc (.cells #[.string B] 9)) := (hk7.alloc _).alloc _
        have hw8 := alloc2_0 v6 (.cells #[.pointer none, .slice none 0 0] 106) (.cells #[.string B] 9)
        have hs8 := alloc2_1 v6 (.cells #[.pointer none, .slice none 0 0] 106) (.cells #[.string B] 9)
        refine (sum_ok (v6.heap.size + 1) 1 [B] _ ?_ (by simp) ?_).mono ?_
        · intro s hs; simp at hs; subst hs; omega
        · intro j s hj
          match j, hj with
          | 0, hj => simp at hj; subst hj; rw [cell_of hs8 0]; rfl
        rintro e v7 ⟨rfl, k8⟩
        have hw9 := k8.block hw8 (by simp)
        have hk9 : Kp [] w v7 := hk8.trans k8 (by simp)
        have hcs : crcSum [B] < 4294967296 := by unfold crcSum; omega
        clear hw8 hs8 k8
        go_wp2_with fail
        refine (wu32_ok _ [] (crcSum [B] : Nat) _ (IsWr.fresh hw9) (by omega) (by omega) (by decide)).mono ?_
        rintro e v8 ⟨rfl, g8, k9⟩
        have hk10 : Kp [] w v8 := KpW.kp hk9 k9 hk7.size
        have e1 : IntKind.i64.wrap ((L : Int) - 4) = (L : Int) - 4 := IntWalk.i64_in _ (by omega)
        have e2 : (0 : Int) ≤ (L : Int) - 4 := by omega
        have e3 : (L : Int) - 4 ≤ L := by omega
        rw [Int.toNat_natCast] at g8
        have hEl : (([] : List UInt8) ++ be (crcSum [B]) 4).length = 4 := by simp [be_length]
        have hE0 : ([] : List UInt8) ++ be (crcSum [B]) 4 = be (crcSum [B]) 4 := rfl
        generalize hE : (([] : List UInt8) ++ be (crcSum [B]) 4) = E at *
        have hcat2 : ∀ (n : Nat) (w : World), (Op.stringOp .add (B.extract 0 n) (ByteArray.mk E.toArray)).run Tryz.prog w = .ok (.string (B.extract 0 n ++ ByteArray.mk E.toArray)) w := fun n w => by
          have h1 : (B.extract 0 n).size ≤ B.size := by simp; omega
          have h2 : (ByteArray.mk E.toArray).size = 4 := hEl
          exact run_string_add_sum _ _ _ (by omega)
        have hfn : ∀ n, n = L - 4 → Ending.returned (.tuple #[.string (B.extract 0 n ++ ByteArray.mk E.toArray), .int .i64 0]) = Ending.returned (.tuple #[.string ⟨(put2 x true).1.toArray⟩, .int .i64 (put2 x true).2]) := fun n hn => by
          rw [HFI.out]
          simp only [if_true]
          unfold sealedL
          rw [HBB.out, HLL.out, ← hE0, hn, ← HBB.out, mk_extract, mk_append]
        have HFN := Lib.hid hfn
        clear hfn
        have HE := Lib.hid hE
        have HE0 := Lib.hid hE0
        clear hE hE0 hEl hcs
        go_wp2
        go_region_with (go_at_call 62; refine (wstring_ok _ _ _ g8.drew).mono ?_; rintro e v9 ⟨rfl, k10⟩)
        all_goals (go_wp2; go_ret2; exact ⟨HFN.out _ (by omega), KpW.kp (KpF.drew hk10) k10 hk7.size⟩)
      | false =>
        have hbl : bodyL x f true = [] ++ (ByteArray.mk #[13, 10, 13, 10, 0, 13, 10, 81, 85, 73, 84, 10]).data.toList ++ be (33 : Int).toNat 1 ++ be f.code.toNat 1 ++ be (tl.size : Int).toNat 2 ++ tl.data.toList := by
          unfold bodyL; rw [hloc, ← HTZ.out, HTL.out]; simp [signL]
        have HBL := Lib.hid hbl
        clear hbl
        obtain ⟨c0, _⟩ := cells7 hsb3
        rw [hloc] at c0
        obtain ⟨_, d1, _⟩ := cells3 hfb3
        go_wp2_with fail
        refine (text_ok _ [] _ _ (IsWr.fresh (heap_alloc_new w3 _)) (by decide)).mono ?_
        rintro e v1 ⟨rfl, g1, k1⟩
        have hsc1 := k1.old (heap_alloc_old hsb3 _) (by omega)
        have hfc1 := k1.old (heap_alloc_old hfb3 _) (by omega)
        clear c0 d1
        obtain ⟨c0, _⟩ := cells7 hsc1
        rw [hloc] at c0
        obtain ⟨_, d1, _⟩ := cells3 hfc1
        go_wp2_with fail
        refine (wu8_ok _ _ 33 _ g1 (by decide) (by decide) (by decide)).mono ?_
        rintro e v2 ⟨rfl, g2, k2⟩
        have hfc2 := k2.old hfc1 (by omega)
        clear c0 d1
        obtain ⟨_, d1, _⟩ := cells3 hfc2
        go_wp2_with fail
        refine (wu8_ok _ _ f.code _ g2 z2 (by omega) (by simp [be_length])).mono ?_
        rintro e v3 ⟨rfl, g3, k3⟩
        clear d1
        go_wp2_with fail
        refine (wu16_ok _ _ (tl.size : Int) _ g3 (by omega) (by omega) (by simp [be_length])).mono ?_
        rintro e v4 ⟨rfl, g4, k4⟩
        go_wp2_with fail
        refine (text_ok _ _ tl _ g4 (by simp [be_length]; omega)).mono ?_
        rintro e v5 ⟨rfl, g5, k5⟩
        rw [← HBL.out] at g5
        have k6 := (((k1.trans k2).trans k3).trans k4).trans k5
        have hk6 : Kp [] w v5 := KpW.kp (hk4.alloc _) k6 (by have := hk4.size; omega)
        have hnb := g5.lt
        clear k1 k2 k3 k4 k5 g1 g2 g3 g4 hsc1 hfc1 hfc2
        go_wp2_with fail
        refine (wstring_ok _ _ _ g5).mono ?_
        rintro e v6 ⟨rfl, k7⟩
        have hk7 : Kp [] w v6 := KpW.kp hk6 k7 (by have := hk4.size; omega)
        have hbs : (ByteArray.mk (bodyL x f true).toArray).size = (bodyL x f true).length := rfl
        have hbn : 20 ≤ (bodyL x f true).length ∧ (bodyL x f true).length ≤ 65551 := bodyL_len x f htl
        generalize hbb : (ByteArray.mk (bodyL x f true).toArray) = B at *
        generalize hLL : (bodyL x f true).length = L at *
        have HBB := Lib.hid hbb
        have HLL := Lib.hid hLL
        clear hbb hLL
        go_wp2_with fail
        have hk8 : Kp [] w ((v6.alloc (.cells #[.pointer none, .slice none 0 0] 106)).alloc (.cells #[.string B] 9)) := (hk7.alloc _).alloc _
        have hw8 := alloc2_0 v6 (.cells #[.pointer none, .slice none 0 0] 106) (.cells #[.string B] 9)
        have hs8 := alloc2_1 v6 (.cells #[.pointer none, .slice none 0 0] 106) (.cells #[.string B] 9)
        refine (sum_ok (v6.heap.size + 1) 1 [B] _ ?_ (by simp) ?_).mono ?_
        · intro s hs; simp at hs; subst hs; omega
        · intro j s hj
          match j, hj with
          | 0, hj => simp at hj; subst hj; rw [cell_of hs8 0]; rfl
        rintro e v7 ⟨rfl, k8⟩
        have hw9 := k8.block hw8 (by simp)
        have hk9 : Kp [] w v7 := hk8.trans k8 (by simp)
        have hcs : crcSum [B] < 4294967296 := by unfold crcSum; omega
        clear hw8 hs8 k8
        go_wp2_with fail
        refine (wu32_ok _ [] (crcSum [B] : Nat) _ (IsWr.fresh hw9) (by omega) (by omega) (by decide)).mono ?_
        rintro e v8 ⟨rfl, g8, k9⟩
        have hk10 : Kp [] w v8 := KpW.kp hk9 k9 hk7.size
        have e1 : IntKind.i64.wrap ((L : Int) - 4) = (L : Int) - 4 := IntWalk.i64_in _ (by omega)
        have e2 : (0 : Int) ≤ (L : Int) - 4 := by omega
        have e3 : (L : Int) - 4 ≤ L := by omega
        rw [Int.toNat_natCast] at g8
        have hEl : (([] : List UInt8) ++ be (crcSum [B]) 4).length = 4 := by simp [be_length]
        have hE0 : ([] : List UInt8) ++ be (crcSum [B]) 4 = be (crcSum [B]) 4 := rfl
        generalize hE : (([] : List UInt8) ++ be (crcSum [B]) 4) = E at *
        have hcat2 : ∀ (n : Nat) (w : World), (Op.stringOp .add (B.extract 0 n) (ByteArray.mk E.toArray)).run Tryz.prog w = .ok (.string (B.extract 0 n ++ ByteArray.mk E.toArray)) w := fun n w => by
          have h1 : (B.extract 0 n).size ≤ B.size := by simp; omega
          have h2 : (ByteArray.mk E.toArray).size = 4 := hEl
          exact run_string_add_sum _ _ _ (by omega)
        have hfn : ∀ n, n = L - 4 → Ending.returned (.tuple #[.string (B.extract 0 n ++ ByteArray.mk E.toArray), .int .i64 0]) = Ending.returned (.tuple #[.string ⟨(put2 x true).1.toArray⟩, .int .i64 (put2 x true).2]) := fun n hn => by
          rw [HFI.out]
          simp only [if_true]
          unfold sealedL
          rw [HBB.out, HLL.out, ← hE0, hn, ← HBB.out, mk_extract, mk_append]
        have HFN := Lib.hid hfn
        clear hfn
        have HE := Lib.hid hE
        have HE0 := Lib.hid hE0
        clear hE hE0 hEl hcs
        go_wp2
        go_region_with (go_at_call 62; refine (wstring_ok _ _ _ g8.drew).mono ?_; rintro e v9 ⟨rfl, k10⟩)
        all_goals (go_wp2; go_ret2; exact ⟨HFN.out _ (by omega), KpW.kp (KpF.drew hk10) k10 hk7.size⟩)
    | false =>
      have htl' : (ByteArray.mk (restL x f).toArray).data.toList = tailL x f false := by unfold tailL; simp
      generalize htt : (ByteArray.mk (restL x f).toArray) = tl at *
      have htz0 : tl.size = (tailL x f false).length := by rw [← htl']; rfl
      have htz : tl.size ≤ 65535 := by omega
      have HTZ := Lib.hid htz0
      clear htz0
      have HTT := Lib.hid htt
      have HTL := Lib.hid htl'
      clear htt htl'
      cases hloc : x.loc with
      | true =>
        have hbl : bodyL x f false = [] ++ (ByteArray.mk #[13, 10, 13, 10, 0, 13, 10, 81, 85, 73, 84, 10]).data.toList ++ be (32 : Int).toNat 1 ++ be f.code.toNat 1 ++ be (tl.size : Int).toNat 2 ++ tl.data.toList := by
          unfold bodyL; rw [hloc, ← HTZ.out, HTL.out]; simp [signL]
        have HBL := Lib.hid hbl
        clear hbl
        obtain ⟨c0, _⟩ := cells7 hsb3
        rw [hloc] at c0
        obtain ⟨_, d1, _⟩ := cells3 hfb3
        go_wp2_with fail
        refine (text_ok _ [] _ _ (IsWr.fresh (heap_alloc_new w3 _)) (by decide)).mono ?_
        rintro e v1 ⟨rfl, g1, k1⟩
        have hsc1 := k1.old (heap_alloc_old hsb3 _) (by omega)
        have hfc1 := k1.old (heap_alloc_old hfb3 _) (by omega)
        clear c0 d1
        obtain ⟨c0, _⟩ := cells7 hsc1
        rw [hloc] at c0
        obtain ⟨_, d1, _⟩ := cells3 hfc1
        go_wp2_with fail
        refine (wu8_ok _ _ 32 _ g1 (by decide) (by decide) (by decide)).mono ?_
        rintro e v2 ⟨rfl, g2, k2⟩
        have hfc2 := k2.old hfc1 (by omega)
        clear c0 d1
        obtain ⟨_, d1, _⟩ := cells3 hfc2
        go_wp2_with fail
        refine (wu8_ok _ _ f.code _ g2 z2 (by omega) (by simp [be_length])).mono ?_
        rintro e v3 ⟨rfl, g3, k3⟩
        clear d1
        go_wp2_with fail
        refine (wu16_ok _ _ (tl.size : Int) _ g3 (by omega) (by omega) (by simp [be_length])).mono ?_
        rintro e v4 ⟨rfl, g4, k4⟩
        go_wp2_with fail
        refine (text_ok _ _ tl _ g4 (by simp [be_length]; omega)).mono ?_
        rintro e v5 ⟨rfl, g5, k5⟩
        rw [← HBL.out] at g5
        have k6 := (((k1.trans k2).trans k3).trans k4).trans k5
        have hk6 : Kp [] w v5 := KpW.kp (hk4.alloc _) k6 (by have := hk4.size; omega)
        have hnb := g5.lt
        clear k1 k2 k3 k4 k5 g1 g2 g3 g4 hsc1 hfc1 hfc2
        go_wp2_with fail
        refine (wstring_ok _ _ _ g5).mono ?_
        rintro e v6 ⟨rfl, k7⟩
        have hk7 : Kp [] w v6 := KpW.kp hk6 k7 (by have := hk4.size; omega)
        go_wp2_with fail
        go_ret2
        exact ⟨by rw [HFI.out]; rfl, hk7⟩
      | false =>
        have hbl : bodyL x f false = [] ++ (ByteArray.mk #[13, 10, 13, 10, 0, 13, 10, 81, 85, 73, 84, 10]).data.toList ++ be (33 : Int).toNat 1 ++ be f.code.toNat 1 ++ be (tl.size : Int).toNat 2 ++ tl.data.toList := by
          unfold bodyL; rw [hloc, ← HTZ.out, HTL.out]; simp [signL]
        have HBL := Lib.hid hbl
        clear hbl
        obtain ⟨c0, _⟩ := cells7 hsb3
        rw [hloc] at c0
        obtain ⟨_, d1, _⟩ := cells3 hfb3
        go_wp2_with fail
        refine (text_ok _ [] _ _ (IsWr.fresh (heap_alloc_new w3 _)) (by decide)).mono ?_
        rintro e v1 ⟨rfl, g1, k1⟩
        have hsc1 := k1.old (heap_alloc_old hsb3 _) (by omega)
        have hfc1 := k1.old (heap_alloc_old hfb3 _) (by omega)
        clear c0 d1
        obtain ⟨c0, _⟩ := cells7 hsc1
        rw [hloc] at c0
        obtain ⟨_, d1, _⟩ := cells3 hfc1
        go_wp2_with fail
        refine (wu8_ok _ _ 33 _ g1 (by decide) (by decide) (by decide)).mono ?_
        rintro e v2 ⟨rfl, g2, k2⟩
        have hfc2 := k2.old hfc1 (by omega)
        clear c0 d1
        obtain ⟨_, d1, _⟩ := cells3 hfc2
        go_wp2_with fail
        refine (wu8_ok _ _ f.code _ g2 z2 (by omega) (by simp [be_length])).mono ?_
        rintro e v3 ⟨rfl, g3, k3⟩
        clear d1
        go_wp2_with fail
        refine (wu16_ok _ _ (tl.size : Int) _ g3 (by omega) (by omega) (by simp [be_length])).mono ?_
        rintro e v4 ⟨rfl, g4, k4⟩
        go_wp2_with fail
        refine (text_ok _ _ tl _ g4 (by simp [be_length]; omega)).mono ?_
        rintro e v5 ⟨rfl, g5, k5⟩
        rw [← HBL.out] at g5
        have k6 := (((k1.trans k2).trans k3).trans k4).trans k5
        have hk6 : Kp [] w v5 := KpW.kp (hk4.alloc _) k6 (by have := hk4.size; omega)
        have hnb := g5.lt
        clear k1 k2 k3 k4 k5 g1 g2 g3 g4 hsc1 hfc1 hfc2
        go_wp2_with fail
        refine (wstring_ok _ _ _ g5).mono ?_
        rintro e v6 ⟨rfl, k7⟩
        have hk7 : Kp [] w v6 := KpW.kp hk6 k7 (by have := hk4.size; omega)
        go_wp2_with fail
        go_ret2
        exact ⟨by rw [HFI.out]; rfl, hk7⟩
  · have hfin : put2 x sl = ([], check2 x sl) := by unfold put2; rw [if_neg hz]
    have HFI := Lib.hid hfin
    have hz' : (check2 x sl == 0) = false := by simpa using hz
    clear hfin hz
    go_wp2
    go_ret2
    exact ⟨by rw [HFI.out]; rfl, hk1⟩
end Go.Proofs.YthcphjmknbiadaaGreatDoor
