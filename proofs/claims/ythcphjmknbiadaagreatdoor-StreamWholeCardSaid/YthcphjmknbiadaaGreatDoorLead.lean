/- The second version's lead, read. -/
import Derived.Test.YthcphjmknbiadaaGreatDoorPut2
namespace Go.Proofs.YthcphjmknbiadaaGreatDoor
set_option maxRecDepth 100000
set_option linter.unusedVariables false
open Go.RowKit (wrap32 wrap64 intOf)

/-- What was read: the struct's cells. -/
abbrev xcells (x : Strm) (v : Value) (sat sn : Nat) : Array Value := #[.bool x.loc, .int .i64 x.fam, .string x.src, .string x.dst, .int .i64 x.sp, .int .i64 x.dp, v, .int .i64 sat, .int .u32 sn]
def famCode (c : Int) : Option Fam := famL.find? fun f => f.code == c
inductive LeadR where
  | stop (c : Int)
  | ok (f : Fam) (n : Nat) (loc : Bool)
def leadR (b : ByteArray) (k : Nat) : LeadR :=
  if b.size < k + 1 then .stop 2 else
  if num b k 1 / 16 ≠ 2 then .stop 3 else
  if 2 ≤ num b k 1 % 16 then .stop 9 else
  if b.size < k + 2 then .stop 2 else
  match famCode (num b (k + 1) 1) with
  | none => .stop 6
  | some f => if b.size < k + 4 then .stop 2 else .ok f (num b (k + 2) 2) (num b k 1 % 16 == 0)
def LeadPost (b : ByteArray) (k rb xb : Nat) (x : Strm) (v : Value) (sat sn : Nat) (w : World) (r : LeadR) (e : Ending) (w' : World) : Prop :=
  match r with
  | .stop c => e = stopped c ∧ Kp [rb, xb] w w'
  | .ok f n loc => e = .returned (.tuple #[fv f, .int .i64 n]) ∧ Kp [rb, xb] w w' ∧ IsRd w' rb b (k + 4) ∧ w'.heap[xb]? = some (.cells (xcells { x with loc := loc } v sat sn) 113 (0, 0))

theorem famFind_code (c : Int) : famFind (fun f => f.code == c) = match famCode c with | some f => .tuple #[fv f, .bool true] | none => .tuple #[fv ⟨0, 0, 0⟩, .bool false] := rfl
theorem i64_and15 (n : Int) : bits .and .i64 n 15 = n % 16 := by
  have h15 : (BitVec.ofInt 64 15).toNat = 2 ^ 4 - 1 := by decide
  have key : (BitVec.ofInt 64 n &&& BitVec.ofInt 64 15).toNat = (n % ((2 ^ 64 : Nat) : Int)).toNat % 2 ^ 4 := by
    rw [BitVec.toNat_and, BitVec.toNat_ofInt, h15, Nat.and_two_pow_sub_one_eq_mod]
  show IntKind.i64.wrap ((BitVec.ofInt 64 n &&& BitVec.ofInt 64 15).toNat : Nat) = n % 16
  rw [key, IntKind.wrap_i64]
  omega
theorem lead_ok (b : ByteArray) (k rb xb : Nat) (x : Strm) (v : Value) (sat sn : Nat) (w : World) (hg : GlF w) (hr : IsRd w rb b k) (hx : w.heap[xb]? = some (.cells (xcells x v sat sn) 113 (0, 0)))
    (hne : rb ≠ xb) (h0 : rb ≠ 0) (h1 : xb ≠ 0) :
    Calls Tryz.prog 69 #[.pointer (some ⟨xb, 0, none⟩), .pointer (some ⟨rb, 0, none⟩)] w fun e w' => LeadPost b k rb xb x v sat sn w (leadR b k) e w' := by
  have hmf : ∀ (fn : Fn) (first cap : Array Value) (w : World), (Instr.makeFunc fn first cap).run Tryz.prog w = .ok (.func fn first cap) w := fun _ _ _ _ => rfl
  have HG := Lib.hid hg
  clear hg
  have hk0 : Kp [rb, xb] w (w.alloc (.cells #[.int .i64 0, .int .i64 0, .int .i64 0] 97)) := (Kp.refl _ w).alloc _
  have hr0 : IsRd (w.alloc (.cells #[.int .i64 0, .int .i64 0, .int .i64 0] 97)) rb b k := ⟨heap_alloc_old hr.1 _, hr.2⟩
  have hx0 := heap_alloc_old hx (.cells #[.int .i64 0, .int .i64 0, .int .i64 0] 97)
  have hf0 := heap_alloc_new w (.cells #[.int .i64 0, .int .i64 0, .int .i64 0] 97)
  have hlr := heap_lt hr.1
  have hlx := heap_lt hx
  go_enter Tryz.func69, Tryz.ntmps69
  go_wp2_with fail
  by_cases hs1 : b.size < k + 1
  · have hfin : leadR b k = .stop 2 := by unfold leadR; rw [if_pos hs1]
    refine (u8_no rb b k _ hr0 hs1).mono ?_
    rintro e w1 ⟨rfl, k1⟩
    refine ⟨rfl, ?_⟩
    rw [hfin]
    exact ⟨rfl, hk0.trans k1 (by simp)⟩
  refine (u8_ok rb b k _ hr0 (by omega)).mono ?_
  rintro e w1 ⟨rfl, k1, r1⟩
  have hk1 : Kp [rb, xb] w w1 := hk0.trans k1 (by simp)
  have hx1 := k1.block hx0 (by simp; omega)
  have hf1 := k1.block hf0 (by simp; omega)
  have hc8 := num_lt b k 1
  generalize hC : num b k 1 = C at *
  have HC := Lib.hid hC
  clear hC
  have hand : bits .and .i64 (C : Int) 15 = ((C % 16 : Nat) : Int) := by rw [i64_and15]; omega
  obtain ⟨lo, hlo⟩ : ∃ lo, lo = C % 16 := ⟨_, rfl⟩
  rw [← hlo] at hand
  have hlo16 : lo < 16 := by omega
  have HLO := Lib.hid hlo
  clear hlo
  go_wp2_with fail
  by_cases hs2 : C / 16 = 2
  · have hb2 : ((C : Int) / 16 == 2) = true := by rw [beq_iff_eq]; omega
    rw [hb2]
    have HS2 := Lib.hid hs2
    clear hb2 hs2
    refine (need_yes _ _ _).mono ?_
    rintro e w2 ⟨rfl, rfl⟩
    go_wp2_with fail
    by_cases hs3 : lo < 2
    · have hb3 : decide ((lo : Int) < 2) = true := decide_eq_true (by omega)
      rw [hb3]
      clear hb3
      refine (need_yes _ _ _).mono ?_
      rintro e w2 ⟨rfl, rfl⟩
      obtain ⟨c0, _, _, _, _, _, _, _, _, f0, _⟩ := cells9 hx1
      go_wp2_with fail
      generalize hLC : ((lo : Int) == 0) = LC at *
      have hlc2 : (lo == 0) = LC := by rw [← hLC, Bool.eq_iff_iff]; simp
      have HLC := Lib.hid hlc2
      clear hLC hlc2
      have r2 : IsRd (w1.setCell ⟨xb, 0, none⟩ (.bool LC)) rb b (k + 1) := ⟨heap_set_other r1.1 (by simpa using hne.symm) _, r1.2⟩
      have hx2 := heap_set hx1 0 (.bool LC)
      have hf2 := heap_set_other hf1 (p := ⟨xb, 0, none⟩) (by simp; omega) (.bool LC)
      have hk2 : Kp [rb, xb] w (w1.setCell ⟨xb, 0, none⟩ (.bool LC)) := hk1.setCell _ _ (by left; simp)
      generalize w1.setCell ⟨xb, 0, none⟩ (.bool LC) = w2 at *
      clear c0 f0 hx1 hf1 hk1 r1 k1
      by_cases hs4 : b.size < k + 2
      · have hfin : leadR b k = .stop 2 := by unfold leadR; rw [if_neg hs1, HC.out, if_neg (by rw [HS2.out]; simp), if_neg (by rw [← HLO.out]; omega), if_pos hs4]
        refine (u8_no rb b (k + 1) _ r2 (by omega)).mono ?_
        rintro e w3 ⟨rfl, k3⟩
        refine ⟨rfl, ?_⟩
        rw [hfin]
        exact ⟨rfl, hk2.trans k3 (by simp)⟩
      refine (u8_ok rb b (k + 1) _ r2 (by omega)).mono ?_
      rintro e w3 ⟨rfl, k3, r3⟩
      have hk3 : Kp [rb, xb] w w3 := hk2.trans k3 (by simp)
      have hx3 := k3.block hx2 (by simpa using hne.symm)
      have hf3 := k3.block hf2 (by simp; omega)
      generalize hD : num b (k + 1) 1 = D at *
      have HD := Lib.hid hD
      clear hD hx2 hf2 k3 r2 hk2
      go_wp2_with fail
      have hlw3 := heap_lt hf3
      have hk4 : Kp [rb, xb] w (w3.alloc (.cells #[.int .i64 D] 3)) := hk3.alloc _
      have hx4 := heap_alloc_old hx3 (.cells #[.int .i64 D] 3)
      have hf4 := heap_alloc_old hf3 (.cells #[.int .i64 D] 3)
      have r4 : IsRd (w3.alloc (.cells #[.int .i64 D] 3)) rb b (k + 1 + 1) := ⟨heap_alloc_old r3.1 _, r3.2⟩
      have hd4 := heap_alloc_new w3 (.cells #[.int .i64 D] 3)
      refine (find_ok 100 #[.pointer (some ⟨w3.heap.size, 0, none⟩)] (fun f => f.code == (D : Int)) _ (HG.out.kp hk4 (by simp; omega)) (fun _ _ => by simp [go_sem]) (fun w1 j k => iscode_ok _ _ _ _ (by rw [cell_of (k.block hd4 (by simp)) 0]; rfl))).mono ?_
      rintro e w5 ⟨rfl, k5⟩
      have hk5 : Kp [rb, xb] w w5 := hk4.trans k5 (by simp)
      have hx5 := k5.block hx4 (by simp)
      have hf5 := k5.block hf4 (by simp)
      have r5 : IsRd w5 rb b (k + 1 + 1) := ⟨k5.block r4.1 (by simp), r4.2⟩
      rw [famFind_code]
      clear hk4 hx4 hf4 r4 hd4 k5 hx3 hf3 r3 hk3
      cases hfc : famCode (D : Int) with
      | none =>
        have hfin : leadR b k = .stop 6 := by unfold leadR; rw [if_neg hs1, HC.out, if_neg (by rw [HS2.out]; simp), if_neg (by rw [← HLO.out]; omega), if_neg hs4, HD.out, hfc]
        go_wp2_with fail
        refine (need_no _ _ _).mono ?_
        rintro e w6 ⟨rfl, rfl⟩
        refine ⟨rfl, ?_⟩
        rw [hfin]
        exact ⟨rfl, hk5.alloc _⟩
      | some f =>
        have HFC := Lib.hid hfc
        clear hfc
        simp only []
        go_wp2_with fail
        refine (need_yes _ _ _).mono ?_
        rintro e w6 ⟨rfl, rfl⟩
        have hlw5 := heap_lt hf5
        have r6 : IsRd (w5.alloc (.cells #[.int .i64 f.n, .int .i64 f.code, .int .i64 f.size] 97)) rb b (k + 1 + 1) := ⟨heap_alloc_old r5.1 _, r5.2⟩
        have hx6 := heap_alloc_old hx5 (.cells #[.int .i64 f.n, .int .i64 f.code, .int .i64 f.size] 97)
        have hf6 := heap_alloc_old hf5 (.cells #[.int .i64 f.n, .int .i64 f.code, .int .i64 f.size] 97)
        have hF6 := heap_alloc_new w5 (.cells #[.int .i64 f.n, .int .i64 f.code, .int .i64 f.size] 97)
        have hk6 : Kp [rb, xb] w (w5.alloc (.cells #[.int .i64 f.n, .int .i64 f.code, .int .i64 f.size] 97)) := hk5.alloc _
        generalize w5.alloc (.cells #[.int .i64 f.n, .int .i64 f.code, .int .i64 f.size] 97) = w6 at *
        generalize w5.heap.size = F at *
        clear hx5 hf5 r5 hk5
        obtain ⟨s0, s1, s2, _⟩ := cells3 hF6
        have r6d : IsRd w6.drew rb b (k + 1 + 1) := ⟨r6.1, r6.2⟩
        have R6 := Lib.hid r6d
        clear r6d
        have X6 := Lib.hid hx6
        have F6 := Lib.hid hf6
        have G6 := Lib.hid hF6
        clear r6 hx6 hf6 hF6
        by_cases hs5 : b.size < k + 4
        · have hfin : leadR b k = .stop 2 := by unfold leadR; rw [if_neg hs1, HC.out, if_neg (by rw [HS2.out]; simp), if_neg (by rw [← HLO.out]; omega), if_neg hs4, HD.out, HFC.out]; simp only []; rw [if_pos hs5]
          have HX : ∀ w7, Kp [] w6.drew w7 → LeadPost b k rb xb x v sat sn w (leadR b k) (stopped 2) w7 := fun w7 k7 => by
            rw [hfin]; exact ⟨rfl, (Kp.drew hk6).trans k7 (by simp)⟩
          clear hfin
          go_wp2_with fail
          have hFa : ¬ F = w.heap.size := by omega
          have hFb : ¬ w.heap.size = F := by omega
          go_region_held (fun w' => w'.cell? ⟨F, 0, none⟩ = some (.int .i64 f.n) ∧ w'.cell? ⟨F, 1, none⟩ = some (.int .i64 f.code) ∧ w'.cell? ⟨F, 2, none⟩ = some (.int .i64 f.size)) (go_keep) ((go_at_call 101; refine stop_arm (u16_no rb b (k + 1 + 1) _ R6.out hs5) (fun w7 k7 => ⟨rfl, HX w7 k7⟩) (fun v w7 hF k7 => ?_); obtain ⟨t0, t1, t2, _⟩ := cells3 (k7.block G6.out (by simp)); obtain ⟨u0, u1, u2, y0, y1, y2⟩ := cells3 (k7.block F6.out (by simp))))
          all_goals exact hF.out.elim
        · have hfin : leadR b k = .ok f (num b (k + 1 + 1) 2) LC := by unfold leadR; rw [if_neg hs1, HC.out, if_neg (by rw [HS2.out]; simp), if_neg (by rw [← HLO.out]; omega), if_neg hs4, HD.out, HFC.out]; simp only []; rw [if_neg hs5, ← HLO.out, HLC.out]
          have HFI := Lib.hid hfin
          clear hfin
          have hFa : ¬ F = w.heap.size := by omega
          have hFb : ¬ w.heap.size = F := by omega
          go_wp2_with fail
          go_region_held3 (fun w' => w'.cell? ⟨F, 0, none⟩ = some (.int .i64 f.n) ∧ w'.cell? ⟨F, 1, none⟩ = some (.int .i64 f.code) ∧ w'.cell? ⟨F, 2, none⟩ = some (.int .i64 f.size)) (go_keep) ((go_at_call 101; refine (u16_ok rb b (k + 1 + 1) _ R6.out (by omega)).mono ?_; rintro e w7 ⟨rfl, k7, r7⟩; obtain ⟨t0, t1, t2, _⟩ := cells3 (k7.block G6.out (by simp; omega)); obtain ⟨u0, u1, u2, y0, y1, y2⟩ := cells3 (k7.block F6.out (by simp; omega))))
          go_wp2
          refine ret_cell1 (by rfl) w.heap.size 97 _ (0, 0) _ (heap_set (heap_set (heap_set (k7.block F6.out (by simp; omega)) 0 (.int .i64 f.n)) 1 (.int .i64 f.code)) 2 (.int .i64 f.size)) (by rfl) Tryz.underlying97 rfl (by kernel_rfl) rfl ?_
          rw [HFI.out]
          have hk7 : Kp [rb, xb] w w7 := (Kp.drew hk6).trans k7 (by simp)
          refine ⟨rfl, ((hk7.setCell _ _ (by right; simp)).setCell _ _ (by right; simp)).setCell _ _ (by right; simp), ⟨?_, r7.2⟩, ?_⟩
          · exact heap_set_other (heap_set_other (heap_set_other r7.1 (by simp; omega) _) (by simp; omega) _) (by simp; omega) _
          · exact heap_set_other (heap_set_other (heap_set_other (k7.block X6.out (by simpa using hne.symm)) (by simp; omega) _) (by simp; omega) _) (by simp; omega) _
    · have hb3 : decide ((lo : Int) < 2) = false := decide_eq_false (by omega)
      rw [hb3]
      have hfin : leadR b k = .stop 9 := by unfold leadR; rw [if_neg hs1, HC.out, if_neg (by rw [HS2.out]; simp), if_pos (by rw [← HLO.out]; omega)]
      refine (need_no _ _ _).mono ?_
      rintro e w2 ⟨rfl, rfl⟩
      refine ⟨rfl, ?_⟩
      rw [hfin]
      exact ⟨rfl, hk1⟩
  · have hb2 : ((C : Int) / 16 == 2) = false := by rw [beq_eq_false_iff_ne]; omega
    rw [hb2]
    have hfin : leadR b k = .stop 3 := by unfold leadR; rw [if_neg hs1, HC.out, if_pos hs2]
    refine (need_no _ _ _).mono ?_
    rintro e w2 ⟨rfl, rfl⟩
    refine ⟨rfl, ?_⟩
    rw [hfin]
    exact ⟨rfl, hk1⟩
end Go.Proofs.YthcphjmknbiadaaGreatDoor
