/- The first version, put. -/
import Derived.Test.YthcphjmknbiadaaGreatDoorAddr6
import Derived.Test.YthcphjmknbiadaaGreatDoorStrm
namespace Go.Proofs.YthcphjmknbiadaaGreatDoor
set_option maxRecDepth 100000
set_option linter.unusedVariables false
open Go.RowKit (wrap32 wrap64 intOf)

def sz1 (n : Int) : Int := if n = 1 then 4 else if n = 2 then 16 else -1
theorem size1_ok (n : Int) (w : World) : Calls Tryz.prog 77 #[.int .i64 n] w fun e w' => e = .returned (.int .i64 (sz1 n)) ∧ w = w' := by
  go_enter Tryz.func77, Tryz.ntmps77
  by_cases h1 : n = 1
  · have hb : (n == 1) = true := by rw [beq_iff_eq]; exact h1
    go_wp2_with fail
    go_ret
    exact ⟨by unfold sz1; rw [if_pos h1]; rfl, rfl⟩
  have hb : (n == 1) = false := by rw [beq_eq_false_iff_ne]; exact h1
  by_cases h2 : n = 2
  · have hb2 : (n == 2) = true := by rw [beq_iff_eq]; exact h2
    go_wp2_with fail
    go_ret
    exact ⟨by unfold sz1; rw [if_neg h1, if_pos h2]; rfl, rfl⟩
  have hb2 : (n == 2) = false := by rw [beq_eq_false_iff_ne]; exact h2
  go_wp2_with fail
  go_ret
  exact ⟨by unfold sz1; rw [if_neg h1, if_neg h2]; rfl, rfl⟩
def portB (n : Int) : Bool := decide (0 ≤ n) && decide (n ≤ 65535)
theorem port1_ok (n : Int) (w : World) : Calls Tryz.prog 76 #[.int .i64 n] w fun e w' => e = .returned (.bool (portB n)) ∧ w = w' := by
  go_enter Tryz.func76, Tryz.ntmps76
  cases h1 : decide (0 ≤ n) with
  | false =>
    go_wp2_with fail
    go_ret
    exact ⟨by unfold portB; rw [h1]; rfl, rfl⟩
  | true =>
    go_wp2_with fail
    go_ret
    exact ⟨by unfold portB; rw [h1]; rfl, rfl⟩
theorem plain_ok (x : Strm) (A : Option Addr) (c : Nat) (w : World) : Calls Tryz.prog 78 #[sval x A c] w fun e w' => e = .returned (.bool (!x.loc && (x.flds.length : Int) == 0)) ∧ Kp [] w w' := by
  have hk : Kp [] w (w.alloc (.cells (scells x A c) 24)) := (Kp.refl [] w).alloc _
  go_enter Tryz.func78, Tryz.ntmps78
  cases h1 : x.loc with
  | false =>
    go_wp2_with fail
    go_ret
    exact ⟨rfl, hk⟩
  | true =>
    go_wp2_with fail
    go_ret
    exact ⟨rfl, hk⟩
theorem size1_q (n : Int) (w : World) : Calls Tryz.prog 77 #[.int .i64 n] w fun e w' => e = .returned (.int .i64 (sz1 n)) ∧ ∃ k, w' = w.drewN k :=
  (size1_ok n w).mono (by rintro e w' ⟨rfl, rfl⟩; exact ⟨rfl, 0, rfl⟩)
theorem port1_q (n : Int) (w : World) : Calls Tryz.prog 76 #[.int .i64 n] w fun e w' => e = .returned (.bool (portB n)) ∧ ∃ k, w' = w.drewN k :=
  (port1_ok n w).mono (by rintro e w' ⟨rfl, rfl⟩; exact ⟨rfl, 0, rfl⟩)
/-- May its family, addresses and ports be? -/
def ok1 (x : Strm) : Bool :=
  if x.fam = 0 then ((x.src.toList.isEmpty && x.dst.toList.isEmpty) && (x.sp == 0)) && (x.dp == 0)
  else ((((x.src.size : Int) == sz1 x.fam) && ((x.dst.size : Int) == sz1 x.fam)) && portB x.sp) && portB x.dp
def check1 (x : Strm) : Int := if ok1 x && (!x.loc && (x.flds.length : Int) == 0) then 0 else 1
set_option maxHeartbeats 1000000 in
theorem check1_ok (x : Strm) (A : Option Addr) (c : Nat) (w : World) : Calls Tryz.prog 49 #[sval x A c] w fun e w' => e = .returned (.int .i64 (check1 x)) ∧ Kp [] w w' := by
  have hk : Kp [] w (w.alloc (.cells (scells x A c) 24)) := (Kp.refl [] w).alloc _
  have hb := heap_alloc_new w (.cells (scells x A c) 24)
  obtain ⟨c0, c1, c2, c3, c4, c5, c6, _⟩ := cells7 hb
  have HK := Lib.hid hk
  clear hk hb
  go_enter Tryz.func49, Tryz.ntmps49
  by_cases hf : x.fam = 0
  · have hf0 : (x.fam == 0) = true := by rw [beq_iff_eq]; exact hf
    have hsz : sz1 x.fam = -1 := by rw [hf]; rfl
    have hq : ((x.src.size : Int) == sz1 x.fam) = false := by rw [hsz, beq_eq_false_iff_ne]; omega
    have HF := Lib.hid hf
    clear hf hsz
    cases h0 : x.src.toList.isEmpty with
    | false =>
      have hok : ok1 x = false := by unfold ok1; rw [if_pos HF.out]; simp only [h0, Bool.and_false, Bool.false_and, Bool.and_true]
      have HOK := Lib.hid hok
      clear hok
      go_wp2_with fail
      go_quiet (first | (go_at_call 77; exact Calls.quiet_of (size1_q _ _)) | (go_at_call 76; exact Calls.quiet_of (port1_q _ _)))
      go_wp2_with fail
      go_ret
      exact ⟨by unfold check1; rw [HOK.out]; rfl, HK.out.drewN _⟩
    | true =>
      cases h1 : x.dst.toList.isEmpty with
      | false =>
        have hok : ok1 x = false := by unfold ok1; rw [if_pos HF.out]; simp only [h0, h1, Bool.and_false, Bool.false_and, Bool.and_true]
        have HOK := Lib.hid hok
        clear hok
        go_wp2_with fail
        go_quiet (first | (go_at_call 77; exact Calls.quiet_of (size1_q _ _)) | (go_at_call 76; exact Calls.quiet_of (port1_q _ _)))
        go_wp2_with fail
        go_ret
        exact ⟨by unfold check1; rw [HOK.out]; rfl, HK.out.drewN _⟩
      | true =>
        cases h2 : (x.sp == 0) with
        | false =>
          have hok : ok1 x = false := by unfold ok1; rw [if_pos HF.out]; simp only [h0, h1, h2, Bool.and_false, Bool.false_and, Bool.and_true]
          have HOK := Lib.hid hok
          clear hok
          go_wp2_with fail
          go_quiet (first | (go_at_call 77; exact Calls.quiet_of (size1_q _ _)) | (go_at_call 76; exact Calls.quiet_of (port1_q _ _)))
          go_wp2_with fail
          go_ret
          exact ⟨by unfold check1; rw [HOK.out]; rfl, HK.out.drewN _⟩
        | true =>
          cases h3 : (x.dp == 0) with
          | false =>
            have hok : ok1 x = false := by unfold ok1; rw [if_pos HF.out]; simp only [h0, h1, h2, h3, Bool.and_false, Bool.false_and, Bool.and_true]
            have HOK := Lib.hid hok
            clear hok
            go_wp2_with fail
            go_quiet (first | (go_at_call 77; exact Calls.quiet_of (size1_q _ _)) | (go_at_call 76; exact Calls.quiet_of (port1_q _ _)))
            go_wp2_with fail
            go_ret
            exact ⟨by unfold check1; rw [HOK.out]; rfl, HK.out.drewN _⟩
          | true =>
            have hok : ok1 x = true := by unfold ok1; rw [if_pos HF.out]; simp only [h0, h1, h2, h3, Bool.and_self]
            have HOK := Lib.hid hok
            clear hok
            go_wp2_with fail
            go_quiet (first | (go_at_call 77; exact Calls.quiet_of (size1_q _ _)) | (go_at_call 76; exact Calls.quiet_of (port1_q _ _)))
            go_wp2_with fail
            refine (plain_ok x A c _).mono ?_
            rintro e w1 ⟨rfl, k1⟩
            have KK := Lib.hid ((HK.out.drewN nq).trans k1 (by simp))
            cases hp : (!x.loc && ((x.flds.length : Int) == 0)) with
            | false =>
              go_wp2_with fail
              go_ret
              exact ⟨by unfold check1; rw [HOK.out, hp]; rfl, KK.out⟩
            | true =>
              go_wp2_with fail
              go_ret
              exact ⟨by unfold check1; rw [HOK.out, hp]; rfl, KK.out⟩
  · have hf0 : (x.fam == 0) = false := by rw [beq_eq_false_iff_ne]; exact hf
    have HF := Lib.hid hf
    clear hf
    cases h0 : ((x.src.size : Int) == sz1 x.fam) with
    | false =>
      have hok : ok1 x = false := by unfold ok1; rw [if_neg HF.out]; simp only [h0, Bool.and_false, Bool.false_and, Bool.and_true]
      have HOK := Lib.hid hok
      clear hok
      go_wp2_with fail
      go_quiet (first | (go_at_call 77; exact Calls.quiet_of (size1_q _ _)) | (go_at_call 76; exact Calls.quiet_of (port1_q _ _)))
      go_wp2_with fail
      go_ret
      exact ⟨by unfold check1; rw [HOK.out]; rfl, HK.out.drewN _⟩
    | true =>
      cases h1 : ((x.dst.size : Int) == sz1 x.fam) with
      | false =>
        have hok : ok1 x = false := by unfold ok1; rw [if_neg HF.out]; simp only [h0, h1, Bool.and_false, Bool.false_and, Bool.and_true]
        have HOK := Lib.hid hok
        clear hok
        go_wp2_with fail
        go_quiet (first | (go_at_call 77; exact Calls.quiet_of (size1_q _ _)) | (go_at_call 76; exact Calls.quiet_of (port1_q _ _)))
        go_wp2_with fail
        go_ret
        exact ⟨by unfold check1; rw [HOK.out]; rfl, HK.out.drewN _⟩
      | true =>
        cases h2 : portB x.sp with
        | false =>
          have hok : ok1 x = false := by unfold ok1; rw [if_neg HF.out]; simp only [h0, h1, h2, Bool.and_false, Bool.false_and, Bool.and_true]
          have HOK := Lib.hid hok
          clear hok
          go_wp2_with fail
          go_quiet (first | (go_at_call 77; exact Calls.quiet_of (size1_q _ _)) | (go_at_call 76; exact Calls.quiet_of (port1_q _ _)))
          go_wp2_with fail
          go_ret
          exact ⟨by unfold check1; rw [HOK.out]; rfl, HK.out.drewN _⟩
        | true =>
          cases h3 : portB x.dp with
          | false =>
            have hok : ok1 x = false := by unfold ok1; rw [if_neg HF.out]; simp only [h0, h1, h2, h3, Bool.and_false, Bool.false_and, Bool.and_true]
            have HOK := Lib.hid hok
            clear hok
            go_wp2_with fail
            go_quiet (first | (go_at_call 77; exact Calls.quiet_of (size1_q _ _)) | (go_at_call 76; exact Calls.quiet_of (port1_q _ _)))
            go_wp2_with fail
            go_ret
            exact ⟨by unfold check1; rw [HOK.out]; rfl, HK.out.drewN _⟩
          | true =>
            have hok : ok1 x = true := by unfold ok1; rw [if_neg HF.out]; simp only [h0, h1, h2, h3, Bool.and_self]
            have HOK := Lib.hid hok
            clear hok
            go_wp2_with fail
            go_quiet (first | (go_at_call 77; exact Calls.quiet_of (size1_q _ _)) | (go_at_call 76; exact Calls.quiet_of (port1_q _ _)))
            go_wp2_with fail
            refine (plain_ok x A c _).mono ?_
            rintro e w1 ⟨rfl, k1⟩
            have KK := Lib.hid ((HK.out.drewN nq).trans k1 (by simp))
            cases hp : (!x.loc && ((x.flds.length : Int) == 0)) with
            | false =>
              go_wp2_with fail
              go_ret
              exact ⟨by unfold check1; rw [HOK.out, hp]; rfl, KK.out⟩
            | true =>
              go_wp2_with fail
              go_ret
              exact ⟨by unfold check1; rw [HOK.out, hp]; rfl, KK.out⟩
def frontL : List UInt8 := [80, 82, 79, 88, 89, 32]
def lineL (ws : List ByteArray) : List UInt8 := frontL ++ Lib.join (ws.map (·.data.toList)) [32] ++ [13, 10]
theorem line_ok (ws : List ByteArray) (g c : Nat) (w : World) (hc : ∀ (j : Nat) (x : ByteArray), ws[j]? = some x → w.cell? ⟨g, j, none⟩ = some (.string x)) (hg : g < w.heap.size) (hn : ws.length ≤ 100) (hcap : ws.length ≤ c)
    (hl : ∀ s ∈ ws, s.size ≤ 1000000) :
    Calls Tryz.prog 50 #[.slice (some ⟨g, 0, none⟩) ws.length c] w fun e w' => e = .returned (.string ⟨(lineL ws).toArray⟩) ∧ Kp [] w w' := by
  have hlen : (Lib.join (ws.map (·.data.toList)) (ByteArray.mk #[32]).data.toList).length ≤ 200000000 := by
    have := join_bound (ws.map (·.data.toList)) (ByteArray.mk #[32]).data.toList 1000000 (by
      intro x hx
      rw [List.mem_map] at hx
      obtain ⟨s, hs, rfl⟩ := hx
      exact hl s hs)
    rw [List.length_map] at this
    refine Nat.le_trans this ?_
    show (1 + 1000000) * ws.length ≤ _
    omega
  have hjo := Tryz.strings_Join g 0 c ws ⟨#[32]⟩ w (by intro j x hx; rw [Nat.zero_add]; exact hc j x hx) hg (by omega) hcap (Nat.le_trans hlen (by decide))
  have hll : lineL ws = frontL ++ Lib.join (ws.map (·.data.toList)) (ByteArray.mk #[32]).data.toList ++ [13, 10] := rfl
  generalize Lib.join (ws.map (·.data.toList)) (ByteArray.mk #[32]).data.toList = J at *
  have hcat1 : ∀ w : World, (Op.stringOp .add (ByteArray.mk #[80, 82, 79, 88, 89, 32]) (ByteArray.mk J.toArray)).run Tryz.prog w = .ok (.string ⟨(frontL ++ J).toArray⟩) w := by
    intro w
    rw [run_string_add_sum w _ _ (by have : (ByteArray.mk #[80, 82, 79, 88, 89, 32]).size = 6 := rfl; have : (ByteArray.mk J.toArray).size = J.length := rfl; omega)]
    rw [← mk_append1]; rfl
  have hcat2 : ∀ w : World, (Op.stringOp .add (ByteArray.mk (frontL ++ J).toArray) (ByteArray.mk #[13, 10])).run Tryz.prog w = .ok (.string ⟨(frontL ++ J ++ [13, 10]).toArray⟩) w := by
    intro w
    rw [run_string_add_sum w _ _ (by have : (ByteArray.mk #[13, 10]).size = 2 := rfl; have : (ByteArray.mk (frontL ++ J).toArray).size = (frontL ++ J).length := rfl; simp [frontL] at this; simp [frontL]; omega)]
    rw [← mk_append1 (frontL ++ J)]
  obtain ⟨F, hF⟩ : ∃ F, F = frontL ++ J := ⟨_, rfl⟩
  rw [← hF] at hcat1 hcat2 hll
  have HJ := Lib.hid hjo
  have HL := Lib.hid hll
  clear hjo hll hc hlen hF
  go_enter Tryz.func50, Tryz.ntmps50
  go_wp2_with fail
  refine HJ.out.mono ?_
  rintro e w1 ⟨rfl, k1⟩
  go_wp2_with fail
  go_ret
  exact ⟨by rw [HL.out]; rfl, Kp.of_below k1⟩
end Go.Proofs.YthcphjmknbiadaaGreatDoor
