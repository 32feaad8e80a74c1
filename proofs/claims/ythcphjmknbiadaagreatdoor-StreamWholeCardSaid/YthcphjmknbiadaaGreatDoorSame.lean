/- The references' Same: of two like headers it says yes. -/
import Derived.Test.YthcphjmknbiadaaGreatDoorStr
namespace Go.Proofs.YthcphjmknbiadaaGreatDoor
set_option maxRecDepth 100000
set_option linter.unusedVariables false
open Go.RowKit (wrap32 wrap64 intOf)

set_option maxHeartbeats 1000000 in
theorem same17_ok (x : Strm) (A B : Option Addr) (c d : Nat) (w : World) (hf : FAt w A x.flds) (hf2 : FAt w B x.flds) (hn : x.flds.length ≤ 100000) :
    Calls Tryz.prog 23 #[sval x A c, sval x B d] w fun e w' => e = .returned (.bool true) ∧ Kp [] w w' := by
  have hk : Kp [] w ((w.alloc (.cells (scells x A c) 24)).alloc (.cells (scells x B d) 24)) := ((Kp.refl [] w).alloc _).alloc _
  have h0 := alloc2_0 w (.cells (scells x A c) 24) (.cells (scells x B d) 24)
  have h1 := alloc2_1 w (.cells (scells x A c) 24) (.cells (scells x B d) 24)
  go_enter Tryz.func23, Tryz.ntmps23
  go_wp2_with fail
  go_loopw [5] (fun i wr => ∃ j : Nat, j ≤ x.flds.length ∧ i = .int .i64 j ∧ Kp [] w wr ∧ wr.heap[w.heap.size]? = some (.cells (scells x A c) 24 (0, 0)) ∧ wr.heap[w.heap.size + 1]? = some (.cells (scells x B d) 24 (0, 0))) (fun i _ => x.flds.length - (intOf i).toNat)
  case atStart => exact ⟨0, Nat.zero_le _, rfl, hk, h0, h1⟩
  case round =>
    obtain ⟨j, hj, rfl, kr, x0, x1⟩ := hrel
    obtain ⟨c0, c1, c2, c3, c4, c5, c6, _⟩ := cells7 x0
    obtain ⟨d0, d1, d2, d3, d4, d5, d6, _⟩ := cells7 x1
    by_cases hlt : j < x.flds.length
    · obtain ⟨fl, hfl⟩ : ∃ fl, x.flds[j]? = some fl := ⟨_, List.getElem?_eq_getElem hlt⟩
      obtain ⟨g, o, rfl, e0, e1⟩ := (hf.below kr (by simp)) j fl hfl
      obtain ⟨g', o', rfl, e2, e3⟩ := (hf2.below kr (by simp)) j fl hfl
      have X0 := Lib.hid x0
      have X1 := Lib.hid x1
      clear hfl hf hf2 hk h0 h1 x0 x1
      go_wp2_with fail
      go_quiet (fail)
      go_wp2_with fail
      go_roundw
      case rel => exact ⟨j + 1, by omega, by go_num, kr.drewN _, X0.out, X1.out⟩
      case measure => simp [intOf]; omega
    · obtain rfl : j = x.flds.length := by omega
      clear hf hf2 hk h0 h1 x0 x1
      go_wp2_with fail
      go_ret
      exact ⟨rfl, kr⟩
theorem same19_ok (h : Hd) (A B : Option Addr) (c d : Nat) (w : World) (hf : FAt w A h.s.flds) (hf2 : FAt w B h.s.flds) (hn : h.s.flds.length ≤ 100000) :
    Calls Tryz.prog 12 #[hval h A c, hval h B d] w fun e w' => e = .returned (.bool true) ∧ Kp [] w w' := by
  have hk : Kp [] w ((w.alloc (.cells (hcells h A c) 35)).alloc (.cells (hcells h B d) 35)) := ((Kp.refl [] w).alloc _).alloc _
  have h0 := alloc2_0 w (.cells (hcells h A c) 35) (.cells (hcells h B d) 35)
  have h1 := alloc2_1 w (.cells (hcells h A c) 35) (.cells (hcells h B d) 35)
  have HF := Lib.hid (hf.below hk (by simp))
  have HF2 := Lib.hid (hf2.below hk (by simp))
  have HK := Lib.hid hk
  clear hk h0 h1 hf hf2
  go_enter Tryz.func12, Tryz.ntmps12
  go_wp2_with fail
  refine (same17_ok h.s A B c d _ HF.out HF2.out hn).mono ?_
  rintro e w1 ⟨rfl, k1⟩
  go_wp2_with fail
  go_ret
  exact ⟨rfl, HK.out.trans k1 (by simp)⟩
theorem head_ok (h : Hd) (A : Option Addr) (c : Nat) (w : World) :
    Calls Tryz.prog 13 #[hval h A c] w fun e w' => e = .returned (hval h A c) ∧ Kp [] w w' := by
  go_enter Tryz.func13, Tryz.ntmps13
  go_wp2_with fail
  refine ret_cell0 (by rfl) (w.heap.size + 1) 35 _ (0, 0) _ (alloc2_1 w _ _) (by rfl) Tryz.underlying35 rfl (by kernel_rfl) rfl ?_
  exact ⟨rfl, ((Kp.refl [] w).alloc _).alloc _⟩
/-- Is a header not too long? -/
def shortN (n j : Nat) : List (Int × ByteArray) → Bool
  | [] => decide (n ≤ 70000)
  | f :: r => if 70000 < n + f.2.size ∨ 100 < j then false else shortN (n + f.2.size) (j + 1) r
def shortB (x : Strm) : Bool := shortN (x.src.size + x.dst.size) 0 x.flds
theorem shortN_true (l : List (Int × ByteArray)) : ∀ n j : Nat, shortN n j l = true → n ≤ 70000 ∧ (l ≠ [] → j + l.length ≤ 101) ∧ ∀ f ∈ l, f.2.size ≤ 70000 := by
  induction l with
  | nil => intro n j h; simp [shortN] at h; exact ⟨h, by simp, by simp⟩
  | cons f r ih =>
    intro n j h
    unfold shortN at h
    by_cases hc : 70000 < n + f.2.size ∨ 100 < j
    · rw [if_pos hc] at h; cases h
    · rw [if_neg hc] at h
      obtain ⟨h1, h2, h3⟩ := ih _ _ h
      refine ⟨by omega, fun _ => ?_, ?_⟩
      · cases r with
        | nil => simp; omega
        | cons g r => have := h2 (by simp); simp at this ⊢; omega
      · intro g hg
        rw [List.mem_cons] at hg
        rcases hg with rfl | hg
        · omega
        · exact h3 g hg
theorem shortB_true {x : Strm} (h : shortB x = true) : x.src.size ≤ 70000 ∧ x.dst.size ≤ 70000 ∧ x.flds.length ≤ 101 ∧ ∀ f ∈ x.flds, f.2.size ≤ 70000 := by
  obtain ⟨h1, h2, h3⟩ := shortN_true _ _ _ h
  refine ⟨by omega, by omega, ?_, h3⟩
  by_cases hl : x.flds = []
  · rw [hl]; simp
  · have := h2 hl; omega
set_option maxHeartbeats 1000000 in
theorem short_ok (x : Strm) (A : Option Addr) (c : Nat) (w : World) (hf : FAt w A x.flds) (hs : x.src.size ≤ 140737488351232) (hd : x.dst.size ≤ 140737488351232) (hn : x.flds.length ≤ 140737488351232) (hfs : ∀ f ∈ x.flds, f.2.size ≤ 140737488351232) :
    Calls Tryz.prog 7 #[sval x A c] w fun e w' => e = .returned (.bool (shortB x)) ∧ Kp [] w w' := by
  have hk : Kp [] w (w.alloc (.cells (scells x A c) 24)) := (Kp.refl [] w).alloc _
  have h0 := heap_alloc_new w (.cells (scells x A c) 24)
  obtain ⟨R, hR⟩ : ∃ R, R = shortB x := ⟨_, rfl⟩
  rw [← hR]
  have hst : shortN (x.src.size + x.dst.size) 0 (x.flds.drop 0) = R := by rw [hR]; rfl
  have HST := Lib.hid hst
  have HFS := Lib.hid hfs
  clear hR hst hfs
  go_enter Tryz.func7, Tryz.ntmps7
  go_wp2_with fail
  go_loopw [3, 4] (fun n i wr => ∃ j m : Nat, j ≤ x.flds.length ∧ i = .int .i64 j ∧ n = .int .i64 m ∧ m ≤ 281474976702464 ∧ Go.RowKit.Hid (shortN m j (x.flds.drop j) = R) ∧ Kp [] w wr ∧ wr.heap[w.heap.size]? = some (.cells (scells x A c) 24 (0, 0))) (fun _ i _ => x.flds.length - (intOf i).toNat)
  case atStart => exact ⟨0, x.src.size + x.dst.size, Nat.zero_le _, rfl, by go_num, by omega, HST, hk, h0⟩
  case round =>
    obtain ⟨j, m, hj, rfl, rfl, hm, HR, kr, x0⟩ := hrel
    obtain ⟨c0, c1, c2, c3, c4, c5, c6, _⟩ := cells7 x0
    by_cases hlt : j < x.flds.length
    · obtain ⟨fl, hfl⟩ : ∃ fl, x.flds[j]? = some fl := ⟨_, List.getElem?_eq_getElem hlt⟩
      obtain ⟨g, o, rfl, e0, e1⟩ := (hf.below kr (by simp)) j fl hfl
      have hfz := HFS.out fl (List.mem_of_getElem? hfl)
      have hdr : x.flds.drop j = fl :: x.flds.drop (j + 1) := by
        obtain ⟨h1, h2⟩ := List.getElem?_eq_some_iff.1 hfl
        rw [List.drop_eq_getElem_cons h1, h2]
      have hrr := HR.out
      rw [hdr, shortN] at hrr
      have X0 := Lib.hid x0
      clear hfl hf hk h0 x0 hdr HR HST
      by_cases hbig : 70000 < m + fl.2.size
      · rw [if_pos (.inl hbig)] at hrr
        have HRR := Lib.hid hrr
        clear hrr
        have hd1 : decide ((70000 : Int) < (m : Int) + (fl.2.size : Int)) = true := by simp; omega
        go_wp2_with fail
        go_ret
        exact ⟨by rw [← HRR.out]; rfl, kr⟩
      · by_cases hj2 : 100 < j
        · rw [if_pos (.inr hj2)] at hrr
          have HRR := Lib.hid hrr
          clear hrr
          have hd1 : decide ((70000 : Int) < (m : Int) + (fl.2.size : Int)) = false := by simp; omega
          have hd2 : decide ((100 : Int) < (j : Int)) = true := by simp; omega
          go_wp2_with fail
          go_ret
          exact ⟨by rw [← HRR.out]; rfl, kr⟩
        · rw [if_neg (by omega)] at hrr
          have HRR := Lib.hid hrr
          clear hrr
          have hd1 : decide ((70000 : Int) < (m : Int) + (fl.2.size : Int)) = false := by simp; omega
          have hd2 : decide ((100 : Int) < (j : Int)) = false := by simp; omega
          go_wp2_with fail
          go_roundw
          case rel => exact ⟨j + 1, m + fl.2.size, by omega, by go_num, by go_num, by omega, HRR, kr, X0.out⟩
          case measure => simp [intOf]; omega
    · obtain rfl : j = x.flds.length := by omega
      have hrr := HR.out
      rw [List.drop_length, shortN] at hrr
      have HRR := Lib.hid hrr
      clear hf hk h0 x0 HR HST hrr
      go_wp2_with fail
      go_ret
      have hdm : decide ((m : Int) ≤ 70000) = decide (m ≤ 70000) := by rw [decide_eq_decide]; omega
      exact ⟨by rw [← HRR.out, ← hdm]; rfl, kr⟩
end Go.Proofs.YthcphjmknbiadaaGreatDoor
