/- The reader's small methods, walked: Left, At, Need, Take. -/
import Derived.Test.YthcphjmknbiadaaGreatDoorKit
namespace Go.Proofs.YthcphjmknbiadaaGreatDoor
set_option maxRecDepth 100000
open Go.RowKit (wrap32 wrap64)

/-- A reader of `s`, of which `k` bytes were read. -/
def IsRd (w : World) (b : Nat) (s : ByteArray) (k : Nat) : Prop := w.heap[b]? = some (.cells #[.string s, .int .i64 k] 147 (0, 0)) ∧ k ≤ s.size ∧ s.size ≤ 140737488351232
theorem IsRd.c0 {w : World} {b : Nat} {s : ByteArray} {k : Nat} (h : IsRd w b s k) : w.cell? ⟨b, 0, none⟩ = some (.string s) := cell_of h.1 0
theorem IsRd.c1 {w : World} {b : Nat} {s : ByteArray} {k : Nat} (h : IsRd w b s k) : w.cell? ⟨b, 1, none⟩ = some (.int .i64 k) := cell_of h.1 1
theorem IsRd.f1 {w : World} {b : Nat} {s : ByteArray} {k : Nat} (h : IsRd w b s k) : w.frozen? ⟨b, 1, none⟩ = false := free_of h.1 1

/-- `Left`. -/
theorem left_ok (b : Nat) (s : ByteArray) (k : Nat) (w : World) (h : IsRd w b s k) :
    Calls Tryz.prog 98 #[.pointer (some ⟨b, 0, none⟩)] w fun e w' => e = .returned (.int .i64 (s.size - k)) ∧ ∃ n, w' = w.drewN n := by
  have h0 := h.c0
  have h1 := h.c1
  have hk := h.2.1
  have hs := h.2.2
  go_enter Tryz.func98, Tryz.ntmps98
  go_wp2
  go_quiet (fail)
  go_wp2
  go_ret
  exact ⟨rfl, _, rfl⟩

/-- `At`. -/
theorem at_ok (b : Nat) (s : ByteArray) (k : Nat) (w : World) (h : IsRd w b s k) :
    Calls Tryz.prog 125 #[.pointer (some ⟨b, 0, none⟩)] w fun e w' => e = .returned (.int .i64 k) ∧ w = w' := by
  have h1 := h.c1
  go_enter Tryz.func125, Tryz.ntmps125
  go_wp2
  go_ret
  exact ⟨rfl, rfl⟩

/-- With what a reading is stopped. -/
abbrev stopped (n : Int) : Ending := .panicked [{ v := .iface 145 (.agg #[.int .i64 n]), recovered := false }]

theorem need_yes (p : Value) (e : Int) (w : World) :
    Calls Tryz.prog 67 #[p, .bool true, .int .i64 e] w fun e w' => e = .returned (.tuple #[]) ∧ w = w' := by
  go_enter Tryz.func67, Tryz.ntmps67
  go_wp2
  go_end0
  exact ⟨rfl, rfl⟩

theorem need_no (p : Value) (n : Int) (w : World) :
    Calls Tryz.prog 67 #[p, .bool false, .int .i64 n] w fun e w' => e = stopped n ∧ w = w' := by
  go_enter Tryz.func67, Tryz.ntmps67
  go_wp2
  exact ⟨rfl, rfl, rfl⟩

theorem take_yes (b : Nat) (s : ByteArray) (k : Nat) (n : Int) (w : World) (h : IsRd w b s k) (n0 : 0 ≤ n) (n1 : n ≤ s.size - k) :
    Calls Tryz.prog 68 #[.pointer (some ⟨b, 0, none⟩), .int .i64 n] w fun e w' =>
      e = .returned (.string (s.extract k (k + n.toNat))) ∧ Kp [b] w w' ∧ IsRd w' b s (k + n.toNat) := by
  have h0 := h.c0
  have h1 := h.c1
  have h2 := h.f1
  have hk := h.2.1
  have hs := h.2.2
  obtain ⟨m, rfl⟩ := Int.eq_ofNat_of_zero_le n0
  go_enter Tryz.func68, Tryz.ntmps68
  go_wp2_with fail
  refine (left_ok b s k _ ⟨?_, hk, hs⟩).mono ?_
  · exact h.1
  rintro e w1 ⟨rfl, d1, rfl⟩
  go_wp2_with fail
  refine (need_yes _ _ _).mono ?_
  rintro e w1 ⟨rfl, rfl⟩
  have e1 : IntKind.i64.wrap (k : Int) = k := IntWalk.i64_in _ (by omega)
  have e2 : (k : Int) + m ≤ s.size := by omega
  have e3 : (k : Int) ≤ k + m := by omega
  have e4 : (0 : Int) ≤ k + m := by omega
  have e5 : (0 : Int) ≤ k := by omega
  go_wp2
  go_quiet (fail)
  go_wp2
  go_ret
  refine ⟨rfl, ?_, ?_, by simp; omega, hs⟩
  · exact (((Kp.refl [b] w).drewN _).setCell _ _ (by simp)).drewN _
  · have := heap_set h.1 1 (.int .i64 (k + m))
    simpa using this

theorem take_no (b : Nat) (s : ByteArray) (k : Nat) (n : Int) (w : World) (h : IsRd w b s k) (hn : n < 0 ∨ s.size - k < n) :
    Calls Tryz.prog 68 #[.pointer (some ⟨b, 0, none⟩), .int .i64 n] w fun e w' =>
      e = stopped 2 ∧ Kp [] w w' := by
  have hk := h.2.1
  have hs := h.2.2
  by_cases n0 : 0 ≤ n
  · have n1 : decide (n ≤ (s.size : Int) - k) = false := decide_eq_false (by omega)
    clear hn
    go_enter Tryz.func68, Tryz.ntmps68
    go_wp2_with fail
    refine (left_ok b s k _ ⟨?_, hk, hs⟩).mono ?_
    · exact h.1
    rintro e w1 ⟨rfl, d1, rfl⟩
    go_wp2_with fail
    refine (need_no _ _ _).mono ?_
    rintro e w1 ⟨rfl, rfl⟩
    exact ⟨rfl, rfl, (Kp.refl [] w).drewN _⟩
  · clear hn
    go_enter Tryz.func68, Tryz.ntmps68
    go_wp2_with fail
    refine (need_no _ _ _).mono ?_
    rintro e w1 ⟨rfl, rfl⟩
    exact ⟨rfl, rfl, Kp.refl [] w⟩
end Go.Proofs.YthcphjmknbiadaaGreatDoor
