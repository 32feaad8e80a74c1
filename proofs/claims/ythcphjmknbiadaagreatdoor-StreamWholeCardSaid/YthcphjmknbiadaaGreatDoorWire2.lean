/- The reader's U8, U16, U32; what a reading comes to. -/
import Derived.Test.YthcphjmknbiadaaGreatDoorWire1
namespace Go.Proofs.YthcphjmknbiadaaGreatDoor
set_option maxRecDepth 100000
open Go.RowKit (wrap32 wrap64 intOf)

theorem number_no (b : Nat) (s : ByteArray) (k : Nat) (n : Int) (w : World) (h : IsRd w b s k) (n1 : n < 0 ∨ (s.size : Int) - k < n) :
    Calls Tryz.prog 124 #[.pointer (some ⟨b, 0, none⟩), .int .i64 n] w fun e w' => e = stopped 2 ∧ Kp [] w w' := by
  go_enter Tryz.func124, Tryz.ntmps124
  go_wp2_with fail
  refine (take_no b s k n _ h n1).mono ?_
  rintro e w1 ⟨rfl, k1⟩
  exact ⟨rfl, rfl, k1⟩

theorem u8_ok (b : Nat) (s : ByteArray) (k : Nat) (w : World) (h : IsRd w b s k) (n1 : k + 1 ≤ s.size) :
    Calls Tryz.prog 99 #[.pointer (some ⟨b, 0, none⟩)] w fun e w' =>
      e = .returned (.int .i64 (num s k 1)) ∧ Kp [b] w w' ∧ IsRd w' b s (k + 1) := by
  have hn : IntKind.i64.wrap (num s k 1) = num s k 1 := IntWalk.i64_in _ (by have := num_lt s k 1; omega)
  go_enter Tryz.func99, Tryz.ntmps99
  go_wp2_with fail
  refine (number_ok b s k 1 _ h n1 (by omega)).mono ?_
  rintro e w1 ⟨rfl, k1, h1⟩
  go_wp2
  go_ret
  exact ⟨rfl, k1, h1⟩
theorem u8_no (b : Nat) (s : ByteArray) (k : Nat) (w : World) (h : IsRd w b s k) (n1 : s.size < k + 1) :
    Calls Tryz.prog 99 #[.pointer (some ⟨b, 0, none⟩)] w fun e w' => e = stopped 2 ∧ Kp [] w w' := by
  go_enter Tryz.func99, Tryz.ntmps99
  go_wp2_with fail
  refine (number_no b s k 1 _ h (by omega)).mono ?_
  rintro e w1 ⟨rfl, k1⟩
  exact ⟨rfl, rfl, k1⟩
theorem u16_ok (b : Nat) (s : ByteArray) (k : Nat) (w : World) (h : IsRd w b s k) (n1 : k + 2 ≤ s.size) :
    Calls Tryz.prog 101 #[.pointer (some ⟨b, 0, none⟩)] w fun e w' =>
      e = .returned (.int .i64 (num s k 2)) ∧ Kp [b] w w' ∧ IsRd w' b s (k + 2) := by
  have hn : IntKind.i64.wrap (num s k 2) = num s k 2 := IntWalk.i64_in _ (by have := num_lt s k 2; omega)
  go_enter Tryz.func101, Tryz.ntmps101
  go_wp2_with fail
  refine (number_ok b s k 2 _ h n1 (by omega)).mono ?_
  rintro e w1 ⟨rfl, k1, h1⟩
  go_wp2
  go_ret
  exact ⟨rfl, k1, h1⟩
theorem u16_no (b : Nat) (s : ByteArray) (k : Nat) (w : World) (h : IsRd w b s k) (n1 : s.size < k + 2) :
    Calls Tryz.prog 101 #[.pointer (some ⟨b, 0, none⟩)] w fun e w' => e = stopped 2 ∧ Kp [] w w' := by
  go_enter Tryz.func101, Tryz.ntmps101
  go_wp2_with fail
  refine (number_no b s k 2 _ h (by omega)).mono ?_
  rintro e w1 ⟨rfl, k1⟩
  exact ⟨rfl, rfl, k1⟩
theorem u32_ok (b : Nat) (s : ByteArray) (k : Nat) (w : World) (h : IsRd w b s k) (n1 : k + 4 ≤ s.size) :
    Calls Tryz.prog 126 #[.pointer (some ⟨b, 0, none⟩)] w fun e w' =>
      e = .returned (.int .u32 (num s k 4)) ∧ Kp [b] w w' ∧ IsRd w' b s (k + 4) := by
  have hn : IntKind.u32.wrap (num s k 4) = num s k 4 := IntWalk.u32_in _ (by have := num_lt s k 4; omega)
  go_enter Tryz.func126, Tryz.ntmps126
  go_wp2_with fail
  refine (number_ok b s k 4 _ h n1 (by omega)).mono ?_
  rintro e w1 ⟨rfl, k1, h1⟩
  go_wp2
  go_ret
  exact ⟨rfl, k1, h1⟩
theorem u32_no (b : Nat) (s : ByteArray) (k : Nat) (w : World) (h : IsRd w b s k) (n1 : s.size < k + 4) :
    Calls Tryz.prog 126 #[.pointer (some ⟨b, 0, none⟩)] w fun e w' => e = stopped 2 ∧ Kp [] w w' := by
  go_enter Tryz.func126, Tryz.ntmps126
  go_wp2_with fail
  refine (number_no b s k 4 _ h (by omega)).mono ?_
  rintro e w1 ⟨rfl, k1⟩
  exact ⟨rfl, rfl, k1⟩

/-- A call that stops a reading, met inside a region that draws its order: the way on is kept, and false. -/
theorem stop_arm {f : FuncId} {args : Array Value} {w : World} {c : Int} {l : List Nat} {M : Ending → World → Prop}
    (h : Calls Tryz.prog f args w fun e w' => e = stopped c ∧ Kp l w w') (hG : ∀ w', Kp l w w' → M (stopped c) w') (_hK : ∀ v w', Go.RowKit.Hid False → Kp l w w' → M (.returned v) w') : Calls Tryz.prog f args w M :=
  h.mono (by rintro e w' ⟨rfl, k⟩; exact hG w' k)

/-! ### Read -/
/-- How a reading ends: it came back, or was stopped. -/
def RdEnd (c : Int) (e : Ending) : Prop := (e = .returned (.tuple #[]) ∧ c = 0) ∨ e = stopped c

theorem assert_stop (v : Value) (w : World) : (Instr.typeAssert (.iface 145 v) 20 145 true).run Tryz.prog w = .ok (.tuple #[v, .bool true]) w := by kernel_rfl
theorem catch_stop (q : Nat) (n : Int) (w : World) (x : Value) (T : TypeId) (hb : w.heap[q]? = some (.cells #[x] T (0, 0))) :
    CallsD Tryz.prog 97 #[.pointer (some ⟨q, 0, none⟩)] (.panicking [{ v := .iface 145 (.agg #[.int .i64 n]), recovered := false }]) w fun e u' w' =>
      e = .returned (.tuple #[]) ∧ u' = .panicking [{ v := .iface 145 (.agg #[.int .i64 n]), recovered := true }] ∧ Kp [] (w.setCell ⟨q, 0, none⟩ (.int .i64 n)) w' := by
  have hta := assert_stop
  have hq := heap_lt hb
  have hc : w.cell? ⟨q, 0, none⟩ = some x := cell_of hb 0
  have hz : w.frozen? ⟨q, 0, none⟩ = false := free_of hb 0
  clear hb
  refine callsD_of_wpS Tryz.func97 rfl fun c₀ cs hu => ?_
  apply wpS_seq
  apply wpS_region
  simp [wpOpsS, go_sem, recoverD, hu, Tryz.ntmps97, Exit.thenS]
  simp only [Array.replicate_succ, Array.replicate_zero, List.push_toArray, List.append_toArray, List.nil_append, List.cons_append, List.setIfInBounds_toArray, List.set_cons_zero, List.set_cons_succ]
  refine wpS_of_wp ?_
  go_wp2
  cases c₀
  simp_all [bodyPostS, results, Tryz.results97]
  exact (Kp.refl [] _).alloc _

theorem catch_idle (p : Addr) (w : World) :
    CallsD Tryz.prog 97 #[.pointer (some p)] .returning w fun e u' w' => e = .returned (.tuple #[]) ∧ u' = .returning ∧ w' = w := by
  refine callsD_of_wpS Tryz.func97 rfl fun c₀ cs hu => ?_
  apply wpS_seq
  apply wpS_region
  simp [wpOpsS, go_sem, recoverD, hu, Tryz.ntmps97, Exit.thenS]
  simp only [Array.replicate_succ, Array.replicate_zero, List.push_toArray, List.append_toArray, List.nil_append, List.cons_append, List.setIfInBounds_toArray, List.set_cons_zero, List.set_cons_succ]
  refine wpS_of_wp ?_
  go_wp2
  cases c₀
  simp_all [bodyPostS, results, Tryz.results97]

/-- `Read`: what the function does with a reader of the text, told as an error's number. -/
theorem read_ok (K : FuncId) (cap : Array Value) (s : ByteArray) (w : World) (hs : s.size ≤ 140737488351232) (R : Int → World → Prop)
    (hK : ∀ (args : Array Value) (w : World), (callFunc K args).run Tryz.prog w = .ok (.enter K args) w)
    (hdo : ∀ w1 : World, Kp [] w w1 → w1.heap.size = w.heap.size + 2 → w1.heap[w.heap.size]? = some (.cells #[.int .i64 0] 27 (0, 0)) → IsRd w1 (w.heap.size + 1) s 0 →
      Calls Tryz.prog K (#[.pointer (some ⟨w.heap.size + 1, 0, none⟩)] ++ cap) w1 fun e w' =>
        ∃ c, RdEnd c e ∧ w'.heap[w.heap.size]? = some (.cells #[.int .i64 0] 27 (0, 0)) ∧ R c w') :
    Calls Tryz.prog 65 #[.string s, .func (.func K) #[] cap] w fun e w' =>
      ∃ c w1, R c w1 ∧ e = .returned (.int .i64 c) ∧ Kp [w.heap.size] w1 w' := by
  have hmf : ∀ (fn : Fn) (first cap : Array Value) (w : World), (Instr.makeFunc fn first cap).run Tryz.prog w = .ok (.func fn first cap) w := fun _ _ _ _ => rfl
  have HD := Lib.hid hdo
  clear hdo
  go_enter_defers Tryz.func65, Tryz.ntmps65
  go_wp2_with fail
  refine (HD.out _ ?_ ?_ ?_ ?_).mono ?_
  · exact ((Kp.refl [] w).alloc _).alloc _
  · simp
  · exact heap_alloc_old (heap_alloc_new w _) _
  · exact ⟨by have := heap_alloc_new (w.alloc (.cells #[.int .i64 0] 27)) (.cells #[.string s, .int .i64 0] 147); rwa [World.size_alloc] at this, by omega, hs⟩
  rintro e w1 ⟨c, he, hq, hR⟩
  have hc : w1.cell? ⟨w.heap.size, 0, none⟩ = some (.int .i64 0) := cell_of hq 0
  have hz : w1.frozen? ⟨w.heap.size, 0, none⟩ = false := free_of hq 0
  rcases he with ⟨rfl, rfl⟩ | rfl
  · go_wp2
    refine leaves_cons (f := 97) (args := #[.pointer (some ⟨w.heap.size, 0, none⟩)]) (by simp) (by simp [go_sem]) ?_
    refine (catch_idle _ _).mono ?_
    rintro e u' w'' ⟨rfl, rfl, rfl⟩
    have hc2 : (w1.setCell ⟨w.heap.size, 0, none⟩ (.int .i64 0)).cell? ⟨w.heap.size, 0, none⟩ = some (.int .i64 0) := cell_of (heap_set hq 0 _) 0
    have hkp : Kp [w.heap.size] w1 (w1.setCell ⟨w.heap.size, 0, none⟩ (.int .i64 0)) := (Kp.refl [w.heap.size] w1).setCell _ _ (by simp)
    simp [Leaves, settle, results, Tryz.results65, go_sem, hc2]
    exact ⟨_, _, hR, rfl, hkp⟩
  · go_wp2
    refine leaves_cons (f := 97) (args := #[.pointer (some ⟨w.heap.size, 0, none⟩)]) (by simp) (by simp [go_sem]) ?_
    refine (catch_stop w.heap.size c _ _ _ hq).mono ?_
    rintro e u' w'' ⟨rfl, rfl, hk⟩
    have hb2 := hk.block (heap_set hq 0 (.int .i64 c)) (by simp)
    have hc2 : w''.cell? ⟨w.heap.size, 0, none⟩ = some (.int .i64 c) := cell_of hb2 0
    have hkp : Kp [w.heap.size] w1 w'' := ((Kp.refl [w.heap.size] w1).setCell ⟨w.heap.size, 0, none⟩ (.int .i64 c) (by simp)).trans hk (by simp)
    simp [Leaves, settle, results, Tryz.results65, go_sem, hc2]
    exact ⟨_, _, hR, rfl, hkp⟩
end Go.Proofs.YthcphjmknbiadaaGreatDoor
