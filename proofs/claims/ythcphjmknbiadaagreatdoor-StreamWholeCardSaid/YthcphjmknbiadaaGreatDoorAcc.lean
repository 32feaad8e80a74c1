/- A stream: New, Feed, Head, Held. -/
import Derived.Test.YthcphjmknbiadaaGreatDoorStr2
namespace Go.Proofs.YthcphjmknbiadaaGreatDoor
set_option maxRecDepth 100000
set_option linter.unusedVariables false
open Go.RowKit (wrap32 wrap64 intOf)

theorem cells12 {w : World} {b : Nat} {T : TypeId} {x0 x1 x2 x3 x4 x5 x6 x7 x8 x9 x10 x11 : Value} (h : w.heap[b]? = some (.cells #[x0, x1, x2, x3, x4, x5, x6, x7, x8, x9, x10, x11] T (0, 0))) :
    (w.cell? ⟨b, 0, none⟩ = some x0 ∧ w.cell? ⟨b, 1, none⟩ = some x1 ∧ w.cell? ⟨b, 2, none⟩ = some x2 ∧ w.cell? ⟨b, 3, none⟩ = some x3 ∧ w.cell? ⟨b, 4, none⟩ = some x4 ∧ w.cell? ⟨b, 5, none⟩ = some x5 ∧ w.cell? ⟨b, 6, none⟩ = some x6 ∧ w.cell? ⟨b, 7, none⟩ = some x7 ∧ w.cell? ⟨b, 8, none⟩ = some x8 ∧ w.cell? ⟨b, 9, none⟩ = some x9 ∧ w.cell? ⟨b, 10, none⟩ = some x10 ∧ w.cell? ⟨b, 11, none⟩ = some x11) :=
  ⟨cell_of h 0, cell_of h 1, cell_of h 2, cell_of h 3, cell_of h 4, cell_of h 5, cell_of h 6, cell_of h 7, cell_of h 8, cell_of h 9, cell_of h 10, cell_of h 11⟩
/-- A stream waits for its header; what is held back. -/
def AWait (w : World) (a : Nat) (held : ByteArray) : Prop :=
  w.heap[a]? = some (.cells #[.func (.func 24) #[.pointer (some ⟨a, 0, none⟩)] #[], .bool false, .int .i64 0, .string ⟨#[]⟩, .string ⟨#[]⟩, .int .i64 0, .int .i64 0, .slice none 0 0, .int .i64 0, .bool false, .bool false, .string held] 66 (0, 0))
/-- It has its header. -/
def AOpen (w : World) (a : Nat) (h : Hd) (A : Option Addr) (c : Nat) : Prop :=
  w.heap[a]? = some (.cells #[.func (.func 47) #[] #[], .bool h.s.loc, .int .i64 h.s.fam, .string h.s.src, .string h.s.dst, .int .i64 h.s.sp, .int .i64 h.s.dp, .slice A h.s.flds.length c, .int .i64 h.ver, .bool h.sl, .bool true, .string ⟨#[]⟩] 66 (0, 0))
theorem AWait.kp {F : Nat → Obj → Prop} {w w' : World} {a : Nat} {s : ByteArray} (h : AWait w a s) (k : KpF F w w') (hn : ∀ x, ¬ F a x) : AWait w' a s := k.keep _ _ h (hn _)
theorem AOpen.kp {F : Nat → Obj → Prop} {w w' : World} {a : Nat} {h : Hd} {A : Option Addr} {c : Nat} (hh : AOpen w a h A c) (k : KpF F w w') (hn : ∀ x, ¬ F a x) : AOpen w' a h A c := k.keep _ _ hh (hn _)
theorem new_ok (w : World) : Calls Tryz.prog 14 #[] w fun e w' => e = .returned (.pointer (some ⟨w.heap.size, 0, none⟩)) ∧ AWait w' w.heap.size ⟨#[]⟩ ∧ Kp [] w w' := by
  have hmf : ∀ (fn : Fn) (first cap : Array Value) (w : World), (Instr.makeFunc fn first cap).run Tryz.prog w = .ok (.func fn first cap) w := fun _ _ _ _ => rfl
  go_enter Tryz.func14, Tryz.ntmps14
  go_wp2_with fail
  go_ret
  exact ⟨rfl, heap_alloc_new w _, (Kp.refl [] w).alloc _⟩
theorem free12 {w : World} {b : Nat} {T : TypeId} {c : Array Value} (h : w.heap[b]? = some (.cells c T (0, 0))) :
    (w.frozen? ⟨b, 0, none⟩ = false ∧ w.frozen? ⟨b, 1, none⟩ = false ∧ w.frozen? ⟨b, 2, none⟩ = false ∧ w.frozen? ⟨b, 3, none⟩ = false ∧ w.frozen? ⟨b, 4, none⟩ = false ∧ w.frozen? ⟨b, 5, none⟩ = false ∧ w.frozen? ⟨b, 6, none⟩ = false ∧ w.frozen? ⟨b, 7, none⟩ = false ∧ w.frozen? ⟨b, 8, none⟩ = false ∧ w.frozen? ⟨b, 9, none⟩ = false ∧ w.frozen? ⟨b, 10, none⟩ = false ∧ w.frozen? ⟨b, 11, none⟩ = false) :=
  ⟨free_of h _, free_of h _, free_of h _, free_of h _, free_of h _, free_of h _, free_of h _, free_of h _, free_of h _, free_of h _, free_of h _, free_of h _⟩
theorem wait_more (w : World) (a : Nat) (held s : ByteArray) (hg : Gl w) (ha : AWait w a held) (hb : held.size + s.size ≤ 1000000) (hr : (getH (held ++ s)).1 = 10) :
    Calls Tryz.prog 24 #[.pointer (some ⟨a, 0, none⟩), .string s] w fun e w' => e = .returned (.tuple #[.string ⟨#[]⟩, .int .i64 10]) ∧ AWait w' a (held ++ s) ∧ Kp [a] w w' := by
  have hmf : ∀ (fn : Fn) (first cap : Array Value) (w : World), (Instr.makeFunc fn first cap).run Tryz.prog w = .ok (.func fn first cap) w := fun _ _ _ _ => rfl
  have HA := Lib.hid ha
  have HR := Lib.hid hr
  obtain ⟨c0, c1, c2, c3, c4, c5, c6, c7, c8, c9, c10, c11⟩ := cells12 ha
  clear ha hr
  go_enter Tryz.func24, Tryz.ntmps24
  go_wp2_with fail
  refine (sget_ok (held ++ s) _ hg (by rw [ByteArray.size_append]; exact hb)).mono ?_
  rintro e w1 ⟨k1, A, c, rfl, hf, hlc, hA0⟩
  obtain ⟨R, hR⟩ : ∃ R, R = getH (held ++ s) := ⟨_, rfl⟩
  have hr := HR.out
  rw [← hR] at hr ⊢
  rw [hr]
  have ha1 := HA.out.kp k1 (by simp)
  have hlt := heap_lt ha1
  have HA1 := Lib.hid ha1
  have HK1 := Lib.hid k1
  clear c0 c1 c2 c3 c4 c5 c6 c7 c8 c9 c10 c11 hr hf hlc hA0 hg k1
  obtain ⟨c0, c1, c2, c3, c4, c5, c6, c7, c8, c9, c10, c11⟩ := cells12 ha1
  obtain ⟨f0, f1, f2, f3, f4, f5, f6, f7, f8, f9, f10, f11⟩ := free12 ha1
  clear ha1
  go_wp2_with fail
  go_quiet (fail)
  go_wp2_with fail
  go_ret2
  exact ⟨rfl, heap_alloc_old (heap_alloc_old (heap_set HA1.out 11 (.string (held ++ s))) _) _, ((((HK1.out.mono (by simp)).setCell ⟨a, 11, none⟩ _ (.inl (by simp))).alloc _).alloc _).drewN _⟩
theorem set12_heap {w : World} {b : Nat} {T : TypeId} {x0 x1 x2 x3 x4 x5 x6 x7 x8 x9 x10 x11 : Value} (h : w.heap[b]? = some (.cells #[x0, x1, x2, x3, x4, x5, x6, x7, x8, x9, x10, x11] T (0, 0))) (v0 v1 v2 v3 v4 v5 v6 v7 v8 v9 v10 v11 : Value) (o o2 : Obj) :
    ((((((((((((((w.setCell ⟨b, 1, none⟩ v1).setCell ⟨b, 2, none⟩ v2).setCell ⟨b, 3, none⟩ v3).setCell ⟨b, 4, none⟩ v4).setCell ⟨b, 5, none⟩ v5).setCell ⟨b, 6, none⟩ v6).setCell ⟨b, 7, none⟩ v7).setCell ⟨b, 8, none⟩ v8).setCell ⟨b, 9, none⟩ v9).setCell ⟨b, 10, none⟩ v10).setCell ⟨b, 11, none⟩ v11).setCell ⟨b, 0, none⟩ v0).alloc o).alloc o2).heap[b]? = some (.cells #[v0, v1, v2, v3, v4, v5, v6, v7, v8, v9, v10, v11] T (0, 0)) := by
  have h9 := heap_alloc_old (heap_alloc_old (heap_set (heap_set (heap_set (heap_set (heap_set (heap_set (heap_set (heap_set (heap_set (heap_set (heap_set (heap_set h 1 v1) 2 v2) 3 v3) 4 v4) 5 v5) 6 v6) 7 v7) 8 v8) 9 v9) 10 v10) 11 v11) 0 v0) o) o2
  simp only [List.setIfInBounds_toArray, List.set_cons_succ, List.set_cons_zero] at h9
  exact h9
theorem set12_kp {w0 w : World} {b : Nat} (k : Kp [b] w0 w) (v0 v1 v2 v3 v4 v5 v6 v7 v8 v9 v10 v11 : Value) (o o2 : Obj) : Kp [b] w0 ((((((((((((((w.setCell ⟨b, 1, none⟩ v1).setCell ⟨b, 2, none⟩ v2).setCell ⟨b, 3, none⟩ v3).setCell ⟨b, 4, none⟩ v4).setCell ⟨b, 5, none⟩ v5).setCell ⟨b, 6, none⟩ v6).setCell ⟨b, 7, none⟩ v7).setCell ⟨b, 8, none⟩ v8).setCell ⟨b, 9, none⟩ v9).setCell ⟨b, 10, none⟩ v10).setCell ⟨b, 11, none⟩ v11).setCell ⟨b, 0, none⟩ v0).alloc o).alloc o2) := (((((((((((((k.setCell ⟨b, 1, none⟩ v1 (.inl (by simp))).setCell ⟨b, 2, none⟩ v2 (.inl (by simp))).setCell ⟨b, 3, none⟩ v3 (.inl (by simp))).setCell ⟨b, 4, none⟩ v4 (.inl (by simp))).setCell ⟨b, 5, none⟩ v5 (.inl (by simp))).setCell ⟨b, 6, none⟩ v6 (.inl (by simp))).setCell ⟨b, 7, none⟩ v7 (.inl (by simp))).setCell ⟨b, 8, none⟩ v8 (.inl (by simp))).setCell ⟨b, 9, none⟩ v9 (.inl (by simp))).setCell ⟨b, 10, none⟩ v10 (.inl (by simp))).setCell ⟨b, 11, none⟩ v11 (.inl (by simp))).setCell ⟨b, 0, none⟩ v0 (.inl (by simp))).alloc o).alloc o2
theorem set12_fat {w : World} {A : Option Addr} {l : List (Int × ByteArray)} (h : FAt w A l) (b : Nat) (hb : ∀ g o, A = some ⟨g, o, none⟩ → b < g) (v0 v1 v2 v3 v4 v5 v6 v7 v8 v9 v10 v11 : Value) (o o2 : Obj) : FAt ((((((((((((((w.setCell ⟨b, 1, none⟩ v1).setCell ⟨b, 2, none⟩ v2).setCell ⟨b, 3, none⟩ v3).setCell ⟨b, 4, none⟩ v4).setCell ⟨b, 5, none⟩ v5).setCell ⟨b, 6, none⟩ v6).setCell ⟨b, 7, none⟩ v7).setCell ⟨b, 8, none⟩ v8).setCell ⟨b, 9, none⟩ v9).setCell ⟨b, 10, none⟩ v10).setCell ⟨b, 11, none⟩ v11).setCell ⟨b, 0, none⟩ v0).alloc o).alloc o2) A l := by
  refine h.kp (F := fun i _ => i = b) ?_ (fun g o hg _ he => by have := hb g o hg; omega)
  exact KpF.alloc (KpF.alloc (KpF.setCell (KpF.setCell (KpF.setCell (KpF.setCell (KpF.setCell (KpF.setCell (KpF.setCell (KpF.setCell (KpF.setCell (KpF.setCell (KpF.setCell (KpF.setCell (KpF.refl _ w) ⟨b, 1, none⟩ v1 (fun _ _ => rfl)) ⟨b, 2, none⟩ v2 (fun _ _ => rfl)) ⟨b, 3, none⟩ v3 (fun _ _ => rfl)) ⟨b, 4, none⟩ v4 (fun _ _ => rfl)) ⟨b, 5, none⟩ v5 (fun _ _ => rfl)) ⟨b, 6, none⟩ v6 (fun _ _ => rfl)) ⟨b, 7, none⟩ v7 (fun _ _ => rfl)) ⟨b, 8, none⟩ v8 (fun _ _ => rfl)) ⟨b, 9, none⟩ v9 (fun _ _ => rfl)) ⟨b, 10, none⟩ v10 (fun _ _ => rfl)) ⟨b, 11, none⟩ v11 (fun _ _ => rfl)) ⟨b, 0, none⟩ v0 (fun _ _ => rfl)) o) o2
theorem wait_open (w : World) (a : Nat) (held s : ByteArray) (hg : Gl w) (ha : AWait w a held) (hb : held.size + s.size ≤ 1000000) (hr : (getH (held ++ s)).1 = 0) (hn : (getH (held ++ s)).2.2 ≤ held.size + s.size) :
    Calls Tryz.prog 24 #[.pointer (some ⟨a, 0, none⟩), .string s] w fun e w' =>
      (∃ A c, AOpen w' a (getH (held ++ s)).2.1 A c ∧ FAt w' A (getH (held ++ s)).2.1.s.flds ∧ (getH (held ++ s)).2.1.s.flds.length ≤ c ∧ ∀ g o, A = some ⟨g, o, none⟩ → w.heap.size ≤ g) ∧ e = .returned (.tuple #[.string ((held ++ s).extract (getH (held ++ s)).2.2 (held.size + s.size)), .int .i64 0]) ∧ Kp [a] w w' := by
  have hmf : ∀ (fn : Fn) (first cap : Array Value) (w : World), (Instr.makeFunc fn first cap).run Tryz.prog w = .ok (.func fn first cap) w := fun _ _ _ _ => rfl
  have HA := Lib.hid ha
  have HR := Lib.hid hr
  obtain ⟨c0, c1, c2, c3, c4, c5, c6, c7, c8, c9, c10, c11⟩ := cells12 ha
  clear ha hr
  go_enter Tryz.func24, Tryz.ntmps24
  go_wp2_with fail
  refine (sget_ok (held ++ s) _ hg (by rw [ByteArray.size_append]; exact hb)).mono ?_
  rintro e w1 ⟨k1, A, c, rfl, hf, hlc, hA0⟩
  obtain ⟨R, hR⟩ : ∃ R, R = getH (held ++ s) := ⟨_, rfl⟩
  have hr := HR.out
  rw [← hR] at hr hf hlc hn ⊢
  obtain ⟨r1, h, n⟩ := R
  simp only [] at hr hf hlc hn ⊢
  subst hr
  have ha1 := HA.out.kp k1 (by simp)
  have hlt := heap_lt ha1
  have hlt0 := heap_lt HA.out
  have HA1 := Lib.hid ha1
  have HK1 := Lib.hid k1
  have HF := Lib.hid hf
  have HA0 := Lib.hid hA0
  have hsz : (held ++ s).size = held.size + s.size := ByteArray.size_append
  obtain ⟨b, hb2⟩ : ∃ b, b = held ++ s := ⟨_, rfl⟩
  rw [← hb2] at hsz ⊢
  have HB := Lib.hid hb2
  have hnb : n ≤ b.size := by omega
  have HRR := Lib.hid hR
  have HSZ := Lib.hid hsz
  clear c0 c1 c2 c3 c4 c5 c6 c7 c8 c9 c10 c11 hf hA0 hg k1 hR hb2 hsz hn
  obtain ⟨c0, c1, c2, c3, c4, c5, c6, c7, c8, c9, c10, c11⟩ := cells12 ha1
  obtain ⟨f0, f1, f2, f3, f4, f5, f6, f7, f8, f9, f10, f11⟩ := free12 ha1
  clear ha1
  go_wp2_with fail
  go_ret2
  refine ⟨⟨A, c, ?_, ?_, ?_, HA0.out⟩, ?_, set12_kp (HK1.out.mono (by simp)) _ _ _ _ _ _ _ _ _ _ _ _ _ _⟩
  · rw [← HRR.out]; exact set12_heap HA1.out _ _ _ _ _ _ _ _ _ _ _ _ _ _
  · rw [← HRR.out]; exact set12_fat HF.out _ (fun g o hg => by have := HA0.out g o hg; omega) _ _ _ _ _ _ _ _ _ _ _ _ _ _
  · rw [← HRR.out]; exact hlc
  · rw [← HRR.out, ← HSZ.out, ← HB.out]; rfl
/-- A piece, while the header isn't whole. -/
theorem feed_more (w : World) (a : Nat) (held s : ByteArray) (hg : Gl w) (ha : AWait w a held) (hb : held.size + s.size ≤ 1000000) (hr : (getH (held ++ s)).1 = 10) :
    Calls Tryz.prog 15 #[.pointer (some ⟨a, 0, none⟩), .string s] w fun e w' => e = .returned (.tuple #[.string ⟨#[]⟩, .int .i64 10]) ∧ AWait w' a (held ++ s) ∧ Kp [a] w w' := by
  have HA := Lib.hid ha
  have HR := Lib.hid hr
  obtain ⟨c0, c1, c2, c3, c4, c5, c6, c7, c8, c9, c10, c11⟩ := cells12 ha
  clear ha hr
  go_enter Tryz.func15, Tryz.ntmps15
  go_wp2_with fail
  refine (wait_more w a held s hg HA.out hb HR.out).mono ?_
  rintro e w1 ⟨rfl, ha1, k1⟩
  have H1 := Lib.hid ha1
  clear c0 c1 c2 c3 c4 c5 c6 c7 c8 c9 c10 c11 ha1
  go_wp2_with fail
  go_ret2
  exact ⟨rfl, H1.out, k1⟩
/-- A piece by which the header becomes whole. -/
theorem feed_open (w : World) (a : Nat) (held s : ByteArray) (hg : Gl w) (ha : AWait w a held) (hb : held.size + s.size ≤ 1000000) (hr : (getH (held ++ s)).1 = 0) (hn : (getH (held ++ s)).2.2 ≤ held.size + s.size) :
    Calls Tryz.prog 15 #[.pointer (some ⟨a, 0, none⟩), .string s] w fun e w' =>
      (∃ A c, AOpen w' a (getH (held ++ s)).2.1 A c ∧ FAt w' A (getH (held ++ s)).2.1.s.flds ∧ (getH (held ++ s)).2.1.s.flds.length ≤ c ∧ ∀ g o, A = some ⟨g, o, none⟩ → w.heap.size ≤ g) ∧ e = .returned (.tuple #[.string ((held ++ s).extract (getH (held ++ s)).2.2 (held.size + s.size)), .int .i64 0]) ∧ Kp [a] w w' := by
  have HA := Lib.hid ha
  have HR := Lib.hid hr
  have HN := Lib.hid hn
  obtain ⟨c0, c1, c2, c3, c4, c5, c6, c7, c8, c9, c10, c11⟩ := cells12 ha
  clear ha hr hn
  go_enter Tryz.func15, Tryz.ntmps15
  go_wp2_with fail
  refine (wait_open w a held s hg HA.out hb HR.out HN.out).mono ?_
  rintro e w1 ⟨ha1, rfl, k1⟩
  have H1 := Lib.hid ha1
  clear c0 c1 c2 c3 c4 c5 c6 c7 c8 c9 c10 c11 ha1
  go_wp2_with fail
  go_ret2
  exact ⟨H1.out, rfl, k1⟩
theorem pass_ok (s : ByteArray) (w : World) : Calls Tryz.prog 47 #[.string s] w fun e w' => e = .returned (.tuple #[.string s, .int .i64 0]) ∧ w = w' := by
  go_enter Tryz.func47, Tryz.ntmps47
  go_wp2_with fail
  go_ret2
  exact ⟨rfl, rfl⟩
/-- A piece behind the header. -/
theorem feed_on (w : World) (a : Nat) (h : Hd) (A : Option Addr) (c : Nat) (s : ByteArray) (ha : AOpen w a h A c) :
    Calls Tryz.prog 15 #[.pointer (some ⟨a, 0, none⟩), .string s] w fun e w' => e = .returned (.tuple #[.string s, .int .i64 0]) ∧ w = w' := by
  obtain ⟨c0, c1, c2, c3, c4, c5, c6, c7, c8, c9, c10, c11⟩ := cells12 ha
  clear ha
  go_enter Tryz.func15, Tryz.ntmps15
  go_wp2_with fail
  refine (pass_ok s w).mono ?_
  rintro e w1 ⟨rfl, rfl⟩
  go_wp2_with fail
  go_ret2
  exact ⟨rfl, rfl⟩
theorem head_wait (w : World) (a : Nat) (held : ByteArray) (ha : AWait w a held) :
    Calls Tryz.prog 16 #[.pointer (some ⟨a, 0, none⟩)] w fun e w' => e = .returned (.tuple #[hval zeroH none 0, .bool false]) ∧ Kp [] w w' := by
  obtain ⟨c0, c1, c2, c3, c4, c5, c6, c7, c8, c9, c10, c11⟩ := cells12 ha
  have hlt := heap_lt ha
  clear ha
  go_enter Tryz.func16, Tryz.ntmps16
  go_wp2_with fail
  go_region
  go_wp2_with fail
  refine ret_cell1 (by rfl) w.heap.size 31 _ (0, 0) _ (heap_alloc_new w _) (by rfl) Tryz.underlying31 rfl (by kernel_rfl) rfl ?_
  exact ⟨rfl, ((Kp.refl [] w).alloc _).drew⟩
theorem head_open (w : World) (a : Nat) (h : Hd) (A : Option Addr) (c : Nat) (ha : AOpen w a h A c) :
    Calls Tryz.prog 16 #[.pointer (some ⟨a, 0, none⟩)] w fun e w' => e = .returned (.tuple #[hval h A c, .bool true]) ∧ Kp [] w w' := by
  obtain ⟨c0, c1, c2, c3, c4, c5, c6, c7, c8, c9, c10, c11⟩ := cells12 ha
  have hlt := heap_lt ha
  clear ha
  go_enter Tryz.func16, Tryz.ntmps16
  go_wp2_with fail
  go_region
  go_wp2_with fail
  refine ret_cell1 (by rfl) w.heap.size 31 _ (0, 0) _ (heap_alloc_new w _) (by rfl) Tryz.underlying31 rfl (by kernel_rfl) rfl ?_
  exact ⟨rfl, ((Kp.refl [] w).alloc _).drew⟩
theorem held_ok (w : World) (a : Nat) (n : Nat) (s : ByteArray) (ha : w.cell? ⟨a, 11, none⟩ = some (.string s)) :
    Calls Tryz.prog 17 #[.pointer (some ⟨a, 0, none⟩)] w fun e w' => e = .returned (.int .i64 s.size) ∧ w = w' := by
  go_enter Tryz.func17, Tryz.ntmps17
  go_wp2_with fail
  go_ret
  exact ⟨rfl, rfl⟩
end Go.Proofs.YthcphjmknbiadaaGreatDoor
