/- Words of our own: what a call keeps of the world, readers, bytes as lists. -/
import Derived.Test.YthcphjmknbiadaaGreatDoorProg
import Derived.WalkKit
import Derived.Below
import Derived.Lib.Hide
import Derived.WalkLawsBesides
import Derived.Deep.QuietTactic
import Derived.BigQuiet
import Derived.Deep.RegionHeld3
import Derived.Deep.Draws
import Derived.Recover
import Derived.IntWalk
import Derived.Deep.MidRow
import Derived.Laws.Rows
namespace Go.Proofs.YthcphjmknbiadaaGreatDoor

/-- All that was there stays, but for what `F` says; new blocks may come. -/
structure KpF (F : Nat → Obj → Prop) (w w' : World) : Prop where
  os : w'.os = w.os
  tape : w'.tape = w.tape
  output : w'.output = w.output
  size : w.heap.size ≤ w'.heap.size
  keep : ∀ i o, w.heap[i]? = some o → ¬ F i o → w'.heap[i]? = some o
/-- .. but for the blocks in `l`. -/
abbrev Kp (l : List Nat) (w w' : World) : Prop := KpF (fun i _ => i ∈ l) w w'

theorem heap_lt {w : World} {b : Nat} {o : Obj} (h : w.heap[b]? = some o) : b < w.heap.size := by
  rcases Nat.lt_or_ge b w.heap.size with h1 | h1
  · exact h1
  · simp [Array.getElem?_eq_none h1] at h
theorem heap_alloc_new (w : World) (o : Obj) : (w.alloc o).heap[w.heap.size]? = some o := by
  show (w.heap.push o)[w.heap.size]? = _
  simp
theorem heap_alloc_old {w : World} {b : Nat} {o : Obj} (h : w.heap[b]? = some o) (o' : Obj) : (w.alloc o').heap[b]? = some o := by
  have := heap_lt h
  rw [Go.RowKit.Below.heap_alloc w o' b this]; exact h
theorem alloc2_0 (w : World) (a b : Obj) : ((w.alloc a).alloc b).heap[w.heap.size]? = some a := heap_alloc_old (heap_alloc_new w a) b
theorem alloc2_1 (w : World) (a b : Obj) : ((w.alloc a).alloc b).heap[w.heap.size + 1]? = some b := by have := heap_alloc_new (w.alloc a) b; rwa [World.size_alloc] at this
theorem alloc3_0 (w : World) (a b c : Obj) : (((w.alloc a).alloc b).alloc c).heap[w.heap.size]? = some a := heap_alloc_old (alloc2_0 w a b) c
theorem alloc3_1 (w : World) (a b c : Obj) : (((w.alloc a).alloc b).alloc c).heap[w.heap.size + 1]? = some b := heap_alloc_old (alloc2_1 w a b) c
theorem alloc3_2 (w : World) (a b c : Obj) : (((w.alloc a).alloc b).alloc c).heap[w.heap.size + 1 + 1]? = some c := by have := heap_alloc_new ((w.alloc a).alloc b) c; rwa [World.size_alloc, World.size_alloc] at this
theorem heap_set {w : World} {b : Nat} {c : Array Value} {t : TypeId} {f : Nat × Nat} (h : w.heap[b]? = some (.cells c t f)) (i : Nat) (v : Value) :
    (w.setCell ⟨b, i, none⟩ v).heap[b]? = some (.cells (c.setIfInBounds i v) t f) := by
  simp [World.setCell, Array.getElem?_modify, h]
theorem heap_set_other {w : World} {b : Nat} {o : Obj} (h : w.heap[b]? = some o) {p : Addr} (hp : p.block ≠ b) (v : Value) :
    (w.setCell p v).heap[b]? = some o := by
  rw [Go.RowKit.Below.heap_setCell w p v b (fun e => hp e.symm)]; exact h
theorem cell_of {w : World} {b : Nat} {c : Array Value} {t : TypeId} {f : Nat × Nat} (h : w.heap[b]? = some (.cells c t f)) (i : Nat) : w.cell? ⟨b, i, none⟩ = c[i]? := by
  simp [World.cell?, h]
theorem free_of {w : World} {b : Nat} {c : Array Value} {t : TypeId} (h : w.heap[b]? = some (.cells c t (0, 0))) (i : Nat) : w.frozen? ⟨b, i, none⟩ = false := by
  simp [World.frozen?, h]

theorem KpF.refl (F : Nat → Obj → Prop) (w : World) : KpF F w w := ⟨rfl, rfl, rfl, Nat.le_refl _, fun _ _ h _ => h⟩
theorem KpF.trans {F G : Nat → Obj → Prop} {a b c : World} (h : KpF F a b) (k : KpF G b c) (hl : ∀ i o, i < a.heap.size → G i o → F i o) : KpF F a c :=
  ⟨k.os.trans h.os, k.tape.trans h.tape, k.output.trans h.output, Nat.le_trans h.size k.size, fun i o hi hn => k.keep i o (h.keep i o hi hn) (fun g => hn (hl i o (heap_lt hi) g))⟩
theorem KpF.mono {F G : Nat → Obj → Prop} {a b : World} (h : KpF G a b) (hl : ∀ i o, i < a.heap.size → G i o → F i o) : KpF F a b := (KpF.refl F a).trans h hl
theorem KpF.drewN {F : Nat → Obj → Prop} {a b : World} (h : KpF F a b) (n : Nat) : KpF F a (b.drewN n) := ⟨h.os, h.tape, h.output, h.size, h.keep⟩
theorem KpF.drew {F : Nat → Obj → Prop} {a b : World} (h : KpF F a b) : KpF F a b.drew := ⟨h.os, h.tape, h.output, h.size, h.keep⟩
theorem KpF.alloc {F : Nat → Obj → Prop} {a b : World} (h : KpF F a b) (o : Obj) : KpF F a (b.alloc o) :=
  ⟨h.os, h.tape, h.output, by simp; have := h.size; omega, fun i x hi hn => heap_alloc_old (h.keep i x hi hn) o⟩
theorem KpF.setCell {F : Nat → Obj → Prop} {a b : World} (h : KpF F a b) (p : Addr) (v : Value) (hp : ∀ o, p.block < a.heap.size → F p.block o) : KpF F a (b.setCell p v) :=
  ⟨h.os, h.tape, h.output, by simp [World.setCell]; exact h.size, fun i x hi hn => heap_set_other (h.keep i x hi hn) (fun e => by subst e; exact hn (hp _ (heap_lt hi))) v⟩
theorem KpF.block {F : Nat → Obj → Prop} {w w' : World} (h : KpF F w w') {i : Nat} {o : Obj} (ho : w.heap[i]? = some o) (hn : ¬ F i o) : w'.heap[i]? = some o := h.keep i o ho hn
theorem Kp.refl (l : List Nat) (w : World) : Kp l w w := KpF.refl _ w
theorem Kp.trans {l l' : List Nat} {a b c : World} (h : Kp l a b) (k : Kp l' b c) (hl : ∀ i, i ∈ l' → i ∈ l ∨ a.heap.size ≤ i) : Kp l a c :=
  KpF.trans h k fun i _ hi hm => by rcases hl i hm with h1 | h1; exact h1; omega
theorem Kp.mono {l l' : List Nat} {a b : World} (h : Kp l a b) (hl : ∀ i, i ∈ l → i ∈ l' ∨ a.heap.size ≤ i) : Kp l' a b :=
  (Kp.refl l' a).trans h hl
theorem Kp.setCell {l : List Nat} {a b : World} (h : Kp l a b) (p : Addr) (v : Value) (hp : p.block ∈ l ∨ a.heap.size ≤ p.block) : Kp l a (b.setCell p v) :=
  KpF.setCell h p v fun _ hi => by rcases hp with h1 | h1; exact h1; omega
theorem Kp.block {l : List Nat} {w w' : World} (h : Kp l w w') {i : Nat} {o : Obj} (ho : w.heap[i]? = some o) (hn : i ∉ l) : w'.heap[i]? = some o := h.keep i o ho hn
theorem Kp.drewN {l : List Nat} {a b : World} (h : Kp l a b) (n : Nat) : Kp l a (b.drewN n) := KpF.drewN h n
theorem Kp.drew {l : List Nat} {a b : World} (h : Kp l a b) : Kp l a b.drew := KpF.drew h
theorem Kp.alloc {l : List Nat} {a b : World} (h : Kp l a b) (o : Obj) : Kp l a (b.alloc o) := KpF.alloc h o
theorem Kp.of_below {w w' : World} (h : Go.RowKit.Below w.heap.size w w') : Kp [] w w' := ⟨h.os, h.tape, h.output, h.size, fun i o ho _ => (h.block i (heap_lt ho)).trans ho⟩
theorem Kp.below {w w' : World} (h : Kp [] w w') : Go.RowKit.Below w.heap.size w w' := ⟨h.os, h.tape, h.output, h.size, fun i hi => by
  have := h.keep i _ (Array.getElem?_eq_getElem hi) (by simp)
  rw [this, Array.getElem?_eq_getElem hi]⟩

@[simp, go_sem] theorem setCell_drewN (w : World) (n : Nat) (a : Addr) (v : Value) : (w.drewN n).setCell a v = (w.setCell a v).drewN n := rfl
@[simp, go_sem] theorem alloc_drewN (w : World) (n : Nat) (o : Obj) : (w.drewN n).alloc o = (w.alloc o).drewN n := rfl

theorem cells1 {w : World} {b : Nat} {T : TypeId} {x0 : Value} (h : w.heap[b]? = some (.cells #[x0] T (0, 0))) : w.cell? ⟨b, 0, none⟩ = some x0 ∧ w.frozen? ⟨b, 0, none⟩ = false := ⟨cell_of h 0, free_of h 0⟩
theorem cells2 {w : World} {b : Nat} {T : TypeId} {x0 x1 : Value} (h : w.heap[b]? = some (.cells #[x0, x1] T (0, 0))) : w.cell? ⟨b, 0, none⟩ = some x0 ∧ w.cell? ⟨b, 1, none⟩ = some x1 ∧ w.frozen? ⟨b, 0, none⟩ = false ∧ w.frozen? ⟨b, 1, none⟩ = false := ⟨cell_of h 0, cell_of h 1, free_of h 0, free_of h 1⟩
theorem cells3 {w : World} {b : Nat} {T : TypeId} {x0 x1 x2 : Value} (h : w.heap[b]? = some (.cells #[x0, x1, x2] T (0, 0))) : w.cell? ⟨b, 0, none⟩ = some x0 ∧ w.cell? ⟨b, 1, none⟩ = some x1 ∧ w.cell? ⟨b, 2, none⟩ = some x2 ∧ w.frozen? ⟨b, 0, none⟩ = false ∧ w.frozen? ⟨b, 1, none⟩ = false ∧ w.frozen? ⟨b, 2, none⟩ = false := ⟨cell_of h 0, cell_of h 1, cell_of h 2, free_of h 0, free_of h 1, free_of h 2⟩
theorem cells7 {w : World} {b : Nat} {T : TypeId} {x0 x1 x2 x3 x4 x5 x6 : Value} (h : w.heap[b]? = some (.cells #[x0, x1, x2, x3, x4, x5, x6] T (0, 0))) : w.cell? ⟨b, 0, none⟩ = some x0 ∧ w.cell? ⟨b, 1, none⟩ = some x1 ∧ w.cell? ⟨b, 2, none⟩ = some x2 ∧ w.cell? ⟨b, 3, none⟩ = some x3 ∧ w.cell? ⟨b, 4, none⟩ = some x4 ∧ w.cell? ⟨b, 5, none⟩ = some x5 ∧ w.cell? ⟨b, 6, none⟩ = some x6 ∧ w.frozen? ⟨b, 0, none⟩ = false ∧ w.frozen? ⟨b, 1, none⟩ = false ∧ w.frozen? ⟨b, 2, none⟩ = false ∧ w.frozen? ⟨b, 3, none⟩ = false ∧ w.frozen? ⟨b, 4, none⟩ = false ∧ w.frozen? ⟨b, 5, none⟩ = false ∧ w.frozen? ⟨b, 6, none⟩ = false := ⟨cell_of h 0, cell_of h 1, cell_of h 2, cell_of h 3, cell_of h 4, cell_of h 5, cell_of h 6, free_of h 0, free_of h 1, free_of h 2, free_of h 3, free_of h 4, free_of h 5, free_of h 6⟩
theorem cells9 {w : World} {b : Nat} {T : TypeId} {x0 x1 x2 x3 x4 x5 x6 x7 x8 : Value} (h : w.heap[b]? = some (.cells #[x0, x1, x2, x3, x4, x5, x6, x7, x8] T (0, 0))) : w.cell? ⟨b, 0, none⟩ = some x0 ∧ w.cell? ⟨b, 1, none⟩ = some x1 ∧ w.cell? ⟨b, 2, none⟩ = some x2 ∧ w.cell? ⟨b, 3, none⟩ = some x3 ∧ w.cell? ⟨b, 4, none⟩ = some x4 ∧ w.cell? ⟨b, 5, none⟩ = some x5 ∧ w.cell? ⟨b, 6, none⟩ = some x6 ∧ w.cell? ⟨b, 7, none⟩ = some x7 ∧ w.cell? ⟨b, 8, none⟩ = some x8 ∧ w.frozen? ⟨b, 0, none⟩ = false ∧ w.frozen? ⟨b, 1, none⟩ = false ∧ w.frozen? ⟨b, 2, none⟩ = false ∧ w.frozen? ⟨b, 3, none⟩ = false ∧ w.frozen? ⟨b, 4, none⟩ = false ∧ w.frozen? ⟨b, 5, none⟩ = false ∧ w.frozen? ⟨b, 6, none⟩ = false ∧ w.frozen? ⟨b, 7, none⟩ = false ∧ w.frozen? ⟨b, 8, none⟩ = false := ⟨cell_of h 0, cell_of h 1, cell_of h 2, cell_of h 3, cell_of h 4, cell_of h 5, cell_of h 6, cell_of h 7, cell_of h 8, free_of h 0, free_of h 1, free_of h 2, free_of h 3, free_of h 4, free_of h 5, free_of h 6, free_of h 7, free_of h 8⟩

theorem res_cell1 {P : Program} {fn : Func} {p u0 : Tmp} {ty : TypeId} (h : fn.results = #[.cell p ty, .tmp u0]) (tmps : Array Value) (w : World) (g : Nat) (t : TypeId) (cs : Array Value) (fr : Nat × Nat) (d : TypeDesc)
    (hp : tmps.getD p undef = .pointer (some ⟨g, 0, none⟩)) (hg : w.heap[g]? = some (.cells cs t fr))
    (hu : P.underlying ty = some d) (hd : (match d with | .struct _ | .array _ _ => true | _ => false) = true) (hi : (P.info? ty).map (·.size) = some cs.size) :
    (results fn tmps).run P w = .ok (.tuple #[.agg cs, tmps.getD u0 undef]) w := by
  have hp' : tmps[p]?.getD undef = .pointer (some ⟨g, 0, none⟩) := by simpa using hp
  simp [results, h, hp', asAddr, run_loadVar_row w g t ty cs fr d hg hu hd hi]
theorem res_cell2 {P : Program} {fn : Func} {p u0 u1 : Tmp} {ty : TypeId} (h : fn.results = #[.cell p ty, .tmp u0, .tmp u1]) (tmps : Array Value) (w : World) (g : Nat) (t : TypeId) (cs : Array Value) (fr : Nat × Nat) (d : TypeDesc)
    (hp : tmps.getD p undef = .pointer (some ⟨g, 0, none⟩)) (hg : w.heap[g]? = some (.cells cs t fr))
    (hu : P.underlying ty = some d) (hd : (match d with | .struct _ | .array _ _ => true | _ => false) = true) (hi : (P.info? ty).map (·.size) = some cs.size) :
    (results fn tmps).run P w = .ok (.tuple #[.agg cs, tmps.getD u0 undef, tmps.getD u1 undef]) w := by
  have hp' : tmps[p]?.getD undef = .pointer (some ⟨g, 0, none⟩) := by simpa using hp
  simp [results, h, hp', asAddr, run_loadVar_row w g t ty cs fr d hg hu hd hi]
theorem res_cell3 {P : Program} {fn : Func} {p u0 u1 u2 : Tmp} {ty : TypeId} (h : fn.results = #[.cell p ty, .tmp u0, .tmp u1, .tmp u2]) (tmps : Array Value) (w : World) (g : Nat) (t : TypeId) (cs : Array Value) (fr : Nat × Nat) (d : TypeDesc)
    (hp : tmps.getD p undef = .pointer (some ⟨g, 0, none⟩)) (hg : w.heap[g]? = some (.cells cs t fr))
    (hu : P.underlying ty = some d) (hd : (match d with | .struct _ | .array _ _ => true | _ => false) = true) (hi : (P.info? ty).map (·.size) = some cs.size) :
    (results fn tmps).run P w = .ok (.tuple #[.agg cs, tmps.getD u0 undef, tmps.getD u1 undef, tmps.getD u2 undef]) w := by
  have hp' : tmps[p]?.getD undef = .pointer (some ⟨g, 0, none⟩) := by simpa using hp
  simp [results, h, hp', asAddr, run_loadVar_row w g t ty cs fr d hg hu hd hi]

theorem ret_cell0 {P : Program} {fn : Func} {R : Ending → World → Prop} {a : Act} {w : World} {p  : Tmp} {ty : TypeId} (h : fn.results = #[.cell p ty]) (g : Nat) (t : TypeId) (cs : Array Value) (fr : Nat × Nat) (d : TypeDesc)
    (hg : w.heap[g]? = some (.cells cs t fr)) (hp : a.tmps.getD p undef = .pointer (some ⟨g, 0, none⟩))
    (hu : P.underlying ty = some d) (hd : (match d with | .struct _ | .array _ _ => true | _ => false) = true) (hi : (P.info? ty).map (·.size) = some cs.size) (hdf : a.defers = [])
    (hR : R (.returned (.agg cs)) w) : bodyPost P fn R .ret a w :=
  bodyPost_ret (results_cell_row h _ _ g t cs fr d hp hg hu hd hi) hdf hR
theorem ret_cell1 {P : Program} {fn : Func} {R : Ending → World → Prop} {a : Act} {w : World} {p u0 : Tmp} {ty : TypeId} (h : fn.results = #[.cell p ty, .tmp u0]) (g : Nat) (t : TypeId) (cs : Array Value) (fr : Nat × Nat) (d : TypeDesc)
    (hg : w.heap[g]? = some (.cells cs t fr)) (hp : a.tmps.getD p undef = .pointer (some ⟨g, 0, none⟩))
    (hu : P.underlying ty = some d) (hd : (match d with | .struct _ | .array _ _ => true | _ => false) = true) (hi : (P.info? ty).map (·.size) = some cs.size) (hdf : a.defers = [])
    (hR : R (.returned (.tuple #[.agg cs, a.tmps.getD u0 undef])) w) : bodyPost P fn R .ret a w :=
  bodyPost_ret (res_cell1 h _ _ g t cs fr d hp hg hu hd hi) hdf hR
theorem ret_cell2 {P : Program} {fn : Func} {R : Ending → World → Prop} {a : Act} {w : World} {p u0 u1 : Tmp} {ty : TypeId} (h : fn.results = #[.cell p ty, .tmp u0, .tmp u1]) (g : Nat) (t : TypeId) (cs : Array Value) (fr : Nat × Nat) (d : TypeDesc)
    (hg : w.heap[g]? = some (.cells cs t fr)) (hp : a.tmps.getD p undef = .pointer (some ⟨g, 0, none⟩))
    (hu : P.underlying ty = some d) (hd : (match d with | .struct _ | .array _ _ => true | _ => false) = true) (hi : (P.info? ty).map (·.size) = some cs.size) (hdf : a.defers = [])
    (hR : R (.returned (.tuple #[.agg cs, a.tmps.getD u0 undef, a.tmps.getD u1 undef])) w) : bodyPost P fn R .ret a w :=
  bodyPost_ret (res_cell2 h _ _ g t cs fr d hp hg hu hd hi) hdf hR
theorem ret_cell3 {P : Program} {fn : Func} {R : Ending → World → Prop} {a : Act} {w : World} {p u0 u1 u2 : Tmp} {ty : TypeId} (h : fn.results = #[.cell p ty, .tmp u0, .tmp u1, .tmp u2]) (g : Nat) (t : TypeId) (cs : Array Value) (fr : Nat × Nat) (d : TypeDesc)
    (hg : w.heap[g]? = some (.cells cs t fr)) (hp : a.tmps.getD p undef = .pointer (some ⟨g, 0, none⟩))
    (hu : P.underlying ty = some d) (hd : (match d with | .struct _ | .array _ _ => true | _ => false) = true) (hi : (P.info? ty).map (·.size) = some cs.size) (hdf : a.defers = [])
    (hR : R (.returned (.tuple #[.agg cs, a.tmps.getD u0 undef, a.tmps.getD u1 undef, a.tmps.getD u2 undef])) w) : bodyPost P fn R .ret a w :=
  bodyPost_ret (res_cell3 h _ _ g t cs fr d hp hg hu hd hi) hdf hR

/-! ### A row written from one place on -/
def ov (c : Array Value) : Nat → List Value → Array Value
  | _, [] => c
  | o, v :: r => ov (c.setIfInBounds o v) (o + 1) r
theorem ov_size (vs : List Value) : ∀ (o : Nat) (c : Array Value), (ov c o vs).size = c.size := by
  induction vs with
  | nil => intro o c; rfl
  | cons v r ih => intro o c; rw [ov, ih]; simp
theorem ov_get (vs : List Value) : ∀ (o : Nat) (c : Array Value) (j : Nat), o + vs.length ≤ c.size → (ov c o vs)[j]? = if o ≤ j ∧ j < o + vs.length then vs[j - o]? else c[j]? := by
  induction vs with
  | nil => intro o c j _; simp [ov]; omega
  | cons v r ih =>
    intro o c j h
    simp only [List.length_cons] at h
    rw [ov, ih (o + 1) _ j (by simp; omega)]
    by_cases h1 : o + 1 ≤ j ∧ j < o + 1 + r.length
    · rw [if_pos h1, if_pos (by simp; omega)]
      obtain ⟨m, hm⟩ : ∃ m, j - o = m + 1 := ⟨j - o - 1, by omega⟩
      rw [hm, List.getElem?_cons_succ]
      congr 1; omega
    · rw [if_neg h1, Array.getElem?_setIfInBounds]
      by_cases h2 : o = j
      · subst h2
        rw [if_pos rfl, if_pos (by omega), if_pos (by simp)]
        simp
      · rw [if_neg h2, if_neg (by simp; omega)]
theorem ov_whole (c : Array Value) (vs : List Value) (h : vs.length = c.size) : ov c 0 vs = vs.toArray := by
  apply Array.ext_getElem?
  intro j
  rw [ov_get vs 0 c j (by omega)]
  by_cases h1 : j < vs.length
  · rw [if_pos (by omega)]; simp
  · rw [if_neg (by omega)]
    rw [Array.getElem?_eq_none (by omega)]
    simp; omega
theorem heap_setCells {b : Nat} {t : TypeId} {f : Nat × Nat} (vs : List Value) : ∀ (o : Nat) (w : World) (c : Array Value), w.heap[b]? = some (.cells c t f) → (w.setCells b o vs).heap[b]? = some (.cells (ov c o vs) t f) := by
  induction vs with
  | nil => intro o w c h; exact h
  | cons v r ih => intro o w c h; exact ih (o + 1) _ _ (heap_set h o v)
theorem KpF.setCells {F : Nat → Obj → Prop} {a : World} (b : Nat) (hb : ∀ o, b < a.heap.size → F b o) (vs : List Value) : ∀ (o : Nat) (w : World), KpF F a w → KpF F a (w.setCells b o vs) := by
  induction vs with
  | nil => intro o w h; exact h
  | cons v r ih => intro o w h; exact ih (o + 1) _ (h.setCell _ _ hb)
theorem Kp.setCells {l : List Nat} {a w : World} (h : Kp l a w) (b : Nat) (hb : b ∈ l ∨ a.heap.size ≤ b) (o : Nat) (vs : List Value) : Kp l a (w.setCells b o vs) :=
  KpF.setCells b (fun _ hi => by rcases hb with h1 | h1; exact h1; omega) vs o w h
theorem heap_setCells_other {b i : Nat} {x : Obj} (hi : i ≠ b) (vs : List Value) : ∀ (o : Nat) (w : World), w.heap[i]? = some x → (w.setCells b o vs).heap[i]? = some x := by
  induction vs with
  | nil => intro o w h; exact h
  | cons v r ih => intro o w h; exact ih (o + 1) _ (heap_set_other h (fun e => hi e.symm) v)
theorem there_of {w : World} {b : Nat} {c : Array Value} {t : TypeId} (h : w.heap[b]? = some (.cells c t (0, 0))) (o n : Nat) (hn : o + n ≤ c.size) : w.there b o n := fun j hj =>
  ⟨by rw [cell_of h (o + j), Array.getElem?_eq_getElem (by omega)]; rfl, free_of h _⟩
end Go.Proofs.YthcphjmknbiadaaGreatDoor
