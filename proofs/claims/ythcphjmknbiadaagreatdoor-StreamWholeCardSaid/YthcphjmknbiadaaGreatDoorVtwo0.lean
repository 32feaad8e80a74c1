/- The families: found by what is asked of them. -/
import Derived.Test.YthcphjmknbiadaaGreatDoorWire2
import Derived.Laws.ResultCell
namespace Go.Proofs.YthcphjmknbiadaaGreatDoor
set_option maxRecDepth 100000
set_option linter.unusedVariables false
open Go.RowKit (wrap32 wrap64 intOf)

theorem Kp.cell {l : List Nat} {w w' : World} (h : Kp l w w') {a : Addr} {v : Value} (hc : w.cell? a = some v) (hn : a.block ∉ l) : w'.cell? a = some v := by
  have hlt := World.block_lt_of_cell? _ _ hc
  have := h.keep a.block _ (Array.getElem?_eq_getElem hlt) hn
  rw [World.cell?_of_block (w := w) (by rw [this, Array.getElem?_eq_getElem hlt])]; exact hc
theorem KpF.cell {F : Nat → Obj → Prop} {w w' : World} (h : KpF F w w') {a : Addr} {v : Value} (hc : w.cell? a = some v) (hn : ∀ o, ¬ F a.block o) : w'.cell? a = some v := by
  have hlt := World.block_lt_of_cell? _ _ hc
  have := h.keep a.block _ (Array.getElem?_eq_getElem hlt) (hn _)
  rw [World.cell?_of_block (w := w) (by rw [this, Array.getElem?_eq_getElem hlt])]; exact hc

structure Fam where
  n : Int
  code : Int
  size : Int
def famL : List Fam := [⟨0, 0, 0⟩, ⟨1, 17, 4⟩, ⟨3, 18, 4⟩, ⟨2, 33, 16⟩, ⟨4, 34, 16⟩]
def fam (j : Nat) : Fam := famL.getD j ⟨0, 0, 0⟩
/-- A family's value. -/
abbrev fv (f : Fam) : Value := .agg #[.int .i64 f.n, .int .i64 f.code, .int .i64 f.size]
def famCells : List Value := famL.flatMap fun f => [.int .i64 f.n, .int .i64 f.code, .int .i64 f.size]
/-- The families lie where the program has them. -/
def GlF (w : World) : Prop := w.rangeAt 0 0 famCells
theorem GlF.kp {l : List Nat} {w w' : World} (h : GlF w) (k : Kp l w w') (hl : 0 ∉ l) : GlF w' := fun j v hj => k.cell (h j v hj) hl

theorem fam_index0 (w : World) : (Instr.index 137 (.agg famCells.toArray) (.int .i64 0)).run Tryz.prog w = .ok (fv (fam 0)) w := by kernel_rfl
theorem fam_index1 (w : World) : (Instr.index 137 (.agg famCells.toArray) (.int .i64 1)).run Tryz.prog w = .ok (fv (fam 1)) w := by kernel_rfl
theorem fam_index2 (w : World) : (Instr.index 137 (.agg famCells.toArray) (.int .i64 2)).run Tryz.prog w = .ok (fv (fam 2)) w := by kernel_rfl
theorem fam_index3 (w : World) : (Instr.index 137 (.agg famCells.toArray) (.int .i64 3)).run Tryz.prog w = .ok (fv (fam 3)) w := by kernel_rfl
theorem fam_index4 (w : World) : (Instr.index 137 (.agg famCells.toArray) (.int .i64 4)).run Tryz.prog w = .ok (fv (fam 4)) w := by kernel_rfl
theorem fam_index (j : Nat) (h : j < 5) (w : World) : (Instr.index 137 (.agg famCells.toArray) (.int .i64 j)).run Tryz.prog w = .ok (fv (fam j)) w := by
  match j, h with
  | 0, _ => exact fam_index0 w
  | 1, _ => exact fam_index1 w
  | 2, _ => exact fam_index2 w
  | 3, _ => exact fam_index3 w
  | 4, _ => exact fam_index4 w

def famFind (p : Fam → Bool) : Value := match famL.find? p with
  | some f => .tuple #[fv f, .bool true]
  | none => .tuple #[fv ⟨0, 0, 0⟩, .bool false]

theorem famFind_yes (p : Fam → Bool) (j : Nat) (h : j < 5) (hp : p (fam j) = true) (hn : ∀ i, i < j → p (fam i) = false) : famFind p = .tuple #[fv (fam j), .bool true] := by
  have : famL.find? p = some (fam j) := by
    have h0 := hn 0; have h1 := hn 1; have h2 := hn 2; have h3 := hn 3
    unfold famL
    have h5 : j = 0 ∨ j = 1 ∨ j = 2 ∨ j = 3 ∨ j = 4 := by omega
    rcases h5 with rfl | rfl | rfl | rfl | rfl <;> simp [fam, famL] at * <;> simp [List.find?, *]
  unfold famFind; rw [this]
theorem famFind_no (p : Fam → Bool) (hn : ∀ i, i < 5 → p (fam i) = false) : famFind p = .tuple #[fv ⟨0, 0, 0⟩, .bool false] := by
  have : famL.find? p = none := by
    have h0 := hn 0 (by omega); have h1 := hn 1 (by omega); have h2 := hn 2 (by omega); have h3 := hn 3 (by omega); have h4 := hn 4 (by omega)
    unfold famL
    simp [fam, famL] at *
    simp [*]
  unfold famFind; rw [this]
theorem find_ok (K : FuncId) (cap : Array Value) (p : Fam → Bool) (w : World) (hg : GlF w)
    (hK : ∀ (args : Array Value) (w : World), (callFunc K args).run Tryz.prog w = .ok (.enter K args) w)
    (hdo : ∀ (w1 : World) (j : Nat), Kp [] w w1 → Calls Tryz.prog K (#[fv (fam j)] ++ cap) w1 fun e w' => e = .returned (.bool (p (fam j))) ∧ Kp [] w1 w') :
    Calls Tryz.prog 56 #[.func (.func K) #[] cap] w fun e w' => e = .returned (famFind p) ∧ Kp [] w w' := by
  have HD := Lib.hid hdo
  clear hdo
  have hidx := fam_index
  have hload : w.rangeAt 0 0 famCells := hg
  have hl0 : ∀ o, (w.alloc o).rangeAt 0 0 famCells := fun o => World.rangeAt_alloc hload o
  clear hload hg
  go_enter Tryz.func56, Tryz.ntmps56
  go_wp2_with (refine wpList_load_mid rfl 137 _ rfl 0 0 rfl famCells _ (hl0 _) Tryz.underlying137 rfl (by kernel_rfl) ?_)
  clear hl0
  go_loopw [5, 7] (fun _ i wr => ∃ j : Nat, j ≤ 5 ∧ i = .int .i64 j ∧ wr.heap[w.heap.size]? = some (.cells #[.int .i64 0, .int .i64 0, .int .i64 0] 97 (0, 0)) ∧ Kp [] w wr ∧ ∀ i, i < j → p (fam i) = false) (fun _ i _ => 5 - (intOf i).toNat)
  case atStart => exact ⟨0, by omega, rfl, heap_alloc_new w _, (Kp.refl [] w).alloc _, fun i hi => by omega⟩
  case round =>
    obtain ⟨j, hj, rfl, hb, hk, hp⟩ := hrel
    have HP := Lib.hid hp
    clear hp
    by_cases hlt : j < 5
    · have hj1 := hidx j hlt
      clear hidx
      go_wp2_with fail
      refine (HD.out _ j (hk.alloc _)).mono ?_
      rintro e w1 ⟨rfl, k1⟩
      have hb1 := k1.block (heap_alloc_old hb _) (by simp)
      have hx1 := k1.block (heap_alloc_new wr _) (by simp)
      obtain ⟨c0, c1, c2, f0, f1, f2⟩ := cells3 hb1
      obtain ⟨d0, d1, d2, g0, g1, g2⟩ := cells3 hx1
      have hk1 : Kp [] w w1 := (hk.alloc _).trans k1 (by simp)
      have hlt2 := heap_lt hb1
      cases hpj : p (fam j) with
      | true =>
        have hff : famFind p = .tuple #[fv (fam j), .bool true] := famFind_yes p j hlt hpj HP.out
        have HFF := Lib.hid hff
        clear hj1 hpj hff
        have hs := heap_set (heap_set (heap_set hb1 0 (.int .i64 (fam j).n)) 1 (.int .i64 (fam j).code)) 2 (.int .i64 (fam j).size)
        go_wp2
        refine ret_cell1 (by rfl) w.heap.size 97 _ (0, 0) _ hs (by rfl) Tryz.underlying97 rfl (by kernel_rfl) rfl ?_
        exact ⟨by rw [HFF.out]; rfl, ((hk1.setCell _ _ (by right; simp)).setCell _ _ (by right; simp)).setCell _ _ (by right; simp)⟩
      | false =>
        have HPJ := Lib.hid hpj
        clear hj1 hpj
        go_wp2
        go_roundw
        case rel => exact ⟨j + 1, by omega, by go_num, hb1, hk1, fun i hi => by
          by_cases e : i = j
          · subst e; exact HPJ.out
          · exact HP.out i (by omega)⟩
        case measure => simp [intOf]; omega
    · obtain rfl : j = 5 := by omega
      obtain ⟨c0, c1, c2, f0, f1, f2⟩ := cells3 hb
      clear hidx
      have hff : famFind p = .tuple #[fv ⟨0, 0, 0⟩, .bool false] := famFind_no p HP.out
      have HFF := Lib.hid hff
      clear hff
      have hs := heap_set (heap_set (heap_set hb 0 (.int .i64 0)) 1 (.int .i64 0)) 2 (.int .i64 0)
      go_wp2
      refine ret_cell1 (by rfl) w.heap.size 97 _ (0, 0) _ hs (by rfl) Tryz.underlying97 rfl (by kernel_rfl) rfl ?_
      exact ⟨by rw [HFF.out]; rfl, ((hk.setCell _ _ (by right; simp)).setCell _ _ (by right; simp)).setCell _ _ (by right; simp)⟩
end Go.Proofs.YthcphjmknbiadaaGreatDoor
