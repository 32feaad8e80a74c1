/- Addresses' texts. -/
import Derived.Test.YthcphjmknbiadaaGreatDoorHex
namespace Go.Proofs.YthcphjmknbiadaaGreatDoor
set_option maxRecDepth 100000
set_option linter.unusedVariables false
open Go.RowKit (wrap32 wrap64 intOf)

theorem lens_bound (B : Nat) (xs : List (List UInt8)) (h : ∀ x ∈ xs, x.length ≤ B) : Lib.lens xs ≤ B * xs.length := by
  induction xs with
  | nil => simp [Lib.lens]
  | cons x r ih =>
    have h1 := h x (by simp)
    have h2 := ih (fun y hy => h y (by simp [hy]))
    simp only [Lib.lens, List.length_cons, Nat.mul_add, Nat.mul_one, List.map_cons, List.sum_cons] at *
    omega
theorem join_bound (xs : List (List UInt8)) (sep : List UInt8) (B : Nat) (h : ∀ x ∈ xs, x.length ≤ B) : (Lib.join xs sep).length ≤ (sep.length + B) * xs.length := by
  cases xs with
  | nil => simp [Lib.join_nil]
  | cons x r =>
    have h1 := lens_bound B (x :: r) h
    rw [Lib.join_length, Nat.add_mul]
    have h2 : sep.length * r.length ≤ sep.length * (x :: r).length := Nat.mul_le_mul_left _ (by simp)
    omega
theorem nDigits_le (u : Nat) : Lib.nDigits u ≤ u + 1 := by
  induction u using Nat.strongRecOn with
  | _ u ih =>
    rw [Lib.nDigits]
    split
    · omega
    · have := ih (u / 10) (by omega)
      omega
theorem itoa_len (n : Nat) : (Lib.itoa n).length ≤ n + 1 := by
  rw [Lib.itoa_nonneg, Lib.decDigits_length]; exact nDigits_le n
def decS (n : Nat) : ByteArray := ⟨(Lib.itoa n).toArray⟩
theorem Kp.of_grow (w : World) (k : Nat) (os : Array Obj) : Kp [] w (Go.Sort.grow (w.drewN k) os) := by
  refine ⟨rfl, rfl, rfl, ?_, ?_⟩
  · show w.heap.size ≤ (w.heap ++ os).size
    simp
  · intro i o hi _
    have := heap_lt hi
    show (w.heap ++ os)[i]? = some o
    rw [Array.getElem?_append_left this]; exact hi
theorem itoa_ok (n : Int) (h0 : -9223372036854775808 ≤ n) (h1 : n ≤ 9223372036854775807) (w : World) (hg : Gl w) :
    Calls Tryz.prog 52 #[.int .i64 n] w fun e w' => e = .returned (.string ⟨(Lib.itoa n).toArray⟩) ∧ Kp [] w w' :=
  (Tryz.strconv_Itoa n h0 h1 w hg.pow).mono (by rintro e w' ⟨rfl, k, os, rfl⟩; exact ⟨rfl, Kp.of_grow w k os⟩)
def p4s (a : ByteArray) : List ByteArray := (List.range 4).map fun j => decS (at8 a j)
def p4row (a : ByteArray) (k : Nat) : List Value := (List.range 4).map fun j => .string (if j < k then decS (at8 a j) else ⟨#[]⟩)
theorem p4row_get (a : ByteArray) (k j : Nat) (h : j < 4) : (p4row a k)[j]? = some (.string (if j < k then decS (at8 a j) else ⟨#[]⟩)) := by
  unfold p4row
  rw [List.getElem?_map, List.getElem?_range h]; rfl
theorem p4row_set (a : ByteArray) (k : Nat) (h : k < 4) : (p4row a k).toArray.setIfInBounds k (.string (decS (at8 a k))) = (p4row a (k + 1)).toArray := by
  match k, h with
  | 0, _ => rfl
  | 1, _ => rfl
  | 2, _ => rfl
  | 3, _ => rfl
def print4 (a : ByteArray) : List UInt8 := Lib.join ((p4s a).map (·.data.toList)) [46]
theorem print4_ok (a : ByteArray) (ha : a.size = 4) (w : World) (hg : Gl w) :
    Calls Tryz.prog 80 #[.string a] w fun e w' => e = .returned (.string ⟨(print4 a).toArray⟩) ∧ Kp [] w w' := by
  go_enter Tryz.func80, Tryz.ntmps80
  go_wp2_with fail
  go_loopw [5] (fun i wr => ∃ k : Nat, k ≤ 4 ∧ i = .int .i64 k ∧ wr.heap[w.heap.size]? = some (.cells (p4row a k).toArray 152 (0, 0)) ∧ Kp [] w wr) (fun i _ => 4 - (intOf i).toNat)
  case atStart => exact ⟨0, by omega, rfl, heap_alloc_new w _, (Kp.refl [] w).alloc _⟩
  case round =>
    obtain ⟨k, hk, rfl, hb, hkp⟩ := hrel
    by_cases hlt : k < 4
    · have hbt := at8_get a k (by omega)
      have h8 := at8_lt a k
      have hw : wrap64 (at8 a k : Int) = at8 a k := IntWalk.wrap64_in _ (by omega)
      have hka : (k : Int) < a.size := by omega
      go_wp2_with fail
      refine (itoa_ok (at8 a k) (by omega) (by omega) _ (hg.kp hkp)).mono ?_
      rintro e w2 ⟨rfl, k2⟩
      have hb2 := k2.block hb (by simp)
      have hc2 : w2.cell? ⟨w.heap.size, k, none⟩ = some (.string ⟨#[]⟩) := by rw [cell_of hb2 k, List.getElem?_toArray, p4row_get _ _ _ hlt, if_neg (by omega)]
      have hf2 := free_of hb2 k
      have hs2 := heap_set hb2 k (.string (decS (at8 a k)))
      rw [p4row_set a k hlt] at hs2
      have HS := Lib.hid hs2
      have HK := Lib.hid ((hkp.trans k2 (by simp)).setCell ⟨w.heap.size, k, none⟩ (.string (decS (at8 a k))) (by right; simp))
      clear hs2 hb2 hb hkp k2
      go_wp2_with fail
      go_roundw
      case rel => exact ⟨k + 1, by omega, by go_num, HS.out, HK.out⟩
      case measure => simp [intOf]; omega
    · obtain rfl : k = 4 := by omega
      have hlen : (p4s a).length = 4 := by simp [p4s]
      have hj : (Lib.join ((p4s a).map (·.data.toList)) (ByteArray.mk #[46]).data.toList).length ≤ 140737488355328 := by
        have := join_bound ((p4s a).map (·.data.toList)) (ByteArray.mk #[46]).data.toList 256 (by
          intro x hx
          simp only [p4s, List.map_map, List.mem_map, List.mem_range, Function.comp] at hx
          obtain ⟨j, _, rfl⟩ := hx
          have := itoa_len (at8 a j)
          have := at8_lt a j
          simp [decS]; omega)
        rw [List.length_map, hlen] at this
        exact Nat.le_trans this (by decide)
      have hjo := Tryz.strings_Join w.heap.size 0 4 (p4s a) ⟨#[46]⟩ wr (by
        intro j x hx
        have hjl := (List.getElem?_eq_some_iff.1 hx).1
        rw [hlen] at hjl
        rw [cell_of hb, List.getElem?_toArray, Nat.zero_add, p4row_get _ _ _ hjl, if_pos hjl]
        unfold p4s at hx
        rw [List.getElem?_map, List.getElem?_range hjl] at hx
        cases hx; rfl) (heap_lt hb) (by omega) (by omega) hj
      rw [hlen] at hjo
      have HJ := Lib.hid hjo
      clear hjo hj
      go_wp2_with fail
      refine HJ.out.mono ?_
      rintro e w2 ⟨rfl, k2⟩
      go_wp2_with fail
      go_ret
      exact ⟨rfl, hkp.trans (Kp.of_below k2) (by simp)⟩
end Go.Proofs.YthcphjmknbiadaaGreatDoor
