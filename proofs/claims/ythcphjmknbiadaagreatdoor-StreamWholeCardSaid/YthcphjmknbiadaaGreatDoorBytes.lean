/- Numbers' bytes. -/
import Derived.Test.YthcphjmknbiadaaGreatDoorNums
import Derived.Test.YthcphjmknbiadaaGreatDoorWr
namespace Go.Proofs.YthcphjmknbiadaaGreatDoor
set_option maxRecDepth 100000
set_option linter.unusedVariables false
open Go.RowKit (wrap32 wrap64 intOf)

def bytesL (size : Nat) (l : List Nat) : List UInt8 := l.flatMap fun x => be x size
theorem bytesL_len (size : Nat) (l : List Nat) : (bytesL size l).length = l.length * size := by
  induction l with
  | nil => simp [bytesL]
  | cons x r ih => simp only [bytesL, List.flatMap_cons, List.length_append, be_length, List.length_cons] at *; rw [ih, Nat.add_mul]; omega
theorem bytesL_succ (size : Nat) (l : List Nat) (j x : Nat) (h : l[j]? = some x) : bytesL size (l.take (j + 1)) = bytesL size (l.take j) ++ be x size := by
  rw [List.take_add_one, h]; simp [bytesL]
def UAt (w : World) (A : Option Addr) (l : List Nat) : Prop := ∀ (j x : Nat), l[j]? = some x → ∃ g o, A = some ⟨g, o, none⟩ ∧ w.cell? ⟨g, o + j, none⟩ = some (.int .u64 x)
theorem own_uat {w : World} {base : Nat} {v : Value} {l : List Nat} (h : w.ownsRow base 80 1 v l.length (u64Vs l)) : ∃ A c, v = .slice A l.length c ∧ UAt w A l := by
  rcases h.2 with ⟨rfl, h0⟩ | ⟨g, cap, cur, rfl, _, hg, hn, _, hs, ht⟩
  · refine ⟨none, 0, by rw [h0], ?_⟩
    intro j x hj
    rw [List.length_eq_zero_iff] at h0
    rw [h0] at hj; cases hj
  · refine ⟨some ⟨g, 0, none⟩, cap, rfl, ?_⟩
    intro j x hj
    have hjl := (List.getElem?_eq_some_iff.1 hj).1
    refine ⟨g, 0, rfl, ?_⟩
    rw [cell_of hg, ← Array.getElem?_toList, Nat.zero_add, ← List.getElem?_take_of_lt (show j < l.length * 1 by omega), ht]
    unfold u64Vs; rw [List.getElem?_map, hj]; rfl
set_option maxHeartbeats 1000000 in
theorem bytes_ok (A : Option Addr) (c : Nat) (size : Nat) (l : List Nat) (w : World) (hA : UAt w A l) (hl : ∀ x ∈ l, x < 18446744073709551616) (hs : size ≤ 2) (hn : l.length ≤ 1000000) :
    Calls Tryz.prog 119 #[.slice A l.length c, .int .i64 size] w fun e w' => e = .returned (.string ⟨(bytesL size l).toArray⟩) ∧ Kp [] w w' := by
  have HA := Lib.hid hA
  have HL := Lib.hid hl
  clear hA hl
  have hk0 : Kp [] w (w.alloc (.cells #[.pointer none, .slice none 0 0] 104)) := (Kp.refl [] w).alloc _
  have hb0 := IsWr.fresh (heap_alloc_new w (.cells #[.pointer none, .slice none 0 0] 104))
  have HK0 := Lib.hid hk0
  have HB0 := Lib.hid hb0
  clear hk0 hb0
  go_enter Tryz.func119, Tryz.ntmps119
  go_wp2_with fail
  generalize w.alloc (.cells #[.pointer none, .slice none 0 0] 104) = w1 at *
  go_loopw [11] (fun i wr => ∃ j : Nat, j ≤ l.length ∧ i = .int .i64 j ∧ IsWr 104 w.heap.size (bytesL size (l.take j)) wr ∧ KpW w.heap.size w1 wr) (fun i _ => l.length - (intOf i).toNat)
  case atStart => exact ⟨0, by omega, rfl, HB0.out, KpF.refl _ _⟩
  case round =>
    obtain ⟨j, hj, rfl, hw, hk⟩ := hrel
    by_cases hlt : j < l.length
    · obtain ⟨x, hx⟩ : ∃ x, l[j]? = some x := ⟨_, List.getElem?_eq_getElem hlt⟩
      obtain ⟨g, o, rfl, hc⟩ := HA.out j x hx
      have hxl := HL.out x (List.mem_of_getElem? hx)
      have hcx : wr.cell? ⟨g, o + j, none⟩ = some (.int .u64 x) := by
        have h1 := HK0.out.cell hc (by simp)
        have hlt2 := World.block_lt_of_cell? _ _ hc
        exact hk.cell h1 (by rintro o (h | ⟨h, _⟩) <;> simp at h hlt2 <;> omega)
      have hsucc := bytesL_succ size l j x hx
      have HSU := Lib.hid hsucc
      have HK := Lib.hid hk
      have hbl := bytesL_len size (l.take j)
      rw [List.length_take] at hbl
      have hbl2 : (bytesL size (l.take j)).length ≤ 2000000 := by
        rw [hbl]
        calc _ ≤ 1000000 * 2 := Nat.mul_le_mul (by omega) hs
          _ = _ := rfl
      generalize bytesL size (l.take j) = L at *
      have HW := Lib.hid hw
      clear hsucc hx hc hk hbl hw
      go_wp2_with fail
      go_loopw [8] (fun k wr2 => ∃ (q : Nat) (l' : List UInt8), q ≤ size ∧ k = .int .i64 ((q : Int) - 1) ∧ IsWr 104 w.heap.size l' wr2 ∧ l' ++ be x q = L ++ be x size ∧ KpW w.heap.size w1 wr2) (fun k _ => (intOf k + 1).toNat)
      case atStart => exact ⟨size, L, Nat.le_refl _, rfl, HW.out, rfl, HK.out⟩
      case round =>
        obtain ⟨q, l', hq, rfl, hw, hl, hk⟩ := hrel
        by_cases h0 : 0 < q
        · have g1 : IntKind.i64.wrap (8 * ((q : Int) - 1)) = 8 * (q - 1) := IntWalk.i64_in _ (by omega)
          have g2 : (0 : Int) ≤ 8 * (q - 1) := by omega
          have g3 : (x : Int) / 2 ^ (8 * (q - 1)) % 256 = ((UInt8.ofNat (x / 256 ^ (q - 1))).toNat : Int) := by
            have := shr_byte x q h0
            rwa [show (8 * ((q : Int) - 1)).toNat = 8 * (q - 1) by omega, IntKind.wrap_u8'] at this
          have G3 := Lib.hid g3
          clear g3
          have g4 : l'.length + q = L.length + size := by have := congrArg List.length hl; simpa [be_length] using this
          have hb : be x q = UInt8.ofNat (x / 256 ^ (q - 1)) :: be x (q - 1) := by
            obtain ⟨m, rfl⟩ : ∃ m, q = m + 1 := ⟨q - 1, by omega⟩
            rfl
          have HB := Lib.hid hb
          have HLL := Lib.hid hl
          have HW2 := Lib.hid hw
          have HK2 := Lib.hid hk
          clear hb hl hw hk
          go_wp2_with fail
          rw [G3.out]
          refine (writeByte_ok 104 w.heap.size l' (UInt8.ofNat (x / 256 ^ (q - 1))) _ lies_builder HW2.out (by omega)).mono ?_
          rintro e w3 ⟨rfl, h3, k3⟩
          have H3 := Lib.hid h3
          have K3 := Lib.hid (KpW.trans HK2.out k3)
          clear h3 k3
          go_wp2_with fail
          go_roundw
          case rel => exact ⟨q - 1, l' ++ [UInt8.ofNat (x / 256 ^ (q - 1))], by omega, congrArg (Value.int .i64) (by omega), H3.out, by rw [← HLL.out, HB.out]; simp, K3.out⟩
          case measure => simp [intOf]; omega
        · obtain rfl : q = 0 := by omega
          have hl0 : l' = L ++ be x size := by simpa [be] using hl
          subst hl0
          go_wp2_with fail
          go_roundw
          case rel => exact ⟨j + 1, by omega, by go_num, by rw [HSU.out]; exact hw, hk⟩
          case measure => simp [intOf]; omega
    · obtain rfl : j = l.length := by omega
      rw [List.take_length] at hw
      have HW := Lib.hid hw
      have HK := Lib.hid hk
      clear hw hk
      go_wp2_with fail
      refine (string_ok _ _ _ _ HW.out).mono ?_
      rintro e w2 ⟨rfl, k2⟩
      go_wp2_with fail
      go_ret
      exact ⟨rfl, KpW.kp HK0.out (KpW.trans HK.out k2) (Nat.le_refl _)⟩
end Go.Proofs.YthcphjmknbiadaaGreatDoor
