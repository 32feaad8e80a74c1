/- Addresses' texts: sixteen bytes. -/
import Derived.Test.YthcphjmknbiadaaGreatDoorAddr
namespace Go.Proofs.YthcphjmknbiadaaGreatDoor
set_option maxRecDepth 100000
set_option linter.unusedVariables false
open Go.RowKit (wrap32 wrap64 intOf)

/-- The first of the longest rows of 0 up to a place, how long it is, and the row at hand. -/
def rowStep (s : Nat × Nat × Nat) (k x : Nat) : Nat × Nat × Nat :=
  if x ≠ 0 then (s.1, s.2.1, 0) else if s.2.1 < s.2.2 + 1 then (k + 1 - (s.2.2 + 1), s.2.2 + 1, s.2.2 + 1) else (s.1, s.2.1, s.2.2 + 1)
def rowTo (f : Nat → Nat) : Nat → Nat × Nat × Nat
  | 0 => (0, 0, 0)
  | k + 1 => rowStep (rowTo f k) k (f k)
theorem rowTo_le (f : Nat → Nat) (k : Nat) : (rowTo f k).1 + (rowTo f k).2.1 ≤ k ∧ (rowTo f k).2.2 ≤ k ∧ (rowTo f k).2.2 ≤ (rowTo f k).2.1 := by
  induction k with
  | zero => simp [rowTo]
  | succ k ih =>
    unfold rowTo rowStep
    split
    · simp; omega
    · split <;> simp <;> omega
abbrev u8row (f : Nat → Nat) : Array Value := #[.int .u64 (f 0), .int .u64 (f 1), .int .u64 (f 2), .int .u64 (f 3), .int .u64 (f 4), .int .u64 (f 5), .int .u64 (f 6), .int .u64 (f 7)]
theorem u8row_index0 (f : Nat → Nat) (w : World) : (Instr.index 153 (.agg (u8row f)) (.int .i64 0)).run Tryz.prog w = .ok (.int .u64 (f 0)) w := by kernel_rfl
theorem u8row_index1 (f : Nat → Nat) (w : World) : (Instr.index 153 (.agg (u8row f)) (.int .i64 1)).run Tryz.prog w = .ok (.int .u64 (f 1)) w := by kernel_rfl
theorem u8row_index2 (f : Nat → Nat) (w : World) : (Instr.index 153 (.agg (u8row f)) (.int .i64 2)).run Tryz.prog w = .ok (.int .u64 (f 2)) w := by kernel_rfl
theorem u8row_index3 (f : Nat → Nat) (w : World) : (Instr.index 153 (.agg (u8row f)) (.int .i64 3)).run Tryz.prog w = .ok (.int .u64 (f 3)) w := by kernel_rfl
theorem u8row_index4 (f : Nat → Nat) (w : World) : (Instr.index 153 (.agg (u8row f)) (.int .i64 4)).run Tryz.prog w = .ok (.int .u64 (f 4)) w := by kernel_rfl
theorem u8row_index5 (f : Nat → Nat) (w : World) : (Instr.index 153 (.agg (u8row f)) (.int .i64 5)).run Tryz.prog w = .ok (.int .u64 (f 5)) w := by kernel_rfl
theorem u8row_index6 (f : Nat → Nat) (w : World) : (Instr.index 153 (.agg (u8row f)) (.int .i64 6)).run Tryz.prog w = .ok (.int .u64 (f 6)) w := by kernel_rfl
theorem u8row_index7 (f : Nat → Nat) (w : World) : (Instr.index 153 (.agg (u8row f)) (.int .i64 7)).run Tryz.prog w = .ok (.int .u64 (f 7)) w := by kernel_rfl
theorem u8row_index (f : Nat → Nat) (j : Nat) (h : j < 8) (w : World) : (Instr.index 153 (.agg (u8row f)) (.int .i64 j)).run Tryz.prog w = .ok (.int .u64 (f j)) w := by
  match j, h with
  | 0, _ => exact u8row_index0 f w
  | 1, _ => exact u8row_index1 f w
  | 2, _ => exact u8row_index2 f w
  | 3, _ => exact u8row_index3 f w
  | 4, _ => exact u8row_index4 f w
  | 5, _ => exact u8row_index5 f w
  | 6, _ => exact u8row_index6 f w
  | 7, _ => exact u8row_index7 f w
theorem row_ok (f : Nat → Nat) (hf : ∀ j, f j < 65536) (w : World) :
    Calls Tryz.prog 107 #[.agg (u8row f)] w fun e w' => e = .returned (.tuple #[.int .i64 (rowTo f 8).1, .int .i64 (rowTo f 8).2.1]) ∧ Kp [] w w' := by
  go_enter Tryz.func107, Tryz.ntmps107
  go_wp2_with fail
  go_loopw [4, 5, 6, 10] (fun a m n i wr => ∃ k : Nat, k ≤ 8 ∧ i = .int .i64 k ∧ a = .int .i64 (rowTo f k).1 ∧ m = .int .i64 (rowTo f k).2.1 ∧ n = .int .i64 (rowTo f k).2.2 ∧ Kp [] w wr) (fun _ _ _ i _ => 8 - (intOf i).toNat)
  case atStart => exact ⟨0, by omega, rfl, rfl, rfl, rfl, (Kp.refl [] w).alloc _⟩
  case round =>
    obtain ⟨k, hk, rfl, rfl, rfl, rfl, hkp⟩ := hrel
    by_cases hlt : k < 8
    · have hix := u8row_index f k hlt
      have hfk := hf k
      obtain ⟨h1, h2, h3⟩ := rowTo_le f k
      have hstep : rowTo f (k + 1) = rowStep (rowTo f k) k (f k) := rfl
      obtain ⟨⟨a, m, n⟩, hr⟩ : ∃ r, rowTo f k = r := ⟨_, rfl⟩
      rw [hr] at h1 h2 h3 hstep ⊢
      simp only [] at h1 h2 h3
      generalize f k = x at *
      by_cases hx : x = 0
      · have hb0 : ((x : Int) == 0) = true := by rw [beq_iff_eq]; omega
        by_cases hmn : m < n + 1
        · have hs : rowTo f (k + 1) = (k + 1 - (n + 1), n + 1, n + 1) := by rw [hstep]; unfold rowStep; rw [if_neg (by omega), if_pos hmn]
          have HS := Lib.hid hs
          have hw1 : decide ((m : Int) < (n : Int) + 1) = true := decide_eq_true (by omega)
          clear hs hstep hr hmn
          go_wp2_with fail
          go_roundw
          case rel => exact ⟨k + 1, by omega, by go_num, by rw [HS.out]; simp only []; congr 1; omega, by rw [HS.out]; simp, by rw [HS.out]; simp, hkp⟩
          case measure => simp [intOf]; omega
        · have hs : rowTo f (k + 1) = (a, m, n + 1) := by rw [hstep]; unfold rowStep; rw [if_neg (by omega), if_neg hmn]
          have HS := Lib.hid hs
          have hw1 : decide ((m : Int) < (n : Int) + 1) = false := decide_eq_false (by omega)
          clear hs hstep hr hmn
          go_wp2_with fail
          go_roundw
          case rel => exact ⟨k + 1, by omega, by go_num, by rw [HS.out], by rw [HS.out], by rw [HS.out]; simp, hkp⟩
          case measure => simp [intOf]; omega
      · have hb0 : ((x : Int) == 0) = false := by rw [beq_eq_false_iff_ne]; omega
        have hs : rowTo f (k + 1) = (a, m, 0) := by rw [hstep]; unfold rowStep; rw [if_pos hx]
        have HS := Lib.hid hs
        clear hs hstep hr hx
        go_wp2_with fail
        go_roundw
        case rel => exact ⟨k + 1, by omega, by go_num, by rw [HS.out], by rw [HS.out], by rw [HS.out]; rfl, hkp⟩
        case measure => simp [intOf]; omega
    · obtain rfl : k = 8 := by omega
      go_wp2_with fail
      go_ret2
      exact ⟨rfl, hkp⟩

theorem info_str : (Tryz.prog.info? 9).map (fun i => (i.zero, i.size, i.bytes)) = some (some (.string ⟨#[]⟩), 1, 16) := by kernel_rfl
def hexS1 (n : Nat) : ByteArray := ⟨(hexL n).toArray⟩
def strVs (l : List ByteArray) : List Value := l.map Value.string
def joinX (l : List Nat) : List UInt8 := Lib.join (l.map hexL) [58]
theorem hexL_len (n : Nat) (h : n < 65536) : (hexL n).length ≤ 4 := by
  unfold hexL; split
  · simp
  unfold hexL; split
  · simp
  unfold hexL; split
  · simp
  unfold hexL; split
  · simp
  · omega
theorem joinX_len (l : List Nat) (h : ∀ x ∈ l, x < 65536) : (joinX l).length ≤ 5 * l.length := by
  have := join_bound (l.map hexL) [58] 4 (by
    intro x hx
    rw [List.mem_map] at hx
    obtain ⟨n, hn, rfl⟩ := hx
    exact hexL_len n (h n hn))
  rw [List.length_map] at this
  exact this
theorem own_kp0 {w w' : World} {base : Nat} {e : TypeId} {n m : Nat} {v : Value} {xs : List Value} (h : w.ownsRow base e n v m xs) (k : Kp [] w w') : w'.ownsRow base e n v m xs := by
  refine ⟨h.1, ?_⟩
  rcases h.2 with h2 | ⟨g, cap, cur, hv, hb, hh, r⟩
  · exact .inl h2
  · exact .inr ⟨g, cap, cur, hv, hb, k.block hh (by simp), r⟩
theorem grow_kp0 {w w2 w3 : World} {e : TypeId} {n m : Nat} {v : Value} {xs : List Value} (k : Kp [] w w2) (ho : w2.ownsRow w.heap.size e n v m xs) (hg : w2.grownBy w3 v.ownBlock) : Kp [] w w3 := by
  refine ⟨hg.os.trans k.os, hg.tape.trans k.tape, hg.output.trans k.output, Nat.le_trans k.size hg.size, fun i o hi hn => ?_⟩
  have h2 := k.keep i o hi hn
  have hlt := heap_lt hi
  rw [hg.block i (heap_lt h2) (fun he => by have := (ho.lt i he.symm).1; omega)]
  exact h2
theorem own_join {w : World} {base k : Nat} {v : Value} {xs : List ByteArray} (h : w.ownsRow base 9 1 v xs.length (strVs xs)) (sep : ByteArray) (hN : xs.length ≤ 1000000) (hlen : (Lib.join (xs.map (·.data.toList)) sep.data.toList).length ≤ 140737488355328) :
    Calls Tryz.prog 79 #[v, .string sep] w fun e w' => e = .returned (.string ⟨(Lib.join (xs.map (·.data.toList)) sep.data.toList).toArray⟩) ∧ Kp [] w w' := by
  rcases h.2 with ⟨rfl, h0⟩ | ⟨g, cap, cur, rfl, _, hg, hn, _, hs, ht⟩
  · rw [List.length_eq_zero_iff] at h0
    subst h0
    refine (Tryz.strings_Join_none none 0 sep w).mono ?_
    rintro e w' ⟨rfl, rfl⟩
    exact ⟨rfl, Kp.refl _ _⟩
  · refine (Tryz.strings_Join g 0 cap xs sep w ?_ (heap_lt hg) (by omega) hn hlen).mono ?_
    · intro j x hj
      have hjl := (List.getElem?_eq_some_iff.1 hj).1
      rw [cell_of hg, ← Array.getElem?_toList, Nat.zero_add, ← List.getElem?_take_of_lt (show j < xs.length * 1 by omega), ht]
      unfold strVs; rw [List.getElem?_map, hj]; rfl
    · rintro e w' ⟨rfl, k⟩
      exact ⟨rfl, Kp.of_below k⟩
theorem join_ok (l : List Nat) (g o c : Nat) (w : World) (hg : Gl w) (hl : ∀ x ∈ l, x < 65536) (hn : l.length ≤ 1000)
    (hc : ∀ (j : Nat) (x : Nat), l[j]? = some x → w.cell? ⟨g, o + j, none⟩ = some (.int .u64 x)) :
    Calls Tryz.prog 108 #[.slice (some ⟨g, o, none⟩) l.length c] w fun e w' => e = .returned (.string ⟨(joinX l).toArray⟩) ∧ Kp [] w w' := by
  obtain ⟨i0, hi, hz0, hz1, hz2⟩ := info_parts info_str
  have HC := Lib.hid hc
  have HL := Lib.hid hl
  clear hc hl
  go_enter Tryz.func108, Tryz.ntmps108
  go_wp2_with fail
  go_loopw [3, 8] (fun v i wr => ∃ k : Nat, k ≤ l.length ∧ i = .int .i64 k ∧ wr.ownsRow w.heap.size 9 1 v k (strVs ((l.take k).map hexS1)) ∧ Kp [] w wr) (fun _ i _ => l.length - (intOf i).toNat)
  case atStart => exact ⟨0, by omega, rfl, World.ownsRow_nil w _ _ _, Kp.refl [] w⟩
  case round =>
    obtain ⟨k, hk, rfl, ho, hkp⟩ := hrel
    by_cases hlt : k < l.length
    · obtain ⟨x, hx⟩ : ∃ x, l[k]? = some x := ⟨_, List.getElem?_eq_getElem hlt⟩
      have hxl := HL.out x (List.mem_of_getElem? hx)
      have hcx := hkp.cell (HC.out k x hx) (by simp)
      have htake : (l.take (k + 1)).map hexS1 = (l.take k).map hexS1 ++ [hexS1 x] := by rw [List.take_add_one, hx]; simp
      have HT := Lib.hid htake
      clear htake hx
      go_wp2_with fail
      refine (fmt_ok x hxl _ (hg.kp hkp)).mono ?_
      rintro e w2 ⟨rfl, k2⟩
      have ho2 := own_kp0 ho k2
      go_wp2_with (at_builtin; refine wpList_append_own _ rfl _ _ 86 rfl w.heap.size 9 i0 (.string ⟨#[]⟩) 1 16 Tryz.underlying86 hi hz0 hz1 hz2 rfl (by decide) _ _ _ rfl (ho2.alloc _) ⟨w2.heap.size, 0, none⟩ 1 1 [.string (hexS1 x)] rfl rfl ?c1 ?c2 ?c3 ?c4 ?c5 ?_)
      case c1 =>
        intro j u hj
        match j, hj with
        | 0, hj => simp at hj; subst hj; simp [Addr.add]; rfl
      case c2 => intro u hu; simp at hu; subst hu; rfl
      case c3 => unfold maxLen; omega
      case c4 => omega
      case c5 => simp; have := hkp.size; have := k2.size; omega
      intro v' w3 hown' hgrow _
      have k3 : Kp [] w w3 := grow_kp0 ((hkp.trans k2 (by simp)).alloc _) (ho2.alloc _) hgrow
      have ho3 : w3.ownsRow w.heap.size 9 1 v' (k + 1) (strVs ((l.take (k + 1)).map hexS1)) := by
        rw [HT.out]; unfold strVs; rw [List.map_append]; unfold strVs at hown'; simpa using hown'
      clear hown' hgrow ho ho2 hkp k2
      go_wp2_with fail
      go_roundw
      case rel => exact ⟨k + 1, by omega, by go_num, ho3, k3⟩
      case measure => simp [intOf]; omega
    · obtain rfl : k = l.length := by omega
      rw [List.take_length] at ho
      have hlm : (l.map hexS1).length = l.length := List.length_map _
      have hlj : ((l.map hexS1).map (·.data.toList)) = l.map hexL := by rw [List.map_map]; rfl
      have hj := joinX_len l HL.out
      have hjo := own_join (k := 0) (xs := l.map hexS1) (by rw [hlm]; exact ho) ⟨#[58]⟩ (by omega) (by rw [hlj]; show (joinX l).length ≤ _; omega)
      rw [hlj] at hjo
      have HJ := Lib.hid hjo
      clear hjo hj
      go_wp2_with fail
      refine HJ.out.mono ?_
      rintro e w2 ⟨rfl, k2⟩
      go_wp2_with fail
      go_ret
      exact ⟨rfl, hkp.trans k2 (by simp)⟩

def n6 (a : ByteArray) (j : Nat) : Nat := at8 a (2 * j) * 256 + at8 a (2 * j + 1)
theorem n6_lt (a : ByteArray) (j : Nat) : n6 a j < 65536 := by have := at8_lt a (2 * j); have := at8_lt a (2 * j + 1); unfold n6; omega
def p6 (a : ByteArray) (k j : Nat) : Nat := if j < k then n6 a j else 0
theorem p6_set (a : ByteArray) (k : Nat) (h : k < 8) : (u8row (p6 a k)).setIfInBounds k (.int .u64 (n6 a k)) = u8row (p6 a (k + 1)) := by
  match k, h with
  | 0, _ => rfl
  | 1, _ => rfl
  | 2, _ => rfl
  | 3, _ => rfl
  | 4, _ => rfl
  | 5, _ => rfl
  | 6, _ => rfl
  | 7, _ => rfl
theorem p6_get (a : ByteArray) (k j : Nat) (h : j < 8) : (u8row (p6 a k))[j]? = some (.int .u64 (p6 a k j)) := by
  match j, h with
  | 0, _ => rfl
  | 1, _ => rfl
  | 2, _ => rfl
  | 3, _ => rfl
  | 4, _ => rfl
  | 5, _ => rfl
  | 6, _ => rfl
  | 7, _ => rfl
def n6l (a : ByteArray) : List Nat := (List.range 8).map (n6 a)
def print6 (a : ByteArray) : List UInt8 :=
  if (rowTo (n6 a) 8).2.1 < 2 then joinX (n6l a) else joinX ((n6l a).take (rowTo (n6 a) 8).1) ++ [58, 58] ++ joinX ((n6l a).drop ((rowTo (n6 a) 8).1 + (rowTo (n6 a) 8).2.1))
theorem cells8 {w : World} {b : Nat} {x0 x1 x2 x3 x4 x5 x6 x7 : Value} {t : TypeId} (h : w.heap[b]? = some (.cells #[x0, x1, x2, x3, x4, x5, x6, x7] t (0, 0))) :
    w.cell? ⟨b, 0, none⟩ = some x0 ∧ w.cell? ⟨b, 1, none⟩ = some x1 ∧ w.cell? ⟨b, 2, none⟩ = some x2 ∧ w.cell? ⟨b, 3, none⟩ = some x3 ∧ w.cell? ⟨b, 4, none⟩ = some x4 ∧ w.cell? ⟨b, 5, none⟩ = some x5 ∧ w.cell? ⟨b, 6, none⟩ = some x6 ∧ w.cell? ⟨b, 7, none⟩ = some x7 ∧ True :=
  ⟨cell_of h 0, cell_of h 1, cell_of h 2, cell_of h 3, cell_of h 4, cell_of h 5, cell_of h 6, cell_of h 7, trivial⟩
theorem mk_append1 (a b : List UInt8) : ByteArray.mk a.toArray ++ ByteArray.mk b.toArray = ByteArray.mk (a ++ b).toArray := by
  apply ByteArray.ext
  rw [ByteArray.data_append]
  simp
theorem print6_ok (a : ByteArray) (ha : a.size = 16) (w : World) (hg : Gl w) :
    Calls Tryz.prog 81 #[.string a] w fun e w' => e = .returned (.string ⟨(print6 a).toArray⟩) ∧ Kp [] w w' := by
  go_enter Tryz.func81, Tryz.ntmps81
  go_wp2_with fail
  go_loopw [7] (fun i wr => ∃ k : Nat, k ≤ 8 ∧ i = .int .i64 k ∧ wr.heap[w.heap.size]? = some (.cells (u8row (p6 a k)) 153 (0, 0)) ∧ Kp [] w wr) (fun i _ => 8 - (intOf i).toNat)
  case atStart => exact ⟨0, by omega, rfl, heap_alloc_new w _, (Kp.refl [] w).alloc _⟩
  case round =>
    obtain ⟨k, hk, rfl, hb, hkp⟩ := hrel
    by_cases hlt : k < 8
    · have hbt := at8_get a (2 * k) (by omega)
      have hbu := at8_get a (2 * k + 1) (by omega)
      have h8 := at8_lt a (2 * k)
      have h9 := at8_lt a (2 * k + 1)
      have hw1 : IntKind.i64.wrap (2 * (k : Int)) = 2 * (k : Int) := IntWalk.i64_in _ (by omega)
      have hw2 : IntKind.i64.wrap (2 * (k : Int) + 1) = 2 * (k : Int) + 1 := IntWalk.i64_in _ (by omega)
      have hb1 : 2 * (k : Int) < 16 := by omega
      have hb2 : 2 * (k : Int) + 1 < 16 := by omega
      have hb3 : 0 ≤ 2 * (k : Int) := by omega
      have hb4 : 0 ≤ 2 * (k : Int) + 1 := by omega
      have ht1 : (2 * (k : Int)).toNat = 2 * k := by omega
      have ht2 : (2 * (k : Int) + 1).toNat = 2 * k + 1 := by omega
      have hor : bits .or .u64 ((at8 a (2 * k) : Int) * 256) (at8 a (2 * k + 1) : Int) = (n6 a k : Nat) := by
        have := or_step (at8 a (2 * k)) (at8 a (2 * k + 1)) (by omega) h9
        rw [IntWalk.u64_in _ (by omega), IntWalk.u64_in _ (by omega)] at this
        exact this
      have hc2 : wr.cell? ⟨w.heap.size, k, none⟩ = some (.int .u64 (p6 a k k)) := by rw [cell_of hb k, p6_get _ _ _ hlt]
      have hf2 := free_of hb k
      go_wp2_with fail
      go_region
      have hs2 := heap_set hb k (.int .u64 (n6 a k))
      rw [p6_set a k hlt] at hs2
      have HS := Lib.hid hs2
      have HK := Lib.hid (KpF.drew (hkp.setCell ⟨w.heap.size, k, none⟩ (.int .u64 (n6 a k)) (by right; simp)))
      clear hs2 hb hkp hbt hbu
      go_wp2_with fail
      go_roundw
      case rel => exact ⟨k + 1, by omega, by go_num, HS.out, HK.out⟩
      case measure => simp [intOf]; omega
    · obtain rfl : k = 8 := by omega
      have hp8 : u8row (p6 a 8) = u8row (n6 a) := rfl
      rw [hp8] at hb
      have hcells : ∀ (o : Nat) (l : List Nat), l <+: (n6l a).drop o → ∀ (j x : Nat), l[j]? = some x → ∀ w2, Kp [] wr w2 → (w2 : World).cell? ⟨w.heap.size, o + j, none⟩ = some (.int .u64 x) := by
        intro o l hl j x hj w2 k2
        have hb2 := k2.block hb (by simp)
        have hj2 : ((n6l a).drop o)[j]? = some x := by
          obtain ⟨t, ht⟩ := hl
          rw [← ht, List.getElem?_append_left (List.getElem?_eq_some_iff.1 hj).1]; exact hj
        rw [List.getElem?_drop] at hj2
        have h8 : o + j < 8 := by have := (List.getElem?_eq_some_iff.1 hj2).1; simpa [n6l] using this
        unfold n6l at hj2
        rw [List.getElem?_map, List.getElem?_range h8] at hj2
        cases hj2
        rw [cell_of hb2, ← hp8, p6_get a 8 _ h8]
        unfold p6; rw [if_pos h8]
      have hjoin : ∀ (o n c : Nat) (l : List Nat), l <+: (n6l a).drop o → l.length = n → ∀ w2, Kp [] wr w2 → Calls Tryz.prog 108 #[.slice (some ⟨w.heap.size, o, none⟩) n c] w2 fun e w' => e = .returned (.string ⟨(joinX l).toArray⟩) ∧ Kp [] wr w' := by
        intro o n c l hl hn w2 k2
        subst hn
        refine (join_ok l w.heap.size o c w2 (hg.kp (hkp.trans k2 (by simp))) ?_ ?_ (fun j x hj => hcells o l hl j x hj w2 k2)).mono ?_
        · intro x hx
          have := List.mem_of_mem_drop (hl.subset hx)
          unfold n6l at this
          rw [List.mem_map] at this
          obtain ⟨j, _, rfl⟩ := this
          exact n6_lt a j
        · have := hl.length_le
          simp [n6l] at this; omega
        · rintro e w' ⟨rfl, k⟩
          exact ⟨rfl, k2.trans k (by simp)⟩
      obtain ⟨c0, c1, c2, c3, c4, c5, c6, c7, _⟩ := cells8 hb
      have hrow := row_ok (n6 a) (fun j => n6_lt a j) wr
      obtain ⟨hle, _, _⟩ := rowTo_le (n6 a) 8
      have HROW := Lib.hid hrow
      have HJ := Lib.hid hjoin
      have h6 : print6 a = if (rowTo (n6 a) 8).2.1 < 2 then joinX (n6l a) else joinX ((n6l a).take (rowTo (n6 a) 8).1) ++ [58, 58] ++ joinX ((n6l a).drop ((rowTo (n6 a) 8).1 + (rowTo (n6 a) 8).2.1)) := rfl
      have H6 := Lib.hid h6
      clear hrow hb hcells hjoin h6 hp8
      go_wp2_with fail
      refine HROW.out.mono ?_
      rintro e w2 ⟨rfl, k2⟩
      obtain ⟨T, hT⟩ : ∃ T, T = (rowTo (n6 a) 8).1 := ⟨_, rfl⟩
      obtain ⟨M, hM⟩ : ∃ M, M = (rowTo (n6 a) 8).2.1 := ⟨_, rfl⟩
      rw [← hT, ← hM] at H6 hle ⊢
      have hlen : (n6l a).length = 8 := by simp [n6l]
      clear hT hM HROW c0 c1 c2 c3 c4 c5 c6 c7
      by_cases hm : M < 2
      · have hb1 : decide ((M : Int) < 2) = true := decide_eq_true (by omega)
        have HF : Go.RowKit.Hid (print6 a = joinX (n6l a)) := Lib.hid (by rw [H6.out, if_pos hm])
        clear hm
        go_wp2_with fail
        refine (HJ.out 0 8 8 (n6l a) (List.prefix_rfl) hlen w2 k2).mono ?_
        rintro e w3 ⟨rfl, k3⟩
        go_wp2_with fail
        go_ret
        exact ⟨by rw [HF.out]; rfl, hkp.trans k3 (by simp)⟩
      · have hb1 : decide ((M : Int) < 2) = false := decide_eq_false (by omega)
        have HF : Go.RowKit.Hid (print6 a = joinX ((n6l a).take T) ++ [58, 58] ++ joinX ((n6l a).drop (T + M))) := Lib.hid (by rw [H6.out, if_neg hm])
        clear hm
        obtain ⟨G, hG⟩ : ∃ G, G = w.heap.size := ⟨_, rfl⟩
        obtain ⟨O, hO⟩ : ∃ O, O = if T + M = 8 then 0 else T + M := ⟨_, rfl⟩
        have hs1 : ∀ w2 : World, (Instr.sliceAt 153 (.pointer (some ⟨w.heap.size, 0, none⟩)) none (some (.int .i64 (T : Int))) none).run Tryz.prog w2 = .ok (.slice (some ⟨w.heap.size, 0, none⟩) T 8) w2 := by
          intro w2
          rw [run_sliceAt_array_h w2 153 ⟨w.heap.size, 0, none⟩ (by kernel_rfl) .i64 _ (by omega) (by show (T : Int) ≤ (8 : Nat); omega)]
          have e2 : (Tryz.prog).arrayLen 153 = 8 := by kernel_rfl
          have e3 : (sizeOf ((Tryz.prog).elem 153)).run Tryz.prog w2 = .ok 1 w2 := by kernel_rfl
          rw [e3, e2, Int.toNat_natCast]
          simp [Result.andThen, slicedAt, Addr.add_mid]
        have hs2 : ∀ w2 : World, (Instr.sliceAt 153 (.pointer (some ⟨w.heap.size, 0, none⟩)) (some (.int .i64 ((T : Int) + M))) none none).run Tryz.prog w2 = .ok (.slice (some ⟨w.heap.size, O, none⟩) (8 - (T + M)) (8 - (T + M))) w2 := by
          intro w2
          rw [run_sliceAt_array_l w2 153 ⟨w.heap.size, 0, none⟩ (by kernel_rfl) .i64 _ (by omega) (by show (T : Int) + M ≤ (8 : Nat); omega)]
          have e2 : (Tryz.prog).arrayLen 153 = 8 := by kernel_rfl
          have e3 : (sizeOf ((Tryz.prog).elem 153)).run Tryz.prog w2 = .ok 1 w2 := by kernel_rfl
          rw [e3, e2, show ((T : Int) + M).toNat = T + M by omega]
          simp only [Result.andThen, slicedAt, Addr.add_mid, Nat.mul_one, Nat.zero_add]
          rw [hO]
          by_cases h : T + M = 8
          · rw [if_pos h.symm, if_pos h]
          · rw [if_neg (fun e => h e.symm), if_neg h]
        have hw1 : IntKind.i64.wrap ((T : Int) + M) = (T : Int) + M := IntWalk.i64_in _ (by omega)
        have hj1 := HJ.out 0 T 8 ((n6l a).take T) (List.take_prefix _ _) (by rw [List.length_take, hlen]; omega) w2.drew (KpF.drew k2)
        have hj2 : ∀ w3, Kp [] wr w3 → Calls Tryz.prog 108 #[.slice (some ⟨w.heap.size, O, none⟩) (8 - (T + M)) (8 - (T + M))] w3 fun e w' => e = .returned (.string ⟨(joinX ((n6l a).drop (T + M))).toArray⟩) ∧ Kp [] wr w' := by
          intro w3 k3
          refine HJ.out O _ _ ((n6l a).drop (T + M)) ?_ (by rw [List.length_drop, hlen]) w3 k3
          rw [hO]
          split
          · rw [List.drop_eq_nil_of_le (by rw [hlen]; omega)]; exact List.nil_prefix
          · exact List.prefix_rfl
        have hx1 := joinX_len ((n6l a).take T) (fun x hx => by
          have := List.mem_of_mem_take hx
          unfold n6l at this
          rw [List.mem_map] at this
          obtain ⟨j, _, rfl⟩ := this
          exact n6_lt a j)
        have hx2 := joinX_len ((n6l a).drop (T + M)) (fun x hx => by
          have := List.mem_of_mem_drop hx
          unfold n6l at this
          rw [List.mem_map] at this
          obtain ⟨j, _, rfl⟩ := this
          exact n6_lt a j)
        have hx3 : ((n6l a).take T).length ≤ 8 := by rw [List.length_take]; omega
        have hx4 : ((n6l a).drop (T + M)).length ≤ 8 := by rw [List.length_drop]; omega
        generalize joinX ((n6l a).take T) = S1 at *
        generalize joinX ((n6l a).drop (T + M)) = S2 at *
        have hcat1 : ∀ w : World, (Op.stringOp .add (ByteArray.mk S1.toArray) (ByteArray.mk #[58, 58])).run Tryz.prog w = .ok (.string ⟨(S1 ++ [58, 58]).toArray⟩) w := by
          intro w
          rw [run_string_add_sum w _ _ (by have : (ByteArray.mk #[58, 58]).size = 2 := rfl; have : (ByteArray.mk S1.toArray).size = S1.length := rfl; omega)]
          rw [← mk_append1]
        have hcat2 : ∀ w : World, (Op.stringOp .add (ByteArray.mk (S1 ++ [58, 58]).toArray) (ByteArray.mk S2.toArray)).run Tryz.prog w = .ok (.string ⟨(S1 ++ [58, 58] ++ S2).toArray⟩) w := by
          intro w
          rw [run_string_add_sum w _ _ (by have : (ByteArray.mk S2.toArray).size = S2.length := rfl; have : (ByteArray.mk (S1 ++ [58, 58]).toArray).size = (S1 ++ [58, 58]).length := rfl; simp at this; omega)]
          rw [mk_append1]
        have HJ1 := Lib.hid hj1
        have HJ2 := Lib.hid hj2
        obtain ⟨S3, hS3⟩ : ∃ S3, S3 = S1 ++ [58, 58] := ⟨_, rfl⟩
        rw [← hS3] at hcat1 hcat2 HF
        clear hj1 hj2 hx1 hx2 hx3 hx4 HJ hO hS3
        go_wp2_with fail
        go_region_with (first
          | (go_at_call 108; refine (HJ2.out _ k3).mono ?_; rintro e w4 ⟨rfl, k4⟩)
          | (go_at_call 108; refine HJ1.out.mono ?_; rintro e w3 ⟨rfl, k3⟩))
        go_wp2_with fail
        go_ret
        exact ⟨by rw [HF.out]; rfl, hkp.trans k4 (by simp)⟩
/-- What Print tells; the empty text, where it refuses. -/
def printP (a : ByteArray) : List UInt8 × Int := if a.size = 4 then (print4 a, 0) else if a.size = 16 then (print6 a, 0) else ([], 1)
theorem print_ok (a : ByteArray) (w : World) (hg : Gl w) :
    Calls Tryz.prog 51 #[.string a] w fun e w' => e = .returned (.tuple #[.string ⟨(printP a).1.toArray⟩, .int .i64 (printP a).2]) ∧ Kp [] w w' := by
  go_enter Tryz.func51, Tryz.ntmps51
  by_cases h4 : a.size = 4
  · have hp : printP a = (print4 a, 0) := by unfold printP; rw [if_pos h4]
    have hb : ((a.size : Int) == 4) = true := by rw [beq_iff_eq]; omega
    have HP := Lib.hid hp
    have H4 := Lib.hid h4
    clear hp h4
    go_wp2_with fail
    refine (print4_ok a H4.out _ hg).mono ?_
    rintro e w1 ⟨rfl, k1⟩
    go_wp2_with fail
    go_ret2
    exact ⟨by rw [HP.out]; rfl, k1⟩
  have hb : ((a.size : Int) == 4) = false := by rw [beq_eq_false_iff_ne]; omega
  by_cases h6 : a.size = 16
  · have hp : printP a = (print6 a, 0) := by unfold printP; rw [if_neg h4, if_pos h6]
    have hb2 : ((a.size : Int) == 16) = true := by rw [beq_iff_eq]; omega
    have HP := Lib.hid hp
    have H6 := Lib.hid h6
    clear hp h6 h4
    go_wp2_with fail
    refine (print6_ok a H6.out _ hg).mono ?_
    rintro e w1 ⟨rfl, k1⟩
    go_wp2_with fail
    go_ret2
    exact ⟨by rw [HP.out]; rfl, k1⟩
  · have hp : printP a = ([], 1) := by unfold printP; rw [if_neg h4, if_neg h6]
    have hb2 : ((a.size : Int) == 16) = false := by rw [beq_eq_false_iff_ne]; omega
    have HP := Lib.hid hp
    clear hp h6 h4
    go_wp2_with fail
    go_ret2
    exact ⟨by rw [HP.out]; rfl, Kp.refl _ _⟩
end Go.Proofs.YthcphjmknbiadaaGreatDoor
