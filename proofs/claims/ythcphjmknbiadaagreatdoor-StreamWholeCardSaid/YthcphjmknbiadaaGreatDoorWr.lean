/- The writer's methods. -/
import Derived.Test.YthcphjmknbiadaaGreatDoorBld
namespace Go.Proofs.YthcphjmknbiadaaGreatDoor
set_option maxRecDepth 100000
set_option linter.unusedVariables false
open Go.RowKit (wrap32 wrap64 intOf)

/-- A number's bytes, the greatest first. -/
def be (n : Nat) : Nat → List UInt8
  | 0 => []
  | c + 1 => UInt8.ofNat (n / 256 ^ c) :: be n c
theorem be_length (n c : Nat) : (be n c).length = c := by induction c <;> simp [be, *]

theorem shr_byte (n j : Nat) (hj : 0 < j) : IntKind.u8.wrap ((n : Int) / 2 ^ (8 * ((j : Int) - 1)).toNat) = ((UInt8.ofNat (n / 256 ^ (j - 1))).toNat : Int) := by
  have e1 : (8 * ((j : Int) - 1)).toNat = 8 * (j - 1) := by omega
  have e3 : (UInt8.ofNat (n / 256 ^ (j - 1))).toNat = n / 256 ^ (j - 1) % 256 := by simp
  rw [e1, IntKind.wrap_u8', e3]
  have : (2 : Int) ^ (8 * (j - 1)) = ((2 ^ (8 * (j - 1)) : Nat) : Int) := by simp
  rw [this, show (2 ^ (8 * (j - 1)) : Nat) = 256 ^ (j - 1) from by rw [Nat.pow_mul]]
  omega
theorem IsWr.drew {T b : Nat} {l : List UInt8} {w : World} (h : IsWr T b l w) : IsWr T b l w.drew := h.kp (KpF.refl _ w).drew
theorem text_ok (b : Nat) (l : List UInt8) (s : ByteArray) (w : World) (h : IsWr 106 b l w) (hlen : l.length + s.size ≤ 140737488355328) :
    Calls Tryz.prog 59 #[.pointer (some ⟨b, 0, none⟩), .string s] w fun e w' => e = .returned (.tuple #[]) ∧ IsWr 106 b (l ++ s.data.toList) w' ∧ KpW b w w' := by
  go_enter Tryz.func59, Tryz.ntmps59
  go_wp2_with fail
  refine (writeString_ok _ b l s _ lies_writer h hlen).mono ?_
  rintro e w1 ⟨rfl, h1, k1⟩
  go_wp2
  go_end0
  exact ⟨rfl, h1, k1⟩

theorem wstring_ok (b : Nat) (l : List UInt8) (w : World) (h : IsWr 106 b l w) :
    Calls Tryz.prog 62 #[.pointer (some ⟨b, 0, none⟩)] w fun e w' => e = .returned (.string ⟨l.toArray⟩) ∧ KpW b w w' := by
  go_enter Tryz.func62, Tryz.ntmps62
  go_wp2_with fail
  refine (string_ok _ b l _ h).mono ?_
  rintro e w1 ⟨rfl, k1⟩
  go_wp2
  go_ret
  exact ⟨rfl, k1⟩

theorem wnumber_ok (b : Nat) (l : List UInt8) (n : Nat) (c : Nat) (w : World) (h : IsWr 106 b l w) (hn : n < 18446744073709551616) (hc : c ≤ 8) (hlen : l.length + c ≤ 140737488355328) :
    Calls Tryz.prog 94 #[.pointer (some ⟨b, 0, none⟩), .int .u64 n, .int .i64 c] w fun e w' => e = .returned (.tuple #[]) ∧ IsWr 106 b (l ++ be n c) w' ∧ KpW b w w' := by
  go_enter Tryz.func94, Tryz.ntmps94
  go_wp2
  go_loopw [6] (fun k wr => ∃ j l', j ≤ c ∧ k = .int .i64 (j - 1) ∧ IsWr 106 b l' wr ∧ l' ++ be n j = l ++ be n c ∧ KpW b w wr) (fun k _ => (intOf k + 1).toNat)
  case atStart => exact ⟨c, l, Nat.le_refl _, rfl, h, rfl, KpF.refl _ _⟩
  case round =>
    obtain ⟨j, l', hj, rfl, hw, hl, hk⟩ := hrel
    by_cases h0 : 0 < j
    · have g1 : IntKind.i64.wrap (8 * ((j : Int) - 1)) = 8 * (j - 1) := IntWalk.i64_in _ (by omega)
      have g2 : (0 : Int) ≤ 8 * (j - 1) := by omega
      go_wp2
      have g3 := shr_byte n j h0
      have g4 : l'.length + j = l.length + c := by have := congrArg List.length hl; simpa [be_length] using this
      go_region_with (go_at_call 122; refine (writeByte_ok 106 b l' (UInt8.ofNat (n / 256 ^ (j - 1))) _ lies_writer hw.drew (by omega)).mono ?_; rintro e w1 ⟨rfl, h1, k1⟩)
      have hb : be n j = UInt8.ofNat (n / 256 ^ (j - 1)) :: be n (j - 1) := by
        obtain ⟨m, rfl⟩ : ∃ m, j = m + 1 := ⟨j - 1, by omega⟩
        rfl
      have HB := Lib.hid hb
      have HL := Lib.hid hl
      clear hb hl
      go_wp2
      go_roundw
      case rel => exact ⟨j - 1, l' ++ [UInt8.ofNat (n / 256 ^ (j - 1))], by omega, congrArg (Value.int .i64) (by omega), h1, by rw [← HL.out, HB.out]; simp, (KpF.drew hk).trans k1 (fun _ _ _ g => g)⟩
      case measure => simp [intOf]; omega
    · obtain rfl : j = 0 := by omega
      have hl0 : l' = l ++ be n c := by simpa [be] using hl
      subst hl0
      go_wp2
      go_end0
      exact ⟨rfl, hw, hk⟩

theorem wu8_ok (b : Nat) (l : List UInt8) (n : Int) (w : World) (h : IsWr 106 b l w) (h0 : 0 ≤ n) (h1 : n ≤ 18446744073709551615) (hlen : l.length + 1 ≤ 140737488355328) :
    Calls Tryz.prog 60 #[.pointer (some ⟨b, 0, none⟩), .int .i64 n] w fun e w' => e = .returned (.tuple #[]) ∧ IsWr 106 b (l ++ be n.toNat 1) w' ∧ KpW b w w' := by
  obtain ⟨m, rfl⟩ := Int.eq_ofNat_of_zero_le h0
  have g : IntKind.u64.wrap (m : Int) = m := IntWalk.u64_in _ (by omega)
  go_enter Tryz.func60, Tryz.ntmps60
  go_wp2_with fail
  refine (wnumber_ok b l m 1 _ h (by omega) (by omega) hlen).mono ?_
  rintro e w1 ⟨rfl, h1, k1⟩
  go_wp2
  go_end0
  exact ⟨rfl, h1, k1⟩
theorem wu16_ok (b : Nat) (l : List UInt8) (n : Int) (w : World) (h : IsWr 106 b l w) (h0 : 0 ≤ n) (h1 : n ≤ 18446744073709551615) (hlen : l.length + 2 ≤ 140737488355328) :
    Calls Tryz.prog 61 #[.pointer (some ⟨b, 0, none⟩), .int .i64 n] w fun e w' => e = .returned (.tuple #[]) ∧ IsWr 106 b (l ++ be n.toNat 2) w' ∧ KpW b w w' := by
  obtain ⟨m, rfl⟩ := Int.eq_ofNat_of_zero_le h0
  have g : IntKind.u64.wrap (m : Int) = m := IntWalk.u64_in _ (by omega)
  go_enter Tryz.func61, Tryz.ntmps61
  go_wp2_with fail
  refine (wnumber_ok b l m 2 _ h (by omega) (by omega) hlen).mono ?_
  rintro e w1 ⟨rfl, h1, k1⟩
  go_wp2
  go_end0
  exact ⟨rfl, h1, k1⟩
theorem wu32_ok (b : Nat) (l : List UInt8) (n : Int) (w : World) (h : IsWr 106 b l w) (h0 : 0 ≤ n) (h1 : n ≤ 4294967295) (hlen : l.length + 4 ≤ 140737488355328) :
    Calls Tryz.prog 63 #[.pointer (some ⟨b, 0, none⟩), .int .u32 n] w fun e w' => e = .returned (.tuple #[]) ∧ IsWr 106 b (l ++ be n.toNat 4) w' ∧ KpW b w w' := by
  obtain ⟨m, rfl⟩ := Int.eq_ofNat_of_zero_le h0
  have g : IntKind.u64.wrap (m : Int) = m := IntWalk.u64_in _ (by omega)
  go_enter Tryz.func63, Tryz.ntmps63
  go_wp2_with fail
  refine (wnumber_ok b l m 4 _ h (by omega) (by omega) hlen).mono ?_
  rintro e w1 ⟨rfl, h1, k1⟩
  go_wp2
  go_end0
  exact ⟨rfl, h1, k1⟩
end Go.Proofs.YthcphjmknbiadaaGreatDoor
