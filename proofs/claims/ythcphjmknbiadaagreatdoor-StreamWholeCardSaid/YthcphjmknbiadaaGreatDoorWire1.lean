/- The reader's numbers, walked. -/
import Derived.Test.YthcphjmknbiadaaGreatDoorWire0
import Derived.Lib.ConvBytes
import Derived.Laws.BitsAllLaws
namespace Go.Proofs.YthcphjmknbiadaaGreatDoor
set_option maxRecDepth 100000
open Go.RowKit (wrap32 wrap64 intOf)

/-- The number that bytes are, the first one the greatest. -/
def beNat (l : List UInt8) : Nat := l.foldl (fun n c => n * 256 + c.toNat) 0
theorem beNat_snoc (l : List UInt8) (c : UInt8) : beNat (l ++ [c]) = beNat l * 256 + c.toNat := by simp [beNat]
theorem beNat_go (l : List UInt8) : ∀ a : Nat, l.foldl (fun n c => n * 256 + c.toNat) a < (a + 1) * 256 ^ l.length := by
  induction l with
  | nil => intro a; simp
  | cons c l ih =>
    intro a
    have h1 := ih (a * 256 + c.toNat)
    have h2 := c.toNat_lt
    have h3 : (a * 256 + c.toNat + 1) * 256 ^ l.length ≤ ((a + 1) * 256) * 256 ^ l.length := Nat.mul_le_mul_right _ (by omega)
    simp only [List.foldl_cons, List.length_cons, Nat.pow_succ]
    rw [Nat.mul_comm (256 ^ l.length) 256, ← Nat.mul_assoc]
    omega
theorem beNat_lt (l : List UInt8) : beNat l < 256 ^ l.length := by
  have := beNat_go l 0
  simpa [beNat] using this

/-- The byte at a place. -/
def at8 (t : ByteArray) (j : Nat) : Nat := (t.data.toList.getD j 0).toNat
theorem at8_get (t : ByteArray) (j : Nat) (h : j < t.size) : (t[j]'h).toNat = at8 t j := by
  have hl : j < t.data.toList.length := by simpa using h
  unfold at8
  rw [List.getD_eq_getElem?_getD, List.getElem?_eq_getElem hl]; rfl
theorem at8_lt (t : ByteArray) (j : Nat) : at8 t j < 256 := UInt8.toNat_lt _
/-- The number of the first j bytes. -/
def numTo (t : ByteArray) (j : Nat) : Nat := beNat (t.data.toList.take j)
theorem numTo_zero (t : ByteArray) : numTo t 0 = 0 := rfl
theorem numTo_succ (t : ByteArray) (j : Nat) (h : j < t.size) : numTo t (j + 1) = numTo t j * 256 + at8 t j := by
  have hl : j < t.data.toList.length := by simpa using h
  unfold numTo at8
  rw [List.take_succ_eq_append_getElem hl, List.getD_eq_getElem?_getD, List.getElem?_eq_getElem hl, beNat_snoc]; rfl
theorem numTo_lt (t : ByteArray) (j m : Nat) (h : j ≤ m) : numTo t j < 256 ^ m := by
  have h1 := beNat_lt (t.data.toList.take j)
  have h2 : 256 ^ (t.data.toList.take j).length ≤ 256 ^ m := Nat.pow_le_pow_right (by omega) (by rw [List.length_take]; omega)
  unfold numTo; omega
/-- The number of n bytes from k on. -/
def num (s : ByteArray) (k n : Nat) : Nat := numTo (s.extract k (k + n)) n
theorem num_lt (s : ByteArray) (k n : Nat) : num s k n < 256 ^ n := numTo_lt _ _ _ (Nat.le_refl _)

theorem or_step (x c : Nat) (hx : x < 72057594037927936) (hc : c < 256) :
    bits .or .u64 (IntKind.u64.wrap ((x : Int) * 256)) (IntKind.u64.wrap (c : Int)) = ((x * 256 + c : Nat) : Int) := by
  have h1 : IntKind.u64.wrap ((x : Int) * 256) = ((x * 256 : Nat) : Int) := by rw [IntKind.wrap_u64]; omega
  have h2 : IntKind.u64.wrap (c : Int) = (c : Int) := by rw [IntKind.wrap_u64]; omega
  rw [h1, h2, u64_or_nat _ _ (by omega) (by omega), nat_join 8 (x * 256) c (by omega) (by omega)]

theorem KpF.bytes {F : Nat → Obj → Prop} {a b : World} (h : KpF F a b) (e : TypeId) (s : ByteArray) : KpF F a (Lib.bytesWorld b e s) :=
  h.trans (G := fun _ _ => False) ⟨rfl, rfl, rfl, by rw [Lib.bytesWorld_size]; omega, fun i o hi _ => (Lib.bytesWorld_at_old b e s i (heap_lt hi)).trans hi⟩ (by simp)
theorem Kp.bytes {l : List Nat} {a b : World} (h : Kp l a b) (e : TypeId) (s : ByteArray) : Kp l a (Lib.bytesWorld b e s) := KpF.bytes h e s

theorem number_ok (b : Nat) (s : ByteArray) (k : Nat) (n : Nat) (w : World) (h : IsRd w b s k) (n1 : k + n ≤ s.size) (n2 : n ≤ 8) :
    Calls Tryz.prog 124 #[.pointer (some ⟨b, 0, none⟩), .int .i64 n] w fun e w' =>
      e = .returned (.int .u64 (num s k n)) ∧ Kp [b] w w' ∧ IsRd w' b s (k + n) := by
  have hcv := fun (w : World) => Lib.run_convert_string_bytes (P := Tryz.prog) w 9 44 5 (s.extract k (k + n)) Tryz.underlying9 Tryz.underlying44 Tryz.underlying5
  have hsz : (s.extract k (k + n)).size = n := by simp; omega
  have hnum : num s k n = numTo (s.extract k (k + n)) n := rfl
  go_enter Tryz.func124, Tryz.ntmps124
  go_wp2_with fail
  refine (take_yes b s k n _ h (by omega) (by omega)).mono ?_
  rintro e w1 ⟨rfl, k1, h1⟩
  rw [Int.toNat_natCast] at h1 ⊢
  generalize s.extract k (k + n) = t at *
  have hc : ∀ j, j < t.size → (Lib.bytesWorld w1 5 t).cell? ⟨w1.heap.size, j, none⟩ = some (.int .u8 (at8 t j)) := Lib.bytesWorld_cell w1 5 t
  rw [hsz] at hc
  have HC := Lib.hid hc
  have HN := Lib.hid hnum
  clear hc hnum
  go_wp2_with fail
  go_loop [5, 7, 13] (fun o c i => ∃ j : Nat, j ≤ n ∧ i = .int .i64 j ∧ o = .int .u64 (numTo t j)) (fun _ _ i => n - (intOf i).toNat)
  case atStart => exact ⟨0, by omega, rfl, rfl⟩
  case round =>
    obtain ⟨j, hj, rfl, rfl⟩ := hrel
    by_cases hlt : j < n
    · have hcj := HC.out j hlt
      have hs := numTo_succ t j (by omega)
      have hor := or_step _ _ (numTo_lt t j 7 (by omega)) (at8_lt t j)
      rw [← hs] at hor
      clear hs
      go_wp2
      go_round
      case rel => exact ⟨j + 1, by omega, by go_num, rfl⟩
      case measure => simp [intOf]; omega
    · go_wp2
      go_ret
      have : j = n := by omega
      subst this
      refine ⟨?_, (k1.bytes _ _), ?_⟩
      · rw [HN.out]; rfl
      · exact ⟨(Kp.bytes (Kp.refl [] w1) _ _).block h1.1 (by simp), h1.2⟩
end Go.Proofs.YthcphjmknbiadaaGreatDoor
