/- The sum's table and its register. -/
import Derived.Test.YthcphjmknbiadaaGreatDoorWire1
import Derived.Deep.MidRow
import Derived.Laws.Rows
import Derived.Laws.BitsAllLaws
namespace Go.Proofs.YthcphjmknbiadaaGreatDoor
set_option maxRecDepth 100000
set_option linter.unusedVariables false
open Go.RowKit (wrap32 wrap64 intOf)

/-- One bit of the register. -/
def crcStep (x : Nat) : Nat := x / 2 ^^^ (x % 2 * 2197175160)
def crcSteps : Nat → Nat → Nat
  | 0, x => x
  | n + 1, x => crcStep (crcSteps n x)
def crcRow (i : Nat) : List Value := (List.range 16).map fun k => .int .u32 (if k < i then (crcSteps 4 k : Nat) else (0 : Nat))

theorem crcRow_length (k : Nat) : (crcRow k).length = 16 := by simp [crcRow]
theorem crcRow_get (k j : Nat) (h : j < 16) : (crcRow k)[j]? = some (.int .u32 (if j < k then (crcSteps 4 j : Nat) else (0 : Nat))) := by
  simp [crcRow, List.getElem?_range h]
theorem crcRow_set (k : Nat) (h : k < 16) : (crcRow k).toArray.setIfInBounds k (.int .u32 (crcSteps 4 k : Nat)) = (crcRow (k + 1)).toArray := by
  rw [List.setIfInBounds_toArray]
  congr 1
  apply List.ext_getElem?
  intro j
  by_cases hj : j < 16
  · rw [crcRow_get _ _ hj, List.getElem?_set]
    by_cases e : k = j
    · subst e; simp [crcRow_length, h]
    · rw [if_neg e, crcRow_get _ _ hj]
      by_cases g : j < k
      · rw [if_pos g, if_pos (by omega)]
      · rw [if_neg g, if_neg (by omega)]
  · rw [List.getElem?_eq_none (by simp [crcRow_length]; omega), List.getElem?_eq_none (by simp [crcRow_length]; omega)]
theorem crcRow_cells (k : Nat) : (crcRow k).toArray.all (·.oneCell') = true := by
  simp [crcRow, Value.oneCell']
theorem crcStep_lt (x : Nat) (h : x < 4294967296) : crcStep x < 4294967296 := by
  unfold crcStep
  have h1 : x % 2 * 2197175160 < 2 ^ 32 := by omega
  exact Nat.xor_lt_two_pow (n := 32) (by omega) h1
theorem crcSteps_lt (n x : Nat) (h : x < 4294967296) : crcSteps n x < 4294967296 := by
  induction n with
  | zero => exact h
  | succ n ih => exact crcStep_lt _ ih
theorem crc_round (x : Nat) (h : x < 4294967296) :
    bits .xor .u32 ((x : Int) / 2) (bits .and .u32 (x : Int) 1 * 2197175160 % 4294967296) = (crcStep x : Nat) := by
  have h1 : bits .and .u32 (x : Int) 1 = ((x % 2 : Nat) : Int) := by
    have := u32_and_nat x 1 h (by omega)
    rw [nat_mask1] at this
    exact_mod_cast this
  rw [h1]
  have h2 : ((x % 2 : Nat) : Int) * 2197175160 % 4294967296 = ((x % 2 * 2197175160 : Nat) : Int) := by omega
  have h3 : ((x : Int) / 2) = ((x / 2 : Nat) : Int) := by omega
  rw [h2, h3, u32_xor_nat _ _ (by omega) (by omega)]
  rfl

theorem table_ok (w : World) :
    Calls Tryz.prog 123 #[] w fun e w' => e = .returned (.agg (crcRow 16).toArray) ∧ Kp [] w w' := by
  have hrow0 : (crcRow 0).toArray = (List.replicate 16 (Value.int .u32 0)).toArray := rfl
  go_enter Tryz.func123, Tryz.ntmps123
  go_wp2
  go_loopw [4] (fun i wr => ∃ k : Nat, k ≤ 16 ∧ i = .int .i64 k ∧ wr.heap[w.heap.size]? = some (.cells (crcRow 0).toArray 167 (0, 0)) ∧ wr.heap[w.heap.size + 1]? = some (.cells (crcRow k).toArray 167 (0, 0)) ∧ Kp [] w wr) (fun i _ => 16 - (intOf i).toNat)
  case atStart =>
    refine ⟨0, by omega, rfl, ?_, ?_, ((Kp.refl [] w).alloc _).alloc _⟩
    · rw [hrow0]; exact heap_alloc_old (heap_alloc_new w _) _
    · rw [hrow0]; have := heap_alloc_new (w.alloc (.cells (List.replicate 16 (Value.int .u32 0)).toArray 167)) (.cells (List.replicate 16 (Value.int .u32 0)).toArray 167); rw [World.size_alloc] at this; exact this
  case round =>
    obtain ⟨k, hk, rfl, hb0, hb1, hkp⟩ := hrel
    by_cases hlt : k < 16
    · have g1 : IntKind.u32.wrap (k : Int) = k := IntWalk.u32_in _ (by omega)
      go_wp2
      go_loop [3, 9] (fun x i => ∃ m : Nat, m ≤ 4 ∧ i = .int .i64 m ∧ x = .int .u32 (crcSteps m k : Nat)) (fun _ i => 4 - (intOf i).toNat)
      case atStart => exact ⟨0, by omega, rfl, rfl⟩
      case round =>
        obtain ⟨m, hm, rfl, rfl⟩ := hrel
        by_cases hml : m < 4
        · have hr := crc_round (crcSteps m k) (crcSteps_lt m k (by omega))
          have HR := Lib.hid hr
          clear hr
          go_wp2
          go_round
          case rel => exact ⟨m + 1, by omega, by go_num, congrArg (Value.int .u32) HR.out⟩
          case measure => simp [intOf]; omega
        · obtain rfl : m = 4 := by omega
          have hc : wr.cell? ⟨w.heap.size + 1, k, none⟩ = some (.int .u32 (0 : Nat)) := by rw [cell_of hb1 k, List.getElem?_toArray, crcRow_get _ _ hlt]; simp
          have hz := free_of hb1 k
          have hs := heap_set hb1 k (.int .u32 (crcSteps 4 k : Nat))
          rw [crcRow_set k hlt] at hs
          have hs0 := heap_set_other hb0 (p := ⟨w.heap.size + 1, k, none⟩) (by simp) (.int .u32 (crcSteps 4 k : Nat))
          have hkp2 := hkp.setCell ⟨w.heap.size + 1, k, none⟩ (.int .u32 (crcSteps 4 k : Nat)) (by right; simp)
          have HS := Lib.hid hs
          have HS0 := Lib.hid hs0
          clear hs hs0
          go_wp2
          go_roundw
          case rel => exact ⟨k + 1, by omega, by go_num, HS0.out, HS.out, hkp2⟩
          case measure => simp [intOf]; omega
    · obtain rfl : k = 16 := by omega
      go_wp2_with (first | refine wpList_load_row rfl 167 _ rfl (w.heap.size + 1) rfl 167 _ _ _ hb1 Tryz.underlying167 rfl (by kernel_rfl) ?_ | refine wpList_store_mid rfl 167 _ _ rfl w.heap.size 0 (crcRow 16).toArray rfl rfl ?_ (by kernel_rfl) (crcRow_cells 16) ?_)
      · exact there_of hb0 0 (crcRow 16).toArray.size (by simp [crcRow_length])
      · have hs := heap_setCells (crcRow 16) 0 wr _ hb0
        rw [ov_whole _ _ (by simp [crcRow_length])] at hs
        refine bodyPost_ret (v := .agg (crcRow 16).toArray) ?_ rfl ⟨rfl, ?_⟩
        · exact results_cell_row (P := Tryz.prog) rfl _ _ w.heap.size 167 (crcRow 16).toArray (0, 0) _ rfl hs Tryz.underlying167 rfl (by kernel_rfl)
        exact hkp.setCells w.heap.size (by right; omega) 0 _

def crcByte (x c : Nat) : Nat := crcSteps 8 (x ^^^ c)
def crcOver (x : Nat) (l : List UInt8) : Nat := l.foldl (fun x c => crcByte x c.toNat) x
theorem crcStep_xor (a b : Nat) : crcStep (a ^^^ b) = crcStep a ^^^ crcStep b := by
  have h1 : (a ^^^ b) / 2 = a / 2 ^^^ b / 2 := by
    have := Nat.shiftRight_xor_distrib (a := a) (b := b) (i := 1)
    simpa [Nat.shiftRight_succ] using this
  have h2 : (a ^^^ b) % 2 = (a % 2 + b % 2) % 2 := by
    have := Nat.xor_mod_two_pow (a := a) (b := b) (n := 1)
    simp only [Nat.pow_one] at this
    rw [this]
    rcases Nat.mod_two_eq_zero_or_one a with h | h <;> rcases Nat.mod_two_eq_zero_or_one b with g | g <;> rw [h, g] <;> rfl
  have h3 : (a ^^^ b) % 2 * 2197175160 = (a % 2 * 2197175160) ^^^ (b % 2 * 2197175160) := by
    rw [h2]
    rcases Nat.mod_two_eq_zero_or_one a with h | h <;> rcases Nat.mod_two_eq_zero_or_one b with g | g <;> rw [h, g] <;> simp
  unfold crcStep
  rw [h1, h3]
  rw [Nat.xor_assoc, Nat.xor_assoc]
  congr 1
  rw [← Nat.xor_assoc, ← Nat.xor_assoc, Nat.xor_comm (b / 2)]
theorem crcSteps_xor (n a b : Nat) : crcSteps n (a ^^^ b) = crcSteps n a ^^^ crcSteps n b := by
  induction n with
  | zero => rfl
  | succ n ih => simp only [crcSteps, ih, crcStep_xor]
theorem crcStep_even (h : Nat) : crcStep (2 * h) = h := by
  unfold crcStep
  have h1 : 2 * h / 2 = h := by omega
  have h2 : 2 * h % 2 = 0 := by omega
  rw [h1, h2]; simp
theorem crc_nib (x : Nat) : x / 16 ^^^ crcSteps 4 (x % 16) = crcSteps 4 x := by
  have h1 : crcSteps 4 (x / 16 * 16) = x / 16 := by
    simp only [crcSteps]
    rw [show x / 16 * 16 = 2 * (2 * (2 * (2 * (x / 16)))) from by omega, crcStep_even, crcStep_even, crcStep_even, crcStep_even]
  have h2 : x = x / 16 * 16 ^^^ x % 16 := by
    have h3 : (x / 16 * 16) ||| (x % 16) = x / 16 * 16 + x % 16 := nat_join 4 _ _ (by omega) (by omega)
    have h4 : (x / 16 * 16) ^^^ (x % 16) = (x / 16 * 16) ||| (x % 16) := by
      apply Nat.eq_of_testBit_eq
      intro i
      rw [Nat.testBit_xor, Nat.testBit_or]
      have h5 : x / 16 * 16 = 2 ^ 4 * (x / 16) := by omega
      have h6 : x % 16 = x % 2 ^ 4 := rfl
      rw [h5, h6, Nat.testBit_two_pow_mul, Nat.testBit_mod_two_pow]
      by_cases hi : 4 ≤ i
      · have : ¬ i < 4 := by omega
        simp [hi, this]
      · simp [hi]
    rw [h4, h3]; omega
  conv => rhs; rw [h2, crcSteps_xor, h1]
theorem crcSteps_add (m n x : Nat) : crcSteps (m + n) x = crcSteps m (crcSteps n x) := by
  induction m with
  | zero => simp [crcSteps]
  | succ m ih => rw [Nat.succ_add]; simp only [crcSteps, ih]
theorem crcByte_lt (x c : Nat) (h : x < 4294967296) (hc : c < 256) : crcByte x c < 4294967296 :=
  crcSteps_lt _ _ (Nat.xor_lt_two_pow (n := 32) h (by omega))
/-- The register over the first j bytes. -/
def crcTo (x : Nat) (s : ByteArray) (j : Nat) : Nat := crcOver x (s.data.toList.take j)
theorem crcTo_zero (x : Nat) (s : ByteArray) : crcTo x s 0 = x := rfl
theorem crcTo_succ (x : Nat) (s : ByteArray) (j : Nat) (h : j < s.size) : crcTo x s (j + 1) = crcByte (crcTo x s j) (at8 s j) := by
  have hl : j < s.data.toList.length := by simpa using h
  unfold crcTo crcOver at8
  rw [List.take_succ_eq_append_getElem hl, List.getD_eq_getElem?_getD, List.getElem?_eq_getElem hl, List.foldl_append]; rfl
theorem crcTo_lt (x : Nat) (s : ByteArray) (j : Nat) (hj : j ≤ s.size) (h : x < 4294967296) : crcTo x s j < 4294967296 := by
  induction j with
  | zero => exact h
  | succ j ih => rw [crcTo_succ _ _ _ (by omega)]; exact crcByte_lt _ _ (ih (by omega)) (at8_lt _ _)
theorem crcTo_all (x : Nat) (s : ByteArray) : crcTo x s s.size = crcOver x s.data.toList := by
  unfold crcTo; rw [List.take_of_length_le (by rw [Array.length_toList]; exact Nat.le_refl _)]

def lo4 (y : Nat) : Nat := y % 16
theorem lo4_lt (y : Nat) : lo4 y < 16 := Nat.mod_lt _ (by omega)
theorem over_nib (x : Nat) (h : x < 4294967296) :
    bits .and .u32 (x : Int) 15 = (lo4 x : Int) ∧ bits .xor .u32 ((x : Int) / 16) (crcSteps 4 (lo4 x) : Nat) = (crcSteps 4 x : Nat) := by
  unfold lo4
  constructor
  · have := u32_and_nat x 15 h (by omega)
    rw [nat_mask4] at this
    exact_mod_cast this
  · rw [show ((x : Int) / 16) = ((x / 16 : Nat) : Int) from by omega, u32_xor_nat _ _ (by omega) (crcSteps_lt 4 _ (by omega)), crc_nib]

theorem over_ok (x : Nat) (s : ByteArray) (w : World) (hx : x < 4294967296) (hs : s.size ≤ 140737488351232) :
    Calls Tryz.prog 96 #[.int .u32 x, .string s] w fun e w' => e = .returned (.int .u32 (crcOver x s.data.toList : Nat)) ∧ Kp [] w w' := by
  have hrow0 : (crcRow 0).toArray = (List.replicate 16 (Value.int .u32 0)).toArray := rfl
  go_enter Tryz.func96, Tryz.ntmps96
  go_wp2_with fail
  refine (table_ok _).mono ?_
  rintro e w1 ⟨rfl, k1⟩
  go_wp2_with (refine wpList_store_mid rfl 167 _ _ rfl w1.heap.size 0 (crcRow 16).toArray rfl rfl ?hth (by kernel_rfl) (crcRow_cells 16) ?_)
  case hth => exact there_of (heap_alloc_new w1 _) 0 (crcRow 16).toArray.size (by simp [crcRow_length])
  have hb : (((w1.alloc (.cells (crcRow 0).toArray 167)).setCells w1.heap.size 0 (crcRow 16))).heap[w1.heap.size]? = some (.cells (crcRow 16).toArray 167 (0, 0)) := by
    have := heap_setCells (crcRow 16) 0 _ _ (heap_alloc_new w1 (.cells (crcRow 0).toArray 167))
    rwa [ov_whole _ _ (by simp [crcRow_length])] at this
  have k2 : Kp [] w ((w1.alloc (.cells (crcRow 0).toArray 167)).setCells w1.heap.size 0 (crcRow 16)) := (k1.alloc _).setCells _ (by right; exact k1.size) 0 _
  rw [hrow0] at hb k2
  simp only [List.replicate] at hb k2 ⊢
  generalize World.setCells _ _ _ _ = w2 at *
  have hcell : ∀ i, i < 16 → w2.cell? ⟨w1.heap.size, i, none⟩ = some (.int .u32 (crcSteps 4 i : Nat)) := fun i hi => by
    rw [cell_of hb i, List.getElem?_toArray, crcRow_get _ _ hi, if_pos hi]
  have HC := Lib.hid hcell
  clear hcell hb k1
  go_loop [0, 6, 10] (fun r _ i => ∃ j : Nat, j ≤ s.size ∧ i = .int .i64 j ∧ r = .int .u32 (crcTo x s j : Nat)) (fun _ _ i => s.size - (intOf i).toNat)
  case atStart => exact ⟨0, by omega, rfl, rfl⟩
  case round =>
    obtain ⟨j, hj, rfl, rfl⟩ := hrel
    by_cases hlt : j < s.size
    · have hlt1 := crcTo_lt x s j hj hx
      have h8 := at8_lt s j
      have hsucc := crcTo_succ x s j hlt
      have hbt := at8_get s j hlt
      have h9 : (at8 s j : Int) % 4294967296 = at8 s j := by omega
      have hxor := u32_xor_nat (crcTo x s j) (at8 s j) hlt1 (by omega)
      have hY : crcTo x s j ^^^ at8 s j < 4294967296 := Nat.xor_lt_two_pow (n := 32) hlt1 (by omega)
      unfold crcByte at hsucc
      rw [show 8 = 4 + 4 from rfl, crcSteps_add] at hsucc
      generalize crcTo x s j ^^^ at8 s j = Y at *
      obtain ⟨a1, a2⟩ := over_nib Y hY
      have hZ := crcSteps_lt 4 Y hY
      have hc1 := HC.out (lo4 Y) (lo4_lt Y)
      generalize crcSteps 4 Y = Z at *
      obtain ⟨b1, b2⟩ := over_nib Z hZ
      have hc2 := HC.out (lo4 Z) (lo4_lt Z)
      rw [← hsucc] at b2
      have d1 := lo4_lt Y
      have d2 := lo4_lt Z
      clear hsucc
      go_wp2
      go_round
      case rel => exact ⟨j + 1, by omega, by go_num, rfl⟩
      case measure => simp [intOf]; omega
    · obtain rfl : j = s.size := by omega
      have hall := crcTo_all x s
      have HA := Lib.hid hall
      clear hall
      go_wp2
      go_ret
      exact ⟨by rw [← HA.out]; rfl, k2⟩

def crcParts (x : Nat) (l : List ByteArray) : Nat := l.foldl (fun x s => crcOver x s.data.toList) x
theorem crcOver_lt (l : List UInt8) : ∀ x, x < 4294967296 → crcOver x l < 4294967296 := by
  induction l with
  | nil => intro x h; exact h
  | cons c l ih => intro x h; exact ih _ (crcByte_lt _ _ h (UInt8.toNat_lt _))
def crcPartsTo (l : List ByteArray) (j : Nat) : Nat := crcParts 4294967295 (l.take j)
theorem crcPartsTo_lt (l : List ByteArray) (j : Nat) : crcPartsTo l j < 4294967296 := by
  have h : ∀ (l : List ByteArray) x, x < 4294967296 → crcParts x l < 4294967296 := by
    intro l
    induction l with
    | nil => intro x h; exact h
    | cons c l ih => intro x h; exact ih _ (crcOver_lt _ _ h)
  exact h _ _ (by omega)
theorem crcPartsTo_succ (l : List ByteArray) (j : Nat) (s : ByteArray) (h : l[j]? = some s) : crcPartsTo l (j + 1) = crcOver (crcPartsTo l j) s.data.toList := by
  obtain ⟨hj, rfl⟩ := List.getElem?_eq_some_iff.1 h
  unfold crcPartsTo crcParts
  rw [List.take_succ_eq_append_getElem hj, List.foldl_append]; rfl
/-- The sum of parts. -/
def crcSum (l : List ByteArray) : Nat := 4294967295 - crcParts 4294967295 l

theorem xor_ones (x : Nat) (h : x < 4294967296) : 4294967295 ^^^ x = 4294967295 - x := by
  have h1 : (BitVec.allOnes 32 ^^^ BitVec.ofNat 32 x).toNat = (~~~ (BitVec.ofNat 32 x)).toNat := by rw [BitVec.allOnes_xor]
  rw [BitVec.toNat_xor, BitVec.toNat_not, BitVec.toNat_allOnes, BitVec.toNat_ofNat, Nat.mod_eq_of_lt (by omega)] at h1
  simpa using h1
theorem not32 (x : Nat) (h : x < 4294967296) : bits .xor .u32 IntKind.u32.max (x : Int) = ((4294967295 - x : Nat) : Int) := by
  have : IntKind.u32.max = ((4294967295 : Nat) : Int) := rfl
  rw [this, u32_xor_nat _ _ (by omega) h, xor_ones x h]
theorem sum_ok (g : Nat) (c : Nat) (parts : List ByteArray) (w : World) (hp : ∀ s ∈ parts, s.size ≤ 140737488351232) (hl : parts.length ≤ 1000)
    (hc : ∀ (j : Nat) (s : ByteArray), parts[j]? = some s → w.cell? ⟨g, j, none⟩ = some (.string s)) :
    Calls Tryz.prog 64 #[.slice (some ⟨g, 0, none⟩) parts.length c] w fun e w' => e = .returned (.int .u32 (crcSum parts : Nat)) ∧ Kp [] w w' := by
  have HC := Lib.hid hc
  clear hc
  have HP := Lib.hid hp
  clear hp
  go_enter Tryz.func64, Tryz.ntmps64
  go_wp2
  go_loopw [3, 5, 8] (fun r _ i wr => ∃ j : Nat, j ≤ parts.length ∧ i = .int .i64 j ∧ r = .int .u32 (crcPartsTo parts j : Nat) ∧ Kp [] w wr) (fun _ _ i _ => parts.length - (intOf i).toNat)
  case atStart => exact ⟨0, by omega, rfl, rfl, Kp.refl _ _⟩
  case round =>
    obtain ⟨j, hj, rfl, rfl, hk⟩ := hrel
    by_cases hlt : j < parts.length
    · have hlt1 := crcPartsTo_lt parts j
      obtain ⟨s, hs⟩ : ∃ s, parts[j]? = some s := ⟨_, List.getElem?_eq_getElem hlt⟩
      have hsz := HP.out s (List.mem_of_getElem? hs)
      have hsucc := crcPartsTo_succ parts j s hs
      have h0 := HC.out j s hs
      have hcell : wr.cell? ⟨g, j, none⟩ = some (.string s) := by
        have := hk.below.cell (p := ⟨g, j, none⟩) (World.block_lt_of_cell? _ _ h0)
        rw [this]; exact h0
      have HS := Lib.hid hsucc
      clear hsucc hs h0
      go_wp2_with fail
      refine (over_ok _ s _ hlt1 hsz).mono ?_
      rintro e w1 ⟨rfl, k1⟩
      rw [← HS.out]
      go_wp2
      go_roundw
      case rel => exact ⟨j + 1, by omega, by go_num, rfl, hk.trans k1 (by simp)⟩
      case measure => simp [intOf]; omega
    · obtain rfl : j = parts.length := by omega
      have hall : crcPartsTo parts parts.length = crcParts 4294967295 parts := by unfold crcPartsTo; rw [List.take_length]
      have hlt1 := crcPartsTo_lt parts parts.length
      have HA := Lib.hid hall
      clear hall
      have hnot := not32 _ hlt1
      go_wp2
      go_ret
      exact ⟨by unfold crcSum; rw [← HA.out]; rfl, hk⟩
end Go.Proofs.YthcphjmknbiadaaGreatDoor
