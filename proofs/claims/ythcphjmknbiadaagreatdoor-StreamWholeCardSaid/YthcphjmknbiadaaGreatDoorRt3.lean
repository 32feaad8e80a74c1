/- The second version: what is put is got back; its beginnings need more. -/
import Derived.Test.YthcphjmknbiadaaGreatDoorRt2
namespace Go.Proofs.YthcphjmknbiadaaGreatDoor
set_option maxRecDepth 100000
set_option linter.unusedVariables false

theorem at8_mk0 (c : UInt8) (l : List UInt8) : at8 ⟨(c :: l).toArray⟩ 0 = c.toNat := by unfold at8; rw [mk_toList]; rfl
theorem put1_len (x : Strm) (h : (put1 x).2 = 0) : ∃ pre, (put1 x).1 = pre ++ [10] ∧ 10 ∉ pre ∧ pre.length < 107 ∧ (pre ++ [10]).take 6 = frontL := by
  have h0 : check1 x = 0 := by
    rcases check1_cases x with h1 | h1
    · exact h1
    · unfold put1 at h; rw [if_neg (by omega)] at h; cases h
  by_cases hf : x.fam = 0
  · have hp : put1 x = (lineL [unkS], 0) := by unfold put1; rw [if_pos h0, if_pos hf]
    rw [hp]
    exact ⟨[80, 82, 79, 88, 89, 32, 85, 78, 75, 78, 79, 87, 78, 13], rfl, by decide, by decide, by decide⟩
  · obtain ⟨s1, s2, hp1, hp2, hl, hfl⟩ := check1_zero x h0 hf
    have hp : put1 x = (lineL (wordsP x), 0) := by unfold put1; rw [if_pos h0, if_neg hf]
    rw [hp]
    have hlen := wordsP_size x hp1 hp2
    rw [lineL_pre] at hlen
    refine ⟨_, lineL_pre _, ?_, by rw [List.length_append] at hlen; simp at hlen ⊢; omega, by rw [← lineL_pre]; exact lineL_front _⟩
    intro hc
    rw [List.mem_append, List.mem_append] at hc
    rcases hc with (hc | hc) | hc
    · revert hc; decide
    · rcases join_mem 32 _ 10 hc with h | ⟨y, hy, h⟩
      · revert h; decide
      · rw [List.mem_map] at hy
        obtain ⟨s, hs, rfl⟩ := hy
        have := wordsP_mem x hp1.1 hp2.1 s hs 10 h
        have h10 : (10 : UInt8).toNat = 10 := rfl
        omega
    · revert hc; decide
theorem front_cons {l : List UInt8} (h : l.take 6 = frontL) : ∃ r, l = 80 :: r := by
  cases l with
  | nil => cases h
  | cons c r => simp only [List.take_succ_cons] at h; injection h with h1 _; subst h1; exact ⟨r, rfl⟩
theorem round1 (x : Strm) (h : (put1 x).2 = 0) (p : List UInt8) : getH ⟨((put1 x).1 ++ p).toArray⟩ = (0, ⟨x, 1, false⟩, (put1 x).1.length) := by
  obtain ⟨pre, hp, hno, hl, hf⟩ := put1_len x h
  have hx := parse1_put x h
  rw [hp] at hx ⊢
  have hg := get1_line pre p x hno hl hf hx
  obtain ⟨r, hr⟩ := front_cons hf
  have h8 : at8 ⟨(pre ++ [10] ++ p).toArray⟩ 0 ≠ 13 := by
    rw [hr, List.cons_append, at8_mk0]; decide
  have hG : get1H ⟨(pre ++ [10] ++ p).toArray⟩ = (0, ⟨x, 1, false⟩, pre.length + 1) := by unfold get1H; rw [hg]
  unfold getH
  rw [if_neg h8, hG]
  simp
theorem part1 (x : Strm) (h : (put1 x).2 = 0) (k : Nat) (hk : k < (put1 x).1.length) : (getH ⟨((put1 x).1.take k).toArray⟩).1 = 10 := by
  obtain ⟨pre, hp, hno, hl, hf⟩ := put1_len x h
  rw [hp] at hk ⊢
  rw [List.length_append] at hk
  have hg := get1_part pre k (by simp at hk; omega) hno hl hf
  have h8 : at8 ⟨((pre ++ [10]).take k).toArray⟩ 0 ≠ 13 := by
    obtain ⟨r, hr⟩ := front_cons hf
    rw [hr]
    cases k with
    | zero => rw [List.take_zero]; decide
    | succ k => rw [List.take_succ_cons, at8_mk0]; decide
  unfold getH
  rw [if_neg h8]
  have h1 : (get1H ⟨((pre ++ [10]).take k).toArray⟩).1 = 10 := hg
  rw [h1]; rfl
/-! ### Numbers of bytes -/
theorem num_mk (l : List UInt8) (k c : Nat) : num ⟨l.toArray⟩ k c = beNat ((l.drop k).take c) := by
  unfold num numTo
  rw [Lib.extract_data, mk_toList, List.take_take, show k + c - k = c by omega, Nat.min_self]
theorem foldl_be (n c : Nat) : ∀ acc : Nat, (be n c).foldl (fun n c => n * 256 + c.toNat) acc = acc * 256 ^ c + n % 256 ^ c := by
  induction c with
  | zero => intro acc; simp [be, Nat.mod_one]
  | succ c ih =>
    intro acc
    rw [be, List.foldl_cons, ih]
    have e1 : (UInt8.ofNat (n / 256 ^ c)).toNat = n / 256 ^ c % 256 := by simp
    rw [e1, Nat.pow_succ, Nat.mod_mul, Nat.add_mul, Nat.mul_assoc, Nat.mul_comm 256 (256 ^ c), Nat.mul_comm (n / 256 ^ c % 256), ← Nat.add_assoc]
    omega
theorem beNat_be (n c : Nat) (h : n < 256 ^ c) : beNat (be n c) = n := by
  unfold beNat
  rw [foldl_be, Nat.mod_eq_of_lt h]; simp
theorem num_at (pre post : List UInt8) (n c k : Nat) (hk : k = pre.length) (h : n < 256 ^ c) : num ⟨(pre ++ be n c ++ post).toArray⟩ k c = n := by
  subst hk
  rw [num_mk, List.append_assoc, List.drop_left]
  have : (be n c ++ post).take c = be n c := by rw [List.take_append_of_le_length (by rw [be_length]; exact Nat.le_refl _), List.take_of_length_le (by rw [be_length]; exact Nat.le_refl _)]
  rw [this, beNat_be n c h]
theorem ext_at (pre mid post : List UInt8) (a b : Nat) (ha : a = pre.length) (hb : b = a + mid.length) : (ByteArray.mk (pre ++ mid ++ post).toArray).extract a b = ⟨mid.toArray⟩ := by
  apply ByteArray.ext
  apply Array.toList_inj.1
  rw [Lib.extract_data, mk_toList]
  subst ha; subst hb
  rw [List.append_assoc, List.drop_left, show pre.length + mid.length - pre.length = mid.length by omega, List.take_left]
end Go.Proofs.YthcphjmknbiadaaGreatDoor
