/- A port's digits, read. -/
import Derived.Test.YthcphjmknbiadaaGreatDoorAddr
namespace Go.Proofs.YthcphjmknbiadaaGreatDoor
set_option maxRecDepth 100000
set_option linter.unusedVariables false
open Go.RowKit (wrap32 wrap64 intOf)

def numP (s : ByteArray) (most : Int) : Int × Int :=
  match Lib.atoiAll s.data.toList with
  | .ok v => if v < 0 then (0, 9) else if most < v then (0, 9) else if (Lib.itoa v == s.toList) then (v, 0) else (0, 9)
  | _ => (0, 9)
/-- What Atoi tells. -/
def AtoiIs (s : ByteArray) (v ev : Value) : Prop :=
  match Lib.atoiAll s.data.toList with
  | .ok n => v = .int .i64 n ∧ ev = .nilIface
  | _ => ∃ (n : Int) (N : Nat), v = .int .i64 n ∧ ev = .iface 200 (.pointer (some ⟨N, 0, none⟩))
theorem atoi_ok (s : ByteArray) (w : World) (hg : Gl w) (hs : s.size ≤ 1000000) :
    Calls Tryz.prog 140 #[.string s] w fun e w' => (∃ v ev, e = .returned (.tuple #[v, ev]) ∧ AtoiIs s v ev) ∧ Kp [] w w' := by
  rcases h : Lib.atoiAll s.data.toList with n | _ | _
  · refine (Tryz.strconv_Atoi_ok s (by omega) n h w).mono ?_
    rintro e w' ⟨rfl, hw⟩
    refine ⟨⟨_, _, rfl, by unfold AtoiIs; rw [h]; exact ⟨rfl, rfl⟩⟩, ?_⟩
    rcases hw with rfl | ⟨t, rfl⟩
    · exact Kp.refl _ _
    · exact Kp.bytes (Kp.refl [] w) _ _
  · obtain ⟨t, p, hv⟩ := hg.es
    refine (Any.strconv_Atoi_syntax_var Tryz.laysC172 s (by omega) h t p w hv).mono ?_
    rintro e w' ⟨N, rfl, _, _, k⟩
    exact ⟨⟨_, _, rfl, by unfold AtoiIs; rw [h]; exact ⟨_, N, rfl, rfl⟩⟩, Kp.of_below k⟩
  · obtain ⟨t, p, hv⟩ := hg.er
    refine (Tryz.strconv_Atoi_range_var s (by omega) h t p w hv).mono ?_
    rintro e w' ⟨N, rfl, _, _, k⟩
    exact ⟨⟨_, _, rfl, by unfold AtoiIs; rw [h]; exact ⟨_, N, rfl, rfl⟩⟩, Kp.of_below k⟩
theorem numP_ok_num (s : ByteArray) (most : Int) (w : World) (hg : Gl w) (hs : s.size ≤ 1000000) (hm : 0 ≤ most) (hm2 : most ≤ 65535) :
    Calls Tryz.prog 120 #[.string s, .int .i64 most] w fun e w' => e = .returned (.tuple #[.int .i64 (numP s most).1, .int .i64 (numP s most).2]) ∧ Kp [] w w' := by
  go_enter Tryz.func120, Tryz.ntmps120
  go_wp2_with fail
  refine (atoi_ok s _ hg hs).mono ?_
  rintro e w1 ⟨⟨v, ev, rfl, hav⟩, k1⟩
  unfold AtoiIs at hav
  have hbad : (∀ n, Lib.atoiAll s.data.toList ≠ .ok n) → numP s most = (0, 9) := by
    intro h; unfold numP; split
    · rename_i n hn; exact absurd hn (h n)
    · rfl
  rcases h : Lib.atoiAll s.data.toList with n | _ | _
  · rw [h] at hav
    obtain ⟨rfl, rfl⟩ := hav
    have hnp : numP s most = if n < 0 then (0, 9) else if most < n then (0, 9) else if (Lib.itoa n == s.toList) then (n, 0) else (0, 9) := by unfold numP; rw [h]
    clear hbad h
    by_cases h0 : n < 0
    · have b0 : decide (n < 0) = true := decide_eq_true h0
      rw [if_pos h0] at hnp
      have HN := Lib.hid hnp
      clear hnp h0
      go_wp2_with fail
      go_ret2
      exact ⟨by rw [HN.out]; rfl, k1⟩
    have b0 : decide (n < 0) = false := decide_eq_false h0
    rw [if_neg h0] at hnp
    by_cases h1 : most < n
    · have b1 : decide (most < n) = true := decide_eq_true h1
      rw [if_pos h1] at hnp
      have HN := Lib.hid hnp
      clear hnp h0 h1
      go_wp2_with fail
      go_ret2
      exact ⟨by rw [HN.out]; rfl, k1⟩
    have b1 : decide (most < n) = false := decide_eq_false h1
    rw [if_neg h1] at hnp
    have hn0 : 0 ≤ n := by omega
    have hn1 : n ≤ 65535 := by omega
    have HNP := Lib.hid hnp
    have H0 := Lib.hid hn0
    have H1 := Lib.hid hn1
    clear hnp h0 h1 hn0 hn1
    go_wp2_with fail
    refine (itoa_ok n (by have := H0.out; omega) (by have := H1.out; omega) _ (hg.kp k1)).mono ?_
    rintro e w2 ⟨rfl, k2⟩
    cases hq : (Lib.itoa n == s.toList) with
    | true =>
      have hnp := HNP.out
      rw [hq, if_pos rfl] at hnp
      have HN := Lib.hid hnp
      clear hnp
      go_wp2_with fail
      go_ret2
      exact ⟨by rw [HN.out]; rfl, k1.trans k2 (by simp)⟩
    | false =>
      have hnp := HNP.out
      rw [hq, if_neg (by simp)] at hnp
      have HN := Lib.hid hnp
      clear hnp
      go_wp2_with fail
      go_ret2
      exact ⟨by rw [HN.out]; rfl, k1.trans k2 (by simp)⟩
  · rw [h] at hav
    obtain ⟨n, N, rfl, rfl⟩ := hav
    have HN := Lib.hid (hbad (by intro m hm; rw [h] at hm; cases hm))
    clear hbad h
    go_wp2_with fail
    go_ret2
    exact ⟨by rw [HN.out]; rfl, k1⟩
  · rw [h] at hav
    obtain ⟨n, N, rfl, rfl⟩ := hav
    have HN := Lib.hid (hbad (by intro m hm; rw [h] at hm; cases hm))
    clear hbad h
    go_wp2_with fail
    go_ret2
    exact ⟨by rw [HN.out]; rfl, k1⟩
theorem port_ok (s : ByteArray) (w : World) (hg : Gl w) (hs : s.size ≤ 1000000) :
    Calls Tryz.prog 90 #[.string s] w fun e w' => e = .returned (.tuple #[.int .i64 (numP s 65535).1, .int .i64 (numP s 65535).2]) ∧ Kp [] w w' := by
  go_enter Tryz.func90, Tryz.ntmps90
  go_wp2_with fail
  refine (numP_ok_num s 65535 _ hg hs (by omega) (by omega)).mono ?_
  rintro e w1 ⟨rfl, k1⟩
  go_wp2_with fail
  go_ret2
  exact ⟨rfl, k1⟩
end Go.Proofs.YthcphjmknbiadaaGreatDoor
