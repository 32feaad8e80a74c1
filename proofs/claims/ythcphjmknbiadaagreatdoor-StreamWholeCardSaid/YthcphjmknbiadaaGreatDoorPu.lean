/- Numbers read by a base of 10 or 16, into 32 bits. -/
import Derived.Test.YthcphjmknbiadaaGreatDoorHex
namespace Go.Proofs.YthcphjmknbiadaaGreatDoor
set_option maxRecDepth 100000
set_option linter.unusedVariables false
open Go.RowKit (wrap32 wrap64 intOf)

def digV (c : Nat) : Option Nat := if 48 ≤ c ∧ c ≤ 57 then some (c - 48) else if 97 ≤ c ||| 32 ∧ c ||| 32 ≤ 122 then some ((c ||| 32) - 87) else none
def pUgo (b : Nat) (n : Nat) : List UInt8 → Nat × Int
  | [] => (n, 0)
  | c :: r => match digV c.toNat with
    | none => (0, 2)
    | some d => if b ≤ d then (0, 2) else if 4294967295 < n * b + d then (4294967295, 1) else pUgo b (n * b + d) r
def pU (b : Nat) (s : ByteArray) : Nat × Int := if s.size = 0 then (0, 2) else pUgo b 0 s.data.toList
def errV (c : Int) : Value := if c = 0 then .nilIface else .iface 197 (.int .i64 c)
theorem low_or : ∀ c : Fin 256, bits .or .u8 ((c.val : Nat) : Int) 32 = ((c.val ||| 32 : Nat) : Int) := by decide +kernel
theorem low_lt : ∀ c : Fin 256, c.val ||| 32 < 256 ∧ (97 ≤ c.val ||| 32 → 57 < c.val) := by decide +kernel
theorem drop_at8 (s : ByteArray) (j : Nat) (h : j < s.size) : ∃ c : UInt8, s.data.toList.drop j = c :: s.data.toList.drop (j + 1) ∧ c.toNat = at8 s j := by
  have hl : j < s.data.toList.length := by simpa using h
  refine ⟨s.data.toList[j], List.drop_eq_getElem_cons hl, ?_⟩
  unfold at8
  rw [List.getD_eq_getElem?_getD, List.getElem?_eq_getElem hl]; rfl
theorem size_empty {s : ByteArray} (h : s.toList.isEmpty = true) : s.size = 0 := by
  rw [ByteArray.toList_eq] at h
  show s.data.size = 0
  rw [← Array.length_toList, List.isEmpty_iff.1 h]; rfl
theorem size_nonempty {s : ByteArray} (h : s.toList.isEmpty = false) : s.size ≠ 0 := by
  rw [ByteArray.toList_eq] at h
  intro h0
  have : s.data.toList = [] := by
    apply List.eq_nil_of_length_eq_zero
    rw [Array.length_toList]; exact h0
  rw [this] at h
  cases h
set_option maxHeartbeats 2000000 in
theorem ipu_ok (b : Nat) (hb : b = 10 ∨ b = 16) (s : ByteArray) (w : World) (hs : s.size ≤ 140737488351232) :
    Calls Tryz.prog 155 #[.string s, .int .i64 b, .int .i64 32] w fun e w' => e = .returned (.tuple #[.int .u64 (pU b s).1, errV (pU b s).2]) ∧ Kp [] w w' := by
  have hcv := fun (w : World) => Lib.run_convert_string_bytes (P := Tryz.prog) w 9 44 5 s Tryz.underlying9 Tryz.underlying44 Tryz.underlying5
  have hK : Kp [] w (Lib.bytesWorld w 5 s) := Kp.bytes (Kp.refl [] w) _ _
  have hc : ∀ j, j < s.size → (Lib.bytesWorld w 5 s).cell? ⟨w.heap.size, j, none⟩ = some (.int .u8 (at8 s j)) := Lib.bytesWorld_cell w 5 s
  have HC := Lib.hid hc
  have HK := Lib.hid hK
  clear hc hK
  go_enter Tryz.func155, Tryz.ntmps155
  cases he : s.toList.isEmpty with
  | true =>
    have h0 : s.size = 0 := size_empty he
    have hR : pU b s = (0, 2) := by unfold pU; rw [if_pos h0]
    have HR := Lib.hid hR
    clear hR h0
    go_wp2_with fail
    go_ret2
    exact ⟨by rw [HR.out]; rfl, Kp.refl _ _⟩
  | false =>
    have h0 : s.size ≠ 0 := size_nonempty he
    obtain ⟨R, hR⟩ : ∃ R, R = pUgo b 0 s.data.toList := ⟨_, rfl⟩
    have hpu : pU b s = R := by unfold pU; rw [if_neg h0, hR]
    rw [hpu]
    have HRR := Lib.hid hR
    clear hpu h0 hR
    rcases hb with rfl | rfl
    · go_wp2_with fail
      go_loopw [12, 13, 101] (fun u n i wr => ∃ j m : Nat, Lib.bytesWorld w 5 s = wr ∧ j ≤ s.size ∧ i = .int .i64 j ∧ n = .int .u64 m ∧ u = .bool false ∧ m ≤ 4294967295 ∧ pUgo 10 m (s.data.toList.drop j) = R) (fun _ _ i _ => s.size - (intOf i).toNat)
      case atStart => exact ⟨0, 0, rfl, by omega, rfl, rfl, rfl, by omega, by rw [List.drop_zero]; exact HRR.out.symm⟩
      case round =>
        obtain ⟨j, m, rfl, hj, rfl, rfl, rfl, hm, hpr⟩ := hrel
        by_cases hlt : j < s.size
        · obtain ⟨c, hd, hc⟩ := drop_at8 s j hlt
          have hcj := HC.out j hlt
          have h8 := at8_lt s j
          have hlow := low_or ⟨at8 s j, h8⟩
          obtain ⟨hl2, hl3⟩ := low_lt ⟨at8 s j, h8⟩
          rw [hd, pUgo, hc] at hpr
          simp only [] at hlow hl2 hl3
          have hdv : digV (at8 s j) = if 48 ≤ at8 s j ∧ at8 s j ≤ 57 then some (at8 s j - 48) else if 97 ≤ at8 s j ||| 32 ∧ at8 s j ||| 32 ≤ 122 then some ((at8 s j ||| 32) - 87) else none := rfl
          generalize at8 s j ||| 32 = L at *
          generalize at8 s j = x at *
          clear hd hc
          have hcut : decide ((1844674407370955162 : Int) ≤ (m : Int)) = false := decide_eq_false (by omega)
          have hmb : IntKind.u64.wrap ((m : Int) * 10) = (m : Int) * 10 := IntWalk.u64_in _ (by omega)
          cases hu : ((x : Int) == 95) with
          | true =>
            have hx95 : x = 95 := by rw [beq_iff_eq] at hu; omega
            subst hx95
            have hL : L = 127 := by
              have h : (L : Int) = 127 := by rw [← hlow]; decide
              omega
            subst hL
            rw [if_neg (by omega), if_neg (by omega)] at hdv
            rw [hdv] at hpr
            have HR := Lib.hid hpr
            clear hpr hdv hu
            have b1 : decide ((95 : Int) ≤ 57) = false := rfl
            go_wp2_with (go_at_call 164; refine (Tryz.internal_strconv_lower _ _).mono ?_; rintro e w2 ⟨rfl, rfl⟩)
            go_ret2
            exact ⟨by rw [← HR.out]; rfl, HK.out⟩
          | false =>
            by_cases hdig : 48 ≤ x ∧ x ≤ 57
            · rw [if_pos hdig] at hdv
              obtain ⟨hq1, hq2⟩ := hdig
              rw [hdv] at hpr
              have b1 : decide ((48 : Int) ≤ (x : Int)) = true := decide_eq_true (by omega)
              have b2 : decide ((x : Int) ≤ 57) = true := decide_eq_true (by omega)
              have hw : IntKind.u8.wrap ((x : Int) - 48) = ((x - 48 : Nat) : Int) := by rw [IntWalk.u8_in _ (by omega)]; omega
              obtain ⟨d, hd⟩ : ∃ d, d = x - 48 := ⟨_, rfl⟩
              rw [← hd] at hpr hw
              have hd9 : d ≤ 9 := by omega
              clear hdv hd hl2 hl3 hlow hq1 hq2
              simp only [] at hpr
              by_cases hbd : 10 ≤ d
              · have c1 : decide ((10 : Int) ≤ (d : Int)) = true := decide_eq_true (by omega)
                rw [if_pos hbd] at hpr
                have HR := Lib.hid hpr
                clear hpr hbd
                go_wp2_with (go_at_call 164; refine (Tryz.internal_strconv_lower _ _).mono ?_; rintro e w2 ⟨rfl, rfl⟩)
                go_ret2
                exact ⟨by rw [← HR.out]; rfl, HK.out⟩
              have c1 : decide ((10 : Int) ≤ (d : Int)) = false := decide_eq_false (by omega)
              rw [if_neg hbd] at hpr
              have hadd : IntKind.u64.wrap ((m : Int) * 10 + (d : Int)) = (m : Int) * 10 + (d : Int) := IntWalk.u64_in _ (by omega)
              have c2 : decide ((m : Int) * 10 + (d : Int) < (m : Int) * 10) = false := decide_eq_false (by omega)
              by_cases hov : 4294967295 < m * 10 + d
              · have c3 : decide ((4294967295 : Int) < (m : Int) * 10 + (d : Int)) = true := decide_eq_true (by omega)
                rw [if_pos hov] at hpr
                have HR := Lib.hid hpr
                clear hpr hov hbd
                go_wp2_with (go_at_call 164; refine (Tryz.internal_strconv_lower _ _).mono ?_; rintro e w2 ⟨rfl, rfl⟩)
                go_ret2
                exact ⟨by rw [← HR.out]; rfl, HK.out⟩
              have c3 : decide ((4294967295 : Int) < (m : Int) * 10 + (d : Int)) = false := decide_eq_false (by omega)
              rw [if_neg hov] at hpr
              have HR := Lib.hid hpr
              clear hpr
              go_wp2_with (go_at_call 164; refine (Tryz.internal_strconv_lower _ _).mono ?_; rintro e w2 ⟨rfl, rfl⟩)
              go_roundw
              case rel => exact ⟨j + 1, m * 10 + d, trivial, by omega, by go_num, by show Value.int .u64 _ = _; congr 1, rfl, by omega, HR.out⟩
              case measure => simp [intOf]; omega
            · rw [if_neg hdig] at hdv
              by_cases hlet : 97 ≤ L ∧ L ≤ 122
              · rw [if_pos hlet] at hdv
                obtain ⟨hq1, hq2⟩ := hlet
                rw [hdv] at hpr
                have hx57 := hl3 hq1
                have b1 : decide ((48 : Int) ≤ (x : Int)) = true := decide_eq_true (by omega)
                have b2 : decide ((x : Int) ≤ 57) = false := decide_eq_false (by omega)
                have b3 : decide ((97 : Int) ≤ (L : Int)) = true := decide_eq_true (by omega)
                have b4 : decide ((L : Int) ≤ 122) = true := decide_eq_true (by omega)
                have hw : IntKind.u8.wrap ((L : Int) - 97) = (L : Int) - 97 := IntWalk.u8_in _ (by omega)
                have hw2 : IntKind.u8.wrap ((L : Int) - 97 + 10) = ((L - 87 : Nat) : Int) := by rw [IntWalk.u8_in _ (by omega)]; omega
                obtain ⟨d, hd⟩ : ∃ d, d = L - 87 := ⟨_, rfl⟩
                rw [← hd] at hpr hw2
                have hd9 : d ≤ 35 := by omega
                clear hdv hd hl2 hl3 hq1 hq2 hx57 hdig
                simp only [] at hpr
                by_cases hbd : 10 ≤ d
                · have c1 : decide ((10 : Int) ≤ (d : Int)) = true := decide_eq_true (by omega)
                  rw [if_pos hbd] at hpr
                  have HR := Lib.hid hpr
                  clear hpr hbd
                  go_wp2_with (go_at_call 164; refine (Tryz.internal_strconv_lower _ _).mono ?_; rintro e w2 ⟨rfl, rfl⟩)
                  go_ret2
                  exact ⟨by rw [← HR.out]; rfl, HK.out⟩
                have c1 : decide ((10 : Int) ≤ (d : Int)) = false := decide_eq_false (by omega)
                rw [if_neg hbd] at hpr
                have hadd : IntKind.u64.wrap ((m : Int) * 10 + (d : Int)) = (m : Int) * 10 + (d : Int) := IntWalk.u64_in _ (by omega)
                have c2 : decide ((m : Int) * 10 + (d : Int) < (m : Int) * 10) = false := decide_eq_false (by omega)
                by_cases hov : 4294967295 < m * 10 + d
                · have c3 : decide ((4294967295 : Int) < (m : Int) * 10 + (d : Int)) = true := decide_eq_true (by omega)
                  rw [if_pos hov] at hpr
                  have HR := Lib.hid hpr
                  clear hpr hov hbd
                  go_wp2_with (go_at_call 164; refine (Tryz.internal_strconv_lower _ _).mono ?_; rintro e w2 ⟨rfl, rfl⟩)
                  go_ret2
                  exact ⟨by rw [← HR.out]; rfl, HK.out⟩
                have c3 : decide ((4294967295 : Int) < (m : Int) * 10 + (d : Int)) = false := decide_eq_false (by omega)
                rw [if_neg hov] at hpr
                have HR := Lib.hid hpr
                clear hpr
                go_wp2_with (go_at_call 164; refine (Tryz.internal_strconv_lower _ _).mono ?_; rintro e w2 ⟨rfl, rfl⟩)
                refine ⟨?fr, ?me⟩
                case fr =>
                  (repeat apply Exists.intro)
                  exact ⟨⟨j + 1, m * 10 + d, trivial, by omega, by go_num, by show Value.int .u64 _ = _; congr 1, rfl, by omega, HR.out⟩, rfl⟩
                case me => simp [intOf]; omega
              · rw [if_neg hlet] at hdv
                rw [hdv] at hpr
                have HR := Lib.hid hpr
                clear hpr hdv
                by_cases hq : x < 48
                · have b1 : decide ((48 : Int) ≤ (x : Int)) = false := decide_eq_false (by omega)
                  have b3 : decide ((97 : Int) ≤ (L : Int)) = false := decide_eq_false (by omega)
                  clear hlet hdig hl3 hq
                  go_wp2_with (go_at_call 164; refine (Tryz.internal_strconv_lower _ _).mono ?_; rintro e w2 ⟨rfl, rfl⟩)
                  go_ret2
                  exact ⟨by rw [← HR.out]; rfl, HK.out⟩
                · have b1 : decide ((48 : Int) ≤ (x : Int)) = true := decide_eq_true (by omega)
                  have b2 : decide ((x : Int) ≤ 57) = false := decide_eq_false (by omega)
                  by_cases hq2 : L < 97
                  · have b3 : decide ((97 : Int) ≤ (L : Int)) = false := decide_eq_false (by omega)
                    clear hlet hdig hl3 hq hq2
                    go_wp2_with (go_at_call 164; refine (Tryz.internal_strconv_lower _ _).mono ?_; rintro e w2 ⟨rfl, rfl⟩)
                    go_ret2
                    exact ⟨by rw [← HR.out]; rfl, HK.out⟩
                  · have b3 : decide ((97 : Int) ≤ (L : Int)) = true := decide_eq_true (by omega)
                    have b4 : decide ((L : Int) ≤ 122) = false := decide_eq_false (by omega)
                    clear hlet hdig hl3 hq hq2
                    go_wp2_with (go_at_call 164; refine (Tryz.internal_strconv_lower _ _).mono ?_; rintro e w2 ⟨rfl, rfl⟩)
                    go_ret2
                    exact ⟨by rw [← HR.out]; rfl, HK.out⟩
        · obtain rfl : j = s.size := by omega
          rw [List.drop_eq_nil_of_le (by simp), pUgo] at hpr
          have HR := Lib.hid hpr
          clear hpr
          go_wp2_with fail
          go_ret2
          exact ⟨by rw [← HR.out]; rfl, HK.out⟩
    · go_wp2_with fail
      go_loopw [12, 13, 101] (fun u n i wr => ∃ j m : Nat, Lib.bytesWorld w 5 s = wr ∧ j ≤ s.size ∧ i = .int .i64 j ∧ n = .int .u64 m ∧ u = .bool false ∧ m ≤ 4294967295 ∧ pUgo 16 m (s.data.toList.drop j) = R) (fun _ _ i _ => s.size - (intOf i).toNat)
      case atStart => exact ⟨0, 0, rfl, by omega, rfl, rfl, rfl, by omega, by rw [List.drop_zero]; exact HRR.out.symm⟩
      case round =>
        obtain ⟨j, m, rfl, hj, rfl, rfl, rfl, hm, hpr⟩ := hrel
        by_cases hlt : j < s.size
        · obtain ⟨c, hd, hc⟩ := drop_at8 s j hlt
          have hcj := HC.out j hlt
          have h8 := at8_lt s j
          have hlow := low_or ⟨at8 s j, h8⟩
          obtain ⟨hl2, hl3⟩ := low_lt ⟨at8 s j, h8⟩
          rw [hd, pUgo, hc] at hpr
          simp only [] at hlow hl2 hl3
          have hdv : digV (at8 s j) = if 48 ≤ at8 s j ∧ at8 s j ≤ 57 then some (at8 s j - 48) else if 97 ≤ at8 s j ||| 32 ∧ at8 s j ||| 32 ≤ 122 then some ((at8 s j ||| 32) - 87) else none := rfl
          generalize at8 s j ||| 32 = L at *
          generalize at8 s j = x at *
          clear hd hc
          have hcut : decide ((1152921504606846976 : Int) ≤ (m : Int)) = false := decide_eq_false (by omega)
          have hmb : IntKind.u64.wrap ((m : Int) * 16) = (m : Int) * 16 := IntWalk.u64_in _ (by omega)
          cases hu : ((x : Int) == 95) with
          | true =>
            have hx95 : x = 95 := by rw [beq_iff_eq] at hu; omega
            subst hx95
            have hL : L = 127 := by
              have h : (L : Int) = 127 := by rw [← hlow]; decide
              omega
            subst hL
            rw [if_neg (by omega), if_neg (by omega)] at hdv
            rw [hdv] at hpr
            have HR := Lib.hid hpr
            clear hpr hdv hu
            have b1 : decide ((95 : Int) ≤ 57) = false := rfl
            go_wp2_with (go_at_call 164; refine (Tryz.internal_strconv_lower _ _).mono ?_; rintro e w2 ⟨rfl, rfl⟩)
            go_ret2
            exact ⟨by rw [← HR.out]; rfl, HK.out⟩
          | false =>
            by_cases hdig : 48 ≤ x ∧ x ≤ 57
            · rw [if_pos hdig] at hdv
              obtain ⟨hq1, hq2⟩ := hdig
              rw [hdv] at hpr
              have b1 : decide ((48 : Int) ≤ (x : Int)) = true := decide_eq_true (by omega)
              have b2 : decide ((x : Int) ≤ 57) = true := decide_eq_true (by omega)
              have hw : IntKind.u8.wrap ((x : Int) - 48) = ((x - 48 : Nat) : Int) := by rw [IntWalk.u8_in _ (by omega)]; omega
              obtain ⟨d, hd⟩ : ∃ d, d = x - 48 := ⟨_, rfl⟩
              rw [← hd] at hpr hw
              have hd9 : d ≤ 9 := by omega
              clear hdv hd hl2 hl3 hlow hq1 hq2
              simp only [] at hpr
              by_cases hbd : 16 ≤ d
              · have c1 : decide ((16 : Int) ≤ (d : Int)) = true := decide_eq_true (by omega)
                rw [if_pos hbd] at hpr
                have HR := Lib.hid hpr
                clear hpr hbd
                go_wp2_with (go_at_call 164; refine (Tryz.internal_strconv_lower _ _).mono ?_; rintro e w2 ⟨rfl, rfl⟩)
                go_ret2
                exact ⟨by rw [← HR.out]; rfl, HK.out⟩
              have c1 : decide ((16 : Int) ≤ (d : Int)) = false := decide_eq_false (by omega)
              rw [if_neg hbd] at hpr
              have hadd : IntKind.u64.wrap ((m : Int) * 16 + (d : Int)) = (m : Int) * 16 + (d : Int) := IntWalk.u64_in _ (by omega)
              have c2 : decide ((m : Int) * 16 + (d : Int) < (m : Int) * 16) = false := decide_eq_false (by omega)
              by_cases hov : 4294967295 < m * 16 + d
              · have c3 : decide ((4294967295 : Int) < (m : Int) * 16 + (d : Int)) = true := decide_eq_true (by omega)
                rw [if_pos hov] at hpr
                have HR := Lib.hid hpr
                clear hpr hov hbd
                go_wp2_with (go_at_call 164; refine (Tryz.internal_strconv_lower _ _).mono ?_; rintro e w2 ⟨rfl, rfl⟩)
                go_ret2
                exact ⟨by rw [← HR.out]; rfl, HK.out⟩
              have c3 : decide ((4294967295 : Int) < (m : Int) * 16 + (d : Int)) = false := decide_eq_false (by omega)
              rw [if_neg hov] at hpr
              have HR := Lib.hid hpr
              clear hpr
              go_wp2_with (go_at_call 164; refine (Tryz.internal_strconv_lower _ _).mono ?_; rintro e w2 ⟨rfl, rfl⟩)
              go_roundw
              case rel => exact ⟨j + 1, m * 16 + d, trivial, by omega, by go_num, by show Value.int .u64 _ = _; congr 1, rfl, by omega, HR.out⟩
              case measure => simp [intOf]; omega
            · rw [if_neg hdig] at hdv
              by_cases hlet : 97 ≤ L ∧ L ≤ 122
              · rw [if_pos hlet] at hdv
                obtain ⟨hq1, hq2⟩ := hlet
                rw [hdv] at hpr
                have hx57 := hl3 hq1
                have b1 : decide ((48 : Int) ≤ (x : Int)) = true := decide_eq_true (by omega)
                have b2 : decide ((x : Int) ≤ 57) = false := decide_eq_false (by omega)
                have b3 : decide ((97 : Int) ≤ (L : Int)) = true := decide_eq_true (by omega)
                have b4 : decide ((L : Int) ≤ 122) = true := decide_eq_true (by omega)
                have hw : IntKind.u8.wrap ((L : Int) - 97) = (L : Int) - 97 := IntWalk.u8_in _ (by omega)
                have hw2 : IntKind.u8.wrap ((L : Int) - 97 + 10) = ((L - 87 : Nat) : Int) := by rw [IntWalk.u8_in _ (by omega)]; omega
                obtain ⟨d, hd⟩ : ∃ d, d = L - 87 := ⟨_, rfl⟩
                rw [← hd] at hpr hw2
                have hd9 : d ≤ 35 := by omega
                clear hdv hd hl2 hl3 hq1 hq2 hx57 hdig
                simp only [] at hpr
                by_cases hbd : 16 ≤ d
                · have c1 : decide ((16 : Int) ≤ (d : Int)) = true := decide_eq_true (by omega)
                  rw [if_pos hbd] at hpr
                  have HR := Lib.hid hpr
                  clear hpr hbd
                  go_wp2_with (go_at_call 164; refine (Tryz.internal_strconv_lower _ _).mono ?_; rintro e w2 ⟨rfl, rfl⟩)
                  go_ret2
                  exact ⟨by rw [← HR.out]; rfl, HK.out⟩
                have c1 : decide ((16 : Int) ≤ (d : Int)) = false := decide_eq_false (by omega)
                rw [if_neg hbd] at hpr
                have hadd : IntKind.u64.wrap ((m : Int) * 16 + (d : Int)) = (m : Int) * 16 + (d : Int) := IntWalk.u64_in _ (by omega)
                have c2 : decide ((m : Int) * 16 + (d : Int) < (m : Int) * 16) = false := decide_eq_false (by omega)
                by_cases hov : 4294967295 < m * 16 + d
                · have c3 : decide ((4294967295 : Int) < (m : Int) * 16 + (d : Int)) = true := decide_eq_true (by omega)
                  rw [if_pos hov] at hpr
                  have HR := Lib.hid hpr
                  clear hpr hov hbd
                  go_wp2_with (go_at_call 164; refine (Tryz.internal_strconv_lower _ _).mono ?_; rintro e w2 ⟨rfl, rfl⟩)
                  go_ret2
                  exact ⟨by rw [← HR.out]; rfl, HK.out⟩
                have c3 : decide ((4294967295 : Int) < (m : Int) * 16 + (d : Int)) = false := decide_eq_false (by omega)
                rw [if_neg hov] at hpr
                have HR := Lib.hid hpr
                clear hpr
                go_wp2_with (go_at_call 164; refine (Tryz.internal_strconv_lower _ _).mono ?_; rintro e w2 ⟨rfl, rfl⟩)
                refine ⟨?fr, ?me⟩
                case fr =>
                  (repeat apply Exists.intro)
                  exact ⟨⟨j + 1, m * 16 + d, trivial, by omega, by go_num, by show Value.int .u64 _ = _; congr 1, rfl, by omega, HR.out⟩, rfl⟩
                case me => simp [intOf]; omega
              · rw [if_neg hlet] at hdv
                rw [hdv] at hpr
                have HR := Lib.hid hpr
                clear hpr hdv
                by_cases hq : x < 48
                · have b1 : decide ((48 : Int) ≤ (x : Int)) = false := decide_eq_false (by omega)
                  have b3 : decide ((97 : Int) ≤ (L : Int)) = false := decide_eq_false (by omega)
                  clear hlet hdig hl3 hq
                  go_wp2_with (go_at_call 164; refine (Tryz.internal_strconv_lower _ _).mono ?_; rintro e w2 ⟨rfl, rfl⟩)
                  go_ret2
                  exact ⟨by rw [← HR.out]; rfl, HK.out⟩
                · have b1 : decide ((48 : Int) ≤ (x : Int)) = true := decide_eq_true (by omega)
                  have b2 : decide ((x : Int) ≤ 57) = false := decide_eq_false (by omega)
                  by_cases hq2 : L < 97
                  · have b3 : decide ((97 : Int) ≤ (L : Int)) = false := decide_eq_false (by omega)
                    clear hlet hdig hl3 hq hq2
                    go_wp2_with (go_at_call 164; refine (Tryz.internal_strconv_lower _ _).mono ?_; rintro e w2 ⟨rfl, rfl⟩)
                    go_ret2
                    exact ⟨by rw [← HR.out]; rfl, HK.out⟩
                  · have b3 : decide ((97 : Int) ≤ (L : Int)) = true := decide_eq_true (by omega)
                    have b4 : decide ((L : Int) ≤ 122) = false := decide_eq_false (by omega)
                    clear hlet hdig hl3 hq hq2
                    go_wp2_with (go_at_call 164; refine (Tryz.internal_strconv_lower _ _).mono ?_; rintro e w2 ⟨rfl, rfl⟩)
                    go_ret2
                    exact ⟨by rw [← HR.out]; rfl, HK.out⟩
        · obtain rfl : j = s.size := by omega
          rw [List.drop_eq_nil_of_le (by simp), pUgo] at hpr
          have HR := Lib.hid hpr
          clear hpr
          go_wp2_with fail
          go_ret2
          exact ⟨by rw [← HR.out]; rfl, HK.out⟩
end Go.Proofs.YthcphjmknbiadaaGreatDoor
