/- The laws' small helper: awake. -/
import Derived.Test.YthcphjmknbiadaaGreatDoorAcc
namespace Go.Proofs.YthcphjmknbiadaaGreatDoor
set_option maxRecDepth 100000
set_option linter.unusedVariables false
open Go.RowKit (wrap32 wrap64 intOf)

abbrev aw1 : ByteArray := ⟨#[80, 82, 79, 88, 89, 32, 85, 78, 75, 78]⟩
abbrev aw2 : ByteArray := ⟨#[79, 87, 78, 13, 10, 97, 98, 99]⟩
theorem aw_1 : (getH (⟨#[]⟩ ++ aw1)).1 = 10 := by decide +kernel
theorem aw_2 : (getH (⟨#[]⟩ ++ aw1 ++ aw2)).1 = 0 := by decide +kernel
theorem aw_3 : (getH (⟨#[]⟩ ++ aw1 ++ aw2)).2.2 ≤ (⟨#[]⟩ ++ aw1 : ByteArray).size + aw2.size := by decide +kernel
theorem aw_4 : ((⟨#[]⟩ ++ aw1 ++ aw2 : ByteArray)).extract (getH (⟨#[]⟩ ++ aw1 ++ aw2)).2.2 ((⟨#[]⟩ ++ aw1 : ByteArray).size + aw2.size) = ⟨#[97, 98, 99]⟩ := by decide +kernel
theorem aw_5 : (⟨#[]⟩ ++ aw1 : ByteArray).size + aw2.size ≤ 1000000 := by decide +kernel
theorem aw_feed (w : World) (a : Nat) (hg : Gl w) (ha : AWait w a (⟨#[]⟩ ++ aw1)) : Calls Tryz.prog 15 #[.pointer (some ⟨a, 0, none⟩), .string aw2] w fun e w' => e = .returned (.tuple #[.string ⟨#[97, 98, 99]⟩, .int .i64 0]) ∧ Kp [a] w w' := by
  have h2 := aw_2
  have h3 := aw_3
  have h4 := aw_4
  have h5 := aw_5
  generalize (⟨#[]⟩ ++ aw1 : ByteArray) = held at *
  refine (feed_open w a held aw2 hg ha h5 h2 h3).mono ?_
  rintro e w' ⟨_, h1, hk⟩
  rw [h4] at h1
  exact ⟨h1, hk⟩
theorem awake_ok (w : World) (hg : Gl w) : Calls Tryz.prog 6 #[] w fun e w' => e = .returned (.bool true) ∧ Kp [] w w' := by
  have HG := Lib.hid hg
  clear hg
  go_enter Tryz.func6, Tryz.ntmps6
  go_wp2_with fail
  refine (new_ok w).mono ?_
  rintro e w1 ⟨rfl, a1, k1⟩
  have A1 := Lib.hid a1
  have K1 := Lib.hid k1
  have G1 := Lib.hid (HG.out.kp k1)
  obtain ⟨W, hW⟩ : ∃ W, W = w.heap.size := ⟨_, rfl⟩
  rw [← hW] at A1 ⊢
  have HW := Lib.hid hW
  clear a1 k1 hW
  go_wp2_with fail
  refine (feed_more w1 W ⟨#[]⟩ aw1 G1.out A1.out (by decide) aw_1).mono ?_
  rintro e w2 ⟨rfl, a2, k2⟩
  have A2 := Lib.hid a2
  have hk2 : Kp [] w w2 := K1.out.trans k2 (by intro i hi; simp at hi; subst hi; right; rw [HW.out]; exact Nat.le_refl _)
  have K2 := Lib.hid hk2
  have G2 := Lib.hid (HG.out.kp hk2)
  clear a2 k2 hk2
  go_wp2_with fail
  refine (aw_feed w2 W G2.out A2.out).mono ?_
  rintro e w3 ⟨rfl, k3⟩
  have hk3 : Kp [] w w3 := K2.out.trans k3 (by intro i hi; simp at hi; subst hi; right; rw [HW.out]; exact Nat.le_refl _)
  have K3 := Lib.hid hk3
  clear k3 hk3
  go_wp2_with fail
  go_ret
  exact ⟨rfl, K3.out⟩
end Go.Proofs.YthcphjmknbiadaaGreatDoor
