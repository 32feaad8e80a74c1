/- ParseUint; numbers between signs; their bytes. -/
import Derived.Test.YthcphjmknbiadaaGreatDoorPu
import Derived.Test.YthcphjmknbiadaaGreatDoorAddr6
import Derived.Test.YthcphjmknbiadaaGreatDoorBld
namespace Go.Proofs.YthcphjmknbiadaaGreatDoor
set_option maxRecDepth 100000
set_option linter.unusedVariables false
open Go.RowKit (wrap32 wrap64 intOf)

theorem pUgo_code (b n : Nat) (l : List UInt8) : (pUgo b n l).2 = 0 ∨ (pUgo b n l).2 = 1 ∨ (pUgo b n l).2 = 2 := by
  induction l generalizing n with
  | nil => left; rfl
  | cons c r ih =>
    unfold pUgo
    split
    · right; right; rfl
    · split
      · right; right; rfl
      split
      · right; left; rfl
      · exact ih _
theorem pU_code (b : Nat) (s : ByteArray) : (pU b s).2 = 0 ∨ (pU b s).2 = 1 ∨ (pU b s).2 = 2 := by
  unfold pU; split
  · right; right; rfl
  · exact pUgo_code _ _ _
theorem pUgo_lt (b n : Nat) (l : List UInt8) (hn : n ≤ 4294967295) : (pUgo b n l).1 ≤ 4294967295 := by
  induction l generalizing n with
  | nil => exact hn
  | cons c r ih =>
    unfold pUgo
    split
    · simp
    · split
      · simp
      split
      · simp
      · exact ih _ (by omega)
theorem pU_lt (b : Nat) (s : ByteArray) : (pU b s).1 ≤ 4294967295 := by
  unfold pU; split
  · simp
  · exact pUgo_lt _ _ _ (by omega)
/-- Is an error told? -/
def ErrIs (c : Int) (v : Value) : Prop := (c = 0 ∧ v = .nilIface) ∨ (c ≠ 0 ∧ ∃ N : Nat, v = .iface 200 (.pointer (some ⟨N, 0, none⟩)))
theorem pu_ok (b : Nat) (hb : b = 10 ∨ b = 16) (s : ByteArray) (w : World) (hg : Gl w) (hs : s.size ≤ 140737488351232) :
    Calls Tryz.prog 139 #[.string s, .int .i64 b, .int .i64 32] w fun e w' => (∃ v, e = .returned (.tuple #[.int .u64 (pU b s).1, v]) ∧ ErrIs (pU b s).2 v) ∧ Kp [] w w' := by
  go_enter Tryz.func139, Tryz.ntmps139
  go_wp2_with fail
  refine (ipu_ok b hb s _ hs).mono ?_
  rintro e w1 ⟨rfl, k1⟩
  have hg1 := hg.kp k1
  obtain ⟨R, hR⟩ : ∃ R, R = pU b s := ⟨_, rfl⟩
  have hc := pU_code b s
  rw [← hR] at hc ⊢
  obtain ⟨u, c⟩ := R
  have HR := Lib.hid hR.symm
  clear hR
  simp only [] at hc ⊢
  rcases hc with rfl | rfl | rfl
  · have e0 : errV 0 = .nilIface := rfl
    rw [e0]
    go_wp2_with fail
    go_ret2
    rw [HR.out]
    exact ⟨⟨_, rfl, .inl ⟨rfl, rfl⟩⟩, k1⟩
  · have e0 : errV 1 = .iface 197 (.int .i64 1) := rfl
    rw [e0]
    obtain ⟨t, p, hv⟩ := hg1.er
    have hcell := World.var?_cell (g := 8) (by kernel_rfl) hv 0
    simp only [List.getElem?_toArray, List.getElem?_cons_zero] at hcell
    go_wp2_with fail
    refine (Tryz.strconv_toError_range _ _ _ _ (.iface t p) _ (by omega) hcell (.inr ⟨_, _, rfl⟩)).mono ?_
    rintro e w2 ⟨N, rfl, _, _, k2⟩
    go_wp2_with fail
    go_ret2
    rw [HR.out]
    exact ⟨⟨_, rfl, .inr ⟨by simp, N, rfl⟩⟩, k1.trans (Kp.of_below k2) (by simp)⟩
  · have e0 : errV 2 = .iface 197 (.int .i64 2) := rfl
    rw [e0]
    obtain ⟨t, p, hv⟩ := hg1.es
    have hcell := World.var?_cell (g := 7) (by kernel_rfl) hv 0
    simp only [List.getElem?_toArray, List.getElem?_cons_zero] at hcell
    go_wp2_with fail
    refine (Tryz.strconv_toError_syntax _ _ _ _ (.iface t p) _ (by omega) hcell (.inr ⟨_, _, rfl⟩)).mono ?_
    rintro e w2 ⟨N, rfl, _, _, k2⟩
    go_wp2_with fail
    go_ret2
    rw [HR.out]
    exact ⟨⟨_, rfl, .inr ⟨by simp, N, rfl⟩⟩, k1.trans (Kp.of_below k2) (by simp)⟩
end Go.Proofs.YthcphjmknbiadaaGreatDoor
