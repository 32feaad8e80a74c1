/- An address's text, read. -/
import Derived.Test.YthcphjmknbiadaaGreatDoorBytes
import Derived.Deep.Cut
namespace Go.Proofs.YthcphjmknbiadaaGreatDoor
set_option maxRecDepth 100000
set_option linter.unusedVariables false
open Go.RowKit (wrap32 wrap64 intOf)

def colon : ByteArray := ⟨#[58]⟩
def dot : ByteArray := ⟨#[46]⟩
def cutH (s : ByteArray) : ByteArray := ⟨(Lib.cut s.data.toList [58, 58]).1.toArray⟩
def cutT (s : ByteArray) : ByteArray := ⟨(Lib.cut s.data.toList [58, 58]).2.1.toArray⟩
def cutB (s : ByteArray) : Bool := (Lib.cut s.data.toList [58, 58]).2.2
/-- The numbers between the colons, the gap filled. -/
def num6 (s : ByteArray) : List Nat :=
  (if cutB s = true ∧ (nums 16 65535 (cutH s) colon).length + (nums 16 65535 (cutT s) colon).length ≤ 8 then nums 16 65535 (cutH s) colon ++ List.replicate (8 - (nums 16 65535 (cutH s) colon).length - (nums 16 65535 (cutT s) colon).length) 0 else nums 16 65535 (cutH s) colon) ++ nums 16 65535 (cutT s) colon
def candP (s : ByteArray) : ByteArray :=
  if 0 ≤ Lib.indexByte s.data.toList 58 then ⟨(bytesL 2 (num6 s)).toArray⟩ else ⟨(bytesL 1 (nums 10 255 s dot)).toArray⟩
def parseP (s : ByteArray) : ByteArray × Int := if (printP (candP s)).2 = 0 ∧ ((printP (candP s)).1 == s.toList) = true then (candP s, 0) else (⟨#[]⟩, 9)
theorem splitB_size (sep : ByteArray) : ∀ (k : Nat) (s : ByteArray), ∀ t ∈ Lib.splitB sep 0 k s, t.size ≤ s.size := by
  intro k
  induction k with
  | zero => intro s t ht; simp [Lib.splitB] at ht; subst ht; exact Nat.le_refl _
  | succ k ih =>
    intro s t ht
    unfold Lib.splitB at ht
    split at ht
    · simp at ht; subst ht; exact Nat.le_refl _
    · rw [List.mem_cons] at ht
      rcases ht with rfl | ht
      · simp; omega
      · have := ih _ t ht
        simp at this; omega
theorem nums1_ok (b most : Nat) (hb : b = 10 ∨ b = 16) (hm : most ≤ 65535) (s sign : ByteArray) (w : World) (hg : Gl w) (hs : s.size ≤ 100000) (h1 : sign.size = 1) :
    Calls Tryz.prog 118 #[.string s, .string sign, .int .i64 b, .int .i64 most] w fun e w' => (∃ v, e = .returned v ∧ w'.ownsRow w.heap.size 80 1 v (nums b most s sign).length (u64Vs (nums b most s sign))) ∧ Kp [] w w' :=
  nums_ok b most hb hm s sign w hg hs h1 (Lib.splitB_all sign (by omega) 0 _ s rfl) (Nat.le_trans (Lib.countB_le sign (by omega) s.size s (Nat.le_refl _)) hs) (fun t ht => Nat.le_trans (splitB_size sign _ s t ht) hs)
theorem numsGo_lt (b most : Nat) (hm : most ≤ 65535) (ps : List ByteArray) : ∀ acc : List Nat, (∀ x ∈ acc, x ≤ 65535) → ∀ x ∈ numsGo b most acc ps, x ≤ 65535 := by
  induction ps with
  | nil => intro acc h x hx; exact h x hx
  | cons t r ih =>
    intro acc h x hx
    unfold numsGo at hx
    split at hx
    · rw [List.mem_append] at hx
      rcases hx with hx | hx
      · exact h x hx
      · rw [List.mem_replicate] at hx; omega
    · rename_i hn
      refine ih _ ?_ x hx
      intro y hy
      rw [List.mem_append] at hy
      rcases hy with hy | hy
      · exact h y hy
      · simp at hy; omega
theorem nums_lt (b most : Nat) (hm : most ≤ 65535) (s sign : ByteArray) : ∀ x ∈ nums b most s sign, x ≤ 65535 := by
  unfold nums
  split
  · intro x hx; cases hx
  · exact numsGo_lt b most hm _ [] (by intro x hx; cases hx)
theorem numsGo_len (b most : Nat) (ps : List ByteArray) : ∀ acc : List Nat, (numsGo b most acc ps).length ≤ acc.length + ps.length + 100 := by
  induction ps with
  | nil => intro acc; simp only [numsGo, List.length_nil]; omega
  | cons t r ih =>
    intro acc
    unfold numsGo
    split
    · simp only [List.length_append, List.length_replicate, List.length_cons]; omega
    · have := ih (acc ++ [(pU b t).1])
      simp at this ⊢; omega
theorem nums_len (b most : Nat) (s sign : ByteArray) (hs : s.size ≤ 100000) (h1 : sign.size = 1) : (nums b most s sign).length ≤ 100101 := by
  unfold nums
  split
  · simp
  · have h := numsGo_len b most (partsB s sign) []
    have h2 : (partsB s sign).length = Lib.countB s sign + 1 := Lib.splitB_all sign (by omega) 0 _ s rfl
    have h3 := Lib.countB_le sign (by omega) s.size s (Nat.le_refl _)
    simp at h; omega
theorem run_append_none {P : Program} (w : World) (base : Nat) (t ty e : TypeId) (i : TypeInfo) (size : Nat) (ht : P.underlying t = some (.slice e)) (hi : P.info? e = some i)
    (v : Value) (n : Nat) (xs : List Value) (hown : w.ownsRow base e size v n xs) :
    (Builtin.append_ #[t, t] ty #[v, .slice none 0 0]).run P w = .ok v w := by
  rcases hown.2 with ⟨rfl, rfl⟩ | ⟨g, cap, cur, rfl, hbg, hg, hnc, hcm, hcs, htake⟩
  · simp [Builtin.append_, run_underlying ht, sizeOf, typeInfo, hi, Builtin.lenOf, Builtin.firstCells]
  · simp [Builtin.append_, run_underlying ht, sizeOf, typeInfo, hi, hnc, Builtin.lenOf, Builtin.firstCells, storeCells, loadCells]
theorem cut_size (s : ByteArray) : (cutH s).size ≤ s.size ∧ (cutT s).size ≤ s.size := by
  have h1 : (cutH s).size = (Lib.cut s.data.toList [58, 58]).1.length := rfl
  have h2 : (cutT s).size = (Lib.cut s.data.toList [58, 58]).2.1.length := rfl
  have h3 : s.data.toList.length = s.size := by rw [Array.length_toList]; rfl
  rw [h1, h2]
  unfold Lib.cut
  split <;> simp <;> omega
theorem zeroN0 : (Builtin.zeroCells (Value.int .u64 0).cells 0).toList = u64Vs (List.replicate 0 0) := by kernel_rfl
theorem zeroN1 : (Builtin.zeroCells (Value.int .u64 0).cells 1).toList = u64Vs (List.replicate 1 0) := by kernel_rfl
theorem zeroN2 : (Builtin.zeroCells (Value.int .u64 0).cells 2).toList = u64Vs (List.replicate 2 0) := by kernel_rfl
theorem zeroN3 : (Builtin.zeroCells (Value.int .u64 0).cells 3).toList = u64Vs (List.replicate 3 0) := by kernel_rfl
theorem zeroN4 : (Builtin.zeroCells (Value.int .u64 0).cells 4).toList = u64Vs (List.replicate 4 0) := by kernel_rfl
theorem zeroN5 : (Builtin.zeroCells (Value.int .u64 0).cells 5).toList = u64Vs (List.replicate 5 0) := by kernel_rfl
theorem zeroN6 : (Builtin.zeroCells (Value.int .u64 0).cells 6).toList = u64Vs (List.replicate 6 0) := by kernel_rfl
theorem zeroN7 : (Builtin.zeroCells (Value.int .u64 0).cells 7).toList = u64Vs (List.replicate 7 0) := by kernel_rfl
theorem zeroN8 : (Builtin.zeroCells (Value.int .u64 0).cells 8).toList = u64Vs (List.replicate 8 0) := by kernel_rfl
theorem zeroN (z : Nat) (h : z < 9) : (Builtin.zeroCells (Value.int .u64 0).cells z).toList = u64Vs (List.replicate z 0) := by
  match z, h with
  | 0, _ => exact zeroN0
  | 1, _ => exact zeroN1
  | 2, _ => exact zeroN2
  | 3, _ => exact zeroN3
  | 4, _ => exact zeroN4
  | 5, _ => exact zeroN5
  | 6, _ => exact zeroN6
  | 7, _ => exact zeroN7
  | 8, _ => exact zeroN8
theorem u64Vs_append (a b : List Nat) : u64Vs (a ++ b) = u64Vs a ++ u64Vs b := by unfold u64Vs; exact List.map_append
theorem own_grow_other {w w' : World} {base2 n m : Nat} {e : TypeId} {v v2 : Value} {xs : List Value} (h : w.ownsRow base2 e n v2 m xs) (hg : w.grownBy w' v.ownBlock) (hne : ∀ g, v.ownBlock = some g → g < base2) : w'.ownsRow base2 e n v2 m xs := by
  refine ⟨h.1, ?_⟩
  rcases h.2 with h2 | ⟨g, cap, cur, hv, hb, hh, r⟩
  · exact .inl h2
  · refine .inr ⟨g, cap, cur, hv, hb, ?_, r⟩
    rw [hg.block g (heap_lt hh) (fun he => by have := hne g he.symm; omega)]
    exact hh
theorem app2_run (w : World) (base b2 : Nat) (v v2 : Value) (L L2 : List Nat) (h1 : w.ownsRow base 80 1 v L.length (u64Vs L)) (h2 : w.ownsRow b2 80 1 v2 L2.length (u64Vs L2)) (hn : L.length + L2.length ≤ 1000000) (hb : base ≤ w.heap.size) :
    ∃ v' w', (Builtin.append_ #[156, 156] 156 #[v, v2]).run Tryz.prog w = .ok v' w' ∧ w'.ownsRow base 80 1 v' (L ++ L2).length (u64Vs (L ++ L2)) ∧ (w = w' ∨ w.grownBy w' v.ownBlock) := by
  obtain ⟨i0, hi, hz0, hz1, hz2⟩ := info_parts info_u64
  rcases h2.2 with ⟨rfl, h0⟩ | ⟨g, cap, cur, rfl, hbg, hg, hnc, hcm, hcs, htake⟩
  · rw [List.length_eq_zero_iff] at h0
    subst h0
    exact ⟨v, w, run_append_none w base _ _ 80 i0 1 Tryz.underlying156 hi v _ _ h1, by rw [List.append_nil]; exact h1, .inl rfl⟩
  · obtain ⟨v', w', hr, ho, hgr, _⟩ := run_append_own (P := Tryz.prog) w base 156 156 80 i0 (.int .u64 0) 1 8 Tryz.underlying156 hi hz0 hz1 hz2 rfl (by decide) v L.length (u64Vs L) h1 ⟨g, 0, none⟩ L2.length cap (u64Vs L2) (by simp [u64Vs])
      (h2.cells (g := g) rfl) (by intro u hu; unfold u64Vs at hu; rw [List.mem_map] at hu; obtain ⟨y, _, rfl⟩ := hu; rfl) (by unfold maxLen; omega) (by omega) hb
    exact ⟨v', w', hr, by rw [List.length_append, u64Vs_append]; exact ho, .inr hgr⟩
theorem gl_drewN {w : World} (h : Gl w) (n : Nat) : Gl (w.drewN n) := h.kp ((Kp.refl [] w).drewN n)
set_option maxHeartbeats 1000000 in
/-- What the colons' side lays: the numbers, in a row, and their bytes. -/
theorem parse_ok (s : ByteArray) (w : World) (hg : Gl w) (hs : s.size ≤ 10000) :
    Calls Tryz.prog 89 #[.string s] w fun e w' => e = .returned (.tuple #[.string (parseP s).1, .int .i64 (parseP s).2]) ∧ Kp [] w w' := by
  obtain ⟨i0, hi, hz0, hz1, hz2⟩ := info_parts info_u64
  obtain ⟨m, hmx⟩ := hg.mx
  go_enter Tryz.func89, Tryz.ntmps89
  go_wp2_with fail
  refine (Tryz.strings_Contains_one s 58 w).mono ?_
  rintro e w1 ⟨rfl, rfl⟩
  obtain ⟨B, hB⟩ : ∃ B, B = decide (0 ≤ Lib.indexByte s.data.toList 58) := ⟨_, rfl⟩
  rw [← hB]
  have HB := Lib.hid hB
  clear hB
  go_upto_if 14 with fail
  go_cut [4] from 5 (fun v wc => v = .string (candP s) ∧ Kp [] w1 wc)
  case first =>
    cases B with
    | true =>
      have hc : 0 ≤ Lib.indexByte s.data.toList 58 := of_decide_eq_true HB.out.symm
      have hcand : candP s = ⟨(bytesL 2 (num6 s)).toArray⟩ := by unfold candP; rw [if_pos hc]
      have HCA := Lib.hid hcand
      have hct := Tryz.strings_Cut s ⟨#[58, 58]⟩ m w1 (by omega) hmx
      have HCT : Go.RowKit.Hid (Calls Tryz.prog 117 #[.string s, .string ⟨#[58, 58]⟩] w1 fun e w' => e = .returned (.tuple #[.string (cutH s), .string (cutT s), .bool (cutB s)]) ∧ ∃ n, w' = w1.drewN n) := Lib.hid hct
      obtain ⟨hcs1, hcs2⟩ := cut_size s
      clear hc hcand hct
      go_wp2_with fail
      refine HCT.out.mono ?_
      rintro e w2 ⟨rfl, n2, rfl⟩
      have hg2 := gl_drewN hg n2
      have k2 : Kp [] w1 (w1.drewN n2) := (Kp.refl [] w1).drewN n2
      generalize w1.drewN n2 = w2 at *
      go_wp2_with fail
      refine (nums1_ok 16 65535 (.inr rfl) (by omega) (cutH s) colon w2 hg2 (by omega) rfl).mono ?_
      rintro e w3 ⟨⟨v1, rfl, ho1⟩, k3⟩
      go_wp2_with fail
      refine (nums1_ok 16 65535 (.inr rfl) (by omega) (cutT s) colon w3 (hg2.kp k3) (by omega) rfl).mono ?_
      rintro e w4 ⟨⟨v2, rfl, ho2⟩, k4⟩
      obtain ⟨A1, c1, rfl, _⟩ := own_uat ho1
      obtain ⟨A2, c2, rfl, _⟩ := own_uat ho2
      have hnl1 := nums_len 16 65535 (cutH s) colon (by omega) rfl
      have hnl2 := nums_len 16 65535 (cutT s) colon (by omega) rfl
      have hlt1 := nums_lt 16 65535 (by omega) (cutH s) colon
      have hlt2 := nums_lt 16 65535 (by omega) (cutT s) colon
      have hnum : num6 s = (if cutB s = true ∧ (nums 16 65535 (cutH s) colon).length + (nums 16 65535 (cutT s) colon).length ≤ 8 then nums 16 65535 (cutH s) colon ++ List.replicate (8 - (nums 16 65535 (cutH s) colon).length - (nums 16 65535 (cutT s) colon).length) 0 else nums 16 65535 (cutH s) colon) ++ nums 16 65535 (cutT s) colon := rfl
      generalize nums 16 65535 (cutH s) colon = L1 at *
      generalize nums 16 65535 (cutT s) colon = L2 at *
      have hall : ∀ x ∈ num6 s, x ≤ 65535 := by
        rw [hnum]
        intro x hx
        rw [List.mem_append] at hx
        rcases hx with hx | hx
        · split at hx
          · rw [List.mem_append] at hx
            rcases hx with hx | hx
            · exact hlt1 x hx
            · rw [List.mem_replicate] at hx; omega
          · exact hlt1 x hx
        · exact hlt2 x hx
      have HLT := Lib.hid hall
      have HO1 := Lib.hid (own_kp0 ho1 k4)
      have HO2 := Lib.hid ho2
      have HNE : Go.RowKit.Hid (∀ g, (Value.slice A1 L1.length c1).ownBlock = some g → g < w3.heap.size) := Lib.hid (fun g hg => (ho1.lt g hg).2)
      have HS2 : Go.RowKit.Hid (w1.heap.size ≤ w2.heap.size) := Lib.hid k2.size
      have HS3 : Go.RowKit.Hid (w2.heap.size ≤ w3.heap.size ∧ w3.heap.size ≤ w4.heap.size) := Lib.hid ⟨k3.size, k4.size⟩
      have KK4 := Lib.hid ((k2.trans k3 (by simp)).trans k4 (by simp))
      have hw1 : IntKind.i64.wrap (8 - (L1.length : Int)) = 8 - (L1.length : Int) := IntWalk.i64_in _ (by omega)
      have hw2 : IntKind.i64.wrap (8 - (L1.length : Int) - (L2.length : Int)) = 8 - (L1.length : Int) - (L2.length : Int) := IntWalk.i64_in _ (by omega)
      obtain ⟨D, hD⟩ : ∃ D, D = cutB s := ⟨_, rfl⟩
      rw [← hD] at hnum ⊢
      have HNUM := Lib.hid hnum
      clear hD hnum hall hlt1 hlt2 ho1 ho2 k2 k3 k4 HCT
      cases D with
      | false =>
        have hnm : num6 s = L1 ++ L2 := by rw [HNUM.out, if_neg (by simp)]
        obtain ⟨v', w9, hrun, ho9, hw9⟩ := app2_run w4 w2.heap.size w3.heap.size (.slice A1 L1.length c1) (.slice A2 L2.length c2) (L1) L2 HO1.out HO2.out (by (try simp); omega) (by have := HS3.out; omega)
        have k9 : Kp [] w1 w9 := by
          rcases hw9 with rfl | hg9
          · exact KK4.out
          · exact grow_kp1 KK4.out HO1.out HS2.out hg9
        obtain ⟨A9, c9, rfl, hu9⟩ := own_uat ho9
        have hbo := bytes_ok A9 c9 2 (L1 ++ L2) w9 hu9 (by intro x hx; have := HLT.out x (by rw [hnm]; exact hx); omega) (by omega) (by (try simp); omega)
        rw [show (L1 ++ L2) = num6 s from hnm.symm] at hbo hrun
        rw [← HCA.out] at hbo
        have HBO := Lib.hid hbo
        have HRUN := Lib.hid hrun
        have K9 := Lib.hid k9
        clear hbo hrun k9 hw9 ho9 hu9 hnm
        go_wp2_with (at_builtin; refine Zer.wpList_append_run rfl _ _ 156 156 rfl _ _ rfl rfl HRUN.out ?_)
        refine HBO.out.mono ?_
        rintro e w10 ⟨rfl, k10⟩
        go_wp2_with fail
        go_meet
        case rel => exact ⟨rfl, K9.out.trans k10 (by simp)⟩
      | true =>
        by_cases h8 : L1.length + L2.length ≤ 8
        · have hb8 : decide (0 ≤ 8 - (L1.length : Int) - (L2.length : Int)) = true := decide_eq_true (by omega)
          obtain ⟨z, hz⟩ : ∃ z, z = 8 - L1.length - L2.length := ⟨_, rfl⟩
          have hnm : num6 s = (L1 ++ List.replicate z 0) ++ L2 := by rw [HNUM.out, if_pos ⟨rfl, h8⟩, hz]
          have ez : ((z : Nat) : Int) = 8 - (L1.length : Int) - (L2.length : Int) := by omega
          obtain ⟨v5, w5, hrun5, ho5, hg5, _⟩ := Zer.run_append_zeros (P := Tryz.prog) w4 w2.heap.size 156 3 156 80 i0 (.int .u64 0) 1 8 Tryz.underlying156 Tryz.underlying3 hi hz0 hz1 hz2 rfl (by decide) (by decide) _ _ _ HO1.out .i64 z (by rw [zeroN z (by omega)]; intro u hu; unfold u64Vs at hu; rw [List.mem_map] at hu; obtain ⟨y, _, rfl⟩ := hu; rfl) (by omega) (by have := HS3.out; omega)
          rw [zeroN z (by omega), ← u64Vs_append] at ho5
          rw [ez] at hrun5
          have HRUN5 := Lib.hid hrun5
          have HO5 : Go.RowKit.Hid (w5.ownsRow w2.heap.size 80 1 v5 (L1 ++ List.replicate z 0).length (u64Vs (L1 ++ List.replicate z 0))) := Lib.hid (by rw [List.length_append, List.length_replicate]; exact ho5)
          have HO25 := Lib.hid (own_grow_other HO2.out hg5 HNE.out)
          have KK5 := Lib.hid (grow_kp1 KK4.out HO1.out HS2.out hg5)
          have HS5 : Go.RowKit.Hid (w2.heap.size ≤ w5.heap.size) := Lib.hid (by have := HS3.out; have := hg5.size; omega)
          have hzl : z ≤ 8 := by omega
          clear hrun5 ho5 hg5 hz ez
          obtain ⟨v', w9, hrun, ho9, hw9⟩ := app2_run w5 w2.heap.size w3.heap.size v5 (.slice A2 L2.length c2) (L1 ++ List.replicate z 0) L2 HO5.out HO25.out (by (try simp); omega) HS5.out
          have k9 : Kp [] w1 w9 := by
            rcases hw9 with rfl | hg9
            · exact KK5.out
            · exact grow_kp1 KK5.out HO5.out HS2.out hg9
          obtain ⟨A9, c9, rfl, hu9⟩ := own_uat ho9
          have hbo := bytes_ok A9 c9 2 (L1 ++ List.replicate z 0 ++ L2) w9 hu9 (by intro x hx; have := HLT.out x (by rw [hnm]; exact hx); omega) (by omega) (by (try simp); omega)
          rw [show (L1 ++ List.replicate z 0 ++ L2) = num6 s from hnm.symm] at hbo hrun
          rw [← HCA.out] at hbo
          have HBO := Lib.hid hbo
          have HRUN := Lib.hid hrun
          have K9 := Lib.hid k9
          clear hbo hrun k9 hw9 ho9 hu9 hnm
          go_wp2_with (at_builtin; first | (refine Zer.wpList_append_run rfl _ _ 156 3 rfl _ _ rfl rfl HRUN5.out ?_) | (refine Zer.wpList_append_run rfl _ _ 156 156 rfl _ _ rfl rfl HRUN.out ?_))
          refine HBO.out.mono ?_
          rintro e w10 ⟨rfl, k10⟩
          go_wp2_with fail
          go_meet
          case rel => exact ⟨rfl, K9.out.trans k10 (by simp)⟩
        · have hb8 : decide (0 ≤ 8 - (L1.length : Int) - (L2.length : Int)) = false := decide_eq_false (by omega)
          have hnm : num6 s = L1 ++ L2 := by rw [HNUM.out, if_neg (by rintro ⟨_, h⟩; exact h8 h)]
          obtain ⟨v', w9, hrun, ho9, hw9⟩ := app2_run w4 w2.heap.size w3.heap.size (.slice A1 L1.length c1) (.slice A2 L2.length c2) (L1) L2 HO1.out HO2.out (by (try simp); omega) (by have := HS3.out; omega)
          have k9 : Kp [] w1 w9 := by
            rcases hw9 with rfl | hg9
            · exact KK4.out
            · exact grow_kp1 KK4.out HO1.out HS2.out hg9
          obtain ⟨A9, c9, rfl, hu9⟩ := own_uat ho9
          have hbo := bytes_ok A9 c9 2 (L1 ++ L2) w9 hu9 (by intro x hx; have := HLT.out x (by rw [hnm]; exact hx); omega) (by omega) (by (try simp); omega)
          rw [show (L1 ++ L2) = num6 s from hnm.symm] at hbo hrun
          rw [← HCA.out] at hbo
          have HBO := Lib.hid hbo
          have HRUN := Lib.hid hrun
          have K9 := Lib.hid k9
          clear hbo hrun k9 hw9 ho9 hu9 hnm
          go_wp2_with (at_builtin; refine Zer.wpList_append_run rfl _ _ 156 156 rfl _ _ rfl rfl HRUN.out ?_)
          refine HBO.out.mono ?_
          rintro e w10 ⟨rfl, k10⟩
          go_wp2_with fail
          go_meet
          case rel => exact ⟨rfl, K9.out.trans k10 (by simp)⟩
    | false =>
      have hc : ¬ 0 ≤ Lib.indexByte s.data.toList 58 := of_decide_eq_false HB.out.symm
      have hcand : candP s = ⟨(bytesL 1 (nums 10 255 s dot)).toArray⟩ := by unfold candP; rw [if_neg hc]
      have HCA := Lib.hid hcand
      clear hc hcand
      go_wp2_with fail
      refine (nums1_ok 10 255 (.inl rfl) (by omega) s dot w1 hg (by omega) rfl).mono ?_
      rintro e w2 ⟨⟨v, rfl, ho⟩, k2⟩
      obtain ⟨A, c, rfl, hu⟩ := own_uat ho
      have hnl := nums_len 10 255 s dot (by omega) rfl
      have hbo := bytes_ok A c 1 (nums 10 255 s dot) w2 hu (fun x hx => by have := nums_lt 10 255 (by omega) s dot x hx; omega) (by omega) (by omega)
      rw [← HCA.out] at hbo
      generalize nums 10 255 s dot = L at *
      have HBO := Lib.hid hbo
      clear hbo ho hu hnl HCA
      go_wp2_with fail
      refine HBO.out.mono ?_
      rintro e w3 ⟨rfl, k3⟩
      go_wp2_with fail
      go_meet
      case rel => exact ⟨rfl, k2.trans k3 (by simp)⟩
  case rest =>
    obtain ⟨rfl, kc⟩ := hcut
    obtain ⟨C, hC⟩ : ∃ C, C = candP s := ⟨_, rfl⟩
    have hpp : parseP s = if (printP C).2 = 0 ∧ ((printP C).1 == s.toList) = true then (C, 0) else (⟨#[]⟩, 9) := by rw [hC]; rfl
    rw [← hC]
    have HPP := Lib.hid hpp
    have HKC := Lib.hid kc
    have hgc := hg.kp kc
    clear hC hpp hi hz0 hz1 hz2 hmx kc hg
    go_wp2_with fail
    refine (print_ok C _ hgc).mono ?_
    rintro e w2 ⟨rfl, k2⟩
    have KK := Lib.hid (HKC.out.trans k2 (by simp))
    obtain ⟨pr, hpr⟩ : ∃ pr, pr = printP C := ⟨_, rfl⟩
    rw [← hpr] at HPP ⊢
    have HPR := Lib.hid hpr
    clear hpr k2 HKC hgc
    obtain ⟨T, c⟩ := pr
    simp only [] at HPP ⊢
    by_cases hc0 : c = 0
    · have b0 : (c == 0) = true := by rw [beq_iff_eq]; exact hc0
      subst hc0
      cases hq : (T == s.toList) with
      | true =>
        have hn := HPP.out
        rw [hq, if_pos ⟨rfl, rfl⟩] at hn
        have HN := Lib.hid hn
        clear hn
        go_wp2_with fail
        go_ret2
        exact ⟨by rw [HN.out]; rfl, KK.out⟩
      | false =>
        have hn := HPP.out
        rw [hq, if_neg (by simp)] at hn
        have HN := Lib.hid hn
        clear hn
        go_wp2_with fail
        go_ret2
        exact ⟨by rw [HN.out]; rfl, KK.out⟩
    · have b0 : (c == 0) = false := by rw [beq_eq_false_iff_ne]; exact hc0
      have hn := HPP.out
      rw [if_neg (by rintro ⟨h, _⟩; exact hc0 h)] at hn
      have HN := Lib.hid hn
      clear hn
      go_wp2_with fail
      go_ret2
      exact ⟨by rw [HN.out]; rfl, KK.out⟩
end Go.Proofs.YthcphjmknbiadaaGreatDoor
