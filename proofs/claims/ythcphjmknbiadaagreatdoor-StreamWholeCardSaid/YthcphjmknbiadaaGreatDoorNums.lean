/- Numbers of a text with a sign between; their bytes. -/
import Derived.Test.YthcphjmknbiadaaGreatDoorPu2
import Derived.Test.YthcphjmknbiadaaGreatDoorZer
namespace Go.Proofs.YthcphjmknbiadaaGreatDoor
set_option maxRecDepth 100000
set_option linter.unusedVariables false
open Go.RowKit (wrap32 wrap64 intOf)

def numsGo (b most : Nat) (acc : List Nat) : List ByteArray → List Nat
  | [] => acc
  | t :: r => if (pU b t).2 ≠ 0 ∨ most < (pU b t).1 then acc ++ List.replicate 100 0 else numsGo b most (acc ++ [(pU b t).1]) r
def u64Vs (l : List Nat) : List Value := l.map fun (n : Nat) => Value.int .u64 (n : Int)
theorem own_mono {w : World} {base base' n m : Nat} {e : TypeId} {v : Value} {xs : List Value} (h : w.ownsRow base e n v m xs) (hb : base' ≤ base) : w.ownsRow base' e n v m xs := by
  refine ⟨h.1, ?_⟩
  rcases h.2 with h2 | ⟨g, cap, cur, hv, hg, r⟩
  · exact .inl h2
  · exact .inr ⟨g, cap, cur, hv, by omega, r⟩
theorem zero100 : (Builtin.zeroCells (Value.int .u64 0).cells 100).toList = u64Vs (List.replicate 100 0) := by
  kernel_rfl
def partsB (s sign : ByteArray) : List ByteArray := Lib.splitB sign 0 (Lib.countB s sign) s
def nums (b most : Nat) (s sign : ByteArray) : List Nat := if s.size = 0 then [] else numsGo b most [] (partsB s sign)
theorem info_u64 : (Tryz.prog.info? 80).map (fun i => (i.zero, i.size, i.bytes)) = some (some (.int .u64 0), 1, 8) := by kernel_rfl
theorem grow_kp1 {w w2 w3 : World} {base : Nat} {e : TypeId} {n m : Nat} {v : Value} {xs : List Value} (k : Kp [] w w2) (ho : w2.ownsRow base e n v m xs) (hb : w.heap.size ≤ base) (hg : w2.grownBy w3 v.ownBlock) : Kp [] w w3 :=
  grow_kp0 k (own_mono ho hb) hg
set_option maxHeartbeats 1000000 in
theorem nums_ok (b most : Nat) (hb : b = 10 ∨ b = 16) (hm : most ≤ 65535) (s sign : ByteArray) (w : World) (hg : Gl w) (hs : s.size ≤ 100000) (h1 : sign.size = 1) (hpl : (partsB s sign).length = Lib.countB s sign + 1) (hpc : Lib.countB s sign ≤ 100000) (hpz : ∀ t ∈ partsB s sign, t.size ≤ 100000) :
    Calls Tryz.prog 118 #[.string s, .string sign, .int .i64 b, .int .i64 most] w fun e w' => (∃ v, e = .returned v ∧ w'.ownsRow w.heap.size 80 1 v (nums b most s sign).length (u64Vs (nums b most s sign))) ∧ Kp [] w w' := by
  obtain ⟨i0, hi, hz0, hz1, hz2⟩ := info_parts info_u64
  obtain ⟨m, hmx⟩ := hg.mx
  go_enter Tryz.func118, Tryz.ntmps118
  cases he : s.toList.isEmpty with
  | true =>
    have h0 : nums b most s sign = [] := by unfold nums; rw [if_pos (size_empty he)]
    have H0 := Lib.hid h0
    clear h0
    go_wp2_with fail
    go_ret
    rw [H0.out]
    exact ⟨⟨_, rfl, World.ownsRow_nil w w.heap.size 80 1⟩, Kp.refl _ _⟩
  | false =>
    have h0 : nums b most s sign = numsGo b most [] (partsB s sign) := by unfold nums; rw [if_neg (size_nonempty he)]
    obtain ⟨R, hR⟩ : ∃ R, R = numsGo b most [] (partsB s sign) := ⟨_, rfl⟩
    rw [h0, ← hR]
    have HR := Lib.hid hR
    clear h0 hR
    go_wp2_with fail
    refine (Tryz.strings_Split s sign m w (by omega) hmx (by omega)).mono ?_
    rintro e w1 ⟨rfl, rfl⟩
    have hk1 : Kp [] w (w.alloc (.cells ((partsB s sign).map Value.string).toArray 9)) := (Kp.refl [] w).alloc _
    have hb1 := heap_alloc_new w (.cells ((partsB s sign).map Value.string).toArray 9)
    have hz1 : (w.alloc (.cells ((partsB s sign).map Value.string).toArray 9)).heap.size = w.heap.size + 1 := by simp
    have hpl2 : Lib.countB s sign + 1 = (partsB s sign).length := hpl.symm
    rw [show Lib.splitB sign 0 (Lib.countB s sign) s = partsB s sign from rfl, hpl2]
    obtain ⟨P, hP⟩ : ∃ P, P = partsB s sign := ⟨_, rfl⟩
    rw [← hP] at hb1 hk1 hz1 HR hpz hpl ⊢
    clear hP hpl2
    generalize w.alloc (.cells (P.map Value.string).toArray 9) = w1 at *
    have HB1 := Lib.hid hb1
    have HK1 := Lib.hid hk1
    have HZ1 := Lib.hid hz1
    have HPZ := Lib.hid hpz
    have hPn : P.length ≤ 100001 := by omega
    clear hb1 hk1 hz1 hpz hmx
    go_wp2_with fail
    go_loopw [9, 20] (fun v i wr => ∃ (k : Nat) (acc : List Nat), k ≤ P.length ∧ i = .int .i64 k ∧ wr.ownsRow w1.heap.size 80 1 v acc.length (u64Vs acc) ∧ acc.length = k ∧ numsGo b most acc (P.drop k) = R ∧ Kp [] w1 wr) (fun _ i _ => P.length - (intOf i).toNat)
    case atStart => exact ⟨0, [], by omega, rfl, World.ownsRow_nil w1 w1.heap.size 80 1, rfl, by rw [List.drop_zero]; exact HR.out.symm, Kp.refl _ _⟩
    case round =>
      obtain ⟨k, acc, hk, rfl, ho, hak, hR, hkp⟩ := hrel
      by_cases hlt : k < P.length
      · obtain ⟨t, ht⟩ : ∃ t, P[k]? = some t := ⟨_, List.getElem?_eq_getElem hlt⟩
        have htz := HPZ.out t (List.mem_of_getElem? ht)
        have hcell : wr.cell? ⟨w.heap.size, k, none⟩ = some (.string t) := by
          rw [cell_of (hkp.block HB1.out (by simp)) k, List.getElem?_toArray, List.getElem?_map, ht]; rfl
        rw [List.drop_eq_getElem_cons hlt, (List.getElem?_eq_some_iff.1 ht).2] at hR
        have HRR := Lib.hid hR
        have HO := Lib.hid ho
        have HKP := Lib.hid hkp
        clear hR ho hkp ht
        go_wp2_with fail
        refine (pu_ok b hb t _ (hg.kp (HK1.out.trans HKP.out (by simp))) (by omega)).mono ?_
        rintro e w2 ⟨⟨ev, rfl, hev⟩, k2⟩
        obtain ⟨pr, hpr⟩ : ∃ pr, pr = pU b t := ⟨_, rfl⟩
        have hpl3 := pU_lt b t
        rw [← hpr] at hev hpl3 ⊢
        have HRS : Go.RowKit.Hid ((if pr.2 ≠ 0 ∨ most < pr.1 then acc ++ List.replicate 100 0 else numsGo b most (acc ++ [pr.1]) (P.drop (k + 1))) = R) := Lib.hid (by rw [hpr, ← HRR.out]; rfl)
        obtain ⟨n, c⟩ := pr
        simp only [] at hev hpl3 ⊢
        have ho2 := own_kp0 HO.out k2
        have hkp2 := HKP.out.trans k2 (by simp)
        have hk2 := HK1.out.trans hkp2 (by simp)
        clear hpr HRR HO HKP k2 hcell
        obtain ⟨v', w3, hrun, hown3, hgr3, _⟩ := Zer.run_append_zeros (P := Tryz.prog) w2 w1.heap.size 156 3 156 80 i0 (.int .u64 0) 1 8 Tryz.underlying156 Tryz.underlying3 hi hz0 hz1 hz2 rfl (by decide) (by decide) _ _ _ ho2 .i64 100 (by rw [zero100]; intro u hu; unfold u64Vs at hu; rw [List.mem_map] at hu; obtain ⟨y, _, rfl⟩ := hu; rfl) (by omega) (by have := hkp2.size; omega)
        have HRUN := Lib.hid hrun
        have HOWN := Lib.hid hown3
        have HGR := Lib.hid hgr3
        have HO2 := Lib.hid ho2
        have HK2 := Lib.hid hk2
        have HKP2 := Lib.hid hkp2
        clear hrun hown3 hgr3 ho2 hk2 hkp2
        rcases hev with ⟨rfl, rfl⟩ | ⟨hc0, N, rfl⟩
        · by_cases hmn : most < n
          · have hw : IntKind.u64.wrap (most : Int) = most := IntWalk.u64_in _ (by omega)
            have hb1 : decide ((most : Int) < (n : Int)) = true := decide_eq_true (by omega)
            go_wp2_with (at_builtin; refine Zer.wpList_append_run rfl _ _ 156 3 rfl _ _ rfl rfl HRUN.out ?_)
            go_ret
            have hRR : acc ++ List.replicate 100 0 = R := by have := HRS.out; rw [if_pos (.inr hmn)] at this; exact this
            refine ⟨⟨_, rfl, ?_⟩, grow_kp1 HK2.out HO2.out (by have := HZ1.out; omega) HGR.out⟩
            rw [← hRR]
            have h := HOWN.out
            rw [zero100] at h
            refine own_mono (base := w1.heap.size) ?_ (by have := HZ1.out; omega)
            unfold u64Vs at h ⊢
            rw [List.map_append, List.length_append, List.length_replicate]
            exact h
          · have hw : IntKind.u64.wrap (most : Int) = most := IntWalk.u64_in _ (by omega)
            have hb1 : decide ((most : Int) < (n : Int)) = false := decide_eq_false (by omega)
            have hRR : numsGo b most (acc ++ [n]) (P.drop (k + 1)) = R := by have := HRS.out; rw [if_neg (by rintro (h | h); exact h rfl; exact hmn h)] at this; exact this
            have HRR2 := Lib.hid hRR
            clear hRR
            go_wp2_with (at_builtin; refine wpList_append_own _ rfl _ _ 156 rfl w1.heap.size 80 i0 (.int .u64 0) 1 8 Tryz.underlying156 hi hz0 hz1 hz2 rfl (by decide) _ _ _ rfl (HO2.out.alloc _) ⟨w2.heap.size, 0, none⟩ 1 1 [.int .u64 n] rfl rfl ?c1 ?c2 ?c3 ?c4 ?c5 ?_)
            case c2 => first | rfl | (intro u hu; simp at hu; subst hu; rfl)
            case c3 => unfold maxLen; omega
            case c4 => omega
            case c5 => (try simp); have := HKP2.out.size; omega
            intro v2 w4 hown' hgrow _
            have k4 : Kp [] w1 w4 := grow_kp0 (HKP2.out.alloc _) (HO2.out.alloc _) hgrow
            have ho4 : w4.ownsRow w1.heap.size 80 1 v2 (acc ++ [n]).length (u64Vs (acc ++ [n])) := by
              unfold u64Vs at hown' ⊢; rw [List.map_append, show (acc ++ [n]).length = k + 1 by simp; omega]; exact hown'
            clear hown' hgrow
            go_wp2_with fail
            go_roundw
            case rel => exact ⟨k + 1, acc ++ [n], by omega, by go_num, ho4, by simp; omega, HRR2.out, k4⟩
            case measure => simp [intOf]; omega
        · have hb1 : (most : Int) = most := rfl
          go_wp2_with (at_builtin; refine Zer.wpList_append_run rfl _ _ 156 3 rfl _ _ rfl rfl HRUN.out ?_)
          go_ret
          have hRR : acc ++ List.replicate 100 0 = R := by have := HRS.out; rw [if_pos (.inl hc0)] at this; exact this
          refine ⟨⟨_, rfl, ?_⟩, grow_kp1 HK2.out HO2.out (by have := HZ1.out; omega) HGR.out⟩
          rw [← hRR]
          have h := HOWN.out
          rw [zero100] at h
          refine own_mono (base := w1.heap.size) ?_ (by have := HZ1.out; omega)
          unfold u64Vs at h ⊢
          rw [List.map_append, List.length_append, List.length_replicate]
          exact h
      · obtain rfl : k = P.length := by omega
        rw [List.drop_length] at hR
        unfold numsGo at hR
        subst hR
        go_wp2_with fail
        go_ret
        refine ⟨⟨_, rfl, ?_⟩, HK1.out.trans hkp (by simp)⟩
        exact own_mono ho (by have := HZ1.out; omega)
end Go.Proofs.YthcphjmknbiadaaGreatDoor
