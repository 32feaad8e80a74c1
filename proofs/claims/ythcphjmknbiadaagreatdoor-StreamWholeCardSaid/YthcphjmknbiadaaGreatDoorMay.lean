/- May a header be, but for its length? -/
import Derived.Test.YthcphjmknbiadaaGreatDoorStrm
namespace Go.Proofs.YthcphjmknbiadaaGreatDoor
set_option maxRecDepth 100000
set_option linter.unusedVariables false
open Go.RowKit (wrap32 wrap64 intOf)

def mostOf (f : Fam) : Int := if f.n = 0 then 0 else 65535
def fldOk (fl : Int × ByteArray) : Bool := decide (0 ≤ fl.1) && decide (fl.1 ≤ 255) && decide (fl.1 ≠ 3) && decide ((fl.2.size : Int) ≤ 65535)
def portOk (f : Fam) (n : Int) : Bool := decide (0 ≤ n) && decide (n ≤ mostOf f)
def lastB (x : Strm) (f : Fam) : Bool := ((x.src.size : Int) == f.size) && ((x.dst.size : Int) == f.size) && (!x.loc || f.n == 0)
/-- May a header be, but for its length? -/
def mayB (x : Strm) (f : Fam) : Bool := portOk f x.sp && portOk f x.dp && x.flds.all fldOk && lastB x f
theorem mayB_sp (x : Strm) (f : Fam) (h : x.sp < 0 ∨ mostOf f < x.sp) : mayB x f = false := by
  have : portOk f x.sp = false := by unfold portOk; rcases h with h | h <;> simp <;> omega
  unfold mayB; rw [this]; rfl
theorem mayB_dp (x : Strm) (f : Fam) (h : x.dp < 0 ∨ mostOf f < x.dp) : mayB x f = false := by
  have : portOk f x.dp = false := by unfold portOk; rcases h with h | h <;> simp <;> omega
  unfold mayB; rw [this]; simp
theorem mayB_fld (x : Strm) (f : Fam) (j : Nat) (fl : Int × ByteArray) (h : x.flds[j]? = some fl) (hb : ¬ fldOk fl = true) : mayB x f = false := by
  have : x.flds.all fldOk = false := by
    rw [List.all_eq_false]; exact ⟨fl, List.mem_of_getElem? h, hb⟩
  unfold mayB; rw [this]; simp
theorem mayB_last (x : Strm) (f : Fam) (h0 : 0 ≤ x.sp ∧ x.sp ≤ mostOf f) (h1 : 0 ≤ x.dp ∧ x.dp ≤ mostOf f) (h : ∀ (i : Nat) (fl : Int × ByteArray), i < x.flds.length → x.flds[i]? = some fl → fldOk fl = true) : mayB x f = lastB x f := by
  have a : portOk f x.sp = true := by unfold portOk; simp; omega
  have b : portOk f x.dp = true := by unfold portOk; simp; omega
  have c : x.flds.all fldOk = true := by
    rw [List.all_eq_true]
    intro fl hm
    obtain ⟨i, hi⟩ := List.mem_iff_getElem?.1 hm
    exact h i fl (List.getElem?_eq_some_iff.1 hi).1 hi
  unfold mayB; rw [a, b, c]; simp
theorem fldOk_yes (fl : Int × ByteArray) (h : fldOk fl = true) : 0 ≤ fl.1 ∧ fl.1 ≤ 255 ∧ fl.1 ≠ 3 ∧ (fl.2.size : Int) ≤ 65535 := by
  unfold fldOk at h
  simp only [Bool.and_eq_true, decide_eq_true_eq] at h
  exact ⟨h.1.1.1, h.1.1.2, h.1.2, h.2⟩
theorem fldOk_no (fl : Int × ByteArray) (h : ¬ fldOk fl = true) (h1 : 0 ≤ fl.1) (h2 : fl.1 ≤ 255) (h3 : fl.1 ≠ 3) : (65535 : Int) < fl.2.size := by
  unfold fldOk at h
  simp only [Bool.and_eq_true, decide_eq_true_eq, not_and, Int.not_le] at h
  exact h ⟨⟨h1, h2⟩, h3⟩
theorem lastB_1 (x : Strm) (f : Fam) (h : ((x.src.size : Int) == f.size) = false) : lastB x f = false := by unfold lastB; rw [h]; rfl
theorem lastB_2 (x : Strm) (f : Fam) (h : ((x.dst.size : Int) == f.size) = false) : lastB x f = false := by unfold lastB; rw [h]; simp
theorem lastB_3 (x : Strm) (f : Fam) (h1 : ((x.src.size : Int) == f.size) = true) (h2 : ((x.dst.size : Int) == f.size) = true) (h3 : x.loc = false) : lastB x f = true := by unfold lastB; rw [h1, h2, h3]; rfl
theorem lastB_4 (x : Strm) (f : Fam) (h1 : ((x.src.size : Int) == f.size) = true) (h2 : ((x.dst.size : Int) == f.size) = true) (h3 : x.loc = true) : lastB x f = (f.n == 0) := by unfold lastB; rw [h1, h2, h3]; rfl

set_option maxHeartbeats 2000000 in
theorem may_ok (x : Strm) (A : Option Addr) (c : Nat) (f : Fam) (w : World) (hf : FAt w A x.flds) (hn : x.flds.length ≤ 9223372036854775807) :
    Calls Tryz.prog 92 #[sval x A c, fv f] w fun e w' => e = .returned (.bool (mayB x f)) ∧ Kp [] w w' := by
  have i0 : ∀ w, (Instr.index 164 (.agg #[.int .i64 x.sp, .int .i64 x.dp]) (.int .i64 0)).run Tryz.prog w = .ok (.int .i64 x.sp) w := fun _ => by kernel_rfl
  have i1 : ∀ w, (Instr.index 164 (.agg #[.int .i64 x.sp, .int .i64 x.dp]) (.int .i64 1)).run Tryz.prog w = .ok (.int .i64 x.dp) w := fun _ => by kernel_rfl
  have hkk : ∀ a b, Kp [] w ((w.alloc a).alloc b) := fun a b => ((Kp.refl [] w).alloc a).alloc b
  go_enter Tryz.func92, Tryz.ntmps92
  by_cases hz : f.n = 0
  · have hmo : mostOf f = 0 := if_pos hz
    have hz' : (f.n == 0) = true := by simpa using hz
    have HMO := Lib.hid hmo
    have HZ := Lib.hid hz
    clear hmo hz
    go_wp2
    go_loopw [7, 18] (fun _ i wr => ∃ j : Int, (j = 0 ∨ j = 1 ∨ j = 2) ∧ i = .int .i64 j ∧ wr = (w.alloc (.cells (scells x A c) 24)).alloc (.cells #[.int .i64 f.n, .int .i64 f.code, .int .i64 f.size] 97) ∧ (0 < j → 0 ≤ x.sp ∧ x.sp ≤ 0) ∧ (1 < j → 0 ≤ x.dp ∧ x.dp ≤ 0)) (fun _ i _ => (2 - intOf i).toNat)
    case atStart => exact ⟨0, .inl rfl, rfl, rfl, fun h => by omega, fun h => by omega⟩
    case round =>
      obtain ⟨j, h3, rfl, rfl, hp0, hp1⟩ := hrel
      rcases h3 with rfl | rfl | rfl
      · by_cases t1 : x.sp < 0
        · have hfin : mayB x f = false := mayB_sp x f (by omega)
          have HFI := Lib.hid hfin
          clear hfin hp0 hp1 HMO
          go_wp2
          go_ret
          exact ⟨by rw [HFI.out]; rfl, hkk _ _⟩
        · by_cases t2 : 0 < x.sp
          · have hfin : mayB x f = false := mayB_sp x f (by rw [HMO.out]; omega)
            have HFI := Lib.hid hfin
            clear hfin hp0 hp1 HMO
            go_wp2
            go_ret
            exact ⟨by rw [HFI.out]; rfl, hkk _ _⟩
          · clear hp0 hp1
            go_wp2
            go_roundw
            case rel => exact ⟨1, .inr (.inl rfl), by go_num, (by first | rfl | trivial), fun _ => ⟨by omega, by omega⟩, fun h => by omega⟩
            case measure => simp [intOf]
      · have hq := hp0 (by omega)
        by_cases t1 : x.dp < 0
        · have hfin : mayB x f = false := mayB_dp x f (by omega)
          have HFI := Lib.hid hfin
          clear hfin hp0 hp1 hq HMO
          go_wp2
          go_ret
          exact ⟨by rw [HFI.out]; rfl, hkk _ _⟩
        · by_cases t2 : 0 < x.dp
          · have hfin : mayB x f = false := mayB_dp x f (by rw [HMO.out]; omega)
            have HFI := Lib.hid hfin
            clear hfin hp0 hp1 hq HMO
            go_wp2
            go_ret
            exact ⟨by rw [HFI.out]; rfl, hkk _ _⟩
          · have HQ := Lib.hid hq
            clear hp0 hp1 hq
            go_wp2
            go_roundw
            case rel => exact ⟨2, .inr (.inr rfl), by go_num, (by first | rfl | trivial), fun _ => HQ.out, fun _ => ⟨by omega, by omega⟩⟩
            case measure => simp [intOf]
      · have HQ0 := Lib.hid (hp0 (by omega))
        have HQ1 := Lib.hid (hp1 (by omega))
        clear hp0 hp1
        have hsb := alloc2_0 w (.cells (scells x A c) 24) (.cells #[.int .i64 f.n, .int .i64 f.code, .int .i64 f.size] 97)
        have hfb := alloc2_1 w (.cells (scells x A c) 24) (.cells #[.int .i64 f.n, .int .i64 f.code, .int .i64 f.size] 97)
        have hk2 := hkk (.cells (scells x A c) 24) (.cells #[.int .i64 f.n, .int .i64 f.code, .int .i64 f.size] 97)
        go_wp2
        generalize (w.alloc (.cells (scells x A c) 24)).alloc (.cells #[.int .i64 f.n, .int .i64 f.code, .int .i64 f.size] 97) = W at *
        clear hkk
        go_loopw [9, 32] (fun _ i wr => ∃ j : Nat, j ≤ x.flds.length ∧ i = .int .i64 j ∧ Kp [] W wr ∧ ∀ (i : Nat) (fl : Int × ByteArray), i < j → x.flds[i]? = some fl → fldOk fl = true) (fun _ i _ => x.flds.length - (intOf i).toNat)
        case atStart => exact ⟨0, by omega, rfl, Kp.refl _ _, fun i fl h => by omega⟩
        case round =>
          obtain ⟨j, hj, rfl, hkr, hall⟩ := hrel
          have HA := Lib.hid hall
          clear hall
          by_cases hlt : j < x.flds.length
          · obtain ⟨fl, hfl⟩ : ∃ fl, x.flds[j]? = some fl := ⟨_, List.getElem?_eq_getElem hlt⟩
            obtain ⟨g, o, rfl, e0, e1⟩ := (hf.below (hk2.trans hkr (by simp)) (by simp)) j fl hfl
            have HFL := Lib.hid hfl
            have hkf : ∀ o, Kp [] w (wr.alloc o) := fun o => (hk2.trans hkr (by simp)).alloc o
            clear hfl hsb hfb
            by_cases hok : fldOk fl = true
            · obtain ⟨t1, t2, t3, t4⟩ := fldOk_yes fl hok
              have HOK := Lib.hid hok
              clear hok
              have t3' : (fl.1 == 3) = false := by simpa using t3
              go_wp2
              go_roundw
              case rel =>
               exact ⟨j + 1, by omega, by go_num, hkr.alloc _, fun i fl' hi hfl' => by
                by_cases e : i = j
                · subst e; rw [HFL.out] at hfl'; injection hfl' with hfl'; subst hfl'; exact HOK.out
                · exact HA.out i fl' (by omega) hfl'⟩
              case measure => simp [intOf]; omega
            · have hfin : mayB x f = false := mayB_fld x f j fl HFL.out hok
              have HFI := Lib.hid hfin
              have HOK := Lib.hid hok
              clear hfin hok
              by_cases t1 : fl.1 < 0
              · go_wp2
                go_ret
                exact ⟨by rw [HFI.out]; rfl, hkf _⟩
              · by_cases t2 : 255 < fl.1
                · go_wp2
                  go_ret
                  exact ⟨by rw [HFI.out]; rfl, hkf _⟩
                · by_cases t3 : (fl.1 == 3) = true
                  · go_wp2
                    go_ret
                    exact ⟨by rw [HFI.out]; rfl, hkf _⟩
                  · have t3' : (fl.1 == 3) = false := by simpa using t3
                    have t4 : (65535 : Int) < fl.2.size := fldOk_no fl HOK.out (by omega) (by omega) (by simpa using t3)
                    clear t3
                    go_wp2
                    go_ret
                    exact ⟨by rw [HFI.out]; rfl, hkf _⟩
          · obtain rfl : j = x.flds.length := by omega
            have hfin : mayB x f = lastB x f := mayB_last x f (by rw [HMO.out]; exact HQ0.out) (by rw [HMO.out]; exact HQ1.out) HA.out
            have HFI := Lib.hid hfin
            clear hfin
            have hsb2 := hkr.block hsb (by simp)
            have hfb2 := hkr.block hfb (by simp)
            obtain ⟨c0, c1, c2, c3, c4, c5, c6, _⟩ := cells7 hsb2
            obtain ⟨d0, d1, d2, _⟩ := cells3 hfb2
            have hkf : Kp [] w wr := hk2.trans hkr (by simp)
            clear hsb hfb hsb2 hfb2
            by_cases t1 : ((x.src.size : Int) == f.size) = true
            · by_cases t2 : ((x.dst.size : Int) == f.size) = true
              · cases hloc : x.loc with
                | false =>
                  go_wp2
                  go_ret
                  exact ⟨by rw [HFI.out, lastB_3 x f t1 t2 hloc]; rfl, hkf⟩
                | true =>
                  have t5 : (f.n == 0) = true := by simpa using HZ.out
                  go_wp2
                  go_ret
                  exact ⟨by rw [HFI.out, lastB_4 x f t1 t2 hloc, t5]; rfl, hkf⟩
              · have t2' : ((x.dst.size : Int) == f.size) = false := by simpa using t2
                clear t2
                go_wp2
                go_ret
                exact ⟨by rw [HFI.out, lastB_2 x f t2']; rfl, hkf⟩
            · have t1' : ((x.src.size : Int) == f.size) = false := by simpa using t1
              clear t1
              go_wp2
              go_ret
              exact ⟨by rw [HFI.out, lastB_1 x f t1']; rfl, hkf⟩
  · have hmo : mostOf f = 65535 := if_neg hz
    have hz' : (f.n == 0) = false := by simpa using hz
    have HMO := Lib.hid hmo
    have HZ := Lib.hid hz
    clear hmo hz
    go_wp2
    go_loopw [7, 18] (fun _ i wr => ∃ j : Int, (j = 0 ∨ j = 1 ∨ j = 2) ∧ i = .int .i64 j ∧ wr = (w.alloc (.cells (scells x A c) 24)).alloc (.cells #[.int .i64 f.n, .int .i64 f.code, .int .i64 f.size] 97) ∧ (0 < j → 0 ≤ x.sp ∧ x.sp ≤ 65535) ∧ (1 < j → 0 ≤ x.dp ∧ x.dp ≤ 65535)) (fun _ i _ => (2 - intOf i).toNat)
    case atStart => exact ⟨0, .inl rfl, rfl, rfl, fun h => by omega, fun h => by omega⟩
    case round =>
      obtain ⟨j, h3, rfl, rfl, hp0, hp1⟩ := hrel
      rcases h3 with rfl | rfl | rfl
      · by_cases t1 : x.sp < 0
        · have hfin : mayB x f = false := mayB_sp x f (by omega)
          have HFI := Lib.hid hfin
          clear hfin hp0 hp1 HMO
          go_wp2
          go_ret
          exact ⟨by rw [HFI.out]; rfl, hkk _ _⟩
        · by_cases t2 : 65535 < x.sp
          · have hfin : mayB x f = false := mayB_sp x f (by rw [HMO.out]; omega)
            have HFI := Lib.hid hfin
            clear hfin hp0 hp1 HMO
            go_wp2
            go_ret
            exact ⟨by rw [HFI.out]; rfl, hkk _ _⟩
          · clear hp0 hp1
            go_wp2
            go_roundw
            case rel => exact ⟨1, .inr (.inl rfl), by go_num, (by first | rfl | trivial), fun _ => ⟨by omega, by omega⟩, fun h => by omega⟩
            case measure => simp [intOf]
      · have hq := hp0 (by omega)
        by_cases t1 : x.dp < 0
        · have hfin : mayB x f = false := mayB_dp x f (by omega)
          have HFI := Lib.hid hfin
          clear hfin hp0 hp1 hq HMO
          go_wp2
          go_ret
          exact ⟨by rw [HFI.out]; rfl, hkk _ _⟩
        · by_cases t2 : 65535 < x.dp
          · have hfin : mayB x f = false := mayB_dp x f (by rw [HMO.out]; omega)
            have HFI := Lib.hid hfin
            clear hfin hp0 hp1 hq HMO
            go_wp2
            go_ret
            exact ⟨by rw [HFI.out]; rfl, hkk _ _⟩
          · have HQ := Lib.hid hq
            clear hp0 hp1 hq
            go_wp2
            go_roundw
            case rel => exact ⟨2, .inr (.inr rfl), by go_num, (by first | rfl | trivial), fun _ => HQ.out, fun _ => ⟨by omega, by omega⟩⟩
            case measure => simp [intOf]
      · have HQ0 := Lib.hid (hp0 (by omega))
        have HQ1 := Lib.hid (hp1 (by omega))
        clear hp0 hp1
        have hsb := alloc2_0 w (.cells (scells x A c) 24) (.cells #[.int .i64 f.n, .int .i64 f.code, .int .i64 f.size] 97)
        have hfb := alloc2_1 w (.cells (scells x A c) 24) (.cells #[.int .i64 f.n, .int .i64 f.code, .int .i64 f.size] 97)
        have hk2 := hkk (.cells (scells x A c) 24) (.cells #[.int .i64 f.n, .int .i64 f.code, .int .i64 f.size] 97)
        go_wp2
        generalize (w.alloc (.cells (scells x A c) 24)).alloc (.cells #[.int .i64 f.n, .int .i64 f.code, .int .i64 f.size] 97) = W at *
        clear hkk
        go_loopw [9, 32] (fun _ i wr => ∃ j : Nat, j ≤ x.flds.length ∧ i = .int .i64 j ∧ Kp [] W wr ∧ ∀ (i : Nat) (fl : Int × ByteArray), i < j → x.flds[i]? = some fl → fldOk fl = true) (fun _ i _ => x.flds.length - (intOf i).toNat)
        case atStart => exact ⟨0, by omega, rfl, Kp.refl _ _, fun i fl h => by omega⟩
        case round =>
          obtain ⟨j, hj, rfl, hkr, hall⟩ := hrel
          have HA := Lib.hid hall
          clear hall
          by_cases hlt : j < x.flds.length
          · obtain ⟨fl, hfl⟩ : ∃ fl, x.flds[j]? = some fl := ⟨_, List.getElem?_eq_getElem hlt⟩
            obtain ⟨g, o, rfl, e0, e1⟩ := (hf.below (hk2.trans hkr (by simp)) (by simp)) j fl hfl
            have HFL := Lib.hid hfl
            have hkf : ∀ o, Kp [] w (wr.alloc o) := fun o => (hk2.trans hkr (by simp)).alloc o
            clear hfl hsb hfb
            by_cases hok : fldOk fl = true
            · obtain ⟨t1, t2, t3, t4⟩ := fldOk_yes fl hok
              have HOK := Lib.hid hok
              clear hok
              have t3' : (fl.1 == 3) = false := by simpa using t3
              go_wp2
              go_roundw
              case rel =>
               exact ⟨j + 1, by omega, by go_num, hkr.alloc _, fun i fl' hi hfl' => by
                by_cases e : i = j
                · subst e; rw [HFL.out] at hfl'; injection hfl' with hfl'; subst hfl'; exact HOK.out
                · exact HA.out i fl' (by omega) hfl'⟩
              case measure => simp [intOf]; omega
            · have hfin : mayB x f = false := mayB_fld x f j fl HFL.out hok
              have HFI := Lib.hid hfin
              have HOK := Lib.hid hok
              clear hfin hok
              by_cases t1 : fl.1 < 0
              · go_wp2
                go_ret
                exact ⟨by rw [HFI.out]; rfl, hkf _⟩
              · by_cases t2 : 255 < fl.1
                · go_wp2
                  go_ret
                  exact ⟨by rw [HFI.out]; rfl, hkf _⟩
                · by_cases t3 : (fl.1 == 3) = true
                  · go_wp2
                    go_ret
                    exact ⟨by rw [HFI.out]; rfl, hkf _⟩
                  · have t3' : (fl.1 == 3) = false := by simpa using t3
                    have t4 : (65535 : Int) < fl.2.size := fldOk_no fl HOK.out (by omega) (by omega) (by simpa using t3)
                    clear t3
                    go_wp2
                    go_ret
                    exact ⟨by rw [HFI.out]; rfl, hkf _⟩
          · obtain rfl : j = x.flds.length := by omega
            have hfin : mayB x f = lastB x f := mayB_last x f (by rw [HMO.out]; exact HQ0.out) (by rw [HMO.out]; exact HQ1.out) HA.out
            have HFI := Lib.hid hfin
            clear hfin
            have hsb2 := hkr.block hsb (by simp)
            have hfb2 := hkr.block hfb (by simp)
            obtain ⟨c0, c1, c2, c3, c4, c5, c6, _⟩ := cells7 hsb2
            obtain ⟨d0, d1, d2, _⟩ := cells3 hfb2
            have hkf : Kp [] w wr := hk2.trans hkr (by simp)
            clear hsb hfb hsb2 hfb2
            by_cases t1 : ((x.src.size : Int) == f.size) = true
            · by_cases t2 : ((x.dst.size : Int) == f.size) = true
              · cases hloc : x.loc with
                | false =>
                  go_wp2
                  go_ret
                  exact ⟨by rw [HFI.out, lastB_3 x f t1 t2 hloc]; rfl, hkf⟩
                | true =>
                  have t5 : (f.n == 0) = false := by simpa using HZ.out
                  go_wp2
                  go_ret
                  exact ⟨by rw [HFI.out, lastB_4 x f t1 t2 hloc, t5]; rfl, hkf⟩
              · have t2' : ((x.dst.size : Int) == f.size) = false := by simpa using t2
                clear t2
                go_wp2
                go_ret
                exact ⟨by rw [HFI.out, lastB_2 x f t2']; rfl, hkf⟩
            · have t1' : ((x.src.size : Int) == f.size) = false := by simpa using t1
              clear t1
              go_wp2
              go_ret
              exact ⟨by rw [HFI.out, lastB_1 x f t1']; rfl, hkf⟩
end Go.Proofs.YthcphjmknbiadaaGreatDoor
