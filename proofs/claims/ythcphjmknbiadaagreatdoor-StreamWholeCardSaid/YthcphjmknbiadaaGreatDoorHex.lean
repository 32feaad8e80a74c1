/- The variables that are laid; numbers by the base 16. -/
import Derived.Test.YthcphjmknbiadaaGreatDoorVtwo0
import Derived.Test.YthcphjmknbiadaaGreatDoorWire1
import Derived.Test.YthcphjmknbiadaaGreatDoorShelf
import Derived.Lib.TrailingZeros
import Derived.Lib.SmallJoins
namespace Go.Proofs.YthcphjmknbiadaaGreatDoor
set_option maxRecDepth 100000
set_option linter.unusedVariables false
open Go.RowKit (wrap32 wrap64 intOf)

/-- What the variables hold. -/
structure Gl (w : World) : Prop where
  fam : GlF w
  pow : Lib.TabIs Tryz.prog w "internal/strconv.uint64pow10" .u64 Lib.pow10Tab
  tz : w.cell? ⟨4, 16 * 285870213051353865 % 18446744073709551616 / 288230376151711744, none⟩ = some (.int .u8 4)
  mx : ∃ m, w.cell? ⟨1, 0, none⟩ = some (.int .i64 m)
  es : ∃ t p, w.var? Tryz.prog "strconv.ErrSyntax" = some #[.iface t p]
  er : ∃ t p, w.var? Tryz.prog "strconv.ErrRange" = some #[.iface t p]
theorem Gl.kp {w w' : World} (h : Gl w) (k : Kp [] w w') : Gl w' :=
  ⟨h.fam.kp k (by simp), Go.Joins.tab_stays (B := w.heap.size) (g := 2) (by kernel_rfl) h.pow k.below (Nat.le_refl _), k.cell h.tz (by simp),
   by obtain ⟨m, hm⟩ := h.mx; exact ⟨m, k.cell hm (by simp)⟩,
   by obtain ⟨t, p, hp⟩ := h.es; exact ⟨t, p, Go.Joins.var_stays (B := w.heap.size) (g := 7) (by kernel_rfl) hp k.below (Nat.le_refl _)⟩,
   by obtain ⟨t, p, hp⟩ := h.er; exact ⟨t, p, Go.Joins.var_stays (B := w.heap.size) (g := 8) (by kernel_rfl) hp k.below (Nat.le_refl _)⟩⟩
theorem Gl.lt {w : World} (h : Gl w) : 0 < w.heap.size := by
  have := World.block_lt_of_cell? _ _ h.tz
  simp at this; omega

theorem two_ok (w : World) : Calls Tryz.prog 149 #[.int .i64 16] w fun e w' => e = .returned (.bool true) ∧ w = w' := by
  go_enter Tryz.func149, Tryz.ntmps149
  go_wp2
  go_ret
  exact ⟨rfl, rfl⟩
theorem tz64_ok (w : World) (hg : Gl w) : Calls Tryz.prog 159 #[.int .u64 16] w fun e w' => e = .returned (.int .i64 4) ∧ w = w' := by
  have h := hg.tz
  have h1 : bits .and .u64 16 (IntKind.u64.wrap (-16)) = 16 := by decide
  have h2 : IntKind.u64.wrap (16 * 285870213051353865) = 4573923408821661840 := by decide
  go_enter Tryz.func159, Tryz.ntmps159
  go_wp2_with fail
  go_ret
  exact ⟨rfl, rfl⟩
theorem tz_ok (w : World) (hg : Gl w) : Calls Tryz.prog 150 #[.int .u64 16] w fun e w' => e = .returned (.int .i64 4) ∧ w = w' := by
  go_enter Tryz.func150, Tryz.ntmps150
  go_wp2_with fail
  refine (tz64_ok _ hg).mono ?_
  rintro e w' ⟨rfl, rfl⟩
  go_wp2_with fail
  go_ret
  exact ⟨rfl, rfl⟩
def hexc (d : Nat) : UInt8 := if d < 10 then UInt8.ofNat (48 + d) else UInt8.ofNat (87 + d)
def hexL (n : Nat) : List UInt8 := if n < 16 then [hexc n] else hexL (n / 16) ++ [hexc (n % 16)]
termination_by n
decreasing_by omega
abbrev hexS : ByteArray := ⟨#[48, 49, 50, 51, 52, 53, 54, 55, 56, 57, 97, 98, 99, 100, 101, 102, 103, 104, 105, 106, 107, 108, 109, 110, 111, 112, 113, 114, 115, 116, 117, 118, 119, 120, 121, 122]⟩
theorem hexc_at : ∀ d : Nat, d < 16 → hexS.data[d]? = some (hexc d) := by decide
theorem u64_and15 (n : Int) : bits .and .u64 n 15 = n % 16 := by
  have h15 : (BitVec.ofInt 64 15).toNat = 2 ^ 4 - 1 := by decide
  have key : (BitVec.ofInt 64 n &&& BitVec.ofInt 64 15).toNat = (n % ((2 ^ 64 : Nat) : Int)).toNat % 2 ^ 4 := by
    rw [BitVec.toNat_and, BitVec.toNat_ofInt, h15, Nat.and_two_pow_sub_one_eq_mod]
  show IntKind.u64.wrap ((BitVec.ofInt 64 n &&& BitVec.ofInt 64 15).toNat : Nat) = n % 16
  rw [key, IntKind.wrap_u64]
  omega
theorem info65 : (Tryz.prog.info? 191).map (fun i => (i.size)) = some 65 := by kernel_rfl
set_option maxHeartbeats 1000000 in
theorem fbits_ok (n : Nat) (hn : n < 65536) (w : World) (hg : Gl w) : Calls Tryz.prog 134 #[.slice none 0 0, .int .u64 n, .int .i64 16, .bool false, .bool false] w fun e w' =>
    e = .returned (.tuple #[.slice none 0 0, .string ⟨(hexL n).toArray⟩]) ∧ Kp [] w w' := by
  go_enter Tryz.func134, Tryz.ntmps134
  go_wp2_with fail
  refine (two_ok _).mono ?_
  rintro e w1 ⟨rfl, rfl⟩
  go_wp2_with fail
  have hk1 : Kp [] w (w.alloc (.cells Tryz.zeroCells191 191)) := (Kp.refl [] w).alloc _
  have ha1 := heap_alloc_new w (.cells Tryz.zeroCells191 191)
  generalize w.alloc (.cells Tryz.zeroCells191 191) = w1 at *
  refine (tz_ok _ (hg.kp hk1)).mono ?_
  rintro e w2 ⟨rfl, rfl⟩
  have HN := Lib.hid hn
  have hs1 : (Tryz.zeroCells191 : Array Value).size = 65 := rfl
  generalize (Tryz.zeroCells191 : Array Value) = C1 at *
  have HA := Lib.hid ha1
  have HK := Lib.hid hk1
  have HS := Lib.hid hs1
  obtain ⟨W, hW⟩ : ∃ W, W = w.heap.size := ⟨_, rfl⟩
  rw [← hW] at HA ⊢
  have HW := Lib.hid hW
  clear ha1 hk1 hn hs1 hW
  go_wp2_with fail
  go_loopw [1, 13] (fun u i wr => ∃ (m k : Nat) (C : Array Value) (ds : List UInt8), u = .int .u64 m ∧ i = .int .i64 k ∧ ds.length + k = 65 ∧ 61 < k ∧ m < 16 ^ (k - 61) ∧ hexL n = hexL m ++ ds ∧ wr.heap[W]? = some (.cells C 191 (0, 0)) ∧ C.size = 65 ∧ C.toList.drop k = ds.map (fun b => Value.int .u8 b.toNat) ∧ Kp [] w wr) (fun _ i _ => (intOf i).toNat)
  case atStart => exact ⟨n, 65, C1, [], rfl, rfl, rfl, by omega, by simpa using HN.out, by simp, HA.out, HS.out, by rw [List.drop_eq_nil_of_le (by simp [HS.out])]; rfl, HK.out⟩
  case round =>
    obtain ⟨m, k, C, ds, rfl, rfl, hlen, hk61, hm, hhex, hC, hCs, hdr, hkp⟩ := hrel
    have hand : bits .and .u64 (m : Int) 15 = ((m % 16 : Nat) : Int) := by rw [u64_and15]; omega
    obtain ⟨lo, hlo⟩ : ∃ lo, lo = m % 16 := ⟨_, rfl⟩
    rw [← hlo] at hand
    have hlo16 : lo < 16 := by omega
    have hlo36 : (lo : Int) < 36 := by omega
    have hlo0 : (0 : Int) ≤ (lo : Int) := by omega
    have hc1 := (cell_of hC (k - 1)).trans (Array.getElem?_eq_getElem (by omega))
    have hf1 := free_of hC (k - 1)
    have hkk : (k : Int) - 1 < 65 := by omega
    have hkk0 : (0 : Int) ≤ (k : Int) - 1 := by omega
    have HLO := Lib.hid hlo
    have HDR := Lib.hid hdr
    have HC := Lib.hid hC
    have HKP := Lib.hid hkp
    have HHEX := Lib.hid hhex
    have HM := Lib.hid hm
    clear hlo hdr hC hkp hhex hm
    have hget : ∀ d (hd : d < 16) (h2 : d < hexS.size), hexS[d]'h2 = hexc d := by
      intro d hd h2
      have := hexc_at d hd
      have e := Array.getElem?_eq_some_iff.1 this
      exact e.2
    by_cases h16 : 16 ≤ m
    · go_wp2_with fail
      case roundEnd =>
        refine ⟨⟨m / 16, k - 1, C.setIfInBounds (k - 1) (.int .u8 (hexc lo).toNat), hexc lo :: ds, ?_, ?_, by simp; omega, ?_, ?_, ?_, ?_, by simpa using hCs, ?_, ?_⟩, ?_⟩
        · congr 1
        · congr 1; omega
        · have := HM.out
          have : k - 61 ≠ 1 := by intro h; rw [h] at this; omega
          omega
        · have := HM.out
          have e : k - 61 = (k - 1 - 61) + 1 := by omega
          rw [e, Nat.pow_succ] at this
          omega
        · rw [HHEX.out, hexL, if_neg (by omega), HLO.out, List.append_assoc]; rfl
        · rw [← hget lo hlo16 (show lo < 36 by omega)]
          exact heap_set HC.out (k - 1) _
        · have := HDR.out
          rw [Array.toList_setIfInBounds, List.drop_eq_getElem_cons (by simp; omega)]
          have e : k - 1 + 1 = k := by omega
          simp only [e, List.getElem_set_self, List.drop_set_of_lt (by omega : k - 1 < k), this, List.map_cons]
        · exact HKP.out.setCell _ _ (by right; rw [← HW.out]; simp)
        · simp [intOf]; omega
    · have hL : (hexc m :: ds).length = 66 - k := by simp; omega
      have h36 : m < hexS.size := by show m < 36; omega
      have hsl : ∀ w2 : World, (Instr.sliceAt 191 (.pointer (some ⟨W, 0, none⟩)) (some (.int .i64 ((k : Int) - 1))) none none).run Tryz.prog w2 = .ok (.slice (some ⟨W, k - 1, none⟩) (66 - k) (66 - k)) w2 := by
        intro w2
        rw [run_sliceAt_array_l w2 191 ⟨W, 0, none⟩ (by kernel_rfl) .i64 _ hkk0 (by show (k : Int) - 1 ≤ (65 : Nat); omega)]
        have e1 : ((k : Int) - 1).toNat = k - 1 := by omega
        have e2 : (Tryz.prog).arrayLen 191 = 65 := by kernel_rfl
        have e3 : (sizeOf ((Tryz.prog).elem 191)).run Tryz.prog w2 = .ok 1 w2 := by kernel_rfl
        rw [e3, e1, e2]
        simp only [Result.andThen, slicedAt, Addr.add_mid]
        rw [if_neg (by omega)]
        simp only [Nat.mul_one, Nat.zero_add]
        rw [show 65 - (k - 1) = 66 - k by omega]
      have hcv : (convert 44 9 (.slice (some ⟨W, k - 1, none⟩) (66 - k) (66 - k))).run Tryz.prog (wr.setCell ⟨W, k - 1, none⟩ (.int .u8 ((hexS[m]'h36).toNat : Int))) = .ok (.string ⟨(hexc m :: ds).toArray⟩) (wr.setCell ⟨W, k - 1, none⟩ (.int .u8 ((hexS[m]'h36).toNat : Int))) := by
        rw [hget m (by omega), ← hL]
        refine run_convert_bytes_back _ _ _ 5 _ _ _ (by kernel_rfl) (by kernel_rfl) (by kernel_rfl) ?_
        intro j hj
        have hb := heap_set HC.out (k - 1) (.int .u8 ((hexc m).toNat : Int))
        rw [Addr.add_mid, cell_of hb]
        cases j with
        | zero => simp [Array.getElem?_setIfInBounds, hCs]; omega
        | succ i =>
          have hi : i < ds.length := by simpa using hj
          have h1 : C.toList[k + i]? = (ds.map (fun b => Value.int .u8 b.toNat))[i]? := by rw [← HDR.out, List.getElem?_drop]
          rw [Array.getElem?_setIfInBounds, if_neg (by omega), show k - 1 + (i + 1) = k + i by omega, ← Array.getElem?_toList, h1]
          simp [hi]
      go_wp2_with fail
      go_ret2
      refine ⟨?_, HKP.out.setCell _ _ (by right; rw [← HW.out]; simp)⟩
      rw [HHEX.out, hexL, if_pos (by omega)]
      rfl
theorem ifmt_ok (n : Nat) (hn : n < 65536) (w : World) (hg : Gl w) : Calls Tryz.prog 145 #[.int .u64 n, .int .i64 16] w fun e w' =>
    e = .returned (.string ⟨(hexL n).toArray⟩) ∧ Kp [] w w' := by
  go_enter Tryz.func145, Tryz.ntmps145
  go_wp2_with fail
  refine (fbits_ok n hn _ hg).mono ?_
  rintro e w1 ⟨rfl, k1⟩
  go_wp2
  go_ret
  exact ⟨rfl, k1⟩
theorem fmt_ok (n : Nat) (hn : n < 65536) (w : World) (hg : Gl w) : Calls Tryz.prog 130 #[.int .u64 n, .int .i64 16] w fun e w' =>
    e = .returned (.string ⟨(hexL n).toArray⟩) ∧ Kp [] w w' := by
  go_enter Tryz.func130, Tryz.ntmps130
  go_wp2_with fail
  refine (ifmt_ok n hn _ hg).mono ?_
  rintro e w1 ⟨rfl, k1⟩
  go_wp2
  go_ret
  exact ⟨rfl, k1⟩
end Go.Proofs.YthcphjmknbiadaaGreatDoor
