/- What the laid variables hold, out of the row's condition. -/
import Derived.Test.YthcphjmknbiadaaGreatDoorHex
import Derived.Test.YthcphjmknbiadaaGreatDoorRows
import Derived.Lib.LaidU8
import Derived.Lib.LaidTab
import Derived.Stop.LaidErr
import Derived.Shelf.Vars
import Derived.HandedShaped
import Derived.OpenShut
import Derived.MakeChecks
namespace Go.Proofs.YthcphjmknbiadaaGreatDoor
set_option maxRecDepth 100000
set_option linter.unusedVariables false
open Go.ChangeShapes Go.WideShapes Go.ChangeAt Go.RowKit

/-- The rows' list. -/
abbrev laid8 : List (String × DataW Unit) := [("math/bits.deBruijn32tab", Rows.laid_math_bits_deBruijn32tab), ("math/bits.deBruijn64tab", Rows.laid_math_bits_deBruijn64tab), ("internal/strconv.uint64pow10", Rows.laid_internal_strconv_uint64pow10), ("unicode/utf8.acceptRanges", Rows.laid_unicode_utf8_acceptRanges), ("strconv.ErrRange", Rows.laid_strconv_ErrRange), ("strconv.ErrSyntax", Rows.laid_strconv_ErrSyntax), ("palanquin/vtwo.families", Rows.laid_palanquin_vtwo_families), ("unicode/utf8.first", Rows.laid_unicode_utf8_first)]
theorem tab_of_reads {P : Program} {W : World} {name : String} {k : IntKind} {zs : List Int} {g : Nat} {t e : TypeId} {n : Nat}
    (hg : P.globalNamed name = some g) (hty : (P.globals[g]?).map (·.type) = some t) (ht : P.underlying t = some (.array n e)) (he : P.underlying e = some (.int k)) (hce : P.cellsOf e = 1) (hct : P.cellsOf t = n)
    (h : Lib.VarReads P W name (Lib.tabData k zs)) : Lib.TabIs P W name k zs := by
  obtain ⟨g', t', cs, fuel, p, hg', ht', hvar, hd⟩ := h
  obtain rfl := Option.some.inj (hg.symm.trans hg')
  obtain rfl := Option.some.inj (hty.symm.trans ht')
  unfold Lib.TabIs
  rw [hvar, ← Lib.cells_of_tab ht he hce hct hd]
theorem rowErr (u : TypeId) (h : Tryz.prog.typeName? 3 u = some "*errors.errorString") : u = 215 :=
  typeName_ptr_named (nm := "errors.errorString") (by rw [show "*" ++ "errors.errorString" = "*errors.errorString" from by decide]; kernel_rfl) (by kernel_rfl) (by decide) u (by rw [show "*" ++ "errors.errorString" = "*errors.errorString" from by decide]; exact h)
theorem gPow : Tryz.prog.globalNamed "internal/strconv.uint64pow10" = some 2 := by kernel_rfl
theorem gDb : Tryz.prog.globalNamed "math/bits.deBruijn64tab" = some 4 := by kernel_rfl
theorem gFam : Tryz.prog.globalNamed "palanquin/vtwo.families" = some 0 := by kernel_rfl
theorem gEs : Tryz.prog.globalNamed "strconv.ErrSyntax" = some 7 := by kernel_rfl
theorem gEr : Tryz.prog.globalNamed "strconv.ErrRange" = some 8 := by kernel_rfl
theorem famFields : ∀ (i : Nat) (f : Field), (#[{ name := "n", type := 3, offset := 0, embedded := false, tag := "", pkgPath := "palanquin/vtwo", byteOffset := 0 }, { name := "code", type := 3, offset := 1, embedded := false, tag := "", pkgPath := "palanquin/vtwo", byteOffset := 8 }, { name := "size", type := 3, offset := 2, embedded := false, tag := "", pkgPath := "palanquin/vtwo", byteOffset := 16 }] : Array Field)[i]? = some f → Tryz.prog.underlying f.type = some (.int .i64) ∧ f.offset = i ∧ Tryz.prog.cellsOf f.type = 1 := by
  intro i f h
  match i, h with
  | 0, h => cases h; exact ⟨Tryz.underlying3, rfl, by kernel_rfl⟩
  | 1, h => cases h; exact ⟨Tryz.underlying3, rfl, by kernel_rfl⟩
  | 2, h => cases h; exact ⟨Tryz.underlying3, rfl, by kernel_rfl⟩
theorem fam_ints {W : World} {m : Nat} {cs : List Value} {y : DataW Unit × List MemPlace} {a b c : Int} (h : DataW.trod (fun _ => ()) Tryz.prog W 0 (fun _ => true) false m 97 cs = some y) (hy : y.1 = .agg [.lit (.int .i64 a), .lit (.int .i64 b), .lit (.int .i64 c)]) : cs = [.int .i64 a, .int .i64 b, .int .i64 c] := by
  obtain ⟨d, p⟩ := y
  simp only [] at hy
  subst hy
  exact Lib.ints_of_struct (zs := [a, b, c]) Tryz.underlying97 famFields (by kernel_rfl) h
theorem fams_of_reads {W : World} (h : Lib.VarReads Tryz.prog W "palanquin/vtwo.families" Rows.laid_palanquin_vtwo_families) : GlF W := by
  obtain ⟨g', t', cs, fuel, p, hg', ht', hvar, hd⟩ := h
  obtain rfl := Option.some.inj (gFam.symm.trans hg')
  obtain rfl := Option.some.inj ((show (Tryz.prog.globals[0]?).map (·.type) = some 137 by kernel_rfl).symm.trans ht')
  obtain ⟨xs, m, rfl, hx, hlen, hn, hel⟩ := DataW.trod_array Tryz.underlying137 hd
  have c3 : Tryz.prog.cellsOf 97 = 3 := by kernel_rfl
  have c15 : Tryz.prog.cellsOf 137 = 15 := by kernel_rfl
  rw [c15] at hlen
  obtain ⟨l⟩ := cs
  simp only [] at hlen hel
  match xs, hn, hx, hel with
  | [y0, y1, y2, y3, y4], _, hx, hel =>
    simp only [Rows.laid_palanquin_vtwo_families, List.map_cons, List.map_nil, Prod.mk.injEq, DataW.agg.injEq, List.cons.injEq, and_true] at hx
    obtain ⟨⟨h0, h1, h2, h3, h4⟩, _⟩ := hx
    have e0 := hel 0 (by decide)
    have e1 := hel 1 (by decide)
    have e2 := hel 2 (by decide)
    have e3 := hel 3 (by decide)
    have e4 := hel 4 (by decide)
    rw [c3] at e0 e1 e2 e3 e4
    have i0 := fam_ints e0 h0.symm
    have i1 := fam_ints e1 h1.symm
    have i2 := fam_ints e2 h2.symm
    have i3 := fam_ints e3 h3.symm
    have i4 := fam_ints e4 h4.symm
    match l, hlen with
    | [a0, a1, a2, a3, a4, a5, a6, a7, a8, a9, a10, a11, a12, a13, a14], _ =>
      simp at i0 i1 i2 i3 i4
      obtain ⟨rfl, rfl, rfl⟩ := i0
      obtain ⟨rfl, rfl, rfl⟩ := i1
      obtain ⟨rfl, rfl, rfl⟩ := i2
      obtain ⟨rfl, rfl, rfl⟩ := i3
      obtain ⟨rfl, rfl, rfl⟩ := i4
      intro j v hj
      have := World.var?_cell gFam hvar j
      rw [Nat.zero_add, this]
      rw [show famCells = [.int .i64 0, .int .i64 0, .int .i64 0, .int .i64 1, .int .i64 17, .int .i64 4, .int .i64 3, .int .i64 18, .int .i64 4, .int .i64 2, .int .i64 33, .int .i64 16, .int .i64 4, .int .i64 34, .int .i64 16] from rfl] at hj
      rw [← hj, List.getElem?_toArray]
theorem gl_of {W : World} (hL : laidMet Tryz.prog laid8 W) (hsh : W.ShapedOpen Tryz.prog) : Gl W := by
  have hp : Lib.TabIs Tryz.prog W "internal/strconv.uint64pow10" .u64 Lib.pow10Tab :=
    tab_of_reads gPow (t := 190) (by kernel_rfl) Tryz.underlying190 Tryz.underlying80 (by kernel_rfl) (by kernel_rfl) (show Lib.VarReads _ _ _ (Lib.tabData .u64 Lib.pow10Tab) from (by kernel_rfl : Lib.tabData .u64 Lib.pow10Tab = Rows.laid_internal_strconv_uint64pow10) ▸ Lib.laidMet.reads hL (.tail _ (.tail _ (.head _))))
  have ht : Lib.TabIs Tryz.prog W "math/bits.deBruijn64tab" .u8 [0, 1, 56, 2, 57, 49, 28, 3, 61, 58, 42, 50, 38, 29, 17, 4, 62, 47, 59, 36, 45, 43, 51, 22, 53, 39, 33, 30, 24, 18, 12, 5, 63, 55, 48, 27, 60, 41, 37, 16, 46, 35, 44, 21, 52, 32, 23, 11, 54, 26, 40, 15, 34, 20, 31, 10, 25, 14, 19, 9, 13, 8, 7, 6] :=
    tab_of_reads gDb (t := 206) (by kernel_rfl) Tryz.underlying206 Tryz.underlying5 (by kernel_rfl) (by kernel_rfl) (show Lib.VarReads _ _ _ (Lib.tabData .u8 _) from (by kernel_rfl : Lib.tabData .u8 _ = Rows.laid_math_bits_deBruijn64tab) ▸ Lib.laidMet.reads hL (.tail _ (.head _)))
  have h4 : laidMet Tryz.prog [("strconv.ErrRange", Rows.laid_strconv_ErrRange), ("strconv.ErrSyntax", Rows.laid_strconv_ErrSyntax), ("palanquin/vtwo.families", Rows.laid_palanquin_vtwo_families), ("unicode/utf8.first", Rows.laid_unicode_utf8_first)] W := laidMet.tail (laidMet.tail (laidMet.tail (laidMet.tail hL)))
  obtain ⟨a, s, hr, _⟩ := laid_sentinel h4 gEr (ti := 140) (by kernel_rfl) Tryz.underlying140 rowErr Tryz.underlying215 Tryz.underlying217 rfl rfl Tryz.underlying9 (by kernel_rfl) (by kernel_rfl)
  obtain ⟨a2, s2, hs, _⟩ := laid_sentinel (laidMet.tail h4) gEs (ti := 140) (by kernel_rfl) Tryz.underlying140 rowErr Tryz.underlying215 Tryz.underlying217 rfl rfl Tryz.underlying9 (by kernel_rfl) (by kernel_rfl)
  have hi : 16 * 285870213051353865 % 18446744073709551616 / 288230376151711744 = 15 := by decide
  exact ⟨fams_of_reads (Lib.laidMet.reads hL (.tail _ (.tail _ (.tail _ (.tail _ (.tail _ (.tail _ (.head _)))))))), hp,
    by rw [hi]; exact ht.cell gDb 15 (by decide),
    cell_of_shapedOpen_int (P := Tryz.prog) (g := 1) (t := 3) (zero := #[.int .i64 0]) hsh (of_decide_eq_true (by kernel_rfl)) (by kernel_rfl) rfl (by kernel_rfl) (by kernel_rfl) Tryz.underlying3, ⟨_, _, hs⟩, ⟨_, _, hr⟩⟩
end Go.Proofs.YthcphjmknbiadaaGreatDoor
