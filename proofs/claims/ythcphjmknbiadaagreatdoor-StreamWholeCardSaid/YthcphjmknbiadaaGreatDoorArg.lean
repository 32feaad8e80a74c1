/- A stream's header among the arguments, opened. -/
import Derived.Test.YthcphjmknbiadaaGreatDoorStrm
import Derived.Lib.SmallJoins
import Derived.Deep.Slices
import Derived.Deep.Fields
import Derived.ChangeSame
import Derived.SizedLaws
import Derived.ProofKit
namespace Go.Proofs.YthcphjmknbiadaaGreatDoor
set_option maxRecDepth 100000
set_option linter.unusedVariables false
open Go.Joins Go.ChangeShapes Go.WideShapes Go.RowKit Go.Deep
section
variable {H : Type} {enc : TypeId × Value → H} {P : Program} {w : World} {base : Nat} {spare : Nat → Bool} {held : Bool}
theorem open_slice_fields {t e : TypeId} {fs : Array Field} {fuel : Nat} {cs : List Value} {x : DataW H × List MemPlace} (ht : P.underlying t = some (.slice e)) (he : P.underlying e = some (.struct fs))
    (hone : oneCellFields P fs = true) (hC : P.cellsOf e = fs.size) (h : DataW.trod enc P w base spare held fuel t cs = some x) :
    (cs = [.slice none 0 0] ∧ x = (.nil, [])) ∨
    ∃ (a : Addr) (len cap m : Nat) (D : Nat → DataW H) (Pl : Nat → List MemPlace), cs = [.slice (some a) len cap] ∧ base ≤ a.block ∧ len ≤ cap ∧ cap ≤ maxLen ∧ m = (if spare a.block then cap else len) ∧
      x = (.slice ((List.range len).map D) ((List.range (m - len)).map fun j => D (len + j)), MemPlace.row a (m * fs.size) ++ (List.range m).flatMap Pl) ∧
      ∀ i, i < m → ∃ (ys : List (DataW H × List MemPlace)) (n : Nat), D i = .agg (ys.map (·.1)) ∧ Pl i = ys.flatMap (·.2) ∧ ys.length = fs.size ∧
        ∀ (j : Nat) (f : Field), fs[j]? = some f → ∃ (v : Value) (y : DataW H × List MemPlace), w.cell? (a.add (i * fs.size + j)) = some v ∧ ys[j]? = some y ∧ DataW.trod enc P w base spare held n f.type [v] = some y := by
  rcases open_slice ht h with h0 | ⟨a, len, cap, m, n, D, Pl, hcs, hb, hl, hm, hmm, hx, hi⟩
  · exact .inl h0
  · refine .inr ⟨a, len, cap, m, D, Pl, hcs, hb, hl, hm, hmm, by rw [hC] at hx; exact hx, fun i him => ?_⟩
    obtain ⟨cs', hc, ht'⟩ := hi i him
    rw [hC] at hc
    obtain ⟨ys, n', hn', hy, hlen, hyl, hf⟩ := DataW.trod_struct he ht'
    obtain ⟨_, hcl, hat⟩ := World.cells?_some hc
    simp only [Prod.mk.injEq] at hy
    refine ⟨ys, n', hy.1, hy.2, hyl, fun j f hj => ?_⟩
    obtain ⟨ho, hk⟩ := hone_of hone j f hj
    have hjl : j < fs.size := (Array.getElem?_eq_some_iff.1 hj).1
    have hcell := hat j hjl
    have hv : cs'[j]? = some (cs'[j]'(by omega)) := List.getElem?_eq_getElem (by omega)
    have h1 := hf j f hj
    rw [ho, hk] at h1
    have hone' : (cs'.drop j).take 1 = [cs'[j]'(by omega)] := by
      rw [List.drop_eq_getElem_cons (by omega)]
      rfl
    rw [hone'] at h1
    have hys : ys[j]? = some (ys[j]'(by omega)) := List.getElem?_eq_getElem (by omega)
    refine ⟨_, _, ?_, hys, h1.trans hys⟩
    rw [← Go.Deep.add_add, hcell, hv]
theorem open_agg7 {r : Reach} {b0 : Nat} {t : TypeId} {f0 f1 f2 f3 f4 f5 f6 : Field} {v : Value} {d : DataW H} {p : List MemPlace} (hs : P.underlying t = some (.struct #[f0, f1, f2, f3, f4, f5, f6])) (hone : oneCellFields P #[f0, f1, f2, f3, f4, f5, f6] = true) (hC : P.cellsOf t = 7)
    (hv : Value.okWide P w r b0 t v) (h : DataW.Trod enc P w base spare held t v d p) :
    ∃ (v0 v1 v2 v3 v4 v5 v6 : Value) (y0 y1 y2 y3 y4 y5 y6 : DataW H × List MemPlace) (n : Nat), v = .agg #[v0, v1, v2, v3, v4, v5, v6] ∧ d = .agg [y0.1, y1.1, y2.1, y3.1, y4.1, y5.1, y6.1] ∧ p = y0.2 ++ (y1.2 ++ (y2.2 ++ (y3.2 ++ (y4.2 ++ (y5.2 ++ (y6.2)))))) ∧
      DataW.trod enc P w base spare held n f0.type [v0] = some y0 ∧ DataW.trod enc P w base spare held n f1.type [v1] = some y1 ∧ DataW.trod enc P w base spare held n f2.type [v2] = some y2 ∧ DataW.trod enc P w base spare held n f3.type [v3] = some y3 ∧ DataW.trod enc P w base spare held n f4.type [v4] = some y4 ∧ DataW.trod enc P w base spare held n f5.type [v5] = some y5 ∧ DataW.trod enc P w base spare held n f6.type [v6] = some y6 := by
  obtain ⟨cs, rfl, hsz⟩ := okWide_struct hs hv
  obtain ⟨l⟩ := cs
  match l, hsz.trans hC with
  | [c0, c1, c2, c3, c4, c5, c6], _ =>
    obtain ⟨fuel, hf⟩ := h
    obtain ⟨xs, n, _, hx, _, hlen, hg⟩ := DataW.trod_struct hs hf
    obtain ⟨o0, k0⟩ := hone_of hone 0 f0 rfl
    obtain ⟨o1, k1⟩ := hone_of hone 1 f1 rfl
    obtain ⟨o2, k2⟩ := hone_of hone 2 f2 rfl
    obtain ⟨o3, k3⟩ := hone_of hone 3 f3 rfl
    obtain ⟨o4, k4⟩ := hone_of hone 4 f4 rfl
    obtain ⟨o5, k5⟩ := hone_of hone 5 f5 rfl
    obtain ⟨o6, k6⟩ := hone_of hone 6 f6 rfl
    match xs, hlen with
    | [y0, y1, y2, y3, y4, y5, y6], _ =>
      simp only [Prod.mk.injEq] at hx
      exact ⟨c0, c1, c2, c3, c4, c5, c6, y0, y1, y2, y3, y4, y5, y6, n, rfl, by simpa using hx.1, by simpa using hx.2, by simpa [Value.cells, o0, k0] using hg 0 f0 rfl, by simpa [Value.cells, o1, k1] using hg 1 f1 rfl, by simpa [Value.cells, o2, k2] using hg 2 f2 rfl, by simpa [Value.cells, o3, k3] using hg 3 f3 rfl, by simpa [Value.cells, o4, k4] using hg 4 f4 rfl, by simpa [Value.cells, o5, k5] using hg 5 f5 rfl, by simpa [Value.cells, o6, k6] using hg 6 f6 rfl⟩
end
theorem reach_le : reachBytes ≤ 140737488351232 := by decide
/-- A stream's header that came in: its data, and how large they may be. -/
theorem open_stream {H : Type} {enc : TypeId × Value → H} {W : World} {base b0 : Nat} {sp : Nat → Bool} {held : Bool} {v : Value} {d : DataW H} {p : List MemPlace}
    (hv : Value.okWide Tryz.prog W .any b0 24 v) (h : DataW.Trod enc Tryz.prog W base sp held 24 v d p) (hw : ∀ n ∈ d.weights Tryz.prog 24, n ≤ reachBytes) :
    ∃ (x : Strm) (A : Option Addr) (c : Nat), v = sval x A c ∧ FAt W A x.flds ∧ x.src.size ≤ 140737488351232 ∧ x.dst.size ≤ 140737488351232 ∧ x.flds.length ≤ 140737488351232 ∧ ∀ f ∈ x.flds, f.2.size ≤ 140737488351232 := by
  obtain ⟨v0, v1, v2, v3, v4, v5, v6, y0, y1, y2, y3, y4, y5, y6, n, rfl, rfl, rfl, h0, h1, h2, h3, h4, h5, h6⟩ := open_agg7 Tryz.underlying24 (by kernel_rfl) (by kernel_rfl) hv h
  obtain ⟨b, e0, e0'⟩ := DataW.trod_bool Tryz.underlying4 h0
  obtain ⟨fam, e1, e1', _⟩ := DataW.trod_int Tryz.underlying3 h1
  obtain ⟨src, e2, e2', _⟩ := DataW.trod_string Tryz.underlying9 h2
  obtain ⟨dst, e3, e3', _⟩ := DataW.trod_string Tryz.underlying9 h3
  obtain ⟨spt, e4, e4', _⟩ := DataW.trod_int Tryz.underlying3 h4
  obtain ⟨dpt, e5, e5', _⟩ := DataW.trod_int Tryz.underlying3 h5
  injection e0 with e0; injection e1 with e1; injection e2 with e2; injection e3 with e3; injection e4 with e4; injection e5 with e5
  subst e0 e1 e2 e3 e4 e5 e0' e1' e2' e3' e4' e5'
  have hs : src.size ≤ 140737488351232 := by
    have := hw src.data.toList.length (by simp [DataW.weights, DataW.weightsEach, Tryz.underlying24])
    rw [Array.length_toList] at this
    exact Nat.le_trans this reach_le
  have hd : dst.size ≤ 140737488351232 := by
    have := hw dst.data.toList.length (by simp [DataW.weights, DataW.weightsEach, Tryz.underlying24])
    rw [Array.length_toList] at this
    exact Nat.le_trans this reach_le
  have h6w : ∀ n ∈ y6.1.weights Tryz.prog 22, n ≤ reachBytes := fun n hn => hw n (by simp [DataW.weights, DataW.weightsEach, Tryz.underlying24]; exact .inr (.inr hn))
  rcases open_slice_fields Tryz.underlying22 Tryz.underlying53 (by kernel_rfl) (by kernel_rfl) h6 with ⟨e6, e6'⟩ | ⟨a, len, cap, m, D, Pl, e6, _, hlc, hcm, hm, hx, hel⟩
  · injection e6 with e6
    subst e6
    exact ⟨⟨b, fam, src, dst, spt, dpt, []⟩, none, 0, rfl, (fun j f hj => by cases hj), hs, hd, by simp, by simp⟩
  · injection e6 with e6
    subst e6
    subst hx
    have hml : len ≤ m := by rw [hm]; split <;> omega
    -- each element's two cells
    have hf : ∀ i, i < len → ∃ f : Int × ByteArray, W.cell? (a.add (i * 2)) = some (.int .i64 f.1) ∧ W.cell? (a.add (i * 2 + 1)) = some (.string f.2) ∧ f.2.data.toList.length ∈ (D i).weights Tryz.prog 53 := by
      intro i hi
      obtain ⟨ys, k, hD, _, hyl, hc⟩ := hel i (by omega)
      obtain ⟨w0, z0, c0, g0, t0⟩ := hc 0 _ rfl
      obtain ⟨w1, z1, c1, g1, t1⟩ := hc 1 _ rfl
      obtain ⟨ty, q0, q0', _⟩ := DataW.trod_int Tryz.underlying3 t0
      obtain ⟨tx, q1, q1', _⟩ := DataW.trod_string Tryz.underlying9 t1
      injection q0 with q0; injection q1 with q1
      subst q0 q1 q0' q1'
      refine ⟨(ty, tx), c0, c1, ?_⟩
      match ys, hyl, g0, g1 with
      | [u0, u1], _, g0, g1 =>
        simp at g0 g1
        subst g0 g1
        rw [hD]
        simp [DataW.weights, DataW.weightsEach, Tryz.underlying53]
    obtain ⟨fl, hfl⟩ : ∃ fl : Nat → Int × ByteArray, ∀ i, i < len → W.cell? (a.add (i * 2)) = some (.int .i64 (fl i).1) ∧ W.cell? (a.add (i * 2 + 1)) = some (.string (fl i).2) ∧ (fl i).2.data.toList.length ∈ (D i).weights Tryz.prog 53 :=
      ⟨fun i => if h : i < len then (hf i h).choose else (0, ⟨#[]⟩), fun i hi => by simp only [dif_pos hi]; exact (hf i hi).choose_spec⟩
    have hwl : len * 24 ≤ reachBytes := by
      have := h6w _ (by simp only [DataW.weights, Tryz.underlying22]; exact List.mem_cons_self)
      have hb : Tryz.prog.bytesOf 53 = 24 := by kernel_rfl
      rw [hb, List.length_map, List.length_range, List.length_map, List.length_range] at this
      have : len * 24 ≤ (len + (m - len)) * 24 := Nat.mul_le_mul_right _ (by omega)
      omega
    have hel2 : ∀ i, i < len → (fl i).2.size ≤ 140737488351232 := by
      intro i hi
      have h1 := (hfl i hi).2.2
      have h2 : (fl i).2.data.toList.length ∈ DataW.weightsAll Tryz.prog 53 ((List.range len).map D) := by
        have hmem : D i ∈ (List.range len).map D := List.mem_map.2 ⟨i, List.mem_range.2 hi, rfl⟩
        revert hmem
        generalize (List.range len).map D = L
        intro hmem
        induction L with
        | nil => cases hmem
        | cons e r ih =>
          simp only [DataW.weightsAll, List.mem_append]
          rcases List.mem_cons.1 hmem with rfl | h
          · exact .inl h1
          · exact .inr (ih h)
      have := h6w _ (by simp only [DataW.weights, Tryz.underlying22]; exact List.mem_cons_of_mem _ (List.mem_append_left _ h2))
      rw [Array.length_toList] at this
      exact Nat.le_trans this reach_le
    refine ⟨⟨b, fam, src, dst, spt, dpt, (List.range len).map fl⟩, some a, cap, by simp [sval, scells], ?_, hs, hd, ?_, ?_⟩
    · intro j f hj
      have hjl : j < len := by
        have := (List.getElem?_eq_some_iff.1 hj).1
        simpa using this
      rw [List.getElem?_map, List.getElem?_range hjl] at hj
      simp at hj
      subst hj
      obtain ⟨k0, k1, _⟩ := hfl j hjl
      obtain ⟨z0, _, _⟩ := hfl 0 (by omega)
      have hsp : a.spot = none := by
        have : W.cell? a = some (.int .i64 (fl 0).1) := by simpa [Addr.add] using z0
        unfold World.cell? at this
        split at this
        · cases hq : a.spot with
          | none => rfl
          | some q => rw [hq] at this; simp at this
        · cases this
      obtain ⟨ab, ao, asp⟩ := a
      simp only [] at hsp
      subst hsp
      refine ⟨ab, ao, rfl, ?_, ?_⟩
      · rw [Addr.add_mid] at k0; exact k0
      · rw [Addr.add_mid] at k1; exact k1
    · have := reach_le; simp; omega
    · intro f hf
      rw [List.mem_map] at hf
      obtain ⟨i, hi, rfl⟩ := hf
      exact hel2 i (List.mem_range.1 hi)
end Go.Proofs.YthcphjmknbiadaaGreatDoor
