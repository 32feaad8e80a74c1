/- The builder's methods, and the writer's, over a block of the caller's own. -/
import Derived.Test.YthcphjmknbiadaaGreatDoorWire1
import Derived.Lib.Builder
import Derived.Lib.AppendStr
import Derived.Lib.UnsafeStr
import Derived.Lib.Slices
import Derived.Lib.Strings
import Derived.Laws.Externs
import Derived.RegionTactic
namespace Go.Proofs.YthcphjmknbiadaaGreatDoor
set_option maxRecDepth 100000
open Go.RowKit (wrap32 wrap64 intOf)

/-- A row of bytes. -/
def isBytes : Obj → Prop
  | .cells _ e _ => e = 5
  | _ => False
/-- All stays but the block `b`, and rows of bytes that came behind it. -/
abbrev KpW (b : Nat) (w w' : World) : Prop := KpF (fun i o => i = b ∨ (b < i ∧ isBytes o)) w w'
theorem KpW.trans {b : Nat} {x y z : World} (h : KpW b x y) (k : KpW b y z) : KpW b x z := KpF.trans h k (fun _ _ _ g => g)
theorem KpW.kp {b : Nat} {x y z : World} {l : List Nat} (h : Kp l x y) (k : KpW b y z) (hb : x.heap.size ≤ b) : Kp l x z :=
  KpF.trans h k (fun i o hi g => by rcases g with g | g <;> omega)
theorem KpW.of_kp {b : Nat} {x y z : World} (h : KpW b x y) (k : Kp [] y z) : KpW b x z := KpF.trans h k (fun _ _ _ g => by simp at g)
theorem KpW.of_kp1 {b : Nat} {x y : World} (k : Kp [b] x y) : KpW b x y := KpF.mono k (fun _ _ _ g => by simp at g; exact .inl g)

theorem KpW.old {b i : Nat} {w w' : World} {o : Obj} (k : KpW b w w') (h : w.heap[i]? = some o) (hi : i < b) : w'.heap[i]? = some o := k.keep i o h (fun g => by rcases g with g | g <;> omega)
theorem KpW.other {b i : Nat} {w w' : World} {c : Array Value} {T : TypeId} {f : Nat × Nat} (k : KpW b w w') (h : w.heap[i]? = some (.cells c T f)) (hi : i ≠ b) (hT : T ≠ 5) : w'.heap[i]? = some (.cells c T f) :=
  k.keep i _ h (fun g => by rcases g with g | ⟨_, g⟩; exact hi g; exact hT g)
/-- The writer, or the builder (by its cells' type `T`), in the block `b`: it holds `l`. -/
def IsWr (T b : Nat) (l : List UInt8) (w : World) : Prop :=
  ∃ p v, w.heap[b]? = some (.cells #[p, v] T (0, 0)) ∧ (p = .pointer none ∨ p = .pointer (some ⟨b, 0, none⟩)) ∧
    w.ownsRow (b + 1) 5 1 v l.length (Lib.byteCells l) ∧ (l = [] → v = .slice none 0 0)
theorem IsWr.kp {T b : Nat} {l : List UInt8} {w w' : World} (h : IsWr T b l w) (k : Kp [] w w') : IsWr T b l w' := by
  obtain ⟨p, v, hb, hp, ho, hn⟩ := h
  exact ⟨p, v, k.block hb (by simp), hp, ho.kept (row := none) ⟨k.os, k.tape, k.output, k.size, fun i hi _ => k.below.block i hi⟩ (by cases v.ownBlock <;> simp), hn⟩
theorem IsWr.fresh {T b : Nat} {w : World} (h : w.heap[b]? = some (.cells #[.pointer none, .slice none 0 0] T (0, 0))) : IsWr T b [] w :=
  ⟨_, _, h, .inl rfl, World.ownsRow_nil w _ _ _, fun _ => rfl⟩
theorem IsWr.lt {T b : Nat} {l : List UInt8} {w : World} (h : IsWr T b l w) : b < w.heap.size := by obtain ⟨p, v, hb, _⟩ := h; exact heap_lt hb
/-- May a builder lie so? -/
abbrev Lies (T : Nat) : Prop := liesAt Tryz.prog Tryz.prog.depth T (2 / Tryz.prog.cellsOf T) 0 104 1 = true ∧ T ≠ 5
theorem lies_writer : Lies 106 := ⟨by kernel_rfl, by decide⟩
theorem lies_builder : Lies 104 := ⟨by kernel_rfl, by decide⟩
theorem info_byte : (Tryz.prog.info? 5).map (fun i => (i.zero, i.size, i.bytes)) = some (some (.int .u8 0), 1, 1) := by kernel_rfl
theorem info_bld : (Tryz.prog.info? 104).map (·.size) = some 2 := by kernel_rfl

theorem IsWr.row_keep {b : Nat} {w w' : World} {v : Value} {l : List UInt8} (h : KpF (fun i _ => i = b) w w') (ho : w.ownsRow (b + 1) 5 1 v l.length (Lib.byteCells l)) :
    w'.ownsRow (b + 1) 5 1 v l.length (Lib.byteCells l) := by
  refine ho.kept (row := some b) ⟨h.os, h.tape, h.output, h.size, fun i hi hne => ?_⟩ ?_
  · have := h.keep i _ (Array.getElem?_eq_getElem hi) (fun e => hne (by rw [e]))
    rw [this, Array.getElem?_eq_getElem hi]
  · cases hv : v.ownBlock with
    | none => exact .inl rfl
    | some k => refine .inr fun e => ?_; have := (ho.lt k hv).1; simp at e; omega

/-- `copyCheck`. -/
theorem check_ok (T b : Nat) (l : List UInt8) (w : World) (hT : Lies T) (h : IsWr T b l w) :
    Calls Tryz.prog 121 #[.pointer (some ⟨b, 0, none⟩)] w fun e w' => e = .returned (.tuple #[]) ∧ Kp [b] w w' ∧
      ∃ v, w'.heap[b]? = some (.cells #[.pointer (some ⟨b, 0, none⟩), v] T (0, 0)) ∧ w'.ownsRow (b + 1) 5 1 v l.length (Lib.byteCells l) ∧ (l = [] → v = .slice none 0 0) := by
  obtain ⟨p, v, hb, hp, ho, hn⟩ := h
  obtain ⟨j, hj, hjs⟩ := Option.map_eq_some_iff.1 info_bld
  have hsh : w.shape? b = some (T, 2) := by simp [World.shape?, hb]
  have hq := fun w => Lib.run_neq_ptr_same (P := Tryz.prog) w ⟨b, 0, none⟩ Tryz.underlying102 hj
  rcases hp with rfl | rfl
  · have h0 : w.cell? ⟨b, 0, none⟩ = some (.pointer none) := cell_of hb 0
    have hz : w.frozen? ⟨b, 0, none⟩ = false := free_of hb 0
    go_enter Tryz.func121, Tryz.ntmps121
    go_wp2
    rw [Lib.run_to_unsafe w ⟨b, 0, none⟩ Tryz.underlying102 Tryz.underlying182 hj (by rw [hjs]; decide) hsh (Nat.zero_lt_succ 1)]
    simp only [Result.andThen]
    rw [Oper.upon_value]
    go_wp2
    rw [run_callFunc_extern Tryz.func141 (by kernel_rfl) (by kernel_rfl) (by kernel_rfl) (e := Extern.AbiNoEscape.same) (by kernel_rfl)]
    rw [Lib.run_noEscape]
    simp only [Result.andThen]
    rw [Oper.upon_value]
    go_wp2
    rw [Lib.run_from_unsafe w ⟨b, 0, none⟩ Tryz.underlying182 Tryz.underlying102 hj hsh hT.1]
    simp only [Result.andThen]
    rw [Oper.upon_value]
    go_wp2
    go_end0
    have hk : Kp [b] w (w.setCell ⟨b, 0, none⟩ (.pointer (some ⟨b, 0, none⟩))) := (Kp.refl [b] w).setCell _ _ (by simp)
    exact ⟨rfl, hk, v, heap_set hb 0 _, IsWr.row_keep (KpF.mono hk (fun _ _ _ g => by simpa using g)) ho, hn⟩
  · have h0 : w.cell? ⟨b, 0, none⟩ = some (.pointer (some ⟨b, 0, none⟩)) := cell_of hb 0
    go_enter Tryz.func121, Tryz.ntmps121
    go_wp2
    go_end0
    exact ⟨rfl, Kp.refl _ _, v, hb, ho, hn⟩

/-- Behind an append to the row, and the store of it. -/
theorem IsWr.put {T b : Nat} {l' : List UInt8} {w1 w2 : World} {v v' : Value} {n : Nat} {xs : List Value} (hT : Lies T) (hb : w1.heap[b]? = some (.cells #[.pointer (some ⟨b, 0, none⟩), v] T (0, 0)))
    (ho : w1.ownsRow (b + 1) 5 1 v n xs) (hg : w1.grownBy w2 v.ownBlock) (ho' : w2.ownsRow (b + 1) 5 1 v' l'.length (Lib.byteCells l')) (hn : l' = [] → v' = .slice none 0 0) :
    w2.heap[b]? = some (.cells #[.pointer (some ⟨b, 0, none⟩), v] T (0, 0)) ∧ IsWr T b l' (w2.setCell ⟨b, 1, none⟩ v') ∧ KpW b w1 (w2.setCell ⟨b, 1, none⟩ v') := by
  have hne : v.ownBlock ≠ some b := fun e => by have := (ho.lt b e).1; omega
  have hb2 : w2.heap[b]? = some (.cells #[.pointer (some ⟨b, 0, none⟩), v] T (0, 0)) := by rw [hg.block b (heap_lt hb) (fun e => hne e.symm)]; exact hb
  have hk : Kp [b] w2 (w2.setCell ⟨b, 1, none⟩ v') := (Kp.refl [b] w2).setCell _ _ (by simp)
  refine ⟨hb2, ⟨_, v', heap_set hb2 1 v', .inr rfl, IsWr.row_keep (KpF.mono hk (fun _ _ _ g => by simpa using g)) ho', hn⟩, ?_⟩
  refine KpW.trans ?_ (KpW.of_kp1 hk)
  refine ⟨hg.os, hg.tape, hg.output, hg.size, fun i o hi hn' => ?_⟩
  by_cases hv : some i = v.ownBlock
  · exfalso
    refine hn' (.inr ⟨by have := (ho.lt i hv.symm).1; omega, ?_⟩)
    rcases ho.2 with ⟨rfl, _⟩ | ⟨g, cap, cur, rfl, _, hh, _⟩
    · simp [Value.ownBlock] at hv
    · have : i = g := by simpa [Value.ownBlock] using hv
      subst this
      rw [hh] at hi
      injection hi with hi
      subst hi
      rfl
  · rw [hg.block i (heap_lt hi) hv]; exact hi

theorem byteCells_snoc (l : List UInt8) (c : UInt8) : Lib.byteCells (l ++ [c]) = Lib.byteCells l ++ [.int .u8 c.toNat] := by simp [Lib.byteCells]

/-- `WriteByte`. -/
theorem writeByte_ok (T b : Nat) (l : List UInt8) (c : UInt8) (w : World) (hT : Lies T) (h : IsWr T b l w) (hlen : l.length + 1 ≤ 140737488355328) :
    Calls Tryz.prog 122 #[.pointer (some ⟨b, 0, none⟩), .int .u8 c.toNat] w fun e w' => e = .returned .nilIface ∧ IsWr T b (l ++ [c]) w' ∧ KpW b w w' := by
  obtain ⟨i0, hi, hz0, hz1, hz2⟩ := info_parts info_byte
  go_enter Tryz.func122, Tryz.ntmps122
  go_wp2_with (go_at_call 121; refine (check_ok T b l _ hT h).mono ?_)
  rintro e w1 ⟨rfl, hk1, v, hbk, hown, hn⟩
  have c0 : w1.cell? ⟨b, 0, none⟩ = some (.pointer (some ⟨b, 0, none⟩)) := cell_of hbk 0
  have c1 : w1.cell? ⟨b, 1, none⟩ = some v := cell_of hbk 1
  have hlt := heap_lt hbk
  go_wp2_with (at_builtin; refine wpList_append_own _ rfl _ _ 44 rfl (b + 1) 5 i0 (.int .u8 0) 1 1 Tryz.underlying44 hi hz0 hz1 hz2 rfl (by decide) _ _ _ rfl (hown.alloc _) ⟨w1.heap.size, 0, none⟩ 1 1 [.int .u8 c.toNat] rfl rfl ?c1 ?c2 ?c3 ?c4 ?c5 ?_)
  case c1 =>
    intro j u hj
    match j, hj with
    | 0, hj => simp at hj; subst hj; simp [Addr.add]
  case c2 => intro u hu; simp at hu; subst hu; rfl
  case c3 => unfold maxLen; omega
  case c4 => omega
  case c5 => simp; omega
  intro v' w2 hown' hgrow _
  rw [← byteCells_snoc] at hown'
  obtain ⟨hb2, hw, hk⟩ := IsWr.put (l' := l ++ [c]) hT (heap_alloc_old hbk _) (hown.alloc _) hgrow (by simpa using hown') (by simp)
  have d1 : w2.cell? ⟨b, 1, none⟩ = some v := cell_of hb2 1
  have f1 : w2.frozen? ⟨b, 1, none⟩ = false := free_of hb2 1
  obtain ⟨g, cap, rfl⟩ : ∃ g cap, v' = .slice (some ⟨g, 0, none⟩) (l.length + 1) cap := by
    rcases hown'.2 with ⟨_, h0⟩ | ⟨g, cap, cur, hv, _⟩
    · omega
    · exact ⟨g, cap, hv⟩
  go_wp2
  go_ret
  exact ⟨rfl, hw, KpF.trans ((KpW.of_kp1 hk1).alloc _) hk (fun _ _ _ g => g)⟩

theorem byteCells_str (l : List UInt8) (s : ByteArray) : Lib.byteCells (l ++ s.data.toList) = Lib.byteCells l ++ Lib.strCells s := by
  simp [Lib.byteCells, Lib.strCells]

/-- `WriteString`. -/
theorem writeString_ok (T b : Nat) (l : List UInt8) (s : ByteArray) (w : World) (hT : Lies T) (h : IsWr T b l w) (hlen : l.length + s.size ≤ 140737488355328) :
    Calls Tryz.prog 93 #[.pointer (some ⟨b, 0, none⟩), .string s] w fun e w' => e = .returned (.tuple #[.int .i64 s.size, .nilIface]) ∧ IsWr T b (l ++ s.data.toList) w' ∧ KpW b w w' := by
  obtain ⟨i0, hi, hz0, hz1, hz2⟩ := info_parts info_byte
  go_enter Tryz.func93, Tryz.ntmps93
  go_wp2_with (go_at_call 121; refine (check_ok T b l _ hT h).mono ?_)
  rintro e w1 ⟨rfl, hk1, v, hbk, hown, hn⟩
  have c0 : w1.cell? ⟨b, 0, none⟩ = some (.pointer (some ⟨b, 0, none⟩)) := cell_of hbk 0
  have c1 : w1.cell? ⟨b, 1, none⟩ = some v := cell_of hbk 1
  have hlt := heap_lt hbk
  go_wp2_with (at_builtin; refine Lib.wpList_append_own_string _ rfl _ _ 44 9 rfl (b + 1) 5 i0 Tryz.underlying44 Tryz.underlying9 hi hz0 hz1 hz2 _ _ _ rfl hown s rfl ?c3 ?c4 ?c5 ?_)
  case c3 => unfold maxLen; omega
  case c4 => omega
  case c5 => omega
  intro v' w2 hown' hgrow hiff
  rw [← byteCells_str] at hown'
  obtain ⟨hb2, hw, hk⟩ := IsWr.put (l' := l ++ s.data.toList) hT hbk hown hgrow (by simpa using hown') (by
    intro e
    have e1 : l = [] := (List.append_eq_nil_iff.1 e).1
    have e2 : s = ByteArray.empty := ByteArray.ext (Array.toList_inj.1 ((List.append_eq_nil_iff.1 e).2))
    exact hiff.2 ⟨hn e1, e2⟩)
  have d1 : w2.cell? ⟨b, 1, none⟩ = some v := cell_of hb2 1
  have f1 : w2.frozen? ⟨b, 1, none⟩ = false := free_of hb2 1
  obtain ⟨ao, n', cap, rfl⟩ : ∃ ao n' cap, v' = .slice ao n' cap := by
    rcases hown'.2 with ⟨hv, _⟩ | ⟨g, cap, cur, hv, _⟩
    · exact ⟨_, _, _, hv⟩
    · exact ⟨_, _, _, hv⟩
  go_wp2
  go_ret2
  exact ⟨rfl, hw, KpF.trans (KpW.of_kp1 hk1) hk (fun _ _ _ g => g)⟩

/-- `String`. -/
theorem string_ok (T b : Nat) (l : List UInt8) (w : World) (h : IsWr T b l w) :
    Calls Tryz.prog 95 #[.pointer (some ⟨b, 0, none⟩)] w fun e w' => e = .returned (.string ⟨l.toArray⟩) ∧ KpW b w w' := by
  obtain ⟨p, v, hb, hp, ho, hn⟩ := h
  by_cases hl : l = []
  · subst hl
    have hv := hn rfl
    subst hv
    have hUS := fun (w : World) => Lib.run_unsafeString_none (P := Tryz.prog) w 166 3 9 none
    have c1 : w.cell? ⟨b, 1, none⟩ = some (.slice none 0 0) := cell_of hb 1
    have hSD : ∀ w, (Builtin.unsafeSliceData_ #[44] 166 #[.slice none 0 0]).run Tryz.prog w = .ok (.pointer none) w := fun _ => rfl
    go_enter Tryz.func95, Tryz.ntmps95
    go_wp2
    go_region
    all_goals (go_wp2; go_ret; exact ⟨rfl, (KpF.refl _ w).drew⟩)
  · have hl0 : l.length ≠ 0 := by simpa using hl
    obtain ⟨g, cap, cur, rfl, hbg, hg, hnc, hcm, hcs, htake⟩ : ∃ g cap cur, v = .slice (some ⟨g, 0, none⟩) l.length cap ∧ b + 1 ≤ g ∧ w.heap[g]? = some (.cells cur 5 (0, 0)) ∧ l.length ≤ cap ∧ cap ≤ maxLen ∧ cur.size = cap * 1 ∧ cur.toList.take (l.length * 1) = Lib.byteCells l := by
      rcases ho.2 with ⟨_, hz⟩ | ⟨g, cap, cur, hv, r⟩
      · exact absurd hz hl0
      · exact ⟨g, cap, cur, hv, r⟩
    have c1 : w.drew.cell? ⟨b, 1, none⟩ = some (.slice (some ⟨g, 0, none⟩) l.length cap) := cell_of hb 1
    have hSD : (Builtin.unsafeSliceData_ #[44] 166 #[.slice (some ⟨g, 0, none⟩) l.length cap]).run Tryz.prog w.drew = .ok (.pointer (some ⟨g, 0, none⟩)) w.drew :=
      Lib.run_unsafeSliceData_row _ _ _ _ _ _ (by omega)
    have hUS : (Builtin.unsafeString_ #[166, 3] 9 #[.pointer (some ⟨g, 0, none⟩), .int .i64 l.length]).run Tryz.prog w.drew = .ok (.string ⟨l.toArray⟩) (w.drew.freeze ⟨g, 0, none⟩ l.length) := by
      refine Lib.run_unsafeString_row w.drew 166 3 9 5 Tryz.underlying166 (by kernel_rfl) g cur.size (by have hg' : w.drew.heap[g]? = some (.cells cur 5 (0, 0)) := hg; simp [World.shape?, hg']) l hl (by omega) (by unfold maxLen at hcm; omega) ?_
      intro j x hx
      exact ho.cells (g := g) rfl j (.int .u8 x.toNat) (by simp [Lib.byteCells, hx])
    have hfr : KpW b w (w.drew.freeze ⟨g, 0, none⟩ l.length) := by
      refine ⟨?_, ?_, ?_, ?_, fun i o hi hn' => ?_⟩
      all_goals simp only [World.freeze, if_neg hl0]
      · rfl
      · rfl
      · rfl
      · simp
      · have hne : g ≠ i := fun e => hn' (.inr ⟨by omega, by subst e; rw [hg] at hi; injection hi with hi; subst hi; rfl⟩)
        rw [Array.getElem?_modify, if_neg hne]; exact hi
    have HF := Lib.hid hfr
    clear hfr htake hn ho hg
    go_enter Tryz.func95, Tryz.ntmps95
    go_wp2
    go_region
    all_goals (go_wp2; go_ret; exact ⟨rfl, HF.out⟩)
end Go.Proofs.YthcphjmknbiadaaGreatDoor
