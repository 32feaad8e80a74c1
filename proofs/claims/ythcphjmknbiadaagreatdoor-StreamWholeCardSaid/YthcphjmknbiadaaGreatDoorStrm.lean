/- A stream's header as data; its bytes behind the sixteenth: `rest`. -/
import Derived.Test.YthcphjmknbiadaaGreatDoorVtwo0
import Derived.Test.YthcphjmknbiadaaGreatDoorWr
namespace Go.Proofs.YthcphjmknbiadaaGreatDoor
set_option maxRecDepth 100000
set_option linter.unusedVariables false
open Go.RowKit (wrap32 wrap64 intOf)

structure Strm where
  loc : Bool
  fam : Int
  src : ByteArray
  dst : ByteArray
  sp : Int
  dp : Int
  flds : List (Int × ByteArray)
/-- The cells of fields. -/
def FAt (w : World) (A : Option Addr) (l : List (Int × ByteArray)) : Prop :=
  ∀ (j : Nat) (f : Int × ByteArray), l[j]? = some f → ∃ g o, A = some ⟨g, o, none⟩ ∧ w.cell? ⟨g, o + j * 2, none⟩ = some (.int .i64 f.1) ∧ w.cell? ⟨g, o + j * 2 + 1, none⟩ = some (.string f.2)
abbrev scells (x : Strm) (A : Option Addr) (c : Nat) : Array Value := #[.bool x.loc, .int .i64 x.fam, .string x.src, .string x.dst, .int .i64 x.sp, .int .i64 x.dp, .slice A x.flds.length c]
abbrev sval (x : Strm) (A : Option Addr) (c : Nat) : Value := .agg (scells x A c)
theorem FAt.kp {F : Nat → Obj → Prop} {w w' : World} {A : Option Addr} {l : List (Int × ByteArray)} (h : FAt w A l) (k : KpF F w w') (hn : ∀ g o, A = some ⟨g, o, none⟩ → ∀ x, ¬ F g x) : FAt w' A l := fun j f hj => by
  obtain ⟨g, o, ha, h0, h1⟩ := h j f hj
  exact ⟨g, o, ha, k.cell h0 (hn g o ha), k.cell h1 (hn g o ha)⟩
theorem FAt.lt {w : World} {A : Option Addr} {l : List (Int × ByteArray)} (h : FAt w A l) (hl : l ≠ []) {g o : Nat} (ha : A = some ⟨g, o, none⟩) : g < w.heap.size := by
  cases l with
  | nil => exact absurd rfl hl
  | cons f r =>
    obtain ⟨g', o', ha', h0, _⟩ := h 0 f rfl
    rw [ha] at ha'
    injection ha' with ha'
    injection ha' with hg
    subst hg
    exact World.block_lt_of_cell? _ _ h0
/-- What lies below is as it was: so are the fields. -/
theorem FAt.below {F : Nat → Obj → Prop} {w w' : World} {A : Option Addr} {l : List (Int × ByteArray)} (h : FAt w A l) (k : KpF F w w') (hn : ∀ g x, g < w.heap.size → ¬ F g x) : FAt w' A l := fun j f hj => by
  obtain ⟨g, o, ha, h0, h1⟩ := h j f hj
  have hg := World.block_lt_of_cell? _ _ h0
  exact ⟨g, o, ha, k.cell h0 (fun x => hn g x hg), k.cell h1 (fun x => hn g x hg)⟩

def fldBytes (l : List (Int × ByteArray)) : List UInt8 := l.flatMap fun f => be f.1.toNat 1 ++ be f.2.size 2 ++ f.2.data.toList
def fldBytesTo (l : List (Int × ByteArray)) (j : Nat) : List UInt8 := fldBytes (l.take j)
theorem fldBytesTo_succ (l : List (Int × ByteArray)) (j : Nat) (f : Int × ByteArray) (h : l[j]? = some f) :
    fldBytesTo l (j + 1) = fldBytesTo l j ++ be f.1.toNat 1 ++ be f.2.size 2 ++ f.2.data.toList := by
  obtain ⟨hj, rfl⟩ := List.getElem?_eq_some_iff.1 h
  unfold fldBytesTo fldBytes
  rw [List.take_succ_eq_append_getElem hj, List.flatMap_append]
  simp
theorem fldBytesTo_all (l : List (Int × ByteArray)) : fldBytesTo l l.length = fldBytes l := by unfold fldBytesTo; rw [List.take_length]
def restHead (x : Strm) (f : Fam) : List UInt8 := if f.size > 0 then x.src.data.toList ++ x.dst.data.toList ++ be x.sp.toNat 2 ++ be x.dp.toNat 2 else []
/-- What follows the sixteenth byte, but for a seal. -/
def restL (x : Strm) (f : Fam) : List UInt8 := restHead x f ++ fldBytes x.flds

theorem rest_ok (x : Strm) (A : Option Addr) (c : Nat) (f : Fam) (w : World) (hf : FAt w A x.flds) (hn : x.flds.length ≤ 1000) (hs : x.src.size ≤ 70000) (hd : x.dst.size ≤ 70000)
    (h1 : 0 ≤ x.sp ∧ x.sp ≤ 65535) (h2 : 0 ≤ x.dp ∧ x.dp ≤ 65535) (hfl : ∀ f ∈ x.flds, 0 ≤ f.1 ∧ f.1 ≤ 255 ∧ f.2.size ≤ 65535) :
    Calls Tryz.prog 58 #[sval x A c, fv f] w fun e w' => e = .returned (.string ⟨(restL x f).toArray⟩) ∧ Kp [] w w' := by
  obtain ⟨s1, s2⟩ := h1
  obtain ⟨d1, d2⟩ := h2
  have HF := Lib.hid hfl
  clear hfl
  go_enter Tryz.func58, Tryz.ntmps58
  have hk0 : ∀ a b c, Kp [] w (((w.alloc a).alloc b).alloc c) := fun a b c => (((Kp.refl [] w).alloc a).alloc b).alloc c
  have HK0 := Lib.hid hk0
  clear hk0
  by_cases hz : 0 < f.size
  · have hrh : restHead x f = x.src.data.toList ++ x.dst.data.toList ++ be x.sp.toNat 2 ++ be x.dp.toNat 2 := if_pos hz
    have HR := Lib.hid hrh
    clear hrh
    go_wp2_with fail
    refine (text_ok _ [] _ _ (IsWr.fresh (alloc3_2 w _ _ _)) (by simp; omega)).mono ?_
    rintro e w1 ⟨rfl, h1, k1⟩
    have hsb1 := k1.old (alloc3_0 w _ _ _) (by omega)
    obtain ⟨_, _, _, _, c4, c5, c6, _⟩ := cells7 hsb1
    go_wp2_with fail
    refine (wu16_ok _ _ x.sp _ h1 s1 (by omega) (by simp; omega)).mono ?_
    rintro e w2 ⟨rfl, h2, k2⟩
    have hsb2 := k2.old hsb1 (by omega)
    clear c4 c5 c6
    obtain ⟨_, _, _, _, c4, c5, c6, _⟩ := cells7 hsb2
    go_wp2_with fail
    refine (wu16_ok _ _ x.dp _ h2 d1 (by omega) (by simp [be_length]; omega)).mono ?_
    rintro e w3 ⟨rfl, h3, k3⟩
    have hsb3 := k3.old hsb2 (by omega)
    clear c4 c5 c6
    obtain ⟨_, _, _, _, c4, c5, c6, _⟩ := cells7 hsb3
    have hk : Kp [] w w3 := KpW.kp (HK0.out _ _ _) ((k1.trans k2).trans k3) (by omega)
    have hl : (([] : List UInt8) ++ (x.src ++ x.dst).data.toList ++ be x.sp.toNat 2 ++ be x.dp.toNat 2) = restHead x f := by rw [HR.out]; simp
    rw [hl] at h3
    have hlen : (restHead x f).length ≤ 140004 := by rw [HR.out]; simp [be_length]; omega
    clear k1 k2 k3 h1 h2 hsb1 hsb2 hl
    go_wp2_with fail
    go_loopw [7, 26] (fun _ i wr => ∃ (j : Nat) (l : List UInt8), j ≤ x.flds.length ∧ i = .int .i64 j ∧ IsWr 106 (w.heap.size + 1 + 1) l wr ∧ l = restHead x f ++ fldBytesTo x.flds j ∧ l.length ≤ 140004 + j * 65538 ∧ Kp [] w wr) (fun _ i _ => x.flds.length - (intOf i).toNat)
    case atStart => exact ⟨0, _, Nat.zero_le _, rfl, h3, by simp [fldBytesTo, fldBytes], by omega, hk⟩
    case round =>
      obtain ⟨j, l, hj, rfl, hw, hl, hll, hkr⟩ := hrel
      have HL := Lib.hid hl
      clear hl hk h3 hsb3 c4 c5 c6 HR
      by_cases hlt : j < x.flds.length
      · obtain ⟨fl, hfl⟩ : ∃ fl, x.flds[j]? = some fl := ⟨_, List.getElem?_eq_getElem hlt⟩
        obtain ⟨b0, b1, b2⟩ := HF.out fl (List.mem_of_getElem? hfl)
        have hsucc := fldBytesTo_succ x.flds j fl hfl
        have HS := Lib.hid hsucc
        obtain ⟨g, o, rfl, e0, e1⟩ := (hf.below hkr (by simp)) j fl hfl
        clear hsucc hfl
        have hnb := hw.lt
        go_wp2_with fail
        refine (wu8_ok _ l fl.1 _ (hw.kp ((Kp.refl [] wr).alloc _)) b0 (by omega) (by omega)).mono ?_
        rintro e v1 ⟨rfl, g1, k1⟩
        have hx1 := k1.other (heap_alloc_new wr _) (by omega) (by decide)
        obtain ⟨_, p1, _⟩ := cells2 hx1
        go_wp2_with fail
        refine (wu16_ok _ _ (fl.2.size : Int) _ g1 (by omega) (by omega) (by simp [be_length]; omega)).mono ?_
        rintro e v2 ⟨rfl, g2, k2⟩
        have hx2 := k2.other hx1 (by omega) (by decide)
        clear p1
        obtain ⟨_, p1, _⟩ := cells2 hx2
        go_wp2_with fail
        refine (text_ok _ _ fl.2 _ g2 (by simp [be_length]; omega)).mono ?_
        rintro e v3 ⟨rfl, g3, k3⟩
        have hk3 : Kp [] w v3 := KpW.kp (hkr.alloc _) ((k1.trans k2).trans k3) (by omega)
        have hln : (l ++ be fl.1.toNat 1 ++ be (fl.2.size : Int).toNat 2 ++ fl.2.data.toList).length ≤ 140004 + (j + 1) * 65538 := by simp [be_length]; omega
        have hle : l ++ be fl.1.toNat 1 ++ be (fl.2.size : Int).toNat 2 ++ fl.2.data.toList = restHead x f ++ fldBytesTo x.flds (j + 1) := by rw [HS.out, HL.out]; simp
        rw [hle] at g3 hln
        clear hx1 hx2 p1 k1 k2 k3 g1 g2 hle
        go_wp2_with fail
        go_roundw
        case rel => exact ⟨j + 1, _, by omega, by go_num, g3, rfl, hln, hk3⟩
        case measure => simp [intOf]; omega
      · obtain rfl : j = x.flds.length := by omega
        have hfin : l = restL x f := by rw [HL.out, fldBytesTo_all]; rfl
        have HFI := Lib.hid hfin
        clear hfin
        go_wp2_with fail
        refine (wstring_ok _ l _ hw).mono ?_
        rintro e v1 ⟨rfl, k1⟩
        go_wp2_with fail
        go_ret
        exact ⟨by rw [← HFI.out]; rfl, KpW.kp hkr k1 (by omega)⟩
  · have hrh : restHead x f = [] := if_neg hz
    have h3 : IsWr 106 (w.heap.size + 1 + 1) [] _ := IsWr.fresh (alloc3_2 w (.cells (scells x A c) 24) (.cells #[.int .i64 f.n, .int .i64 f.code, .int .i64 f.size] 97) (.cells #[.pointer none, .slice none 0 0] 106))
    have hsb3 := alloc3_0 w (.cells (scells x A c) 24) (.cells #[.int .i64 f.n, .int .i64 f.code, .int .i64 f.size] 97) (.cells #[.pointer none, .slice none 0 0] 106)
    have hk := HK0.out (.cells (scells x A c) 24) (.cells #[.int .i64 f.n, .int .i64 f.code, .int .i64 f.size] 97) (.cells #[.pointer none, .slice none 0 0] 106)
    rw [← hrh] at h3
    have hlen : (restHead x f).length ≤ 140004 := by rw [hrh]; simp
    have HR := Lib.hid hrh
    clear hrh
    obtain ⟨_, _, _, _, c4, c5, c6, _⟩ := cells7 hsb3
    go_wp2_with fail
    go_loopw [7, 26] (fun _ i wr => ∃ (j : Nat) (l : List UInt8), j ≤ x.flds.length ∧ i = .int .i64 j ∧ IsWr 106 (w.heap.size + 1 + 1) l wr ∧ l = restHead x f ++ fldBytesTo x.flds j ∧ l.length ≤ 140004 + j * 65538 ∧ Kp [] w wr) (fun _ i _ => x.flds.length - (intOf i).toNat)
    case atStart => exact ⟨0, _, Nat.zero_le _, rfl, h3, by simp [fldBytesTo, fldBytes], by omega, hk⟩
    case round =>
      obtain ⟨j, l, hj, rfl, hw, hl, hll, hkr⟩ := hrel
      have HL := Lib.hid hl
      clear hl hk h3 hsb3 c4 c5 c6 HR
      by_cases hlt : j < x.flds.length
      · obtain ⟨fl, hfl⟩ : ∃ fl, x.flds[j]? = some fl := ⟨_, List.getElem?_eq_getElem hlt⟩
        obtain ⟨b0, b1, b2⟩ := HF.out fl (List.mem_of_getElem? hfl)
        have hsucc := fldBytesTo_succ x.flds j fl hfl
        have HS := Lib.hid hsucc
        obtain ⟨g, o, rfl, e0, e1⟩ := (hf.below hkr (by simp)) j fl hfl
        clear hsucc hfl
        have hnb := hw.lt
        go_wp2_with fail
        refine (wu8_ok _ l fl.1 _ (hw.kp ((Kp.refl [] wr).alloc _)) b0 (by omega) (by omega)).mono ?_
        rintro e v1 ⟨rfl, g1, k1⟩
        have hx1 := k1.other (heap_alloc_new wr _) (by omega) (by decide)
        obtain ⟨_, p1, _⟩ := cells2 hx1
        go_wp2_with fail
        refine (wu16_ok _ _ (fl.2.size : Int) _ g1 (by omega) (by omega) (by simp [be_length]; omega)).mono ?_
        rintro e v2 ⟨rfl, g2, k2⟩
        have hx2 := k2.other hx1 (by omega) (by decide)
        clear p1
        obtain ⟨_, p1, _⟩ := cells2 hx2
        go_wp2_with fail
        refine (text_ok _ _ fl.2 _ g2 (by simp [be_length]; omega)).mono ?_
        rintro e v3 ⟨rfl, g3, k3⟩
        have hk3 : Kp [] w v3 := KpW.kp (hkr.alloc _) ((k1.trans k2).trans k3) (by omega)
        have hln : (l ++ be fl.1.toNat 1 ++ be (fl.2.size : Int).toNat 2 ++ fl.2.data.toList).length ≤ 140004 + (j + 1) * 65538 := by simp [be_length]; omega
        have hle : l ++ be fl.1.toNat 1 ++ be (fl.2.size : Int).toNat 2 ++ fl.2.data.toList = restHead x f ++ fldBytesTo x.flds (j + 1) := by rw [HS.out, HL.out]; simp
        rw [hle] at g3 hln
        clear hx1 hx2 p1 k1 k2 k3 g1 g2 hle
        go_wp2_with fail
        go_roundw
        case rel => exact ⟨j + 1, _, by omega, by go_num, g3, rfl, hln, hk3⟩
        case measure => simp [intOf]; omega
      · obtain rfl : j = x.flds.length := by omega
        have hfin : l = restL x f := by rw [HL.out, fldBytesTo_all]; rfl
        have HFI := Lib.hid hfin
        clear hfin
        go_wp2_with fail
        refine (wstring_ok _ l _ hw).mono ?_
        rintro e v1 ⟨rfl, k1⟩
        go_wp2_with fail
        go_ret
        exact ⟨by rw [← HFI.out]; rfl, KpW.kp hkr k1 (by omega)⟩
end Go.Proofs.YthcphjmknbiadaaGreatDoor
