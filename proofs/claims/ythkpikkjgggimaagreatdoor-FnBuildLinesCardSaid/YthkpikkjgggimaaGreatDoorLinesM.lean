/-
  What lines of text do to a building, in plain Lean; the contract of the program's BuildLines. No claim stands here.
-/
import Derived.Test.YthkpikkjgggimaaGreatDoorBM
import Derived.Test.YthkpikkjgggimaaGreatDoorTexts
namespace Go.Proofs.YthkpikkjgggimaaGreatDoor
open Go.RowKit
set_option linter.unusedVariables false
set_option linter.unusedSimpArgs false

/-- A valid building after the first lines. -/
def Bld.runL (b : Bld) (t : Nat → ByteArray) : Nat → Bld
  | 0 => b
  | k + 1 => (b.runL t k).line (t k)
/-- The answer to a line. -/
def Bld.ansL (b : Bld) (t : Nat → ByteArray) (k : Nat) : ByteArray := ⟨((b.runL t k).reply (t k)).toArray⟩
def Bld.linesOk (b : Bld) (n : Nat) : Bool := b.valid && decide (n ≤ 40)
def Bld.linesB (b : Bld) (t : Nat → ByteArray) (n : Nat) : Bld := if b.linesOk n = true then b.runL t n else Bld.none
def Bld.linesN (b : Bld) (n : Nat) : Nat := if b.linesOk n = true then n else 0
theorem lines_no {b : Bld} {t : Nat → ByteArray} {n : Nat} (h : b.linesOk n = false) : b.linesB t n = Bld.none ∧ b.linesN n = 0 := by simp [Bld.linesB, Bld.linesN, h]
theorem lines_yes {b : Bld} {t : Nat → ByteArray} {n : Nat} (h : b.linesOk n = true) : b.linesB t n = b.runL t n ∧ b.linesN n = n := by simp [Bld.linesB, Bld.linesN, h]
theorem runL_ok {b : Bld} (h : b.Ok) (t : Nat → ByteArray) : ∀ k, (b.runL t k).Ok
  | 0 => h
  | k + 1 => line_ok (runL_ok h t k) (t k)
theorem ok_small {b : Bld} (h : b.Ok) : b.Small := by
  have hz := h.sizes
  refine ⟨?_, ?_, ?_, ?_⟩ <;> omega
theorem lines_small (b : Bld) (t : Nat → ByteArray) (n : Nat) : (b.linesB t n).Small := by
  cases h : b.linesOk n
  · rw [(lines_no h).1]; exact none_small
  · rw [(lines_yes h).1]
    simp only [Bld.linesOk, Bool.and_eq_true] at h
    exact ok_small (runL_ok (valid_iff.1 h.1) t n)
theorem line_next {b : Bld} (h : b.Ok) (t : Nat → ByteArray) (k : Nat) : (b.runL t k).lined (t k) = b.runL t (k + 1) ∧ ByteArray.mk ((b.runL t k).says (t k)).toArray = b.ansL t k := by
  have hv := valid_iff.2 (runL_ok h t k)
  rw [(lined_yes hv).1, (lined_yes hv).2]
  exact ⟨rfl, rfl⟩
/-- What BuildLines leaves. -/
def LinesPost (b : Bld) (t : Nat → ByteArray) (n : Nat) (w : World) (e : Ending) (w' : World) : Prop :=
  ∃ v' A c, e = .returned (.tuple #[bval v' (b.linesB t n), .slice A (b.linesN n) c]) ∧ OwnB w' w.heap.size v' (b.linesB t n) ∧ RowT w' w.heap.size A (b.linesN n) c (b.ansL t) ∧ Below w.heap.size w w'
theorem rowT_set {w : World} {base : Nat} {A : Option Addr} {n c : Nat} {f : Nat → ByteArray} {p : Addr} {x : Value} (hp : p.block < base) (h : RowT w base A n c f) : RowT (w.setCell p x) base A n c f :=
  h.kept (grown_set w p x) (.inr (by intro k e; cases e; left; exact hp))
theorem list_at {P : Program} {ops : Array Oper} {Q : Exit → Act → World → Prop} {rest : List Oper} {a : Act} {W W' : World} (h : W = W') (hc : wpList P ops Q rest a W) : wpList P ops Q rest a W' := by
  subst h; exact hc

set_option maxRecDepth 100000 in
set_option maxHeartbeats 6400000 in
theorem impl_BuildLines_no {w : World} {B n c : Nat} {v : Bv} {b : Bld} {A : Option Addr} {t : Nat → ByteArray} (hn : b.Small) (hB : B ≤ w.heap.size) (hr : ReadB w B v b) (hl : n ≤ 1000000000) (hv : b.linesOk n = false) :
    Calls Tryz.prog 8 #[bval v b, .slice A n c] w (LinesPost b t n w) := by
  have HR := Lib.hid hr
  have HSm := Lib.hid hn
  have HE := Lib.hid (lines_no (t := t) hv)
  obtain ⟨m0, m1, m2, m3⟩ := hn
  have key : b.valid = false ∨ (b.valid = true ∧ ¬ n ≤ 40) := by
    cases h : b.valid
    · exact .inl rfl
    · right
      refine ⟨rfl, fun h4 => ?_⟩
      simp [Bld.linesOk, h, h4] at hv
  clear hr hv
  unfold LinesPost
  rw [HE.out.1, HE.out.2]
  unfold bval bcells
  go_enter Tryz.func8, Tryz.ntmps8
  go_wp2_with fail
  refine (impl_BuildValid (v := v) (b := b) HSm.out (Nat.le_trans hB (by simp <;> omega)) ((HR.out.alloc hB _).alloc (Nat.le_trans hB (by simp <;> omega)) _)).mono ?_
  rintro e w1 ⟨rfl, hb1⟩
  obtain ⟨x, y, hbb, hs1⟩ := boxes2' hb1
  have HB1 := Lib.hid hbb
  have c1 := y.cells
  have z1 := y.free
  clear hb1 x y hbb
  rcases key with hv | ⟨hv, h4⟩
  all_goals
    rw [hv]
    go_wp2
    refine bodyPost_ret (v := .tuple #[bval Bv.none Bld.none, .slice none 0 0]) (by simp [bval, bcells, Bv.none, Bld.none, results, Tryz.results8, go_sem, c1]) rfl ⟨Bv.none, none, 0, by rfl, own_none _ _, RowT.nil _ _ _, ?_⟩
    · repeat (refine below_set (by simp <;> omega) ?_)
      exact HB1.out

set_option maxRecDepth 100000 in
set_option maxHeartbeats 6400000 in
theorem impl_BuildLines_yes {w : World} {B n c : Nat} {v : Bv} {b : Bld} {A : Option Addr} {t : Nat → ByteArray} (hn : b.Small) (hB : B ≤ w.heap.size) (hr : ReadB w B v b) (hv : b.valid = true) (hl : n ≤ 40) (ht : Texts w B A n t) (hts : ∀ i, i < n → (t i).size ≤ 1048576) (hh : Here w) :
    Calls Tryz.prog 8 #[bval v b, .slice A n c] w (LinesPost b t n w) := by
  have hok := valid_iff.1 hv
  have HSZ := Lib.hid hok.sizes
  have HOK := Lib.hid hok
  have HR := Lib.hid hr
  have HSm := Lib.hid hn
  have HV := Lib.hid hv
  have HH := Lib.hid hh
  have HT := Lib.hid ht
  have HTS := Lib.hid hts
  have HE := Lib.hid (lines_yes (t := t) (show b.linesOk n = true by simp [Bld.linesOk, hv, hl]))
  have HNX := Lib.hid (line_next hok t)
  have HRO := Lib.hid (runL_ok hok t)
  clear hr hn hv hok hh ht hts
  obtain ⟨i0, hi, hz0, hz1, hz2⟩ := info_parts Tryz.infoTxt
  unfold LinesPost
  rw [HE.out.1, HE.out.2]
  clear HE
  unfold bval bcells
  go_enter Tryz.func8, Tryz.ntmps8
  go_wp2_with fail
  refine (impl_BuildValid (v := v) (b := b) HSm.out (Nat.le_trans hB (by simp <;> omega)) ((HR.out.alloc hB _).alloc (Nat.le_trans hB (by simp <;> omega)) _)).mono ?_
  rintro e w1 ⟨rfl, hb1⟩
  obtain ⟨x, y, hbb, hs1⟩ := boxes2' hb1
  have HX1 := Lib.hid x
  have HY1 := Lib.hid y
  have HB1 := Lib.hid hbb
  have c0 := x.cells
  clear hb1 x y hbb
  rw [HV.out]
  go_wp2_with fail
  refine (copyBuilding_any (v := v) (b := b) (by have := HSZ.out; omega) (by have := HSZ.out; omega) (by have := HSZ.out; omega) (by have := HSZ.out; omega) (by have := HSZ.out; omega) (Nat.le_trans hB HB1.out.size) (HR.out.below (HB1.out.mono hB))).mono ?_
  rintro e w2 ⟨v2, rfl, ho2, hb2⟩
  have x2 := HX1.out.below hb2 HX1.out.lt
  have z2 := x2.free
  have c2 := x2.cells
  have F2 := store_building v2 b x2 (HY1.out.below hb2 HY1.out.lt) (by omega) (HB1.out.trans (hb2.mono HB1.out.size)) (Nat.le_refl _) (ho2.mono (base' := w.heap.size + 2) hs1) (by omega) (Nat.le_trans hs1 hb2.size)
  clear hb2 ho2 x2 c0 HX1 HY1 HB1
  obtain ⟨W3, hW, x3, y3, hb3, ho3, hs3⟩ := F2
  have HX3 := Lib.hid x3
  have HY3 := Lib.hid y3
  have HB3 := Lib.hid hb3
  have HO3 := Lib.hid ho3
  have HW := Lib.hid hW
  clear x3 y3 hb3 ho3 hW
  simp only [bval, bcells]
  go_wp2_with (at_make; refine list_at HW.out ?_; refine wpList_make_full _ rfl _ _ 37 rfl (w.heap.size + 2) 9 i0 (.string ByteArray.empty) 1 Tryz.underlying37 hi hz0 hz1 _ _ _ _ n rfl rfl rfl rfl (by rw [hz2]; omega) (by unfold maxLen; omega) hs3 ?_; intro w4 hown hgrow)
  have hrow0 : RowT w4 (w.heap.size + 2) (some ⟨W3.heap.size, 0, none⟩) n n (fun _ => ByteArray.empty) := by
    unfold RowT
    rw [← tvals_made]
    exact hown
  have hbl : Below W3.heap.size W3 w4 := (Below.refl W3.heap.size W3).grown hgrow (Nat.le_refl _) (by intro k hk; cases hk)
  have HX4 := Lib.hid (HX3.out.below hbl HX3.out.lt)
  have HY4 := Lib.hid (HY3.out.below hbl HY3.out.lt)
  have HB4 := Lib.hid (HB3.out.trans (hbl.mono HB3.out.size))
  have HO4 := Lib.hid (ownB_below HO3.out hbl)
  have HF4 := Lib.hid (own_off HO3.out (g := W3.heap.size) (.inr (Nat.le_refl _)))
  have HRW := Lib.hid (hrow0.congr (g := fun i => if i < 0 then b.ansL t i else ByteArray.empty) (fun i hi => by simp))
  have hs4 : w.heap.size + 2 ≤ w4.heap.size := Nat.le_trans hs3 hbl.size
  have hgl : W3.heap.size < w4.heap.size := hrow0.lt.2
  clear hown hgrow hi hz0 hz1 hz2 hrow0 hbl HX3 HY3 HB3 HO3 HW z2 c2
  generalize W3.heap.size = g6 at *
  unfold bcells at HX4
  go_wp2
  go_loopw [25] (fun s25 wr => ∃ (k : Nat) (v' : Bv) (b' : Bld), k ≤ n ∧ s25 = .int .i64 k ∧ Hid (b' = b.runL t k) ∧ Hid (Bx wr w.heap.size (bcells v' b')) ∧ Hid (Bx wr (w.heap.size + 1) #[.slice none 0 0, .int .i64 0, .int .i64 0, .int .i64 0, .int .i64 0, .slice none 0 0, .slice none 0 0, .slice none 0 0, .int .i64 0, .int .i64 0, .bool false]) ∧ Hid (OwnB wr (w.heap.size + 2) v' b') ∧ Hid (Off g6 v') ∧ Hid (RowT wr (w.heap.size + 2) (some ⟨g6, 0, none⟩) n n (fun i => if i < k then b.ansL t i else ByteArray.empty)) ∧ Hid (Below w.heap.size w wr) ∧ g6 < wr.heap.size) (fun s25 _ => n - (intOf s25).toNat)
  case atStart => exact ⟨0, v2, b, Nat.zero_le _, rfl, Lib.hid rfl, HX4, HY4, HO4, HF4, HRW, HB4, hgl⟩
  case round =>
    obtain ⟨k, v', b', hk, rfl, HK, HX, HY, HO, HF, HRT, HB, hg6⟩ := hrel
    have hgw : w.heap.size + 2 ≤ g6 := HRT.out.lt.1
    unfold bcells at HX
    have c0 := HX.out.cells
    by_cases hlt : k < n
    · obtain ⟨bl, off, rfl, hbB, hc⟩ := HT.out (by omega)
      have ct := (HB.out.cell (p := ⟨bl, off + k, none⟩) (by show bl < _; omega)).trans (hc k hlt)
      have htk := HTS.out k hlt
      have HS : Hid b'.Small := Lib.hid (by rw [HK.out]; exact ok_small (HRO.out k))
      have HN : Hid (b'.lined (t k) = b.runL t (k + 1) ∧ ByteArray.mk (b'.says (t k)).toArray = b.ansL t k) := Lib.hid (by rw [HK.out]; exact HNX.out k)
      have HCL := Lib.hid (fun W (h : ReadB W W.heap.size v' b') (hW : Here W) => impl_BuildLine (v := v') (b := b') (t k) htk HS.out (Nat.le_refl _) h hW)
      clear hc
      unfold LinePost at HCL
      rw [HN.out.1, HN.out.2] at HCL
      generalize hb6 : b.runL t (k + 1) = b6 at *
      have HB6 := Lib.hid hb6
      generalize t k = tk at *
      clear hb6
      go_wp2_with fail
      refine (HCL.out _ HO.out.read (HH.out.below HB.out)).mono ?_
      rintro e w6 ⟨v6, rfl, ho6, hb6⟩
      have HP := Lib.hid (put_building (base := w.heap.size + 2) HX.out HY.out (by omega) HB.out (Nat.le_refl _) hb6 ho6 (by omega))
      have hof := own_off ho6 (g := g6) (.inl hg6)
      have c6 := (HX.out.below hb6 HX.out.lt).cells
      have z6 := (HX.out.below hb6 HX.out.lt).free
      have hr6 := (HRT.out.below hb6 (Nat.le_refl _)).kept (sets_grown (w := w6) (g := w.heap.size) (putL w.heap.size v6 b6) putL_block) (.inr (by intro k e; cases e; left; omega))
      have cr := hr6.cell hlt
      have fr := hr6.frozen k
      have HRS := Lib.hid ((hr6.set (k := k) (b.ansL t k)).1.congr (g := fun i => if i < k + 1 then b.ansL t i else ByteArray.empty) (fun i hi => by
        unfold updT
        by_cases e : i = k
        · subst e; simp
        · have : (i < k + 1) = (i < k) := by simp; omega
          simp [e, this]))
      have HOF := Lib.hid hof
      have hsz6 : g6 < w6.heap.size := Nat.lt_of_lt_of_le hg6 hb6.size
      clear hb6 ho6 hof c0 hr6 HRT HX HY HO HB HF
      generalize b.ansL t k = ak at *
      simp only [sets, putL, List.foldl_cons, List.foldl_nil] at cr fr
      simp only [bval, bcells]
      have hne : w.heap.size ≠ g6 := by omega
      go_wp2
      go_roundw
      case rel =>
        refine ⟨k + 1, v6, b6, by omega, by go_num, Lib.hid HB6.out.symm, Lib.hid (HP.out.1.far ⟨g6, k, none⟩ _ (by show g6 ≠ _; omega)), Lib.hid (HP.out.2.1.far ⟨g6, k, none⟩ _ (by show g6 ≠ _; omega)), Lib.hid (ownB_off (p := ⟨g6, k, none⟩) HOF.out HP.out.2.2.2.1), HOF, HRS, Lib.hid (HP.out.2.2.1.setCell (p := ⟨g6, k, none⟩) (by show w.heap.size ≤ g6; omega) _), by simpa using hsz6⟩
      case measure => simp [intOf]; omega
    · obtain rfl : k = n := by omega
      have c1 := HY.out.cells
      have z1 := HY.out.free
      have HR2 := Lib.hid (HRT.out.congr (g := b.ansL t) (fun i hi => by simp [hi]))
      clear HRT
      go_wp2
      refine bodyPost_ret (v := .tuple #[bval v' b', .slice (some ⟨g6, 0, none⟩) k k]) (by simp [bval, bcells, results, Tryz.results8, go_sem, c0, c1]) rfl ⟨v', _, _, by rw [HK.out]; rfl, ?_, ?_, ?_⟩
      · rw [← HK.out]
        refine OwnB.mono (base := w.heap.size + 2) ?_ (by omega)
        repeat (refine ownB_set (by simp <;> omega) ?_)
        exact HO.out
      · refine RowT.mono (base := w.heap.size + 2) ?_ (by omega)
        repeat (refine rowT_set (by simp <;> omega) ?_)
        exact HR2.out
      · repeat (refine below_set (by simp <;> omega) ?_)
        exact HB.out
end Go.Proofs.YthkpikkjgggimaaGreatDoor
