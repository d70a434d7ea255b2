/-
  The contracts of RestEnd, in the program and in the reference. No claim stands here.
-/
import Derived.Test.YthkpikkjgggimaaGreatDoorRest
namespace Go.Proofs.YthkpikkjgggimaaGreatDoor
open Go.RowKit
set_option linter.unusedVariables false
set_option linter.unusedSimpArgs false

/-- What RestEnd answers. -/
def EndPost (b : Bld) (w : World) (e : Ending) (w' : World) : Prop := ∃ v', e = .returned (bval v' b.rested) ∧ OwnB w' w.heap.size v' b.rested ∧ Below w.heap.size w w'
set_option maxHeartbeats 6400000 in
theorem impl_RestEnd_no {w : World} {B : Nat} {v : Bv} {b : Bld} (hn : b.Small) (hB : B ≤ w.heap.size) (hr : ReadB w B v b) (hv : b.valid = false) :
    Calls Tryz.prog 44 #[bval v b] w (EndPost b w) := by
  have HR := Lib.hid hr
  have HSm := Lib.hid hn
  have HV := Lib.hid hv
  have HE := Lib.hid (rested_no hv)
  obtain ⟨m0, m1, m2, m3⟩ := hn
  clear hr hv
  unfold bval bcells EndPost
  go_enter Tryz.func44, Tryz.ntmps44
  go_wp2_with fail
  refine (impl_BuildValid (v := v) (b := b) HSm.out (Nat.le_trans hB (by simp <;> omega)) ((HR.out.alloc hB _).alloc (Nat.le_trans hB (by simp <;> omega)) _)).mono ?_
  rintro e w1 ⟨rfl, hb1⟩
  obtain ⟨x, y, hbb, hs1⟩ := boxes2' hb1
  have HB1 := Lib.hid hbb
  have c1 := y.cells
  have z1 := y.free
  clear hb1 x y hbb
  rw [HV.out]
  go_wp2
  refine bodyPost_ret (v := bval Bv.none Bld.none) (by simp [bval, bcells, Bv.none, Bld.none, results, Tryz.results44, go_sem, c1]) rfl ⟨Bv.none, by rw [HE.out], ?_, ?_⟩
  · rw [HE.out]
    exact own_none _ _
  · repeat (refine below_set (by simp <;> omega) ?_)
    exact HB1.out
set_option maxHeartbeats 6400000 in
theorem spec_RestEnd_no {w : World} {B : Nat} {v : Bv} {b : Bld} (hn : b.Small) (hB : B ≤ w.heap.size) (hr : ReadB w B v b) (hv : b.valid = false) :
    Calls Tryz.prog 57 #[bval v b] w (EndPost b w) := by
  have HR := Lib.hid hr
  have HSm := Lib.hid hn
  have HV := Lib.hid hv
  have HE := Lib.hid (rested_no hv)
  obtain ⟨m0, m1, m2, m3⟩ := hn
  clear hr hv
  unfold bval bcells EndPost
  go_enter Tryz.func57, Tryz.ntmps57
  go_wp2_with fail
  refine (spec_BuildValid (v := v) (b := b) HSm.out (Nat.le_trans hB (by simp <;> omega)) ((HR.out.alloc hB _).alloc (Nat.le_trans hB (by simp <;> omega)) _)).mono ?_
  rintro e w1 ⟨rfl, hb1⟩
  obtain ⟨x, y, hbb, hs1⟩ := boxes2' hb1
  have HB1 := Lib.hid hbb
  have c1 := y.cells
  have z1 := y.free
  clear hb1 x y hbb
  rw [HV.out]
  go_wp2
  refine bodyPost_ret (v := bval Bv.none Bld.none) (by simp [bval, bcells, Bv.none, Bld.none, results, Tryz.results57, go_sem, c1]) rfl ⟨Bv.none, by rw [HE.out], ?_, ?_⟩
  · rw [HE.out]
    exact own_none _ _
  · repeat (refine below_set (by simp <;> omega) ?_)
    exact HB1.out

set_option maxHeartbeats 6400000 in
theorem impl_RestEnd_yes {w : World} {B : Nat} {v : Bv} {b : Bld} (hn : b.Small) (hB : B ≤ w.heap.size) (hr : ReadB w B v b) (hv : b.valid = true) :
    Calls Tryz.prog 44 #[bval v b] w (EndPost b w) := by
  have hok := valid_iff.1 hv
  have HSZ := Lib.hid hok.sizes
  have HOK := Lib.hid hok
  have HRS := Lib.hid (rest_spec hok)
  have HR := Lib.hid hr
  have HSm := Lib.hid hn
  have HV := Lib.hid hv
  have HE := Lib.hid (rested_yes hv)
  clear hr hn hv hok
  unfold EndPost
  rw [HE.out]
  generalize b.rest = R at *
  unfold bval bcells
  go_enter Tryz.func44, Tryz.ntmps44
  go_wp2_with fail
  refine (impl_BuildValid (v := v) (b := b) HSm.out (Nat.le_trans hB (by simp <;> omega)) ((HR.out.alloc hB _).alloc (Nat.le_trans hB (by simp <;> omega)) _)).mono ?_
  rintro e w1 ⟨rfl, hb1⟩
  obtain ⟨x, y, hbb, hs1⟩ := boxes2' hb1
  have HX1 := Lib.hid x
  have HY1 := Lib.hid y
  have HB1 := Lib.hid hbb
  have c0 := x.cells
  clear hb1 x y hbb
  rw [HV.out]
  go_wp2_with fail
  refine (copyBuilding_any (v := v) (b := b) (by have := HSZ.out; omega) (by have := HSZ.out; omega) (by have := HSZ.out; omega) (by have := HSZ.out; omega) (by have := HSZ.out; omega) (Nat.le_trans hB HB1.out.size) (HR.out.below (HB1.out.mono hB))).mono ?_
  rintro e w2 ⟨v2, rfl, ho2, hb2⟩
  have x2 := HX1.out.below hb2 HX1.out.lt
  have z2 := x2.free
  have c2 := x2.cells
  have F2 := store_building v2 b x2 (HY1.out.below hb2 HY1.out.lt) (by omega) (HB1.out.trans (hb2.mono HB1.out.size)) (Nat.le_refl _) (ho2.mono (base' := w.heap.size + 2) hs1) (by omega) (Nat.le_trans hs1 hb2.size)
  clear hb2 ho2 x2 c0 HX1 HY1 HB1
  obtain ⟨W3, hW, x3, y3, hb3, ho3, hs3⟩ := F2
  subst hW
  have HX3 := Lib.hid x3
  have HY3 := Lib.hid y3
  have HB3 := Lib.hid hb3
  have HO3 := Lib.hid ho3
  clear x3 y3 hb3 ho3
  simp only [bval, bcells]
  go_wp2
  go_loopg [] R (fun m wr => ∃ (k : Nat) (v' : Bv) (b' : Bld), k + m = R ∧ Hid (b' = b.after k) ∧ Hid (Bx wr w.heap.size (bcells v' b')) ∧ Hid (Bx wr (w.heap.size + 1) #[.slice none 0 0, .int .i64 0, .int .i64 0, .int .i64 0, .int .i64 0, .slice none 0 0, .slice none 0 0, .slice none 0 0, .int .i64 0, .int .i64 0, .bool false]) ∧ Hid (OwnB wr (w.heap.size + 2) v' b') ∧ Hid (Below w.heap.size w wr) ∧ w.heap.size + 2 ≤ wr.heap.size)
  case atStart => exact ⟨0, v2, b, by omega, Lib.hid rfl, HX3, HY3, HO3, HB3, hs3⟩
  case round =>
    obtain ⟨k, v', b', hkm, HK, HX, HY, HO, HB, hsz⟩ := hrel
    have HS : Hid b'.Small := Lib.hid (by rw [HK.out]; exact after_small HSm.out k)
    have HT : Hid (b'.ticked false = b.after (k + 1)) := Lib.hid (by rw [HK.out]; exact ticked_after HOK.out k)
    unfold bcells at HX
    have c0 := HX.out.cells
    by_cases hlt : 0 < gk
    · have HQ : Hid (b'.quiet = false) := Lib.hid (by rw [HK.out]; exact HRS.out.2.2 k (by omega))
      go_wp2_with fail
      refine (impl_BuildQuiet (v := v') (b := b') HS.out (Nat.le_refl _) HO.out.read).mono ?_
      rintro e w5 ⟨rfl, hb5⟩
      rw [HQ.out]
      have HX5 := Lib.hid (HX.out.below hb5 HX.out.lt)
      have HY5 := Lib.hid (HY.out.below hb5 HY.out.lt)
      have HB5 := Lib.hid (HB.out.trans (hb5.mono HB.out.size))
      have HO5 := Lib.hid (ownB_below HO.out hb5)
      have hsz5 := Nat.le_trans hsz hb5.size
      clear hb5 HX HY HB HO c0
      have c0 := HX5.out.cells
      have z0 := HX5.out.free
      go_wp2_with fail
      refine (impl_BuildTick (v := v') (b := b') false HS.out (Nat.le_refl _) HO5.out.read).mono ?_
      unfold TickPost
      rw [HT.out]
      rintro e w6 ⟨v6, rfl, ho6, hb6⟩
      have HP := Lib.hid (put_building (base := w.heap.size + 2) HX5.out HY5.out (by omega) HB5.out (Nat.le_refl _) hb6 ho6 hsz5)
      have c6 := (HX5.out.below hb6 HX5.out.lt).cells
      have z6 := (HX5.out.below hb6 HX5.out.lt).free
      have hsz6 := Nat.le_trans hsz5 hb6.size
      clear hb6 ho6 c0 z0
      generalize hb6 : b.after (k + 1) = b6 at *
      have HB6 := Lib.hid hb6
      clear hb6
      simp only [bval, bcells]
      go_wp2
      go_roundg (gk - 1)
      case rel => exact ⟨k + 1, v6, b6, by omega, Lib.hid HB6.out.symm, Lib.hid HP.out.1, Lib.hid HP.out.2.1, Lib.hid HP.out.2.2.2.1, Lib.hid HP.out.2.2.1, by simpa using hsz6⟩
      case measure => omega
    · obtain rfl : k = R := by omega
      have HQ : Hid (b'.quiet = true) := Lib.hid (by rw [HK.out]; exact HRS.out.2.1)
      go_wp2_with fail
      refine (impl_BuildQuiet (v := v') (b := b') HS.out (Nat.le_refl _) HO.out.read).mono ?_
      rintro e w5 ⟨rfl, hb5⟩
      rw [HQ.out]
      have HX5 := Lib.hid (HX.out.below hb5 HX.out.lt)
      have HY5 := Lib.hid (HY.out.below hb5 HY.out.lt)
      have HB5 := Lib.hid (HB.out.trans (hb5.mono HB.out.size))
      have HO5 := Lib.hid (ownB_below HO.out hb5)
      have HN : Hid (b.after k = b') := Lib.hid HK.out.symm
      clear hb5 HX HY HB HO c0
      have c0 := HX5.out.cells
      have c1 := HY5.out.cells
      have z1 := HY5.out.free
      go_wp2
      refine bodyPost_ret (v := bval v' b') (by simp [bval, bcells, results, Tryz.results44, go_sem, c0, c1]) rfl ⟨v', by rw [HN.out]; rfl, ?_, ?_⟩
      · rw [HN.out]
        refine OwnB.mono (base := w.heap.size + 2) ?_ (by omega)
        repeat (refine ownB_set (by simp <;> omega) ?_)
        exact HO5.out
      · repeat (refine below_set (by simp <;> omega) ?_)
        exact HB5.out

set_option maxHeartbeats 6400000 in
theorem spec_RestEnd_yes {w : World} {B : Nat} {v : Bv} {b : Bld} (hn : b.Small) (hB : B ≤ w.heap.size) (hr : ReadB w B v b) (hv : b.valid = true) :
    Calls Tryz.prog 57 #[bval v b] w (EndPost b w) := by
  have hok := valid_iff.1 hv
  have HSZ := Lib.hid hok.sizes
  have HOK := Lib.hid hok
  have hrb := (rest_bound hok).2
  have HR := Lib.hid hr
  have HSm := Lib.hid hn
  have HV := Lib.hid hv
  have HE := Lib.hid (rested_yes hv)
  have HT0 := Lib.hid (restTicks_yes hv)
  clear hr hn hv hok
  unfold EndPost
  rw [HE.out]
  generalize b.rest = R at *
  unfold bval bcells
  go_enter Tryz.func57, Tryz.ntmps57
  go_wp2_with fail
  refine (spec_BuildValid (v := v) (b := b) HSm.out (Nat.le_trans hB (by simp <;> omega)) ((HR.out.alloc hB _).alloc (Nat.le_trans hB (by simp <;> omega)) _)).mono ?_
  rintro e w1 ⟨rfl, hb1⟩
  obtain ⟨x, y, hbb, hs1⟩ := boxes2' hb1
  have HX1 := Lib.hid x
  have HY1 := Lib.hid y
  have HB1 := Lib.hid hbb
  have c0 := x.cells
  clear hb1 x y hbb
  rw [HV.out]
  go_wp2_with fail
  refine (spec_RestTicks (v := v) (b := b) HSm.out (Nat.le_trans hB HB1.out.size) (HR.out.below (HB1.out.mono hB))).mono ?_
  rintro e w2 ⟨rfl, hb2⟩
  rw [HT0.out]
  have HX2 := Lib.hid (HX1.out.below hb2 HX1.out.lt)
  have HY2 := Lib.hid (HY1.out.below hb2 HY1.out.lt)
  have HB2 := Lib.hid (HB1.out.trans (hb2.mono HB1.out.size))
  have hs2 := Nat.le_trans hs1 hb2.size
  clear hb2 c0 HX1 HY1 HB1
  have c0 := HX2.out.cells
  go_wp2_with fail
  refine (l27Copy_any (v := v) (b := b) (by have := HSZ.out; omega) (by have := HSZ.out; omega) (by have := HSZ.out; omega) (by have := HSZ.out; omega) (by have := HSZ.out; omega) (by have := HSZ.out; omega) (by have := HSZ.out; omega) (by have := HSZ.out; omega) (Nat.le_trans hB HB2.out.size) (HR.out.below (HB2.out.mono hB))).mono ?_
  rintro e w3 ⟨v3, rfl, ho3, hb3⟩
  simp only [bval, bcells]
  have HY3 := Lib.hid ((HY2.out.below hb3 HY2.out.lt).alloc (.cells (bcells v3 b) 36))
  have HZ3 := Lib.hid (Bx.new w3 (bcells v3 b) 36)
  have HB3 := Lib.hid ((HB2.out.trans (hb3.mono HB2.out.size)).alloc (Nat.le_trans HB2.out.size hb3.size) (.cells (bcells v3 b) 36))
  have HO3 := Lib.hid (ownB_below (ho3.mono (base' := w.heap.size + 2) hs2) ((Below.refl w3.heap.size w3).alloc (Nat.le_refl _) (.cells (bcells v3 b) 36)))
  have HOFF := Lib.hid (own_off ho3 (.inr (Nat.le_refl _)))
  have hs3 : w.heap.size + 2 ≤ w3.heap.size := Nat.le_trans hs2 hb3.size
  clear hb3 ho3 c0 HX2 HY2 HB2
  unfold bcells at HY3 HZ3 HB3 HO3
  go_wp2
  go_loopw [5] (fun s5 wr => ∃ (k : Nat) (v' : Bv) (b' : Bld), s5 = .int .i64 k ∧ k ≤ R ∧ Hid (b' = b.after k) ∧ Hid (Bx wr w3.heap.size (bcells v' b')) ∧ Hid (Bx wr (w.heap.size + 1) #[.slice none 0 0, .int .i64 0, .int .i64 0, .int .i64 0, .int .i64 0, .slice none 0 0, .slice none 0 0, .slice none 0 0, .int .i64 0, .int .i64 0, .bool false]) ∧ Hid (OwnB wr (w.heap.size + 2) v' b') ∧ Hid (Off w3.heap.size v') ∧ Hid (Below w.heap.size w wr)) (fun s5 _ => R - (intOf s5).toNat)
  case atStart => exact ⟨0, v3, b, rfl, by omega, Lib.hid rfl, HZ3, HY3, HO3, HOFF, HB3⟩
  case round =>
    obtain ⟨k, v', b', rfl, hk, HK, HX, HY, HO, HF, HB⟩ := hrel
    clear HY3 HZ3 HB3 HO3 HOFF
    have HS : Hid b'.Small := Lib.hid (by rw [HK.out]; exact after_small HSm.out k)
    have HT : Hid (b'.ticked false = b.after (k + 1)) := Lib.hid (by rw [HK.out]; exact ticked_after HOK.out k)
    have hwr := HX.out.lt
    unfold bcells at HX
    have c0 := HX.out.cells
    have z0 := HX.out.free
    by_cases hlt : k < R
    · go_wp2_with fail
      refine (spec_BuildTick (v := v') (b := b') false HS.out (Nat.le_refl _) HO.out.read).mono ?_
      unfold TickPost
      rw [HT.out]
      rintro e w6 ⟨v6, rfl, ho6, hb6⟩
      have HP := Lib.hid (put_building (base := w.heap.size + 2) HX.out HY.out (by omega) HB.out (by omega) hb6 ho6 (by omega))
      have c6 := (HX.out.below hb6 HX.out.lt).cells
      have z6 := (HX.out.below hb6 HX.out.lt).free
      clear hb6 ho6 c0 z0
      generalize hb6 : b.after (k + 1) = b6 at *
      have HB6 := Lib.hid hb6
      clear hb6
      simp only [bval, bcells]
      go_wp2
      go_roundw
      case rel => exact ⟨k + 1, v6, b6, by go_num, by omega, Lib.hid HB6.out.symm, Lib.hid HP.out.1, Lib.hid HP.out.2.1, Lib.hid HP.out.2.2.2.1, Lib.hid HP.out.2.2.2.2, Lib.hid HP.out.2.2.1⟩
      case measure => simp [intOf]; omega
    · obtain rfl : k = R := by omega
      have HN : Hid (b.after k = b') := Lib.hid HK.out.symm
      have c1 := HY.out.cells
      have z1 := HY.out.free
      go_wp2
      refine bodyPost_ret (v := bval v' b') (by simp [bval, bcells, results, Tryz.results57, go_sem, c0, c1]) rfl ⟨v', by rw [HN.out]; rfl, ?_, ?_⟩
      · rw [HN.out]
        refine OwnB.mono (base := w.heap.size + 2) ?_ (by omega)
        repeat (refine ownB_set (by simp <;> omega) ?_)
        exact HO.out
      · repeat (refine below_set (by simp <;> omega) ?_)
        exact HB.out

theorem impl_RestEnd {w : World} {B : Nat} {v : Bv} {b : Bld} (hn : b.Small) (hB : B ≤ w.heap.size) (hr : ReadB w B v b) :
    Calls Tryz.prog 44 #[bval v b] w (EndPost b w) := by
  cases hv : b.valid
  · exact impl_RestEnd_no hn hB hr hv
  · exact impl_RestEnd_yes hn hB hr hv
theorem spec_RestEnd {w : World} {B : Nat} {v : Bv} {b : Bld} (hn : b.Small) (hB : B ≤ w.heap.size) (hr : ReadB w B v b) :
    Calls Tryz.prog 57 #[bval v b] w (EndPost b w) := by
  cases hv : b.valid
  · exact spec_RestEnd_no hn hB hr hv
  · exact spec_RestEnd_yes hn hB hr hv
end Go.Proofs.YthkpikkjgggimaaGreatDoor
