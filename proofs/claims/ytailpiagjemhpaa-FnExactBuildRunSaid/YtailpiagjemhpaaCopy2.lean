/-
  The contracts of copyCalls, copyBuilding, l8Copy, l27Copy. No claim stands here.
-/
import Derived.Test.YtailpiagjemhpaaCopy
import Derived.Deep.RegionLawGrows
namespace Go.Proofs.Ytailpiagjemhpaa
open Go.RowKit
set_option linter.unusedVariables false
set_option linter.unusedSimpArgs false

set_option maxHeartbeats 3200000 in
theorem copyCalls_any {w : World} {B : Nat} {U D C : Option Addr} {nu cu nd cd nc cc : Nat} {up dn car : Nat → Bool} (n1 : nu ≤ 1000000000) (n2 : nd ≤ 1000000000) (n3 : nc ≤ 1000000000) (hB : B ≤ w.heap.size)
    (hu : Bools w B U nu up) (hd : Bools w B D nd dn) (hc : Bools w B C nc car) :
    Calls Try.prog 77 #[.agg #[.slice U nu cu, .slice D nd cd, .slice C nc cc]] w fun e w' =>
      ∃ U' cu' D' cd' C' cc', e = .returned (.agg #[.slice U' nu cu', .slice D' nd cd', .slice C' nc cc']) ∧ OwnC w' w.heap.size U' nu cu' up D' nd cd' dn C' nc cc' car ∧ Below w.heap.size w w' := by
  have HU := Lib.hid hu
  have HD := Lib.hid hd
  have HC := Lib.hid hc
  clear hu hd hc
  go_enter Try.func77, Try.ntmps77
  go_wp2_with fail
  have X := (Bx.new w #[.slice U nu cu, .slice D nd cd, .slice C nc cc] 32).alloc (.cells #[.slice none 0 0, .slice none 0 0, .slice none 0 0] 32)
  have Y := Bx.new (w.alloc (.cells #[.slice U nu cu, .slice D nd cd, .slice C nc cc] 32)) #[.slice none 0 0, .slice none 0 0, .slice none 0 0] 32
  have hb := ((Below.refl w.heap.size w).alloc (Nat.le_refl _) (.cells #[.slice U nu cu, .slice D nd cd, .slice C nc cc] 32)).alloc (by simp) (.cells #[.slice none 0 0, .slice none 0 0, .slice none 0 0] 32)
  have hz0 : w.heap.size + 2 = ((w.alloc (.cells #[.slice U nu cu, .slice D nd cd, .slice C nc cc] 32)).alloc (.cells #[.slice none 0 0, .slice none 0 0, .slice none 0 0] 32)).heap.size := by simp
  have HX0 := Lib.hid X
  have HY0 := Lib.hid Y
  have HB0 := Lib.hid hb.drew
  have HZ0 := Lib.hid hz0
  clear X Y hb hz0
  generalize (w.alloc (.cells #[.slice U nu cu, .slice D nd cd, .slice C nc cc] 32)).alloc (.cells #[.slice none 0 0, .slice none 0 0, .slice none 0 0] 32) = W at *
  go_region_held3 (fun w' => ∀ o, w'.cell? ⟨w.heap.size, o, none⟩ = (#[.slice U nu cu, .slice D nd cd, .slice C nc cc] : Array Value)[o]?) (first | exact HX0.out.cells | exact HX1.out.cells | exact HX2.out.cells | exact HX3.out.cells | exact (((HX3.out.far _ _ (by simp)).far _ _ (by simp)).far _ _ (by simp)).cells) (first
    | (go_at_call 115; (with_reducible refine (copyTruths_any (n := nu) (p := up) n1 (Nat.le_trans hB HB0.out.size) (HU.out.below (HB0.out.mono hB))).mono ?_); rintro e w1 ⟨U', cu', rfl, hr1, hb1⟩; have HX1 := Lib.hid (HX0.out.below (w := W.drew) hb1 HX0.out.lt); have HY1 := Lib.hid (HY0.out.below (w := W.drew) hb1 HY0.out.lt))
    | (go_at_call 115; (with_reducible refine (copyTruths_any (n := nd) (p := dn) n2 hb1.size (((HD.out.below (HB0.out.mono hB)).more (Nat.le_trans hB HB0.out.size)).below hb1)).mono ?_); rintro e w2 ⟨D', cd', rfl, hr2, hb2⟩; have HX2 := Lib.hid (HX1.out.below hb2 HX1.out.lt); have HY2 := Lib.hid (HY1.out.below hb2 HY1.out.lt))
    | (go_at_call 115; (with_reducible refine (copyTruths_any (n := nc) (p := car) n3 (Nat.le_trans hb1.size hb2.size) (((HC.out.below (HB0.out.mono hB)).more (Nat.le_trans hB HB0.out.size)).below (hb1.trans (hb2.mono hb1.size)))).mono ?_); rintro e w3 ⟨C', cc', rfl, hr3, hb3⟩; have HX3 := Lib.hid (HX2.out.below hb3 HX2.out.lt); have HY3 := Lib.hid (HY2.out.below hb3 HY2.out.lt); have c1 := HY3.out.cells; have z1 := HY3.out.free; simp only [World.alloc, Array.size_push] at c1 z1))
  have hb0 := hb3
  have HP1 := Lib.hid hr1.place
  have HP2 := Lib.hid hr2.place
  have HP3 := Lib.hid hr3.place
  have HB3 := Lib.hid (HB0.out.trans ((hb1.trans ((hb2.trans (hb3.mono hb2.size)).mono hb1.size)).mono HB0.out.size))
  have HR1 := Lib.hid ((hr1.below hb2 (Nat.le_refl _)).below hb3 (Nat.le_refl _))
  have HR2 := Lib.hid (hr2.below hb3 (Nat.le_refl _))
  have HR3 := Lib.hid hr3
  have hs1 : w.heap.size + 2 ≤ W.heap.size := by rw [HZ0.out]; exact Nat.le_refl _
  have hs2 : W.drew.heap.size ≤ w1.heap.size := hb1.size
  have hs2' : W.heap.size ≤ w1.heap.size := hs2
  have hs3 := hb2.size
  have hs4 := hb3.size
  clear hr1 hr2 hr3 hb1 hb2 hb3 hb0
  go_wp2
  refine bodyPost_ret (v := .agg #[.slice U' nu cu', .slice D' nd cd', .slice C' nc cc']) (by simp [results, Try.results77, go_sem, c1]) rfl ⟨U', cu', D', cd', C', cc', rfl, ?_, ?_⟩
  · refine ⟨?_, ?_, ?_, HP1.out.apart HP2.out (Nat.le_refl _), HP1.out.apart HP3.out hs3, HP2.out.apart HP3.out (Nat.le_refl _)⟩
    · exact ((((HR1.out.mono (base' := w.heap.size + 2) hs1).far _ _ (by simp)).far _ _ (by simp)).far _ _ (by simp)).mono (by omega)
    · exact ((((HR2.out.mono (base' := w.heap.size + 2) (by omega)).far _ _ (by simp)).far _ _ (by simp)).far _ _ (by simp)).mono (by omega)
    · exact ((((HR3.out.mono (base' := w.heap.size + 2) (by omega)).far _ _ (by simp)).far _ _ (by simp)).far _ _ (by simp)).mono (by omega)
  · exact ((HB3.out.setCell (by simp <;> omega) _).setCell (by simp <;> omega) _).setCell (by simp <;> omega) _

/-- Two boxes, the one of them just below the other, in a world behind both. -/
theorem boxes2' {w w' : World} {P R : Array Value} {T T' : TypeId} (h : Below ((w.alloc (.cells P T)).alloc (.cells R T')).heap.size ((w.alloc (.cells P T)).alloc (.cells R T')) w') :
    Bx w' w.heap.size P ∧ Bx w' (w.heap.size + 1) R ∧ Below w.heap.size w w' ∧ w.heap.size + 2 ≤ w'.heap.size := by
  have a := (Bx.new w P T).alloc (.cells R T')
  have b := Bx.new (w.alloc (.cells P T)) R T'
  have hs : (w.alloc (.cells P T)).heap.size = w.heap.size + 1 := by simp
  rw [hs] at b
  have c := ((Below.refl w.heap.size w).alloc (Nat.le_refl _) (.cells P T)).alloc (by simp) (.cells R T')
  refine ⟨a.below h a.lt, b.below h b.lt, c.trans (h.mono (by simp <;> omega)), ?_⟩
  have := h.size
  simp at this
  omega

set_option maxHeartbeats 3200000 in
theorem copyBuilding_any {w : World} {B : Nat} {v : Bv} {b : Bld} (hp : 0 < b.n) (n0 : b.n ≤ 100000000) (n1 : b.nu ≤ 100000000) (n2 : b.nd ≤ 100000000) (n3 : b.nc ≤ 100000000) (hB : B ≤ w.heap.size) (hr : ReadB w B v b) :
    Calls Try.prog 73 #[bval v b] w fun e w' => ∃ v', e = .returned (bval v' b) ∧ OwnB w' w.heap.size v' b ∧ Below w.heap.size w w' := by
  have HR := Lib.hid hr
  clear hr
  unfold bval bcells
  go_enter Try.func73, Try.ntmps73
  go_wp2_with fail
  refine (Clone_any n0 (Nat.le_trans hB (by simp <;> omega)) hp ((HR.out.alloc hB _).alloc (Nat.le_trans hB (by simp <;> omega)) _).h).mono ?_
  rintro e w1 ⟨A', c', rfl, hr1, hb1⟩
  obtain ⟨x, y, hbb, hs1⟩ := boxes2' hb1
  have HX := Lib.hid x
  have HY := Lib.hid y
  have HB := Lib.hid hbb
  have H1 := hr1.mono (base' := w.heap.size + 2) (by simp)
  have HP1 := Lib.hid H1.place
  have HH1 := Lib.hid H1
  have c0 := x.cells
  have z0 := x.free
  have HRs := Lib.hid (HR.out.below ((HB.out.setCell (p := ⟨w.heap.size, 0, none⟩) (by simp) (.slice A' b.n c')).mono hB))
  clear hb1 x y hbb hr1 H1
  go_wp2_with fail
  refine (copyCalls_any (by omega) (by omega) (by omega) (Nat.le_trans hB (by have := HB.out.size; simpa using this)) HRs.out.u HRs.out.d HRs.out.c).mono ?_
  rintro e w2 ⟨U', cu', D', cd', C', cc', rfl, hk, hb2⟩
  have x2 := (HX.out.set 0 (.slice A' b.n c')).below hb2 (HX.out.set 0 (.slice A' b.n c')).lt
  have y2 := (HY.out.far ⟨w.heap.size, 0, none⟩ (.slice A' b.n c') (by simp)).below hb2 (HY.out.far _ _ (by simp)).lt
  have h2 := (HH1.out.far ⟨w.heap.size, 0, none⟩ (.slice A' b.n c') (by simp)).below hb2 (Nat.le_refl _)
  have b2 := (HB.out.setCell (p := ⟨w.heap.size, 0, none⟩) (by simp) (.slice A' b.n c')).trans (hb2.mono (by simp <;> omega))
  have hs2 : w1.heap.size ≤ w2.heap.size := by have := hb2.size; simpa using this
  have hk' := hk.mono (base' := w1.heap.size) (by simp)
  have HOWN : Hid (OwnB w2 (w.heap.size + 2) ⟨A', c', U', cu', D', cd', C', cc'⟩ b) := Lib.hid ⟨h2, hk'.mono hs1, HP1.out.apart hk'.u.place (Nat.le_refl _), HP1.out.apart hk'.d.place (Nat.le_refl _), HP1.out.apart hk'.c.place (Nat.le_refl _)⟩
  have HX2 := Lib.hid x2
  have HY2 := Lib.hid y2
  have HB2 := Lib.hid b2
  clear c0 z0
  have c0 := x2.cells
  have z0 := x2.free
  have c1 := y2.cells
  have z1 := y2.free
  clear hb2 x2 y2 h2 b2 hk hk' HH1 HX HY HRs
  go_wp2
  refine bodyPost_ret (v := bval ⟨A', c', U', cu', D', cd', C', cc'⟩ b) (by simp [bval, bcells, results, Try.results73, go_sem, c0, c1]) rfl ⟨⟨A', c', U', cu', D', cd', C', cc'⟩, rfl, ?_, ?_⟩
  · exact (sets_own (putL (w.heap.size + 1) ⟨A', c', U', cu', D', cd', C', cc'⟩ b) (sets_own [(⟨w.heap.size, 5, none⟩, .slice U' b.nu cu'), (⟨w.heap.size, 6, none⟩, .slice D' b.nd cd'), (⟨w.heap.size, 7, none⟩, .slice C' b.nc cc')] HOWN.out (by simp <;> omega)) (fun q hq => by rw [putL_block q hq]; omega)).mono (by omega)
  · exact sets_below (putL (w.heap.size + 1) ⟨A', c', U', cu', D', cd', C', cc'⟩ b) (sets_below [(⟨w.heap.size, 5, none⟩, .slice U' b.nu cu'), (⟨w.heap.size, 6, none⟩, .slice D' b.nd cd'), (⟨w.heap.size, 7, none⟩, .slice C' b.nc cc')] HB2.out (by simp <;> omega)) (fun q hq => by rw [putL_block q hq]; omega)
end Go.Proofs.Ytailpiagjemhpaa
