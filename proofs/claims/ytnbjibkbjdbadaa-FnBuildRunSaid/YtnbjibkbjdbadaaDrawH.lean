/-
  The contracts of the drawings of a building beside something else. No claim stands here.
-/
import Derived.Test.YtnbjibkbjdbadaaDrawG
namespace Go.Proofs.Ytnbjibkbjdbadaa
open Go.RowKit
set_option linter.unusedVariables false
set_option linter.unusedSimpArgs false

theorem ReadB.picked {W W' : World} {B g : Nat} {v : Bv} {b : Bld} (r : ReadB W B v b) (hB : B ≤ W.heap.size) (hg : W.grownBy W' (some g)) (h : Off g v) : ReadB W' B v b := by
  refine ⟨?_, ?_, ?_, ?_, r.hn, r.un, r.dn, r.cn⟩
  · intro hn
    obtain ⟨b', off, hA, hb, hc⟩ := r.h hn
    exact ⟨b', off, hA, hb, fun i hi => (World.cell?_of_block (hg.block b' (by omega) (by intro e; cases e; exact h.a _ hA rfl))).trans (hc i hi)⟩
  · intro hn
    obtain ⟨b', off, hA, hb, hc⟩ := r.u hn
    exact ⟨b', off, hA, hb, fun i hi => (World.cell?_of_block (hg.block b' (by omega) (by intro e; cases e; exact h.u _ hA rfl))).trans (hc i hi)⟩
  · intro hn
    obtain ⟨b', off, hA, hb, hc⟩ := r.d hn
    exact ⟨b', off, hA, hb, fun i hi => (World.cell?_of_block (hg.block b' (by omega) (by intro e; cases e; exact h.d _ hA rfl))).trans (hc i hi)⟩
  · intro hn
    obtain ⟨b', off, hA, hb, hc⟩ := r.c hn
    exact ⟨b', off, hA, hb, fun i hi => (World.cell?_of_block (hg.block b' (by omega) (by intro e; cases e; exact h.c _ hA rfl))).trans (hc i hi)⟩
theorem drawn_last' {w w2 : World} {v : Bv} {b : Bld} (hb : Below w.heap.size w w2) (hr : ReadB w2 w2.heap.size v b) (hoff : Off w.heap.size v) :
    ReadB (sets w2 (putL w.heap.size v b)) (sets w2 (putL w.heap.size v b)).heap.size v b ∧ Below w.heap.size w (sets w2 (putL w.heap.size v b)) := drawn_last hb hr hoff

/-- What DrawBuildTick leaves. -/
def DrawnT (w : World) (e : Ending) (w' : World) : Prop := ∃ v b bl, e = .returned (.tuple #[bval v b, .bool bl]) ∧ ReadB w' w'.heap.size v b ∧ b.Upto 9 ∧ Below w.heap.size w w'
set_option maxHeartbeats 3200000 in
theorem DrawBuildTick_any {w : World} {B : Nat} {A : Option Addr} {n c : Nat} {h : Nat → Int} (hB : B ≤ w.heap.size) (hc : n ≤ c) (hs : Bytes w B A n h) :
    Calls Try.prog 22 #[.slice A n c] w (DrawnT w) := by
  have HX0 := Lib.hid (Bx.new w #[.slice none 0 0, .int .i64 0, .int .i64 0, .int .i64 0, .int .i64 0, .slice none 0 0, .slice none 0 0, .slice none 0 0, .int .i64 0, .int .i64 0, .bool false] 36)
  have HB0 := Lib.hid ((Below.refl w.heap.size w).alloc (Nat.le_refl _) (.cells #[.slice none 0 0, .int .i64 0, .int .i64 0, .int .i64 0, .int .i64 0, .slice none 0 0, .slice none 0 0, .slice none 0 0, .int .i64 0, .int .i64 0, .bool false] 36))
  have HS := Lib.hid (hs.below (HB0.out.mono hB))
  clear hs
  unfold DrawnT
  go_enter Try.func22, Try.ntmps22
  go_wp2_with fail
  refine (l20Open_any (Nat.le_trans hB (by simp)) hc HS.out).mono ?_
  rintro e w1 ⟨g, rfl, hgl, hr1, hb1⟩
  have hgl' : w.heap.size < g := by simp at hgl; omega
  have HX1 := Lib.hid (HX0.out.below hb1 HX0.out.lt)
  have HB1 := Lib.hid (HB0.out.trans (hb1.mono HB0.out.size))
  have HR1 := Lib.hid hr1
  have hs1 : w.heap.size + 1 ≤ w1.heap.size := by have := hb1.size; simpa using this
  clear hgl hb1 hr1 HX0 HB0 HS
  go_wp2_with fail
  refine (l20Building_any (by omega) (by omega) (by omega) HR1.out).mono ?_
  rintro e w2 ⟨v, b, rfl, hrb, hu, hr2, hg2, hoff⟩
  have HX2 := Lib.hid (HX1.out.kept hg2 (by omega))
  have HB2 := Lib.hid (below_grown HB1.out hg2 (by omega))
  have HRB := Lib.hid hrb
  have HOg := Lib.hid (hoff g HR1.out.lt)
  have HOw := Lib.hid (hoff w.heap.size (by omega))
  have HU := Lib.hid hu
  have HR2 := Lib.hid hr2
  clear hrb hu hr2 hg2 hoff HX1 HB1 HR1
  go_wp2_with fail
  refine (HR2.out.pick 3 (by omega) (by omega)).mono ?_
  rintro e w3 ⟨x3, rfl, hp3, hr3, hg3⟩
  have HX3 := Lib.hid (HX2.out.kept hg3 (by omega))
  have HE := Lib.hid (drawn_last (below_grown HB2.out hg3 (by omega)) ((HRB.out.picked (Nat.le_refl _) hg3 HOg.out).more hg3.size) HOw.out)
  clear hp3 hr3 hg3 HX2 HB2 HRB HR2
  have c2 := HX3.out.cells
  have f2 := HX3.out.free
  obtain ⟨A', cA', U', cu', D', cd', C', cc'⟩ := v
  obtain ⟨n', f', pos', sp', gap', hold', nu', up', nd', dn', nc', car', fl', dir', op'⟩ := b
  simp only [bval, bcells]
  simp only [sets, putL, List.foldl_cons, List.foldl_nil] at HE
  go_wp2
  refine bodyPost_ret (v := .tuple #[.agg #[.slice A' n' cA', .int .i64 pos', .int .i64 sp', .int .i64 gap', .int .i64 hold', .slice U' nu' cu', .slice D' nd' cd', .slice C' nc' cc', .int .i64 fl', .int .i64 dir', .bool op'], .bool (x3 == 0)]) (by simp [results, Try.results22, go_sem, c2]) rfl ⟨⟨A', cA', U', cu', D', cd', C', cc'⟩, ⟨n', f', pos', sp', gap', hold', nu', up', nd', dn', nc', car', fl', dir', op'⟩, x3 == 0, rfl, HE.out.1, HU.out, HE.out.2⟩

set_option maxHeartbeats 6400000 in
theorem DrawBuildQuiet_any {w : World} {B : Nat} {A : Option Addr} {n c : Nat} {h : Nat → Int} (hB : B ≤ w.heap.size) (hc : n ≤ c) (hs : Bytes w B A n h) :
    Calls Try.prog 26 #[.slice A n c] w (DrawnA w) := by
  have HX0 := Lib.hid (Bx.new w #[.slice none 0 0, .int .i64 0, .int .i64 0, .int .i64 0, .int .i64 0, .slice none 0 0, .slice none 0 0, .slice none 0 0, .int .i64 0, .int .i64 0, .bool false] 36)
  have HB0 := Lib.hid ((Below.refl w.heap.size w).alloc (Nat.le_refl _) (.cells #[.slice none 0 0, .int .i64 0, .int .i64 0, .int .i64 0, .int .i64 0, .slice none 0 0, .slice none 0 0, .slice none 0 0, .int .i64 0, .int .i64 0, .bool false] 36))
  have HS := Lib.hid (hs.below (HB0.out.mono hB))
  clear hs
  unfold DrawnA
  go_enter Try.func26, Try.ntmps26
  go_wp2_with fail
  refine (l20Open_any (Nat.le_trans hB (by simp)) hc HS.out).mono ?_
  rintro e w1 ⟨g, rfl, hgl, hr1, hb1⟩
  have hgl' : w.heap.size < g := by simp at hgl; omega
  have HX1 := Lib.hid (HX0.out.below hb1 HX0.out.lt)
  have HB1 := Lib.hid (HB0.out.trans (hb1.mono HB0.out.size))
  have HR1 := Lib.hid hr1
  have hs1 : w.heap.size + 1 ≤ w1.heap.size := by have := hb1.size; simpa using this
  clear hgl hb1 hr1 HX0 HB0 HS
  go_wp2_with fail
  refine (HR1.out.pick 3 (by omega) (by omega)).mono ?_
  rintro e w2 ⟨x2, rfl, hp2, hr2, hg2⟩
  have HX2 := Lib.hid (HX1.out.kept hg2 (by omega))
  have HB2 := Lib.hid (below_grown HB1.out hg2 (by omega))
  have HR2 := Lib.hid hr2
  have hs2 : w.heap.size + 1 ≤ w2.heap.size := Nat.le_trans hs1 hg2.size
  clear hp2 hr2 hg2 HX1 HB1 HR1
  cases hx : (x2 == 0)
  · go_wp2_with fail
    clear hx
    refine (l20Building_any (by omega) (by omega) (by omega) HR2.out).mono ?_
    rintro e w3 ⟨v, b, rfl, hrb, hu, hr3, hg3, hoff⟩
    have HX3 := Lib.hid (HX2.out.kept hg3 (by omega))
    have HE := Lib.hid (drawn_last (below_grown HB2.out hg3 (by omega)) hrb (hoff _ (by omega)))
    have HU := Lib.hid hu
    clear hrb hu hr3 hg3 hoff HX2 HB2 HR2
    have c2 := HX3.out.cells
    have f2 := HX3.out.free
    obtain ⟨A', cA', U', cu', D', cd', C', cc'⟩ := v
    obtain ⟨n', f', pos', sp', gap', hold', nu', up', nd', dn', nc', car', fl', dir', op'⟩ := b
    simp only [bval, bcells]
    simp only [sets, putL, List.foldl_cons, List.foldl_nil] at HE
    go_wp2
    refine bodyPost_ret (v := .agg #[.slice A' n' cA', .int .i64 pos', .int .i64 sp', .int .i64 gap', .int .i64 hold', .slice U' nu' cu', .slice D' nd' cd', .slice C' nc' cc', .int .i64 fl', .int .i64 dir', .bool op']) (by simp [results, Try.results26, go_sem, c2]) rfl ⟨⟨A', cA', U', cu', D', cd', C', cc'⟩, ⟨n', f', pos', sp', gap', hold', nu', up', nd', dn', nc', car', fl', dir', op'⟩, rfl, HE.out.1, HU.out, HE.out.2⟩
  · go_wp2_with fail
    clear hx
    refine (l20Floors_zero (by omega) HR2.out).mono ?_
    rintro e w3 ⟨A', n', c', f', rfl, hn1, hn8, hrow, hr3, hg3⟩
    have HX3 := Lib.hid (HX2.out.kept hg3 (by omega))
    have HB3 := Lib.hid (below_grown HB2.out hg3 (by omega))
    have HROW := Lib.hid (hrow.mono (base' := w.heap.size + 1) hs2)
    clear hrow hr3 hg3 HX2 HB2 HR2
    go_wp2_with fail
    refine (CallsNone_any hn1 hn8 _).mono ?_
    rintro e w4 ⟨U', cu', D', cd', C', cc', rfl, hk, hb4⟩
    have HX4 := Lib.hid (HX3.out.below hb4 HX3.out.lt)
    have HK := Lib.hid (hk.mono (base' := w.heap.size + 1) (Nat.le_trans HX3.out.lt (Nat.le_refl _)))
    have HROW4 := Lib.hid (HROW.out.below hb4 (Nat.le_refl _))
    have HE := Lib.hid (drawn_last (v := ⟨A', c', U', cu', D', cd', C', cc'⟩) (b := ⟨n', f', 0, 0, 0, 0, n', fun _ => false, n', fun _ => false, n', fun _ => false, -1, 1, false⟩) (HB3.out.trans (hb4.mono HB3.out.size))
      ⟨HROW4.out.ints, HK.out.u.bools, HK.out.d.bools, HK.out.c.bools, HROW4.out.none_cap', HK.out.u.none_cap', HK.out.d.none_cap', HK.out.c.none_cap'⟩
      ⟨fun x hx => by have := (HROW4.out.place x hx).1; omega, fun x hx => by have := (HK.out.u.place x hx).1; omega, fun x hx => by have := (HK.out.d.place x hx).1; omega, fun x hx => by have := (HK.out.c.place x hx).1; omega⟩)
    clear hk hb4 HB3 HROW HX3
    have c2 := HX4.out.cells
    have f2 := HX4.out.free
    simp only [sets, putL, List.foldl_cons, List.foldl_nil] at HE
    go_wp2
    refine bodyPost_ret (v := .agg #[.slice A' n' c', .int .i64 0, .int .i64 0, .int .i64 0, .int .i64 0, .slice U' n' cu', .slice D' n' cd', .slice C' n' cc', .int .i64 (-1), .int .i64 1, .bool false]) (by simp [results, Try.results26, go_sem, c2]) rfl ⟨⟨A', c', U', cu', D', cd', C', cc'⟩, ⟨n', f', 0, 0, 0, 0, n', fun _ => false, n', fun _ => false, n', fun _ => false, -1, 1, false⟩, rfl, HE.out.1, ⟨by simp only; omega, by simp only; omega, by simp only; omega, by simp only; omega⟩, HE.out.2⟩
end Go.Proofs.Ytnbjibkbjdbadaa
