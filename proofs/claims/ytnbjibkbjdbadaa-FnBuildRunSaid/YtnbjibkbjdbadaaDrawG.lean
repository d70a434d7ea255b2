/-
  The contracts of the drawings of a building for a law. No claim stands here.
-/
import Derived.Test.YtnbjibkbjdbadaaDrawF
namespace Go.Proofs.Ytnbjibkbjdbadaa
open Go.RowKit
set_option linter.unusedVariables false
set_option linter.unusedSimpArgs false

/-- What a drawing of a building for a law leaves. -/
def DrawnA (w : World) (e : Ending) (w' : World) : Prop := ∃ v b, e = .returned (bval v b) ∧ ReadB w' w'.heap.size v b ∧ b.Upto 9 ∧ Below w.heap.size w w'
/-- The building is stored into the box of the result. -/
theorem drawn_last {w w2 : World} {v : Bv} {b : Bld} (hb : Below w.heap.size w w2) (hr : ReadB w2 w2.heap.size v b) (hoff : Off w.heap.size v) :
    ReadB (sets w2 (putL w.heap.size v b)) (sets w2 (putL w.heap.size v b)).heap.size v b ∧ Below w.heap.size w (sets w2 (putL w.heap.size v b)) := by
  refine ⟨?_, sets_below _ hb (fun q hq => by rw [putL_block q hq]; exact Nat.le_refl _)⟩
  rw [sets_size]
  exact readB_sets _ hr (fun q hq => by rw [putL_block q hq]; exact hoff)
theorem below_grown {w w1 w2 : World} {g : Nat} (hb : Below w.heap.size w w1) (hg : w1.grownBy w2 (some g)) (hgl : w.heap.size ≤ g) : Below w.heap.size w w2 :=
  hb.grown hg hb.size (by intro b e; cases e; exact hgl)

set_option maxHeartbeats 3200000 in
theorem DrawBuildValid_any {w : World} {B : Nat} {A : Option Addr} {n c : Nat} {h : Nat → Int} (hB : B ≤ w.heap.size) (hc : n ≤ c) (hs : Bytes w B A n h) :
    Calls Try.prog 11 #[.slice A n c] w (DrawnA w) := by
  have HX0 := Lib.hid (Bx.new w #[.slice none 0 0, .int .i64 0, .int .i64 0, .int .i64 0, .int .i64 0, .slice none 0 0, .slice none 0 0, .slice none 0 0, .int .i64 0, .int .i64 0, .bool false] 36)
  have HB0 := Lib.hid ((Below.refl w.heap.size w).alloc (Nat.le_refl _) (.cells #[.slice none 0 0, .int .i64 0, .int .i64 0, .int .i64 0, .int .i64 0, .slice none 0 0, .slice none 0 0, .slice none 0 0, .int .i64 0, .int .i64 0, .bool false] 36))
  have HS := Lib.hid (hs.below (HB0.out.mono hB))
  clear hs
  unfold DrawnA
  go_enter Try.func11, Try.ntmps11
  go_wp2_with fail
  refine (l20Open_any (Nat.le_trans hB (by simp)) hc HS.out).mono ?_
  rintro e w1 ⟨g, rfl, hgl, hr1, hb1⟩
  have hgl' : w.heap.size < g := by simp at hgl; omega
  have HX1 := Lib.hid (HX0.out.below hb1 HX0.out.lt)
  have HB1 := Lib.hid (HB0.out.trans (hb1.mono HB0.out.size))
  have HR1 := Lib.hid hr1
  have hs1 : w.heap.size + 1 ≤ w1.heap.size := by have := hb1.size; simpa using this
  clear hgl hb1 hr1 HX0 HB0 HS
  go_wp2_with fail
  refine (l20Building_any (by omega) (by omega) (by omega) HR1.out).mono ?_
  rintro e w2 ⟨v, b, rfl, hrb, hu, hr2, hg2, hoff⟩
  have HX2 := Lib.hid (HX1.out.kept hg2 (by omega))
  have HE := Lib.hid (drawn_last (below_grown HB1.out hg2 (by omega)) hrb (hoff _ (by omega)))
  have HU := Lib.hid hu
  clear hrb hu hr2 hg2 hoff HX1 HB1 HR1
  have c2 := HX2.out.cells
  have f2 := HX2.out.free
  obtain ⟨A', cA', U', cu', D', cd', C', cc'⟩ := v
  obtain ⟨n', f', pos', sp', gap', hold', nu', up', nd', dn', nc', car', fl', dir', op'⟩ := b
  simp only [bval, bcells]
  simp only [sets, putL, List.foldl_cons, List.foldl_nil] at HE
  go_wp2
  refine bodyPost_ret (v := .agg #[.slice A' n' cA', .int .i64 pos', .int .i64 sp', .int .i64 gap', .int .i64 hold', .slice U' nu' cu', .slice D' nd' cd', .slice C' nc' cc', .int .i64 fl', .int .i64 dir', .bool op']) (by simp [results, Try.results11, go_sem, c2]) rfl ⟨⟨A', cA', U', cu', D', cd', C', cc'⟩, ⟨n', f', pos', sp', gap', hold', nu', up', nd', dn', nc', car', fl', dir', op'⟩, rfl, HE.out.1, HU.out, HE.out.2⟩
set_option maxHeartbeats 3200000 in
theorem DrawRestTicks_any {w : World} {B : Nat} {A : Option Addr} {n c : Nat} {h : Nat → Int} (hB : B ≤ w.heap.size) (hc : n ≤ c) (hs : Bytes w B A n h) :
    Calls Try.prog 29 #[.slice A n c] w (DrawnA w) := by
  have HX0 := Lib.hid (Bx.new w #[.slice none 0 0, .int .i64 0, .int .i64 0, .int .i64 0, .int .i64 0, .slice none 0 0, .slice none 0 0, .slice none 0 0, .int .i64 0, .int .i64 0, .bool false] 36)
  have HB0 := Lib.hid ((Below.refl w.heap.size w).alloc (Nat.le_refl _) (.cells #[.slice none 0 0, .int .i64 0, .int .i64 0, .int .i64 0, .int .i64 0, .slice none 0 0, .slice none 0 0, .slice none 0 0, .int .i64 0, .int .i64 0, .bool false] 36))
  have HS := Lib.hid (hs.below (HB0.out.mono hB))
  clear hs
  unfold DrawnA
  go_enter Try.func29, Try.ntmps29
  go_wp2_with fail
  refine (l20Open_any (Nat.le_trans hB (by simp)) hc HS.out).mono ?_
  rintro e w1 ⟨g, rfl, hgl, hr1, hb1⟩
  have hgl' : w.heap.size < g := by simp at hgl; omega
  have HX1 := Lib.hid (HX0.out.below hb1 HX0.out.lt)
  have HB1 := Lib.hid (HB0.out.trans (hb1.mono HB0.out.size))
  have HR1 := Lib.hid hr1
  have hs1 : w.heap.size + 1 ≤ w1.heap.size := by have := hb1.size; simpa using this
  clear hgl hb1 hr1 HX0 HB0 HS
  go_wp2_with fail
  refine (l20Building_any (by omega) (by omega) (by omega) HR1.out).mono ?_
  rintro e w2 ⟨v, b, rfl, hrb, hu, hr2, hg2, hoff⟩
  have HX2 := Lib.hid (HX1.out.kept hg2 (by omega))
  have HE := Lib.hid (drawn_last (below_grown HB1.out hg2 (by omega)) hrb (hoff _ (by omega)))
  have HU := Lib.hid hu
  clear hrb hu hr2 hg2 hoff HX1 HB1 HR1
  have c2 := HX2.out.cells
  have f2 := HX2.out.free
  obtain ⟨A', cA', U', cu', D', cd', C', cc'⟩ := v
  obtain ⟨n', f', pos', sp', gap', hold', nu', up', nd', dn', nc', car', fl', dir', op'⟩ := b
  simp only [bval, bcells]
  simp only [sets, putL, List.foldl_cons, List.foldl_nil] at HE
  go_wp2
  refine bodyPost_ret (v := .agg #[.slice A' n' cA', .int .i64 pos', .int .i64 sp', .int .i64 gap', .int .i64 hold', .slice U' nu' cu', .slice D' nd' cd', .slice C' nc' cc', .int .i64 fl', .int .i64 dir', .bool op']) (by simp [results, Try.results29, go_sem, c2]) rfl ⟨⟨A', cA', U', cu', D', cd', C', cc'⟩, ⟨n', f', pos', sp', gap', hold', nu', up', nd', dn', nc', car', fl', dir', op'⟩, rfl, HE.out.1, HU.out, HE.out.2⟩
set_option maxHeartbeats 3200000 in
theorem DrawRestVisits_any {w : World} {B : Nat} {A : Option Addr} {n c : Nat} {h : Nat → Int} (hB : B ≤ w.heap.size) (hc : n ≤ c) (hs : Bytes w B A n h) :
    Calls Try.prog 36 #[.slice A n c] w (DrawnA w) := by
  have HX0 := Lib.hid (Bx.new w #[.slice none 0 0, .int .i64 0, .int .i64 0, .int .i64 0, .int .i64 0, .slice none 0 0, .slice none 0 0, .slice none 0 0, .int .i64 0, .int .i64 0, .bool false] 36)
  have HB0 := Lib.hid ((Below.refl w.heap.size w).alloc (Nat.le_refl _) (.cells #[.slice none 0 0, .int .i64 0, .int .i64 0, .int .i64 0, .int .i64 0, .slice none 0 0, .slice none 0 0, .slice none 0 0, .int .i64 0, .int .i64 0, .bool false] 36))
  have HS := Lib.hid (hs.below (HB0.out.mono hB))
  clear hs
  unfold DrawnA
  go_enter Try.func36, Try.ntmps36
  go_wp2_with fail
  refine (l20Open_any (Nat.le_trans hB (by simp)) hc HS.out).mono ?_
  rintro e w1 ⟨g, rfl, hgl, hr1, hb1⟩
  have hgl' : w.heap.size < g := by simp at hgl; omega
  have HX1 := Lib.hid (HX0.out.below hb1 HX0.out.lt)
  have HB1 := Lib.hid (HB0.out.trans (hb1.mono HB0.out.size))
  have HR1 := Lib.hid hr1
  have hs1 : w.heap.size + 1 ≤ w1.heap.size := by have := hb1.size; simpa using this
  clear hgl hb1 hr1 HX0 HB0 HS
  go_wp2_with fail
  refine (l20Building_any (by omega) (by omega) (by omega) HR1.out).mono ?_
  rintro e w2 ⟨v, b, rfl, hrb, hu, hr2, hg2, hoff⟩
  have HX2 := Lib.hid (HX1.out.kept hg2 (by omega))
  have HE := Lib.hid (drawn_last (below_grown HB1.out hg2 (by omega)) hrb (hoff _ (by omega)))
  have HU := Lib.hid hu
  clear hrb hu hr2 hg2 hoff HX1 HB1 HR1
  have c2 := HX2.out.cells
  have f2 := HX2.out.free
  obtain ⟨A', cA', U', cu', D', cd', C', cc'⟩ := v
  obtain ⟨n', f', pos', sp', gap', hold', nu', up', nd', dn', nc', car', fl', dir', op'⟩ := b
  simp only [bval, bcells]
  simp only [sets, putL, List.foldl_cons, List.foldl_nil] at HE
  go_wp2
  refine bodyPost_ret (v := .agg #[.slice A' n' cA', .int .i64 pos', .int .i64 sp', .int .i64 gap', .int .i64 hold', .slice U' nu' cu', .slice D' nd' cd', .slice C' nc' cc', .int .i64 fl', .int .i64 dir', .bool op']) (by simp [results, Try.results36, go_sem, c2]) rfl ⟨⟨A', cA', U', cu', D', cd', C', cc'⟩, ⟨n', f', pos', sp', gap', hold', nu', up', nd', dn', nc', car', fl', dir', op'⟩, rfl, HE.out.1, HU.out, HE.out.2⟩
set_option maxHeartbeats 3200000 in
theorem DrawRestEnd_any {w : World} {B : Nat} {A : Option Addr} {n c : Nat} {h : Nat → Int} (hB : B ≤ w.heap.size) (hc : n ≤ c) (hs : Bytes w B A n h) :
    Calls Try.prog 41 #[.slice A n c] w (DrawnA w) := by
  have HX0 := Lib.hid (Bx.new w #[.slice none 0 0, .int .i64 0, .int .i64 0, .int .i64 0, .int .i64 0, .slice none 0 0, .slice none 0 0, .slice none 0 0, .int .i64 0, .int .i64 0, .bool false] 36)
  have HB0 := Lib.hid ((Below.refl w.heap.size w).alloc (Nat.le_refl _) (.cells #[.slice none 0 0, .int .i64 0, .int .i64 0, .int .i64 0, .int .i64 0, .slice none 0 0, .slice none 0 0, .slice none 0 0, .int .i64 0, .int .i64 0, .bool false] 36))
  have HS := Lib.hid (hs.below (HB0.out.mono hB))
  clear hs
  unfold DrawnA
  go_enter Try.func41, Try.ntmps41
  go_wp2_with fail
  refine (l20Open_any (Nat.le_trans hB (by simp)) hc HS.out).mono ?_
  rintro e w1 ⟨g, rfl, hgl, hr1, hb1⟩
  have hgl' : w.heap.size < g := by simp at hgl; omega
  have HX1 := Lib.hid (HX0.out.below hb1 HX0.out.lt)
  have HB1 := Lib.hid (HB0.out.trans (hb1.mono HB0.out.size))
  have HR1 := Lib.hid hr1
  have hs1 : w.heap.size + 1 ≤ w1.heap.size := by have := hb1.size; simpa using this
  clear hgl hb1 hr1 HX0 HB0 HS
  go_wp2_with fail
  refine (l20Building_any (by omega) (by omega) (by omega) HR1.out).mono ?_
  rintro e w2 ⟨v, b, rfl, hrb, hu, hr2, hg2, hoff⟩
  have HX2 := Lib.hid (HX1.out.kept hg2 (by omega))
  have HE := Lib.hid (drawn_last (below_grown HB1.out hg2 (by omega)) hrb (hoff _ (by omega)))
  have HU := Lib.hid hu
  clear hrb hu hr2 hg2 hoff HX1 HB1 HR1
  have c2 := HX2.out.cells
  have f2 := HX2.out.free
  obtain ⟨A', cA', U', cu', D', cd', C', cc'⟩ := v
  obtain ⟨n', f', pos', sp', gap', hold', nu', up', nd', dn', nc', car', fl', dir', op'⟩ := b
  simp only [bval, bcells]
  simp only [sets, putL, List.foldl_cons, List.foldl_nil] at HE
  go_wp2
  refine bodyPost_ret (v := .agg #[.slice A' n' cA', .int .i64 pos', .int .i64 sp', .int .i64 gap', .int .i64 hold', .slice U' nu' cu', .slice D' nd' cd', .slice C' nc' cc', .int .i64 fl', .int .i64 dir', .bool op']) (by simp [results, Try.results41, go_sem, c2]) rfl ⟨⟨A', cA', U', cu', D', cd', C', cc'⟩, ⟨n', f', pos', sp', gap', hold', nu', up', nd', dn', nc', car', fl', dir', op'⟩, rfl, HE.out.1, HU.out, HE.out.2⟩
end Go.Proofs.Ytnbjibkbjdbadaa
