/-
  The contract of BuildCall on a valid building. No claim stands here.
-/
import Derived.Test.YthkpikkjgggimaaGreatDoorAsk
namespace Go.Proofs.YthkpikkjgggimaaGreatDoor
open Go.RowKit
set_option linter.unusedVariables false
set_option linter.unusedSimpArgs false

theorem calls_at {P : Program} {f : FuncId} {args : Array Value} {W W' : World} {Q : Ending → World → Prop} (h : W = W') (hc : Calls P f args W Q) : Calls P f args W' Q := by
  subst h; exact hc
/-- A whole building of the call's own is stored into a box: what holds of the world then. -/
theorem store_building {w W : World} {g g1 base : Nat} {a0 a1 a2 a3 a4 a5 a6 a7 a8 a9 a10 : Value} {R : Array Value} (v : Bv) (b : Bld) (x : Bx W g #[a0, a1, a2, a3, a4, a5, a6, a7, a8, a9, a10]) (y : Bx W g1 R) (hne : g ≠ g1)
    (hb : Below w.heap.size w W) (hg : w.heap.size ≤ g) (ho : OwnB W base v b) (hgb : g < base) (hbase : base ≤ W.heap.size) :
    ∃ W3, W3 = sets W (putL g v b) ∧ Bx W3 g (bcells v b) ∧ Bx W3 g1 R ∧ Below w.heap.size w W3 ∧ OwnB W3 base v b ∧ base ≤ W3.heap.size :=
  ⟨_, rfl, x.put v b, sets_bx _ y (fun q hq => by rw [putL_block q hq]; exact hne), sets_below _ hb (fun q hq => by rw [putL_block q hq]; exact hg), sets_own _ ho (fun q hq => by rw [putL_block q hq]; exact hgb), by rw [sets_size]; exact hbase⟩

set_option maxHeartbeats 6400000 in
theorem impl_BuildCall_yes {w : World} {B : Nat} {v : Bv} {n : Nat} {f : Nat → Int} {pos sp gap hold fl0 dir : Int} {up dn car : Nat → Bool} {op : Bool} (kind fl : Int) (hB : B ≤ w.heap.size)
    (hr : ReadB w B v ⟨n, f, pos, sp, gap, hold, n, up, n, dn, n, car, fl0, dir, op⟩) (hv : Bld.valid ⟨n, f, pos, sp, gap, hold, n, up, n, dn, n, car, fl0, dir, op⟩ = true) :
    Calls Tryz.prog 51 #[bval v ⟨n, f, pos, sp, gap, hold, n, up, n, dn, n, car, fl0, dir, op⟩, .int .i64 kind, .int .i64 fl] w (CallPost ⟨n, f, pos, sp, gap, hold, n, up, n, dn, n, car, fl0, dir, op⟩ kind fl w) := by
  obtain ⟨_, _, _, hn1, hn8⟩ := (valid_iff.1 hv).sizes
  simp only at hn1 hn8
  have HC := Lib.hid (show callsB n n n up dn = true from (valid_iff.1 hv).calls)
  have HR := Lib.hid hr
  have HV := Lib.hid hv
  have HE := Lib.hid (called_yes (kind := kind) (fl := fl) hv)
  clear hr hv
  unfold CallPost
  rw [HE.out.1, HE.out.2]
  unfold bval bcells
  go_enter Tryz.func51, Tryz.ntmps51
  go_wp2_with fail
  refine (impl_BuildValid (v := v) (b := ⟨n, f, pos, sp, gap, hold, n, up, n, dn, n, car, fl0, dir, op⟩) ⟨by simp; omega, by simp; omega, by simp; omega, by simp; omega⟩ (Nat.le_trans hB (by simp <;> omega)) ((HR.out.alloc hB _).alloc (Nat.le_trans hB (by simp <;> omega)) _)).mono ?_
  rintro e w1 ⟨rfl, hb1⟩
  obtain ⟨x, y, hbb, hs1⟩ := boxes2' hb1
  have HX1 := Lib.hid x
  have HY1 := Lib.hid y
  have HB1 := Lib.hid hbb
  have c0 := x.cells
  clear hb1 x y hbb
  rw [HV.out]
  go_wp2_with fail
  refine (copyBuilding_any (v := v) (b := ⟨n, f, pos, sp, gap, hold, n, up, n, dn, n, car, fl0, dir, op⟩) (by simp; omega) (by simp; omega) (by simp; omega) (by simp; omega) (by simp; omega) (Nat.le_trans hB HB1.out.size) (HR.out.below (HB1.out.mono hB))).mono ?_
  rintro e w2 ⟨v2, rfl, ho2, hb2⟩
  have x2 := HX1.out.below hb2 HX1.out.lt
  have z0 := x2.free
  have c2 := x2.cells
  have F2 := store_building v2 ⟨n, f, pos, sp, gap, hold, n, up, n, dn, n, car, fl0, dir, op⟩ x2 (HY1.out.below hb2 HY1.out.lt) (by omega) (HB1.out.trans (hb2.mono HB1.out.size)) (Nat.le_refl _) (ho2.mono (base' := w.heap.size + 2) hs1) (by omega) (Nat.le_trans hs1 hb2.size)
  clear hb2 ho2 x2 c0 HX1 HY1 HB1
  obtain ⟨W3, hW, x3, y3, hb3, ho3, hs3⟩ := F2
  have HX3 := Lib.hid x3
  have HY3 := Lib.hid y3
  have HB3 := Lib.hid hb3
  have HO3 := Lib.hid ho3
  have HW := Lib.hid hW
  clear x3 y3 hb3 ho3 hW
  simp only [bval, bcells]
  go_wp2_with fail
  refine calls_at HW.out ?_
  refine (impl_CallSet (up := up) (dn := dn) (car := car) kind fl true HC.out (Nat.le_refl _) HO3.out.read.u HO3.out.read.d HO3.out.read.c).mono ?_
  unfold SetPost
  rintro e w4 ⟨U4, cu4, D4, cd4, C4, cc4, rfl, hk4, hb4⟩
  have HX4 := Lib.hid (HX3.out.below hb4 HX3.out.lt)
  have HY4 := Lib.hid (HY3.out.below hb4 HY3.out.lt)
  have HB4 := Lib.hid (HB3.out.trans (hb4.mono HB3.out.size))
  have HO4 := Lib.hid (own_called HO3.out hb4 hk4 hs3 fl0 dir pos sp gap hold op)
  have hs4 := hb4.size
  clear hb4 hk4 HX3 HY3 HB3 HO3 HW z0 c2
  unfold bcells at HX4
  have HX5 := Lib.hid (HX4.out.alloc (.cells #[.slice U4 n cu4, .slice D4 n cd4, .slice C4 n cc4] 32))
  have HY5 := Lib.hid (HY4.out.alloc (.cells #[.slice U4 n cu4, .slice D4 n cd4, .slice C4 n cc4] 32))
  have c0 := HX5.out.cells
  have z0 := HX5.out.free
  have c1 := HY5.out.cells
  have z1 := HY5.out.free
  go_wp2
  refine bodyPost_ret (v := .tuple #[bval ⟨v2.A, v2.c, U4, cu4, D4, cd4, C4, cc4⟩ (Bld.ask ⟨n, f, pos, sp, gap, hold, n, up, n, dn, n, car, fl0, dir, op⟩ kind fl), .bool (setOk n up dn kind fl true)]) (by simp [bval, bcells, Bld.ask, results, Tryz.results51, go_sem, c0, c1]) rfl ⟨⟨v2.A, v2.c, U4, cu4, D4, cd4, C4, cc4⟩, rfl, ?_, ?_⟩
  · refine OwnB.mono (base := w.heap.size + 2) ?_ (by omega)
    repeat (refine ownB_set (by simp <;> omega) ?_)
    exact HO4.out.below ((Below.refl _ _).alloc (Nat.le_refl _) _) (Nat.le_refl _)
  · repeat (refine below_set (by simp <;> omega) ?_)
    exact HB4.out.alloc (HB4.out.size) _

set_option maxHeartbeats 6400000 in
theorem spec_BuildCall_yes {w : World} {B : Nat} {v : Bv} {n : Nat} {f : Nat → Int} {pos sp gap hold fl0 dir : Int} {up dn car : Nat → Bool} {op : Bool} (kind fl : Int) (hB : B ≤ w.heap.size)
    (hr : ReadB w B v ⟨n, f, pos, sp, gap, hold, n, up, n, dn, n, car, fl0, dir, op⟩) (hv : Bld.valid ⟨n, f, pos, sp, gap, hold, n, up, n, dn, n, car, fl0, dir, op⟩ = true) :
    Calls Tryz.prog 61 #[bval v ⟨n, f, pos, sp, gap, hold, n, up, n, dn, n, car, fl0, dir, op⟩, .int .i64 kind, .int .i64 fl] w (CallPost ⟨n, f, pos, sp, gap, hold, n, up, n, dn, n, car, fl0, dir, op⟩ kind fl w) := by
  obtain ⟨_, _, _, hn1, hn8⟩ := (valid_iff.1 hv).sizes
  simp only at hn1 hn8
  have HC := Lib.hid (show callsB n n n up dn = true from (valid_iff.1 hv).calls)
  have HR := Lib.hid hr
  have HV := Lib.hid hv
  have HE := Lib.hid (called_yes (kind := kind) (fl := fl) hv)
  clear hr hv
  unfold CallPost
  rw [HE.out.1, HE.out.2]
  unfold bval bcells
  go_enter Tryz.func61, Tryz.ntmps61
  go_wp2_with fail
  refine (spec_BuildValid (v := v) (b := ⟨n, f, pos, sp, gap, hold, n, up, n, dn, n, car, fl0, dir, op⟩) ⟨by simp; omega, by simp; omega, by simp; omega, by simp; omega⟩ (Nat.le_trans hB (by simp <;> omega)) ((HR.out.alloc hB _).alloc (Nat.le_trans hB (by simp <;> omega)) _)).mono ?_
  rintro e w1 ⟨rfl, hb1⟩
  obtain ⟨x, y, hbb, hs1⟩ := boxes2' hb1
  have HX1 := Lib.hid x
  have HY1 := Lib.hid y
  have HB1 := Lib.hid hbb
  have c0 := x.cells
  clear hb1 x y hbb
  rw [HV.out]
  go_wp2_with fail
  refine (l27Copy_any (v := v) (b := ⟨n, f, pos, sp, gap, hold, n, up, n, dn, n, car, fl0, dir, op⟩) (by simp; omega) (by simp; omega) (by simp; omega) (by simp; omega) (by simp; omega) (by simp; omega) (by simp; omega) (by simp; omega) (Nat.le_trans hB HB1.out.size) (HR.out.below (HB1.out.mono hB))).mono ?_
  rintro e w2 ⟨v2, rfl, ho2, hb2⟩
  have hs2 := hb2.size
  simp only [bval]
  have HX3 := Lib.hid ((HX1.out.below hb2 HX1.out.lt).alloc (.cells (bcells v2 ⟨n, f, pos, sp, gap, hold, n, up, n, dn, n, car, fl0, dir, op⟩) 36))
  have HY3 := Lib.hid ((HY1.out.below hb2 HY1.out.lt).alloc (.cells (bcells v2 ⟨n, f, pos, sp, gap, hold, n, up, n, dn, n, car, fl0, dir, op⟩) 36))
  have HZ3 := Lib.hid (Bx.new w2 (bcells v2 ⟨n, f, pos, sp, gap, hold, n, up, n, dn, n, car, fl0, dir, op⟩) 36)
  have HB3 := Lib.hid ((HB1.out.trans (hb2.mono HB1.out.size)).alloc (Nat.le_trans HB1.out.size hb2.size) (.cells (bcells v2 ⟨n, f, pos, sp, gap, hold, n, up, n, dn, n, car, fl0, dir, op⟩) 36))
  have HO3 := Lib.hid ((ho2.mono (base' := w.heap.size + 2) hs1).below ((Below.refl w2.heap.size w2).alloc (Nat.le_refl _) (.cells (bcells v2 ⟨n, f, pos, sp, gap, hold, n, up, n, dn, n, car, fl0, dir, op⟩) 36)) (Nat.le_refl _))
  have HPA := Lib.hid ho2.h.place
  clear hb2 ho2 c0 HX1 HY1 HB1
  unfold bcells at *
  have c0 := HX3.out.cells
  go_wp2_with fail
  refine (spec_CallSet (up := up) (dn := dn) (car := car) kind fl true HC.out (Nat.le_trans hB HB3.out.size) (HR.out.below (HB3.out.mono hB)).u (HR.out.below (HB3.out.mono hB)).d (HR.out.below (HB3.out.mono hB)).c).mono ?_
  unfold SetPost
  rintro e w4 ⟨U4, cu4, D4, cd4, C4, cc4, rfl, hk4, hb4⟩
  have HY4 := Lib.hid (HY3.out.below hb4 HY3.out.lt)
  have HZ4 := Lib.hid (HZ3.out.below hb4 HZ3.out.lt)
  have HB4 := Lib.hid (HB3.out.trans (hb4.mono HB3.out.size))
  have HO4 := Lib.hid (own_called HO3.out hb4 hk4 (by simp; omega) fl0 dir pos sp gap hold op)
  have HOFF := Lib.hid (off_called (g := w2.heap.size) HPA.out hk4 (by simp))
  have hs4 : w2.heap.size + 1 ≤ w4.heap.size := by have := hb4.size; simpa using this
  clear hb4 hk4 HX3 HY3 HZ3 HB3 HO3 c0
  have HY5 := Lib.hid (HY4.out.alloc (.cells #[.slice U4 n cu4, .slice D4 n cd4, .slice C4 n cc4] 32))
  have HZ5 := Lib.hid (HZ4.out.alloc (.cells #[.slice U4 n cu4, .slice D4 n cd4, .slice C4 n cc4] 32))
  have c1 := HY5.out.cells
  have z1 := HY5.out.free
  have c2 := HZ5.out.cells
  have z2 := HZ5.out.free
  go_wp2
  refine bodyPost_ret (v := .tuple #[bval ⟨v2.A, v2.c, U4, cu4, D4, cd4, C4, cc4⟩ (Bld.ask ⟨n, f, pos, sp, gap, hold, n, up, n, dn, n, car, fl0, dir, op⟩ kind fl), .bool (setOk n up dn kind fl true)]) (by simp [bval, bcells, Bld.ask, results, Tryz.results61, go_sem, c1, c2]) rfl ⟨⟨v2.A, v2.c, U4, cu4, D4, cd4, C4, cc4⟩, rfl, ?_, ?_⟩
  · refine OwnB.mono (base := w.heap.size + 2) ?_ (by omega)
    repeat (first | refine ownB_off HOFF.out ?_ | refine ownB_set (by simp <;> omega) ?_)
    exact HO4.out.below ((Below.refl _ _).alloc (Nat.le_refl _) _) (Nat.le_refl _)
  · repeat (refine below_set (by simp <;> omega) ?_)
    exact HB4.out.alloc (HB4.out.size) _

theorem impl_BuildCall {w : World} {B : Nat} {v : Bv} {b : Bld} (kind fl : Int) (hn : b.Small) (hB : B ≤ w.heap.size) (hr : ReadB w B v b) :
    Calls Tryz.prog 51 #[bval v b, .int .i64 kind, .int .i64 fl] w (CallPost b kind fl w) := by
  cases hv : b.valid
  · exact impl_BuildCall_no kind fl hn hB hr hv
  · obtain ⟨e1, e2, e3, _⟩ := (valid_iff.1 hv).sizes
    obtain ⟨n, f, pos, sp, gap, hold, nu, up, nd, dn, nc, car, fl0, dir, op⟩ := b
    simp only at e1 e2 e3
    subst e1 e2 e3
    exact impl_BuildCall_yes kind fl hB hr hv
theorem spec_BuildCall {w : World} {B : Nat} {v : Bv} {b : Bld} (kind fl : Int) (hn : b.Small) (hB : B ≤ w.heap.size) (hr : ReadB w B v b) :
    Calls Tryz.prog 61 #[bval v b, .int .i64 kind, .int .i64 fl] w (CallPost b kind fl w) := by
  cases hv : b.valid
  · exact spec_BuildCall_no kind fl hn hB hr hv
  · obtain ⟨e1, e2, e3, _⟩ := (valid_iff.1 hv).sizes
    obtain ⟨n, f, pos, sp, gap, hold, nu, up, nd, dn, nc, car, fl0, dir, op⟩ := b
    simp only at e1 e2 e3
    subst e1 e2 e3
    exact spec_BuildCall_yes kind fl hB hr hv
end Go.Proofs.YthkpikkjgggimaaGreatDoor
