/-
  The contracts of the program's NextStop and ServeStop. No claim stands here.
-/
import Derived.Test.YthkpikkjgggimaaGreatDoorNext
import Derived.Test.YthkpikkjgggimaaGreatDoorSetK
namespace Go.Proofs.YthkpikkjgggimaaGreatDoor
open Go.RowKit
set_option linter.unusedVariables false
set_option linter.unusedSimpArgs false

theorem stopValid_yes {fl dir : Int} {n : Nat} (h0 : 0 ≤ fl) (h1 : fl < n) (hn : n ≤ 8) (hd : dir = 1 ∨ dir = -1) (w : World) :
    Calls Tryz.prog 124 #[.agg #[.int .i64 fl, .int .i64 dir], .int .i64 n] w fun e w' => e = .returned (.bool true) ∧ Below w.heap.size w w' := by
  have HI : Hid (inB fl 0 ((n : Int) - 1) = true) := Lib.hid (inB_iff.2 (by omega))
  rcases hd with rfl | rfl
  all_goals
    go_enter Tryz.func124, Tryz.ntmps124
    go_wp2_with fail
    refine (isFloor_any fl n _).mono ?_
    rintro e w1 ⟨rfl, rfl⟩
    rw [HI.out]
    go_wp2
    go_ret
    exact ⟨rfl, (Below.refl w.heap.size w).alloc (Nat.le_refl _) _⟩

def NextPost (n : Nat) (up dn car : Nat → Bool) (fl dir : Int) (w : World) (e : Ending) (w' : World) : Prop :=
  e = .returned (.agg #[.int .i64 (nextFl n up dn car fl dir), .int .i64 (nextDir n up dn car fl dir)]) ∧ Below w.heap.size w w'

set_option maxHeartbeats 6400000 in
theorem impl_NextStop {w : World} {B n : Nat} {U D C : Option Addr} {cu cd cc : Nat} {up dn car : Nat → Bool} {fl dir : Int} (hv : callsB n n n up dn = true) (h0 : 0 ≤ fl) (h1 : fl < n) (hd : dir = 1 ∨ dir = -1) (hB : B ≤ w.heap.size)
    (hu : Bools w B U n up) (hdn : Bools w B D n dn) (hc : Bools w B C n car) :
    Calls Tryz.prog 96 #[.agg #[.slice U n cu, .slice D n cd, .slice C n cc], .agg #[.int .i64 fl, .int .i64 dir]] w (NextPost n up dn car fl dir w) := by
  obtain ⟨hn1, hn8, _⟩ := callsB_iff.1 hv
  have HD := Lib.hid hd
  have HV := Lib.hid hv
  have HU := Lib.hid hu
  have HDN := Lib.hid hdn
  have HC := Lib.hid hc
  have d1 : -1 ≤ dir := by omega
  have d2 : dir ≤ 1 := by omega
  clear hu hdn hc hd hv
  unfold NextPost
  go_enter Tryz.func96, Tryz.ntmps96
  go_wp2_with fail
  refine (impl_CallsValid (nu := n) (nd := n) (nc := n) (up := up) (dn := dn) (by omega) (by omega) (by omega) (Nat.le_trans hB (by simp <;> omega)) (((HU.out.alloc hB _).alloc (Nat.le_trans hB (by simp <;> omega)) _).alloc (Nat.le_trans hB (by simp <;> omega)) _) (((HDN.out.alloc hB _).alloc (Nat.le_trans hB (by simp <;> omega)) _).alloc (Nat.le_trans hB (by simp <;> omega)) _)).mono ?_
  rintro e w1 ⟨rfl, hb1⟩
  rw [HV.out]
  obtain ⟨x, y, z, hbb, hs1⟩ := boxes3 hb1
  have HX1 := Lib.hid x
  have HY1 := Lib.hid y
  have HZ1 := Lib.hid z
  have HB1 := Lib.hid hbb
  have c0 := x.cells
  have c1 := y.cells
  clear hb1 x y z hbb
  go_wp2_with fail
  refine (stopValid_yes h0 h1 hn8 HD.out _).mono ?_
  rintro e w2 ⟨rfl, hb2⟩
  have HX2 := Lib.hid (HX1.out.below hb2 HX1.out.lt)
  have HY2 := Lib.hid (HY1.out.below hb2 HY1.out.lt)
  have HZ2 := Lib.hid (HZ1.out.below hb2 HZ1.out.lt)
  have HB2 := Lib.hid (HB1.out.trans (hb2.mono HB1.out.size))
  have hs2 := hb2.size
  clear hb2 c0 c1 HX1 HY1 HZ1 HB1
  have c0 := HX2.out.cells
  have c1 := HY2.out.cells
  go_wp2_with fail
  refine (stopToward_any (up := up) (dn := dn) (car := car) hn8 h0 h1 HD.out (Nat.le_trans hB HB2.out.size) (HU.out.below (HB2.out.mono hB)) (HDN.out.below (HB2.out.mono hB)) (HC.out.below (HB2.out.mono hB))).mono ?_
  rintro e w3 ⟨rfl, hb3⟩
  have HFL : Hid (nextFl n up dn car fl dir = if towardFl n up dn car fl dir < 0 then towardFl n up dn car fl (-dir) else towardFl n up dn car fl dir) := Lib.hid rfl
  have HDI : Hid (nextDir n up dn car fl dir = if towardFl n up dn car fl dir < 0 then towardDir n up dn car fl (-dir) else towardDir n up dn car fl dir) := Lib.hid rfl
  generalize towardFl n up dn car fl dir = tf at *
  generalize towardDir n up dn car fl dir = td at *
  have HX3 := Lib.hid ((HX2.out.below hb3 HX2.out.lt).alloc (.cells #[.int .i64 tf, .int .i64 td] 34))
  have HY3 := Lib.hid ((HY2.out.below hb3 HY2.out.lt).alloc (.cells #[.int .i64 tf, .int .i64 td] 34))
  have HZ3 := Lib.hid ((HZ2.out.below hb3 HZ2.out.lt).alloc (.cells #[.int .i64 tf, .int .i64 td] 34))
  have HT3 := Lib.hid (Bx.new w3 #[.int .i64 tf, .int .i64 td] 34)
  have HB3 := Lib.hid ((HB2.out.trans (hb3.mono HB2.out.size)).alloc (Nat.le_trans HB2.out.size hb3.size) (.cells #[.int .i64 tf, .int .i64 td] 34))
  have hs3 := hb3.size
  clear hb3 c0 c1 HX2 HY2 HZ2 HB2
  have c0 := HX3.out.cells
  have c1 := HY3.out.cells
  have c2 := HZ3.out.cells
  have z2 := HZ3.out.free
  have c3 := HT3.out.cells
  by_cases ht : tf < 0
  · go_wp2_with fail
    refine (stopToward_any (up := up) (dn := dn) (car := car) (dir := -dir) hn8 h0 h1 (by have := HD.out; omega) (Nat.le_trans hB HB3.out.size) (HU.out.below (HB3.out.mono hB)) (HDN.out.below (HB3.out.mono hB)) (HC.out.below (HB3.out.mono hB))).mono ?_
    rintro e w4 ⟨rfl, hb4⟩
    rw [if_pos ht] at HFL HDI
    generalize towardFl n up dn car fl (-dir) = tf2 at *
    generalize towardDir n up dn car fl (-dir) = td2 at *
    have HZ4 := Lib.hid (HZ3.out.below hb4 HZ3.out.lt)
    have HT4 := Lib.hid (HT3.out.below hb4 HT3.out.lt)
    have HB4 := Lib.hid (HB3.out.trans (hb4.mono HB3.out.size))
    clear hb4 c0 c1 c2 c3 z2 HX3 HY3 HZ3 HT3 HB3
    have c2 := HZ4.out.cells
    have z2 := HZ4.out.free
    have c3 := HT4.out.cells
    have z3 := HT4.out.free
    go_wp2
    refine bodyPost_ret (v := .agg #[.int .i64 tf2, .int .i64 td2]) (by simp [results, Tryz.results96, go_sem, c2, c3]) rfl ⟨by rw [HFL.out, HDI.out], ?_⟩
    repeat (refine below_set (by simp <;> omega) ?_)
    exact HB4.out
  · rw [if_neg ht] at HFL HDI
    go_wp2
    refine bodyPost_ret (v := .agg #[.int .i64 tf, .int .i64 td]) (by simp [results, Tryz.results96, go_sem, c2, c3]) rfl ⟨by rw [HFL.out, HDI.out], ?_⟩
    repeat (refine below_set (by simp <;> omega) ?_)
    exact HB3.out

/-- What ServeStop answers. -/
def ServePost (n : Nat) (up dn car : Nat → Bool) (fl dir : Int) (w : World) (e : Ending) (w' : World) : Prop :=
  ∃ U' cu' D' cd' C' cc', e = .returned (.agg #[.slice U' n cu', .slice D' n cd', .slice C' n cc']) ∧
    OwnC w' w.heap.size U' n cu' (serveUp up fl dir) D' n cd' (serveDn dn fl dir) C' n cc' (serveCar car fl) ∧ Below w.heap.size w w'

theorem serve_up {up dn car : Nat → Bool} {k : Nat} : serveUp up (k : Int) 1 = updB up k false ∧ serveDn dn (k : Int) 1 = dn ∧ serveCar car (k : Int) = updB car k false := by simp [serveUp, serveDn, serveCar]
theorem serve_dn {up dn car : Nat → Bool} {k : Nat} : serveUp up (k : Int) (-1) = up ∧ serveDn dn (k : Int) (-1) = updB dn k false ∧ serveCar car (k : Int) = updB car k false := by simp [serveUp, serveDn, serveCar]

set_option maxHeartbeats 6400000 in
theorem impl_ServeStop {w : World} {B n : Nat} {U D C : Option Addr} {cu cd cc : Nat} {up dn car : Nat → Bool} {fl dir : Int} (hv : callsB n n n up dn = true) (h0 : 0 ≤ fl) (h1 : fl < n) (hd : dir = 1 ∨ dir = -1) (hB : B ≤ w.heap.size)
    (hu : Bools w B U n up) (hdn : Bools w B D n dn) (hc : Bools w B C n car) :
    Calls Tryz.prog 94 #[.agg #[.slice U n cu, .slice D n cd, .slice C n cc], .agg #[.int .i64 fl, .int .i64 dir]] w (ServePost n up dn car fl dir w) := by
  obtain ⟨hn1, hn8, _⟩ := callsB_iff.1 hv
  have HV := Lib.hid hv
  have HU := Lib.hid hu
  have HDN := Lib.hid hdn
  have HC := Lib.hid hc
  clear hu hdn hc hv
  obtain ⟨k, rfl⟩ : ∃ k : Nat, fl = (k : Int) := ⟨fl.toNat, by omega⟩
  have hk : k < n := by omega
  unfold ServePost
  rcases hd with rfl | rfl
  · have HSV := Lib.hid (serve_up (up := up) (dn := dn) (car := car) (k := k))
    go_enter Tryz.func94, Tryz.ntmps94
    go_wp2_with fail
    refine (impl_CallsValid (nu := n) (nd := n) (nc := n) (up := up) (dn := dn) (by omega) (by omega) (by omega) (Nat.le_trans hB (by simp <;> omega)) (((HU.out.alloc hB _).alloc (Nat.le_trans hB (by simp <;> omega)) _).alloc (Nat.le_trans hB (by simp <;> omega)) _) (((HDN.out.alloc hB _).alloc (Nat.le_trans hB (by simp <;> omega)) _).alloc (Nat.le_trans hB (by simp <;> omega)) _)).mono ?_
    rintro e w1 ⟨rfl, hb1⟩
    rw [HV.out]
    obtain ⟨x, y, z, hbb, hs1⟩ := boxes3 hb1
    have HX1 := Lib.hid x
    have HY1 := Lib.hid y
    have HZ1 := Lib.hid z
    have HB1 := Lib.hid hbb
    have c0 := x.cells
    have c1 := y.cells
    clear hb1 x y z hbb
    go_wp2_with fail
    refine (stopValid_yes h0 h1 hn8 (by simp) _).mono ?_
    rintro e w2 ⟨rfl, hb2⟩
    have HX2 := Lib.hid (HX1.out.below hb2 HX1.out.lt)
    have HY2 := Lib.hid (HY1.out.below hb2 HY1.out.lt)
    have HZ2 := Lib.hid (HZ1.out.below hb2 HZ1.out.lt)
    have HB2 := Lib.hid (HB1.out.trans (hb2.mono HB1.out.size))
    have hs2 : w.heap.size + 3 ≤ w2.heap.size := Nat.le_trans hs1 hb2.size
    clear hb2 c0 c1 HX1 HY1 HZ1 HB1
    have c0 := HX2.out.cells
    go_wp2_with fail
    refine (copyCalls_any (by omega) (by omega) (by omega) (Nat.le_trans hB HB2.out.size) (HU.out.below (HB2.out.mono hB)) (HDN.out.below (HB2.out.mono hB)) (HC.out.below (HB2.out.mono hB))).mono ?_
    rintro e w3 ⟨U3, cu3, D3, cd3, C3, cc3, rfl, hk3, hb3⟩
    obtain ⟨bu, rfl, hbu, hbu2⟩ := hk3.u.block (by omega)
    obtain ⟨bd, rfl, hbd, hbd2⟩ := hk3.d.block (by omega)
    obtain ⟨bc, rfl, hbc, hbc2⟩ := hk3.c.block (by omega)
    have HY3 := Lib.hid (HY2.out.below hb3 HY2.out.lt)
    have HZ3 := Lib.hid (HZ2.out.below hb3 HZ2.out.lt)
    have HB3 := Lib.hid (HB2.out.trans (hb3.mono HB2.out.size))
    have HK3 := Lib.hid (hk3.mono (base' := w.heap.size + 3) hs2)
    have HKA := Lib.hid (HK3.out.below ((Below.refl w3.heap.size w3).alloc (Nat.le_refl _) (.cells #[.slice (some ⟨bu, 0, none⟩) n cu3, .slice (some ⟨bd, 0, none⟩) n cd3, .slice (some ⟨bc, 0, none⟩) n cc3] 32)) (Nat.le_refl _))
    have HKB := Lib.hid ((HK3.out.setC k false).below ((Below.refl w3.heap.size (w3.setCell ⟨bc, k, none⟩ (.bool false))).alloc (by simp) (.cells #[.slice (some ⟨bu, 0, none⟩) n cu3, .slice (some ⟨bd, 0, none⟩) n cd3, .slice (some ⟨bc, 0, none⟩) n cc3] 32)) (by simp))
    have HKC := Lib.hid (((HK3.out.setC k false).setU k false).below ((Below.refl w3.heap.size ((w3.setCell ⟨bc, k, none⟩ (.bool false)).setCell ⟨bu, k, none⟩ (.bool false))).alloc (by simp) (.cells #[.slice (some ⟨bu, 0, none⟩) n cu3, .slice (some ⟨bd, 0, none⟩) n cd3, .slice (some ⟨bc, 0, none⟩) n cc3] 32)) (by simp))
    have HBC := Lib.hid (((HB3.out.setCell (p := ⟨bc, k, none⟩) (by simp; omega) (.bool false)).setCell (p := ⟨bu, k, none⟩) (by simp; omega) (.bool false)).alloc (by have := HB3.out.size; simpa using this) (.cells #[.slice (some ⟨bu, 0, none⟩) n cu3, .slice (some ⟨bd, 0, none⟩) n cd3, .slice (some ⟨bc, 0, none⟩) n cc3] 32))
    have c1 := (HY3.out.alloc (.cells #[.slice (some ⟨bu, 0, none⟩) n cu3, .slice (some ⟨bd, 0, none⟩) n cd3, .slice (some ⟨bc, 0, none⟩) n cc3] 32)).cells
    have c1b := ((HY3.out.far ⟨bc, k, none⟩ (.bool false) (by simp; omega)).alloc (.cells #[.slice (some ⟨bu, 0, none⟩) n cu3, .slice (some ⟨bd, 0, none⟩) n cd3, .slice (some ⟨bc, 0, none⟩) n cc3] 32)).cells
    have c2c := (((HZ3.out.far ⟨bc, k, none⟩ (.bool false) (by simp; omega)).far ⟨bu, k, none⟩ (.bool false) (by simp; omega)).alloc (.cells #[.slice (some ⟨bu, 0, none⟩) n cu3, .slice (some ⟨bd, 0, none⟩) n cd3, .slice (some ⟨bc, 0, none⟩) n cc3] 32)).cells
    have z2c := (((HZ3.out.far ⟨bc, k, none⟩ (.bool false) (by simp; omega)).far ⟨bu, k, none⟩ (.bool false) (by simp; omega)).alloc (.cells #[.slice (some ⟨bu, 0, none⟩) n cu3, .slice (some ⟨bd, 0, none⟩) n cd3, .slice (some ⟨bc, 0, none⟩) n cc3] 32)).free
    have c3 := (Bx.new w3 #[.slice (some ⟨bu, 0, none⟩) n cu3, .slice (some ⟨bd, 0, none⟩) n cd3, .slice (some ⟨bc, 0, none⟩) n cc3] 32).cells
    have c3b := (Bx.new (w3.setCell ⟨bc, k, none⟩ (.bool false)) #[.slice (some ⟨bu, 0, none⟩) n cu3, .slice (some ⟨bd, 0, none⟩) n cd3, .slice (some ⟨bc, 0, none⟩) n cc3] 32).cells
    have c3c := (Bx.new ((w3.setCell ⟨bc, k, none⟩ (.bool false)).setCell ⟨bu, k, none⟩ (.bool false)) #[.slice (some ⟨bu, 0, none⟩) n cu3, .slice (some ⟨bd, 0, none⟩) n cd3, .slice (some ⟨bc, 0, none⟩) n cc3] 32).cells
    simp only [World.size_setCell] at c3b c3c
    have r1 := HKA.out.c.cell hk
    have r2 := HKA.out.c.frozen k
    have r3 := HKB.out.u.cell hk
    have r4 := HKB.out.u.frozen k
    have hs3 : w2.heap.size ≤ w3.heap.size := hb3.size
    clear hb3 hk3 c0 HX2 HY2 HZ2 HB2
    go_wp2
    refine bodyPost_ret (v := .agg #[.slice (some ⟨bu, 0, none⟩) n cu3, .slice (some ⟨bd, 0, none⟩) n cd3, .slice (some ⟨bc, 0, none⟩) n cc3]) (by simp [results, Tryz.results94, go_sem, c2c, c3c]) rfl ⟨_, cu3, _, cd3, _, cc3, rfl, ?_, ?_⟩
    · rw [HSV.out.1, HSV.out.2.1, HSV.out.2.2]
      refine OwnC.mono (base := w.heap.size + 3) ?_ (by omega)
      repeat (refine own_set (by simp <;> omega) ?_)
      exact HKC.out
    · repeat (refine below_set (by simp <;> omega) ?_)
      exact HBC.out
  · have HSV := Lib.hid (serve_dn (up := up) (dn := dn) (car := car) (k := k))
    go_enter Tryz.func94, Tryz.ntmps94
    go_wp2_with fail
    refine (impl_CallsValid (nu := n) (nd := n) (nc := n) (up := up) (dn := dn) (by omega) (by omega) (by omega) (Nat.le_trans hB (by simp <;> omega)) (((HU.out.alloc hB _).alloc (Nat.le_trans hB (by simp <;> omega)) _).alloc (Nat.le_trans hB (by simp <;> omega)) _) (((HDN.out.alloc hB _).alloc (Nat.le_trans hB (by simp <;> omega)) _).alloc (Nat.le_trans hB (by simp <;> omega)) _)).mono ?_
    rintro e w1 ⟨rfl, hb1⟩
    rw [HV.out]
    obtain ⟨x, y, z, hbb, hs1⟩ := boxes3 hb1
    have HX1 := Lib.hid x
    have HY1 := Lib.hid y
    have HZ1 := Lib.hid z
    have HB1 := Lib.hid hbb
    have c0 := x.cells
    have c1 := y.cells
    clear hb1 x y z hbb
    go_wp2_with fail
    refine (stopValid_yes h0 h1 hn8 (by simp) _).mono ?_
    rintro e w2 ⟨rfl, hb2⟩
    have HX2 := Lib.hid (HX1.out.below hb2 HX1.out.lt)
    have HY2 := Lib.hid (HY1.out.below hb2 HY1.out.lt)
    have HZ2 := Lib.hid (HZ1.out.below hb2 HZ1.out.lt)
    have HB2 := Lib.hid (HB1.out.trans (hb2.mono HB1.out.size))
    have hs2 : w.heap.size + 3 ≤ w2.heap.size := Nat.le_trans hs1 hb2.size
    clear hb2 c0 c1 HX1 HY1 HZ1 HB1
    have c0 := HX2.out.cells
    go_wp2_with fail
    refine (copyCalls_any (by omega) (by omega) (by omega) (Nat.le_trans hB HB2.out.size) (HU.out.below (HB2.out.mono hB)) (HDN.out.below (HB2.out.mono hB)) (HC.out.below (HB2.out.mono hB))).mono ?_
    rintro e w3 ⟨U3, cu3, D3, cd3, C3, cc3, rfl, hk3, hb3⟩
    obtain ⟨bu, rfl, hbu, hbu2⟩ := hk3.u.block (by omega)
    obtain ⟨bd, rfl, hbd, hbd2⟩ := hk3.d.block (by omega)
    obtain ⟨bc, rfl, hbc, hbc2⟩ := hk3.c.block (by omega)
    have HY3 := Lib.hid (HY2.out.below hb3 HY2.out.lt)
    have HZ3 := Lib.hid (HZ2.out.below hb3 HZ2.out.lt)
    have HB3 := Lib.hid (HB2.out.trans (hb3.mono HB2.out.size))
    have HK3 := Lib.hid (hk3.mono (base' := w.heap.size + 3) hs2)
    have HKA := Lib.hid (HK3.out.below ((Below.refl w3.heap.size w3).alloc (Nat.le_refl _) (.cells #[.slice (some ⟨bu, 0, none⟩) n cu3, .slice (some ⟨bd, 0, none⟩) n cd3, .slice (some ⟨bc, 0, none⟩) n cc3] 32)) (Nat.le_refl _))
    have HKB := Lib.hid ((HK3.out.setC k false).below ((Below.refl w3.heap.size (w3.setCell ⟨bc, k, none⟩ (.bool false))).alloc (by simp) (.cells #[.slice (some ⟨bu, 0, none⟩) n cu3, .slice (some ⟨bd, 0, none⟩) n cd3, .slice (some ⟨bc, 0, none⟩) n cc3] 32)) (by simp))
    have HKC := Lib.hid (((HK3.out.setC k false).setD k false).below ((Below.refl w3.heap.size ((w3.setCell ⟨bc, k, none⟩ (.bool false)).setCell ⟨bd, k, none⟩ (.bool false))).alloc (by simp) (.cells #[.slice (some ⟨bu, 0, none⟩) n cu3, .slice (some ⟨bd, 0, none⟩) n cd3, .slice (some ⟨bc, 0, none⟩) n cc3] 32)) (by simp))
    have HBC := Lib.hid (((HB3.out.setCell (p := ⟨bc, k, none⟩) (by simp; omega) (.bool false)).setCell (p := ⟨bd, k, none⟩) (by simp; omega) (.bool false)).alloc (by have := HB3.out.size; simpa using this) (.cells #[.slice (some ⟨bu, 0, none⟩) n cu3, .slice (some ⟨bd, 0, none⟩) n cd3, .slice (some ⟨bc, 0, none⟩) n cc3] 32))
    have c1 := (HY3.out.alloc (.cells #[.slice (some ⟨bu, 0, none⟩) n cu3, .slice (some ⟨bd, 0, none⟩) n cd3, .slice (some ⟨bc, 0, none⟩) n cc3] 32)).cells
    have c1b := ((HY3.out.far ⟨bc, k, none⟩ (.bool false) (by simp; omega)).alloc (.cells #[.slice (some ⟨bu, 0, none⟩) n cu3, .slice (some ⟨bd, 0, none⟩) n cd3, .slice (some ⟨bc, 0, none⟩) n cc3] 32)).cells
    have c2c := (((HZ3.out.far ⟨bc, k, none⟩ (.bool false) (by simp; omega)).far ⟨bd, k, none⟩ (.bool false) (by simp; omega)).alloc (.cells #[.slice (some ⟨bu, 0, none⟩) n cu3, .slice (some ⟨bd, 0, none⟩) n cd3, .slice (some ⟨bc, 0, none⟩) n cc3] 32)).cells
    have z2c := (((HZ3.out.far ⟨bc, k, none⟩ (.bool false) (by simp; omega)).far ⟨bd, k, none⟩ (.bool false) (by simp; omega)).alloc (.cells #[.slice (some ⟨bu, 0, none⟩) n cu3, .slice (some ⟨bd, 0, none⟩) n cd3, .slice (some ⟨bc, 0, none⟩) n cc3] 32)).free
    have c3 := (Bx.new w3 #[.slice (some ⟨bu, 0, none⟩) n cu3, .slice (some ⟨bd, 0, none⟩) n cd3, .slice (some ⟨bc, 0, none⟩) n cc3] 32).cells
    have c3b := (Bx.new (w3.setCell ⟨bc, k, none⟩ (.bool false)) #[.slice (some ⟨bu, 0, none⟩) n cu3, .slice (some ⟨bd, 0, none⟩) n cd3, .slice (some ⟨bc, 0, none⟩) n cc3] 32).cells
    have c3c := (Bx.new ((w3.setCell ⟨bc, k, none⟩ (.bool false)).setCell ⟨bd, k, none⟩ (.bool false)) #[.slice (some ⟨bu, 0, none⟩) n cu3, .slice (some ⟨bd, 0, none⟩) n cd3, .slice (some ⟨bc, 0, none⟩) n cc3] 32).cells
    simp only [World.size_setCell] at c3b c3c
    have r1 := HKA.out.c.cell hk
    have r2 := HKA.out.c.frozen k
    have r3 := HKB.out.d.cell hk
    have r4 := HKB.out.d.frozen k
    have hs3 : w2.heap.size ≤ w3.heap.size := hb3.size
    clear hb3 hk3 c0 HX2 HY2 HZ2 HB2
    go_wp2
    refine bodyPost_ret (v := .agg #[.slice (some ⟨bu, 0, none⟩) n cu3, .slice (some ⟨bd, 0, none⟩) n cd3, .slice (some ⟨bc, 0, none⟩) n cc3]) (by simp [results, Tryz.results94, go_sem, c2c, c3c]) rfl ⟨_, cu3, _, cd3, _, cc3, rfl, ?_, ?_⟩
    · rw [HSV.out.1, HSV.out.2.1, HSV.out.2.2]
      refine OwnC.mono (base := w.heap.size + 3) ?_ (by omega)
      repeat (refine own_set (by simp <;> omega) ?_)
      exact HKC.out
    · repeat (refine below_set (by simp <;> omega) ?_)
      exact HBC.out
end Go.Proofs.YthkpikkjgggimaaGreatDoor
