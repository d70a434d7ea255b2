/-
  The contract of impl.CallSet. No claim stands here.
-/
import Derived.Test.YthkpikkjgggimaaGreatDoorSetI
namespace Go.Proofs.YthkpikkjgggimaaGreatDoor
open Go.RowKit
set_option linter.unusedVariables false
set_option linter.unusedSimpArgs false

/-- What CallSet answers. -/
def SetPost (n : Nat) (up dn car : Nat → Bool) (kind fl : Int) (to : Bool) (w : World) (e : Ending) (w' : World) : Prop :=
  ∃ U' cu' D' cd' C' cc', e = .returned (.tuple #[.agg #[.slice U' n cu', .slice D' n cd', .slice C' n cc'], .bool (setOk n up dn kind fl to)]) ∧
    OwnC w' w.heap.size U' n cu' (askUp n up dn kind fl to) D' n cd' (askDn n up dn kind fl to) C' n cc' (askCar n up dn car kind fl to) ∧ Below w.heap.size w w'

theorem ask_no {n : Nat} {up dn car : Nat → Bool} {kind fl : Int} {to : Bool} (h : setOk n up dn kind fl to = false) : askUp n up dn kind fl to = up ∧ askDn n up dn kind fl to = dn ∧ askCar n up dn car kind fl to = car := by
  simp [askUp, askDn, askCar, h]
theorem ask_yes {n : Nat} {up dn car : Nat → Bool} {kind fl : Int} {to : Bool} (h : setOk n up dn kind fl to = true) : askUp n up dn kind fl to = setUp up kind fl to ∧ askDn n up dn kind fl to = setDn dn kind fl to ∧ askCar n up dn car kind fl to = setCar car kind fl to := by
  simp [askUp, askDn, askCar, h]
theorem setOk_kind {n : Nat} {up dn : Nat → Bool} {kind fl : Int} {to : Bool} (h : kind < 0 ∨ 2 < kind) : setOk n up dn kind fl to = false := by
  have : inB kind 0 2 = false := by
    cases e : inB kind 0 2
    · rfl
    · have := inB_iff.1 e; omega
  simp [setOk, this]
theorem setOk_floor {n : Nat} {up dn : Nat → Bool} {kind fl : Int} {to : Bool} (h : inB fl 0 ((n : Int) - 1) = false) : setOk n up dn kind fl to = false := by
  simp [setOk, h]

theorem OwnC.far {w : World} {base : Nat} {U D C : Option Addr} {nu cu nd cd nc cc : Nat} {up dn car : Nat → Bool} (h : OwnC w base U nu cu up D nd cd dn C nc cc car) (p : Addr) (v : Value) (hp : p.block < base) : OwnC (w.setCell p v) base U nu cu up D nd cd dn C nc cc car :=
  ⟨h.u.far p v hp, h.d.far p v hp, h.c.far p v hp, h.ud, h.uc, h.dc⟩

set_option maxHeartbeats 3200000 in
theorem impl_CallSet {w : World} {B n : Nat} {U D C : Option Addr} {cu cd cc : Nat} {up dn car : Nat → Bool} (kind fl : Int) (to : Bool) (hv : callsB n n n up dn = true) (hB : B ≤ w.heap.size)
    (hu : Bools w B U n up) (hd : Bools w B D n dn) (hc : Bools w B C n car) :
    Calls Tryz.prog 102 #[.agg #[.slice U n cu, .slice D n cd, .slice C n cc], .int .i64 kind, .int .i64 fl, .bool to] w (SetPost n up dn car kind fl to w) := by
  obtain ⟨hn1, hn8, _⟩ := callsB_iff.1 hv
  have HV := Lib.hid hv
  have HU := Lib.hid hu
  have HD := Lib.hid hd
  have HC := Lib.hid hc
  clear hu hd hc hv
  unfold SetPost
  go_enter Tryz.func102, Tryz.ntmps102
  go_wp2_with fail
  refine (impl_CallsValid (nu := n) (nd := n) (nc := n) (up := up) (dn := dn) (by omega) (by omega) (by omega) (Nat.le_trans hB (by simp <;> omega)) ((HU.out.alloc hB _).alloc (Nat.le_trans hB (by simp <;> omega)) _) ((HD.out.alloc hB _).alloc (Nat.le_trans hB (by simp <;> omega)) _)).mono ?_
  rintro e w1 ⟨rfl, hb1⟩
  rw [HV.out]
  obtain ⟨x, y, hbb, hs1⟩ := boxes2' hb1
  have HX1 := Lib.hid x
  have HY1 := Lib.hid y
  have HB1 := Lib.hid hbb
  have c0 := x.cells
  clear hb1 x y hbb
  go_wp2_with fail
  refine (copyCalls_any (by omega) (by omega) (by omega) (Nat.le_trans hB HB1.out.size) (HU.out.below (HB1.out.mono hB)) (HD.out.below (HB1.out.mono hB)) (HC.out.below (HB1.out.mono hB))).mono ?_
  rintro e w2 ⟨U2, cu2, D2, cd2, C2, cc2, rfl, hk2, hb2⟩
  have HX2 := Lib.hid (HX1.out.below hb2 HX1.out.lt)
  have HY2 := Lib.hid (HY1.out.below hb2 HY1.out.lt)
  have HB2 := Lib.hid (HB1.out.trans (hb2.mono HB1.out.size))
  have HK2 := Lib.hid (hk2.mono (base' := w.heap.size + 2) hs1)
  have hs2 : w.heap.size + 2 ≤ w2.heap.size := Nat.le_trans hs1 hb2.size
  clear c0 hb2 hk2 HX1 HY1 HB1
  have HX3 := Lib.hid (HX2.out.alloc (.cells #[.slice U2 n cu2, .slice D2 n cd2, .slice C2 n cc2] 32))
  have HY3 := Lib.hid (HY2.out.alloc (.cells #[.slice U2 n cu2, .slice D2 n cd2, .slice C2 n cc2] 32))
  have HS3 := Lib.hid (Bx.new w2 #[.slice U2 n cu2, .slice D2 n cd2, .slice C2 n cc2] 32)
  have c0 := HX3.out.cells
  have c1 := HY3.out.cells
  have z1 := HY3.out.free
  have c3 := HS3.out.cells
  by_cases k0 : kind < 0
  · have e0 := setOk_kind (n := n) (up := up) (dn := dn) (fl := fl) (to := to) (.inl k0)
    obtain ⟨a1, a2, a3⟩ := ask_no (car := car) e0
    have HE := Lib.hid e0
    have A1 := Lib.hid a1
    have A2 := Lib.hid a2
    have A3 := Lib.hid a3
    clear e0 a1 a2 a3
    go_wp2
    refine bodyPost_ret (v := .tuple #[.agg #[.slice U2 n cu2, .slice D2 n cd2, .slice C2 n cc2], .bool false]) (by simp [results, Tryz.results102, go_sem, c1, c3]) rfl ⟨U2, cu2, D2, cd2, C2, cc2, by rw [HE.out], ?_, ?_⟩
    · rw [A1.out, A2.out, A3.out]
      exact (((((HK2.out.below ((Below.refl w2.heap.size w2).alloc (Nat.le_refl _) _) (Nat.le_refl _)).far _ _ (by simp)).far _ _ (by simp)).far _ _ (by simp))).mono (by omega)
    · exact (((HB2.out.alloc HB2.out.size _).setCell (by simp) _).setCell (by simp) _).setCell (by simp) _
  by_cases k1 : 2 < kind
  · have e0 := setOk_kind (n := n) (up := up) (dn := dn) (fl := fl) (to := to) (.inr k1)
    obtain ⟨a1, a2, a3⟩ := ask_no (car := car) e0
    have HE := Lib.hid e0
    have A1 := Lib.hid a1
    have A2 := Lib.hid a2
    have A3 := Lib.hid a3
    clear e0 a1 a2 a3
    go_wp2
    refine bodyPost_ret (v := .tuple #[.agg #[.slice U2 n cu2, .slice D2 n cd2, .slice C2 n cc2], .bool false]) (by simp [results, Tryz.results102, go_sem, c1, c3]) rfl ⟨U2, cu2, D2, cd2, C2, cc2, by rw [HE.out], ?_, ?_⟩
    · rw [A1.out, A2.out, A3.out]
      exact (((((HK2.out.below ((Below.refl w2.heap.size w2).alloc (Nat.le_refl _) _) (Nat.le_refl _)).far _ _ (by simp)).far _ _ (by simp)).far _ _ (by simp))).mono (by omega)
    · exact (((HB2.out.alloc HB2.out.size _).setCell (by simp) _).setCell (by simp) _).setCell (by simp) _
  go_wp2_with fail
  refine (isFloor_any fl n _).mono ?_
  rintro e w3 ⟨rfl, rfl⟩
  cases hfl : inB fl 0 ((n : Int) - 1)
  · have e0 := setOk_floor (n := n) (up := up) (dn := dn) (kind := kind) (to := to) hfl
    obtain ⟨a1, a2, a3⟩ := ask_no (car := car) e0
    have HE := Lib.hid e0
    have A1 := Lib.hid a1
    have A2 := Lib.hid a2
    have A3 := Lib.hid a3
    clear e0 a1 a2 a3
    go_wp2
    refine bodyPost_ret (v := .tuple #[.agg #[.slice U2 n cu2, .slice D2 n cd2, .slice C2 n cc2], .bool false]) (by simp [results, Tryz.results102, go_sem, c1, c3]) rfl ⟨U2, cu2, D2, cd2, C2, cc2, by rw [HE.out], ?_, ?_⟩
    · rw [A1.out, A2.out, A3.out]
      exact (((((HK2.out.below ((Below.refl w2.heap.size w2).alloc (Nat.le_refl _) _) (Nat.le_refl _)).far _ _ (by simp)).far _ _ (by simp)).far _ _ (by simp))).mono (by omega)
    · exact (((HB2.out.alloc HB2.out.size _).setCell (by simp) _).setCell (by simp) _).setCell (by simp) _
  have hf := inB_iff.1 hfl
  go_wp2_with fail
  have HB3 := Lib.hid (HB2.out.alloc HB2.out.size (.cells #[.slice U2 n cu2, .slice D2 n cd2, .slice C2 n cc2] 32))
  have HK3 := Lib.hid (HK2.out.below ((Below.refl w2.heap.size w2).alloc (Nat.le_refl _) (.cells #[.slice U2 n cu2, .slice D2 n cd2, .slice C2 n cc2] 32)) (Nat.le_refl _))
  refine (copyCalls_any (by omega) (by omega) (by omega) (Nat.le_trans hB HB3.out.size) (HU.out.below (HB3.out.mono hB)) (HD.out.below (HB3.out.mono hB)) (HC.out.below (HB3.out.mono hB))).mono ?_
  rintro e w4 ⟨U4, cu4, D4, cd4, C4, cc4, rfl, hk4, hb4⟩
  have HX4 := Lib.hid (HX3.out.below hb4 HX3.out.lt)
  have HY4 := Lib.hid (HY3.out.below hb4 HY3.out.lt)
  have HS4 := Lib.hid (HS3.out.below hb4 HS3.out.lt)
  have HP := Lib.hid (⟨fun x hx => (HK2.out.u.place x hx).2, fun x hx => (HK2.out.d.place x hx).2, fun x hx => (HK2.out.c.place x hx).2⟩ : (∀ x, U2 = some x → x.block < w2.heap.size) ∧ (∀ x, D2 = some x → x.block < w2.heap.size) ∧ (∀ x, C2 = some x → x.block < w2.heap.size))
  have HK4 := Lib.hid (HK3.out.below hb4 (Nat.le_refl _))
  have HB4 := Lib.hid (HB3.out.trans (hb4.mono HB3.out.size))
  have hs4 : w2.heap.size + 1 ≤ w4.heap.size := by have := hb4.size; simpa using this
  have HO4 := Lib.hid (hk4.mono (base' := w2.heap.size + 1) (by simp))
  clear hb4 hk4 c0 c1 z1 c3 HX3 HY3 HS3 HB3 HK3
  obtain ⟨bu, rfl, hbu, _⟩ := HO4.out.u.block (by omega)
  obtain ⟨bd, rfl, hbd, _⟩ := HO4.out.d.block (by omega)
  obtain ⟨bc, rfl, hbc, _⟩ := HO4.out.c.block (by omega)
  obtain ⟨k, rfl⟩ : ∃ k : Nat, fl = (k : Int) := ⟨fl.toNat, by omega⟩
  have hk : k < n := by omega
  have HO5 := Lib.hid (HO4.out.below ((Below.refl w4.heap.size w4).alloc (Nat.le_refl _) (.cells #[.slice (some ⟨bu, 0, none⟩) n cu4, .slice (some ⟨bd, 0, none⟩) n cd4, .slice (some ⟨bc, 0, none⟩) n cc4] 32)) (Nat.le_refl _))
  have HN5 := Lib.hid (Bx.new w4 #[.slice (some ⟨bu, 0, none⟩) n cu4, .slice (some ⟨bd, 0, none⟩) n cd4, .slice (some ⟨bc, 0, none⟩) n cc4] 32)
  have c5 := HN5.out.cells
  rcases (by omega : kind = 0 ∨ kind = 1 ∨ kind = 2) with rfl | rfl | rfl
  · have r1 := HO5.out.u.cell hk
    have r2 := HO5.out.u.frozen k
    have eU : setUp up 0 (k : Int) to = updB up k to := by simp [setUp]
    have eD : setDn dn 0 (k : Int) to = dn := by simp [setDn]
    have eC : setCar car 0 (k : Int) to = car := by simp [setCar]
    have HO6 := Lib.hid ((HO4.out.setU k to).below ((Below.refl w4.heap.size (w4.setCell ⟨bu, k, none⟩ (.bool to))).alloc (by simp) (.cells #[.slice (some ⟨bu, 0, none⟩) n cu4, .slice (some ⟨bd, 0, none⟩) n cd4, .slice (some ⟨bc, 0, none⟩) n cc4] 32)) (by simp))
    go_wp2_with fail
    refine (impl_CallsValid (nu := n) (nd := n) (nc := n) (by omega) (by omega) (by omega) (Nat.le_refl _) HO6.out.u.bools HO6.out.d.bools).mono ?_
    rintro e w7 ⟨rfl, hb7⟩
    have eV : callsB n n n (updB up k to) (dn) = setOk n up dn 0 (k : Int) to := by
      have h := callsB_set HV.out (kind := 0) (fl := (k : Int)) (to := to)
      rw [eU, eD] at h
      rw [h, setOk, eU, eD, hfl]
      simp [inB]
    have HY7 := Lib.hid (((HY4.out.far ⟨bu, k, none⟩ (.bool to) (by simp; omega)).alloc (.cells #[.slice (some ⟨bu, 0, none⟩) n cu4, .slice (some ⟨bd, 0, none⟩) n cd4, .slice (some ⟨bc, 0, none⟩) n cc4] 32)).below hb7 ((HY4.out.far _ _ (by simp; omega)).alloc _).lt)
    have HS7 := Lib.hid (((HS4.out.far ⟨bu, k, none⟩ (.bool to) (by simp; omega)).alloc (.cells #[.slice (some ⟨bu, 0, none⟩) n cu4, .slice (some ⟨bd, 0, none⟩) n cd4, .slice (some ⟨bc, 0, none⟩) n cc4] 32)).below hb7 ((HS4.out.far _ _ (by simp; omega)).alloc _).lt)
    have HN7 := Lib.hid ((Bx.new (w4.setCell ⟨bu, k, none⟩ (.bool to)) #[.slice (some ⟨bu, 0, none⟩) n cu4, .slice (some ⟨bd, 0, none⟩) n cd4, .slice (some ⟨bc, 0, none⟩) n cc4] 32).below hb7 (Bx.new _ _ _).lt)
    have HB6 := (HB4.out.setCell (p := ⟨bu, k, none⟩) (by simp; omega) (.bool to)).alloc (by have := HB4.out.size; simpa using this) (.cells #[.slice (some ⟨bu, 0, none⟩) n cu4, .slice (some ⟨bd, 0, none⟩) n cd4, .slice (some ⟨bc, 0, none⟩) n cc4] 32)
    have HB7 := Lib.hid (HB6.trans (hb7.mono HB6.size))
    have HO7 := Lib.hid (HO6.out.below hb7 (Nat.le_refl _))
    have HK6 : OwnC (w4.setCell ⟨bu, k, none⟩ (.bool to)) (w.heap.size + 2) U2 n cu2 up D2 n cd2 dn C2 n cc2 car := ⟨HK4.out.u.other _ _ (fun x hx => by have := (HP.out.1 x hx); simp; omega), HK4.out.d.other _ _ (fun x hx => by have := (HP.out.2.1 x hx); simp; omega), HK4.out.c.other _ _ (fun x hx => by have := (HP.out.2.2 x hx); simp; omega), HK4.out.ud, HK4.out.uc, HK4.out.dc⟩
    have HK7 := Lib.hid ((HK6.below ((Below.refl _ _).alloc (Nat.le_refl _) _) (Nat.le_refl _)).below hb7 (Nat.le_refl _))
    have hs7 : w4.heap.size + 1 ≤ w7.heap.size := by have := hb7.size; simpa using this
    rw [eV]
    clear hb7 HB6 HK6 r1 r2 c5
    have c1 := HY7.out.cells
    have z1 := HY7.out.free
    have c3 := HS7.out.cells
    have c4 := HN7.out.cells
    simp only [World.size_setCell] at c4
    cases hok : setOk n up dn 0 (k : Int) to
    · obtain ⟨a1, a2, a3⟩ := ask_no (car := car) hok
      have A1 := Lib.hid a1
      have A2 := Lib.hid a2
      have A3 := Lib.hid a3
      clear a1 a2 a3 eV
      go_wp2
      refine bodyPost_ret (v := .tuple #[.agg #[.slice U2 n cu2, .slice D2 n cd2, .slice C2 n cc2], .bool false]) (by simp [results, Tryz.results102, go_sem, c1, c3]) rfl ⟨U2, cu2, D2, cd2, C2, cc2, by rw [hok], ?_, ?_⟩
      · rw [A1.out, A2.out, A3.out]
        exact (((HK7.out.far _ _ (by simp)).far _ _ (by simp)).far _ _ (by simp)).mono (by omega)
      · exact ((HB7.out.setCell (by simp) _).setCell (by simp) _).setCell (by simp) _
    · obtain ⟨a1, a2, a3⟩ := ask_yes (car := car) hok
      rw [eU] at a1
      rw [eD] at a2
      rw [eC] at a3
      have A1 := Lib.hid a1
      have A2 := Lib.hid a2
      have A3 := Lib.hid a3
      clear a1 a2 a3 eV
      go_wp2
      refine bodyPost_ret (v := .tuple #[.agg #[.slice (some ⟨bu, 0, none⟩) n cu4, .slice (some ⟨bd, 0, none⟩) n cd4, .slice (some ⟨bc, 0, none⟩) n cc4], .bool true]) (by simp [results, Tryz.results102, go_sem, c1, c4]) rfl ⟨_, cu4, _, cd4, _, cc4, by rw [hok], ?_, ?_⟩
      · rw [A1.out, A2.out, A3.out]
        exact (((HO7.out.far _ _ (by simp; omega)).far _ _ (by simp; omega)).far _ _ (by simp; omega)).mono (by omega)
      · exact ((HB7.out.setCell (by simp) _).setCell (by simp) _).setCell (by simp) _
  · have r1 := HO5.out.d.cell hk
    have r2 := HO5.out.d.frozen k
    have eU : setUp up 1 (k : Int) to = up := by simp [setUp]
    have eD : setDn dn 1 (k : Int) to = updB dn k to := by simp [setDn]
    have eC : setCar car 1 (k : Int) to = car := by simp [setCar]
    have HO6 := Lib.hid ((HO4.out.setD k to).below ((Below.refl w4.heap.size (w4.setCell ⟨bd, k, none⟩ (.bool to))).alloc (by simp) (.cells #[.slice (some ⟨bu, 0, none⟩) n cu4, .slice (some ⟨bd, 0, none⟩) n cd4, .slice (some ⟨bc, 0, none⟩) n cc4] 32)) (by simp))
    go_wp2_with fail
    refine (impl_CallsValid (nu := n) (nd := n) (nc := n) (by omega) (by omega) (by omega) (Nat.le_refl _) HO6.out.u.bools HO6.out.d.bools).mono ?_
    rintro e w7 ⟨rfl, hb7⟩
    have eV : callsB n n n (up) (updB dn k to) = setOk n up dn 1 (k : Int) to := by
      have h := callsB_set HV.out (kind := 1) (fl := (k : Int)) (to := to)
      rw [eU, eD] at h
      rw [h, setOk, eU, eD, hfl]
      simp [inB]
    have HY7 := Lib.hid (((HY4.out.far ⟨bd, k, none⟩ (.bool to) (by simp; omega)).alloc (.cells #[.slice (some ⟨bu, 0, none⟩) n cu4, .slice (some ⟨bd, 0, none⟩) n cd4, .slice (some ⟨bc, 0, none⟩) n cc4] 32)).below hb7 ((HY4.out.far _ _ (by simp; omega)).alloc _).lt)
    have HS7 := Lib.hid (((HS4.out.far ⟨bd, k, none⟩ (.bool to) (by simp; omega)).alloc (.cells #[.slice (some ⟨bu, 0, none⟩) n cu4, .slice (some ⟨bd, 0, none⟩) n cd4, .slice (some ⟨bc, 0, none⟩) n cc4] 32)).below hb7 ((HS4.out.far _ _ (by simp; omega)).alloc _).lt)
    have HN7 := Lib.hid ((Bx.new (w4.setCell ⟨bd, k, none⟩ (.bool to)) #[.slice (some ⟨bu, 0, none⟩) n cu4, .slice (some ⟨bd, 0, none⟩) n cd4, .slice (some ⟨bc, 0, none⟩) n cc4] 32).below hb7 (Bx.new _ _ _).lt)
    have HB6 := (HB4.out.setCell (p := ⟨bd, k, none⟩) (by simp; omega) (.bool to)).alloc (by have := HB4.out.size; simpa using this) (.cells #[.slice (some ⟨bu, 0, none⟩) n cu4, .slice (some ⟨bd, 0, none⟩) n cd4, .slice (some ⟨bc, 0, none⟩) n cc4] 32)
    have HB7 := Lib.hid (HB6.trans (hb7.mono HB6.size))
    have HO7 := Lib.hid (HO6.out.below hb7 (Nat.le_refl _))
    have HK6 : OwnC (w4.setCell ⟨bd, k, none⟩ (.bool to)) (w.heap.size + 2) U2 n cu2 up D2 n cd2 dn C2 n cc2 car := ⟨HK4.out.u.other _ _ (fun x hx => by have := (HP.out.1 x hx); simp; omega), HK4.out.d.other _ _ (fun x hx => by have := (HP.out.2.1 x hx); simp; omega), HK4.out.c.other _ _ (fun x hx => by have := (HP.out.2.2 x hx); simp; omega), HK4.out.ud, HK4.out.uc, HK4.out.dc⟩
    have HK7 := Lib.hid ((HK6.below ((Below.refl _ _).alloc (Nat.le_refl _) _) (Nat.le_refl _)).below hb7 (Nat.le_refl _))
    have hs7 : w4.heap.size + 1 ≤ w7.heap.size := by have := hb7.size; simpa using this
    rw [eV]
    clear hb7 HB6 HK6 r1 r2 c5
    have c1 := HY7.out.cells
    have z1 := HY7.out.free
    have c3 := HS7.out.cells
    have c4 := HN7.out.cells
    simp only [World.size_setCell] at c4
    cases hok : setOk n up dn 1 (k : Int) to
    · obtain ⟨a1, a2, a3⟩ := ask_no (car := car) hok
      have A1 := Lib.hid a1
      have A2 := Lib.hid a2
      have A3 := Lib.hid a3
      clear a1 a2 a3 eV
      go_wp2
      refine bodyPost_ret (v := .tuple #[.agg #[.slice U2 n cu2, .slice D2 n cd2, .slice C2 n cc2], .bool false]) (by simp [results, Tryz.results102, go_sem, c1, c3]) rfl ⟨U2, cu2, D2, cd2, C2, cc2, by rw [hok], ?_, ?_⟩
      · rw [A1.out, A2.out, A3.out]
        exact (((HK7.out.far _ _ (by simp)).far _ _ (by simp)).far _ _ (by simp)).mono (by omega)
      · exact ((HB7.out.setCell (by simp) _).setCell (by simp) _).setCell (by simp) _
    · obtain ⟨a1, a2, a3⟩ := ask_yes (car := car) hok
      rw [eU] at a1
      rw [eD] at a2
      rw [eC] at a3
      have A1 := Lib.hid a1
      have A2 := Lib.hid a2
      have A3 := Lib.hid a3
      clear a1 a2 a3 eV
      go_wp2
      refine bodyPost_ret (v := .tuple #[.agg #[.slice (some ⟨bu, 0, none⟩) n cu4, .slice (some ⟨bd, 0, none⟩) n cd4, .slice (some ⟨bc, 0, none⟩) n cc4], .bool true]) (by simp [results, Tryz.results102, go_sem, c1, c4]) rfl ⟨_, cu4, _, cd4, _, cc4, by rw [hok], ?_, ?_⟩
      · rw [A1.out, A2.out, A3.out]
        exact (((HO7.out.far _ _ (by simp; omega)).far _ _ (by simp; omega)).far _ _ (by simp; omega)).mono (by omega)
      · exact ((HB7.out.setCell (by simp) _).setCell (by simp) _).setCell (by simp) _
  · have r1 := HO5.out.c.cell hk
    have r2 := HO5.out.c.frozen k
    have eU : setUp up 2 (k : Int) to = up := by simp [setUp]
    have eD : setDn dn 2 (k : Int) to = dn := by simp [setDn]
    have eC : setCar car 2 (k : Int) to = updB car k to := by simp [setCar]
    have HO6 := Lib.hid ((HO4.out.setC k to).below ((Below.refl w4.heap.size (w4.setCell ⟨bc, k, none⟩ (.bool to))).alloc (by simp) (.cells #[.slice (some ⟨bu, 0, none⟩) n cu4, .slice (some ⟨bd, 0, none⟩) n cd4, .slice (some ⟨bc, 0, none⟩) n cc4] 32)) (by simp))
    go_wp2_with fail
    refine (impl_CallsValid (nu := n) (nd := n) (nc := n) (by omega) (by omega) (by omega) (Nat.le_refl _) HO6.out.u.bools HO6.out.d.bools).mono ?_
    rintro e w7 ⟨rfl, hb7⟩
    have eV : callsB n n n (up) (dn) = setOk n up dn 2 (k : Int) to := by
      have h := callsB_set HV.out (kind := 2) (fl := (k : Int)) (to := to)
      rw [eU, eD] at h
      rw [h, setOk, eU, eD, hfl]
      simp [inB]
    have HY7 := Lib.hid (((HY4.out.far ⟨bc, k, none⟩ (.bool to) (by simp; omega)).alloc (.cells #[.slice (some ⟨bu, 0, none⟩) n cu4, .slice (some ⟨bd, 0, none⟩) n cd4, .slice (some ⟨bc, 0, none⟩) n cc4] 32)).below hb7 ((HY4.out.far _ _ (by simp; omega)).alloc _).lt)
    have HS7 := Lib.hid (((HS4.out.far ⟨bc, k, none⟩ (.bool to) (by simp; omega)).alloc (.cells #[.slice (some ⟨bu, 0, none⟩) n cu4, .slice (some ⟨bd, 0, none⟩) n cd4, .slice (some ⟨bc, 0, none⟩) n cc4] 32)).below hb7 ((HS4.out.far _ _ (by simp; omega)).alloc _).lt)
    have HN7 := Lib.hid ((Bx.new (w4.setCell ⟨bc, k, none⟩ (.bool to)) #[.slice (some ⟨bu, 0, none⟩) n cu4, .slice (some ⟨bd, 0, none⟩) n cd4, .slice (some ⟨bc, 0, none⟩) n cc4] 32).below hb7 (Bx.new _ _ _).lt)
    have HB6 := (HB4.out.setCell (p := ⟨bc, k, none⟩) (by simp; omega) (.bool to)).alloc (by have := HB4.out.size; simpa using this) (.cells #[.slice (some ⟨bu, 0, none⟩) n cu4, .slice (some ⟨bd, 0, none⟩) n cd4, .slice (some ⟨bc, 0, none⟩) n cc4] 32)
    have HB7 := Lib.hid (HB6.trans (hb7.mono HB6.size))
    have HO7 := Lib.hid (HO6.out.below hb7 (Nat.le_refl _))
    have HK6 : OwnC (w4.setCell ⟨bc, k, none⟩ (.bool to)) (w.heap.size + 2) U2 n cu2 up D2 n cd2 dn C2 n cc2 car := ⟨HK4.out.u.other _ _ (fun x hx => by have := (HP.out.1 x hx); simp; omega), HK4.out.d.other _ _ (fun x hx => by have := (HP.out.2.1 x hx); simp; omega), HK4.out.c.other _ _ (fun x hx => by have := (HP.out.2.2 x hx); simp; omega), HK4.out.ud, HK4.out.uc, HK4.out.dc⟩
    have HK7 := Lib.hid ((HK6.below ((Below.refl _ _).alloc (Nat.le_refl _) _) (Nat.le_refl _)).below hb7 (Nat.le_refl _))
    have hs7 : w4.heap.size + 1 ≤ w7.heap.size := by have := hb7.size; simpa using this
    rw [eV]
    clear hb7 HB6 HK6 r1 r2 c5
    have c1 := HY7.out.cells
    have z1 := HY7.out.free
    have c3 := HS7.out.cells
    have c4 := HN7.out.cells
    simp only [World.size_setCell] at c4
    cases hok : setOk n up dn 2 (k : Int) to
    · obtain ⟨a1, a2, a3⟩ := ask_no (car := car) hok
      have A1 := Lib.hid a1
      have A2 := Lib.hid a2
      have A3 := Lib.hid a3
      clear a1 a2 a3 eV
      go_wp2
      refine bodyPost_ret (v := .tuple #[.agg #[.slice U2 n cu2, .slice D2 n cd2, .slice C2 n cc2], .bool false]) (by simp [results, Tryz.results102, go_sem, c1, c3]) rfl ⟨U2, cu2, D2, cd2, C2, cc2, by rw [hok], ?_, ?_⟩
      · rw [A1.out, A2.out, A3.out]
        exact (((HK7.out.far _ _ (by simp)).far _ _ (by simp)).far _ _ (by simp)).mono (by omega)
      · exact ((HB7.out.setCell (by simp) _).setCell (by simp) _).setCell (by simp) _
    · obtain ⟨a1, a2, a3⟩ := ask_yes (car := car) hok
      rw [eU] at a1
      rw [eD] at a2
      rw [eC] at a3
      have A1 := Lib.hid a1
      have A2 := Lib.hid a2
      have A3 := Lib.hid a3
      clear a1 a2 a3 eV
      go_wp2
      refine bodyPost_ret (v := .tuple #[.agg #[.slice (some ⟨bu, 0, none⟩) n cu4, .slice (some ⟨bd, 0, none⟩) n cd4, .slice (some ⟨bc, 0, none⟩) n cc4], .bool true]) (by simp [results, Tryz.results102, go_sem, c1, c4]) rfl ⟨_, cu4, _, cd4, _, cc4, by rw [hok], ?_, ?_⟩
      · rw [A1.out, A2.out, A3.out]
        exact (((HO7.out.far _ _ (by simp; omega)).far _ _ (by simp; omega)).far _ _ (by simp; omega)).mono (by omega)
      · exact ((HB7.out.setCell (by simp) _).setCell (by simp) _).setCell (by simp) _
end Go.Proofs.YthkpikkjgggimaaGreatDoor
