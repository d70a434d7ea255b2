/-
  The contract of the reference's CallSet. No claim stands here.
-/
import Derived.Test.YthkpikkjgggimaaGreatDoorSetJ
import Derived.Test.YthkpikkjgggimaaGreatDoorDoor
namespace Go.Proofs.YthkpikkjgggimaaGreatDoor
open Go.RowKit
set_option linter.unusedVariables false
set_option linter.unusedSimpArgs false

theorem own_set {w : World} {base : Nat} {U D C : Option Addr} {nu cu nd cd nc cc : Nat} {up dn car : Nat → Bool} {p : Addr} {v : Value} (hp : p.block < base) (h : OwnC w base U nu cu up D nd cd dn C nc cc car) : OwnC (w.setCell p v) base U nu cu up D nd cd dn C nc cc car := h.far p v hp
theorem setOk_last {n : Nat} {up dn : Nat → Bool} {kind fl : Int} {to : Bool} (h0 : kind ≠ 0) (h1 : kind ≠ 1) (h2 : kind ≠ 2) : setOk n up dn kind fl to = false := setOk_kind (by omega)

set_option maxHeartbeats 6400000 in
theorem spec_CallSet {w : World} {B n : Nat} {U D C : Option Addr} {cu cd cc : Nat} {up dn car : Nat → Bool} (kind fl : Int) (to : Bool) (hv : callsB n n n up dn = true) (hB : B ≤ w.heap.size)
    (hu : Bools w B U n up) (hd : Bools w B D n dn) (hc : Bools w B C n car) :
    Calls Tryz.prog 109 #[.agg #[.slice U n cu, .slice D n cd, .slice C n cc], .int .i64 kind, .int .i64 fl, .bool to] w (SetPost n up dn car kind fl to w) := by
  obtain ⟨hn1, hn8, _⟩ := callsB_iff.1 hv
  have HV := Lib.hid hv
  have HU := Lib.hid hu
  have HD := Lib.hid hd
  have HC := Lib.hid hc
  clear hu hd hc hv
  unfold SetPost
  go_enter Tryz.func109, Tryz.ntmps109
  go_wp2_with fail
  refine (spec_CallsValid (nu := n) (nd := n) (nc := n) (up := up) (dn := dn) (by omega) (by omega) (by omega) (Nat.le_trans hB (by simp <;> omega)) ((HU.out.alloc hB _).alloc (Nat.le_trans hB (by simp <;> omega)) _) ((HD.out.alloc hB _).alloc (Nat.le_trans hB (by simp <;> omega)) _)).mono ?_
  rintro e w1 ⟨rfl, hb1⟩
  rw [HV.out]
  obtain ⟨x, y, hbb, hs1⟩ := boxes2' hb1
  have HX1 := Lib.hid x
  have HY1 := Lib.hid y
  have HB1 := Lib.hid hbb
  have c0 := x.cells
  clear hb1 x y hbb
  go_wp2_with fail
  refine (l8Copy_any (by omega) (by omega) (by omega) (by omega) (by omega) (by omega) (Nat.le_trans hB HB1.out.size) (HU.out.below (HB1.out.mono hB)) (HD.out.below (HB1.out.mono hB)) (HC.out.below (HB1.out.mono hB))).mono ?_
  rintro e w2 ⟨U2, cu2, D2, cd2, C2, cc2, rfl, hk2, hb2⟩
  have HX2 := Lib.hid (HX1.out.below hb2 HX1.out.lt)
  have HY2 := Lib.hid (HY1.out.below hb2 HY1.out.lt)
  have HB2 := Lib.hid (HB1.out.trans (hb2.mono HB1.out.size))
  have HK2 := Lib.hid (hk2.mono (base' := w.heap.size + 2) hs1)
  have hs2 : w.heap.size + 2 ≤ w2.heap.size := Nat.le_trans hs1 hb2.size
  clear c0 hb2 hk2 HX1 HY1 HB1
  obtain ⟨bu, rfl, hbu, hbu2⟩ := HK2.out.u.block (by omega)
  obtain ⟨bd, rfl, hbd, hbd2⟩ := HK2.out.d.block (by omega)
  obtain ⟨bc, rfl, hbc, hbc2⟩ := HK2.out.c.block (by omega)
  have HX3 := Lib.hid (HX2.out.alloc (.cells #[.slice (some ⟨bu, 0, none⟩) n cu2, .slice (some ⟨bd, 0, none⟩) n cd2, .slice (some ⟨bc, 0, none⟩) n cc2] 32))
  have HY3 := Lib.hid (HY2.out.alloc (.cells #[.slice (some ⟨bu, 0, none⟩) n cu2, .slice (some ⟨bd, 0, none⟩) n cd2, .slice (some ⟨bc, 0, none⟩) n cc2] 32))
  have HS3 := Lib.hid (Bx.new w2 #[.slice (some ⟨bu, 0, none⟩) n cu2, .slice (some ⟨bd, 0, none⟩) n cd2, .slice (some ⟨bc, 0, none⟩) n cc2] 32)
  have HB3 := Lib.hid (HB2.out.alloc HB2.out.size (.cells #[.slice (some ⟨bu, 0, none⟩) n cu2, .slice (some ⟨bd, 0, none⟩) n cd2, .slice (some ⟨bc, 0, none⟩) n cc2] 32))
  have HK3 := Lib.hid (HK2.out.below ((Below.refl w2.heap.size w2).alloc (Nat.le_refl _) (.cells #[.slice (some ⟨bu, 0, none⟩) n cu2, .slice (some ⟨bd, 0, none⟩) n cd2, .slice (some ⟨bc, 0, none⟩) n cc2] 32)) (Nat.le_refl _))
  have c0 := HX3.out.cells
  have c1 := HY3.out.cells
  have z1 := HY3.out.free
  have c3 := HS3.out.cells
  have z3 := HS3.out.free
  go_wp2_with fail
  refine (l1In_any fl 0 ((n : Int) - 1) _).mono ?_
  rintro e w3 ⟨rfl, rfl⟩
  cases hfl : inB fl 0 ((n : Int) - 1)
  · have e0 := setOk_floor (n := n) (up := up) (dn := dn) (kind := kind) (to := to) hfl
    obtain ⟨a1, a2, a3⟩ := ask_no (car := car) e0
    have HE := Lib.hid e0
    have A1 := Lib.hid a1
    have A2 := Lib.hid a2
    have A3 := Lib.hid a3
    clear e0 a1 a2 a3
    go_wp2
    refine bodyPost_ret (v := .tuple #[.agg #[.slice (some ⟨bu, 0, none⟩) n cu2, .slice (some ⟨bd, 0, none⟩) n cd2, .slice (some ⟨bc, 0, none⟩) n cc2], .bool false]) (by simp [results, Tryz.results109, go_sem, c1, c3]) rfl ⟨_, cu2, _, cd2, _, cc2, by rw [HE.out], ?_, ?_⟩
    · rw [A1.out, A2.out, A3.out]
      refine OwnC.mono (base := w.heap.size + 2) ?_ (by omega)
      repeat (refine own_set (by simp <;> omega) ?_)
      exact HK3.out
    · repeat (refine below_set (by simp <;> omega) ?_)
      exact HB3.out
  have hf := inB_iff.1 hfl
  obtain ⟨k, rfl⟩ : ∃ k : Nat, fl = (k : Int) := ⟨fl.toNat, by omega⟩
  have hk : k < n := by omega
  rcases (by omega : (kind ≠ 0 ∧ kind ≠ 1 ∧ kind ≠ 2) ∨ kind = 0 ∨ kind = 1 ∨ kind = 2) with ⟨k0, k1, k2⟩ | rfl | rfl | rfl
  · have e0 := setOk_last (n := n) (up := up) (dn := dn) (fl := (k : Int)) (to := to) k0 k1 k2
    obtain ⟨a1, a2, a3⟩ := ask_no (car := car) e0
    have HE := Lib.hid e0
    have A1 := Lib.hid a1
    have A2 := Lib.hid a2
    have A3 := Lib.hid a3
    have q0 : (kind == 0) = false := by simp [k0]
    have q1 : (kind == 1) = false := by simp [k1]
    have q2 : (kind == 2) = false := by simp [k2]
    clear e0 a1 a2 a3 k0 k1 k2
    go_wp2
    refine bodyPost_ret (v := .tuple #[.agg #[.slice (some ⟨bu, 0, none⟩) n cu2, .slice (some ⟨bd, 0, none⟩) n cd2, .slice (some ⟨bc, 0, none⟩) n cc2], .bool false]) (by simp [results, Tryz.results109, go_sem, c1, c3]) rfl ⟨_, cu2, _, cd2, _, cc2, by rw [HE.out], ?_, ?_⟩
    · rw [A1.out, A2.out, A3.out]
      refine OwnC.mono (base := w.heap.size + 2) ?_ (by omega)
      repeat (refine own_set (by simp <;> omega) ?_)
      exact HK3.out
    · repeat (refine below_set (by simp <;> omega) ?_)
      exact HB3.out
  · have r1 := HK3.out.u.cell hk
    have r2 := HK3.out.u.frozen k
    have eU : setUp up 0 (k : Int) to = updB up k to := by simp [setUp]
    have eD : setDn dn 0 (k : Int) to = dn := by simp [setDn]
    have eC : setCar car 0 (k : Int) to = car := by simp [setCar]
    have HK4 := Lib.hid ((HK2.out.setU k to).below ((Below.refl w2.heap.size (w2.setCell ⟨bu, k, none⟩ (.bool to))).alloc (by simp) (.cells #[.slice (some ⟨bu, 0, none⟩) n cu2, .slice (some ⟨bd, 0, none⟩) n cd2, .slice (some ⟨bc, 0, none⟩) n cc2] 32)) (by simp))
    have HS4 := Lib.hid (Bx.new (w2.setCell ⟨bu, k, none⟩ (.bool to)) #[.slice (some ⟨bu, 0, none⟩) n cu2, .slice (some ⟨bd, 0, none⟩) n cd2, .slice (some ⟨bc, 0, none⟩) n cc2] 32)
    have HX4 := Lib.hid ((HX2.out.far ⟨bu, k, none⟩ (.bool to) (by simp; omega)).alloc (.cells #[.slice (some ⟨bu, 0, none⟩) n cu2, .slice (some ⟨bd, 0, none⟩) n cd2, .slice (some ⟨bc, 0, none⟩) n cc2] 32))
    have HY4 := Lib.hid ((HY2.out.far ⟨bu, k, none⟩ (.bool to) (by simp; omega)).alloc (.cells #[.slice (some ⟨bu, 0, none⟩) n cu2, .slice (some ⟨bd, 0, none⟩) n cd2, .slice (some ⟨bc, 0, none⟩) n cc2] 32))
    have HB4 := Lib.hid ((HB2.out.setCell (p := ⟨bu, k, none⟩) (by simp; omega) (.bool to)).alloc (by have := HB2.out.size; simpa using this) (.cells #[.slice (some ⟨bu, 0, none⟩) n cu2, .slice (some ⟨bd, 0, none⟩) n cd2, .slice (some ⟨bc, 0, none⟩) n cc2] 32))
    go_wp2_with fail
    refine (spec_CallsValid (nu := n) (nd := n) (nc := n) (by omega) (by omega) (by omega) (Nat.le_refl _) HK4.out.u.bools HK4.out.d.bools).mono ?_
    rintro e w7 ⟨rfl, hb7⟩
    have eV : callsB n n n (updB up k to) (dn) = setOk n up dn 0 (k : Int) to := by
      have h := callsB_set HV.out (kind := 0) (fl := (k : Int)) (to := to)
      rw [eU, eD] at h
      rw [h, setOk, eU, eD, hfl]
      simp [inB]
    rw [eV]
    have HX7 := Lib.hid (HX4.out.below hb7 HX4.out.lt)
    have HY7 := Lib.hid (HY4.out.below hb7 HY4.out.lt)
    have HS7 := Lib.hid (HS4.out.below hb7 HS4.out.lt)
    have HB7 := Lib.hid (HB4.out.trans (hb7.mono HB4.out.size))
    have HK7 := Lib.hid (HK4.out.below hb7 (Nat.le_refl _))
    have hs7 : w2.heap.size + 1 ≤ w7.heap.size := by have := hb7.size; simpa using this
    clear hb7 r1 r2 c0 c1 c3 z1 z3 HX4 HY4 HS4 HB4 HK4
    have c0 := HX7.out.cells
    have c1 := HY7.out.cells
    have z1 := HY7.out.free
    have c3 := HS7.out.cells
    simp only [World.size_setCell] at c3
    cases hok : setOk n up dn 0 (k : Int) to
    · obtain ⟨a1, a2, a3⟩ := ask_no (car := car) hok
      have A1 := Lib.hid a1
      have A2 := Lib.hid a2
      have A3 := Lib.hid a3
      clear a1 a2 a3 eV eU eD eC
      go_wp2_with fail
      refine (l8Copy_any (by omega) (by omega) (by omega) (by omega) (by omega) (by omega) (Nat.le_trans hB HB7.out.size) (HU.out.below (HB7.out.mono hB)) (HD.out.below (HB7.out.mono hB)) (HC.out.below (HB7.out.mono hB))).mono ?_
      rintro e w8 ⟨U8, cu8, D8, cd8, C8, cc8, rfl, hk8, hb8⟩
      have HY8 := Lib.hid (HY7.out.below hb8 HY7.out.lt)
      have HB8 := Lib.hid (HB7.out.trans (hb8.mono HB7.out.size))
      have HK8 := Lib.hid (hk8.mono (base' := w.heap.size + 2) (by omega))
      clear hb8 hk8 c0 c1 z1 c3
      have c1 := HY8.out.cells
      have z1 := HY8.out.free
      go_wp2
      refine bodyPost_ret (v := .tuple #[.agg #[.slice U8 n cu8, .slice D8 n cd8, .slice C8 n cc8], .bool false]) (by simp [results, Tryz.results109, go_sem, c1]) rfl ⟨_, cu8, _, cd8, _, cc8, by rw [hok], ?_, ?_⟩
      · rw [A1.out, A2.out, A3.out]
        refine OwnC.mono (base := w.heap.size + 2) ?_ (by omega)
        repeat (refine own_set (by simp <;> omega) ?_)
        exact HK8.out
      · repeat (refine below_set (by simp <;> omega) ?_)
        exact HB8.out
    · obtain ⟨a1, a2, a3⟩ := ask_yes (car := car) hok
      rw [eU] at a1
      rw [eD] at a2
      rw [eC] at a3
      have A1 := Lib.hid a1
      have A2 := Lib.hid a2
      have A3 := Lib.hid a3
      clear a1 a2 a3 eV eU eD eC
      go_wp2
      refine bodyPost_ret (v := .tuple #[.agg #[.slice (some ⟨bu, 0, none⟩) n cu2, .slice (some ⟨bd, 0, none⟩) n cd2, .slice (some ⟨bc, 0, none⟩) n cc2], .bool true]) (by simp [results, Tryz.results109, go_sem, c1, c3]) rfl ⟨_, cu2, _, cd2, _, cc2, by rw [hok], ?_, ?_⟩
      · rw [A1.out, A2.out, A3.out]
        refine OwnC.mono (base := w.heap.size + 2) ?_ (by omega)
        repeat (refine own_set (by simp <;> omega) ?_)
        exact HK7.out
      · repeat (refine below_set (by simp <;> omega) ?_)
        exact HB7.out
  · have r1 := HK3.out.d.cell hk
    have r2 := HK3.out.d.frozen k
    have eU : setUp up 1 (k : Int) to = up := by simp [setUp]
    have eD : setDn dn 1 (k : Int) to = updB dn k to := by simp [setDn]
    have eC : setCar car 1 (k : Int) to = car := by simp [setCar]
    have HK4 := Lib.hid ((HK2.out.setD k to).below ((Below.refl w2.heap.size (w2.setCell ⟨bd, k, none⟩ (.bool to))).alloc (by simp) (.cells #[.slice (some ⟨bu, 0, none⟩) n cu2, .slice (some ⟨bd, 0, none⟩) n cd2, .slice (some ⟨bc, 0, none⟩) n cc2] 32)) (by simp))
    have HS4 := Lib.hid (Bx.new (w2.setCell ⟨bd, k, none⟩ (.bool to)) #[.slice (some ⟨bu, 0, none⟩) n cu2, .slice (some ⟨bd, 0, none⟩) n cd2, .slice (some ⟨bc, 0, none⟩) n cc2] 32)
    have HX4 := Lib.hid ((HX2.out.far ⟨bd, k, none⟩ (.bool to) (by simp; omega)).alloc (.cells #[.slice (some ⟨bu, 0, none⟩) n cu2, .slice (some ⟨bd, 0, none⟩) n cd2, .slice (some ⟨bc, 0, none⟩) n cc2] 32))
    have HY4 := Lib.hid ((HY2.out.far ⟨bd, k, none⟩ (.bool to) (by simp; omega)).alloc (.cells #[.slice (some ⟨bu, 0, none⟩) n cu2, .slice (some ⟨bd, 0, none⟩) n cd2, .slice (some ⟨bc, 0, none⟩) n cc2] 32))
    have HB4 := Lib.hid ((HB2.out.setCell (p := ⟨bd, k, none⟩) (by simp; omega) (.bool to)).alloc (by have := HB2.out.size; simpa using this) (.cells #[.slice (some ⟨bu, 0, none⟩) n cu2, .slice (some ⟨bd, 0, none⟩) n cd2, .slice (some ⟨bc, 0, none⟩) n cc2] 32))
    go_wp2_with fail
    refine (spec_CallsValid (nu := n) (nd := n) (nc := n) (by omega) (by omega) (by omega) (Nat.le_refl _) HK4.out.u.bools HK4.out.d.bools).mono ?_
    rintro e w7 ⟨rfl, hb7⟩
    have eV : callsB n n n (up) (updB dn k to) = setOk n up dn 1 (k : Int) to := by
      have h := callsB_set HV.out (kind := 1) (fl := (k : Int)) (to := to)
      rw [eU, eD] at h
      rw [h, setOk, eU, eD, hfl]
      simp [inB]
    rw [eV]
    have HX7 := Lib.hid (HX4.out.below hb7 HX4.out.lt)
    have HY7 := Lib.hid (HY4.out.below hb7 HY4.out.lt)
    have HS7 := Lib.hid (HS4.out.below hb7 HS4.out.lt)
    have HB7 := Lib.hid (HB4.out.trans (hb7.mono HB4.out.size))
    have HK7 := Lib.hid (HK4.out.below hb7 (Nat.le_refl _))
    have hs7 : w2.heap.size + 1 ≤ w7.heap.size := by have := hb7.size; simpa using this
    clear hb7 r1 r2 c0 c1 c3 z1 z3 HX4 HY4 HS4 HB4 HK4
    have c0 := HX7.out.cells
    have c1 := HY7.out.cells
    have z1 := HY7.out.free
    have c3 := HS7.out.cells
    simp only [World.size_setCell] at c3
    cases hok : setOk n up dn 1 (k : Int) to
    · obtain ⟨a1, a2, a3⟩ := ask_no (car := car) hok
      have A1 := Lib.hid a1
      have A2 := Lib.hid a2
      have A3 := Lib.hid a3
      clear a1 a2 a3 eV eU eD eC
      go_wp2_with fail
      refine (l8Copy_any (by omega) (by omega) (by omega) (by omega) (by omega) (by omega) (Nat.le_trans hB HB7.out.size) (HU.out.below (HB7.out.mono hB)) (HD.out.below (HB7.out.mono hB)) (HC.out.below (HB7.out.mono hB))).mono ?_
      rintro e w8 ⟨U8, cu8, D8, cd8, C8, cc8, rfl, hk8, hb8⟩
      have HY8 := Lib.hid (HY7.out.below hb8 HY7.out.lt)
      have HB8 := Lib.hid (HB7.out.trans (hb8.mono HB7.out.size))
      have HK8 := Lib.hid (hk8.mono (base' := w.heap.size + 2) (by omega))
      clear hb8 hk8 c0 c1 z1 c3
      have c1 := HY8.out.cells
      have z1 := HY8.out.free
      go_wp2
      refine bodyPost_ret (v := .tuple #[.agg #[.slice U8 n cu8, .slice D8 n cd8, .slice C8 n cc8], .bool false]) (by simp [results, Tryz.results109, go_sem, c1]) rfl ⟨_, cu8, _, cd8, _, cc8, by rw [hok], ?_, ?_⟩
      · rw [A1.out, A2.out, A3.out]
        refine OwnC.mono (base := w.heap.size + 2) ?_ (by omega)
        repeat (refine own_set (by simp <;> omega) ?_)
        exact HK8.out
      · repeat (refine below_set (by simp <;> omega) ?_)
        exact HB8.out
    · obtain ⟨a1, a2, a3⟩ := ask_yes (car := car) hok
      rw [eU] at a1
      rw [eD] at a2
      rw [eC] at a3
      have A1 := Lib.hid a1
      have A2 := Lib.hid a2
      have A3 := Lib.hid a3
      clear a1 a2 a3 eV eU eD eC
      go_wp2
      refine bodyPost_ret (v := .tuple #[.agg #[.slice (some ⟨bu, 0, none⟩) n cu2, .slice (some ⟨bd, 0, none⟩) n cd2, .slice (some ⟨bc, 0, none⟩) n cc2], .bool true]) (by simp [results, Tryz.results109, go_sem, c1, c3]) rfl ⟨_, cu2, _, cd2, _, cc2, by rw [hok], ?_, ?_⟩
      · rw [A1.out, A2.out, A3.out]
        refine OwnC.mono (base := w.heap.size + 2) ?_ (by omega)
        repeat (refine own_set (by simp <;> omega) ?_)
        exact HK7.out
      · repeat (refine below_set (by simp <;> omega) ?_)
        exact HB7.out
  · have r1 := HK3.out.c.cell hk
    have r2 := HK3.out.c.frozen k
    have eU : setUp up 2 (k : Int) to = up := by simp [setUp]
    have eD : setDn dn 2 (k : Int) to = dn := by simp [setDn]
    have eC : setCar car 2 (k : Int) to = updB car k to := by simp [setCar]
    have HK4 := Lib.hid ((HK2.out.setC k to).below ((Below.refl w2.heap.size (w2.setCell ⟨bc, k, none⟩ (.bool to))).alloc (by simp) (.cells #[.slice (some ⟨bu, 0, none⟩) n cu2, .slice (some ⟨bd, 0, none⟩) n cd2, .slice (some ⟨bc, 0, none⟩) n cc2] 32)) (by simp))
    have HS4 := Lib.hid (Bx.new (w2.setCell ⟨bc, k, none⟩ (.bool to)) #[.slice (some ⟨bu, 0, none⟩) n cu2, .slice (some ⟨bd, 0, none⟩) n cd2, .slice (some ⟨bc, 0, none⟩) n cc2] 32)
    have HX4 := Lib.hid ((HX2.out.far ⟨bc, k, none⟩ (.bool to) (by simp; omega)).alloc (.cells #[.slice (some ⟨bu, 0, none⟩) n cu2, .slice (some ⟨bd, 0, none⟩) n cd2, .slice (some ⟨bc, 0, none⟩) n cc2] 32))
    have HY4 := Lib.hid ((HY2.out.far ⟨bc, k, none⟩ (.bool to) (by simp; omega)).alloc (.cells #[.slice (some ⟨bu, 0, none⟩) n cu2, .slice (some ⟨bd, 0, none⟩) n cd2, .slice (some ⟨bc, 0, none⟩) n cc2] 32))
    have HB4 := Lib.hid ((HB2.out.setCell (p := ⟨bc, k, none⟩) (by simp; omega) (.bool to)).alloc (by have := HB2.out.size; simpa using this) (.cells #[.slice (some ⟨bu, 0, none⟩) n cu2, .slice (some ⟨bd, 0, none⟩) n cd2, .slice (some ⟨bc, 0, none⟩) n cc2] 32))
    go_wp2_with fail
    refine (spec_CallsValid (nu := n) (nd := n) (nc := n) (by omega) (by omega) (by omega) (Nat.le_refl _) HK4.out.u.bools HK4.out.d.bools).mono ?_
    rintro e w7 ⟨rfl, hb7⟩
    have eV : callsB n n n (up) (dn) = setOk n up dn 2 (k : Int) to := by
      have h := callsB_set HV.out (kind := 2) (fl := (k : Int)) (to := to)
      rw [eU, eD] at h
      rw [h, setOk, eU, eD, hfl]
      simp [inB]
    rw [eV]
    have HX7 := Lib.hid (HX4.out.below hb7 HX4.out.lt)
    have HY7 := Lib.hid (HY4.out.below hb7 HY4.out.lt)
    have HS7 := Lib.hid (HS4.out.below hb7 HS4.out.lt)
    have HB7 := Lib.hid (HB4.out.trans (hb7.mono HB4.out.size))
    have HK7 := Lib.hid (HK4.out.below hb7 (Nat.le_refl _))
    have hs7 : w2.heap.size + 1 ≤ w7.heap.size := by have := hb7.size; simpa using this
    clear hb7 r1 r2 c0 c1 c3 z1 z3 HX4 HY4 HS4 HB4 HK4
    have c0 := HX7.out.cells
    have c1 := HY7.out.cells
    have z1 := HY7.out.free
    have c3 := HS7.out.cells
    simp only [World.size_setCell] at c3
    cases hok : setOk n up dn 2 (k : Int) to
    · obtain ⟨a1, a2, a3⟩ := ask_no (car := car) hok
      have A1 := Lib.hid a1
      have A2 := Lib.hid a2
      have A3 := Lib.hid a3
      clear a1 a2 a3 eV eU eD eC
      go_wp2_with fail
      refine (l8Copy_any (by omega) (by omega) (by omega) (by omega) (by omega) (by omega) (Nat.le_trans hB HB7.out.size) (HU.out.below (HB7.out.mono hB)) (HD.out.below (HB7.out.mono hB)) (HC.out.below (HB7.out.mono hB))).mono ?_
      rintro e w8 ⟨U8, cu8, D8, cd8, C8, cc8, rfl, hk8, hb8⟩
      have HY8 := Lib.hid (HY7.out.below hb8 HY7.out.lt)
      have HB8 := Lib.hid (HB7.out.trans (hb8.mono HB7.out.size))
      have HK8 := Lib.hid (hk8.mono (base' := w.heap.size + 2) (by omega))
      clear hb8 hk8 c0 c1 z1 c3
      have c1 := HY8.out.cells
      have z1 := HY8.out.free
      go_wp2
      refine bodyPost_ret (v := .tuple #[.agg #[.slice U8 n cu8, .slice D8 n cd8, .slice C8 n cc8], .bool false]) (by simp [results, Tryz.results109, go_sem, c1]) rfl ⟨_, cu8, _, cd8, _, cc8, by rw [hok], ?_, ?_⟩
      · rw [A1.out, A2.out, A3.out]
        refine OwnC.mono (base := w.heap.size + 2) ?_ (by omega)
        repeat (refine own_set (by simp <;> omega) ?_)
        exact HK8.out
      · repeat (refine below_set (by simp <;> omega) ?_)
        exact HB8.out
    · obtain ⟨a1, a2, a3⟩ := ask_yes (car := car) hok
      rw [eU] at a1
      rw [eD] at a2
      rw [eC] at a3
      have A1 := Lib.hid a1
      have A2 := Lib.hid a2
      have A3 := Lib.hid a3
      clear a1 a2 a3 eV eU eD eC
      go_wp2
      refine bodyPost_ret (v := .tuple #[.agg #[.slice (some ⟨bu, 0, none⟩) n cu2, .slice (some ⟨bd, 0, none⟩) n cd2, .slice (some ⟨bc, 0, none⟩) n cc2], .bool true]) (by simp [results, Tryz.results109, go_sem, c1, c3]) rfl ⟨_, cu2, _, cd2, _, cc2, by rw [hok], ?_, ?_⟩
      · rw [A1.out, A2.out, A3.out]
        refine OwnC.mono (base := w.heap.size + 2) ?_ (by omega)
        repeat (refine own_set (by simp <;> omega) ?_)
        exact HK7.out
      · repeat (refine below_set (by simp <;> omega) ?_)
        exact HB7.out
end Go.Proofs.YthkpikkjgggimaaGreatDoor
