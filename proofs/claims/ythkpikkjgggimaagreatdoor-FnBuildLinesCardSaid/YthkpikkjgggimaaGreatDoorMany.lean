/-
  The contracts of CallsMany and BuildQuiet, in the program and in the reference. No claim stands here.
-/
import Derived.Test.YthkpikkjgggimaaGreatDoorEq
import Derived.Deep.RegionHeld3
namespace Go.Proofs.YthkpikkjgggimaaGreatDoor
open Go.RowKit
set_option linter.unusedVariables false
set_option linter.unusedSimpArgs false

/-- How many calls there are. -/
def manyOf (nu nd nc : Nat) (up dn car : Nat → Bool) : Int := if callsB nu nd nc up dn = true then (cntB up nu : Int) + (cntB dn nd : Int) + (cntB car nc : Int) else -1
def Bld.many (b : Bld) : Int := manyOf b.nu b.nd b.nc b.up b.dn b.car
def Bld.quiet (b : Bld) : Bool := b.valid && (decide (b.many = 0) && decide (b.fl = -1) && decide (b.gap = 0) && !b.op)

theorem countTrue_any {w : World} {B : Nat} {A : Option Addr} {n c : Nat} {p : Nat → Bool} (hn : n ≤ 1000000) (hs : Bools w B A n p) :
    Calls Tryz.prog 144 #[.slice A n c] w fun e w' => e = .returned (.int .i64 (cntB p n : Nat)) ∧ w = w' := by
  go_enter Tryz.func144, Tryz.ntmps144
  go_wp2
  go_loop [3, 8] (fun s3 s8 => ∃ k : Nat, k ≤ n ∧ s8 = .int .i64 k ∧ s3 = .int .i64 (cntB p k : Nat)) (fun _ s8 => n - (intOf s8).toNat)
  case atStart => exact ⟨0, Nat.zero_le _, rfl, rfl⟩
  case round =>
    obtain ⟨k, hk, rfl, rfl⟩ := hrel
    have hle := cntB_le p k
    by_cases hlt : k < n
    · obtain ⟨b, off, rfl, _, hc⟩ := hs (by omega)
      have c0 := hc k hlt
      have HS : Hid (cntB p (k + 1) = cntB p k + if p k = true then 1 else 0) := Lib.hid rfl
      clear hc hs
      generalize hC : cntB p k = C at *
      clear hC
      cases hp : p k
      all_goals
        go_wp2
        go_round
        case rel => exact ⟨k + 1, by omega, by go_num, by rw [HS.out, hp]; go_num⟩
        case measure => simp [intOf]; omega
    · obtain rfl : k = n := by omega
      go_wp2
      go_ret
      exact ⟨rfl, rfl⟩

theorem many_no {nu nd nc : Nat} {up dn car : Nat → Bool} (h : callsB nu nd nc up dn = false) : manyOf nu nd nc up dn car = -1 := by simp [manyOf, h]
theorem many_yes {nu nd nc : Nat} {up dn car : Nat → Bool} (h : callsB nu nd nc up dn = true) : manyOf nu nd nc up dn car = (cntB up nu : Int) + (cntB dn nd : Int) + (cntB car nc : Int) := by simp [manyOf, h]

set_option maxHeartbeats 1600000 in
theorem impl_CallsMany {w : World} {B : Nat} {U D C : Option Addr} {nu cu nd cd nc cc : Nat} {up dn car : Nat → Bool} (n1 : nu ≤ 9223372036854775806) (n2 : nd ≤ 9223372036854775806) (n3 : nc ≤ 9223372036854775806) (hB : B ≤ w.heap.size)
    (hu : Bools w B U nu up) (hd : Bools w B D nd dn) (hc : Bools w B C nc car) :
    Calls Tryz.prog 130 #[.agg #[.slice U nu cu, .slice D nd cd, .slice C nc cc]] w fun e w' => e = .returned (.int .i64 (manyOf nu nd nc up dn car)) ∧ Below w.heap.size w w' := by
  have HX0 := Lib.hid (Bx.new w #[.slice U nu cu, .slice D nd cd, .slice C nc cc] 32)
  have HB0 := Lib.hid ((Below.refl w.heap.size w).alloc (Nat.le_refl _) (.cells #[.slice U nu cu, .slice D nd cd, .slice C nc cc] 32))
  have HU := Lib.hid hu
  have HD := Lib.hid hd
  have HC := Lib.hid hc
  clear hu hd hc
  go_enter Tryz.func130, Tryz.ntmps130
  go_wp2_with fail
  refine (impl_CallsValid n1 n2 n3 (Nat.le_trans hB HB0.out.size) (HU.out.below (HB0.out.mono hB)) (HD.out.below (HB0.out.mono hB))).mono ?_
  rintro e w1 ⟨rfl, hb1⟩
  have HX1 := Lib.hid (HX0.out.below hb1 HX0.out.lt)
  have HB1 := Lib.hid (HB0.out.trans (hb1.mono HB0.out.size))
  clear hb1 HX0 HB0
  have c0 := HX1.out.cells
  cases hC : callsB nu nd nc up dn
  · have HN := Lib.hid (many_no (car := car) hC)
    go_wp2
    go_ret
    exact ⟨ret_int HN.out.symm, HB1.out⟩
  · obtain ⟨k1, k2, k3, k4, _⟩ := callsB_iff.1 hC
    have HN := Lib.hid (many_yes (car := car) hC)
    have HU1 := Lib.hid (HU.out.below (HB1.out.mono hB))
    have HD1 := Lib.hid (HD.out.below (HB1.out.mono hB))
    have HC1 := Lib.hid (HC.out.below (HB1.out.mono hB))
    have b1 := cntB_le up nu
    have b2 := cntB_le dn nd
    have b3 := cntB_le car nc
    have m1 : nu ≤ 8 := k2
    have m2 : nd ≤ 8 := by omega
    have m3 : nc ≤ 8 := by omega
    clear k3 k4 hC
    generalize hcu : cntB up nu = cU at *
    generalize hcd : cntB dn nd = cD at *
    generalize hcc : cntB car nc = cC at *
    have E1 := Lib.hid hcu
    have E2 := Lib.hid hcd
    have E3 := Lib.hid hcc
    clear hcu hcd hcc
    go_wp2_with fail
    have S1 := Lib.hid HU1.out.drew
    have S2 := Lib.hid HD1.out.drew
    have S3 := Lib.hid HC1.out.drew
    have T1 : Hid (∀ W, Bools W B U nu up → Calls Tryz.prog 144 #[.slice U nu cu] W fun e w' => e = .returned (.int .i64 (cU : Nat)) ∧ W = w') := Lib.hid (fun W h => by
      have := countTrue_any (c := cu) (by omega : nu ≤ 1000000) h; rwa [E1.out] at this)
    have T2 : Hid (∀ W, Bools W B D nd dn → Calls Tryz.prog 144 #[.slice D nd cd] W fun e w' => e = .returned (.int .i64 (cD : Nat)) ∧ W = w') := Lib.hid (fun W h => by
      have := countTrue_any (c := cd) (by omega : nd ≤ 1000000) h; rwa [E2.out] at this)
    have T3 : Hid (∀ W, Bools W B C nc car → Calls Tryz.prog 144 #[.slice C nc cc] W fun e w' => e = .returned (.int .i64 (cC : Nat)) ∧ W = w') := Lib.hid (fun W h => by
      have := countTrue_any (c := cc) (by omega : nc ≤ 1000000) h; rwa [E3.out] at this)
    have x1 : IntKind.i64.wrap ((cU : Int) + (cD : Int)) = (cU : Int) + (cD : Int) := IntWalk.i64_in _ (by omega)
    have x2 : IntKind.i64.wrap ((cU : Int) + (cD : Int) + (cC : Int)) = (cU : Int) + (cD : Int) + (cC : Int) := IntWalk.i64_in _ (by omega)
    have z0 := HX1.out.cells
    go_region_held3 (fun w' => ∀ o, w'.cell? ⟨w.heap.size, o, none⟩ = (#[.slice U nu cu, .slice D nd cd, .slice C nc cc] : Array Value)[o]?) (exact z0) (first
      | (go_at_call 144; ((with_reducible refine (T1.out _ S1.out).mono ?_); rintro e w2 ⟨rfl, rfl⟩; have tok := z0))
      | (go_at_call 144; ((with_reducible refine (T2.out _ S2.out).mono ?_); rintro e w3 ⟨rfl, rfl⟩; have tok := z0))
      | (go_at_call 144; ((with_reducible refine (T3.out _ S3.out).mono ?_); rintro e w4 ⟨rfl, rfl⟩; have tok := z0)))
    go_wp2
    go_ret
    exact ⟨ret_int HN.out.symm, HB1.out.drew⟩

set_option maxHeartbeats 3200000 in
theorem spec_CallsMany {w : World} {B : Nat} {U D C : Option Addr} {nu cu nd cd nc cc : Nat} {up dn car : Nat → Bool} (n1 : nu ≤ 9223372036854775806) (n2 : nd ≤ 9223372036854775806) (n3 : nc ≤ 9223372036854775806) (hB : B ≤ w.heap.size)
    (hu : Bools w B U nu up) (hd : Bools w B D nd dn) (hc : Bools w B C nc car) :
    Calls Tryz.prog 139 #[.agg #[.slice U nu cu, .slice D nd cd, .slice C nc cc]] w fun e w' => e = .returned (.int .i64 (manyOf nu nd nc up dn car)) ∧ Below w.heap.size w w' := by
  have HX0 := Lib.hid (Bx.new w #[.slice U nu cu, .slice D nd cd, .slice C nc cc] 32)
  have HB0 := Lib.hid ((Below.refl w.heap.size w).alloc (Nat.le_refl _) (.cells #[.slice U nu cu, .slice D nd cd, .slice C nc cc] 32))
  have HU := Lib.hid hu
  have HD := Lib.hid hd
  have HC := Lib.hid hc
  clear hu hd hc
  go_enter Tryz.func139, Tryz.ntmps139
  go_wp2_with fail
  refine (spec_CallsValid n1 n2 n3 (Nat.le_trans hB HB0.out.size) (HU.out.below (HB0.out.mono hB)) (HD.out.below (HB0.out.mono hB))).mono ?_
  rintro e w1 ⟨rfl, hb1⟩
  have HX1 := Lib.hid (HX0.out.below hb1 HX0.out.lt)
  have HB1 := Lib.hid (HB0.out.trans (hb1.mono HB0.out.size))
  clear hb1 HX0 HB0
  have c0 := HX1.out.cells
  cases hC : callsB nu nd nc up dn
  · have HN := Lib.hid (many_no (car := car) hC)
    go_wp2
    go_ret
    exact ⟨ret_int HN.out.symm, HB1.out⟩
  · obtain ⟨k1, k2, rfl, rfl, _⟩ := callsB_iff.1 hC
    have HN := Lib.hid (many_yes (car := car) hC)
    have HU1 := Lib.hid (HU.out.below (HB1.out.mono hB))
    have HD1 := Lib.hid (HD.out.below (HB1.out.mono hB))
    have HC1 := Lib.hid (HC.out.below (HB1.out.mono hB))
    clear hC
    obtain ⟨b1, o1, rfl, _, g1⟩ := HU1.out (by omega)
    obtain ⟨b2, o2, rfl, _, g2⟩ := HD1.out (by omega)
    obtain ⟨b3, o3, rfl, _, g3⟩ := HC1.out (by omega)
    have G1 := Lib.hid g1
    have G2 := Lib.hid g2
    have G3 := Lib.hid g3
    clear g1 g2 g3
    go_wp2
    go_loop [3, 4] (fun s3 s4 => ∃ k : Nat, k ≤ nc ∧ s4 = .int .i64 k ∧ s3 = .int .i64 ((cntB up k : Int) + (cntB dn k : Int) + (cntB car k : Int))) (fun _ s4 => nc - (intOf s4).toNat)
    case atStart => exact ⟨0, Nat.zero_le _, rfl, rfl⟩
    case round =>
      obtain ⟨k, hk, rfl, rfl⟩ := hrel
      have l1 := cntB_le up k
      have l2 := cntB_le dn k
      have l3 := cntB_le car k
      by_cases hlt : k < nc
      · have c1 := G1.out k hlt
        have c2 := G2.out k hlt
        have c3 := G3.out k hlt
        have R1 : Hid (cntB up (k + 1) = cntB up k + if up k = true then 1 else 0) := Lib.hid rfl
        have R2 : Hid (cntB dn (k + 1) = cntB dn k + if dn k = true then 1 else 0) := Lib.hid rfl
        have R3 : Hid (cntB car (k + 1) = cntB car k + if car k = true then 1 else 0) := Lib.hid rfl
        generalize hX : cntB up k = X at *
        generalize hY : cntB dn k = Y at *
        generalize hZ : cntB car k = Z at *
        clear hX hY hZ
        cases hu : up k
        all_goals
          cases hd : dn k
          all_goals
            cases hc : car k
            all_goals
              go_wp2
              go_round
              case rel => exact ⟨k + 1, by omega, by go_num, by rw [R1.out, R2.out, R3.out, hu, hd, hc]; go_num⟩
              case measure => simp [intOf]; omega
      · obtain rfl : k = nc := by omega
        go_wp2
        go_ret
        exact ⟨ret_int HN.out.symm, HB1.out⟩

theorem quiet_no {b : Bld} (h : b.valid = false) : b.quiet = false := by simp [Bld.quiet, h]
theorem quiet_yes {b : Bld} (h : b.valid = true) : b.quiet = (decide (b.many = 0) && decide (b.fl = -1) && decide (b.gap = 0) && !b.op) := by simp [Bld.quiet, h]

set_option maxHeartbeats 1600000 in
theorem impl_BuildQuiet {w : World} {B : Nat} {v : Bv} {b : Bld} (hn : b.Small) (hB : B ≤ w.heap.size) (hr : ReadB w B v b) :
    Calls Tryz.prog 97 #[bval v b] w fun e w' => e = .returned (.bool b.quiet) ∧ Below w.heap.size w w' := by
  have HX0 := Lib.hid (Bx.new w (bcells v b) 36)
  have HB0 := Lib.hid ((Below.refl w.heap.size w).alloc (Nat.le_refl _) (.cells (bcells v b) 36))
  have HR := Lib.hid hr
  have HSm := Lib.hid hn
  obtain ⟨m0, m1, m2, m3⟩ := hn
  clear hr
  unfold bval bcells at *
  go_enter Tryz.func97, Tryz.ntmps97
  go_wp2_with fail
  refine (impl_BuildValid (v := v) (b := b) HSm.out (Nat.le_trans hB HB0.out.size) (HR.out.below (HB0.out.mono hB))).mono ?_
  rintro e w1 ⟨rfl, hb1⟩
  have HX1 := Lib.hid (HX0.out.below hb1 HX0.out.lt)
  have HB1 := Lib.hid (HB0.out.trans (hb1.mono HB0.out.size))
  clear hb1 HX0 HB0
  have c0 := HX1.out.cells
  cases hv : b.valid
  · have HN := Lib.hid (quiet_no hv)
    go_wp2
    go_ret
    exact ⟨ret_bool HN.out.symm, HB1.out⟩
  · have HN := Lib.hid (quiet_yes hv)
    have HR1 := Lib.hid (HR.out.below (HB1.out.mono hB))
    clear hv
    go_wp2_with fail
    refine (impl_CallsMany (by omega) (by omega) (by omega) (Nat.le_trans hB HB1.out.size) HR1.out.u HR1.out.d HR1.out.c).mono ?_
    rintro e w2 ⟨rfl, hb2⟩
    have HX2 := Lib.hid (HX1.out.below hb2 HX1.out.lt)
    have HB2 := Lib.hid (HB1.out.trans (hb2.mono HB1.out.size))
    clear hb2 HX1 HB1 c0
    have c0 := HX2.out.cells
    have hM : manyOf b.nu b.nd b.nc b.up b.dn b.car = b.many := rfl
    rw [hM]
    clear hM
    generalize b.many = M at *
    cases h1 : (M == 0)
    · go_wp2
      go_ret
      exact ⟨ret_bool (by rw [HN.out]; simp at h1; simp [h1]), HB2.out⟩
    · cases h2 : (b.fl == -1)
      · go_wp2
        go_ret
        exact ⟨ret_bool (by rw [HN.out]; simp at h2; simp [h2]), HB2.out⟩
      · cases h3 : (b.gap == 0)
        · go_wp2
          go_ret
          exact ⟨ret_bool (by rw [HN.out]; simp at h3; simp [h3]), HB2.out⟩
        · go_wp2
          go_ret
          exact ⟨ret_bool (by rw [HN.out]; simp at h1 h2 h3; simp [h1, h2, h3]), HB2.out⟩
set_option maxHeartbeats 1600000 in
theorem spec_BuildQuiet {w : World} {B : Nat} {v : Bv} {b : Bld} (hn : b.Small) (hB : B ≤ w.heap.size) (hr : ReadB w B v b) :
    Calls Tryz.prog 108 #[bval v b] w fun e w' => e = .returned (.bool b.quiet) ∧ Below w.heap.size w w' := by
  have HX0 := Lib.hid (Bx.new w (bcells v b) 36)
  have HB0 := Lib.hid ((Below.refl w.heap.size w).alloc (Nat.le_refl _) (.cells (bcells v b) 36))
  have HR := Lib.hid hr
  have HSm := Lib.hid hn
  obtain ⟨m0, m1, m2, m3⟩ := hn
  clear hr
  unfold bval bcells at *
  go_enter Tryz.func108, Tryz.ntmps108
  go_wp2_with fail
  refine (spec_BuildValid (v := v) (b := b) HSm.out (Nat.le_trans hB HB0.out.size) (HR.out.below (HB0.out.mono hB))).mono ?_
  rintro e w1 ⟨rfl, hb1⟩
  have HX1 := Lib.hid (HX0.out.below hb1 HX0.out.lt)
  have HB1 := Lib.hid (HB0.out.trans (hb1.mono HB0.out.size))
  clear hb1 HX0 HB0
  have c0 := HX1.out.cells
  cases hv : b.valid
  · have HN := Lib.hid (quiet_no hv)
    go_wp2
    go_ret
    exact ⟨ret_bool HN.out.symm, HB1.out⟩
  · have HN := Lib.hid (quiet_yes hv)
    have HR1 := Lib.hid (HR.out.below (HB1.out.mono hB))
    clear hv
    go_wp2_with fail
    refine (spec_CallsMany (by omega) (by omega) (by omega) (Nat.le_trans hB HB1.out.size) HR1.out.u HR1.out.d HR1.out.c).mono ?_
    rintro e w2 ⟨rfl, hb2⟩
    have HX2 := Lib.hid (HX1.out.below hb2 HX1.out.lt)
    have HB2 := Lib.hid (HB1.out.trans (hb2.mono HB1.out.size))
    clear hb2 HX1 HB1 c0
    have c0 := HX2.out.cells
    have hM : manyOf b.nu b.nd b.nc b.up b.dn b.car = b.many := rfl
    rw [hM]
    clear hM
    generalize b.many = M at *
    cases h1 : (M == 0)
    · go_wp2
      go_ret
      exact ⟨ret_bool (by rw [HN.out]; simp at h1; simp [h1]), HB2.out⟩
    · cases h2 : (b.fl == -1)
      · go_wp2
        go_ret
        exact ⟨ret_bool (by rw [HN.out]; simp at h2; simp [h2]), HB2.out⟩
      · cases h3 : (b.gap == 0)
        · go_wp2
          go_ret
          exact ⟨ret_bool (by rw [HN.out]; simp at h3; simp [h3]), HB2.out⟩
        · go_wp2
          go_ret
          exact ⟨ret_bool (by rw [HN.out]; simp at h1 h2 h3; simp [h1, h2, h3]), HB2.out⟩
end Go.Proofs.YthkpikkjgggimaaGreatDoor
