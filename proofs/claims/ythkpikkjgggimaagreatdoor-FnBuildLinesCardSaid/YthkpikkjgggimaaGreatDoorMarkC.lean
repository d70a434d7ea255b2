/-
  The contracts of heldCalls, markBuilding and heldBuilding. No claim stands here.
-/
import Derived.Test.YthkpikkjgggimaaGreatDoorMarkB
namespace Go.Proofs.YthkpikkjgggimaaGreatDoor
open Go.RowKit
set_option linter.unusedVariables false
set_option linter.unusedSimpArgs false

set_option maxHeartbeats 1600000 in
theorem heldCalls_same {w : World} {B : Nat} {U D C : Option Addr} {nu cu nd cd nc cc : Nat} {up dn car : Nat → Bool} (k0 : Int) (n1 : nu ≤ 17592186044415) (n2 : nd ≤ 17592186044415) (n3 : nc ≤ 17592186044415) (h0 : 0 ≤ k0) (h1 : k0 ≤ 100000000000000) (hB : B ≤ w.heap.size)
    (hu : Bools w B U nu up) (hd : Bools w B D nd dn) (hc : Bools w B C nc car) (eu : ∀ i, i < nu → up i = markedB k0 i) (ed : ∀ i, i < nd → dn i = markedB (k0 + nu) i) (ec : ∀ i, i < nc → car i = markedB (k0 + nu + nd) i) :
    Calls Tryz.prog 74 #[.agg #[.slice U nu cu, .slice D nd cd, .slice C nc cc], .int .i64 k0] w fun e w' => e = .returned (.int .i64 (k0 + nu + nd + nc)) ∧ Below w.heap.size w w' := by
  have HX0 := Lib.hid (Bx.new w #[.slice U nu cu, .slice D nd cd, .slice C nc cc] 32)
  have HB0 := Lib.hid ((Below.refl w.heap.size w).alloc (Nat.le_refl _) (.cells #[.slice U nu cu, .slice D nd cd, .slice C nc cc] 32))
  have HU := Lib.hid (hu.below (HB0.out.mono hB))
  have HD := Lib.hid (hd.below (HB0.out.mono hB))
  have HC := Lib.hid (hc.below (HB0.out.mono hB))
  have EU := Lib.hid eu
  have ED := Lib.hid ed
  have EC := Lib.hid ec
  clear hu hd hc eu ed ec
  have c0 := HX0.out.cells
  go_enter Tryz.func74, Tryz.ntmps74
  go_wp2_with fail
  refine (heldBoolS_same k0 n1 h0 (by omega) HU.out EU.out).mono ?_
  rintro e w1 ⟨rfl, m, rfl⟩
  have c1 := (HX0.out.drewN m).cells
  go_wp2_with fail
  refine (heldBoolS_same (k0 + nu) n2 (by omega) (by omega) (HD.out.drewN m) ED.out).mono ?_
  rintro e w2 ⟨rfl, m2, rfl⟩
  have c2 := (HX0.out.drewN (m + m2)).cells
  go_wp2_with fail
  refine (heldBoolS_same (k0 + nu + nd) n3 (by omega) (by omega) (HC.out.drewN (m + m2)) EC.out).mono ?_
  rintro e w3 ⟨rfl, m3, rfl⟩
  go_wp2
  go_ret
  exact ⟨rfl, below_drewN HB0.out _⟩

theorem In.lt {lo hi : Nat} {A : Option Addr} (h : In lo hi A) : ∀ x, A = some x → lo ≤ x.block ∧ x.block < hi := h

set_option maxHeartbeats 1600000 in
theorem markBuilding_any {w : World} {base lo hi : Nat} {v : Bv} {b : Bld} (k0 : Int) (hn : b.Small) (h0 : 0 ≤ k0) (h1 : k0 ≤ 1000000000000) (hs : OwnB w base v b) (hI : InB lo hi v) (hi' : hi ≤ w.heap.size) :
    Calls Tryz.prog 20 #[bval v b, .int .i64 k0] w fun e w' => e = .returned (.int .i64 (k0 + b.n + b.nu + b.nd + b.nc)) ∧ OwnB w' base v (b.marked k0) ∧ Within lo hi w w' := by
  obtain ⟨m0, m1, m2, m3⟩ := hn
  have HX0 := Lib.hid (Bx.new w (bcells v b) 36)
  have HW0 := Lib.hid (Within.of_below (lo := lo) (hi := hi) ((Below.refl w.heap.size w).alloc (Nat.le_refl _) (.cells (bcells v b) 36)))
  have HS0 := Lib.hid (hs.below ((Below.refl w.heap.size w).alloc (Nat.le_refl _) (.cells (bcells v b) 36)) (Nat.le_refl _))
  have HI := Lib.hid hI
  have HAP := Lib.hid (And.intro hs.hu (And.intro hs.hd hs.hc))
  clear hs hI
  unfold bval bcells at *
  have c0 := HX0.out.cells
  go_enter Tryz.func20, Tryz.ntmps20
  go_wp2_with fail
  refine (markIntS_any k0 h0 (by omega) HS0.out.h).mono ?_
  rintro e w1 ⟨rfl, hr1, hw1⟩
  have hq1 := Within.of_wrote (lo := lo) (hi := hi) hw1 HI.out.a.lt
  have HX1 := Lib.hid (HX0.out.within hq1 (by omega))
  have HW1 := Lib.hid (HW0.out.trans hq1)
  have HR1 := Lib.hid hr1
  have HK1 : Hid (OwnC w1 base v.U b.nu v.cu b.up v.D b.nd v.cd b.dn v.C b.nc v.cc b.car) := Lib.hid ⟨HS0.out.k.u.wrote2 hw1 HAP.out.1.symm, HS0.out.k.d.wrote2 hw1 HAP.out.2.1.symm, HS0.out.k.c.wrote2 hw1 HAP.out.2.2.symm, HS0.out.k.ud, HS0.out.k.uc, HS0.out.k.dc⟩
  have hs1 : hi ≤ w1.heap.size := Nat.le_trans hi' HW1.out.size
  clear hr1 hw1 hq1 c0 HX0 HW0 HS0
  have c0 := HX1.out.cells
  go_wp2_with fail
  refine (markCalls_any (lo := lo) (hi := hi) (k0 + b.n) m1 m2 m3 (by omega) (by omega) HK1.out HI.out.u HI.out.d HI.out.c hs1).mono ?_
  rintro e w2 ⟨rfl, hk2, hw2, hkr⟩
  have HR2 := Lib.hid (hkr _ _ _ _ _ HR1.out HAP.out.1 HAP.out.2.1 HAP.out.2.2)
  have HK2 := Lib.hid hk2
  have HW2 := Lib.hid (HW1.out.trans hw2)
  clear hk2 hw2 hkr c0 HX1 HW1 HR1 HK1
  go_wp2
  go_ret
  exact ⟨rfl, ⟨HR2.out, HK2.out, HAP.out.1, HAP.out.2.1, HAP.out.2.2⟩, HW2.out⟩

set_option maxHeartbeats 1600000 in
theorem heldBuilding_same {w : World} {B : Nat} {v : Bv} {b : Bld} (k0 : Int) (hn : b.Small) (h0 : 0 ≤ k0) (h1 : k0 ≤ 1000000000000) (hB : B ≤ w.heap.size) (hr : ReadB w B v (b.marked k0)) :
    Calls Tryz.prog 21 #[bval v b, .int .i64 k0] w fun e w' => e = .returned (.int .i64 (k0 + b.n + b.nu + b.nd + b.nc)) ∧ Below w.heap.size w w' := by
  obtain ⟨m0, m1, m2, m3⟩ := hn
  have HX0 := Lib.hid (Bx.new w (bcells v b) 36)
  have HB0 := Lib.hid ((Below.refl w.heap.size w).alloc (Nat.le_refl _) (.cells (bcells v b) 36))
  have HR0 := Lib.hid (hr.below (HB0.out.mono hB))
  clear hr
  unfold bval bcells at *
  have c0 := HX0.out.cells
  go_enter Tryz.func21, Tryz.ntmps21
  go_wp2_with fail
  refine (heldIntS_any (n := b.n) (f := markedI k0) k0 (by omega) h0 (by omega) HR0.out.h).mono ?_
  rintro e w1 ⟨rfl, rfl⟩
  have HE : Hid (heldI (markedI k0) b.n k0 = k0 + b.n) := Lib.hid (by simp [heldI, heldP, markedI, allB_iff])
  rw [HE.out]
  go_wp2_with fail
  refine (heldCalls_same (k0 + b.n) m1 m2 m3 (by omega) (by omega) (Nat.le_trans hB HB0.out.size) HR0.out.u HR0.out.d HR0.out.c (fun i hi => rfl) (fun i hi => rfl) (fun i hi => rfl)).mono ?_
  rintro e w2 ⟨rfl, hb2⟩
  have HB2 := Lib.hid (HB0.out.trans (hb2.mono HB0.out.size))
  clear hb2 c0
  go_wp2
  go_ret
  exact ⟨rfl, HB2.out⟩
end Go.Proofs.YthkpikkjgggimaaGreatDoor
