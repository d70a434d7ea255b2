/-
  The law FnBuildLine: the walk. No claim stands here.
-/
import Derived.Test.YthkpikkjgggimaaGreatDoorLB
import Derived.Test.YthkpikkjgggimaaGreatDoorBN
import Derived.Test.YthkpikkjgggimaaGreatDoorBM
namespace Go.Proofs.YthkpikkjgggimaaGreatDoor
open Go.RowKit
set_option linter.unusedVariables false
set_option linter.unusedSimpArgs false

/-- Unless the answer is ok or a number of ticks, the building is as it was. -/
theorem line_same {b : Bld} {s : ByteArray} (h1 : isT ⟨(b.reply s).toArray⟩ rOk = false) (h2 : isT s wRest = false) : b.line s = b := by
  have hok : isT ⟨rOk.toArray⟩ rOk = true := isT_iff.2 rfl
  unfold Bld.line
  unfold Bld.reply at h1
  by_cases e1 : isT s wTick = true
  · rw [if_pos e1, hok] at h1; cases h1
  · rw [if_neg e1] at h1 ⊢
    by_cases e2 : isT s wBlock = true
    · rw [if_pos e2, hok] at h1; cases h1
    · rw [if_neg e2] at h1 ⊢
      rw [h2]
      rw [if_neg (by simp [h2])] at h1
      simp only [Bool.false_eq_true, if_false]
      by_cases e3 : callLine s = true
      · rw [if_pos e3] at h1 ⊢
        cases e4 : b.askOk (kindOf (cutW s)) (wordN (cutR s))
        · exact ask_not e4
        · rw [e4, if_pos rfl, hok] at h1; cases h1
      · rw [if_neg e3]
def sSp : ByteArray := ⟨#[32]⟩
theorem cutOk_sp : cutOk sSp = true := by decide
theorem callLine_sp : callLine sSp = false := by
  have h : wordOk (cutR sSp) = false := wordOk_no1 (.inl (by decide))
  simp [callLine, h]
theorem line_sp (b : Bld) : b.line sSp = b ∧ b.reply sSp = rWhat := by
  have k1 : isT sSp wTick = false := by
    rw [← Bool.not_eq_true]; intro h; have := isT_cut h (by decide); rw [cutOk_sp] at this; cases this
  have k2 : isT sSp wBlock = false := by
    rw [← Bool.not_eq_true]; intro h; have := isT_cut h (by decide); rw [cutOk_sp] at this; cases this
  have k3 : isT sSp wRest = false := by
    rw [← Bool.not_eq_true]; intro h; have := isT_cut h (by decide); rw [cutOk_sp] at this; cases this
  refine ⟨by simp [Bld.line, k1, k2, k3, callLine_sp], ?_⟩
  simp only [Bld.reply, k1, k2, k3, callLine_sp, Bool.false_eq_true, if_false]
  exact told_what cutOk_sp

set_option maxRecDepth 100000 in
set_option maxHeartbeats 12800000 in
theorem law_BuildLine {w : World} {A : Option Addr} {n c : Nat} {h : Nat → Int} (hh : Here w) (hc : n ≤ c) (hs : Bytes w w.heap.size A n h) :
    Calls Tryz.prog 6 #[.slice A n c] w fun e w' => e = .returned (.bool true) ∧ Below w.heap.size w w' := by
  by_cases h20 : n ≤ 1048576
  · have HH := Lib.hid hh
    clear hh
    go_enter Tryz.func6, Tryz.ntmps6
    go_wp2_with fail
    refine (DrawBuildLine_any (Nat.le_refl _) hc hs).mono ?_
    rintro e w1 ⟨v, b, s, rfl, hr1, hu, hsz, hb1⟩
    have HSm := Lib.hid (hu.small (by omega))
    have HL := Lib.hid (LB.new 36 hr1 hb1)
    have HXS := Lib.hid (lined_small HSm.out s)
    have hs2 : s.size ≤ 1048576 := by omega
    clear hr1 hu hb1 hs hsz
    unfold bcells at HL
    simp only [bval, bcells]
    have c0 := HL.out.cells
    go_wp2_with fail
    refine (impl_BuildLine (v := v) (b := b) s hs2 HSm.out (Nat.le_refl _) HL.out.read (HH.out.below HL.out.o)).mono ?_
    unfold LinePost
    rintro e w2 ⟨vx, rfl, ho2, hb2⟩
    generalize hx : b.lined s = x at *
    generalize htx : ByteArray.mk (b.says s).toArray = tx at *
    have HX' := Lib.hid hx
    have HTX := Lib.hid htx
    clear hx htx
    have HL2 := Lib.hid ((HL.out.call hb2).alloc (.cells (bcells vx x) 36))
    have HX2 := Lib.hid (LB.new 36 ho2.read (HL.out.call hb2).o)
    clear hb2 HL c0 ho2
    unfold bcells at HL2 HX2
    simp only [bval, bcells]
    have c0 := HL2.out.cells
    go_wp2_with fail
    refine (spec_BuildLine (v := v) (b := b) s hs2 HSm.out (Nat.le_refl _) HL2.out.read (HH.out.below HL2.out.o)).mono ?_
    unfold LinePost
    rw [HX'.out, HTX.out]
    rintro e w3 ⟨vy, rfl, ho3, hb3⟩
    have HL3 := Lib.hid ((HL2.out.call hb3).alloc (.cells (bcells vy x) 36))
    have HX3 := Lib.hid ((HX2.out.call hb3).alloc (.cells (bcells vy x) 36))
    have HY3 := Lib.hid (LB.new 36 ho3.read (HL2.out.call hb3).o)
    clear hb3 HL2 HX2 c0 ho3
    unfold bcells at HL3 HX3 HY3
    simp only [bval, bcells]
    have c1 := HX3.out.cells
    have c2 := HY3.out.cells
    go_wp2_with fail
    refine (sameBuild_any (v := vx) (v' := vy) (a := x) (b := x) HXS.out (Nat.le_refl _) (Nat.le_refl _) HX3.out.read HY3.out.read).mono ?_
    rintro e w4 ⟨rfl, hb4⟩
    rw [sameP_refl]
    have HL4 := Lib.hid (HL3.out.call hb4)
    have HX4 := Lib.hid (HX3.out.call hb4)
    clear hb4 HL3 HX3 HY3 c1 c2
    have c0 := HL4.out.cells
    go_wp2_with fail
    refine (spec_BuildValid (v := v) (b := b) HSm.out (Nat.le_refl _) HL4.out.read).mono ?_
    rintro e w5 ⟨rfl, hb5⟩
    have HL5 := Lib.hid (HL4.out.call hb5)
    have HX5 := Lib.hid (HX4.out.call hb5)
    clear hb5 HL4 HX4 c0
    have c0 := HL5.out.cells
    have c1 := HX5.out.cells
    cases hv : b.valid
    · have e0 := lined_no (s := s) hv
      have HXN := Lib.hid (HX'.out.symm.trans e0.1)
      have e1 : tx = ⟨#[]⟩ := by rw [← HTX.out, e0.2]
      clear e0 hv
      subst e1
      have hq : sameP x Bld.none = true := by rw [HXN.out, sameP_refl]
      have HQ := Lib.hid hq
      clear hq
      go_wp2_with fail
      refine (noBuild_any (v := vx) (b := x) HXS.out (Nat.le_refl _) HX5.out.read).mono ?_
      rintro e w6 ⟨rfl, hb6⟩
      rw [HQ.out]
      have HL6 := Lib.hid (HL5.out.call hb6)
      clear hb6 HL5 HX5 c0 c1
      go_wp2_with fail
      refine alive_any.mono ?_
      rintro e w7 ⟨rfl, hb7⟩
      have HL7 := Lib.hid (HL6.out.call hb7)
      clear hb7 HL6
      go_wp2
      go_ret
      exact ⟨rfl, HL7.out.o⟩
    · have hbok := valid_iff.1 hv
      have e0 := lined_yes (s := s) hv
      have HV := Lib.hid hv
      have HXL := Lib.hid (HX'.out.symm.trans e0.1)
      have HTL := Lib.hid (HTX.out.symm.trans (by rw [e0.2]))
      have HXV := Lib.hid (show x.valid = true by rw [HXL.out]; exact valid_iff.2 (line_ok hbok s))
      have e1 := lined_yes (s := sSp) hv
      have e2 := line_sp b
      have HZ := Lib.hid (show b.lined sSp = b ∧ ByteArray.mk (b.says sSp).toArray = ⟨#[119, 104, 97, 116]⟩ from ⟨e1.1.trans e2.1, by rw [e1.2, e2.2]; rfl⟩)
      have HSM : Hid (isT tx rOk = false → isT s wRest = false → sameP x b = true) := Lib.hid (by
        intro h1 h2
        rw [HTL.out] at h1
        rw [HXL.out, line_same h1 h2, sameP_refl])
      clear hbok e0 e1 e2 hv HTL HXL HTX
      go_wp2_with fail
      refine (impl_BuildLine (v := v) (b := b) sSp (by decide) HSm.out (Nat.le_refl _) HL5.out.read (HH.out.below HL5.out.o)).mono ?_
      unfold LinePost
      rw [HZ.out.1, HZ.out.2]
      rintro e w6 ⟨vz, rfl, ho6, hb6⟩
      have HL6 := Lib.hid ((HL5.out.call hb6).alloc (.cells (bcells vz b) 36))
      have HX6 := Lib.hid ((HX5.out.call hb6).alloc (.cells (bcells vz b) 36))
      have HZ6 := Lib.hid (LB.new 36 ho6.read (HL5.out.call hb6).o)
      clear hb6 HL5 HX5 c0 c1 ho6
      unfold bcells at HL6 HX6 HZ6
      simp only [bval, bcells]
      have c1 := HX6.out.cells
      go_wp2_with fail
      refine (impl_BuildValid (v := vx) (b := x) HXS.out (Nat.le_refl _) HX6.out.read).mono ?_
      rintro e w7 ⟨rfl, hb7⟩
      rw [HXV.out]
      have HL7 := Lib.hid (HL6.out.call hb7)
      have HX7 := Lib.hid (HX6.out.call hb7)
      have HZ7 := Lib.hid (HZ6.out.call hb7)
      clear hb7 HL6 HX6 HZ6 c1
      have c0 := HL7.out.cells
      have c1 := HX7.out.cells
      have c2 := HZ7.out.cells
      cases g1 : isT tx rOk
      · have k1 : (tx.toList == [111, 107]) = false := g1
        cases g2 : isT s wRest
        · have k2 : (s.toList == [114, 101, 115, 116]) = false := g2
          have HQ := Lib.hid (HSM.out g1 g2)
          clear g1 g2 HSM
          go_wp2_with fail
          refine (sameBuild_any (v := vx) (v' := v) (a := x) (b := b) HXS.out (Nat.le_refl _) (Nat.le_refl _) HX7.out.read HL7.out.read).mono ?_
          rintro e w8 ⟨rfl, hb8⟩
          rw [HQ.out]
          have HL8 := Lib.hid (HL7.out.call hb8)
          have HZ8 := Lib.hid (HZ7.out.call hb8)
          clear hb8 HL7 HX7 HZ7 c0 c1 c2
          have c0 := HL8.out.cells
          have c2 := HZ8.out.cells
          go_wp2_with fail
          refine (sameBuild_any (v := vz) (v' := v) (a := b) (b := b) HSm.out (Nat.le_refl _) (Nat.le_refl _) HZ8.out.read HL8.out.read).mono ?_
          rintro e w9 ⟨rfl, hb9⟩
          rw [sameP_refl]
          have HL9 := Lib.hid (HL8.out.call hb9)
          clear hb9 HL8 HZ8 c0 c2
          go_wp2
          go_ret
          exact ⟨rfl, HL9.out.o⟩
        · have k2 : (s.toList == [114, 101, 115, 116]) = true := g2
          clear g1 g2 HSM
          go_wp2_with fail
          refine (sameBuild_any (v := vz) (v' := v) (a := b) (b := b) HSm.out (Nat.le_refl _) (Nat.le_refl _) HZ7.out.read HL7.out.read).mono ?_
          rintro e w9 ⟨rfl, hb9⟩
          rw [sameP_refl]
          have HL9 := Lib.hid (HL7.out.call hb9)
          clear hb9 HL7 HX7 HZ7 c0 c1 c2
          go_wp2
          go_ret
          exact ⟨rfl, HL9.out.o⟩
      · have k1 : (tx.toList == [111, 107]) = true := g1
        clear g1 HSM
        go_wp2_with fail
        refine (sameBuild_any (v := vz) (v' := v) (a := b) (b := b) HSm.out (Nat.le_refl _) (Nat.le_refl _) HZ7.out.read HL7.out.read).mono ?_
        rintro e w9 ⟨rfl, hb9⟩
        rw [sameP_refl]
        have HL9 := Lib.hid (HL7.out.call hb9)
        clear hb9 HL7 HX7 HZ7 c0 c1 c2
        go_wp2
        go_ret
        exact ⟨rfl, HL9.out.o⟩
  · go_enter Tryz.func6, Tryz.ntmps6
    go_wp2
    go_ret
    exact ⟨rfl, Below.refl _ _⟩
end Go.Proofs.YthkpikkjgggimaaGreatDoor
