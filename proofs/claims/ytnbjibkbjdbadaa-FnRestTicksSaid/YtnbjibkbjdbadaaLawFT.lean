/-
  The law FnRestTicks: the walk. No claim stands here.
-/
import Derived.Test.YtnbjibkbjdbadaaLB
import Derived.Test.YtnbjibkbjdbadaaRest
namespace Go.Proofs.Ytnbjibkbjdbadaa
open Go.RowKit
set_option linter.unusedVariables false
set_option linter.unusedSimpArgs false

set_option maxHeartbeats 6400000 in
theorem law_RestTicks {w : World} {A : Option Addr} {n c : Nat} {h : Nat → Int} (hc : n ≤ c) (hs : Bytes w w.heap.size A n h) :
    Calls Try.prog 7 #[.slice A n c] w fun e w' => e = .returned (.bool true) ∧ Below w.heap.size w w' := by
  by_cases h20 : n ≤ 1048576
  · go_enter Try.func7, Try.ntmps7
    go_wp2_with fail
    refine (DrawRestTicks_any (Nat.le_refl _) hc hs).mono ?_
    rintro e w1 ⟨v, b, rfl, hr1, hu, hb1⟩
    have HU := Lib.hid hu
    have HSm := Lib.hid (hu.small (by omega))
    have HL := Lib.hid (LB.new 36 hr1 hb1)
    clear hr1 hu hb1 hs
    unfold bcells at HL
    simp only [bval, bcells]
    have c0 := HL.out.cells
    go_wp2_with fail
    refine (impl_RestTicks (v := v) (b := b) HSm.out (Nat.le_refl _) HL.out.read).mono ?_
    rintro e w2 ⟨rfl, hb2⟩
    have HL2 := Lib.hid (HL.out.call hb2)
    clear hb2 HL c0
    have c0 := HL2.out.cells
    go_wp2_with fail
    refine (spec_RestTicks (v := v) (b := b) HSm.out (Nat.le_refl _) HL2.out.read).mono ?_
    rintro e w3 ⟨rfl, hb3⟩
    have HL3 := Lib.hid (HL2.out.call hb3)
    clear hb3 HL2 c0
    have c0 := HL3.out.cells
    cases hv : b.valid
    · rw [restTicks_no hv]
      clear hv
      go_wp2_with fail
      refine alive_any.mono ?_
      rintro e w5 ⟨rfl, hb5⟩
      have HL5 := Lib.hid (HL3.out.call hb5)
      clear hb5 HL3
      go_wp2
      go_ret
      exact ⟨rfl, HL5.out.o⟩
    · have hok := valid_iff.1 hv
      obtain ⟨hrs1, hrs2, hrs3⟩ := rest_spec hok
      obtain ⟨hbd1, hbd2⟩ := rest_bound hok
      have HQ := Lib.hid hrs2
      have HNQ := Lib.hid hrs3
      have HOK := Lib.hid hok
      have HM := Lib.hid (many_cnt hok)
      have hc24 := cnt_le hok
      rw [restTicks_yes hv]
      clear hv hok hrs1 hrs2 hrs3
      generalize b.rest = R at *
      have HXn := Lib.hid (HL3.out.alloc (.cells (bcells v b) 36))
      have HXb := Lib.hid (Bx.new w3 (bcells v b) 36)
      have hlt3 := HL3.out.lt
      have HE := Lib.hid (show b.after 0 = b from rfl)
      unfold bcells at HXn HXb
      go_wp2
      go_loopw [6] (fun s6 wr => ∃ (k : Nat) (v' : Bv), s6 = .int .i64 k ∧ k ≤ R ∧ Hid (LB w wr w1.heap.size v b) ∧ Hid (Bx wr w3.heap.size (bcells v' (b.after k))) ∧ Hid (ReadB wr wr.heap.size v' (b.after k))) (fun s6 _ => R - (intOf s6).toNat)
      case atStart => exact ⟨0, v, rfl, by omega, HXn, HXb, Lib.hid HXn.out.read⟩
      case round =>
        obtain ⟨k, v', rfl, hk, HB, HX, HR⟩ := hrel
        clear HXn HXb c0 HL3
        have HSk := Lib.hid (after_small HSm.out k)
        by_cases hlt : k < R
        · have HNk := Lib.hid (HNQ.out k hlt)
          have HT := Lib.hid (ticked_after HOK.out k)
          generalize hbk : b.after k = bk at *
          clear hbk
          generalize hbn : b.after (k + 1) = bn at *
          have HBN := Lib.hid hbn
          clear hbn
          unfold bcells at HX
          have cx := HX.out.cells
          go_wp2_with fail
          refine (impl_BuildQuiet (v := v') (b := bk) HSk.out (Nat.le_refl _) HR.out).mono ?_
          rintro e w4 ⟨rfl, hb4⟩
          rw [HNk.out]
          have HB4 := Lib.hid (HB.out.call hb4)
          have HX4 := Lib.hid (HX.out.below hb4 HX.out.lt)
          have HR4 := Lib.hid ((HR.out.below hb4).more hb4.size)
          clear hb4 HB HX HR cx
          have cx := HX4.out.cells
          go_wp2_with fail
          refine (impl_BuildTick (v := v') (b := bk) false HSk.out (Nat.le_refl _) HR4.out).mono ?_
          unfold TickPost
          rintro e w5 ⟨v5, rfl, ho5, hb5⟩
          rw [HT.out] at ho5 ⊢
          have hx5 := HX4.out.below hb5 HX4.out.lt
          have c5 := hx5.cells
          have z5 := hx5.free
          have HX5 := Lib.hid (hx5.put v5 bn)
          have HB5 := Lib.hid ((HB4.out.call hb5).sets (putL w3.heap.size v5 bn) (fun q hq => by rw [putL_block q hq]; exact hlt3))
          have HR5 := Lib.hid (sets_own (putL w3.heap.size v5 bn) ho5 (fun q hq => by rw [putL_block q hq]; exact HX4.out.lt)).read
          clear hb5 ho5 hx5 HB4 HX4 HR4 cx
          simp only [bval, bcells]
          go_wp2
          go_roundw
          case rel => exact ⟨k + 1, v5, by go_num, by omega, HB5, by rw [HBN.out]; exact HX5, by rw [HBN.out]; exact HR5⟩
          case measure => simp [intOf]; omega
        · obtain rfl : k = R := by omega
          generalize b.after k = bk at *
          unfold bcells at HX
          have cx := HX.out.cells
          go_wp2_with fail
          refine (impl_BuildQuiet (v := v') (b := bk) HSk.out (Nat.le_refl _) HR.out).mono ?_
          rintro e w4 ⟨rfl, hb4⟩
          rw [HQ.out]
          have HB4 := Lib.hid (HB.out.call hb4)
          clear hb4 HB HX HR cx
          have c0 := HB4.out.cells
          go_wp2_with fail
          refine (impl_CallsMany (by have := HU.out.2.1; omega) (by have := HU.out.2.2.1; omega) (by have := HU.out.2.2.2; omega) (Nat.le_refl _) HB4.out.read.u HB4.out.read.d HB4.out.read.c).mono ?_
          rintro e w5 ⟨rfl, hb5⟩
          have hm := HM.out
          unfold Bld.many at hm
          rw [hm]
          have hle : (k : Int) ≤ 200 * ((b.cnt : Int) + 1) := by omega
          have HB5 := Lib.hid (HB4.out.call hb5)
          clear hb5 hm HB4
          go_wp2
          go_ret
          exact ⟨rfl, HB5.out.o⟩
  · go_enter Try.func7, Try.ntmps7
    go_wp2
    go_ret
    exact ⟨rfl, Below.refl _ _⟩
end Go.Proofs.Ytnbjibkbjdbadaa
