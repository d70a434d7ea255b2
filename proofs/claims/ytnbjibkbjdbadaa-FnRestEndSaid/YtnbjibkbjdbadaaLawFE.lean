/-
  The law FnRestEnd: the walk. No claim stands here.
-/
import Derived.Test.YtnbjibkbjdbadaaLawFV
import Derived.Deep.RegionHeld3
namespace Go.Proofs.Ytnbjibkbjdbadaa
open Go.RowKit
set_option linter.unusedVariables false
set_option linter.unusedSimpArgs false

theorem getLast_getD {l : List Int} (hne : l ≠ []) : l.getD (l.length - 1) 0 = l.getLast hne := by
  have hl : 0 < l.length := List.length_pos_iff.2 hne
  have hk : l.length - 1 < l.length := by omega
  rw [List.getLast_eq_getElem]
  simp [List.getD, List.getElem?_eq_getElem hk]

set_option maxRecDepth 8000 in
set_option maxHeartbeats 12800000 in
theorem law_RestEnd {w : World} {A : Option Addr} {n c : Nat} {h : Nat → Int} (hc : n ≤ c) (hs : Bytes w w.heap.size A n h) :
    Calls Try.prog 10 #[.slice A n c] w fun e w' => e = .returned (.bool true) ∧ Below w.heap.size w w' := by
  by_cases h20 : n ≤ 1048576
  · go_enter Try.func10, Try.ntmps10
    go_wp2_with fail
    refine (DrawRestEnd_any (Nat.le_refl _) hc hs).mono ?_
    rintro e w1 ⟨v, b, rfl, hr1, hu, hb1⟩
    have HU := Lib.hid hu
    have HSm := Lib.hid (hu.small (by omega))
    have HL := Lib.hid (LB.new 36 hr1 hb1)
    have HRS := Lib.hid (rested_small (hu.small (by omega)))
    have HU9 := Lib.hid hu
    clear hr1 hu hb1 hs
    unfold bcells at HL
    simp only [bval, bcells]
    have c0 := HL.out.cells
    have hvl := @visits_length b
    have HSP : Hid (∀ (W : World), ReadB W W.heap.size v b → Calls Try.prog 43 #[bval v b] W (EndPost b W)) := Lib.hid (fun W h => spec_RestEnd HSm.out (Nat.le_refl _) h)
    have HIM : Hid (∀ (W : World), ReadB W W.heap.size v b → Calls Try.prog 42 #[bval v b] W (EndPost b W)) := Lib.hid (fun W h => impl_RestEnd HSm.out (Nat.le_refl _) h)
    have HFA : Hid (b.valid = false → b.rested = Bld.none) := Lib.hid rested_no
    have HFB : Hid (b.valid = true → b.rested.quiet = true ∧ b.rested.f = b.f ∧ b.rested.n = b.n ∧ b.rested.restTicks = 0 ∧ ((b.visits = [] ∧ b.rested.pos = b.pos ∧ b.rested.sp = b.sp) ∨ ∃ hne : b.visits ≠ [], floorAtOf b.f b.n b.rested.pos = b.visits.getLast hne)) := Lib.hid (fun hv => by
      have hok := valid_iff.1 hv
      have hq := (rest_spec hok).2.1
      obtain ⟨f1, f2⟩ := after_floors b b.rest
      rw [rested_yes hv, visits_yes hv]
      refine ⟨hq, f1, f2, ?_, rest_stands hok⟩
      rw [restTicks_yes (valid_iff.2 (after_ok hok _)), rest_quiet hq]; rfl)
    unfold EndPost at HSP HIM
    generalize b.rested = r at *
    go_wp2_with fail
    refine (HIM.out _ HL.out.read).mono ?_
    rintro e w2 ⟨vx, rfl, ho2, hb2⟩
    simp only [bval, bcells]
    have HL2 := Lib.hid ((HL.out.call hb2).alloc (.cells (bcells vx r) 36))
    have HX2 := Lib.hid (LB.new 36 ho2.read (HL.out.call hb2).o)
    clear hb2 HL c0 ho2
    unfold bcells at HL2 HX2
    have c0 := HL2.out.cells
    have c1 := HX2.out.cells
    have HLd := Lib.hid HL2.out.drew
    have HXd := Lib.hid HX2.out.drew
    go_wp2
    go_region_held3 (fun w' => (∀ o, w'.cell? ⟨w1.heap.size, o, none⟩ = (#[.slice v.A b.n v.c, .int .i64 b.pos, .int .i64 b.sp, .int .i64 b.gap, .int .i64 b.hold, .slice v.U b.nu v.cu, .slice v.D b.nd v.cd, .slice v.C b.nc v.cc, .int .i64 b.fl, .int .i64 b.dir, .bool b.op] : Array Value)[o]?) ∧ (∀ o, w'.cell? ⟨w2.heap.size, o, none⟩ = (#[.slice vx.A r.n vx.c, .int .i64 r.pos, .int .i64 r.sp, .int .i64 r.gap, .int .i64 r.hold, .slice vx.U r.nu vx.cu, .slice vx.D r.nd vx.cd, .slice vx.C r.nc vx.cc, .int .i64 r.fl, .int .i64 r.dir, .bool r.op] : Array Value)[o]?)) (first | exact ⟨HLd.out.cells, HXd.out.cells⟩ | exact ⟨HL3.out.cells, HX3.out.cells⟩ | exact ⟨HL4.out.cells, HX4.out.cells⟩) (first
      | (go_at_call 43; refine (HSP.out _ HLd.out.read).mono ?_; rintro e w3 ⟨vy, rfl, ho3, hb3⟩; simp only [bval, bcells]; have HL3 := Lib.hid (HLd.out.call hb3); have HX3 := Lib.hid (HXd.out.call hb3); have HY3 := Lib.hid ho3.read; clear hb3 ho3)
      | (go_at_call 20; refine (sameBuild_any (v := vx) (v' := vy) (a := r) (b := r) HRS.out (Nat.le_refl _) (Nat.le_refl _) HX3.out.read HY3.out).mono ?_; rintro e w4 ⟨rfl, hb4⟩; rw [sameP_refl]; have HL4 := Lib.hid (HL3.out.call hb4); have HX4 := Lib.hid (HX3.out.call hb4); clear hb4))
    clear HLd HXd HL3 HX3 HY3 HL2 HX2 c0 c1
    have c0 := HL4.out.cells
    have c1 := HX4.out.cells
    go_wp2_with fail
    refine (spec_BuildValid (v := v) (b := b) HSm.out (Nat.le_refl _) HL4.out.read).mono ?_
    rintro e w5 ⟨rfl, hb5⟩
    have HL5 := Lib.hid (HL4.out.call hb5)
    have HX5 := Lib.hid (HX4.out.call hb5)
    clear hb5 HL4 HX4 c0 c1
    have c0 := HL5.out.cells
    have c1 := HX5.out.cells
    cases hv : b.valid
    · have he := HFA.out hv
      have HP := Lib.hid (show sameP r Bld.none = true by rw [he]; exact sameP_refl _)
      clear hv he HFA HFB
      go_wp2_with fail
      refine (noBuild_any (v := vx) (b := r) HRS.out (Nat.le_refl _) HX5.out.read).mono ?_
      rintro e w6 ⟨rfl, hb6⟩
      rw [HP.out]
      have HL6 := Lib.hid (HL5.out.call hb6)
      clear hb6 HL5 HX5 c0 c1
      go_wp2_with fail
      refine alive_any.mono ?_
      rintro e w7 ⟨rfl, hb7⟩
      have HL7 := Lib.hid (HL6.out.call hb7)
      clear hb7 HL6
      go_wp2
      go_ret
      exact ⟨rfl, HL7.out.o⟩
    · obtain ⟨fq, ff, fn, ft, fv⟩ := HFB.out hv
      have HQ := Lib.hid fq
      have HEF := Lib.hid (show eqB r.f r.n b.f b.n = true by rw [ff, fn]; exact eqB_refl _ _)
      have HT := Lib.hid ft
      have hrn : r.n ≤ 9 := by rw [fn]; exact HU9.out.1
      have hbn : b.n ≤ 9 := HU9.out.1
      clear hv HFA HFB fq ff fn ft
      go_wp2_with fail
      refine (impl_RestVisits (v := v) (b := b) HSm.out (Nat.le_refl _) HL5.out.read).mono ?_
      rintro e w6 ⟨A2, n2, c2, rfl, ⟨hn2, hrow2⟩, hb6⟩
      subst hn2
      have HI6 := Lib.hid hrow2.ints
      have HL6 := Lib.hid (HL5.out.call hb6)
      have HX6 := Lib.hid (HX5.out.call hb6)
      clear hb6 HL5 HX5 c0 c1 hrow2
      have c0 := HL6.out.cells
      have c1 := HX6.out.cells
      generalize b.visits = l at *
      have HFV := Lib.hid fv
      clear fv
      go_wp2_with fail
      refine (impl_FloorAt r.pos (by omega) HL6.out.read.h).mono ?_
      rintro e w7 ⟨rfl, hd7⟩
      have hb7 : Below w6.heap.size w6 w7 := hd7.below
      have HL7 := Lib.hid (HL6.out.call hb7)
      have HX7 := Lib.hid (HX6.out.call hb7)
      have HI7 := Lib.hid ((HI6.out.below hb7).more hb7.size)
      clear hd7 hb7 HL6 HX6 HI6 c0 c1
      have c0 := HL7.out.cells
      have c1 := HX7.out.cells
      go_wp2_with fail
      refine (impl_BuildQuiet (v := vx) (b := r) HRS.out (Nat.le_refl _) HX7.out.read).mono ?_
      rintro e w8 ⟨rfl, hb8⟩
      rw [HQ.out]
      have HL8 := Lib.hid (HL7.out.call hb8)
      have HX8 := Lib.hid (HX7.out.call hb8)
      have HI8 := Lib.hid ((HI7.out.below hb8).more hb8.size)
      clear hb8 HL7 HX7 HI7 c0 c1
      have c0 := HL8.out.cells
      have c1 := HX8.out.cells
      go_wp2_with fail
      refine (sameInts_any (by omega) HX8.out.read.h HL8.out.read.h).mono ?_
      rintro e w9 ⟨rfl, hd9⟩
      rw [HEF.out]
      have hb9 : Below w8.heap.size w8 w9 := hd9.below
      have HL9 := Lib.hid (HL8.out.call hb9)
      have HX9 := Lib.hid (HX8.out.call hb9)
      have HI9 := Lib.hid ((HI8.out.below hb9).more hb9.size)
      clear hd9 hb9 HL8 HX8 HI8 c0 c1
      have c0 := HL9.out.cells
      have c1 := HX9.out.cells
      rcases HFV.out with ⟨hl, hp, hsp⟩ | ⟨hne, hfa⟩
      · have hrun : ∀ W : World, (binOp .eql 25 (.agg #[.int .i64 r.pos, .int .i64 r.sp]) (.agg #[.int .i64 b.pos, .int .i64 b.sp])).run Try.prog W = .ok (.bool true) W := fun W => by rw [eql_motion, hp, hsp]; simp
        subst hl
        clear hp hsp HFV
        go_wp2_with fail
        refine (impl_RestTicks (v := vx) (b := r) HRS.out (Nat.le_refl _) HX9.out.read).mono ?_
        rintro e w10 ⟨rfl, hb10⟩
        rw [HT.out]
        have HL10 := Lib.hid (HL9.out.call hb10)
        clear hb10 HL9 HX9 HI9 c0 c1 hrun
        go_wp2
        go_ret
        exact ⟨rfl, HL10.out.o⟩
      · have hl0 : 0 < l.length := List.length_pos_iff.2 hne
        have hgl := getLast_getD hne
        rw [← hfa] at hgl
        have HI := Lib.hid HI9.out
        obtain ⟨m, hm⟩ : ∃ m, l.length = m + 1 := ⟨l.length - 1, by omega⟩
        rw [hm, Nat.add_sub_cancel] at hgl
        clear hfa HFV
        obtain ⟨bL, oL, hA, _, hcL⟩ := HI9.out hl0
        have cL := hcL m (by omega)
        simp only at cL
        rw [hgl] at cL
        subst hA
        generalize floorAtOf b.f b.n r.pos = fa at *
        clear hgl hcL HI9 HI hne
        generalize l.length = N at *
        subst hm
        have q0 : (((m + 1 : Nat) : Int) == 0) = false := by simp; omega
        have q1 : ((m : Int) + 1 == 0) = false := by simp; omega
        go_wp2_with fail
        refine (impl_RestTicks (v := vx) (b := r) HRS.out (Nat.le_refl _) HX9.out.read).mono ?_
        rintro e w10 ⟨rfl, hb10⟩
        rw [HT.out]
        have HL10 := Lib.hid (HL9.out.call hb10)
        clear hb10 HL9 HX9 c0 c1
        go_wp2
        go_ret
        exact ⟨rfl, HL10.out.o⟩
  · go_enter Try.func10, Try.ntmps10
    go_wp2
    go_ret
    exact ⟨rfl, Below.refl _ _⟩
end Go.Proofs.Ytnbjibkbjdbadaa
