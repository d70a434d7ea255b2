/-
  The law FnRestVisits: the walk. No claim stands here.
-/
import Derived.Test.YtnbjibkbjdbadaaLB
import Derived.Test.YtnbjibkbjdbadaaVisM
import Derived.Test.YtnbjibkbjdbadaaVisit
namespace Go.Proofs.Ytnbjibkbjdbadaa
open Go.RowKit
set_option linter.unusedVariables false
set_option linter.unusedSimpArgs false

theorem hasB_mem {l : List Int} {x : Int} : hasB (fun i => l.getD i 0) l.length x = true ↔ x ∈ l := by
  rw [hasB_iff]
  constructor
  · rintro ⟨i, hi, h⟩
    have : l[i]? = some (l[i]'hi) := List.getElem?_eq_getElem hi
    simp only [List.getD, this, Option.getD_some] at h
    rw [← h]; exact List.getElem_mem hi
  · intro h
    obtain ⟨i, hi, e⟩ := List.getElem_of_mem h
    refine ⟨i, hi, ?_⟩
    simp [List.getD, hi, e]
theorem visits_length {b : Bld} : b.visits.length ≤ 5000 := by
  unfold Bld.visits
  split
  · rename_i hv
    have h1 := visL_length b b.rest
    have h2 := (rest_bound (valid_iff.1 hv)).2
    omega
  · simp

set_option maxRecDepth 8000 in
set_option maxHeartbeats 12800000 in
theorem law_RestVisits {w : World} {A : Option Addr} {n c : Nat} {h : Nat → Int} (hc : n ≤ c) (hs : Bytes w w.heap.size A n h) :
    Calls Try.prog 9 #[.slice A n c] w fun e w' => e = .returned (.bool true) ∧ Below w.heap.size w w' := by
  by_cases h20 : n ≤ 1048576
  · go_enter Try.func9, Try.ntmps9
    go_wp2_with fail
    refine (DrawRestVisits_any (Nat.le_refl _) hc hs).mono ?_
    rintro e w1 ⟨v, b, rfl, hr1, hu, hb1⟩
    have HU := Lib.hid hu
    have HSm := Lib.hid (hu.small (by omega))
    have HL := Lib.hid (LB.new 36 hr1 hb1)
    clear hr1 hu hb1 hs
    unfold bcells at HL
    simp only [bval, bcells]
    have c0 := HL.out.cells
    have hvl := @visits_length b
    go_wp2_with fail
    refine (impl_RestVisits (v := v) (b := b) HSm.out (Nat.le_refl _) HL.out.read).mono ?_
    rintro e w2 ⟨A2, n2, c2, rfl, ⟨hn2, hrow2⟩, hb2⟩
    subst hn2
    have HI2 := Lib.hid hrow2.ints
    have HL2 := Lib.hid (HL.out.call hb2)
    clear hb2 HL c0 hrow2
    have c0 := HL2.out.cells
    go_wp2_with fail
    refine (spec_RestVisits (v := v) (b := b) HSm.out (Nat.le_refl _) HL2.out.read).mono ?_
    rintro e w3 ⟨A3, n3, c3, rfl, ⟨hn3, hrow3⟩, hb3⟩
    subst hn3
    have HI3 := Lib.hid hrow3.ints
    have HI2' := Lib.hid ((HI2.out.below hb3).more hb3.size)
    have HL3 := Lib.hid (HL2.out.call hb3)
    clear hb3 HL2 c0 hrow3 HI2
    have HEQ := Lib.hid (eqB_refl (fun i => b.visits.getD i 0) b.visits.length)
    go_wp2_with fail
    refine (sameInts_any (by omega) HI2'.out HI3.out).mono ?_
    rintro e w4 ⟨rfl, hd4⟩
    rw [HEQ.out]
    have HL4 := Lib.hid (HL3.out.drewed hd4)
    have hb4 : Below w3.heap.size w3 w4 := hd4.below
    have HI4 := Lib.hid ((HI2'.out.below hb4).more hb4.size)
    clear hb4
    clear hd4 HL3 HI2' HI3 HEQ
    have c0 := HL4.out.cells
    go_wp2_with fail
    refine (spec_BuildValid (v := v) (b := b) HSm.out (Nat.le_refl _) HL4.out.read).mono ?_
    rintro e w5 ⟨rfl, hb5⟩
    have HL5 := Lib.hid (HL4.out.call hb5)
    have HI5 := Lib.hid ((HI4.out.below hb5).more hb5.size)
    clear hb5 HL4 HI4 c0
    cases hv : b.valid
    · have he : b.visits.length = 0 := by rw [visits_no hv]; rfl
      rw [he]
      clear hv he
      go_wp2_with fail
      refine alive_any.mono ?_
      rintro e w6 ⟨rfl, hb6⟩
      have HL6 := Lib.hid (HL5.out.call hb6)
      clear hb6 HL5
      go_wp2
      go_ret
      exact ⟨rfl, HL6.out.o⟩
    · have hok := valid_iff.1 hv
      obtain ⟨s1, s2, s3⟩ := visits_say hok
      obtain ⟨z1, z2, z3, z4, z5⟩ := hok.sizes
      have HM := Lib.hid (many_cnt hok)
      have hc24 := cnt_le hok
      rw [← visits_yes hv] at s1 s2 s3
      have HS1 := Lib.hid s1
      have HS2 := Lib.hid s2
      clear hv hok s1 s2
      generalize hvl' : b.visits = l at *
      clear hvl'
      obtain ⟨A', cA', U', cu', D', cd', C', cc'⟩ := v
      obtain ⟨nn, f', pos', sp', gap', hold', nu', up', nd', dn', nc', car', fl', dir', op'⟩ := b
      simp only at z1 z2 z3 z4 z5
      replace z1 := z1.symm
      replace z2 := z2.symm
      replace z3 := z3.symm
      subst z1
      subst z2
      subst z3
      obtain ⟨bU, oU, hU, _, gU⟩ := HL5.out.r.u (by show 0 < nn; omega)
      obtain ⟨bD, oD, hD, _, gD⟩ := HL5.out.r.d (by show 0 < nn; omega)
      obtain ⟨bC, oC, hC, _, gC⟩ := HL5.out.r.c (by show 0 < nn; omega)
      simp only at hU hD hC gU gD gC
      subst hU hD hC
      have GU := Lib.hid gU
      have GD := Lib.hid gD
      have GC := Lib.hid gC
      clear gU gD gC
      have c0 := HL5.out.cells
      simp only at c0
      go_wp2
      go_loop [5] (fun s5 => ∃ k : Nat, s5 = .int .i64 k ∧ k ≤ nn) (fun s5 => nn - (intOf s5).toNat)
      case atStart => exact ⟨0, rfl, by omega⟩
      case round =>
        obtain ⟨k, rfl, hk⟩ := hrel
        by_cases hlt : k < nn
        · have e1 := GC.out k hlt
          have e2 := GU.out k hlt
          have e3 := GD.out k hlt
          have HA := Lib.hid (HS1.out k hlt)
          have HN := Lib.hid (HS2.out k)
          unfold Bld.callAt at HA HN
          simp only at HA HN
          cases hcar : car' k
          · rw [hcar] at e1 HA HN
            cases hup : up' k
            · rw [hup] at e2 HA HN
              cases hdn : dn' k
              · rw [hdn] at e3 HA HN
                clear hcar hup hdn HA
                go_wp2_with fail
                refine (hasInt_any (k : Int) (by omega) HI5.out).mono ?_
                rintro e w6 ⟨rfl, rfl⟩
                cases hh : hasB (fun i => l.getD i 0) l.length (k : Int)
                · clear hh HN
                  go_wp2
                  go_round
                  case rel => exact ⟨k + 1, by go_num, by omega⟩
                  case measure => simp [intOf]; omega
                · have hfl : fl' = (k : Int) := HN.out rfl (hasB_mem.1 hh)
                  clear hh HN
                  subst hfl
                  go_wp2
                  go_round
                  case rel => exact ⟨k + 1, by go_num, by omega⟩
                  case measure => simp [intOf]; omega
              · rw [hdn] at e3 HA
                have hh := hasB_mem.2 (HA.out rfl)
                have HH := Lib.hid hh
                clear hcar hup hdn HA HN hh
                go_wp2_with fail
                refine (hasInt_any (k : Int) (by omega) HI5.out).mono ?_
                rintro e w6 ⟨rfl, rfl⟩
                rw [HH.out]
                go_wp2
                go_round
                case rel => exact ⟨k + 1, by go_num, by omega⟩
                case measure => simp [intOf]; omega
            · rw [hup] at e2 HA
              have hh := hasB_mem.2 (HA.out rfl)
              have HH := Lib.hid hh
              clear hcar hup HA HN hh
              go_wp2_with fail
              refine (hasInt_any (k : Int) (by omega) HI5.out).mono ?_
              rintro e w6 ⟨rfl, rfl⟩
              rw [HH.out]
              go_wp2
              go_round
              case rel => exact ⟨k + 1, by go_num, by omega⟩
              case measure => simp [intOf]; omega
          · rw [hcar] at e1 HA
            have hh := hasB_mem.2 (HA.out rfl)
            have HH := Lib.hid hh
            clear hcar HA HN hh
            go_wp2_with fail
            refine (hasInt_any (k : Int) (by omega) HI5.out).mono ?_
            rintro e w6 ⟨rfl, rfl⟩
            rw [HH.out]
            go_wp2
            go_round
            case rel => exact ⟨k + 1, by go_num, by omega⟩
            case measure => simp [intOf]; omega
        · obtain rfl : k = nn := by omega
          go_wp2_with fail
          refine (impl_CallsMany (nu := k) (nd := k) (nc := k) (by omega) (by omega) (by omega) (Nat.le_refl _) HL5.out.read.u HL5.out.read.d HL5.out.read.c).mono ?_
          rintro e w6 ⟨rfl, hb6⟩
          have hm := HM.out
          unfold Bld.many at hm
          simp only at hm
          rw [hm]
          clear hm
          generalize Bld.cnt _ = cnt at *
          have hle : (l.length : Int) ≤ (cnt : Int) + 1 := by omega
          have HL6 := Lib.hid (HL5.out.call hb6)
          clear hb6 HL5 c0
          go_wp2
          go_ret
          exact ⟨rfl, HL6.out.o⟩
  · go_enter Try.func9, Try.ntmps9
    go_wp2
    go_ret
    exact ⟨rfl, Below.refl _ _⟩
end Go.Proofs.Ytnbjibkbjdbadaa
