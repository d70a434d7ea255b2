/-
  The contract of the reference's BuildRun. No claim stands here.
-/
import Derived.Test.YthkpikkjgggimaaGreatDoorRunM
import Derived.Deep.RegionHeld3
namespace Go.Proofs.YthkpikkjgggimaaGreatDoor
open Go.RowKit
set_option linter.unusedVariables false
set_option linter.unusedSimpArgs false

theorem Bx.drew {w : World} {g : Nat} {xs : Array Value} (h : Bx w g xs) : Bx w.drew g xs := h

set_option maxHeartbeats 6400000 in
theorem spec_BuildRun_no {w : World} {B n c : Nat} {v : Bv} {b : Bld} {A : Option Addr} {d : Nat → Int × Int × Int} (hn : b.Small) (hB : B ≤ w.heap.size) (hr : ReadB w B v b) (hv : b.valid = false) :
    Calls Tryz.prog 82 #[bval v b, .slice A n c] w (RunPost b d n w) := by
  have HR := Lib.hid hr
  have HSm := Lib.hid hn
  have HV := Lib.hid hv
  have HE := Lib.hid (ran_no (d := d) (n := n) hv)
  obtain ⟨m0, m1, m2, m3⟩ := hn
  clear hr hv
  unfold bval bcells RunPost
  go_enter Tryz.func82, Tryz.ntmps82
  go_wp2_with fail
  refine (spec_BuildValid (v := v) (b := b) HSm.out (Nat.le_trans hB (by simp <;> omega)) ((HR.out.alloc hB _).alloc (Nat.le_trans hB (by simp <;> omega)) _)).mono ?_
  rintro e w1 ⟨rfl, hb1⟩
  obtain ⟨x, y, hbb, hs1⟩ := boxes2' hb1
  have HB1 := Lib.hid hbb
  have c1 := y.cells
  have z1 := y.free
  clear hb1 x y hbb
  rw [HV.out]
  go_wp2
  refine bodyPost_ret (v := bval Bv.none Bld.none) (by simp [bval, bcells, Bv.none, Bld.none, results, Tryz.results82, go_sem, c1]) rfl ⟨Bv.none, by rw [HE.out], ?_, ?_⟩
  · rw [HE.out]
    exact own_none _ _
  · repeat (refine below_set (by simp <;> omega) ?_)
    exact HB1.out

set_option maxHeartbeats 12800000 in
theorem spec_BuildRun_yes {w : World} {B n c : Nat} {v : Bv} {b : Bld} {A : Option Addr} {d : Nat → Int × Int × Int} (hn : b.Small) (hB : B ≤ w.heap.size) (hr : ReadB w B v b) (hv : b.valid = true) (hl : n ≤ 1000000000) (hd : Deeds w B A n d) :
    Calls Tryz.prog 82 #[bval v b, .slice A n c] w (RunPost b d n w) := by
  have hsz := (valid_iff.1 hv).sizes
  have HSZ := Lib.hid hsz
  clear hsz
  have HR := Lib.hid hr
  have HSm := Lib.hid hn
  have HV := Lib.hid hv
  have HD := Lib.hid hd
  have HE := Lib.hid (ran_yes (d := d) (n := n) hv)
  clear hr hv hn hd
  unfold RunPost
  rw [HE.out]
  unfold bval bcells
  go_enter Tryz.func82, Tryz.ntmps82
  go_wp2_with fail
  refine (spec_BuildValid (v := v) (b := b) HSm.out (Nat.le_trans hB (by simp <;> omega)) ((HR.out.alloc hB _).alloc (Nat.le_trans hB (by simp <;> omega)) _)).mono ?_
  rintro e w1 ⟨rfl, hb1⟩
  obtain ⟨x, y, hbb, hs1⟩ := boxes2' hb1
  have HX1 := Lib.hid x
  have HY1 := Lib.hid y
  have HB1 := Lib.hid hbb
  have c0 := x.cells
  clear hb1 x y hbb
  rw [HV.out]
  go_wp2_with fail
  refine (l27Copy_any (v := v) (b := b) (by have := HSZ.out; omega) (by have := HSZ.out; omega) (by have := HSZ.out; omega) (by have := HSZ.out; omega) (by have := HSZ.out; omega) (by have := HSZ.out; omega) (by have := HSZ.out; omega) (by have := HSZ.out; omega) (Nat.le_trans hB HB1.out.size) (HR.out.below (HB1.out.mono hB))).mono ?_
  rintro e w2 ⟨v2, rfl, ho2, hb2⟩
  simp only [bval, bcells]
  have HY2 := Lib.hid ((HY1.out.below hb2 HY1.out.lt).alloc (.cells (bcells v2 b) 36))
  have HZ2 := Lib.hid (Bx.new w2 (bcells v2 b) 36)
  have HB2 := Lib.hid ((HB1.out.trans (hb2.mono HB1.out.size)).alloc (Nat.le_trans HB1.out.size hb2.size) (.cells (bcells v2 b) 36))
  have HO2 := Lib.hid (ownB_below (ho2.mono (base' := w.heap.size + 2) hs1) ((Below.refl w2.heap.size w2).alloc (Nat.le_refl _) (.cells (bcells v2 b) 36)))
  have HOFF := Lib.hid (own_off ho2 (.inr (Nat.le_refl _)))
  have hs2 : w.heap.size + 2 ≤ w2.heap.size := Nat.le_trans hs1 hb2.size
  clear hb2 ho2 c0 HX1 HY1 HB1
  unfold bcells at HY2 HZ2 HB2 HO2
  go_wp2
  go_loopw [6] (fun s6 wr => ∃ (k : Nat) (v' : Bv) (b' : Bld), s6 = .int .i64 k ∧ k ≤ n ∧ Hid (b' = b.runN d k) ∧ Hid b'.Small ∧ Hid (Bx wr (w.heap.size + 1) #[.slice none 0 0, .int .i64 0, .int .i64 0, .int .i64 0, .int .i64 0, .slice none 0 0, .slice none 0 0, .slice none 0 0, .int .i64 0, .int .i64 0, .bool false]) ∧
    Hid (Bx wr w2.heap.size (bcells v' b')) ∧ Hid (OwnB wr (w.heap.size + 2) v' b') ∧ Hid (Off w2.heap.size v') ∧ Hid (Below w.heap.size w wr)) (fun s6 _ => n - (intOf s6).toNat)
  case atStart => exact ⟨0, v2, b, rfl, by omega, Lib.hid rfl, HSm, HY2, HZ2, HO2, HOFF, HB2⟩
  case round =>
    obtain ⟨k, v', b', rfl, hk, HK, HS, HY, HZ, HO, HF, HB⟩ := hrel
    clear HY2 HZ2 HO2 HOFF HB2
    have hwr := HB.out.size
    have hzl := HZ.out.lt
    by_cases hlt : k < n
    · obtain ⟨bd, od, rfl, hbd, gd⟩ := HD.out.below (HB.out.mono hB) (by omega)
      obtain ⟨e1, e2, e3⟩ := gd k hlt
      have HN : Hid (b.runN d (k + 1) = b'.deed (d k)) := Lib.hid (by rw [HK.out]; rfl)
      have HNS := Lib.hid (deed_small HS.out (d k))
      have HL : Hid (∀ W, Below w.heap.size w W → W.cell? ⟨bd, od + k * 3 + 1, none⟩ = some (.int .i64 (d k).2.1) ∧ W.cell? ⟨bd, od + k * 3 + 2, none⟩ = some (.int .i64 (d k).2.2)) := Lib.hid (fun W hW => by
        obtain ⟨b0, o0, e0, _, g0⟩ := HD.out.below (hW.mono hB) (by omega)
        cases e0
        exact (g0 k hlt).2)
      clear gd
      unfold bcells at HZ
      have c2 := HZ.out.cells
      have z2 := HZ.out.free
      have D0 := Lib.hid (@deed_0 b' (d k))
      have D1 := Lib.hid (@deed_1 b' (d k))
      have D2 := Lib.hid (@deed_2 b' (d k))
      have D3 := Lib.hid (@deed_3 b' (d k))
      generalize d k = x at *
      obtain ⟨kd, cd, fd⟩ := x
      simp only at e1 e2 e3 D0 D1 D2 D3
      by_cases q0 : kd = 0
      · subst q0
        rw [D0.out rfl] at HN HNS
        clear D0 D1 D2 D3
        go_wp2_with fail
        refine (spec_BuildTick (v := v') (b := b') false HS.out (Nat.le_refl _) HO.out.read).mono ?_
        unfold TickPost
        rintro e w5 ⟨v5, rfl, ho5, hb5⟩
        obtain ⟨x5, y5, b5, o5, f5⟩ := put_building (base := w.heap.size + 2) HZ.out HY.out (by omega) HB.out (by omega) hb5 ho5 (by omega)
        have HX5 := Lib.hid x5
        have HY5 := Lib.hid y5
        have HB5 := Lib.hid b5
        have HO5 := Lib.hid o5
        have HF5 := Lib.hid f5
        have c5 := (HZ.out.below hb5 hzl).cells
        have z5 := (HZ.out.below hb5 hzl).free
        clear hb5 ho5 x5 y5 b5 o5 f5 c2 z2
        generalize b'.ticked false = b5 at *
        simp only [bval, bcells]
        go_wp2
        go_roundw
        case rel => exact ⟨k + 1, v5, b5, by go_num, by omega, Lib.hid HN.out.symm, HNS, HY5, HX5, HO5, HF5, HB5⟩
        case measure => simp [intOf]; omega
      by_cases q1 : kd = 1
      · have r0 : (kd == 0) = false := by simp [q0]
        clear q0
        subst q1
        rw [D1.out rfl] at HN HNS
        clear D0 D1 D2 D3
        go_wp2_with fail
        refine (spec_BuildTick (v := v') (b := b') true HS.out (Nat.le_refl _) HO.out.read).mono ?_
        unfold TickPost
        rintro e w5 ⟨v5, rfl, ho5, hb5⟩
        obtain ⟨x5, y5, b5, o5, f5⟩ := put_building (base := w.heap.size + 2) HZ.out HY.out (by omega) HB.out (by omega) hb5 ho5 (by omega)
        have HX5 := Lib.hid x5
        have HY5 := Lib.hid y5
        have HB5 := Lib.hid b5
        have HO5 := Lib.hid o5
        have HF5 := Lib.hid f5
        have c5 := (HZ.out.below hb5 hzl).cells
        have z5 := (HZ.out.below hb5 hzl).free
        clear hb5 ho5 x5 y5 b5 o5 f5 c2 z2
        generalize b'.ticked true = b5 at *
        simp only [bval, bcells]
        go_wp2
        go_roundw
        case rel => exact ⟨k + 1, v5, b5, by go_num, by omega, Lib.hid HN.out.symm, HNS, HY5, HX5, HO5, HF5, HB5⟩
        case measure => simp [intOf]; omega
      by_cases q2 : kd = 2
      · subst q2
        rw [D2.out rfl] at HN HNS
        clear D0 D1 D2 D3 q0 q1
        have HZd := Lib.hid HZ.out.drew
        have HYd := Lib.hid HY.out.drew
        have HBd := Lib.hid HB.out.drew
        have HOd := Lib.hid HO.out.drew
        have HCC : Hid (∀ W, OwnB W (w.heap.size + 2) v' b' → Calls Tryz.prog 61 #[bval v' b', .int .i64 cd, .int .i64 fd] W (CallPost b' cd fd W)) := Lib.hid (fun W hO => spec_BuildCall (v := v') (b := b') cd fd HS.out (Nat.le_refl _) hO.read)
        have HOa := Lib.hid (ownB_below HO.out ((Below.refl wr.heap.size wr).alloc (Nat.le_refl _) (.cells #[.slice none 0 0, .int .i64 0, .int .i64 0, .int .i64 0, .int .i64 0, .slice none 0 0, .slice none 0 0, .slice none 0 0, .int .i64 0, .int .i64 0, .bool false] 36))).drew
        have HZa := Lib.hid (HZ.out.alloc (.cells #[.slice none 0 0, .int .i64 0, .int .i64 0, .int .i64 0, .int .i64 0, .slice none 0 0, .slice none 0 0, .slice none 0 0, .int .i64 0, .int .i64 0, .bool false] 36)).drew
        have HXa := Lib.hid (Bx.new wr #[.slice none 0 0, .int .i64 0, .int .i64 0, .int .i64 0, .int .i64 0, .slice none 0 0, .slice none 0 0, .slice none 0 0, .int .i64 0, .int .i64 0, .bool false] 36).drew
        have HBa := Lib.hid (HB.out.alloc HB.out.size (.cells #[.slice none 0 0, .int .i64 0, .int .i64 0, .int .i64 0, .int .i64 0, .slice none 0 0, .slice none 0 0, .slice none 0 0, .int .i64 0, .int .i64 0, .bool false] 36)).drew
        generalize hr6 : b'.called cd fd = r6 at *
        generalize hk6 : b'.calledOk cd fd = ok6 at *
        unfold CallPost bval bcells at HCC
        rw [hr6, hk6] at HCC
        clear hr6 hk6
        go_wp2
        go_region_held3 (fun w' => (∀ o, w'.cell? ⟨w2.heap.size, o, none⟩ = (#[.slice v'.A b'.n v'.c, .int .i64 b'.pos, .int .i64 b'.sp, .int .i64 b'.gap, .int .i64 b'.hold, .slice v'.U b'.nu v'.cu, .slice v'.D b'.nd v'.cd, .slice v'.C b'.nc v'.cc, .int .i64 b'.fl, .int .i64 b'.dir, .bool b'.op] : Array Value)[o]?) ∧ w'.cell? ⟨bd, od + k * 3 + 1, none⟩ = some (.int .i64 cd) ∧ w'.cell? ⟨bd, od + k * 3 + 2, none⟩ = some (.int .i64 fd))
          (first | with_reducible exact ⟨HZd.out.cells, HL.out _ HBd.out⟩ | with_reducible exact ⟨HZa.out.cells, HL.out _ HBa.out⟩ | with_reducible exact ⟨HZ5.out.cells, HL.out _ HB5.out⟩ | with_reducible exact ⟨HZ6.out.cells, HL.out _ HB6.out⟩ | with_reducible exact ⟨HZ7.out.cells, HL.out _ HB7.out⟩)
          (first
          | (go_at_call 61; (with_reducible refine (HCC.out wr.drew HOd.out).mono ?_); rintro e w5 ⟨v5, rfl, ho5, hb5⟩; have HZ5 := Lib.hid (HZd.out.below hb5 HZd.out.lt); have HB5 := Lib.hid (HBd.out.trans (hb5.mono HBd.out.size)); have HZ6 := Lib.hid (HZ5.out.alloc (.cells #[.slice none 0 0, .int .i64 0, .int .i64 0, .int .i64 0, .int .i64 0, .slice none 0 0, .slice none 0 0, .slice none 0 0, .int .i64 0, .int .i64 0, .bool false] 36)); have HB6 := Lib.hid (HB5.out.alloc HB5.out.size (.cells #[.slice none 0 0, .int .i64 0, .int .i64 0, .int .i64 0, .int .i64 0, .slice none 0 0, .slice none 0 0, .slice none 0 0, .int .i64 0, .int .i64 0, .bool false] 36)); have HZ7 := Lib.hid (HZ5.out.alloc (.cells (bcells v5 r6) 36)); have HB7 := Lib.hid (HB5.out.alloc HB5.out.size (.cells (bcells v5 r6) 36)); have hb6 := hb5.alloc hb5.size (.cells (bcells v5 r6) 36); have ho6 := ownB_below ho5 ((Below.refl w5.heap.size w5).alloc (Nat.le_refl _) (.cells (bcells v5 r6) 36)); have hP := put_building (base := w.heap.size + 2) HZd.out HYd.out (by omega) HBd.out (by omega) hb6 ho6 (by simp; omega); have HN5 := Lib.hid (Bx.new w5 (bcells v5 r6) 36); have HP := Lib.hid hP; clear hP hb6 ho6; unfold bcells at HZ7 HB7 HN5; have c7 := HZ7.out.cells; have z7 := HZ7.out.free; have c8 := HN5.out.cells)
          | (go_at_call 61; (with_reducible refine (HCC.out _ HOa.out).mono ?_); rintro e w5 ⟨v5, rfl, ho5, hb5⟩; have HZ5 := Lib.hid (HZa.out.below hb5 HZa.out.lt); have HB5 := Lib.hid (HBa.out.trans (hb5.mono HBa.out.size)); have HX5 := Lib.hid (HXa.out.below hb5 HXa.out.lt); have HZ7 := Lib.hid (sets_bx (putL wr.heap.size v5 r6) HZ5.out (fun q hq => by rw [putL_block q hq]; omega)); have HB7 := Lib.hid (sets_below (putL wr.heap.size v5 r6) HB5.out (fun q hq => by rw [putL_block q hq]; omega)); have hP := put_building (base := w.heap.size + 2) (W' := sets w5 (putL wr.heap.size v5 r6)) HZ.out HY.out (by omega) HB.out (by omega) (sets_below _ ((((Below.refl wr.heap.size wr).alloc (Nat.le_refl _) (.cells #[.slice none 0 0, .int .i64 0, .int .i64 0, .int .i64 0, .int .i64 0, .slice none 0 0, .slice none 0 0, .slice none 0 0, .int .i64 0, .int .i64 0, .bool false] 36)).drew).trans (hb5.mono (by simp))) (fun q hq => by rw [putL_block q hq]; omega)) ((sets_own _ ho5 (fun q hq => by rw [putL_block q hq]; simp)).mono (by simp)) (by omega); have HP := Lib.hid hP; clear hP; simp only [sets, putL, List.foldl_cons, List.foldl_nil] at HZ7 HB7; have c7 := HZ5.out.cells; have z7 := HZ5.out.free; have c8 := HX5.out.cells; have z8 := HX5.out.free))
        all_goals go_wp2
        all_goals
          go_roundw
          case rel => exact ⟨k + 1, v5, r6, by go_num, by omega, Lib.hid HN.out.symm, HNS, Lib.hid HP.out.2.1, Lib.hid HP.out.1, Lib.hid HP.out.2.2.2.1, Lib.hid HP.out.2.2.2.2, Lib.hid HP.out.2.2.1⟩
          case measure => simp [intOf]; omega
      · have r0 : (kd == 0) = false := by simp [q0]
        have r1 : (kd == 1) = false := by simp [q1]
        have r2 : (kd == 2) = false := by simp [q2]
        rw [D3.out q0 q1 q2] at HN
        clear D0 D1 D2 D3 q0 q1 q2
        go_wp2
        go_roundw
        case rel => exact ⟨k + 1, v', b', by go_num, by omega, Lib.hid HN.out.symm, HS, HY, HZ, HO, HF, HB⟩
        case measure => simp [intOf]; omega
    · obtain rfl : k = n := by omega
      have HN : Hid (b.runN d k = b') := Lib.hid HK.out.symm
      unfold bcells at HZ
      have c2 := HZ.out.cells
      have c1 := HY.out.cells
      have z1 := HY.out.free
      go_wp2
      refine bodyPost_ret (v := bval v' b') (by simp [bval, bcells, results, Tryz.results82, go_sem, c1, c2]) rfl ⟨v', by rw [HN.out]; rfl, ?_, ?_⟩
      · rw [HN.out]
        refine OwnB.mono (base := w.heap.size + 2) ?_ (by omega)
        repeat (refine ownB_set (by simp <;> omega) ?_)
        exact HO.out
      · repeat (refine below_set (by simp <;> omega) ?_)
        exact HB.out

theorem spec_BuildRun {w : World} {B n c : Nat} {v : Bv} {b : Bld} {A : Option Addr} {d : Nat → Int × Int × Int} (hn : b.Small) (hB : B ≤ w.heap.size) (hr : ReadB w B v b) (hl : n ≤ 1000000000) (hd : Deeds w B A n d) :
    Calls Tryz.prog 82 #[bval v b, .slice A n c] w (RunPost b d n w) := by
  cases hv : b.valid
  · exact spec_BuildRun_no hn hB hr hv
  · exact spec_BuildRun_yes hn hB hr hv hl hd
end Go.Proofs.YthkpikkjgggimaaGreatDoor
