/-
  The contract of the program's BuildRun. No claim stands here.
-/
import Derived.Test.YtnbjibkbjdbadaaRun
namespace Go.Proofs.Ytnbjibkbjdbadaa
open Go.RowKit
set_option linter.unusedVariables false
set_option linter.unusedSimpArgs false

set_option maxHeartbeats 6400000 in
theorem impl_BuildRun_no {w : World} {B n c : Nat} {v : Bv} {b : Bld} {A : Option Addr} {d : Nat → Int × Int × Int} (hn : b.Small) (hB : B ≤ w.heap.size) (hr : ReadB w B v b) (hv : b.valid = false) :
    Calls Try.prog 34 #[bval v b, .slice A n c] w (RunPost b d n w) := by
  have HR := Lib.hid hr
  have HSm := Lib.hid hn
  have HV := Lib.hid hv
  have HE := Lib.hid (ran_no (d := d) (n := n) hv)
  obtain ⟨m0, m1, m2, m3⟩ := hn
  clear hr hv
  unfold bval bcells RunPost
  go_enter Try.func34, Try.ntmps34
  go_wp2_with fail
  refine (impl_BuildValid (v := v) (b := b) HSm.out (Nat.le_trans hB (by simp <;> omega)) ((HR.out.alloc hB _).alloc (Nat.le_trans hB (by simp <;> omega)) _)).mono ?_
  rintro e w1 ⟨rfl, hb1⟩
  obtain ⟨x, y, hbb, hs1⟩ := boxes2' hb1
  have HB1 := Lib.hid hbb
  have c1 := y.cells
  have z1 := y.free
  clear hb1 x y hbb
  rw [HV.out]
  go_wp2
  refine bodyPost_ret (v := bval Bv.none Bld.none) (by simp [bval, bcells, Bv.none, Bld.none, results, Try.results34, go_sem, c1]) rfl ⟨Bv.none, by rw [HE.out], ?_, ?_⟩
  · rw [HE.out]
    exact own_none _ _
  · repeat (refine below_set (by simp <;> omega) ?_)
    exact HB1.out

set_option maxHeartbeats 12800000 in
theorem impl_BuildRun_yes {w : World} {B n c : Nat} {v : Bv} {b : Bld} {A : Option Addr} {d : Nat → Int × Int × Int} (hn : b.Small) (hB : B ≤ w.heap.size) (hr : ReadB w B v b) (hv : b.valid = true) (hl : n ≤ 1000000000) (hd : Deeds w B A n d) :
    Calls Try.prog 34 #[bval v b, .slice A n c] w (RunPost b d n w) := by
  have hsz := (valid_iff.1 hv).sizes
  have HSZ := Lib.hid hsz
  clear hsz
  have HR := Lib.hid hr
  have HSm := Lib.hid hn
  have HV := Lib.hid hv
  have HD := Lib.hid hd
  have HE := Lib.hid (ran_yes (d := d) (n := n) hv)
  clear hr hv hn hd
  unfold RunPost
  rw [HE.out]
  unfold bval bcells
  go_enter Try.func34, Try.ntmps34
  go_wp2_with fail
  refine (impl_BuildValid (v := v) (b := b) HSm.out (Nat.le_trans hB (by simp <;> omega)) ((HR.out.alloc hB _).alloc (Nat.le_trans hB (by simp <;> omega)) _)).mono ?_
  rintro e w1 ⟨rfl, hb1⟩
  obtain ⟨x, y, hbb, hs1⟩ := boxes2' hb1
  have HX1 := Lib.hid x
  have HY1 := Lib.hid y
  have HB1 := Lib.hid hbb
  have c0 := x.cells
  clear hb1 x y hbb
  rw [HV.out]
  go_wp2_with fail
  refine (copyBuilding_any (v := v) (b := b) (by have := HSZ.out; omega) (by have := HSZ.out; omega) (by have := HSZ.out; omega) (by have := HSZ.out; omega) (by have := HSZ.out; omega) (Nat.le_trans hB HB1.out.size) (HR.out.below (HB1.out.mono hB))).mono ?_
  rintro e w2 ⟨v2, rfl, ho2, hb2⟩
  have x2 := HX1.out.below hb2 HX1.out.lt
  have z2 := x2.free
  have c2 := x2.cells
  have F2 := store_building v2 b x2 (HY1.out.below hb2 HY1.out.lt) (by omega) (HB1.out.trans (hb2.mono HB1.out.size)) (Nat.le_refl _) (ho2.mono (base' := w.heap.size + 2) hs1) (by omega) (Nat.le_trans hs1 hb2.size)
  clear hb2 ho2 x2 c0 HX1 HY1 HB1
  obtain ⟨W3, hW, x3, y3, hb3, ho3, hs3⟩ := F2
  subst hW
  have HX3 := Lib.hid x3
  have HY3 := Lib.hid y3
  have HB3 := Lib.hid hb3
  have HO3 := Lib.hid ho3
  clear x3 y3 hb3 ho3
  simp only [bval, bcells]
  go_wp2
  go_loopw [15] (fun s15 wr => ∃ (k : Nat) (v' : Bv) (b' : Bld), s15 = .int .i64 k ∧ k ≤ n ∧ Hid (b' = b.runN d k) ∧ Hid b'.Small ∧ Hid (Bx wr (w.heap.size + 1) #[.slice none 0 0, .int .i64 0, .int .i64 0, .int .i64 0, .int .i64 0, .slice none 0 0, .slice none 0 0, .slice none 0 0, .int .i64 0, .int .i64 0, .bool false]) ∧
    Hid (Bx wr w.heap.size (bcells v' b')) ∧ Hid (OwnB wr (w.heap.size + 2) v' b') ∧ Hid (Below w.heap.size w wr) ∧ w.heap.size + 2 ≤ wr.heap.size) (fun s15 _ => n - (intOf s15).toNat)
  case atStart => exact ⟨0, v2, b, rfl, by omega, Lib.hid rfl, HSm, HY3, HX3, HO3, HB3, hs3⟩
  case round =>
    obtain ⟨k, v', b', rfl, hk, HK, HS, HY, HX, HO, HB, hwr⟩ := hrel
    clear HY3 HX3 HO3 HB3 c2 z2
    by_cases hlt : k < n
    · obtain ⟨bd, od, rfl, hbd, gd⟩ := HD.out.below (HB.out.mono hB) (by omega)
      obtain ⟨e1, e2, e3⟩ := gd k hlt
      have HN : Hid (b.runN d (k + 1) = b'.deed (d k)) := Lib.hid (by rw [HK.out]; rfl)
      have HNS := Lib.hid (deed_small HS.out (d k))
      clear gd
      have D0 := Lib.hid (@deed_0 b' (d k))
      have D1 := Lib.hid (@deed_1 b' (d k))
      have D2 := Lib.hid (@deed_2 b' (d k))
      have D3 := Lib.hid (@deed_3 b' (d k))
      generalize d k = x at *
      obtain ⟨kd, cd, fd⟩ := x
      simp only at e1 e2 e3 D0 D1 D2 D3
      unfold bcells at HX
      have HXa := Lib.hid (HX.out.alloc (.cells #[.int .i64 kd, .int .i64 cd, .int .i64 fd] 84))
      have HYa := Lib.hid (HY.out.alloc (.cells #[.int .i64 kd, .int .i64 cd, .int .i64 fd] 84))
      have HOa := Lib.hid (ownB_below HO.out ((Below.refl wr.heap.size wr).alloc (Nat.le_refl _) (.cells #[.int .i64 kd, .int .i64 cd, .int .i64 fd] 84)))
      have HBa := Lib.hid (HB.out.alloc HB.out.size (.cells #[.int .i64 kd, .int .i64 cd, .int .i64 fd] 84))
      have c2 := HXa.out.cells
      have z2 := HXa.out.free
      have c3 := (Bx.new wr #[.int .i64 kd, .int .i64 cd, .int .i64 fd] 84).cells
      by_cases q0 : kd = 0
      · subst q0
        rw [D0.out rfl] at HN HNS
        clear D0 D1 D2 D3
        go_wp2_with fail
        refine (impl_BuildTick (v := v') (b := b') false HS.out (Nat.le_refl _) HOa.out.read).mono ?_
        unfold TickPost
        rintro e w5 ⟨v5, rfl, ho5, hb5⟩
        have HP := Lib.hid (put_building (base := w.heap.size + 2) HXa.out HYa.out (by omega) HBa.out (by omega) hb5 ho5 (by simp; omega))
        have c5 := (HXa.out.below hb5 HXa.out.lt).cells
        have z5 := (HXa.out.below hb5 HXa.out.lt).free
        have hsz5 : w.heap.size + 2 ≤ w5.heap.size := by have := hb5.size; simp at this; omega
        clear hb5 ho5 c2 z2 c3
        generalize b'.ticked false = b5 at *
        simp only [bval, bcells]
        go_wp2
        go_roundw
        case rel => exact ⟨k + 1, v5, b5, by go_num, by omega, Lib.hid HN.out.symm, HNS, Lib.hid HP.out.2.1, Lib.hid HP.out.1, Lib.hid HP.out.2.2.2.1, Lib.hid HP.out.2.2.1, by simpa using hsz5⟩
        case measure => simp [intOf]; omega
      by_cases q1 : kd = 1
      · have r0 : (kd == 0) = false := by simp [q0]
        clear q0
        subst q1
        rw [D1.out rfl] at HN HNS
        clear D0 D1 D2 D3
        go_wp2_with fail
        refine (impl_BuildTick (v := v') (b := b') true HS.out (Nat.le_refl _) HOa.out.read).mono ?_
        unfold TickPost
        rintro e w5 ⟨v5, rfl, ho5, hb5⟩
        have HP := Lib.hid (put_building (base := w.heap.size + 2) HXa.out HYa.out (by omega) HBa.out (by omega) hb5 ho5 (by simp; omega))
        have c5 := (HXa.out.below hb5 HXa.out.lt).cells
        have z5 := (HXa.out.below hb5 HXa.out.lt).free
        have hsz5 : w.heap.size + 2 ≤ w5.heap.size := by have := hb5.size; simp at this; omega
        clear hb5 ho5 c2 z2 c3
        generalize b'.ticked true = b5 at *
        simp only [bval, bcells]
        go_wp2
        go_roundw
        case rel => exact ⟨k + 1, v5, b5, by go_num, by omega, Lib.hid HN.out.symm, HNS, Lib.hid HP.out.2.1, Lib.hid HP.out.1, Lib.hid HP.out.2.2.2.1, Lib.hid HP.out.2.2.1, by simpa using hsz5⟩
        case measure => simp [intOf]; omega
      by_cases q2 : kd = 2
      · subst q2
        rw [D2.out rfl] at HN HNS
        clear D0 D1 D2 D3 q0 q1
        go_wp2_with fail
        refine (impl_BuildCall (v := v') (b := b') cd fd HS.out (Nat.le_refl _) HOa.out.read).mono ?_
        unfold CallPost
        rintro e w5 ⟨v5, rfl, ho5, hb5⟩
        have HP := Lib.hid (put_building (base := w.heap.size + 2) HXa.out HYa.out (by omega) HBa.out (by omega) hb5 ho5 (by simp; omega))
        have c5 := (HXa.out.below hb5 HXa.out.lt).cells
        have z5 := (HXa.out.below hb5 HXa.out.lt).free
        have hsz5 : w.heap.size + 2 ≤ w5.heap.size := by have := hb5.size; simp at this; omega
        clear hb5 ho5 c2 z2 c3
        generalize b'.called cd fd = b5 at *
        simp only [bval, bcells]
        go_wp2
        go_roundw
        case rel => exact ⟨k + 1, v5, b5, by go_num, by omega, Lib.hid HN.out.symm, HNS, Lib.hid HP.out.2.1, Lib.hid HP.out.1, Lib.hid HP.out.2.2.2.1, Lib.hid HP.out.2.2.1, by simpa using hsz5⟩
        case measure => simp [intOf]; omega
      · have r0 : (kd == 0) = false := by simp [q0]
        have r1 : (kd == 1) = false := by simp [q1]
        have r2 : (kd == 2) = false := by simp [q2]
        rw [D3.out q0 q1 q2] at HN
        clear D0 D1 D2 D3 q0 q1 q2
        go_wp2
        go_roundw
        case rel => exact ⟨k + 1, v', b', by go_num, by omega, Lib.hid HN.out.symm, HS, HYa, HXa, HOa, HBa, by simp; omega⟩
        case measure => simp [intOf]; omega
    · obtain rfl : k = n := by omega
      have HN : Hid (b.runN d k = b') := Lib.hid HK.out.symm
      unfold bcells at HX
      have c2 := HX.out.cells
      have c1 := HY.out.cells
      have z1 := HY.out.free
      go_wp2
      refine bodyPost_ret (v := bval v' b') (by simp [bval, bcells, results, Try.results34, go_sem, c1, c2]) rfl ⟨v', by rw [HN.out]; rfl, ?_, ?_⟩
      · rw [HN.out]
        refine OwnB.mono (base := w.heap.size + 2) ?_ (by omega)
        repeat (refine ownB_set (by simp <;> omega) ?_)
        exact HO.out
      · repeat (refine below_set (by simp <;> omega) ?_)
        exact HB.out

theorem impl_BuildRun {w : World} {B n c : Nat} {v : Bv} {b : Bld} {A : Option Addr} {d : Nat → Int × Int × Int} (hn : b.Small) (hB : B ≤ w.heap.size) (hr : ReadB w B v b) (hl : n ≤ 1000000000) (hd : Deeds w B A n d) :
    Calls Try.prog 34 #[bval v b, .slice A n c] w (RunPost b d n w) := by
  cases hv : b.valid
  · exact impl_BuildRun_no hn hB hr hv
  · exact impl_BuildRun_yes hn hB hr hv hl hd
end Go.Proofs.Ytnbjibkbjdbadaa
