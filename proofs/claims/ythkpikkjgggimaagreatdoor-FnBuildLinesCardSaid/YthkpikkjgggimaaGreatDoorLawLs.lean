/-
  The law FnBuildLines: the walk. No claim stands here.
-/
import Derived.Test.YthkpikkjgggimaaGreatDoorBP
namespace Go.Proofs.YthkpikkjgggimaaGreatDoor
open Go.RowKit
set_option linter.unusedVariables false
set_option linter.unusedSimpArgs false

set_option maxRecDepth 100000 in
set_option maxHeartbeats 12800000 in
theorem law_BuildLines {w : World} {A : Option Addr} {n c : Nat} {h : Nat → Int} (hh : Here w) (hc : n ≤ c) (hs : Bytes w w.heap.size A n h) :
    Calls Tryz.prog 3 #[.slice A n c] w fun e w' => e = .returned (.bool true) ∧ Below w.heap.size w w' := by
  by_cases h20 : n ≤ 1048576
  · have HH := Lib.hid hh
    clear hh
    go_enter Tryz.func3, Tryz.ntmps3
    go_wp2_with fail
    refine (DrawBuildLines_any (Nat.le_refl _) hc hs).mono ?_
    rintro e w1 ⟨v, b, a, n, c, t, rfl, hr1, hu, hn41, hrow, hts, hb1⟩
    have HSm := Lib.hid (hu.small (by omega))
    have HL := Lib.hid (LB.new 36 hr1 hb1)
    have HTS := Lib.hid (fun i (hi : i < n) => Nat.le_trans (hts i hi) (by decide : 30 ≤ 1048576))
    have HT := Lib.hid (hrow.alloc (.cells (bcells v b) 36))
    have hnc := hrow.cap
    have HXS := Lib.hid (lines_small b t n)
    clear hr1 hu hb1 hs hts hrow
    unfold bcells at HL HT
    simp only [bval, bcells]
    have c0 := HL.out.cells
    go_wp2_with fail
    refine (impl_BuildLines (v := v) (b := b) HSm.out (Nat.le_refl _) HL.out.read (by omega) HT.out.texts HTS.out (HH.out.below HL.out.o)).mono ?_
    unfold LinesPost
    rintro e w2 ⟨vx, A2, c2, rfl, ho2, hr2, hb2⟩
    generalize hx : b.linesB t n = x at *
    have HX' := Lib.hid hx
    clear hx
    have hal2 := (Below.refl w2.heap.size w2).alloc (Nat.le_refl _) (.cells (bcells vx x) 36)
    have HL2 := Lib.hid ((HL.out.call hb2).call hal2)
    have HX2 := Lib.hid (LB.new 36 ho2.read (HL.out.call hb2).o)
    have HT2 := Lib.hid ((HT.out.below hb2 (Nat.le_refl _)).below hal2 (Nat.le_refl _))
    have HA2 := Lib.hid ((hr2.mono (base' := w.heap.size) HL.out.o.size).below hal2 (Nat.le_refl _))
    clear hb2 HL c0 ho2 hr2 hal2 HT
    unfold bcells at HL2 HX2 HT2 HA2
    simp only [bval, bcells]
    have c0 := HL2.out.cells
    go_wp2_with fail
    refine (spec_BuildLines (v := v) (b := b) HSm.out (Nat.le_refl _) HL2.out.read (by omega) HT2.out.texts HTS.out (HH.out.below HL2.out.o)).mono ?_
    unfold LinesPost
    rw [HX'.out]
    rintro e w3 ⟨vy, A3, c3, rfl, ho3, hr3, hb3⟩
    have hal3 := (Below.refl w3.heap.size w3).alloc (Nat.le_refl _) (.cells (bcells vy x) 36)
    have HL3 := Lib.hid ((HL2.out.call hb3).call hal3)
    have HX3 := Lib.hid ((HX2.out.call hb3).call hal3)
    have HY3 := Lib.hid (LB.new 36 ho3.read (HL2.out.call hb3).o)
    have HT3 := Lib.hid ((HT2.out.below hb3 (Nat.le_refl _)).below hal3 (Nat.le_refl _))
    have HA3 := Lib.hid ((HA2.out.below hb3 (Nat.le_refl _)).below hal3 (Nat.le_refl _))
    have HZ3 := Lib.hid (hr3.below hal3 (Nat.le_refl _))
    clear hb3 HL2 HX2 c0 ho3 hr3 hal3 HT2 HA2
    unfold bcells at HL3 HX3 HY3 HT3 HA3 HZ3
    simp only [bval, bcells]
    have c1 := HX3.out.cells
    have c2 := HY3.out.cells
    go_wp2_with fail
    refine (sameBuild_any (v := vx) (v' := vy) (a := x) (b := x) HXS.out (Nat.le_refl _) (Nat.le_refl _) HX3.out.read HY3.out.read).mono ?_
    rintro e w4 ⟨rfl, hb4⟩
    rw [sameP_refl]
    have HL4 := Lib.hid (HL3.out.call hb4)
    have HX4 := Lib.hid (HX3.out.call hb4)
    have HT4 := Lib.hid (HT3.out.below hb4 (Nat.le_refl _))
    have HA4 := Lib.hid (HA3.out.below hb4 (Nat.le_refl _))
    have HZ4 := Lib.hid (HZ3.out.below hb4 (Nat.le_refl _))
    clear hb4 HL3 HX3 HY3 c1 c2 HT3 HA3 HZ3
    have hle : b.linesN n ≤ n := by unfold Bld.linesN; split <;> omega
    go_wp2_with fail
    refine (sameTexts_any (by omega) HA4.out.texts HZ4.out.texts).mono ?_
    rintro e w5 ⟨rfl, hd5⟩
    rw [eqBt_refl]
    have HL5 := Lib.hid (HL4.out.drewed hd5)
    have HX5 := Lib.hid (HX4.out.drewed hd5)
    have HT5 := Lib.hid (HT4.out.below (hd5.below) (Nat.le_refl _))
    have HA5 := Lib.hid (HA4.out.below (hd5.below) (Nat.le_refl _))
    clear hd5 HL4 HX4 HT4 HA4 HZ4
    have c0 := HL5.out.cells
    go_wp2_with fail
    refine (spec_BuildValid (v := v) (b := b) HSm.out (Nat.le_refl _) HL5.out.read).mono ?_
    rintro e w6 ⟨rfl, hb6⟩
    have HL6 := Lib.hid (HL5.out.call hb6)
    have HX6 := Lib.hid (HX5.out.call hb6)
    have HT6 := Lib.hid (HT5.out.below hb6 (Nat.le_refl _))
    have HA6 := Lib.hid (HA5.out.below hb6 (Nat.le_refl _))
    clear hb6 HL5 HX5 c0 HT5 HA5
    have c0 := HL6.out.cells
    have c1 := HX6.out.cells
    cases hv : b.linesOk n
    · have e0 := lines_no (t := t) hv
      have HXN := Lib.hid (HX'.out.symm.trans e0.1)
      have e1 := e0.2
      have key : b.valid = false ∨ (b.valid = true ∧ ¬ n ≤ 40) := by
        cases h : b.valid
        · exact .inl rfl
        · right
          refine ⟨rfl, fun h4 => ?_⟩
          simp [Bld.linesOk, h, h4] at hv
      clear e0 hv HA6 hle
      rw [e1]
      have hq : sameP x Bld.none = true := by rw [HXN.out, sameP_refl]
      have HQ := Lib.hid hq
      clear hq
      rcases key with hv | ⟨hv, h4⟩
      all_goals
        rw [hv]
        go_wp2_with fail
        refine (noBuild_any (v := vx) (b := x) HXS.out (Nat.le_refl _) HX6.out.read).mono ?_
        rintro e w7 ⟨rfl, hb7⟩
        rw [HQ.out]
        have HL7 := Lib.hid (HL6.out.call hb7)
        clear hb7 HL6 HX6 c0 c1
        go_wp2_with fail
        refine alive_any.mono ?_
        rintro e w8 ⟨rfl, hb8⟩
        have HL8 := Lib.hid (HL7.out.call hb8)
        clear hb8 HL7
        go_wp2
        go_ret
        exact ⟨rfl, HL8.out.o⟩
    · have e0 := lines_yes (t := t) hv
      have HXL := Lib.hid (HX'.out.symm.trans e0.1)
      have e1 := e0.2
      have e2 := hv
      simp only [Bld.linesOk, Bool.and_eq_true, decide_eq_true_eq] at e2
      obtain ⟨hvb, h40⟩ := e2
      have HOK := Lib.hid (valid_iff.1 hvb)
      have HLO := Lib.hid (show ∀ m, m ≤ 40 → b.linesOk m = true from fun m hm => by simp [Bld.linesOk, hvb, hm])
      rw [e1] at HA6 ⊢
      clear e0 hv e1 hle
      rw [hvb]
      obtain ⟨k2, hk2⟩ : ∃ k2, k2 = n / 2 := ⟨_, rfl⟩
      have hd2 : ((n : Int) / 2) = (k2 : Int) := by omega
      have hk2c : k2 ≤ c := by omega
      have hk2n : k2 ≤ n := by omega
      have HD2 := Lib.hid hd2
      have HK2 := Lib.hid hk2
      clear hd2 hk2
      go_wp2_with fail
      have hcI : (k2 : Int) ≤ (c : Int) := by omega
      simp only [HD2.out]
      have HCL := Lib.hid (fun W (h : ReadB W W.heap.size v b) (hT : Texts W W.heap.size (some ⟨a, 0, none⟩) n t) (hW : Here W) => impl_BuildLines (c := c) (n := k2) (v := v) (b := b) HSm.out (Nat.le_refl _) h (by omega) (hT.less hk2n) (fun i hi => HTS.out i (by omega)) hW)
      unfold LinesPost at HCL
      rw [(lines_yes (t := t) (HLO.out k2 (by omega))).1, (lines_yes (t := t) (HLO.out k2 (by omega))).2] at HCL
      obtain ⟨m2, hm2⟩ : ∃ m2, k2 + m2 = n := ⟨n - k2, by omega⟩
      obtain ⟨d2, hdc⟩ : ∃ d2, k2 + d2 = c := ⟨c - k2, by omega⟩
      obtain ⟨k3, hk3⟩ : ∃ k3, (if c = k2 then some (⟨a, 0, none⟩ : Addr) else some ⟨a, k2, none⟩) = some ⟨a, k3, none⟩ := by
        by_cases e : c = k2
        · exact ⟨0, by simp [e]⟩
        · exact ⟨k2, by simp [e]⟩
      have hkt : ∀ (W : World) (f : Nat → ByteArray), Texts W W.heap.size (some ⟨a, 0, none⟩) n f → Texts W W.heap.size (some ⟨a, k3, none⟩) m2 (fun i => f (k2 + i)) := by
        intro W f hT
        by_cases e : c = k2
        · rw [show m2 = 0 by omega]; exact Texts.zero
        · rw [if_neg e] at hk3
          have : k2 = k3 := by simpa using hk3
          rw [← this]; exact hT.tail hm2
      obtain ⟨t2, ht2⟩ : ∃ t2, t2 = fun i => t (k2 + i) := ⟨_, rfl⟩
      obtain ⟨b2, hb2'⟩ : ∃ b2, b2 = b.runL t k2 := ⟨_, rfl⟩
      have HO2 : Hid b2.Ok := Lib.hid (by rw [hb2']; exact runL_ok HOK.out t k2)
      have HP2 : Hid (∀ i, b2.ansL t2 i = b.ansL t (k2 + i)) := Lib.hid (fun i => by rw [hb2', ht2]; exact ansL_part b t k2 i)
      have HR2 : Hid (b2.runL t2 m2 = x) := Lib.hid (by rw [hb2', ht2, runL_part, hm2, HXL.out])
      have HS2 := Lib.hid (ok_small HO2.out)
      have HCL2 : Hid (∀ va W (h : ReadB W W.heap.size va b2) (hT : Texts W W.heap.size (some ⟨a, 0, none⟩) n t) (hW : Here W), _) := Lib.hid (fun va W h hT hW => impl_BuildLines (c := d2) (n := m2) (v := va) (b := b2) (t := t2) HS2.out (Nat.le_refl _) h (by omega) (by rw [ht2]; exact hkt W t hT) (fun i hi => by rw [ht2]; exact HTS.out (k2 + i) (by omega)) hW)
      unfold LinesPost at HCL2
      have hl2 : b2.linesOk m2 = true := by simp [Bld.linesOk, valid_iff.2 HO2.out]; omega
      rw [(lines_yes (t := t2) hl2).1, (lines_yes (t := t2) hl2).2, HR2.out] at HCL2
      rw [← hb2'] at HCL
      clear hl2 hb2' ht2 hkt
      rename_i hK
      refine wp_region_any (by kernel_rfl) ?_
      refine wpAny_typed 11 (fun i => (#[71, 72, 73, 74, 75, 70, 76, 77, 10, 10, 11] : Array Nat).getD i 0) (fun i => i == 9) (PaR w6.heap.size k2 (bval v b) (.slice (some ⟨a, 0, none⟩) n c) (.int .i64 k2) (.slice (some ⟨a, 0, none⟩) k2 c) b2 (b.ansL t)) (fun _ W => Below w6.heap.size w6 W) rfl 130 rfl (by kernel_rfl) (below_drewN (Below.refl _ _) 1) ?_ ?_
      rotate_left
      · intro i' o ho a0 W k' U hG hk' hd
        have hlt' : i' < 11 := (Array.getElem?_eq_some_iff.1 ho).1
        have hu3 := U.other 3 (by decide)
        have hu4 := U.other 4 (by decide)
        have hu9 := U.other 9 (by decide)
        have t3 : a0.tmps[3]?.getD undef = .pointer (some ⟨w1.heap.size, 0, none⟩) := by simpa using hu3
        have t4 : a0.tmps[4]?.getD undef = .slice (some ⟨a, 0, none⟩) n c := by simpa using hu4
        have t9 : a0.tmps[9]?.getD undef = .int .i64 k2 := by simpa using hu9
        have hsz : w6.heap.size ≤ W.heap.size := hG.size
        rcases (by omega : i' = 0 ∨ i' = 1 ∨ i' = 2 ∨ i' = 3 ∨ i' = 4 ∨ i' = 5 ∨ i' = 6 ∨ i' = 7 ∨ i' = 8 ∨ i' = 9 ∨ i' = 10) with rfl | rfl | rfl | rfl | rfl | rfl | rfl | rfl | rfl | rfl | rfl
        all_goals (refine wpOp_of ho (by cases ho; rfl) ?_; cases ho)
        · have cc := (HL6.out.call hG).cells
          unfold Oper.wp
          simp [go_sem, Act.eval, t3, cc]
          exact ⟨hG, fun j v _ h => h, .inl ⟨rfl, _, rfl, rfl⟩⟩
        · unfold Oper.wp
          simp [go_sem, Act.eval, t4]
          exact ⟨hG, fun j v _ h => h, .inl ⟨rfl, _, rfl, rfl⟩⟩
        · unfold Oper.wp
          simp [go_sem, Act.eval, t9]
          exact ⟨hG, fun j v _ h => h, .inl ⟨rfl, _, rfl, rfl⟩⟩
        · have q0 := hd ⟨1, .data⟩ (by simp) rfl
          have q1 := hd ⟨2, .data⟩ (by simp) rfl
          have u0 : a0.tmps[72]?.getD undef = .slice (some ⟨a, 0, none⟩) n c := by simpa [PaR] using q0
          have u1 : a0.tmps[73]?.getD undef = .int .i64 k2 := by simpa [PaR] using q1
          unfold Oper.wp
          simp [go_sem, Act.eval, u0, u1, hcI]
          exact ⟨hG, fun j v _ h => h, .inl ⟨rfl, _, rfl, rfl⟩⟩
        · have q0 := hd ⟨0, .data⟩ (by simp) rfl
          have q1 := hd ⟨3, .data⟩ (by simp) rfl
          have u0 : a0.tmps[71]?.getD undef = bval v b := by simpa [PaR] using q0
          have u1 : a0.tmps[74]?.getD undef = (.slice (some ⟨a, 0, none⟩) k2 c) := by simpa [PaR] using q1
          unfold Oper.wp
          simp [go_sem, Act.eval, u0, u1]
          refine (HCL.out W (HL6.out.call hG).read (HT6.out.below hG (Nat.le_refl _)).texts (HH.out.below (HL6.out.call hG).o)).mono ?_
          rintro e w' ⟨v6, A6, c6, rfl, ho', hr', hb'⟩
          exact ⟨hG.trans (hb'.mono hsz), fun j v _ h => PaR.below hb' j v h, .inl ⟨rfl, _, rfl, ⟨v6, A6, c6, rfl, ho'.mono hsz, hr'.mono hsz⟩⟩⟩
        · obtain ⟨v6, A6, c6, h0, ho', hr'⟩ := hd ⟨4, .data⟩ (by simp) rfl
          have u0 : a0.tmps[75]?.getD undef = .tuple #[bval v6 b2, .slice A6 (k2 : Nat) c6] := by simpa using h0
          unfold Oper.wp
          simp [go_sem, Act.eval, u0]
          exact ⟨hG, fun j v _ h => h, .inl ⟨rfl, _, rfl, ⟨v6, A6, c6, rfl, ho', hr'⟩⟩⟩
        · obtain ⟨v6, A6, c6, h0, ho', hr'⟩ := hd ⟨5, .data⟩ (by simp) rfl
          have u0 : a0.tmps[70]?.getD undef = .tuple #[bval v6 b2, .slice A6 (k2 : Nat) c6] := by simpa using h0
          unfold Oper.wp
          simp [go_sem, Act.eval, u0]
          exact ⟨hG, fun j v _ h => h, .inl ⟨rfl, _, rfl, ⟨v6, rfl, ho'⟩⟩⟩
        · obtain ⟨v6, A6, c6, h0, ho', hr'⟩ := hd ⟨5, .data⟩ (by simp) rfl
          have u0 : a0.tmps[70]?.getD undef = .tuple #[bval v6 b2, .slice A6 (k2 : Nat) c6] := by simpa using h0
          unfold Oper.wp
          simp [go_sem, Act.eval, u0]
          exact ⟨hG, fun j v _ h => h, .inl ⟨rfl, _, rfl, ⟨A6, c6, rfl, hr'⟩⟩⟩
        · have hba := (Below.refl W.heap.size W).alloc (Nat.le_refl _) (.cells (bcells Bv.none Bld.none) 36)
          unfold bcells at hba
          simp only [Bv.none, Bld.none] at hba
          unfold Oper.wp
          simp [go_sem, Act.eval]
          refine ⟨hG.trans (hba.mono hsz), fun j v _ h => PaR.below hba j v h, .inl ⟨rfl, _, rfl, ⟨W.heap.size, rfl, hsz, .slice none 0 0, .int .i64 0, .int .i64 0, .int .i64 0, .int .i64 0, .slice none 0 0, .slice none 0 0, .slice none 0 0, .int .i64 0, .int .i64 0, .bool false, ?_⟩⟩⟩
          show (W.heap.push _)[W.heap.size]? = _
          simp
        · obtain ⟨v6, h0, ho'⟩ := hd ⟨6, .data⟩ (by simp) rfl
          obtain ⟨g9, h1, hlo, a0', a1, a2, a3, a4, a5, a6, a7, a8, a9, a10, hy⟩ := hd ⟨8, .data⟩ (by simp) rfl
          have u0 : a0.tmps[76]?.getD undef = bval v6 b2 := by simpa using h0
          have u1 : a0.tmps[10]?.getD undef = .pointer (some ⟨g9, 0, none⟩) := by simpa using h1
          have cc := hy.bx.cells
          have fz := hy.bx.free
          have hG' : Below w6.heap.size w6 (sets W (putL g9 v6 b2)) := sets_below _ hG (fun q hq => by rw [putL_block q hq]; exact hlo)
          unfold bval bcells at u0
          unfold Oper.wp
          simp [go_sem, Act.eval, u1, u0, cc, fz]
          exact ⟨hG', fun j v hj h => PaR.stored hy v6 b2 j v hj h, .inr ⟨rfl, ⟨g9, v6, h1, hlo, hy.put v6 b2, own_offs (putL g9 v6 b2) ho' (koff hy ho') (fun q hq => putL_block q hq)⟩⟩⟩
        · obtain ⟨A6, c6, h0, hr'⟩ := hd ⟨7, .data⟩ (by simp) rfl
          have u0 : a0.tmps[77]?.getD undef = .slice A6 (k2 : Nat) c6 := by simpa using h0
          unfold Oper.wp
          simp [go_sem, Act.eval, u0]
          exact ⟨hG, fun j v _ h => h, .inl ⟨rfl, _, rfl, ⟨A6, c6, rfl, hr'⟩⟩⟩
      intro a0 w7 U hR hG
      obtain ⟨F, hf', ha⟩ := U.form [false, false, false, false, false, false, false, false, false, false, true, true, false, false, false, false, false, false, false, false, false, false, false, false, false, false, false, false, false, false, false, false, false, false, false, false, false, false, false, false, false, false, false, false, false, false, false, false, false, false, false, false, false, false, false, false, false, false, false, false, false, false, false, false, false, false, false, false, false, false, true, true, true, true, true, true, true, true, false, false, false, false, false, false, false, false, false, false, false, false, false, false, false, false, false, false, false, false, false, false, false, false, false, false, false, false, false, false, false, false, false, false, false, false, false, false, false, false, false, false, false, false, false, false, false, false, false, false, false, false] rfl (by decide)
      obtain ⟨g10, va, e10, hlo, hxa, hoa⟩ : ∃ g v', a0.tmps.getD 10 undef = .pointer (some ⟨g, 0, none⟩) ∧ w6.heap.size ≤ g ∧ KBx w7 g (bcells v' b2) ∧ OwnB w7 w6.heap.size v' b2 := hR 9 (by omega)
      obtain ⟨A11, c11, e11, hra⟩ : ∃ A c, a0.tmps.getD 11 undef = .slice A (k2 : Nat) c ∧ RowT w7 w6.heap.size A k2 c (b.ansL t) := hR 10 (by omega)
      have f10 : a0.tmps.getD 10 undef = F 10 := hf' 8 (by omega)
      have f11 : a0.tmps.getD 11 undef = F 11 := hf' 10 (by omega)
      have q10 : F 10 = .pointer (some ⟨g10, 0, none⟩) := f10.symm.trans e10
      have q11 : F 11 = .slice A11 (k2 : Nat) c11 := f11.symm.trans e11
      simp only [letters, cond_true, cond_false, Nat.reduceAdd, q10, q11] at ha
      obtain ⟨kk, hkk, hg⟩ := hG
      have HL7 := Lib.hid (HL6.out.call hg)
      have HX7 := Lib.hid (HX6.out.call hg)
      have HT7 := Lib.hid (HT6.out.below hg (Nat.le_refl _))
      have HA7 := Lib.hid (HA6.out.below hg (Nat.le_refl _))
      have HS7 := Lib.hid hra
      have HP7 : Hid (LP w w7 g10 va b2) := Lib.hid ⟨hxa.bx, hoa.read, HL7.out.o⟩
      clear hR hf' U hg hxa hoa hra e10 e11 f10 f11 q10 q11 HCL HL6 HX6 HT6 HA6 c0 c1
      subst ha
      refine hK _ _ ?_
      clear hK
      have c0 := HP7.out.cells
      have hdI : ¬ (c : Int) < (k2 : Int) := by omega
      go_wp2_with fail
      have hnI : (k2 : Int) ≤ (n : Int) := by omega
      have hcn : (n : Int) ≤ (c : Int) := by omega
      have hnk : n - k2 = m2 := by omega
      have hck : c - k2 = d2 := by omega
      rename_i hK
      refine wp_region_any (by kernel_rfl) ?_
      refine wpAny_typed 11 (fun i => (#[79, 80, 81, 82, 83, 78, 84, 85, 12, 12, 13] : Array Nat).getD i 0) (fun i => i == 9) (PaR w7.heap.size m2 (bval va b2) (.slice (some ⟨a, 0, none⟩) n c) (.int .i64 k2) (.slice (some ⟨a, k3, none⟩) m2 d2) x (b2.ansL t2)) (fun _ W => Below w7.heap.size w7 W) rfl 130 rfl (by kernel_rfl) (below_drewN (Below.refl _ _) 1) ?_ ?_
      rotate_left
      · intro i' o ho a0 W k' U hG hk' hd
        have hlt' : i' < 11 := (Array.getElem?_eq_some_iff.1 ho).1
        have hu3 := U.other 10 (by decide)
        have hu4 := U.other 4 (by decide)
        have hu9 := U.other 9 (by decide)
        have t3 : a0.tmps[10]?.getD undef = .pointer (some ⟨g10, 0, none⟩) := by simpa using hu3
        have t4 : a0.tmps[4]?.getD undef = .slice (some ⟨a, 0, none⟩) n c := by simpa using hu4
        have t9 : a0.tmps[9]?.getD undef = .int .i64 k2 := by simpa using hu9
        have hsz : w7.heap.size ≤ W.heap.size := hG.size
        rcases (by omega : i' = 0 ∨ i' = 1 ∨ i' = 2 ∨ i' = 3 ∨ i' = 4 ∨ i' = 5 ∨ i' = 6 ∨ i' = 7 ∨ i' = 8 ∨ i' = 9 ∨ i' = 10) with rfl | rfl | rfl | rfl | rfl | rfl | rfl | rfl | rfl | rfl | rfl
        all_goals (refine wpOp_of ho (by cases ho; rfl) ?_; cases ho)
        · have cc := (HP7.out.call hG).cells
          unfold Oper.wp
          simp [go_sem, Act.eval, t3, cc]
          exact ⟨hG, fun j v _ h => h, .inl ⟨rfl, _, rfl, rfl⟩⟩
        · unfold Oper.wp
          simp [go_sem, Act.eval, t4]
          exact ⟨hG, fun j v _ h => h, .inl ⟨rfl, _, rfl, rfl⟩⟩
        · unfold Oper.wp
          simp [go_sem, Act.eval, t9]
          exact ⟨hG, fun j v _ h => h, .inl ⟨rfl, _, rfl, rfl⟩⟩
        · have q0 := hd ⟨1, .data⟩ (by simp) rfl
          have q1 := hd ⟨2, .data⟩ (by simp) rfl
          have u0 : a0.tmps[80]?.getD undef = .slice (some ⟨a, 0, none⟩) n c := by simpa [PaR] using q0
          have u1 : a0.tmps[81]?.getD undef = .int .i64 k2 := by simpa [PaR] using q1
          unfold Oper.wp
          simp [go_sem, Act.eval, u0, u1, hcI, hnI, hcn, hnk, hck, hk3]
          exact ⟨hG, fun j v _ h => h, .inl ⟨rfl, _, rfl, rfl⟩⟩
        · have q0 := hd ⟨0, .data⟩ (by simp) rfl
          have q1 := hd ⟨3, .data⟩ (by simp) rfl
          have u0 : a0.tmps[79]?.getD undef = bval va b2 := by simpa [PaR] using q0
          have u1 : a0.tmps[82]?.getD undef = (.slice (some ⟨a, k3, none⟩) m2 d2) := by simpa [PaR] using q1
          unfold Oper.wp
          simp [go_sem, Act.eval, u0, u1]
          refine (HCL2.out va W (HP7.out.call hG).read (HT7.out.below hG (Nat.le_refl _)).texts (HH.out.below (HP7.out.call hG).o)).mono ?_
          rintro e w' ⟨v6, A6, c6, rfl, ho', hr', hb'⟩
          exact ⟨hG.trans (hb'.mono hsz), fun j v _ h => PaR.below hb' j v h, .inl ⟨rfl, _, rfl, ⟨v6, A6, c6, rfl, ho'.mono hsz, hr'.mono hsz⟩⟩⟩
        · obtain ⟨v6, A6, c6, h0, ho', hr'⟩ := hd ⟨4, .data⟩ (by simp) rfl
          have u0 : a0.tmps[83]?.getD undef = .tuple #[bval v6 x, .slice A6 (m2 : Nat) c6] := by simpa using h0
          unfold Oper.wp
          simp [go_sem, Act.eval, u0]
          exact ⟨hG, fun j v _ h => h, .inl ⟨rfl, _, rfl, ⟨v6, A6, c6, rfl, ho', hr'⟩⟩⟩
        · obtain ⟨v6, A6, c6, h0, ho', hr'⟩ := hd ⟨5, .data⟩ (by simp) rfl
          have u0 : a0.tmps[78]?.getD undef = .tuple #[bval v6 x, .slice A6 (m2 : Nat) c6] := by simpa using h0
          unfold Oper.wp
          simp [go_sem, Act.eval, u0]
          exact ⟨hG, fun j v _ h => h, .inl ⟨rfl, _, rfl, ⟨v6, rfl, ho'⟩⟩⟩
        · obtain ⟨v6, A6, c6, h0, ho', hr'⟩ := hd ⟨5, .data⟩ (by simp) rfl
          have u0 : a0.tmps[78]?.getD undef = .tuple #[bval v6 x, .slice A6 (m2 : Nat) c6] := by simpa using h0
          unfold Oper.wp
          simp [go_sem, Act.eval, u0]
          exact ⟨hG, fun j v _ h => h, .inl ⟨rfl, _, rfl, ⟨A6, c6, rfl, hr'⟩⟩⟩
        · have hba := (Below.refl W.heap.size W).alloc (Nat.le_refl _) (.cells (bcells Bv.none Bld.none) 36)
          unfold bcells at hba
          simp only [Bv.none, Bld.none] at hba
          unfold Oper.wp
          simp [go_sem, Act.eval]
          refine ⟨hG.trans (hba.mono hsz), fun j v _ h => PaR.below hba j v h, .inl ⟨rfl, _, rfl, ⟨W.heap.size, rfl, hsz, .slice none 0 0, .int .i64 0, .int .i64 0, .int .i64 0, .int .i64 0, .slice none 0 0, .slice none 0 0, .slice none 0 0, .int .i64 0, .int .i64 0, .bool false, ?_⟩⟩⟩
          show (W.heap.push _)[W.heap.size]? = _
          simp
        · obtain ⟨v6, h0, ho'⟩ := hd ⟨6, .data⟩ (by simp) rfl
          obtain ⟨g9, h1, hlo, a0', a1, a2, a3, a4, a5, a6, a7, a8, a9, a10, hy⟩ := hd ⟨8, .data⟩ (by simp) rfl
          have u0 : a0.tmps[84]?.getD undef = bval v6 x := by simpa using h0
          have u1 : a0.tmps[12]?.getD undef = .pointer (some ⟨g9, 0, none⟩) := by simpa using h1
          have cc := hy.bx.cells
          have fz := hy.bx.free
          have hG' : Below w7.heap.size w7 (sets W (putL g9 v6 x)) := sets_below _ hG (fun q hq => by rw [putL_block q hq]; exact hlo)
          unfold bval bcells at u0
          unfold Oper.wp
          simp [go_sem, Act.eval, u1, u0, cc, fz]
          exact ⟨hG', fun j v hj h => PaR.stored hy v6 x j v hj h, .inr ⟨rfl, ⟨g9, v6, h1, hlo, hy.put v6 x, own_offs (putL g9 v6 x) ho' (koff hy ho') (fun q hq => putL_block q hq)⟩⟩⟩
        · obtain ⟨A6, c6, h0, hr'⟩ := hd ⟨7, .data⟩ (by simp) rfl
          have u0 : a0.tmps[85]?.getD undef = .slice A6 (m2 : Nat) c6 := by simpa using h0
          unfold Oper.wp
          simp [go_sem, Act.eval, u0]
          exact ⟨hG, fun j v _ h => h, .inl ⟨rfl, _, rfl, ⟨A6, c6, rfl, hr'⟩⟩⟩
      intro a0 w8 U hR hG
      obtain ⟨F, hf', ha⟩ := U.form [false, false, false, false, false, false, false, false, false, false, false, false, true, true, false, false, false, false, false, false, false, false, false, false, false, false, false, false, false, false, false, false, false, false, false, false, false, false, false, false, false, false, false, false, false, false, false, false, false, false, false, false, false, false, false, false, false, false, false, false, false, false, false, false, false, false, false, false, false, false, false, false, false, false, false, false, false, false, true, true, true, true, true, true, true, true, false, false, false, false, false, false, false, false, false, false, false, false, false, false, false, false, false, false, false, false, false, false, false, false, false, false, false, false, false, false, false, false, false, false, false, false, false, false, false, false, false, false, false, false] rfl (by decide)
      obtain ⟨g12, vc, e10, hlo, hxa, hoa⟩ : ∃ g v', a0.tmps.getD 12 undef = .pointer (some ⟨g, 0, none⟩) ∧ w7.heap.size ≤ g ∧ KBx w8 g (bcells v' x) ∧ OwnB w8 w7.heap.size v' x := hR 9 (by omega)
      obtain ⟨A13, c13, e11, hra⟩ : ∃ A c, a0.tmps.getD 13 undef = .slice A (m2 : Nat) c ∧ RowT w8 w7.heap.size A m2 c (b2.ansL t2) := hR 10 (by omega)
      have f10 : a0.tmps.getD 12 undef = F 12 := hf' 8 (by omega)
      have f11 : a0.tmps.getD 13 undef = F 13 := hf' 10 (by omega)
      have q10 : F 12 = .pointer (some ⟨g12, 0, none⟩) := f10.symm.trans e10
      have q11 : F 13 = .slice A13 (m2 : Nat) c13 := f11.symm.trans e11
      simp only [letters, cond_true, cond_false, Nat.reduceAdd, q10, q11] at ha
      obtain ⟨kk, hkk, hg⟩ := hG
      have HL8 := Lib.hid (HL7.out.call hg)
      have HX8 := Lib.hid (HX7.out.call hg)
      have HT8 := Lib.hid (HT7.out.below hg (Nat.le_refl _))
      have HA8 := Lib.hid (HA7.out.below hg (Nat.le_refl _))
      have HS8 := Lib.hid (HS7.out.below hg (Nat.le_refl _))
      have HZ8 := Lib.hid hra
      have HC8 : Hid (LP w w8 g12 vc x) := Lib.hid ⟨hxa.bx, hoa.read, HL8.out.o⟩
      clear hR hf' U hg hxa hoa hra e10 e11 f10 f11 q10 q11 HCL2 HL7 HX7 HT7 HA7 HS7 c0 HP7
      subst ha
      refine hK _ _ ?_
      clear hK
      go_wp2
      go_loopw [14] (fun s14 wr => ∃ k : Nat, k ≤ n ∧ s14 = .int .i64 k ∧ Drew w8 wr) (fun s14 _ => n - (intOf s14).toNat)
      case atStart => exact ⟨0, Nat.zero_le _, rfl, Drew.refl _⟩
      case round =>
        obtain ⟨k, hk, rfl, hdr⟩ := hrel
        by_cases hlt : k < n
        · obtain ⟨bb, off, rfl, _, hcc⟩ := HA8.out.texts (by omega)
          have c0 := (hdr.below.cell (B := w8.heap.size) (p := ⟨bb, off + k, none⟩) (by assumption)).trans (hcc k hlt)
          have hne := ansL_ne HOK.out t k
          clear hcc
          go_wp2
          go_roundw
          case rel => exact ⟨k + 1, by omega, by go_num, hdr⟩
          case measure => simp [intOf]; omega
        · obtain rfl : k = n := by omega
          have HL9 := Lib.hid (HL8.out.drewed hdr)
          have HX9 := Lib.hid (HX8.out.drewed hdr)
          have HT9 := Lib.hid (HT8.out.below hdr.below (Nat.le_refl _))
          have HA9 := Lib.hid (HA8.out.below hdr.below (Nat.le_refl _))
          have HS9 := Lib.hid (HS8.out.below hdr.below (Nat.le_refl _))
          have HZ9 := Lib.hid (HZ8.out.below hdr.below (Nat.le_refl _))
          have HC9 := Lib.hid (HC8.out.drewed hdr)
          have hxok : x.Ok := by rw [HXL.out]; exact runL_ok HOK.out t k
          have HRQ := Lib.hid (rest_quiet hxok)
          have HYS := Lib.hid (ok_small (rest_quiet hxok).2.1)
          clear hdr HL8 HX8 HT8 HA8 HS8 HZ8 HC8 hxok
          generalize x.line sRest = y at *
          have c1 := HX9.out.cells
          go_wp2_with fail
          refine (impl_BuildLine (v := vx) (b := x) sRest (by decide) HXS.out (Nat.le_refl _) HX9.out.read (HH.out.below HX9.out.o)).mono ?_
          unfold LinePost
          rw [HRQ.out.1]
          generalize ByteArray.mk (x.says sRest).toArray = tr
          rintro e w10 ⟨vr, rfl, ho10, hb10⟩
          have hal := (Below.refl w10.heap.size w10).alloc (Nat.le_refl _) (.cells (bcells vr y) 36)
          have hb := hb10.trans (hal.mono hb10.size)
          have HR10 := Lib.hid (LB.new 36 ho10.read (HL9.out.call hb10).o)
          have HX10 := Lib.hid (HX9.out.call hb)
          have HA10 := Lib.hid (HA9.out.below hb (Nat.le_refl _))
          have HS10 := Lib.hid (HS9.out.below hb (Nat.le_refl _))
          have HZ10 := Lib.hid (HZ9.out.below hb (Nat.le_refl _))
          have HC10 := Lib.hid (HC9.out.call hb)
          clear hb hal hb10 ho10 HX9 HA9 HS9 HZ9 HC9 HL9 HT9 c1
          unfold bcells at HR10 HX10 HA10 HS10 HZ10 HC10
          simp only [bval, bcells]
          have c1 := HR10.out.cells
          go_wp2_with fail
          refine (impl_BuildLine (v := vr) (b := y) sQuiet (by decide) HYS.out (Nat.le_refl _) HR10.out.read (HH.out.below HR10.out.o)).mono ?_
          unfold LinePost
          rw [HRQ.out.2.2]
          generalize y.lined sQuiet = z
          rintro e w11 ⟨vq, rfl, ho11, hb11⟩
          have hal := (Below.refl w11.heap.size w11).alloc (Nat.le_refl _) (.cells (bcells vq z) 36)
          have hb := hb11.trans (hal.mono hb11.size)
          have HX11 := Lib.hid (HX10.out.call hb)
          have HA11 := Lib.hid (HA10.out.below hb (Nat.le_refl _))
          have HS11 := Lib.hid (HS10.out.below hb (Nat.le_refl _))
          have HZ11 := Lib.hid (HZ10.out.below hb (Nat.le_refl _))
          have HC11 := Lib.hid (HC10.out.call hb)
          clear hb hal hb11 ho11 HX10 HA10 HS10 HZ10 HC10 HR10 c1
          unfold bcells at HX11 HA11 HS11 HZ11 HC11
          simp only [bval, bcells]
          have c1 := HX11.out.cells
          have c2 := HC11.out.cells
          go_wp2_with fail
          refine (sameBuild_any (v := vc) (v' := vx) (a := x) (b := x) HXS.out (Nat.le_refl _) (Nat.le_refl _) HC11.out.read HX11.out.read).mono ?_
          rintro e w12 ⟨rfl, hb12⟩
          rw [sameP_refl]
          have hal12 := (Below.refl w12.heap.size w12).alloc (Nat.le_refl _) (.cells #[] 9)
          have HAL := Lib.hid hal12
          have HE := Lib.hid (RowT.emptyAt (g := w12.heap.size) (b.ansL t) rfl (Nat.le_refl w12.heap.size))
          have HO12 := Lib.hid (HX11.out.call hb12).o
          have HA12 := Lib.hid (HA11.out.below hb12 (Nat.le_refl _)).texts
          have HZ12 := Lib.hid (HZ11.out.below hb12 (Nat.le_refl _)).texts
          have HS12 := Lib.hid ((HS11.out.below hb12 (Nat.le_refl _)).texts.below hal12)
          have hn12 := rowT_none HS11.out
          have hn13 := rowT_none HZ11.out
          clear hb12 hal12 HX11 HA11 HS11 HZ11 HC11 c1 c2
          have hsz12 : w12.heap.size ≤ (w12.alloc (.cells #[] 9)).heap.size := by simp
          have HEQ : Hid (eqBt (catT (catT (b.ansL t) 0 (b.ansL t)) k2 (b2.ansL t2)) k (b.ansL t) k = true) := Lib.hid (eqBt_iff.2 ⟨rfl, fun i hi => by
            unfold catT
            split
            · simp
            · rw [HP2.out]
              congr 1
              omega⟩)
          go_wp2_with (
            at_builtin
            first
              | (refine want_append_texts _ rfl _ _ rfl rfl HE.out rfl HS12.out hn12 (by omega) hsz12 ?_
                 intro A20 c20 w13 hr13 hg13
                 rw [Nat.zero_add] at hr13 ⊢
                 have hb13 := HAL.out.trans ((Below.refl w12.heap.size (w12.alloc (.cells #[] 9))).grown hg13 hsz12 (fun b e => HE.out.own b e))
                 have HE2 := Lib.hid hr13
                 have HB13 := Lib.hid hb13
                 have HZ13 := Lib.hid (HZ12.out.below hb13)
                 have hsz13 := hb13.size
                 clear hr13 hg13 hb13 HE HS12 HAL)
              | (refine want_append_texts _ rfl _ _ rfl rfl HE2.out rfl HZ13.out hn13 (by omega) hsz13 ?_
                 intro A21 c21 w14 hr14 hg14
                 rw [hm2] at hr14 ⊢
                 have hb14 := HB13.out.trans ((Below.refl w12.heap.size w13).grown hg14 hsz13 (fun b e => HE2.out.own b e))
                 have HE3 := Lib.hid hr14.texts
                 have HB14 := Lib.hid hb14
                 have HA14 := Lib.hid (HA12.out.below hb14)
                 clear hr14 hg14 hb14 HE2 HB13 HZ13))
          refine (sameTexts_any (by omega) HE3.out HA14.out).mono ?_
          rintro e w15 ⟨rfl, hd15⟩
          rw [HEQ.out]
          have HO15 := Lib.hid ((HO12.out.trans (HB14.out.mono HO12.out.size)).trans (hd15.below (B := w.heap.size)))
          clear hd15 HE3 HA14
          go_wp2
          go_ret
          exact ⟨rfl, HO15.out⟩
  · go_enter Tryz.func3, Tryz.ntmps3
    go_wp2
    go_ret
    exact ⟨rfl, Below.refl _ _⟩
end Go.Proofs.YthkpikkjgggimaaGreatDoor
