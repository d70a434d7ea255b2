/-
  The contract of the program's BuildLine. No claim stands here.
-/
import Derived.Test.YthkpikkjgggimaaGreatDoorRegL
namespace Go.Proofs.YthkpikkjgggimaaGreatDoor
open Go.RowKit
set_option linter.unusedVariables false
set_option linter.unusedSimpArgs false

set_option maxRecDepth 100000 in
set_option maxHeartbeats 6400000 in
theorem impl_BuildLine_no {w : World} {B : Nat} {v : Bv} {b : Bld} (s : ByteArray) (hn : b.Small) (hB : B ≤ w.heap.size) (hr : ReadB w B v b) (hv : b.valid = false) :
    Calls Tryz.prog 15 #[bval v b, .string s] w (LinePost b s w) := by
  have HR := Lib.hid hr
  have HSm := Lib.hid hn
  have HV := Lib.hid hv
  have HE := Lib.hid (lined_no (s := s) hv)
  obtain ⟨m0, m1, m2, m3⟩ := hn
  clear hr hv
  unfold bval bcells LinePost
  go_enter Tryz.func15, Tryz.ntmps15
  go_wp2_with fail
  refine (impl_BuildValid (v := v) (b := b) HSm.out (Nat.le_trans hB (by simp <;> omega)) ((HR.out.alloc hB _).alloc (Nat.le_trans hB (by simp <;> omega)) _)).mono ?_
  rintro e w1 ⟨rfl, hb1⟩
  obtain ⟨x, y, hbb, hs1⟩ := boxes2' hb1
  have HB1 := Lib.hid hbb
  have c1 := y.cells
  have z1 := y.free
  clear hb1 x y hbb
  rw [HV.out]
  go_wp2
  refine bodyPost_ret (v := .tuple #[bval Bv.none Bld.none, .string ⟨#[]⟩]) (by simp [bval, bcells, Bv.none, Bld.none, results, Tryz.results15, go_sem, c1]) rfl ⟨Bv.none, by rw [HE.out.1, HE.out.2], ?_, ?_⟩
  · rw [HE.out.1]
    exact own_none _ _
  · repeat (refine below_set (by simp <;> omega) ?_)
    exact HB1.out
set_option maxRecDepth 100000 in
set_option maxHeartbeats 6400000 in
theorem spec_BuildLine_no {w : World} {B : Nat} {v : Bv} {b : Bld} (s : ByteArray) (hn : b.Small) (hB : B ≤ w.heap.size) (hr : ReadB w B v b) (hv : b.valid = false) :
    Calls Tryz.prog 17 #[bval v b, .string s] w (LinePost b s w) := by
  have HR := Lib.hid hr
  have HSm := Lib.hid hn
  have HV := Lib.hid hv
  have HE := Lib.hid (lined_no (s := s) hv)
  obtain ⟨m0, m1, m2, m3⟩ := hn
  clear hr hv
  unfold bval bcells LinePost
  go_enter Tryz.func17, Tryz.ntmps17
  go_wp2_with fail
  refine (spec_BuildValid (v := v) (b := b) HSm.out (Nat.le_trans hB (by simp <;> omega)) ((HR.out.alloc hB _).alloc (Nat.le_trans hB (by simp <;> omega)) _)).mono ?_
  rintro e w1 ⟨rfl, hb1⟩
  obtain ⟨x, y, hbb, hs1⟩ := boxes2' hb1
  have HB1 := Lib.hid hbb
  have c1 := y.cells
  have z1 := y.free
  clear hb1 x y hbb
  rw [HV.out]
  go_wp2
  refine bodyPost_ret (v := .tuple #[bval Bv.none Bld.none, .string ⟨#[]⟩]) (by simp [bval, bcells, Bv.none, Bld.none, results, Tryz.results17, go_sem, c1]) rfl ⟨Bv.none, by rw [HE.out.1, HE.out.2], ?_, ?_⟩
  · rw [HE.out.1]
    exact own_none _ _
  · repeat (refine below_set (by simp <;> omega) ?_)
    exact HB1.out

set_option maxRecDepth 100000 in
set_option maxHeartbeats 12800000 in
theorem impl_BuildLine_yes {w : World} {B : Nat} {v : Bv} {b : Bld} (s : ByteArray) (hs : s.size ≤ 1048576) (hn : b.Small) (hB : B ≤ w.heap.size) (hr : ReadB w B v b) (hv : b.valid = true) (hh : Here w) :
    Calls Tryz.prog 15 #[bval v b, .string s] w (LinePost b s w) := by
  have hok := valid_iff.1 hv
  have HSZ := Lib.hid hok.sizes
  have HOK := Lib.hid hok
  have HR := Lib.hid hr
  have HSm := Lib.hid hn
  have HV := Lib.hid hv
  have HH := Lib.hid hh
  have HE := Lib.hid (lined_yes (s := s) hv)
  clear hr hn hv hok hh
  unfold LinePost
  rw [HE.out.1, HE.out.2]
  clear HE
  unfold bval bcells
  go_enter Tryz.func15, Tryz.ntmps15
  go_wp2_with fail
  refine (impl_BuildValid (v := v) (b := b) HSm.out (Nat.le_trans hB (by simp <;> omega)) ((HR.out.alloc hB _).alloc (Nat.le_trans hB (by simp <;> omega)) _)).mono ?_
  rintro e w1 ⟨rfl, hb1⟩
  obtain ⟨x, y, hbb, hs1⟩ := boxes2' hb1
  have HX1 := Lib.hid x
  have HY1 := Lib.hid y
  have HB1 := Lib.hid hbb
  have c0 := x.cells
  clear hb1 x y hbb
  rw [HV.out]
  go_wp2_with fail
  refine (copyBuilding_any (v := v) (b := b) (by have := HSZ.out; omega) (by have := HSZ.out; omega) (by have := HSZ.out; omega) (by have := HSZ.out; omega) (by have := HSZ.out; omega) (Nat.le_trans hB HB1.out.size) (HR.out.below (HB1.out.mono hB))).mono ?_
  rintro e w2 ⟨v2, rfl, ho2, hb2⟩
  have x2 := HX1.out.below hb2 HX1.out.lt
  have z2 := x2.free
  have c2 := x2.cells
  have F2 := store_building v2 b x2 (HY1.out.below hb2 HY1.out.lt) (by omega) (HB1.out.trans (hb2.mono HB1.out.size)) (Nat.le_refl _) (ho2.mono (base' := w.heap.size + 2) hs1) (by omega) (Nat.le_trans hs1 hb2.size)
  clear hb2 ho2 x2 c0 HX1 HY1 HB1
  obtain ⟨W3, hW, x3, y3, hb3, ho3, hs3⟩ := F2
  have HX3 := Lib.hid x3
  have HY3 := Lib.hid y3
  have HB3 := Lib.hid hb3
  have HO3 := Lib.hid ho3
  have HW := Lib.hid hW
  have HH3 := Lib.hid (HH.out.below hb3)
  clear x3 y3 hb3 ho3 hW
  simp only [bval, bcells]
  cases h1 : isT s wTick
  · have g1 : (s.toList == [116, 105, 99, 107]) = false := h1
    cases h2 : isT s wBlock
    · have g2 : (s.toList == [98, 108, 111, 99, 107]) = false := h2
      cases h3 : isT s wRest
      · have g3 : (s.toList == [114, 101, 115, 116]) = false := h3
        have HNW : Hid (b.line s = (if callLine s = true then b.ask (kindOf (cutW s)) (wordN (cutR s)) else b) ∧ b.reply s = (if callLine s = true then (if b.askOk (kindOf (cutW s)) (wordN (cutR s)) = true then rOk else rNo) else toldL b s)) := Lib.hid ⟨by simp [Bld.line, h1, h2, h3], by simp [Bld.reply, h1, h2, h3]⟩
        clear h1 h2 h3
        have hcs := (cut_small s).2
        go_wp2_with fail
        refine calls_at HW.out ?_
        refine (Cut_any s hs HH3.out).mono ?_
        rintro e w4 ⟨rfl, hb4⟩
        have HX4 := Lib.hid (HX3.out.below hb4 HX3.out.lt)
        have HY4 := Lib.hid (HY3.out.below hb4 HY3.out.lt)
        have HB4 := Lib.hid (HB3.out.trans (hb4.mono HB3.out.size))
        have HO4 := Lib.hid (ownB_below HO3.out hb4)
        have HH4 := Lib.hid (HH3.out.below hb4)
        have hs4 := Nat.le_trans hs3 hb4.size
        clear hb4 HX3 HY3 HB3 HO3 HW HH3 z2 c2 hs3
        cases hco : cutOk s
        · -- a line without a space
          have HL : Hid (b.line s = b ∧ b.reply s = toldL b s) := Lib.hid (by
            have := HNW.out
            simpa [callLine, hco] using this)
          clear hco HNW
          generalize hbe : b.line s = b' at *
          have HBE := Lib.hid hbe
          clear hbe
          go_wp2_with fail
          rename_i hK
          have HG : Hid (LnG w w.heap.size (w.heap.size + 1) (bcells v2 b) (fun W => OwnB W (w.heap.size + 2) v2 b) w4) := Lib.hid ⟨HX4.out, ⟨_, _, _, _, _, _, _, _, _, _, _, HY4.out⟩, HO4.out, HB4.out, HH4.out⟩
          clear HX4 HY4 HB4 HO4 HH4
          have kp : ∀ U U' : World, Below U.heap.size U U' → OwnB U (w.heap.size + 2) v2 b → OwnB U' (w.heap.size + 2) v2 b := fun U U' hb h => ownB_below h hb
          refine wp_region_any (by kernel_rfl) ?_
          refine wpAny_typed 6 (fun i => (#[42, 43, 44, 45, 1000, 5] : Array Nat).getD i 0) (fun i => i == 4) (LnS (w.heap.size + 1) (bval v2 b) (bcells v2 b) s ⟨(toldL b s).toArray⟩) (fun _ W => LnG w w.heap.size (w.heap.size + 1) (bcells v2 b) (fun W => OwnB W (w.heap.size + 2) v2 b) W) rfl 71 rfl (by kernel_rfl) (HG.out.drewN kp 1) ?_ ?_
          · intro a W U hR hG
            obtain ⟨F, hf, ha⟩ := U.form [false, false, false, false, false, true, false, false, false, false, false, false, false, false, false, false, false, false, false, false, false, false, false, false, false, false, false, false, false, false, false, false, false, false, false, false, false, false, false, false, false, false, true, true, true, true, false, false, false, false, false, false, false, false, false, false, false, false, false, false, false, false, false, false, false, false, false, false, false, false, false] rfl (by decide)
            have hy : Bx W (w.heap.size + 1) (bcells v2 b) := hR 4 (by omega)
            have e2 : a.tmps.getD 5 undef = F 5 := hf 5 (by omega)
            have h6 : a.tmps.getD 5 undef = .string ⟨(toldL b s).toArray⟩ := hR 5 (by omega)
            have h2 : F 5 = .string ⟨(toldL b s).toArray⟩ := e2.symm.trans h6
            simp only [letters, cond_true, cond_false, Nat.reduceAdd, h2] at ha
            obtain ⟨kk, hkk, hg⟩ := hG
            have HY := Lib.hid hy
            have HO := Lib.hid hg.k
            have HB := Lib.hid hg.b
            clear hR hf U hg hy e2 h6 h2 HG kp
            subst ha
            refine hK _ _ ?_
            generalize htx : ByteArray.mk (toldL b s).toArray = tx
            have HTX := Lib.hid htx
            clear htx
            have c1 := HY.out.cells
            unfold bcells at c1
            go_wp2
            refine bodyPost_ret (v := .tuple #[bval v2 b, .string tx]) (by simp [bval, bcells, results, Tryz.results15, go_sem, c1]) rfl ⟨v2, by rw [HBE.out, HL.out.1, HL.out.2, HTX.out]; rfl, ?_, HB.out⟩
            rw [HBE.out, HL.out.1]
            exact HO.out.mono (by omega)
          · intro i' o ho a W k' U hG hk' hd
            have hlt : i' < 6 := (Array.getElem?_eq_some_iff.1 ho).1
            have hu1 := U.other 1 (by decide)
            have hu2 := U.other 2 (by decide)
            have hu4 := U.other 4 (by decide)
            have t1 : a.tmps[1]?.getD undef = .string s := by simpa using hu1
            have t2 : a.tmps[2]?.getD undef = .pointer (some ⟨w.heap.size, 0, none⟩) := by simpa using hu2
            have t4 : a.tmps[4]?.getD undef = .pointer (some ⟨w.heap.size + 1, 0, none⟩) := by simpa using hu4
            rcases (by omega : i' = 0 ∨ i' = 1 ∨ i' = 2 ∨ i' = 3 ∨ i' = 4 ∨ i' = 5) with rfl | rfl | rfl | rfl | rfl | rfl
            all_goals (refine wpOp_of ho (by cases ho; rfl) ?_; cases ho)
            · have c := hG.x0.cells
              unfold bcells at c
              unfold Oper.wp
              simp [go_sem, Act.eval, t2, c]
              exact ⟨hG, fun j v _ h => h, .inl ⟨rfl, _, rfl, rfl⟩⟩
            · have c := hG.x0.cells
              unfold bcells at c
              unfold Oper.wp
              simp [go_sem, Act.eval, t2, c]
              exact ⟨hG, fun j v _ h => h, .inl ⟨rfl, _, rfl, rfl⟩⟩
            · unfold Oper.wp
              simp [go_sem, Act.eval, t1]
              exact ⟨hG, fun j v _ h => h, .inl ⟨rfl, _, rfl, rfl⟩⟩
            · have h0 := hd ⟨1, .data⟩ (by simp) rfl
              have h1 := hd ⟨2, .data⟩ (by simp) rfl
              have u0 : a.tmps[43]?.getD undef = bval v2 b := by simpa [LnS] using h0
              have u1 : a.tmps[44]?.getD undef = .string s := by simpa [LnS] using h1
              unfold Oper.wp
              simp [go_sem, Act.eval, u0, u1]
              refine (impl_told (v := v2) (b := b) s HOK.out HSm.out (Nat.le_refl _) hG.k.read hG.hh).mono ?_
              rintro e w' ⟨rfl, hb'⟩
              exact ⟨hG.below kp hb', fun j v _ h => LnS.below hb' j v h, .inl ⟨rfl, _, rfl, rfl⟩⟩
            · have h0 := hd ⟨0, .data⟩ (by simp) rfl
              have u0 : a.tmps[42]?.getD undef = bval v2 b := by simpa [LnS] using h0
              obtain ⟨hg1, hg2⟩ := hG.stored HH.out (fun U v b h => own_sets h (by omega)) (by omega) (by omega) v2 b
              obtain ⟨a0, a1, a2, a3, a4, a5, a6, a7, a8, a9, a10, hy⟩ := hG.x1
              have c := hy.cells
              have fz := hy.free
              unfold bval bcells at u0
              unfold Oper.wp
              simp [go_sem, Act.eval, t4, u0, c, fz]
              exact ⟨hg1, fun j v hj h => LnS.stored v2 b j v hj h, .inr ⟨rfl, hg2⟩⟩
            · have h0 := hd ⟨3, .data⟩ (by simp) rfl
              generalize htx : ByteArray.mk (toldL b s).toArray = tx at *
              have u0 : a.tmps[45]?.getD undef = .string tx := by simpa [LnS] using h0
              unfold Oper.wp
              simp [go_sem, Act.eval, u0]
              exact ⟨hG, fun j v _ h => h, .inl ⟨rfl, _, rfl, rfl⟩⟩
        · -- a line with a space
          have HTW := Lib.hid (told_what (b := b) hco)
          have HCL : Hid (callLine s = (decide (0 ≤ kindOf (cutW s)) && wordOk (cutR s))) := Lib.hid (by simp [callLine, hco])
          clear hco
          have HKN := Lib.hid (impl_kind (cutW s))
          have HRN := Lib.hid (fun W => impl_readNumber (cutR s) (by omega) W)
          have HCW : Hid (∀ W, ReadB W W.heap.size v2 b → Calls Tryz.prog 51 #[bval v2 b, .int .i64 (kindOf (cutW s)), .int .i64 (wordN (cutR s))] W (CallPost b (kindOf (cutW s)) (wordN (cutR s)) W)) := Lib.hid (fun W h => impl_BuildCall (v := v2) (b := b) (kindOf (cutW s)) (wordN (cutR s)) HSm.out (Nat.le_refl _) h)
          have hwn : 0 ≤ wordN (cutR s) ∧ wordN (cutR s) ≤ 999 := wordN_range _
          clear hcs
          generalize kindOf (cutW s) = kd at *
          generalize wordN (cutR s) = fn at *
          generalize cutW s = cw at *
          go_wp2_with fail
          refine (HKN.out _).mono ?_
          rintro e w5 ⟨rfl, rfl⟩
          go_wp2_with fail
          refine (HRN.out _).mono ?_
          rintro e w5 ⟨rfl, hw5⟩
          subst hw5
          cases hwk : wordOk (cutR s)
          · have HL : Hid (b.line s = b ∧ b.reply s = rWhat) := Lib.hid (by
              have := HNW.out
              rw [HCL.out, hwk, HTW.out] at this
              simpa using this)
            clear hwk HNW HCL HTW
            generalize hbe : b.line s = b' at *
            have HBE := Lib.hid hbe
            clear hbe
            have c0 := HX4.out.cells
            have c1 := HY4.out.cells
            have z1 := HY4.out.free
            unfold bcells at c0
            by_cases hk0 : kd < 0
            all_goals
              go_wp2
              refine bodyPost_ret (v := .tuple #[bval v2 b, .string ⟨#[119, 104, 97, 116]⟩]) (by simp [bval, bcells, results, Tryz.results15, go_sem, c0, c1]) rfl ⟨v2, by rw [HBE.out, HL.out.1, HL.out.2]; rfl, ?_, ?_⟩
              · rw [HBE.out, HL.out.1]
                refine OwnB.mono (base := w.heap.size + 2) ?_ (by omega)
                repeat (refine ownB_set (by simp <;> omega) ?_)
                exact HO4.out
              · repeat (refine below_set (by simp <;> omega) ?_)
                exact HB4.out
          · by_cases hk0 : kd < 0
            · have HL : Hid (b.line s = b ∧ b.reply s = rWhat) := Lib.hid (by
                have := HNW.out
                rw [HCL.out, hwk, HTW.out] at this
                have h0 : ¬ 0 ≤ kd := by omega
                simpa [h0] using this)
              clear hwk HNW HCL HTW
              generalize hbe : b.line s = b' at *
              have HBE := Lib.hid hbe
              clear hbe
              have c0 := HX4.out.cells
              have c1 := HY4.out.cells
              have z1 := HY4.out.free
              unfold bcells at c0
              go_wp2
              refine bodyPost_ret (v := .tuple #[bval v2 b, .string ⟨#[119, 104, 97, 116]⟩]) (by simp [bval, bcells, results, Tryz.results15, go_sem, c0, c1]) rfl ⟨v2, by rw [HBE.out, HL.out.1, HL.out.2]; rfl, ?_, ?_⟩
              · rw [HBE.out, HL.out.1]
                refine OwnB.mono (base := w.heap.size + 2) ?_ (by omega)
                repeat (refine ownB_set (by simp <;> omega) ?_)
                exact HO4.out
              · repeat (refine below_set (by simp <;> omega) ?_)
                exact HB4.out
            · have HL : Hid (b.line s = b.ask kd fn ∧ b.reply s = (if b.askOk kd fn = true then rOk else rNo)) := Lib.hid (by
                have := HNW.out
                rw [HCL.out, hwk] at this
                have h0 : 0 ≤ kd := by omega
                simpa [h0] using this)
              have HE := Lib.hid (called_yes (kind := kd) (fl := fn) HV.out)
              unfold CallPost at HCW
              rw [HE.out.1, HE.out.2, ← HL.out.1] at HCW
              have HNo : Hid (b.askOk kd fn = false → b.line s = b) := Lib.hid (fun h => by rw [HL.out.1, ask_not h])
              clear hwk HNW HCL HTW HE
              generalize hbe : b.line s = b' at *
              have HBE := Lib.hid hbe
              clear hbe
              have c0 := HX4.out.cells
              unfold bcells at c0
              go_wp2_with fail
              refine (HCW.out _ HO4.out.read).mono ?_
              rintro e w5 ⟨v5, rfl, ho5, hb5⟩
              simp only [bval, bcells]
              have HX5 := Lib.hid ((HX4.out.below hb5 HX4.out.lt).alloc (.cells (bcells v5 b') 36))
              have HY5 := Lib.hid ((HY4.out.below hb5 HY4.out.lt).alloc (.cells (bcells v5 b') 36))
              have HB5 := Lib.hid ((HB4.out.trans (hb5.mono HB4.out.size)).alloc (Nat.le_trans HB4.out.size hb5.size) (.cells (bcells v5 b') 36))
              have HO5 := Lib.hid ((ho5.mono (base' := w.heap.size + 2) hs4).below ((Below.refl _ _).alloc (Nat.le_refl _) (.cells (bcells v5 b') 36)) (Nat.le_refl _))
              have HQ5 := Lib.hid ((ownB_below HO4.out hb5).below ((Below.refl _ _).alloc (Nat.le_refl _) (.cells (bcells v5 b') 36)) (Nat.le_refl _))
              have HN5 := Lib.hid (Bx.new w5 (bcells v5 b') 36)
              clear hb5 ho5 c0 HX4 HY4 HB4 HO4 HH4
              unfold bcells at HX5 HY5 HB5 HO5 HQ5 HN5
              have c0 := HX5.out.cells
              have c1 := HY5.out.cells
              have z1 := HY5.out.free
              have c5 := HN5.out.cells
              cases hao : b.askOk kd fn
              · have HR2 : Hid (b.reply s = rNo) := Lib.hid (by rw [HL.out.2, hao]; simp)
                have HBB : Hid (b' = b) := Lib.hid (HNo.out hao)
                clear hao HL HNo
                go_wp2
                refine bodyPost_ret (v := .tuple #[bval v2 b, .string ⟨#[110, 111]⟩]) (by simp [bval, bcells, results, Tryz.results15, go_sem, c0, c1]) rfl ⟨v2, by rw [HBE.out, HBB.out, HR2.out]; rfl, ?_, ?_⟩
                · rw [HBE.out, HBB.out]
                  refine OwnB.mono (base := w.heap.size + 2) ?_ (by omega)
                  repeat (refine ownB_set (by simp <;> omega) ?_)
                  have hq := HQ5.out
                  rw [HBB.out] at hq
                  exact hq
                · repeat (refine below_set (by simp <;> omega) ?_)
                  exact HB5.out
              · have HR2 : Hid (b.reply s = rOk) := Lib.hid (by rw [HL.out.2, hao]; simp)
                clear hao HL HNo
                go_wp2
                refine bodyPost_ret (v := .tuple #[bval v5 b', .string ⟨#[111, 107]⟩]) (by simp [bval, bcells, results, Tryz.results15, go_sem, c5, c1]) rfl ⟨v5, by rw [HBE.out, HR2.out]; rfl, ?_, ?_⟩
                · rw [HBE.out]
                  refine OwnB.mono (base := w.heap.size + 2) ?_ (by omega)
                  repeat (refine ownB_set (by simp <;> omega) ?_)
                  exact HO5.out
                · repeat (refine below_set (by simp <;> omega) ?_)
                  exact HB5.out
      · have g3 : (s.toList == [114, 101, 115, 116]) = true := h3
        have HL : Hid (b.after b.rest = b.line s ∧ b.reply s = Lib.itoa (b.rest : Int) ∧ b.restTicks = (b.rest : Int) ∧ b.rested = b.after b.rest) := Lib.hid ⟨by simp [Bld.line, h1, h2, h3], by simp [Bld.reply, h1, h2, h3], restTicks_yes HV.out, rested_yes HV.out⟩
        have hrb := (rest_bound HOK.out).2
        clear h1 h2 h3
        go_wp2_with fail
        rename_i hK
        refine code_at HW.out ?_
        have HG : Hid (LnG w w.heap.size (w.heap.size + 1) (bcells v2 b) (fun W => OwnB W (w.heap.size + 2) v2 b) W3) := Lib.hid ⟨HX3.out, ⟨_, _, _, _, _, _, _, _, _, _, _, HY3.out⟩, HO3.out, HB3.out, HH3.out⟩
        clear HX3 HY3 HB3 HO3 HW z2 c2
        generalize hrt : b.rest = rt at *
        generalize hbe : b.line s = b' at *
        have HBE := Lib.hid hbe
        clear hbe
        refine wp_region_any (by kernel_rfl) ?_
        refine wpAny_typed 7 (fun i => (#[29, 30, 31, 32, 33, 1000, 5] : Array Nat).getD i 0) (fun i => i == 5) (LnR (w.heap.size + 2) (w.heap.size + 1) (bval v2 b) b' (.int .i64 (rt : Int)) ⟨(Lib.itoa (rt : Int)).toArray⟩) (fun _ W => LnG w w.heap.size (w.heap.size + 1) (bcells v2 b) (fun W => OwnB W (w.heap.size + 2) v2 b) W) rfl 71 rfl (by kernel_rfl) (HG.out.drewN (fun U U' hb h => ownB_below h hb) 1) ?_ ?_
        · intro a W U hR hG
          obtain ⟨F, hf, ha⟩ := U.form [false, false, false, false, false, true, false, false, false, false, false, false, false, false, false, false, false, false, false, false, false, false, false, false, false, false, false, false, false, true, true, true, true, true, false, false, false, false, false, false, false, false, false, false, false, false, false, false, false, false, false, false, false, false, false, false, false, false, false, false, false, false, false, false, false, false, false, false, false, false, false] rfl (by decide)
          obtain ⟨v4, hy, ho4⟩ : ∃ v', Bx W (w.heap.size + 1) (bcells v' b') ∧ OwnB W (w.heap.size + 2) v' b' := hR 5 (by omega)
          have e2 : a.tmps.getD 5 undef = F 5 := hf 6 (by omega)
          have h6 : a.tmps.getD 5 undef = .string ⟨(Lib.itoa (rt : Int)).toArray⟩ := hR 6 (by omega)
          have h2 : F 5 = .string ⟨(Lib.itoa (rt : Int)).toArray⟩ := e2.symm.trans h6
          simp only [letters, cond_true, cond_false, Nat.reduceAdd, h2] at ha
          obtain ⟨kk, hkk, hg⟩ := hG
          have HY := Lib.hid hy
          have HO := Lib.hid ho4
          have HB := Lib.hid hg.b
          clear hR hf U hg hy ho4 e2 h6 h2 HG
          subst ha
          refine hK _ _ ?_
          generalize htx : ByteArray.mk (Lib.itoa (rt : Int)).toArray = tx
          have HTX := Lib.hid htx
          clear htx
          have c1 := HY.out.cells
          unfold bcells at c1
          go_wp2
          refine bodyPost_ret (v := .tuple #[bval v4 b', .string tx]) (by simp [bval, bcells, results, Tryz.results15, go_sem, c1]) rfl ⟨v4, by rw [HL.out.2.1, HBE.out, HTX.out]; rfl, ?_, HB.out⟩
          rw [HBE.out]
          exact HO.out.mono (by omega)
        · intro i' o ho a W k' U hG hk' hd
          have hlt : i' < 7 := (Array.getElem?_eq_some_iff.1 ho).1
          have hu2 := U.other 2 (by decide)
          have hu4 := U.other 4 (by decide)
          have t2 : a.tmps[2]?.getD undef = .pointer (some ⟨w.heap.size, 0, none⟩) := by simpa using hu2
          have t4 : a.tmps[4]?.getD undef = .pointer (some ⟨w.heap.size + 1, 0, none⟩) := by simpa using hu4
          have hsz : w.heap.size + 2 ≤ W.heap.size := by
            have := hG.x0.lt
            obtain ⟨_, _, _, _, _, _, _, _, _, _, _, h⟩ := hG.x1
            have := h.lt
            omega
          have kp : ∀ U U' : World, Below U.heap.size U U' → OwnB U (w.heap.size + 2) v2 b → OwnB U' (w.heap.size + 2) v2 b := fun U U' hb h => ownB_below h hb
          rcases (by omega : i' = 0 ∨ i' = 1 ∨ i' = 2 ∨ i' = 3 ∨ i' = 4 ∨ i' = 5 ∨ i' = 6) with rfl | rfl | rfl | rfl | rfl | rfl | rfl
          all_goals (refine wpOp_of ho (by cases ho; rfl) ?_; cases ho)
          · have c := hG.x0.cells
            unfold bcells at c
            unfold Oper.wp
            simp [go_sem, Act.eval, t2, c]
            exact ⟨hG, fun j v _ h => h, .inl ⟨rfl, _, rfl, rfl⟩⟩
          · have h0 := hd ⟨0, .data⟩ (by simp) rfl
            have u0 : a.tmps[29]?.getD undef = bval v2 b := by simpa [LnR] using h0
            unfold Oper.wp
            simp [go_sem, Act.eval, u0]
            refine (impl_RestEnd (v := v2) (b := b) HSm.out (Nat.le_refl _) hG.k.read).mono ?_
            unfold EndPost
            rw [HL.out.2.2.2, HL.out.1]
            rintro e w' ⟨v', rfl, ho', hb'⟩
            exact ⟨hG.below kp hb', fun j v _ h => LnR.below hb' j v h, .inl ⟨rfl, _, rfl, ⟨v', rfl, ho'.mono hsz⟩⟩⟩
          · have c := hG.x0.cells
            unfold bcells at c
            unfold Oper.wp
            simp [go_sem, Act.eval, t2, c]
            exact ⟨hG, fun j v _ h => h, .inl ⟨rfl, _, rfl, rfl⟩⟩
          · have h0 := hd ⟨2, .data⟩ (by simp) rfl
            have u0 : a.tmps[31]?.getD undef = bval v2 b := by simpa [LnR] using h0
            unfold Oper.wp
            simp [go_sem, Act.eval, u0]
            refine (impl_RestTicks (v := v2) (b := b) HSm.out (Nat.le_refl _) hG.k.read).mono ?_
            rw [HL.out.2.2.1]
            rintro e w' ⟨rfl, hb'⟩
            exact ⟨hG.below kp hb', fun j v _ h => LnR.below hb' j v h, .inl ⟨rfl, _, rfl, rfl⟩⟩
          · have h0 := hd ⟨3, .data⟩ (by simp) rfl
            have u0 : a.tmps[32]?.getD undef = .int .i64 (rt : Int) := by simpa [LnR] using h0
            unfold Oper.wp
            simp [go_sem, Act.eval, u0]
            refine (Itoa_any (rt : Int) (by omega) (by omega) hG.hh).mono ?_
            rintro e w' ⟨rfl, hb'⟩
            exact ⟨hG.below kp hb', fun j v _ h => LnR.below hb' j v h, .inl ⟨rfl, _, rfl, rfl⟩⟩
          · obtain ⟨v', h0, ho'⟩ := hd ⟨1, .data⟩ (by simp) rfl
            have u0 : a.tmps[30]?.getD undef = bval v' b' := by simpa using h0
            obtain ⟨hg1, hg2⟩ := hG.stored HH.out (fun U v b h => own_sets h (by omega)) (by omega) (by omega) v' b'
            obtain ⟨a0, a1, a2, a3, a4, a5, a6, a7, a8, a9, a10, hy⟩ := hG.x1
            have c := hy.cells
            have fz := hy.free
            unfold bval bcells at u0
            unfold Oper.wp
            simp [go_sem, Act.eval, t4, u0, c, fz]
            exact ⟨hg1, fun j v hj h => LnR.stored (by omega) v' b' j v hj h, .inr ⟨rfl, ⟨v', hg2, own_sets ho' (by omega)⟩⟩⟩
          · have h0 := hd ⟨4, .data⟩ (by simp) rfl
            generalize htx : ByteArray.mk (Lib.itoa (rt : Int)).toArray = tx at *
            have u0 : a.tmps[33]?.getD undef = .string tx := by simpa [LnR] using h0
            unfold Oper.wp
            simp [go_sem, Act.eval, u0]
            exact ⟨hG, fun j v _ h => h, .inl ⟨rfl, _, rfl, rfl⟩⟩
    · have g2 : (s.toList == [98, 108, 111, 99, 107]) = true := h2
      have HL : Hid (b.ticked true = b.line s ∧ b.reply s = rOk) := Lib.hid ⟨by rw [ticked_yes HV.out]; simp [Bld.line, h1, h2], by simp [Bld.reply, h1, h2]⟩
      clear h1 h2
      go_wp2_with fail
      refine calls_at HW.out ?_
      refine (impl_BuildTick (v := v2) (b := b) true HSm.out (Nat.le_refl _) HO3.out.read).mono ?_
      unfold TickPost
      rw [HL.out.1]
      rintro e w4 ⟨v4, rfl, ho4, hb4⟩
      have HY4 := Lib.hid (HY3.out.below hb4 HY3.out.lt)
      have HB4 := Lib.hid (HB3.out.trans (hb4.mono HB3.out.size))
      have HO4 := Lib.hid (ho4.mono (base' := w.heap.size + 2) hs3)
      clear ho4 hb4 HX3 HY3 HB3 HO3 HW z2 c2
      generalize hbe : b.line s = b' at *
      have HBE := Lib.hid hbe
      clear hbe
      have c1 := HY4.out.cells
      have z1 := HY4.out.free
      simp only [bval, bcells]
      go_wp2
      refine bodyPost_ret (v := .tuple #[bval v4 b', .string ⟨#[111, 107]⟩]) (by simp [bval, bcells, results, Tryz.results15, go_sem, c1]) rfl ⟨v4, by rw [HL.out.2, HBE.out]; rfl, ?_, ?_⟩
      · rw [HBE.out]
        refine OwnB.mono (base := w.heap.size + 2) ?_ (by omega)
        repeat (refine ownB_set (by simp <;> omega) ?_)
        exact HO4.out
      · repeat (refine below_set (by simp <;> omega) ?_)
        exact HB4.out
  · have g1 : (s.toList == [116, 105, 99, 107]) = true := h1
    have HL : Hid (b.ticked false = b.line s ∧ b.reply s = rOk) := Lib.hid ⟨by rw [ticked_yes HV.out]; simp [Bld.line, h1], by simp [Bld.reply, h1]⟩
    clear h1
    go_wp2_with fail
    refine calls_at HW.out ?_
    refine (impl_BuildTick (v := v2) (b := b) false HSm.out (Nat.le_refl _) HO3.out.read).mono ?_
    unfold TickPost
    rw [HL.out.1]
    rintro e w4 ⟨v4, rfl, ho4, hb4⟩
    have HY4 := Lib.hid (HY3.out.below hb4 HY3.out.lt)
    have HB4 := Lib.hid (HB3.out.trans (hb4.mono HB3.out.size))
    have HO4 := Lib.hid (ho4.mono (base' := w.heap.size + 2) hs3)
    clear ho4 hb4 HX3 HY3 HB3 HO3 HW z2 c2
    generalize hbe : b.line s = b' at *
    have HBE := Lib.hid hbe
    clear hbe
    have c1 := HY4.out.cells
    have z1 := HY4.out.free
    simp only [bval, bcells]
    go_wp2
    refine bodyPost_ret (v := .tuple #[bval v4 b', .string ⟨#[111, 107]⟩]) (by simp [bval, bcells, results, Tryz.results15, go_sem, c1]) rfl ⟨v4, by rw [HL.out.2, HBE.out]; rfl, ?_, ?_⟩
    · rw [HBE.out]
      refine OwnB.mono (base := w.heap.size + 2) ?_ (by omega)
      repeat (refine ownB_set (by simp <;> omega) ?_)
      exact HO4.out
    · repeat (refine below_set (by simp <;> omega) ?_)
      exact HB4.out
end Go.Proofs.YthkpikkjgggimaaGreatDoor
