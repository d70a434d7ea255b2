/-
  The law FnBuildRun: the walk. No claim stands here.
-/
import Derived.Test.YtnbjibkbjdbadaaLawFR
namespace Go.Proofs.Ytnbjibkbjdbadaa
open Go.RowKit
set_option linter.unusedVariables false
set_option linter.unusedSimpArgs false

set_option maxRecDepth 16000 in
set_option maxHeartbeats 51200000 in
theorem law_BuildRun {w : World} {A : Option Addr} {n c : Nat} {h : Nat → Int} (hc : n ≤ c) (hs : Bytes w w.heap.size A n h) :
    Calls Try.prog 8 #[.slice A n c] w fun e w' => e = .returned (.bool true) ∧ Below w.heap.size w w' := by
  by_cases h20 : n ≤ 1048576
  · go_enter Try.func8, Try.ntmps8
    go_wp2_with fail
    refine (DrawBuildRun_any (Nat.le_refl _) hc hs).mono ?_
    rintro e w1 ⟨v, b, a, m, mc, d, rfl, hr1, hu, hm29, hmc, hmx, hdd, hb1⟩
    unfold maxLen at hmx
    have HSm := Lib.hid (hu.small (by omega))
    have HU := Lib.hid hu
    have HL := Lib.hid (LB.new 36 hr1 hb1)
    have HD := Lib.hid (hdd.below ((Below.refl w1.heap.size w1).alloc (Nat.le_refl _) (.cells (bcells v b) 36)))
    clear hr1 hu hb1 hs hdd
    unfold bcells at HL HD
    simp only [bval, bcells]
    have c0 := HL.out.cells
    have HXS := Lib.hid (ran_small HSm.out d m)
    have HSP : Hid (∀ (W : World), ReadB W W.heap.size v b → Deeds W W.heap.size (some ⟨a, 0, none⟩) m d → Calls Try.prog 35 #[bval v b, .slice (some ⟨a, 0, none⟩) m mc] W (RunPost b d m W)) := Lib.hid (fun W h hd => spec_BuildRun HSm.out (Nat.le_refl _) h (by omega) (fun hn => by obtain ⟨b', off, e, hlt, hc⟩ := hd hn; exact ⟨b', off, e, hlt, hc⟩))
    have HIM : Hid (∀ (W : World), ReadB W W.heap.size v b → Deeds W W.heap.size (some ⟨a, 0, none⟩) m d → Calls Try.prog 34 #[bval v b, .slice (some ⟨a, 0, none⟩) m mc] W (RunPost b d m W)) := Lib.hid (fun W h hd => impl_BuildRun HSm.out (Nat.le_refl _) h (by omega) (fun hn => by obtain ⟨b', off, e, hlt, hc⟩ := hd hn; exact ⟨b', off, e, hlt, hc⟩))
    have HFA : Hid (b.valid = false → b.ran d m = Bld.none) := Lib.hid ran_no
    have HFB : Hid (b.valid = true → b.ran d m = b.runN d m) := Lib.hid ran_yes
    unfold RunPost at HSP HIM
    generalize hxx : b.ran d m = x at *
    have HXX := Lib.hid hxx
    clear hxx
    go_wp2_with fail
    refine (HIM.out _ HL.out.read (HD.out.more (Nat.le_of_lt HL.out.lt))).mono ?_
    rintro e w2 ⟨vx, rfl, ho2, hb2⟩
    simp only [bval, bcells]
    have hl1 := HL.out.lt
    have HL2 := Lib.hid ((HL.out.call hb2).alloc (.cells (bcells vx x) 36))
    have HX2 := Lib.hid (LB.new 36 ho2.read (HL.out.call hb2).o)
    have HD2 := Lib.hid ((HD.out.below (hb2.mono (Nat.le_of_lt HL.out.lt))).below (((Below.refl w2.heap.size w2).alloc (Nat.le_refl _) (.cells (bcells vx x) 36)).mono (by have := hb2.size; omega)))
    have hs2 := hb2.size
    clear hb2 HL c0 ho2 HD
    unfold bcells at HL2 HX2 HD2
    have c0 := HL2.out.cells
    have c1 := HX2.out.cells
    have HLd := Lib.hid HL2.out.drew
    have HXd := Lib.hid HX2.out.drew
    have HDd : Hid (Deeds _ w1.heap.size (some ⟨a, 0, none⟩) m d) := Lib.hid (HD2.out.below (below_drewN (Below.refl _ _) 1))
    go_wp2
    go_region_held3 (fun w' => (∀ o, w'.cell? ⟨w1.heap.size, o, none⟩ = (#[.slice v.A b.n v.c, .int .i64 b.pos, .int .i64 b.sp, .int .i64 b.gap, .int .i64 b.hold, .slice v.U b.nu v.cu, .slice v.D b.nd v.cd, .slice v.C b.nc v.cc, .int .i64 b.fl, .int .i64 b.dir, .bool b.op] : Array Value)[o]?) ∧ (∀ o, w'.cell? ⟨w2.heap.size, o, none⟩ = (#[.slice vx.A x.n vx.c, .int .i64 x.pos, .int .i64 x.sp, .int .i64 x.gap, .int .i64 x.hold, .slice vx.U x.nu vx.cu, .slice vx.D x.nd vx.cd, .slice vx.C x.nc vx.cc, .int .i64 x.fl, .int .i64 x.dir, .bool x.op] : Array Value)[o]?)) (first | exact ⟨HLd.out.cells, HXd.out.cells⟩ | exact ⟨HL3.out.cells, HX3.out.cells⟩ | exact ⟨HL4.out.cells, HX4.out.cells⟩) (first
      | (go_at_call 35; refine (HSP.out _ HLd.out.read (HDd.out.more (Nat.le_of_lt HLd.out.lt))).mono ?_; rintro e w3 ⟨vy, rfl, ho3, hb3⟩; simp only [bval, bcells]; have HL3 := Lib.hid (HLd.out.call hb3); have HX3 := Lib.hid (HXd.out.call hb3); have HD3 := Lib.hid (HDd.out.below (hb3.mono (Nat.le_of_lt HLd.out.lt))); have HY3 := Lib.hid ho3.read; clear hb3 ho3)
      | (go_at_call 20; refine (sameBuild_any (v := vx) (v' := vy) (a := x) (b := x) HXS.out (Nat.le_refl _) (Nat.le_refl _) HX3.out.read HY3.out).mono ?_; rintro e w4 ⟨rfl, hb4⟩; rw [sameP_refl]; have HL4 := Lib.hid (HL3.out.call hb4); have HX4 := Lib.hid (HX3.out.call hb4); have HD4 := Lib.hid (HD3.out.below (hb4.mono (Nat.le_of_lt HL3.out.lt))); clear hb4))
    clear HLd HXd HL3 HX3 HY3 HL2 HX2 HD2 HDd HD3 c0 c1
    have c0 := HL4.out.cells
    have c1 := HX4.out.cells
    go_wp2_with fail
    refine (spec_BuildValid (v := v) (b := b) HSm.out (Nat.le_refl _) HL4.out.read).mono ?_
    rintro e w5 ⟨rfl, hb5⟩
    have HL5 := Lib.hid (HL4.out.call hb5)
    have HX5 := Lib.hid (HX4.out.call hb5)
    have HD5 := Lib.hid (HD4.out.below (hb5.mono (Nat.le_of_lt HL4.out.lt)))
    clear hb5 HL4 HX4 HD4 c0 c1
    have c0 := HL5.out.cells
    have c1 := HX5.out.cells
    cases hv : b.valid
    · have he := HFA.out hv
      have HP := Lib.hid (show sameP x Bld.none = true by rw [he]; exact sameP_refl _)
      clear hv he HFA HFB
      go_wp2_with fail
      refine (noBuild_any (v := vx) (b := x) HXS.out (Nat.le_refl _) HX5.out.read).mono ?_
      rintro e w6 ⟨rfl, hb6⟩
      rw [HP.out]
      have HL6 := Lib.hid (HL5.out.call hb6)
      clear hb6 HL5 HX5 c0 c1
      go_wp2_with fail
      refine alive_any.mono ?_
      rintro e w7 ⟨rfl, hb7⟩
      have HL7 := Lib.hid (HL6.out.call hb7)
      clear hb7 HL6
      go_wp2
      go_ret
      exact ⟨rfl, HL7.out.o⟩
    · have HXE := Lib.hid (HFB.out hv)
      have hok := valid_iff.1 hv
      have HOK := Lib.hid hok
      have HXV := Lib.hid (show x.valid = true by rw [HFB.out hv]; exact valid_iff.2 (runN_ok hok d m))
      clear hv hok HFA HFB HSP HIM
      have hn9 : b.n ≤ 9 := HU.out.1
      have hg5 := HX5.out.lt
      have hg3 := HL5.out.lt
      have HL6 := Lib.hid (HL5.out.alloc (.cells (bcells v b) 36))
      have HX6 := Lib.hid (HX5.out.alloc (.cells (bcells v b) 36))
      have HN6 : Hid (BBox (w5.alloc (.cells (bcells v b) 36)) w5.heap.size (bcells v b)) := Lib.hid (by show (w5.heap.push _)[w5.heap.size]? = _; simp)
      have HD6 := Lib.hid (HD5.out.below (((Below.refl w5.heap.size w5).alloc (Nat.le_refl _) (.cells (bcells v b) 36)).mono (Nat.le_of_lt hg3)))
      clear HL5 HX5 HD5
      unfold bcells at HL6 HX6 HN6 HD6
      have HR6 := Lib.hid HL6.out.read
      go_wp2
      go_loopw [7] (fun s7 wr => ∃ (k : Nat) (v' : Bv), s7 = .int .i64 k ∧ k ≤ m ∧ Hid (LB w wr w1.heap.size v b) ∧ Hid (LB w wr w2.heap.size vx x) ∧ Hid (BBox wr w5.heap.size (bcells v' (b.runN d k))) ∧ Hid (ReadB wr wr.heap.size v' (b.runN d k)) ∧ Hid (Deeds wr w1.heap.size (some ⟨a, 0, none⟩) m d)) (fun s7 _ => m - (intOf s7).toNat)
      case atStart => exact ⟨0, v, rfl, by omega, HL6, HX6, HN6, HR6, HD6⟩
      case round =>
        obtain ⟨k, v', rfl, hk, HB, HX, HN, HR, HDk⟩ := hrel
        clear HL6 HX6 HN6 HD6 HR6 c0 c1
        have hgb := HN.out.bx.lt
        by_cases hlt : k < m
        · obtain ⟨s1, s2⟩ := run_says HOK.out d k
          have HONE := Lib.hid (ran_one HOK.out d k (fun i => d (k + i)) (by simp))
          have HSk := Lib.hid (runN_small HSm.out d k)
          have HSn := Lib.hid (runN_small HSm.out d (k + 1))
          have HFL := Lib.hid s2
          clear s2
          generalize hbk : b.runN d k = bk at *
          generalize hbn : b.runN d (k + 1) = bn at *
          have HBN := Lib.hid hbn
          clear hbk hbn
          go_wp2_with fail
          rename_i hK
          refine wp_region_any (by kernel_rfl) ?_
          refine wpAny_typed 9 (fun i => (#[42, 43, 44, 45, 46, 47, 48, 8, 8] : Array Nat).getD i 0) (fun i => i == 8) (DeedLR wr.heap.size a m mc k v' bk bn) (fun _ W => Below wr.heap.size wr W) rfl 111 rfl (by kernel_rfl) (below_drewN (Below.refl _ _) 1) ?_ ?_
          · intro a1 W U hR hG
            obtain ⟨f, hf, ha⟩ := U.form [false, false, false, false, false, false, false, false, true, false, false, false, false, false, false, false, false, false, false, false, false, false, false, false, false, false, false, false, false, false, false, false, false, false, false, false, false, false, false, false, false, false, true, true, true, true, true, true, true, false, false, false, false, false, false, false, false, false, false, false, false, false, false, false, false, false, false, false, false, false, false, false, false, false, false, false, false, false, false, false, false, false, false, false, false, false, false, false, false, false, false, false, false, false, false, false, false, false, false, false, false, false, false, false, false, false, false, false, false, false, false] rfl (by decide)
            obtain ⟨g8, v2, h8, hg8, hb8, ho8⟩ := hR 8 (by omega)
            have e8 : a1.tmps.getD 8 undef = f 8 := hf 8 (by omega)
            have h8' : f 8 = .pointer (some ⟨g8, 0, none⟩) := e8.symm.trans h8
            simp only [letters, cond_true, cond_false, Nat.reduceAdd, h8'] at ha
            obtain ⟨kk, hkk, hg⟩ := hG
            have HBW := Lib.hid hg
            have HB8 := Lib.hid hb8
            have HO8 := Lib.hid ho8
            clear hR hf U h8 e8 h8' hg hb8 ho8
            subst ha
            refine hK _ _ ?_
            have HBm := Lib.hid (HB.out.call HBW.out)
            have HXm := Lib.hid (HX.out.call HBW.out)
            have HNm := Lib.hid (HN.out.below HBW.out)
            have HDm := Lib.hid (HDk.out.below (HBW.out.mono (by omega)))
            have hsW := HBW.out.size
            clear HB HX HN HDk HR HBW
            have HEND : Hid (∀ W2, Below W.heap.size W W2 → LB w (sets W2 (putL w5.heap.size v2 bn)) w1.heap.size v b ∧ LB w (sets W2 (putL w5.heap.size v2 bn)) w2.heap.size vx x ∧ BBox (sets W2 (putL w5.heap.size v2 bn)) w5.heap.size (bcells v2 bn) ∧ ReadB (sets W2 (putL w5.heap.size v2 bn)) (sets W2 (putL w5.heap.size v2 bn)).heap.size v2 bn ∧ Deeds (sets W2 (putL w5.heap.size v2 bn)) w1.heap.size (some ⟨a, 0, none⟩) m d) := Lib.hid (fun W2 h2 =>
              ⟨(HBm.out.call h2).sets _ (fun q hq => by rw [putL_block q hq]; exact hg3), (HXm.out.call h2).sets _ (fun q hq => by rw [putL_block q hq]; exact hg5), (HNm.out.below h2).put v2 bn, (sets_own _ (ownB_below HO8.out h2) (fun q hq => by rw [putL_block q hq]; exact hgb)).read,
                (HDm.out.below (h2.mono (by omega))).below (sets_below _ (Below.refl _ _) (fun q hq => by rw [putL_block q hq]; omega))⟩)
            unfold bcells at HNm HB8
            have c6 := HNm.out.bx.cells
            have f6 := HNm.out.bx.free
            have c8 := HB8.out.bx.cells
            have c0 := HBm.out.cells
            by_cases hsame : bn.pos = bk.pos ∧ bn.sp = bk.sp
            · have hrun : ∀ W : World, (binOp .neq 25 (.agg #[.int .i64 bn.pos, .int .i64 bn.sp]) (.agg #[.int .i64 bk.pos, .int .i64 bk.sp])).run Try.prog W = .ok (.bool false) W := fun W => by rw [neq_motion, hsame.1, hsame.2]; simp
              clear hsame s1
              by_cases hgap : 0 < bn.gap
              · go_wp2_with fail
                refine (impl_FloorAt bn.pos (by omega) HBm.out.read.h).mono ?_
                rintro e w7 ⟨rfl, hd7⟩
                have hfl := HFL.out hgap
                have hb7 : Below W.heap.size W w7 := hd7.below
                have HE := Lib.hid (HEND.out _ hb7)
                have HN7 := Lib.hid (HNm.out.below hb7)
                have HB7 := Lib.hid (HB8.out.below hb7)
                clear c6 f6 c8 c0 hd7 hb7 HEND HBm HXm HNm HDm HB8
                have c6 := HN7.out.bx.cells
                have f6 := HN7.out.bx.free
                have c8 := HB7.out.bx.cells
                generalize floorAtOf b.f b.n bn.pos = fa at *
                go_wp2
                go_roundw
                case rel => exact ⟨k + 1, v2, by go_num, by omega, Lib.hid HE.out.1, Lib.hid HE.out.2.1, by rw [HBN.out]; exact Lib.hid HE.out.2.2.1, by rw [HBN.out]; exact Lib.hid HE.out.2.2.2.1, Lib.hid HE.out.2.2.2.2⟩
                case measure => simp [intOf]; omega
              · have HE := Lib.hid (HEND.out _ (Below.refl _ _))
                go_wp2
                go_roundw
                case rel => exact ⟨k + 1, v2, by go_num, by omega, Lib.hid HE.out.1, Lib.hid HE.out.2.1, by rw [HBN.out]; exact Lib.hid HE.out.2.2.1, by rw [HBN.out]; exact Lib.hid HE.out.2.2.2.1, Lib.hid HE.out.2.2.2.2⟩
                case measure => simp [intOf]; omega
            · obtain ⟨g1, g2⟩ : bn.gap = 0 ∧ bk.gap = 0 := by rcases s1 with h | h; exact absurd h hsame; exact h
              have hneq : (!(bn.pos == bk.pos && bn.sp == bk.sp)) = true := by
                cases h1 : (bn.pos == bk.pos) <;> cases h2 : (bn.sp == bk.sp) <;> simp_all
              have hrun : ∀ W : World, (binOp .neq 25 (.agg #[.int .i64 bn.pos, .int .i64 bn.sp]) (.agg #[.int .i64 bk.pos, .int .i64 bk.sp])).run Try.prog W = .ok (.bool true) W := fun W => by rw [neq_motion, hneq]
              have q1 : ¬ 0 < bn.gap := by omega
              have q2 : ¬ 0 < bk.gap := by omega
              clear hsame s1 hneq g1 g2
              have HE := Lib.hid (HEND.out _ (Below.refl _ _))
              go_wp2
              go_roundw
              case rel => exact ⟨k + 1, v2, by go_num, by omega, Lib.hid HE.out.1, Lib.hid HE.out.2.1, by rw [HBN.out]; exact Lib.hid HE.out.2.2.1, by rw [HBN.out]; exact Lib.hid HE.out.2.2.2.1, Lib.hid HE.out.2.2.2.2⟩
              case measure => simp [intOf]; omega
          · intro i' o ho a1 W k' U hG hk' hd
            have hlt9 : i' < 9 := (Array.getElem?_eq_some_iff.1 ho).1
            have hNW := HN.out.below hG
            have c6 := hNW.bx.cells
            unfold bcells at c6
            have hu6 := U.other 6 (by decide)
            have t6 : a1.tmps[6]?.getD undef = .pointer (some ⟨w5.heap.size, 0, none⟩) := by simpa using hu6
            have hu4 := U.other 4 (by decide)
            have t4 : a1.tmps[4]?.getD undef = .slice (some ⟨a, 0, none⟩) m mc := by simpa using hu4
            have hu7 := U.other 7 (by decide)
            have t7 : a1.tmps[7]?.getD undef = .int .i64 k := by simpa using hu7
            rcases (by omega : i' = 0 ∨ i' = 1 ∨ i' = 2 ∨ i' = 3 ∨ i' = 4 ∨ i' = 5 ∨ i' = 6 ∨ i' = 7 ∨ i' = 8) with rfl | rfl | rfl | rfl | rfl | rfl | rfl | rfl | rfl
            all_goals (refine wpOp_of ho (by cases ho; rfl) ?_; cases ho)
            · unfold Oper.wp
              simp [go_sem, Act.eval, t6, c6]
              exact ⟨hG, fun j v _ h => h, .inl ⟨rfl, _, rfl, rfl⟩⟩
            · unfold Oper.wp
              simp [go_sem, Act.eval, t4]
              exact ⟨hG, fun j v _ h => h, .inl ⟨rfl, _, rfl, rfl⟩⟩
            · unfold Oper.wp
              simp [go_sem, Act.eval, t7]
              exact ⟨hG, fun j v _ h => h, .inl ⟨rfl, _, rfl, rfl⟩⟩
            · unfold Oper.wp
              simp [go_sem, Act.eval, t7]
              exact ⟨hG, fun j v _ h => h, .inl ⟨rfl, _, rfl, rfl⟩⟩
            · have h3 := hd ⟨3, .data⟩ (by simp) rfl
              have t45 : a1.tmps[45]?.getD undef = .int .i64 k := by simpa [DeedLR] using h3
              have hw : IntKind.i64.wrap ((k : Int) + 1) = (k : Int) + 1 := IntWalk.i64_in _ (by omega)
              unfold Oper.wp
              simp [go_sem, Act.eval, t45, hw]
              exact ⟨hG, fun j v _ h => h, .inl ⟨rfl, _, rfl, rfl⟩⟩
            · have h1 := hd ⟨1, .data⟩ (by simp) rfl
              have h2 := hd ⟨2, .data⟩ (by simp) rfl
              have h4 := hd ⟨4, .data⟩ (by simp) rfl
              have t43 : a1.tmps[43]?.getD undef = .slice (some ⟨a, 0, none⟩) m mc := by simpa [DeedLR] using h1
              have t44 : a1.tmps[44]?.getD undef = .int .i64 k := by simpa [DeedLR] using h2
              have t46 : a1.tmps[46]?.getD undef = .int .i64 ((k : Int) + 1) := by simpa [DeedLR] using h4
              unfold Oper.wp
              have q1 : (0 : Int) ≤ (k : Int) + 1 ∧ (k : Int) + 1 ≤ (mc : Int) := by omega
              have q2 : ¬ mc = k := by omega
              simp [go_sem, Act.eval, t43, t44, t46, q1, q2]
              exact ⟨hG, fun j v _ h => h, .inl ⟨rfl, _, rfl, rfl⟩⟩
            · have h0 := hd ⟨0, .data⟩ (by simp) rfl
              have h5 := hd ⟨5, .data⟩ (by simp) rfl
              have t42 : a1.tmps[42]?.getD undef = bval v' bk := by simpa [DeedLR] using h0
              have t47 : a1.tmps[47]?.getD undef = .slice (some ⟨a, k * 3, none⟩) 1 (mc - k) := by simpa [DeedLR] using h5
              have hRW := (HR.out.below hG).more hG.size
              have hDW := (((HDk.out.below (hG.mono (by omega))).part (k := k) (m := 1) (by omega)).more (B' := W.heap.size) (by have := hG.size; omega))
              unfold Oper.wp
              simp [go_sem, Act.eval, t42, t47]
              refine (impl_BuildRun (n := 1) (c := mc - k) (v := v') (b := bk) HSk.out (Nat.le_refl _) hRW (by omega) hDW).mono ?_
              unfold RunPost
              rw [HONE.out]
              rintro e w' ⟨v2, rfl, ho2, hb2⟩
              exact ⟨hG.trans (hb2.mono hG.size), fun j v _ h => DeedLR.below hb2 j v h, .inl ⟨rfl, _, rfl, ⟨v2, rfl, ho2.mono hG.size⟩⟩⟩
            · have hba := (Below.refl W.heap.size W).alloc (Nat.le_refl _) (.cells #[.slice none 0 0, .int .i64 0, .int .i64 0, .int .i64 0, .int .i64 0, .slice none 0 0, .slice none 0 0, .slice none 0 0, .int .i64 0, .int .i64 0, .bool false] 36)
              unfold Oper.wp
              simp [go_sem, Act.eval]
              refine ⟨hG.trans (hba.mono hG.size), fun j v _ h => DeedLR.below hba j v h, .inl ⟨rfl, _, rfl, ⟨W.heap.size, Bv.none, Bld.none, rfl, hG.size, ?_⟩⟩⟩
              show (W.heap.push _)[W.heap.size]? = _
              simp [bcells, Bv.none, Bld.none]
            · obtain ⟨v2, h6, ho6⟩ := hd ⟨6, .data⟩ (by simp) rfl
              obtain ⟨g8, v0, b0, h7, hg8, hb8⟩ := hd ⟨7, .data⟩ (by simp) rfl
              have t8 : a1.tmps[8]?.getD undef = .pointer (some ⟨g8, 0, none⟩) := by simpa using h7
              have t48 : a1.tmps[48]?.getD undef = bval v2 bn := by simpa using h6
              have c8 := hb8.bx.cells
              have f8 := hb8.bx.free
              have K : Hid (TyPost (fun i => [42, 43, 44, 45, 46, 47, 48, 8, 8][i]?.getD 0) (fun i => i == 8) (DeedLR wr.heap.size a m mc k v' bk bn) (fun x W => Below wr.heap.size wr W) 8 k' a1 W a1 (sets W (putL g8 v2 bn))) :=
                Lib.hid ⟨sets_below (putL g8 v2 bn) hG (fun q hq => by rw [putL_block q hq]; exact hg8), DeedLR.stored hb8 hb8, .inr ⟨rfl, ⟨g8, v2, h7, hg8, hb8.put v2 bn, sets_off _ ho6 (fun q hq => by rw [putL_block q hq]; exact off_box hb8 ho6)⟩⟩⟩
              simp only [sets, putL, List.foldl_cons, List.foldl_nil] at K
              unfold bcells at c8
              unfold bval bcells at t48
              unfold Oper.wp
              simp [go_sem, Act.eval, t8, t48, c8, f8]
              exact K.out
        · obtain rfl : k = m := by omega
          obtain ⟨h2, he, hle, hle2⟩ : ∃ h2 : Nat, (k : Int) / 2 = (h2 : Int) ∧ h2 ≤ k ∧ 2 * h2 ≤ k := ⟨k / 2, by omega, by omega, by omega⟩
          rw [← HXE.out] at HN HR
          have HHALF : Hid ((b.ran d h2).ran (fun i => d (h2 + i)) (k - h2) = x) := Lib.hid (by
            rw [ran_yes (valid_iff.2 HOK.out), ran_yes (valid_iff.2 (runN_ok HOK.out d h2)), runN_add, HXE.out]
            congr 1; omega)
          have HHS := Lib.hid (ran_small HSm.out d h2)
          have HC1 : Hid (∀ (W : World), ReadB W W.heap.size v b → Deeds W W.heap.size (some ⟨a, 0, none⟩) k d → Calls Try.prog 34 #[bval v b, .slice (some ⟨a, 0, none⟩) h2 mc] W (RunPost b d h2 W)) := Lib.hid (fun W h hd => impl_BuildRun HSm.out (Nat.le_refl _) h (by omega) (by have := hd.part (k := 0) (m := h2) (by omega); simpa using this))
          unfold RunPost at HC1
          generalize b.ran d h2 = bh at *
          have HC2 : Hid (∀ (W : World) (v3 : Bv) (A2 : Option Addr), ReadB W W.heap.size v3 bh → Deeds W W.heap.size A2 (k - h2) (fun i => d (h2 + i)) → Calls Try.prog 34 #[bval v3 bh, .slice A2 (k - h2) (mc - h2)] W (RunPost bh (fun i => d (h2 + i)) (k - h2) W)) := Lib.hid (fun W v3 A2 h hd => impl_BuildRun HHS.out (Nat.le_refl _) h (by omega) hd)
          unfold RunPost at HC2
          rw [HHALF.out] at HC2
          have q1 : (0 : Int) ≤ (h2 : Int) := by omega
          have q2 : (h2 : Int) ≤ (k : Int) := by omega
          have q3 : (k : Int) ≤ (mc : Int) := by omega
          have q4 : (h2 : Int) ≤ (mc : Int) := by omega
          have HNd : Hid (BBox wr.drew w5.heap.size (bcells v' x)) := Lib.hid HN.out
          have HRd : Hid (ReadB wr.drew wr.drew.heap.size v' x) := Lib.hid (HR.out.drewN 1)
          have HDd : Hid (Deeds wr.drew w1.heap.size (some ⟨a, 0, none⟩) k d) := Lib.hid (HDk.out.below (below_drewN (Below.refl _ _) 1))
          have HBd := Lib.hid HB.out.drew
          have HXd := Lib.hid HX.out.drew
          have c0 := HBd.out.cells
          clear HXE HHALF HN HR HDk
          unfold bcells at HNd
          have hne : mc ≠ h2 ∨ (k = 0 ∧ h2 = 0 ∧ mc = 0) := by omega
          clear c0
          rcases hne with hne | ⟨rfl, rfl, rfl⟩
          · have q5 : ¬ mc = h2 := hne
            go_wp2
            go_region_held3 (fun w' => (∀ o, w'.cell? ⟨w1.heap.size, o, none⟩ = (#[.slice v.A b.n v.c, .int .i64 b.pos, .int .i64 b.sp, .int .i64 b.gap, .int .i64 b.hold, .slice v.U b.nu v.cu, .slice v.D b.nd v.cd, .slice v.C b.nc v.cc, .int .i64 b.fl, .int .i64 b.dir, .bool b.op] : Array Value)[o]?) ∧ (∀ o, w'.cell? ⟨w2.heap.size, o, none⟩ = (#[.slice vx.A x.n vx.c, .int .i64 x.pos, .int .i64 x.sp, .int .i64 x.gap, .int .i64 x.hold, .slice vx.U x.nu vx.cu, .slice vx.D x.nd vx.cd, .slice vx.C x.nc vx.cc, .int .i64 x.fl, .int .i64 x.dir, .bool x.op] : Array Value)[o]?) ∧ (∀ o, w'.cell? ⟨w5.heap.size, o, none⟩ = (#[.slice v'.A x.n v'.c, .int .i64 x.pos, .int .i64 x.sp, .int .i64 x.gap, .int .i64 x.hold, .slice v'.U x.nu v'.cu, .slice v'.D x.nd v'.cd, .slice v'.C x.nc v'.cc, .int .i64 x.fl, .int .i64 x.dir, .bool x.op] : Array Value)[o]?))
              (first | exact ⟨HBd.out.cells, HXd.out.cells, HNd.out.bx.cells⟩ | exact ⟨HB6.out.cells, HX6.out.cells, HN6.out.bx.cells⟩ | exact ⟨HB7.out.cells, HX7.out.cells, HN7.out.bx.cells⟩ | exact ⟨HB8.out.cells, HX8.out.cells, HN8.out.bx.cells⟩ | exact ⟨HB9.out.cells, HX9.out.cells, HN9.out.bx.cells⟩ | exact ⟨HB10.out.cells, HX10.out.cells, HN10.out.bx.cells⟩)
              (first
              | (go_at_call 34; (refine (HC2.out _ v8 (some ⟨a, h2 * 3, none⟩) HV8.out ((HD8.out.part (k := h2) (m := k - h2) (by omega)).more (Nat.le_of_lt HB8.out.lt))).mono ?_); rintro e w9 ⟨v9, rfl, ho9, hb9⟩; simp only [bval, bcells]; have HB9 := Lib.hid (HB8.out.call hb9); have HX9 := Lib.hid (HX8.out.call hb9); have HN9 := Lib.hid (HN8.out.below hb9); have HV9 := Lib.hid ho9.read; clear hb9 ho9)
              | (go_at_call 20; (refine (sameBuild_any (v := v9) (v' := vx) (a := x) (b := x) HXS.out (Nat.le_refl _) (Nat.le_refl _) HV9.out HX9.out.read).mono ?_); rintro e w10 ⟨rfl, hb10⟩; rw [sameP_refl]; have HB10 := Lib.hid (HB9.out.call hb10); have HX10 := Lib.hid (HX9.out.call hb10); have HN10 := Lib.hid (HN9.out.below hb10); clear hb10)
              | (go_at_call 12; (refine (impl_BuildValid (v := vx) (b := x) HXS.out (Nat.le_refl _) HXd.out.read).mono ?_); rintro e w6 ⟨rfl, hb6⟩; rw [HXV.out]; have HB6 := Lib.hid (HBd.out.call hb6); have HX6 := Lib.hid (HXd.out.call hb6); have HN6 := Lib.hid (HNd.out.below hb6); have HR6 := Lib.hid ((HRd.out.below hb6).more hb6.size); have HD6 := Lib.hid (HDd.out.below (hb6.mono (Nat.le_of_lt HBd.out.lt))); clear hb6)
              | (go_at_call 20; (refine (sameBuild_any (v := v') (v' := vx) (a := x) (b := x) HXS.out (Nat.le_refl _) (Nat.le_refl _) HR6.out HX6.out.read).mono ?_); rintro e w7 ⟨rfl, hb7⟩; rw [sameP_refl]; have HB7 := Lib.hid (HB6.out.call hb7); have HX7 := Lib.hid (HX6.out.call hb7); have HN7 := Lib.hid (HN6.out.below hb7); have HD7 := Lib.hid (HD6.out.below (hb7.mono (Nat.le_of_lt HB6.out.lt))); clear hb7)
              | (go_at_call 34; (refine (HC1.out _ HB7.out.read (HD7.out.more (Nat.le_of_lt HB7.out.lt))).mono ?_); rintro e w8 ⟨v8, rfl, ho8, hb8⟩; simp only [bval, bcells]; have HB8 := Lib.hid (HB7.out.call hb8); have HX8 := Lib.hid (HX7.out.call hb8); have HN8 := Lib.hid (HN7.out.below hb8); have HV8 := Lib.hid ho8.read; have HD8 := Lib.hid (HD7.out.below (hb8.mono (Nat.le_of_lt HB7.out.lt))); clear hb8 ho8))
            go_wp2
            go_ret
            exact ⟨rfl, HB10.out.o⟩
          · go_wp2
            go_region_held3 (fun w' => (∀ o, w'.cell? ⟨w1.heap.size, o, none⟩ = (#[.slice v.A b.n v.c, .int .i64 b.pos, .int .i64 b.sp, .int .i64 b.gap, .int .i64 b.hold, .slice v.U b.nu v.cu, .slice v.D b.nd v.cd, .slice v.C b.nc v.cc, .int .i64 b.fl, .int .i64 b.dir, .bool b.op] : Array Value)[o]?) ∧ (∀ o, w'.cell? ⟨w2.heap.size, o, none⟩ = (#[.slice vx.A x.n vx.c, .int .i64 x.pos, .int .i64 x.sp, .int .i64 x.gap, .int .i64 x.hold, .slice vx.U x.nu vx.cu, .slice vx.D x.nd vx.cd, .slice vx.C x.nc vx.cc, .int .i64 x.fl, .int .i64 x.dir, .bool x.op] : Array Value)[o]?) ∧ (∀ o, w'.cell? ⟨w5.heap.size, o, none⟩ = (#[.slice v'.A x.n v'.c, .int .i64 x.pos, .int .i64 x.sp, .int .i64 x.gap, .int .i64 x.hold, .slice v'.U x.nu v'.cu, .slice v'.D x.nd v'.cd, .slice v'.C x.nc v'.cc, .int .i64 x.fl, .int .i64 x.dir, .bool x.op] : Array Value)[o]?))
              (first | exact ⟨HBd.out.cells, HXd.out.cells, HNd.out.bx.cells⟩ | exact ⟨HB6.out.cells, HX6.out.cells, HN6.out.bx.cells⟩ | exact ⟨HB7.out.cells, HX7.out.cells, HN7.out.bx.cells⟩ | exact ⟨HB8.out.cells, HX8.out.cells, HN8.out.bx.cells⟩ | exact ⟨HB9.out.cells, HX9.out.cells, HN9.out.bx.cells⟩ | exact ⟨HB10.out.cells, HX10.out.cells, HN10.out.bx.cells⟩)
              (first
              | (go_at_call 34; (refine (HC2.out _ v8 (some ⟨a, 0, none⟩) HV8.out (fun h => absurd h (by omega))).mono ?_); rintro e w9 ⟨v9, rfl, ho9, hb9⟩; simp only [bval, bcells]; have HB9 := Lib.hid (HB8.out.call hb9); have HX9 := Lib.hid (HX8.out.call hb9); have HN9 := Lib.hid (HN8.out.below hb9); have HV9 := Lib.hid ho9.read; clear hb9 ho9)
              | (go_at_call 20; (refine (sameBuild_any (v := v9) (v' := vx) (a := x) (b := x) HXS.out (Nat.le_refl _) (Nat.le_refl _) HV9.out HX9.out.read).mono ?_); rintro e w10 ⟨rfl, hb10⟩; rw [sameP_refl]; have HB10 := Lib.hid (HB9.out.call hb10); have HX10 := Lib.hid (HX9.out.call hb10); have HN10 := Lib.hid (HN9.out.below hb10); clear hb10)
              | (go_at_call 12; (refine (impl_BuildValid (v := vx) (b := x) HXS.out (Nat.le_refl _) HXd.out.read).mono ?_); rintro e w6 ⟨rfl, hb6⟩; rw [HXV.out]; have HB6 := Lib.hid (HBd.out.call hb6); have HX6 := Lib.hid (HXd.out.call hb6); have HN6 := Lib.hid (HNd.out.below hb6); have HR6 := Lib.hid ((HRd.out.below hb6).more hb6.size); have HD6 := Lib.hid (HDd.out.below (hb6.mono (Nat.le_of_lt HBd.out.lt))); clear hb6)
              | (go_at_call 20; (refine (sameBuild_any (v := v') (v' := vx) (a := x) (b := x) HXS.out (Nat.le_refl _) (Nat.le_refl _) HR6.out HX6.out.read).mono ?_); rintro e w7 ⟨rfl, hb7⟩; rw [sameP_refl]; have HB7 := Lib.hid (HB6.out.call hb7); have HX7 := Lib.hid (HX6.out.call hb7); have HN7 := Lib.hid (HN6.out.below hb7); have HD7 := Lib.hid (HD6.out.below (hb7.mono (Nat.le_of_lt HB6.out.lt))); clear hb7)
              | (go_at_call 34; (refine (HC1.out _ HB7.out.read (HD7.out.more (Nat.le_of_lt HB7.out.lt))).mono ?_); rintro e w8 ⟨v8, rfl, ho8, hb8⟩; simp only [bval, bcells]; have HB8 := Lib.hid (HB7.out.call hb8); have HX8 := Lib.hid (HX7.out.call hb8); have HN8 := Lib.hid (HN7.out.below hb8); have HV8 := Lib.hid ho8.read; have HD8 := Lib.hid (HD7.out.below (hb8.mono (Nat.le_of_lt HB7.out.lt))); clear hb8 ho8))
            go_wp2
            go_ret
            exact ⟨rfl, HB10.out.o⟩
  · go_enter Try.func8, Try.ntmps8
    go_wp2
    go_ret
    exact ⟨rfl, Below.refl _ _⟩
end Go.Proofs.Ytnbjibkbjdbadaa
