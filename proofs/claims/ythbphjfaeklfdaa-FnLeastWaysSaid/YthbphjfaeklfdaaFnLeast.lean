/-
  The law FnLeastWays: the walk. No claim stands here.
-/
import Derived.Test.YthbphjfaeklfdaaFnP
import Derived.Test.YthbphjfaeklfdaaSum
import Derived.Deep.RegionHeld3
namespace Go.Proofs.Ythbphjfaeklfdaa
open Go.RowKit
set_option linter.unusedVariables false
set_option linter.unusedSimpArgs false

/-- make of ints as a run's equation. -/
theorem make_run (n : Nat) (hn : n ≤ 1000000) : ∃ MC : Array Value, (∀ w : World, (Instr.makeSlice 24 (.int .i64 (n : Int)) (.int .i64 (n : Int))).run Try.prog w = .ok (.slice (some ⟨w.heap.size, 0, none⟩) n n) (w.alloc (.cells MC 3))) ∧
    ∀ w : World, Row (w.alloc (.cells MC 3)) w.heap.size (some ⟨w.heap.size, 0, none⟩) n n (fun _ => 0) := by
  obtain ⟨i0, hi, hz0, hz1, hz2⟩ := info_parts Try.infoInt
  refine ⟨madeCells (Value.int .i64 0).cells (n * i0.size), fun w => ?_, fun w => ?_⟩
  · have hr := run_make (P := Try.prog) w 24 3 i0 (.int .i64 0) Try.underlying24 hi hz0 .i64 .i64 n n (by omega) (Int.le_refl _) (by rw [hz2]; omega) (by omega)
    simp only [Int.toNat_natCast] at hr
    exact hr
  · have := World.ownsRow_lit (e := 3) (size := i0.size) (base := w.heap.size) w (madeCells (Value.int .i64 0).cells (n * i0.size)) n (Nat.le_refl _) (by unfold maxLen; omega) (size_madeCells _ _)
    rw [hz1] at this ⊢
    rw [ivals_made] at this
    exact this

set_option maxHeartbeats 3200000 in
theorem law_LeastWays {w : World} {A : Option Addr} {n c : Nat} {h : Nat → Int} (hc : n ≤ c) (hs : Bytes w w.heap.size A n h) :
    Calls Try.prog 10 #[.slice A n c] w fun e w' => e = .returned (.bool true) ∧ Below w.heap.size w w' := by
  by_cases h20 : n ≤ 1048576
  · go_enter Try.func10, Try.ntmps10
    go_wp2_with fail
    refine (DrawLeastWays_any (Nat.le_refl _) hc hs).mono ?_
    rintro e w1 ⟨A1, n1, c1, f, A2, n2, c2, p, r, rfl, hn1, hn2, hr1, hp1, hb1⟩
    have HB1 := Lib.hid hb1
    have HF1 := Lib.hid hr1
    have HP1 := Lib.hid hp1
    have hsz1 := hb1.size
    clear hb1 hr1 hp1
    go_wp2_with fail
    refine (impl_LeastWays r (by omega) (by omega) HF1.out.ints HP1.out.ints).mono ?_
    rintro e w2 ⟨rfl, j2, rfl⟩
    have HB2 := Lib.hid (below_drewN HB1.out j2)
    have HF2 := Lib.hid (HF1.out.drewN j2)
    have HP2 := Lib.hid (HP1.out.drewN j2)
    clear HB1 HF1 HP1
    generalize w1.drewN j2 = w2 at *
    go_wp2_with fail
    refine (spec_LeastWays r (by omega) (by omega) HF2.out.ints HP2.out.ints).mono ?_
    rintro e w3 ⟨rfl, j3, rfl⟩
    have HB3 := Lib.hid (below_drewN HB2.out j3)
    have HF3 := Lib.hid (HF2.out.drewN j3)
    have HP3 := Lib.hid (HP2.out.drewN j3)
    have hsz3 := HB3.out.size
    clear HB2 HF2 HP2
    generalize w2.drewN j3 = w3 at *
    cases hv : peopleB f n1 p n2 r
    · rw [leastOf_no hv]
      clear hv
      go_wp2_with fail
      refine alive_any.mono ?_
      rintro e w4 ⟨rfl, hb4⟩
      have HB4 := Lib.hid (HB3.out.trans (hb4.mono hsz3))
      clear hb4
      go_wp2
      go_ret
      exact ⟨rfl, HB4.out⟩
    · obtain ⟨s1, s2⟩ := leastOf_sign hv
      have HZ := Lib.hid (leastOf_zero hv)
      have hno := leastOf_none hv
      obtain ⟨hf, rfl, hp, r1, r2⟩ := peopleB_iff.1 hv
      obtain ⟨k1, k8, _⟩ := floorsB_iff.1 hf
      have HS : Hid (∀ i, i < n2 → 0 ≤ p i ∧ p i ≤ 1000000) := Lib.hid (fun i hi => ⟨(hp i hi).1, by have := (hp i hi).2; omega⟩)
      have hroom : (r == 8) = true ∨ ((r == 8) = false ∧ leastOf f n2 p n2 (r + 1) ≤ leastOf f n2 p n2 r) := by
        by_cases h8 : r = 8
        · left; simpa using h8
        · right; exact ⟨by simpa using h8, leastOf_room hv h8⟩
      obtain ⟨b, rfl, hbb, hbl⟩ := HP3.out.form (by omega)
      have z0 := HP3.out.cell (k := 0) (by omega)
      have q1 : (0 : Int) < n2 := by omega
      clear hv hf hp k1 k8
      generalize hL : leastOf f n2 p n2 r = L at *
      clear hL
      have HFIN : Hid ((decide (L = 0) == decide (sumTo p n2 = p 0)) = true) := Lib.hid (by
        rcases hno with ⟨e1, e2⟩ | ⟨e1, e2⟩
        · simp [e1, e2]
        · rw [decide_eq_false (show ¬ L = 0 by omega), decide_eq_false e2]; rfl)
      have q0 : 0 < n2 := by omega
      rcases hroom with h8 | ⟨h8, hle⟩
      · -- no greater car
        go_wp2
        refine wp_region_noPanic ?_
        refine wp_region_held_drew (S := fun w' => w'.cell? ⟨b, 0, none⟩ = some (.int .i64 (p 0))) (by kernel_rfl) ?_ (fun hHeld => ?_)
        · exact z0
        refine wpAnyH_take (i := 0) (oi := { dst := some 33, op := Op.move (Operand.tmp 5), type := 3, pos := "laws.go:2501", after := #[], guard := none }) (v := ?va0) rfl (by kernel_rfl) (by kernel_rfl) (by kernel_rfl) ?qa0 (Or.inl ⟨?wa0, ?ya0⟩) hHeld ?ra0
        case qa0 => exact fun _ _ _ h => h
        case wa0 => kernel_rfl
        case ya0 => ((intro w hSw; (try dsimp only at hSw); go_simp) <;> with_reducible rfl)
        try simp only [Act.put, List.setIfInBounds_toArray, List.set_cons_zero, List.set_cons_succ]
        refine wpAnyH_take (i := 1) (oi := { dst := some 34, op := Op.binOp BinOp.eql 3 (Operand.tmp 33) (Operand.const (Value.int IntKind.i64 8)) 3, type := 4, pos := "laws.go:2501", after := #[{ on := 0, ground := Ground.data }], guard := none }) (v := ?va1) rfl (by kernel_rfl) (by kernel_rfl) (by kernel_rfl) ?qa1 (Or.inl ⟨?wa1, ?ya1⟩) hHeld ?ra1
        case qa1 => exact fun _ _ _ h => h
        case wa1 => kernel_rfl
        case ya1 => ((intro w hSw; (try dsimp only at hSw); go_simp) <;> with_reducible rfl)
        try simp only [Act.put, List.setIfInBounds_toArray, List.set_cons_zero, List.set_cons_succ]
        try simp only [h8]
        refine wpAnyH_take (i := 2) (oi := { dst := some 35, op := Op.move (Operand.tmp 34), type := 4, pos := "laws.go:2501", after := #[{ on := 1, ground := Ground.data }], guard := none }) (v := ?va2) rfl (by kernel_rfl) (by kernel_rfl) (by kernel_rfl) ?qa2 (Or.inl ⟨?wa2, ?ya2⟩) hHeld ?ra2
        case qa2 => exact fun _ _ _ h => h
        case wa2 => kernel_rfl
        case ya2 => ((intro w hSw; (try dsimp only at hSw); go_simp) <;> with_reducible rfl)
        try simp only [Act.put, List.setIfInBounds_toArray, List.set_cons_zero, List.set_cons_succ]
        try simp only [h8]
        refine wpAnyH_take (i := 3) (oi := { dst := some 36, op := Op.move (Operand.tmp 3), type := 24, pos := "laws.go:2501", after := #[{ on := 2, ground := Ground.guard }], guard := some (2, false) }) (v := undef) rfl (by kernel_rfl) (by kernel_rfl) (by kernel_rfl) ?qa3 (Or.inr ⟨?ya3, rfl⟩) hHeld ?ra3
        case qa3 => exact fun _ _ _ h => h
        case ya3 => kernel_rfl
        try simp only [Act.put, List.setIfInBounds_toArray, List.set_cons_zero, List.set_cons_succ]
        refine wpAnyH_take (i := 4) (oi := { dst := some 37, op := Op.move (Operand.tmp 4), type := 24, pos := "laws.go:2501", after := #[{ on := 2, ground := Ground.guard }], guard := some (2, false) }) (v := undef) rfl (by kernel_rfl) (by kernel_rfl) (by kernel_rfl) ?qa4 (Or.inr ⟨?ya4, rfl⟩) hHeld ?ra4
        case qa4 => exact fun _ _ _ h => h
        case ya4 => kernel_rfl
        try simp only [Act.put, List.setIfInBounds_toArray, List.set_cons_zero, List.set_cons_succ]
        refine wpAnyH_take (i := 5) (oi := { dst := some 38, op := Op.move (Operand.tmp 5), type := 3, pos := "laws.go:2501", after := #[{ on := 2, ground := Ground.guard }], guard := some (2, false) }) (v := undef) rfl (by kernel_rfl) (by kernel_rfl) (by kernel_rfl) ?qa5 (Or.inr ⟨?ya5, rfl⟩) hHeld ?ra5
        case qa5 => exact fun _ _ _ h => h
        case ya5 => kernel_rfl
        try simp only [Act.put, List.setIfInBounds_toArray, List.set_cons_zero, List.set_cons_succ]
        refine wpAnyH_take (i := 6) (oi := { dst := some 39, op := Op.binOp BinOp.add 3 (Operand.tmp 38) (Operand.const (Value.int IntKind.i64 1)) 3, type := 3, pos := "laws.go:2501", after := #[{ on := 5, ground := Ground.data }, { on := 2, ground := Ground.guard }], guard := some (2, false) }) (v := undef) rfl (by kernel_rfl) (by kernel_rfl) (by kernel_rfl) ?qa6 (Or.inr ⟨?ya6, rfl⟩) hHeld ?ra6
        case qa6 => exact fun _ _ _ h => h
        case ya6 => kernel_rfl
        try simp only [Act.put, List.setIfInBounds_toArray, List.set_cons_zero, List.set_cons_succ]
        refine wpAnyH_take (i := 8) (oi := { dst := some 41, op := Op.move (Operand.tmp 6), type := 3, pos := "laws.go:2501", after := #[{ on := 2, ground := Ground.guard }], guard := some (2, false) }) (v := undef) rfl (by kernel_rfl) (by kernel_rfl) (by kernel_rfl) ?qa8 (Or.inr ⟨?ya8, rfl⟩) hHeld ?ra8
        case qa8 => exact fun _ _ _ h => h
        case ya8 => kernel_rfl
        try simp only [Act.put, List.setIfInBounds_toArray, List.set_cons_zero, List.set_cons_succ]
        refine wpAnyH_take (i := 7) (oi := { dst := some 40, op := Op.call { callee := Callee.value (Operand.func 22), args := #[Operand.tmp 36, Operand.tmp 37, Operand.tmp 39], argTypes := #[24, 24, 3] }, type := 3, pos := "laws.go:2501", after := #[{ on := 3, ground := Ground.data }, { on := 4, ground := Ground.data }, { on := 6, ground := Ground.data }, { on := 2, ground := Ground.chain }, { on := 2, ground := Ground.guard }], guard := some (2, false) }) (v := undef) rfl (by kernel_rfl) (by kernel_rfl) (by kernel_rfl) ?qa7 (Or.inr ⟨?ya7, rfl⟩) hHeld ?ra7
        case qa7 => exact fun _ _ _ h => h
        case ya7 => kernel_rfl
        try simp only [Act.put, List.setIfInBounds_toArray, List.set_cons_zero, List.set_cons_succ]
        refine wpAnyH_take (i := 9) (oi := { dst := some 42, op := Op.binOp BinOp.leq 3 (Operand.tmp 40) (Operand.tmp 41) 3, type := 4, pos := "laws.go:2501", after := #[{ on := 7, ground := Ground.data }, { on := 8, ground := Ground.data }, { on := 2, ground := Ground.guard }], guard := some (2, false) }) (v := undef) rfl (by kernel_rfl) (by kernel_rfl) (by kernel_rfl) ?qa9 (Or.inr ⟨?ya9, rfl⟩) hHeld ?ra9
        case qa9 => exact fun _ _ _ h => h
        case ya9 => kernel_rfl
        try simp only [Act.put, List.setIfInBounds_toArray, List.set_cons_zero, List.set_cons_succ]
        refine wpAnyH_take (i := 10) (oi := { dst := some 43, op := Op.pick (Operand.tmp 35) (Operand.const (Value.bool true)) (Operand.tmp 42), type := 4, pos := "laws.go:2501", after := #[{ on := 2, ground := Ground.data }, { on := 9, ground := Ground.data }], guard := none }) (v := ?va10) rfl (by kernel_rfl) (by kernel_rfl) (by kernel_rfl) ?qa10 (Or.inl ⟨?wa10, ?ya10⟩) hHeld ?ra10
        case qa10 => exact fun _ _ _ h => h
        case wa10 => kernel_rfl
        case ya10 => ((intro w hSw; (try dsimp only at hSw); go_simp) <;> with_reducible rfl)
        try simp only [Act.put, List.setIfInBounds_toArray, List.set_cons_zero, List.set_cons_succ]
        refine wpAnyH_take (i := 11) (oi := { dst := some 44, op := Op.move (Operand.tmp 43), type := 4, pos := "laws.go:2501", after := #[{ on := 10, ground := Ground.data }, { on := 7, ground := Ground.chain }], guard := none }) (v := ?va11) rfl (by kernel_rfl) (by kernel_rfl) (by kernel_rfl) ?qa11 (Or.inl ⟨?wa11, ?ya11⟩) hHeld ?ra11
        case qa11 => exact fun _ _ _ h => h
        case wa11 => kernel_rfl
        case ya11 => ((intro w hSw; (try dsimp only at hSw); go_simp) <;> with_reducible rfl)
        try simp only [Act.put, List.setIfInBounds_toArray, List.set_cons_zero, List.set_cons_succ]
        refine wpAnyH_take (i := 12) (oi := { dst := some 45, op := Op.move (Operand.tmp 3), type := 24, pos := "laws.go:2501", after := #[{ on := 11, ground := Ground.guard }], guard := some (11, true) }) (v := ?va12) rfl (by kernel_rfl) (by kernel_rfl) (by kernel_rfl) ?qa12 (Or.inl ⟨?wa12, ?ya12⟩) hHeld ?ra12
        case qa12 => exact fun _ _ _ h => h
        case wa12 => kernel_rfl
        case ya12 => ((intro w hSw; (try dsimp only at hSw); go_simp) <;> with_reducible rfl)
        try simp only [Act.put, List.setIfInBounds_toArray, List.set_cons_zero, List.set_cons_succ]
        refine wpAnyH_take (i := 13) (oi := { dst := some 46, op := Op.move (Operand.tmp 4), type := 24, pos := "laws.go:2501", after := #[{ on := 11, ground := Ground.guard }], guard := some (11, true) }) (v := ?va13) rfl (by kernel_rfl) (by kernel_rfl) (by kernel_rfl) ?qa13 (Or.inl ⟨?wa13, ?ya13⟩) hHeld ?ra13
        case qa13 => exact fun _ _ _ h => h
        case wa13 => kernel_rfl
        case ya13 => ((intro w hSw; (try dsimp only at hSw); go_simp) <;> with_reducible rfl)
        try simp only [Act.put, List.setIfInBounds_toArray, List.set_cons_zero, List.set_cons_succ]
        refine wpAnyH_take (i := 14) (oi := { dst := some 47, op := Op.call { callee := Callee.builtin Builtin.len, args := #[Operand.tmp 46], argTypes := #[24] }, type := 3, pos := "laws.go:2501", after := #[{ on := 13, ground := Ground.data }, { on := 11, ground := Ground.guard }], guard := some (11, true) }) (v := ?va14) rfl (by kernel_rfl) (by kernel_rfl) (by kernel_rfl) ?qa14 (Or.inl ⟨?wa14, ?ya14⟩) hHeld ?ra14
        case qa14 => exact fun _ _ _ h => h
        case wa14 => kernel_rfl
        case ya14 => ((intro w hSw; (try dsimp only at hSw); go_simp) <;> with_reducible rfl)
        try simp only [Act.put, List.setIfInBounds_toArray, List.set_cons_zero, List.set_cons_succ]
        refine wpAnyH_take (i := 16) (oi := { dst := some 49, op := Op.move (Operand.tmp 5), type := 3, pos := "laws.go:2501", after := #[{ on := 11, ground := Ground.guard }], guard := some (11, true) }) (v := ?va16) rfl (by kernel_rfl) (by kernel_rfl) (by kernel_rfl) ?qa16 (Or.inl ⟨?wa16, ?ya16⟩) hHeld ?ra16
        case qa16 => exact fun _ _ _ h => h
        case wa16 => kernel_rfl
        case ya16 => ((intro w hSw; (try dsimp only at hSw); go_simp) <;> with_reducible rfl)
        try simp only [Act.put, List.setIfInBounds_toArray, List.set_cons_zero, List.set_cons_succ]
        refine wpAnyH_ready (rs := [15]) (by kernel_rfl) (by simp) ?_
        refine AllReadyH.cons (o := { dst := some 48, op := Op.makeSlice 24 (Operand.tmp 47) (Operand.tmp 47), type := 24, pos := "laws.go:2501", after := #[{ on := 14, ground := Ground.data }, { on := 14, ground := Ground.data }, { on := 11, ground := Ground.guard }], guard := some (11, true) }) rfl (fun K hK => ?_) AllReadyH.nil
        refine want_step_make_ints _ (by rfl) _ _ rfl w3.heap.size n2 _ rfl rfl (by rfl) (by omega) (Nat.le_refl _) ?_
        intro w5 hr5 hg5
        have hb5 : Below w3.heap.size w3 w5 := by
          refine Below.grown ?_ hg5 (Nat.le_refl _) (by intro b e; cases e)
          first | exact (Below.refl _ _).drew | exact below_drewN (Below.refl _ _) _ | exact below_drewN (Below.refl _ _).drew _
        have HB5 := Lib.hid hb5
        have HM5 := Lib.hid hr5
        clear hr5 hg5 hb5
        refine hK.out _ _ ?_ (fun hHeld => ?_)
        · exact (HB5.out.cell (p := ⟨b, 0, none⟩) hbl).trans z0
        clear hK K
        try simp only [Act.put, List.setIfInBounds_toArray, List.set_cons_zero, List.set_cons_succ]
        refine wpAnyH_ready (rs := [17]) (by kernel_rfl) (by simp) ?_
        refine AllReadyH.cons (o := { dst := some 50, op := Op.call { callee := Callee.value (Operand.func 22), args := #[Operand.tmp 45, Operand.tmp 48, Operand.tmp 49], argTypes := #[24, 24, 3] }, type := 3, pos := "laws.go:2501", after := #[{ on := 12, ground := Ground.data }, { on := 15, ground := Ground.data }, { on := 16, ground := Ground.data }, { on := 11, ground := Ground.chain }, { on := 11, ground := Ground.guard }], guard := some (11, true) }) rfl (fun K hK => ?_) AllReadyH.nil
        go_simp
        refine (impl_LeastWays (p := fun _ => 0) r (by omega) (by omega) (HF3.out.below HB5.out (Nat.le_refl _)).ints HM5.out.ints).mono ?_
        rintro e w6 ⟨rfl, j6, rfl⟩
        rw [HZ.out]
        go_wp2_with fail
        refine hK.out _ _ ?_ (fun hHeld => ?_)
        · exact (HB5.out.cell (p := ⟨b, 0, none⟩) hbl).trans z0
        clear hK K
        try simp only [Act.put, List.setIfInBounds_toArray, List.set_cons_zero, List.set_cons_succ]
        refine wpAnyH_take (i := 18) (oi := { dst := some 51, op := Op.binOp BinOp.eql 3 (Operand.tmp 50) (Operand.const (Value.int IntKind.i64 0)) 3, type := 4, pos := "laws.go:2501", after := #[{ on := 17, ground := Ground.data }, { on := 11, ground := Ground.guard }], guard := some (11, true) }) (v := ?va18) rfl (by kernel_rfl) (by kernel_rfl) (by kernel_rfl) ?qa18 (Or.inl ⟨?wa18, ?ya18⟩) hHeld ?ra18
        case qa18 => exact fun _ _ _ h => h
        case wa18 => kernel_rfl
        case ya18 => ((intro w hSw; (try dsimp only at hSw); go_simp) <;> with_reducible rfl)
        try simp only [Act.put, List.setIfInBounds_toArray, List.set_cons_zero, List.set_cons_succ]
        refine wpAnyH_take (i := 19) (oi := { dst := some 52, op := Op.pick (Operand.tmp 44) (Operand.tmp 51) (Operand.const (Value.bool false)), type := 4, pos := "laws.go:2501", after := #[{ on := 11, ground := Ground.data }, { on := 18, ground := Ground.data }], guard := none }) (v := ?va19) rfl (by kernel_rfl) (by kernel_rfl) (by kernel_rfl) ?qa19 (Or.inl ⟨?wa19, ?ya19⟩) hHeld ?ra19
        case qa19 => exact fun _ _ _ h => h
        case wa19 => kernel_rfl
        case ya19 => ((intro w hSw; (try dsimp only at hSw); go_simp) <;> with_reducible rfl)
        try simp only [Act.put, List.setIfInBounds_toArray, List.set_cons_zero, List.set_cons_succ]
        refine wpAnyH_take (i := 20) (oi := { dst := some 53, op := Op.move (Operand.tmp 52), type := 4, pos := "laws.go:2501", after := #[{ on := 19, ground := Ground.data }, { on := 17, ground := Ground.chain }], guard := none }) (v := ?va20) rfl (by kernel_rfl) (by kernel_rfl) (by kernel_rfl) ?qa20 (Or.inl ⟨?wa20, ?ya20⟩) hHeld ?ra20
        case qa20 => exact fun _ _ _ h => h
        case wa20 => kernel_rfl
        case ya20 => ((intro w hSw; (try dsimp only at hSw); go_simp) <;> with_reducible rfl)
        try simp only [Act.put, List.setIfInBounds_toArray, List.set_cons_zero, List.set_cons_succ]
        refine wpAnyH_take (i := 21) (oi := { dst := some 54, op := Op.move (Operand.tmp 6), type := 3, pos := "laws.go:2501", after := #[{ on := 20, ground := Ground.guard }], guard := some (20, true) }) (v := ?va21) rfl (by kernel_rfl) (by kernel_rfl) (by kernel_rfl) ?qa21 (Or.inl ⟨?wa21, ?ya21⟩) hHeld ?ra21
        case qa21 => exact fun _ _ _ h => h
        case wa21 => kernel_rfl
        case ya21 => ((intro w hSw; (try dsimp only at hSw); go_simp) <;> with_reducible rfl)
        try simp only [Act.put, List.setIfInBounds_toArray, List.set_cons_zero, List.set_cons_succ]
        refine wpAnyH_take (i := 22) (oi := { dst := some 55, op := Op.binOp BinOp.eql 3 (Operand.tmp 54) (Operand.const (Value.int IntKind.i64 0)) 3, type := 4, pos := "laws.go:2501", after := #[{ on := 21, ground := Ground.data }, { on := 20, ground := Ground.guard }], guard := some (20, true) }) (v := ?va22) rfl (by kernel_rfl) (by kernel_rfl) (by kernel_rfl) ?qa22 (Or.inl ⟨?wa22, ?ya22⟩) hHeld ?ra22
        case qa22 => exact fun _ _ _ h => h
        case wa22 => kernel_rfl
        case ya22 => ((intro w hSw; (try dsimp only at hSw); go_simp) <;> with_reducible rfl)
        try simp only [Act.put, List.setIfInBounds_toArray, List.set_cons_zero, List.set_cons_succ]
        refine wpAnyH_take (i := 23) (oi := { dst := some 56, op := Op.move (Operand.tmp 4), type := 24, pos := "laws.go:2501", after := #[{ on := 20, ground := Ground.guard }], guard := some (20, true) }) (v := ?va23) rfl (by kernel_rfl) (by kernel_rfl) (by kernel_rfl) ?qa23 (Or.inl ⟨?wa23, ?ya23⟩) hHeld ?ra23
        case qa23 => exact fun _ _ _ h => h
        case wa23 => kernel_rfl
        case ya23 => ((intro w hSw; (try dsimp only at hSw); go_simp) <;> with_reducible rfl)
        try simp only [Act.put, List.setIfInBounds_toArray, List.set_cons_zero, List.set_cons_succ]
        refine wpAnyH_take (i := 25) (oi := { dst := some 58, op := Op.move (Operand.tmp 4), type := 24, pos := "laws.go:2501", after := #[{ on := 20, ground := Ground.guard }], guard := some (20, true) }) (v := ?va25) rfl (by kernel_rfl) (by kernel_rfl) (by kernel_rfl) ?qa25 (Or.inl ⟨?wa25, ?ya25⟩) hHeld ?ra25
        case qa25 => exact fun _ _ _ h => h
        case wa25 => kernel_rfl
        case ya25 => ((intro w hSw; (try dsimp only at hSw); go_simp) <;> with_reducible rfl)
        try simp only [Act.put, List.setIfInBounds_toArray, List.set_cons_zero, List.set_cons_succ]
        refine wpAnyH_take (i := 26) (oi := { dst := some 59, op := Op.indexAddr 24 (Operand.tmp 58) (Operand.const (Value.int IntKind.i64 0)), type := 0, pos := "laws.go:2501", after := #[{ on := 25, ground := Ground.data }, { on := 20, ground := Ground.guard }], guard := some (20, true) }) (v := ?va26) rfl (by kernel_rfl) (by kernel_rfl) (by kernel_rfl) ?qa26 (Or.inl ⟨?wa26, ?ya26⟩) hHeld ?ra26
        case qa26 => exact fun _ _ _ h => h
        case wa26 => kernel_rfl
        case ya26 => ((intro w hSw; (try dsimp only at hSw); go_simp) <;> with_reducible rfl)
        try simp only [Act.put, List.setIfInBounds_toArray, List.set_cons_zero, List.set_cons_succ]
        refine wpAnyH_take (i := 27) (oi := { dst := some 60, op := Op.load 3 (Operand.tmp 59), type := 3, pos := "laws.go:2501", after := #[{ on := 26, ground := Ground.data }, { on := 20, ground := Ground.guard }], guard := some (20, true) }) (v := ?va27) rfl (by kernel_rfl) (by kernel_rfl) (by kernel_rfl) ?qa27 (Or.inl ⟨?wa27, ?ya27⟩) hHeld ?ra27
        case qa27 => exact fun _ _ _ h => h
        case wa27 => kernel_rfl
        case ya27 => ((intro w hSw; (try dsimp only at hSw); go_simp) <;> with_reducible rfl)
        try simp only [Act.put, List.setIfInBounds_toArray, List.set_cons_zero, List.set_cons_succ]
        refine wpAnyH_ready (rs := [24]) (by kernel_rfl) (by simp) ?_
        refine AllReadyH.cons (o := { dst := some 57, op := Op.call { callee := Callee.value (Operand.func 29), args := #[Operand.tmp 56], argTypes := #[24] }, type := 3, pos := "laws.go:2501", after := #[{ on := 23, ground := Ground.data }, { on := 20, ground := Ground.chain }, { on := 20, ground := Ground.guard }], guard := some (20, true) }) rfl (fun K hK => ?_) AllReadyH.nil
        go_simp
        refine (sumOf_any HS.out (by omega) (HP3.out.below (below_drewN HB5.out j6) (Nat.le_refl _)).ints).mono ?_
        rintro e w7 ⟨rfl, rfl⟩
        go_wp2_with fail
        refine hK.out _ _ ?_ (fun hHeld => ?_)
        · exact (HB5.out.cell (p := ⟨b, 0, none⟩) hbl).trans z0
        clear hK K
        try simp only [Act.put, List.setIfInBounds_toArray, List.set_cons_zero, List.set_cons_succ]
        refine wpAnyH_take (i := 28) (oi := { dst := some 61, op := Op.binOp BinOp.eql 3 (Operand.tmp 57) (Operand.tmp 60) 3, type := 4, pos := "laws.go:2501", after := #[{ on := 24, ground := Ground.data }, { on := 27, ground := Ground.data }, { on := 20, ground := Ground.guard }], guard := some (20, true) }) (v := ?va28) rfl (by kernel_rfl) (by kernel_rfl) (by kernel_rfl) ?qa28 (Or.inl ⟨?wa28, ?ya28⟩) hHeld ?ra28
        case qa28 => exact fun _ _ _ h => h
        case wa28 => kernel_rfl
        case ya28 => ((intro w hSw; (try dsimp only at hSw); go_simp) <;> with_reducible rfl)
        try simp only [Act.put, List.setIfInBounds_toArray, List.set_cons_zero, List.set_cons_succ]
        refine wpAnyH_take (i := 29) (oi := { dst := some 62, op := Op.binOp BinOp.eql 4 (Operand.tmp 55) (Operand.tmp 61) 4, type := 4, pos := "laws.go:2501", after := #[{ on := 22, ground := Ground.data }, { on := 28, ground := Ground.data }, { on := 20, ground := Ground.guard }], guard := some (20, true) }) (v := ?va29) rfl (by kernel_rfl) (by kernel_rfl) (by kernel_rfl) ?qa29 (Or.inl ⟨?wa29, ?ya29⟩) hHeld ?ra29
        case qa29 => exact fun _ _ _ h => h
        case wa29 => kernel_rfl
        case ya29 => ((intro w hSw; (try dsimp only at hSw); go_simp) <;> with_reducible rfl)
        try simp only [Act.put, List.setIfInBounds_toArray, List.set_cons_zero, List.set_cons_succ]
        refine wpAnyH_take (i := 30) (oi := { dst := some 63, op := Op.pick (Operand.tmp 53) (Operand.tmp 62) (Operand.const (Value.bool false)), type := 4, pos := "laws.go:2501", after := #[{ on := 20, ground := Ground.data }, { on := 29, ground := Ground.data }], guard := none }) (v := ?va30) rfl (by kernel_rfl) (by kernel_rfl) (by kernel_rfl) ?qa30 (Or.inl ⟨?wa30, ?ya30⟩) hHeld ?ra30
        case qa30 => exact fun _ _ _ h => h
        case wa30 => kernel_rfl
        case ya30 => ((intro w hSw; (try dsimp only at hSw); go_simp) <;> with_reducible rfl)
        try simp only [Act.put, List.setIfInBounds_toArray, List.set_cons_zero, List.set_cons_succ]
        refine wpAnyH_take (i := 31) (oi := { dst := some 2, op := Op.assign (Operand.tmp 63), type := 4, pos := "laws.go:2501", after := #[{ on := 30, ground := Ground.data }, { on := 24, ground := Ground.chain }, { on := 0, ground := Ground.phase }, { on := 1, ground := Ground.phase }, { on := 2, ground := Ground.phase }, { on := 3, ground := Ground.phase }, { on := 4, ground := Ground.phase }, { on := 5, ground := Ground.phase }, { on := 6, ground := Ground.phase }, { on := 7, ground := Ground.phase }, { on := 8, ground := Ground.phase }, { on := 9, ground := Ground.phase }, { on := 10, ground := Ground.phase }, { on := 11, ground := Ground.phase }, { on := 12, ground := Ground.phase }, { on := 13, ground := Ground.phase }, { on := 14, ground := Ground.phase }, { on := 15, ground := Ground.phase }, { on := 16, ground := Ground.phase }, { on := 17, ground := Ground.phase }, { on := 18, ground := Ground.phase }, { on := 19, ground := Ground.phase }, { on := 20, ground := Ground.phase }, { on := 21, ground := Ground.phase }, { on := 22, ground := Ground.phase }, { on := 23, ground := Ground.phase }, { on := 24, ground := Ground.phase }, { on := 25, ground := Ground.phase }, { on := 26, ground := Ground.phase }, { on := 27, ground := Ground.phase }, { on := 28, ground := Ground.phase }, { on := 29, ground := Ground.phase }, { on := 30, ground := Ground.phase }], guard := none }) (v := ?va31) rfl (by kernel_rfl) (by kernel_rfl) (by kernel_rfl) ?qa31 (Or.inl ⟨?wa31, ?ya31⟩) hHeld ?ra31
        case qa31 => exact fun _ _ _ h => h
        case wa31 => kernel_rfl
        case ya31 => ((intro w hSw; (try dsimp only at hSw); go_simp) <;> with_reducible rfl)
        try simp only [Act.put, List.setIfInBounds_toArray, List.set_cons_zero, List.set_cons_succ]
        refine wpAnyH_done (by kernel_rfl) ?_ _
        refine NoPanic.normal ?_
        have HB6 := Lib.hid (HB3.out.trans ((below_drewN HB5.out j6).mono hsz3))
        go_wp2
        go_ret
        exact ⟨ret_bool HFIN.out, HB6.out⟩
      · have hw1 : IntKind.i64.wrap (r + 1) = r + 1 := IntWalk.i64_in _ (by omega)
        go_wp2
        refine wp_region_noPanic ?_
        refine wp_region_held_drew (S := fun w' => w'.cell? ⟨b, 0, none⟩ = some (.int .i64 (p 0))) (by kernel_rfl) ?_ (fun hHeld => ?_)
        · exact z0
        refine wpAnyH_take (i := 0) (oi := { dst := some 33, op := Op.move (Operand.tmp 5), type := 3, pos := "laws.go:2501", after := #[], guard := none }) (v := ?vb0) rfl (by kernel_rfl) (by kernel_rfl) (by kernel_rfl) ?qb0 (Or.inl ⟨?wb0, ?yb0⟩) hHeld ?rb0
        case qb0 => exact fun _ _ _ h => h
        case wb0 => kernel_rfl
        case yb0 => ((intro w hSw; (try dsimp only at hSw); go_simp) <;> with_reducible rfl)
        try simp only [Act.put, List.setIfInBounds_toArray, List.set_cons_zero, List.set_cons_succ]
        refine wpAnyH_take (i := 1) (oi := { dst := some 34, op := Op.binOp BinOp.eql 3 (Operand.tmp 33) (Operand.const (Value.int IntKind.i64 8)) 3, type := 4, pos := "laws.go:2501", after := #[{ on := 0, ground := Ground.data }], guard := none }) (v := ?vb1) rfl (by kernel_rfl) (by kernel_rfl) (by kernel_rfl) ?qb1 (Or.inl ⟨?wb1, ?yb1⟩) hHeld ?rb1
        case qb1 => exact fun _ _ _ h => h
        case wb1 => kernel_rfl
        case yb1 => ((intro w hSw; (try dsimp only at hSw); go_simp) <;> with_reducible rfl)
        try simp only [Act.put, List.setIfInBounds_toArray, List.set_cons_zero, List.set_cons_succ]
        try simp only [h8]
        refine wpAnyH_take (i := 2) (oi := { dst := some 35, op := Op.move (Operand.tmp 34), type := 4, pos := "laws.go:2501", after := #[{ on := 1, ground := Ground.data }], guard := none }) (v := ?vb2) rfl (by kernel_rfl) (by kernel_rfl) (by kernel_rfl) ?qb2 (Or.inl ⟨?wb2, ?yb2⟩) hHeld ?rb2
        case qb2 => exact fun _ _ _ h => h
        case wb2 => kernel_rfl
        case yb2 => ((intro w hSw; (try dsimp only at hSw); go_simp) <;> with_reducible rfl)
        try simp only [Act.put, List.setIfInBounds_toArray, List.set_cons_zero, List.set_cons_succ]
        try simp only [h8]
        refine wpAnyH_take (i := 3) (oi := { dst := some 36, op := Op.move (Operand.tmp 3), type := 24, pos := "laws.go:2501", after := #[{ on := 2, ground := Ground.guard }], guard := some (2, false) }) (v := ?vb3) rfl (by kernel_rfl) (by kernel_rfl) (by kernel_rfl) ?qb3 (Or.inl ⟨?wb3, ?yb3⟩) hHeld ?rb3
        case qb3 => exact fun _ _ _ h => h
        case wb3 => kernel_rfl
        case yb3 => ((intro w hSw; (try dsimp only at hSw); go_simp) <;> with_reducible rfl)
        try simp only [Act.put, List.setIfInBounds_toArray, List.set_cons_zero, List.set_cons_succ]
        refine wpAnyH_take (i := 4) (oi := { dst := some 37, op := Op.move (Operand.tmp 4), type := 24, pos := "laws.go:2501", after := #[{ on := 2, ground := Ground.guard }], guard := some (2, false) }) (v := ?vb4) rfl (by kernel_rfl) (by kernel_rfl) (by kernel_rfl) ?qb4 (Or.inl ⟨?wb4, ?yb4⟩) hHeld ?rb4
        case qb4 => exact fun _ _ _ h => h
        case wb4 => kernel_rfl
        case yb4 => ((intro w hSw; (try dsimp only at hSw); go_simp) <;> with_reducible rfl)
        try simp only [Act.put, List.setIfInBounds_toArray, List.set_cons_zero, List.set_cons_succ]
        refine wpAnyH_take (i := 5) (oi := { dst := some 38, op := Op.move (Operand.tmp 5), type := 3, pos := "laws.go:2501", after := #[{ on := 2, ground := Ground.guard }], guard := some (2, false) }) (v := ?vb5) rfl (by kernel_rfl) (by kernel_rfl) (by kernel_rfl) ?qb5 (Or.inl ⟨?wb5, ?yb5⟩) hHeld ?rb5
        case qb5 => exact fun _ _ _ h => h
        case wb5 => kernel_rfl
        case yb5 => ((intro w hSw; (try dsimp only at hSw); go_simp) <;> with_reducible rfl)
        try simp only [Act.put, List.setIfInBounds_toArray, List.set_cons_zero, List.set_cons_succ]
        refine wpAnyH_take (i := 6) (oi := { dst := some 39, op := Op.binOp BinOp.add 3 (Operand.tmp 38) (Operand.const (Value.int IntKind.i64 1)) 3, type := 3, pos := "laws.go:2501", after := #[{ on := 5, ground := Ground.data }, { on := 2, ground := Ground.guard }], guard := some (2, false) }) (v := ?vb6) rfl (by kernel_rfl) (by kernel_rfl) (by kernel_rfl) ?qb6 (Or.inl ⟨?wb6, ?yb6⟩) hHeld ?rb6
        case qb6 => exact fun _ _ _ h => h
        case wb6 => kernel_rfl
        case yb6 => ((intro w hSw; (try dsimp only at hSw); go_simp) <;> with_reducible rfl)
        try simp only [Act.put, List.setIfInBounds_toArray, List.set_cons_zero, List.set_cons_succ]
        refine wpAnyH_take (i := 8) (oi := { dst := some 41, op := Op.move (Operand.tmp 6), type := 3, pos := "laws.go:2501", after := #[{ on := 2, ground := Ground.guard }], guard := some (2, false) }) (v := ?vb8) rfl (by kernel_rfl) (by kernel_rfl) (by kernel_rfl) ?qb8 (Or.inl ⟨?wb8, ?yb8⟩) hHeld ?rb8
        case qb8 => exact fun _ _ _ h => h
        case wb8 => kernel_rfl
        case yb8 => ((intro w hSw; (try dsimp only at hSw); go_simp) <;> with_reducible rfl)
        try simp only [Act.put, List.setIfInBounds_toArray, List.set_cons_zero, List.set_cons_succ]
        refine wpAnyH_ready (rs := [7]) (by kernel_rfl) (by simp) ?_
        refine AllReadyH.cons (o := { dst := some 40, op := Op.call { callee := Callee.value (Operand.func 22), args := #[Operand.tmp 36, Operand.tmp 37, Operand.tmp 39], argTypes := #[24, 24, 3] }, type := 3, pos := "laws.go:2501", after := #[{ on := 3, ground := Ground.data }, { on := 4, ground := Ground.data }, { on := 6, ground := Ground.data }, { on := 2, ground := Ground.chain }, { on := 2, ground := Ground.guard }], guard := some (2, false) }) rfl (fun K hK => ?_) AllReadyH.nil
        go_simp
        with_reducible refine (impl_LeastWays (r + 1) (by omega) (by omega) HF3.out.drew.ints HP3.out.drew.ints).mono ?_
        rintro e w4 ⟨rfl, j4, rfl⟩
        generalize leastOf f n2 p n2 (r + 1) = L2 at *
        go_wp2_with fail
        refine hK.out _ _ ?_ (fun hHeld => ?_)
        · exact z0
        clear hK K
        try simp only [Act.put, List.setIfInBounds_toArray, List.set_cons_zero, List.set_cons_succ]
        refine wpAnyH_take (i := 9) (oi := { dst := some 42, op := Op.binOp BinOp.leq 3 (Operand.tmp 40) (Operand.tmp 41) 3, type := 4, pos := "laws.go:2501", after := #[{ on := 7, ground := Ground.data }, { on := 8, ground := Ground.data }, { on := 2, ground := Ground.guard }], guard := some (2, false) }) (v := ?vb9) rfl (by kernel_rfl) (by kernel_rfl) (by kernel_rfl) ?qb9 (Or.inl ⟨?wb9, ?yb9⟩) hHeld ?rb9
        case qb9 => exact fun _ _ _ h => h
        case wb9 => kernel_rfl
        case yb9 => ((intro w hSw; (try dsimp only at hSw); go_simp) <;> with_reducible rfl)
        try simp only [Act.put, List.setIfInBounds_toArray, List.set_cons_zero, List.set_cons_succ]
        refine wpAnyH_take (i := 10) (oi := { dst := some 43, op := Op.pick (Operand.tmp 35) (Operand.const (Value.bool true)) (Operand.tmp 42), type := 4, pos := "laws.go:2501", after := #[{ on := 2, ground := Ground.data }, { on := 9, ground := Ground.data }], guard := none }) (v := ?vb10) rfl (by kernel_rfl) (by kernel_rfl) (by kernel_rfl) ?qb10 (Or.inl ⟨?wb10, ?yb10⟩) hHeld ?rb10
        case qb10 => exact fun _ _ _ h => h
        case wb10 => kernel_rfl
        case yb10 => ((intro w hSw; (try dsimp only at hSw); go_simp) <;> with_reducible rfl)
        try simp only [Act.put, List.setIfInBounds_toArray, List.set_cons_zero, List.set_cons_succ]
        refine wpAnyH_take (i := 11) (oi := { dst := some 44, op := Op.move (Operand.tmp 43), type := 4, pos := "laws.go:2501", after := #[{ on := 10, ground := Ground.data }, { on := 7, ground := Ground.chain }], guard := none }) (v := ?vb11) rfl (by kernel_rfl) (by kernel_rfl) (by kernel_rfl) ?qb11 (Or.inl ⟨?wb11, ?yb11⟩) hHeld ?rb11
        case qb11 => exact fun _ _ _ h => h
        case wb11 => kernel_rfl
        case yb11 => ((intro w hSw; (try dsimp only at hSw); go_simp) <;> with_reducible rfl)
        try simp only [Act.put, List.setIfInBounds_toArray, List.set_cons_zero, List.set_cons_succ]
        refine wpAnyH_take (i := 12) (oi := { dst := some 45, op := Op.move (Operand.tmp 3), type := 24, pos := "laws.go:2501", after := #[{ on := 11, ground := Ground.guard }], guard := some (11, true) }) (v := ?vb12) rfl (by kernel_rfl) (by kernel_rfl) (by kernel_rfl) ?qb12 (Or.inl ⟨?wb12, ?yb12⟩) hHeld ?rb12
        case qb12 => exact fun _ _ _ h => h
        case wb12 => kernel_rfl
        case yb12 => ((intro w hSw; (try dsimp only at hSw); go_simp) <;> with_reducible rfl)
        try simp only [Act.put, List.setIfInBounds_toArray, List.set_cons_zero, List.set_cons_succ]
        refine wpAnyH_take (i := 13) (oi := { dst := some 46, op := Op.move (Operand.tmp 4), type := 24, pos := "laws.go:2501", after := #[{ on := 11, ground := Ground.guard }], guard := some (11, true) }) (v := ?vb13) rfl (by kernel_rfl) (by kernel_rfl) (by kernel_rfl) ?qb13 (Or.inl ⟨?wb13, ?yb13⟩) hHeld ?rb13
        case qb13 => exact fun _ _ _ h => h
        case wb13 => kernel_rfl
        case yb13 => ((intro w hSw; (try dsimp only at hSw); go_simp) <;> with_reducible rfl)
        try simp only [Act.put, List.setIfInBounds_toArray, List.set_cons_zero, List.set_cons_succ]
        refine wpAnyH_take (i := 14) (oi := { dst := some 47, op := Op.call { callee := Callee.builtin Builtin.len, args := #[Operand.tmp 46], argTypes := #[24] }, type := 3, pos := "laws.go:2501", after := #[{ on := 13, ground := Ground.data }, { on := 11, ground := Ground.guard }], guard := some (11, true) }) (v := ?vb14) rfl (by kernel_rfl) (by kernel_rfl) (by kernel_rfl) ?qb14 (Or.inl ⟨?wb14, ?yb14⟩) hHeld ?rb14
        case qb14 => exact fun _ _ _ h => h
        case wb14 => kernel_rfl
        case yb14 => ((intro w hSw; (try dsimp only at hSw); go_simp) <;> with_reducible rfl)
        try simp only [Act.put, List.setIfInBounds_toArray, List.set_cons_zero, List.set_cons_succ]
        refine wpAnyH_take (i := 16) (oi := { dst := some 49, op := Op.move (Operand.tmp 5), type := 3, pos := "laws.go:2501", after := #[{ on := 11, ground := Ground.guard }], guard := some (11, true) }) (v := ?vb16) rfl (by kernel_rfl) (by kernel_rfl) (by kernel_rfl) ?qb16 (Or.inl ⟨?wb16, ?yb16⟩) hHeld ?rb16
        case qb16 => exact fun _ _ _ h => h
        case wb16 => kernel_rfl
        case yb16 => ((intro w hSw; (try dsimp only at hSw); go_simp) <;> with_reducible rfl)
        try simp only [Act.put, List.setIfInBounds_toArray, List.set_cons_zero, List.set_cons_succ]
        refine wpAnyH_ready (rs := [15]) (by kernel_rfl) (by simp) ?_
        refine AllReadyH.cons (o := { dst := some 48, op := Op.makeSlice 24 (Operand.tmp 47) (Operand.tmp 47), type := 24, pos := "laws.go:2501", after := #[{ on := 14, ground := Ground.data }, { on := 14, ground := Ground.data }, { on := 11, ground := Ground.guard }], guard := some (11, true) }) rfl (fun K hK => ?_) AllReadyH.nil
        refine want_step_make_ints _ (by rfl) _ _ rfl w3.heap.size n2 _ rfl rfl (by rfl) (by omega) (Nat.le_refl _) ?_
        intro w5 hr5 hg5
        have hb5 : Below w3.heap.size w3 w5 := by
          refine Below.grown ?_ hg5 (Nat.le_refl _) (by intro b e; cases e)
          first | exact (Below.refl _ _).drew | exact below_drewN (Below.refl _ _) _ | exact below_drewN (Below.refl _ _).drew _
        have HB5 := Lib.hid hb5
        have HM5 := Lib.hid hr5
        clear hr5 hg5 hb5
        refine hK.out _ _ ?_ (fun hHeld => ?_)
        · exact (HB5.out.cell (p := ⟨b, 0, none⟩) hbl).trans z0
        clear hK K
        try simp only [Act.put, List.setIfInBounds_toArray, List.set_cons_zero, List.set_cons_succ]
        refine wpAnyH_ready (rs := [17]) (by kernel_rfl) (by simp) ?_
        refine AllReadyH.cons (o := { dst := some 50, op := Op.call { callee := Callee.value (Operand.func 22), args := #[Operand.tmp 45, Operand.tmp 48, Operand.tmp 49], argTypes := #[24, 24, 3] }, type := 3, pos := "laws.go:2501", after := #[{ on := 12, ground := Ground.data }, { on := 15, ground := Ground.data }, { on := 16, ground := Ground.data }, { on := 11, ground := Ground.chain }, { on := 11, ground := Ground.guard }], guard := some (11, true) }) rfl (fun K hK => ?_) AllReadyH.nil
        go_simp
        refine (impl_LeastWays (p := fun _ => 0) r (by omega) (by omega) (HF3.out.below HB5.out (Nat.le_refl _)).ints HM5.out.ints).mono ?_
        rintro e w6 ⟨rfl, j6, rfl⟩
        rw [HZ.out]
        go_wp2_with fail
        refine hK.out _ _ ?_ (fun hHeld => ?_)
        · exact (HB5.out.cell (p := ⟨b, 0, none⟩) hbl).trans z0
        clear hK K
        try simp only [Act.put, List.setIfInBounds_toArray, List.set_cons_zero, List.set_cons_succ]
        refine wpAnyH_take (i := 18) (oi := { dst := some 51, op := Op.binOp BinOp.eql 3 (Operand.tmp 50) (Operand.const (Value.int IntKind.i64 0)) 3, type := 4, pos := "laws.go:2501", after := #[{ on := 17, ground := Ground.data }, { on := 11, ground := Ground.guard }], guard := some (11, true) }) (v := ?vb18) rfl (by kernel_rfl) (by kernel_rfl) (by kernel_rfl) ?qb18 (Or.inl ⟨?wb18, ?yb18⟩) hHeld ?rb18
        case qb18 => exact fun _ _ _ h => h
        case wb18 => kernel_rfl
        case yb18 => ((intro w hSw; (try dsimp only at hSw); go_simp) <;> with_reducible rfl)
        try simp only [Act.put, List.setIfInBounds_toArray, List.set_cons_zero, List.set_cons_succ]
        refine wpAnyH_take (i := 19) (oi := { dst := some 52, op := Op.pick (Operand.tmp 44) (Operand.tmp 51) (Operand.const (Value.bool false)), type := 4, pos := "laws.go:2501", after := #[{ on := 11, ground := Ground.data }, { on := 18, ground := Ground.data }], guard := none }) (v := ?vb19) rfl (by kernel_rfl) (by kernel_rfl) (by kernel_rfl) ?qb19 (Or.inl ⟨?wb19, ?yb19⟩) hHeld ?rb19
        case qb19 => exact fun _ _ _ h => h
        case wb19 => kernel_rfl
        case yb19 => ((intro w hSw; (try dsimp only at hSw); go_simp) <;> with_reducible rfl)
        try simp only [Act.put, List.setIfInBounds_toArray, List.set_cons_zero, List.set_cons_succ]
        refine wpAnyH_take (i := 20) (oi := { dst := some 53, op := Op.move (Operand.tmp 52), type := 4, pos := "laws.go:2501", after := #[{ on := 19, ground := Ground.data }, { on := 17, ground := Ground.chain }], guard := none }) (v := ?vb20) rfl (by kernel_rfl) (by kernel_rfl) (by kernel_rfl) ?qb20 (Or.inl ⟨?wb20, ?yb20⟩) hHeld ?rb20
        case qb20 => exact fun _ _ _ h => h
        case wb20 => kernel_rfl
        case yb20 => ((intro w hSw; (try dsimp only at hSw); go_simp) <;> with_reducible rfl)
        try simp only [Act.put, List.setIfInBounds_toArray, List.set_cons_zero, List.set_cons_succ]
        refine wpAnyH_take (i := 21) (oi := { dst := some 54, op := Op.move (Operand.tmp 6), type := 3, pos := "laws.go:2501", after := #[{ on := 20, ground := Ground.guard }], guard := some (20, true) }) (v := ?vb21) rfl (by kernel_rfl) (by kernel_rfl) (by kernel_rfl) ?qb21 (Or.inl ⟨?wb21, ?yb21⟩) hHeld ?rb21
        case qb21 => exact fun _ _ _ h => h
        case wb21 => kernel_rfl
        case yb21 => ((intro w hSw; (try dsimp only at hSw); go_simp) <;> with_reducible rfl)
        try simp only [Act.put, List.setIfInBounds_toArray, List.set_cons_zero, List.set_cons_succ]
        refine wpAnyH_take (i := 22) (oi := { dst := some 55, op := Op.binOp BinOp.eql 3 (Operand.tmp 54) (Operand.const (Value.int IntKind.i64 0)) 3, type := 4, pos := "laws.go:2501", after := #[{ on := 21, ground := Ground.data }, { on := 20, ground := Ground.guard }], guard := some (20, true) }) (v := ?vb22) rfl (by kernel_rfl) (by kernel_rfl) (by kernel_rfl) ?qb22 (Or.inl ⟨?wb22, ?yb22⟩) hHeld ?rb22
        case qb22 => exact fun _ _ _ h => h
        case wb22 => kernel_rfl
        case yb22 => ((intro w hSw; (try dsimp only at hSw); go_simp) <;> with_reducible rfl)
        try simp only [Act.put, List.setIfInBounds_toArray, List.set_cons_zero, List.set_cons_succ]
        refine wpAnyH_take (i := 23) (oi := { dst := some 56, op := Op.move (Operand.tmp 4), type := 24, pos := "laws.go:2501", after := #[{ on := 20, ground := Ground.guard }], guard := some (20, true) }) (v := ?vb23) rfl (by kernel_rfl) (by kernel_rfl) (by kernel_rfl) ?qb23 (Or.inl ⟨?wb23, ?yb23⟩) hHeld ?rb23
        case qb23 => exact fun _ _ _ h => h
        case wb23 => kernel_rfl
        case yb23 => ((intro w hSw; (try dsimp only at hSw); go_simp) <;> with_reducible rfl)
        try simp only [Act.put, List.setIfInBounds_toArray, List.set_cons_zero, List.set_cons_succ]
        refine wpAnyH_take (i := 25) (oi := { dst := some 58, op := Op.move (Operand.tmp 4), type := 24, pos := "laws.go:2501", after := #[{ on := 20, ground := Ground.guard }], guard := some (20, true) }) (v := ?vb25) rfl (by kernel_rfl) (by kernel_rfl) (by kernel_rfl) ?qb25 (Or.inl ⟨?wb25, ?yb25⟩) hHeld ?rb25
        case qb25 => exact fun _ _ _ h => h
        case wb25 => kernel_rfl
        case yb25 => ((intro w hSw; (try dsimp only at hSw); go_simp) <;> with_reducible rfl)
        try simp only [Act.put, List.setIfInBounds_toArray, List.set_cons_zero, List.set_cons_succ]
        refine wpAnyH_take (i := 26) (oi := { dst := some 59, op := Op.indexAddr 24 (Operand.tmp 58) (Operand.const (Value.int IntKind.i64 0)), type := 0, pos := "laws.go:2501", after := #[{ on := 25, ground := Ground.data }, { on := 20, ground := Ground.guard }], guard := some (20, true) }) (v := ?vb26) rfl (by kernel_rfl) (by kernel_rfl) (by kernel_rfl) ?qb26 (Or.inl ⟨?wb26, ?yb26⟩) hHeld ?rb26
        case qb26 => exact fun _ _ _ h => h
        case wb26 => kernel_rfl
        case yb26 => ((intro w hSw; (try dsimp only at hSw); go_simp) <;> with_reducible rfl)
        try simp only [Act.put, List.setIfInBounds_toArray, List.set_cons_zero, List.set_cons_succ]
        refine wpAnyH_take (i := 27) (oi := { dst := some 60, op := Op.load 3 (Operand.tmp 59), type := 3, pos := "laws.go:2501", after := #[{ on := 26, ground := Ground.data }, { on := 20, ground := Ground.guard }], guard := some (20, true) }) (v := ?vb27) rfl (by kernel_rfl) (by kernel_rfl) (by kernel_rfl) ?qb27 (Or.inl ⟨?wb27, ?yb27⟩) hHeld ?rb27
        case qb27 => exact fun _ _ _ h => h
        case wb27 => kernel_rfl
        case yb27 => ((intro w hSw; (try dsimp only at hSw); go_simp) <;> with_reducible rfl)
        try simp only [Act.put, List.setIfInBounds_toArray, List.set_cons_zero, List.set_cons_succ]
        refine wpAnyH_ready (rs := [24]) (by kernel_rfl) (by simp) ?_
        refine AllReadyH.cons (o := { dst := some 57, op := Op.call { callee := Callee.value (Operand.func 29), args := #[Operand.tmp 56], argTypes := #[24] }, type := 3, pos := "laws.go:2501", after := #[{ on := 23, ground := Ground.data }, { on := 20, ground := Ground.chain }, { on := 20, ground := Ground.guard }], guard := some (20, true) }) rfl (fun K hK => ?_) AllReadyH.nil
        go_simp
        refine (sumOf_any HS.out (by omega) (HP3.out.below (below_drewN HB5.out j6) (Nat.le_refl _)).ints).mono ?_
        rintro e w7 ⟨rfl, rfl⟩
        go_wp2_with fail
        refine hK.out _ _ ?_ (fun hHeld => ?_)
        · exact (HB5.out.cell (p := ⟨b, 0, none⟩) hbl).trans z0
        clear hK K
        try simp only [Act.put, List.setIfInBounds_toArray, List.set_cons_zero, List.set_cons_succ]
        refine wpAnyH_take (i := 28) (oi := { dst := some 61, op := Op.binOp BinOp.eql 3 (Operand.tmp 57) (Operand.tmp 60) 3, type := 4, pos := "laws.go:2501", after := #[{ on := 24, ground := Ground.data }, { on := 27, ground := Ground.data }, { on := 20, ground := Ground.guard }], guard := some (20, true) }) (v := ?vb28) rfl (by kernel_rfl) (by kernel_rfl) (by kernel_rfl) ?qb28 (Or.inl ⟨?wb28, ?yb28⟩) hHeld ?rb28
        case qb28 => exact fun _ _ _ h => h
        case wb28 => kernel_rfl
        case yb28 => ((intro w hSw; (try dsimp only at hSw); go_simp) <;> with_reducible rfl)
        try simp only [Act.put, List.setIfInBounds_toArray, List.set_cons_zero, List.set_cons_succ]
        refine wpAnyH_take (i := 29) (oi := { dst := some 62, op := Op.binOp BinOp.eql 4 (Operand.tmp 55) (Operand.tmp 61) 4, type := 4, pos := "laws.go:2501", after := #[{ on := 22, ground := Ground.data }, { on := 28, ground := Ground.data }, { on := 20, ground := Ground.guard }], guard := some (20, true) }) (v := ?vb29) rfl (by kernel_rfl) (by kernel_rfl) (by kernel_rfl) ?qb29 (Or.inl ⟨?wb29, ?yb29⟩) hHeld ?rb29
        case qb29 => exact fun _ _ _ h => h
        case wb29 => kernel_rfl
        case yb29 => ((intro w hSw; (try dsimp only at hSw); go_simp) <;> with_reducible rfl)
        try simp only [Act.put, List.setIfInBounds_toArray, List.set_cons_zero, List.set_cons_succ]
        refine wpAnyH_take (i := 30) (oi := { dst := some 63, op := Op.pick (Operand.tmp 53) (Operand.tmp 62) (Operand.const (Value.bool false)), type := 4, pos := "laws.go:2501", after := #[{ on := 20, ground := Ground.data }, { on := 29, ground := Ground.data }], guard := none }) (v := ?vb30) rfl (by kernel_rfl) (by kernel_rfl) (by kernel_rfl) ?qb30 (Or.inl ⟨?wb30, ?yb30⟩) hHeld ?rb30
        case qb30 => exact fun _ _ _ h => h
        case wb30 => kernel_rfl
        case yb30 => ((intro w hSw; (try dsimp only at hSw); go_simp) <;> with_reducible rfl)
        try simp only [Act.put, List.setIfInBounds_toArray, List.set_cons_zero, List.set_cons_succ]
        refine wpAnyH_take (i := 31) (oi := { dst := some 2, op := Op.assign (Operand.tmp 63), type := 4, pos := "laws.go:2501", after := #[{ on := 30, ground := Ground.data }, { on := 24, ground := Ground.chain }, { on := 0, ground := Ground.phase }, { on := 1, ground := Ground.phase }, { on := 2, ground := Ground.phase }, { on := 3, ground := Ground.phase }, { on := 4, ground := Ground.phase }, { on := 5, ground := Ground.phase }, { on := 6, ground := Ground.phase }, { on := 7, ground := Ground.phase }, { on := 8, ground := Ground.phase }, { on := 9, ground := Ground.phase }, { on := 10, ground := Ground.phase }, { on := 11, ground := Ground.phase }, { on := 12, ground := Ground.phase }, { on := 13, ground := Ground.phase }, { on := 14, ground := Ground.phase }, { on := 15, ground := Ground.phase }, { on := 16, ground := Ground.phase }, { on := 17, ground := Ground.phase }, { on := 18, ground := Ground.phase }, { on := 19, ground := Ground.phase }, { on := 20, ground := Ground.phase }, { on := 21, ground := Ground.phase }, { on := 22, ground := Ground.phase }, { on := 23, ground := Ground.phase }, { on := 24, ground := Ground.phase }, { on := 25, ground := Ground.phase }, { on := 26, ground := Ground.phase }, { on := 27, ground := Ground.phase }, { on := 28, ground := Ground.phase }, { on := 29, ground := Ground.phase }, { on := 30, ground := Ground.phase }], guard := none }) (v := ?vb31) rfl (by kernel_rfl) (by kernel_rfl) (by kernel_rfl) ?qb31 (Or.inl ⟨?wb31, ?yb31⟩) hHeld ?rb31
        case qb31 => exact fun _ _ _ h => h
        case wb31 => kernel_rfl
        case yb31 => ((intro w hSw; (try dsimp only at hSw); go_simp) <;> with_reducible rfl)
        try simp only [Act.put, List.setIfInBounds_toArray, List.set_cons_zero, List.set_cons_succ]
        refine wpAnyH_done (by kernel_rfl) ?_ _
        refine NoPanic.normal ?_
        have HB6 := Lib.hid (HB3.out.trans ((below_drewN HB5.out j6).mono hsz3))
        go_wp2
        go_ret
        exact ⟨ret_bool HFIN.out, HB6.out⟩
  · go_enter Try.func10, Try.ntmps10
    go_wp2
    go_ret
    exact ⟨rfl, Below.refl _ _⟩
end Go.Proofs.Ythbphjfaeklfdaa
