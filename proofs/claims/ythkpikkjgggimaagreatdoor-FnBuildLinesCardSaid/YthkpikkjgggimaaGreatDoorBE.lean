/-
  Texts Copy, Copy2, Copy3, Copy4, Copy5 in one. No claim stands here.
-/
import Derived.Test.YthkpikkjgggimaaGreatDoorMany
import Derived.Laws.CopyOwn
import Derived.Deep.RegionLawGrows
import Derived.Test.YthkpikkjgggimaaGreatDoorBT
namespace Go.Proofs.YthkpikkjgggimaaGreatDoor
open Go.RowKit
set_option linter.unusedVariables false
set_option linter.unusedSimpArgs false

theorem Clone_any {w : World} {B : Nat} {A : Option Addr} {n c : Nat} {f : Nat → Int} (hn : n ≤ 100000000) (hB : B ≤ w.heap.size) (hA : 0 < n) (hs : Ints w B A n f) :
    Calls Tryz.prog 84 #[.slice A n c] w fun e w' => ∃ A' c', e = .returned (.slice A' n c') ∧ Row w' w.heap.size A' n c' f ∧ Below w.heap.size w w' := by
  obtain ⟨b, off, rfl, hb, _⟩ := hs hA
  have HS := Lib.hid (hs.alloc hB (.cells #[] 3))
  have hrun : ∀ W : World, (binOp .eql 23 (.slice (some ⟨b, off, none⟩) n c) (.slice none 0 0)).run Tryz.prog W = .ok (.bool false) W := fun W => Lib.run_eql_slice_nil (P := Tryz.prog) W 23 3 (some ⟨b, off, none⟩) n c 0 0 Tryz.underlying23
  clear hs
  go_enter Tryz.func84, Tryz.ntmps84
  go_wp2_with (at_builtin; refine append_ints _ rfl _ _ rfl rfl (Row.empty (w := w) (base := w.heap.size) f (Nat.le_refl _)) rfl HS.out (by intro h; cases h) (by omega) (by simp) ?_; intro A' c' w' hr hg)
  have HR := Lib.hid (hr.congr (g := f) (fun i hi => by rw [catF_hi (by omega), Nat.sub_zero]))
  have HB := Lib.hid (((Below.refl w.heap.size w).alloc (Nat.le_refl _) (.cells #[] 3)).grown hg (by simp) (by intro k hk; simp [Value.ownBlock] at hk; omega))
  clear hr hg
  go_wp2
  go_ret
  exact ⟨_, _, rfl, by simpa using HR.out, HB.out⟩

/-- make of truths as a run's equation. -/
theorem makeB_run (n : Nat) (hn : n ≤ 1000000000) : ∃ MC : Array Value, MC.size = n ∧ (∀ w : World, (Instr.makeSlice 30 (.int .i64 (n : Int)) (.int .i64 (n : Int))).run Tryz.prog w = .ok (.slice (some ⟨w.heap.size, 0, none⟩) n n) (w.alloc (.cells MC 4))) := by
  obtain ⟨i0, hi, hz0, hz1, hz2⟩ := info_parts Tryz.infoBool
  refine ⟨madeCells (Value.bool false).cells (n * i0.size), ?_, fun w => ?_⟩
  · rw [hz1, Nat.mul_one]; exact size_madeCells _ _
  · have hr := run_make (P := Tryz.prog) w 30 4 i0 (.bool false) Tryz.underlying30 hi hz0 .i64 .i64 n n (by omega) (Int.le_refl _) (by rw [hz2]; omega) (by omega)
    simp only [Int.toNat_natCast] at hr
    exact hr
theorem copied_row {w : World} {g n : Nat} {MC : Array Value} {p : Nat → Bool} (hm : n ≤ maxLen) (hs : MC.size = n) (h : w.heap[g]? = some (.cells (splice MC.toList 0 (bvals p n)).toArray 4 (0, 0))) : RowB w g (some ⟨g, 0, none⟩) n n p := by
  refine ⟨by rw [bvals_length, Nat.mul_one], .inr ⟨g, n, _, rfl, Nat.le_refl _, h, Nat.le_refl _, hm, ?_, ?_⟩⟩
  · rw [List.size_toArray, length_splice _ _ _ (by simp [bvals_length, hs])]; simp [hs]
  · simp [splice, List.take_append_of_le_length, bvals_length]

set_option maxHeartbeats 800000 in
theorem copyTruths_any {w : World} {B : Nat} {A : Option Addr} {n c : Nat} {p : Nat → Bool} (hn : n ≤ 1000000000) (hB : B ≤ w.heap.size) (hs : Bools w B A n p) :
    Calls Tryz.prog 123 #[.slice A n c] w fun e w' => ∃ A' c', e = .returned (.slice A' n c') ∧ RowB w' w.heap.size A' n c' p ∧ Below w.heap.size w w' := by
  obtain ⟨i0, hi, hz0, hz1, hz2⟩ := info_parts Tryz.infoBool
  have hsz : (Tryz.prog.info? 4).map (·.size) = some 1 := by rw [hi]; simp [hz1]
  obtain ⟨MC, hM, hmk⟩ := makeB_run n hn
  have HM := Lib.hid hM
  have hg0 : (w.alloc (.cells MC 4)).heap[w.heap.size]? = some (.cells MC.toList.toArray 4 (0, 0)) := by
    show (w.heap.push _)[w.heap.size]? = _; simp
  have HG := Lib.hid hg0
  have HB := Lib.hid ((Below.refl w.heap.size w).alloc (Nat.le_refl _) (.cells MC 4))
  have hs1 := hs.alloc hB (.cells MC 4)
  have hpos : 0 < (bvals p n).length → some (⟨w.heap.size, 0, none⟩ : Addr) = some ⟨w.heap.size, 0, none⟩ ∧ ∃ ad, A = some ad ∧ ∀ j v, (bvals p n)[j]? = some v → (w.alloc (.cells MC 4)).cell? (ad.add j) = some v := by
    intro h0
    rw [bvals_length] at h0
    obtain ⟨b, off, hA, _, hc⟩ := hs1 h0
    refine ⟨rfl, _, hA, fun j v hj => ?_⟩
    have hjn : j < n := by
      rcases Nat.lt_or_ge j n with h | h
      · exact h
      · rw [List.getElem?_eq_none (by rw [bvals_length]; omega)] at hj; cases hj
    rw [bvals_get hjn] at hj
    cases hj
    rw [Addr.add_lit]
    exact hc j hjn
  have HP := Lib.hid hpos
  clear hM hg0 hs hs1 hpos hi hz0 hz1 hz2
  go_enter Tryz.func123, Tryz.ntmps123
  go_wp2_with (with_reducible refine wpList_copy_splice rfl (.tmp 7) (.tmp 8) 30 30 rfl 4 Tryz.underlying30 hsz (some ⟨w.heap.size, 0, none⟩) A n n n c rfl rfl w.heap.size 0 MC.toList 4 HG.out (bvals p n) (by rw [bvals_length]; exact (Nat.min_self n).symm) HP.out (by rw [bvals_length]; simp [HM.out]) bvals_one w.heap.size w HB.out (Nat.le_refl _) ?_; intro w1 hg1 hb1)
  have HR := Lib.hid (copied_row (by unfold maxLen; omega) HM.out hg1.out)
  have HB1 := Lib.hid hb1
  clear hg1 hb1
  go_wp2
  go_ret
  exact ⟨_, _, rfl, HR.out, HB1.out⟩
end Go.Proofs.YthkpikkjgggimaaGreatDoor

namespace Go.Proofs.YthkpikkjgggimaaGreatDoor
open Go.RowKit
set_option linter.unusedVariables false
set_option linter.unusedSimpArgs false

set_option maxHeartbeats 3200000 in
theorem copyCalls_any {w : World} {B : Nat} {U D C : Option Addr} {nu cu nd cd nc cc : Nat} {up dn car : Nat → Bool} (n1 : nu ≤ 1000000000) (n2 : nd ≤ 1000000000) (n3 : nc ≤ 1000000000) (hB : B ≤ w.heap.size)
    (hu : Bools w B U nu up) (hd : Bools w B D nd dn) (hc : Bools w B C nc car) :
    Calls Tryz.prog 85 #[.agg #[.slice U nu cu, .slice D nd cd, .slice C nc cc]] w fun e w' =>
      ∃ U' cu' D' cd' C' cc', e = .returned (.agg #[.slice U' nu cu', .slice D' nd cd', .slice C' nc cc']) ∧ OwnC w' w.heap.size U' nu cu' up D' nd cd' dn C' nc cc' car ∧ Below w.heap.size w w' := by
  have HU := Lib.hid hu
  have HD := Lib.hid hd
  have HC := Lib.hid hc
  clear hu hd hc
  go_enter Tryz.func85, Tryz.ntmps85
  go_wp2_with fail
  have X := (Bx.new w #[.slice U nu cu, .slice D nd cd, .slice C nc cc] 32).alloc (.cells #[.slice none 0 0, .slice none 0 0, .slice none 0 0] 32)
  have Y := Bx.new (w.alloc (.cells #[.slice U nu cu, .slice D nd cd, .slice C nc cc] 32)) #[.slice none 0 0, .slice none 0 0, .slice none 0 0] 32
  have hb := ((Below.refl w.heap.size w).alloc (Nat.le_refl _) (.cells #[.slice U nu cu, .slice D nd cd, .slice C nc cc] 32)).alloc (by simp) (.cells #[.slice none 0 0, .slice none 0 0, .slice none 0 0] 32)
  have hz0 : w.heap.size + 2 = ((w.alloc (.cells #[.slice U nu cu, .slice D nd cd, .slice C nc cc] 32)).alloc (.cells #[.slice none 0 0, .slice none 0 0, .slice none 0 0] 32)).heap.size := by simp
  have HX0 := Lib.hid X
  have HY0 := Lib.hid Y
  have HB0 := Lib.hid hb.drew
  have HZ0 := Lib.hid hz0
  clear X Y hb hz0
  generalize (w.alloc (.cells #[.slice U nu cu, .slice D nd cd, .slice C nc cc] 32)).alloc (.cells #[.slice none 0 0, .slice none 0 0, .slice none 0 0] 32) = W at *
  go_region_held3 (fun w' => ∀ o, w'.cell? ⟨w.heap.size, o, none⟩ = (#[.slice U nu cu, .slice D nd cd, .slice C nc cc] : Array Value)[o]?) (first | exact HX0.out.cells | exact HX1.out.cells | exact HX2.out.cells | exact HX3.out.cells | exact (((HX3.out.far _ _ (by simp)).far _ _ (by simp)).far _ _ (by simp)).cells) (first
    | (go_at_call 123; (with_reducible refine (copyTruths_any (n := nu) (p := up) n1 (Nat.le_trans hB HB0.out.size) (HU.out.below (HB0.out.mono hB))).mono ?_); rintro e w1 ⟨U', cu', rfl, hr1, hb1⟩; have HX1 := Lib.hid (HX0.out.below (w := W.drew) hb1 HX0.out.lt); have HY1 := Lib.hid (HY0.out.below (w := W.drew) hb1 HY0.out.lt))
    | (go_at_call 123; (with_reducible refine (copyTruths_any (n := nd) (p := dn) n2 hb1.size (((HD.out.below (HB0.out.mono hB)).more (Nat.le_trans hB HB0.out.size)).below hb1)).mono ?_); rintro e w2 ⟨D', cd', rfl, hr2, hb2⟩; have HX2 := Lib.hid (HX1.out.below hb2 HX1.out.lt); have HY2 := Lib.hid (HY1.out.below hb2 HY1.out.lt))
    | (go_at_call 123; (with_reducible refine (copyTruths_any (n := nc) (p := car) n3 (Nat.le_trans hb1.size hb2.size) (((HC.out.below (HB0.out.mono hB)).more (Nat.le_trans hB HB0.out.size)).below (hb1.trans (hb2.mono hb1.size)))).mono ?_); rintro e w3 ⟨C', cc', rfl, hr3, hb3⟩; have HX3 := Lib.hid (HX2.out.below hb3 HX2.out.lt); have HY3 := Lib.hid (HY2.out.below hb3 HY2.out.lt); have c1 := HY3.out.cells; have z1 := HY3.out.free; simp only [World.alloc, Array.size_push] at c1 z1))
  have hb0 := hb3
  have HP1 := Lib.hid hr1.place
  have HP2 := Lib.hid hr2.place
  have HP3 := Lib.hid hr3.place
  have HB3 := Lib.hid (HB0.out.trans ((hb1.trans ((hb2.trans (hb3.mono hb2.size)).mono hb1.size)).mono HB0.out.size))
  have HR1 := Lib.hid ((hr1.below hb2 (Nat.le_refl _)).below hb3 (Nat.le_refl _))
  have HR2 := Lib.hid (hr2.below hb3 (Nat.le_refl _))
  have HR3 := Lib.hid hr3
  have hs1 : w.heap.size + 2 ≤ W.heap.size := by rw [HZ0.out]; exact Nat.le_refl _
  have hs2 : W.drew.heap.size ≤ w1.heap.size := hb1.size
  have hs2' : W.heap.size ≤ w1.heap.size := hs2
  have hs3 := hb2.size
  have hs4 := hb3.size
  clear hr1 hr2 hr3 hb1 hb2 hb3 hb0
  go_wp2
  refine bodyPost_ret (v := .agg #[.slice U' nu cu', .slice D' nd cd', .slice C' nc cc']) (by simp [results, Tryz.results85, go_sem, c1]) rfl ⟨U', cu', D', cd', C', cc', rfl, ?_, ?_⟩
  · refine ⟨?_, ?_, ?_, HP1.out.apart HP2.out (Nat.le_refl _), HP1.out.apart HP3.out hs3, HP2.out.apart HP3.out (Nat.le_refl _)⟩
    · exact ((((HR1.out.mono (base' := w.heap.size + 2) hs1).far _ _ (by simp)).far _ _ (by simp)).far _ _ (by simp)).mono (by omega)
    · exact ((((HR2.out.mono (base' := w.heap.size + 2) (by omega)).far _ _ (by simp)).far _ _ (by simp)).far _ _ (by simp)).mono (by omega)
    · exact ((((HR3.out.mono (base' := w.heap.size + 2) (by omega)).far _ _ (by simp)).far _ _ (by simp)).far _ _ (by simp)).mono (by omega)
  · exact ((HB3.out.setCell (by simp <;> omega) _).setCell (by simp <;> omega) _).setCell (by simp <;> omega) _

/-- Two boxes, the one of them just below the other, in a world behind both. -/
theorem boxes2' {w w' : World} {P R : Array Value} {T T' : TypeId} (h : Below ((w.alloc (.cells P T)).alloc (.cells R T')).heap.size ((w.alloc (.cells P T)).alloc (.cells R T')) w') :
    Bx w' w.heap.size P ∧ Bx w' (w.heap.size + 1) R ∧ Below w.heap.size w w' ∧ w.heap.size + 2 ≤ w'.heap.size := by
  have a := (Bx.new w P T).alloc (.cells R T')
  have b := Bx.new (w.alloc (.cells P T)) R T'
  have hs : (w.alloc (.cells P T)).heap.size = w.heap.size + 1 := by simp
  rw [hs] at b
  have c := ((Below.refl w.heap.size w).alloc (Nat.le_refl _) (.cells P T)).alloc (by simp) (.cells R T')
  refine ⟨a.below h a.lt, b.below h b.lt, c.trans (h.mono (by simp <;> omega)), ?_⟩
  have := h.size
  simp at this
  omega

set_option maxHeartbeats 3200000 in
theorem copyBuilding_any {w : World} {B : Nat} {v : Bv} {b : Bld} (hp : 0 < b.n) (n0 : b.n ≤ 100000000) (n1 : b.nu ≤ 100000000) (n2 : b.nd ≤ 100000000) (n3 : b.nc ≤ 100000000) (hB : B ≤ w.heap.size) (hr : ReadB w B v b) :
    Calls Tryz.prog 34 #[bval v b] w fun e w' => ∃ v', e = .returned (bval v' b) ∧ OwnB w' w.heap.size v' b ∧ Below w.heap.size w w' := by
  have HR := Lib.hid hr
  clear hr
  unfold bval bcells
  go_enter Tryz.func34, Tryz.ntmps34
  go_wp2_with fail
  refine (Clone_any n0 (Nat.le_trans hB (by simp <;> omega)) hp ((HR.out.alloc hB _).alloc (Nat.le_trans hB (by simp <;> omega)) _).h).mono ?_
  rintro e w1 ⟨A', c', rfl, hr1, hb1⟩
  obtain ⟨x, y, hbb, hs1⟩ := boxes2' hb1
  have HX := Lib.hid x
  have HY := Lib.hid y
  have HB := Lib.hid hbb
  have H1 := hr1.mono (base' := w.heap.size + 2) (by simp)
  have HP1 := Lib.hid H1.place
  have HH1 := Lib.hid H1
  have c0 := x.cells
  have z0 := x.free
  have HRs := Lib.hid (HR.out.below ((HB.out.setCell (p := ⟨w.heap.size, 0, none⟩) (by simp) (.slice A' b.n c')).mono hB))
  clear hb1 x y hbb hr1 H1
  go_wp2_with fail
  refine (copyCalls_any (by omega) (by omega) (by omega) (Nat.le_trans hB (by have := HB.out.size; simpa using this)) HRs.out.u HRs.out.d HRs.out.c).mono ?_
  rintro e w2 ⟨U', cu', D', cd', C', cc', rfl, hk, hb2⟩
  have x2 := (HX.out.set 0 (.slice A' b.n c')).below hb2 (HX.out.set 0 (.slice A' b.n c')).lt
  have y2 := (HY.out.far ⟨w.heap.size, 0, none⟩ (.slice A' b.n c') (by simp)).below hb2 (HY.out.far _ _ (by simp)).lt
  have h2 := (HH1.out.far ⟨w.heap.size, 0, none⟩ (.slice A' b.n c') (by simp)).below hb2 (Nat.le_refl _)
  have b2 := (HB.out.setCell (p := ⟨w.heap.size, 0, none⟩) (by simp) (.slice A' b.n c')).trans (hb2.mono (by simp <;> omega))
  have hs2 : w1.heap.size ≤ w2.heap.size := by have := hb2.size; simpa using this
  have hk' := hk.mono (base' := w1.heap.size) (by simp)
  have HOWN : Hid (OwnB w2 (w.heap.size + 2) ⟨A', c', U', cu', D', cd', C', cc'⟩ b) := Lib.hid ⟨h2, hk'.mono hs1, HP1.out.apart hk'.u.place (Nat.le_refl _), HP1.out.apart hk'.d.place (Nat.le_refl _), HP1.out.apart hk'.c.place (Nat.le_refl _)⟩
  have HX2 := Lib.hid x2
  have HY2 := Lib.hid y2
  have HB2 := Lib.hid b2
  clear c0 z0
  have c0 := x2.cells
  have z0 := x2.free
  have c1 := y2.cells
  have z1 := y2.free
  clear hb2 x2 y2 h2 b2 hk hk' HH1 HX HY HRs
  go_wp2
  refine bodyPost_ret (v := bval ⟨A', c', U', cu', D', cd', C', cc'⟩ b) (by simp [bval, bcells, results, Tryz.results34, go_sem, c0, c1]) rfl ⟨⟨A', c', U', cu', D', cd', C', cc'⟩, rfl, ?_, ?_⟩
  · exact (sets_own (putL (w.heap.size + 1) ⟨A', c', U', cu', D', cd', C', cc'⟩ b) (sets_own [(⟨w.heap.size, 5, none⟩, .slice U' b.nu cu'), (⟨w.heap.size, 6, none⟩, .slice D' b.nd cd'), (⟨w.heap.size, 7, none⟩, .slice C' b.nc cc')] HOWN.out (by simp <;> omega)) (fun q hq => by rw [putL_block q hq]; omega)).mono (by omega)
  · exact sets_below (putL (w.heap.size + 1) ⟨A', c', U', cu', D', cd', C', cc'⟩ b) (sets_below [(⟨w.heap.size, 5, none⟩, .slice U' b.nu cu'), (⟨w.heap.size, 6, none⟩, .slice D' b.nd cd'), (⟨w.heap.size, 7, none⟩, .slice C' b.nc cc')] HB2.out (by simp <;> omega)) (fun q hq => by rw [putL_block q hq]; omega)
end Go.Proofs.YthkpikkjgggimaaGreatDoor

namespace Go.Proofs.YthkpikkjgggimaaGreatDoor
open Go.RowKit
set_option linter.unusedVariables false
set_option linter.unusedSimpArgs false

/-- append of truths onto an empty slice without room, as a step of a region that draws its order. -/
theorem step_append_bools0 (W : World) {ops : Array Oper} {o : Oper} {a : Act} {K : Act → World → Prop} {Q : Exit → Act → World → Prop} {E : Prop} (hg : o.guard = none) (s x : Operand)
    (hop : o.op = Op.call { callee := Callee.builtin Builtin.append, args := #[s, x], argTypes := #[30, 30] }) {B g : Nat} {A2 : Option Addr} {m c2 : Nat} {f2 : Nat → Bool}
    (hs : a.eval s = .slice (some ⟨g, 0, none⟩) 0 0) (hx : a.eval x = .slice A2 m c2) (hr2 : Bools W B A2 m f2) (hm : 0 < m) (hn : m ≤ 1000000000)
    (hK : ∀ A' c' w', RowB w' W.heap.size A' m c' f2 → Below W.heap.size W w' → K (a.put o.dst (.slice A' (m : Nat) c')) w') : if Region.wanted o (yielded ops a.tmps) = true then Oper.wp Tryz.prog o a W K Q else E := by
  obtain ⟨i0, hi, hz0, hz1, hz2⟩ := info_parts Tryz.infoBool
  obtain ⟨b, off, hA, _, hc⟩ := hr2 hm
  subst hA
  refine step_append_grows hg s x 30 hop 4 i0 (.bool false) 1 1 Tryz.underlying30 hi hz0 hz1 hz2 rfl (by decide) _ 0 0 [] hs (by intro h; cases h) rfl (by intro b _ j u hj; simp at hj) ⟨b, off, none⟩ m c2 (bvals f2 m) hx (by rw [bvals_length, Nat.mul_one]) ?_ bvals_one (by omega) (by unfold maxLen; omega) (by omega) ?_
  · intro j u hj
    have hjm : j < m := by
      rcases Nat.lt_or_ge j m with h | h
      · exact h
      · rw [List.getElem?_eq_none (by rw [bvals_length]; omega)] at hj; cases hj
    rw [bvals_get hjm] at hj
    rw [← Option.some.inj hj, Addr.add_lit]
    exact hc j hjm
  · intro v' w' hown hgrow
    rw [Nat.zero_add, List.nil_append] at hown
    obtain ⟨A', c', rfl⟩ := row_shapeB hown
    exact hK A' c' w' hown ((Below.refl W.heap.size W).grown hgrow (Nat.le_refl _) (by intro b e; cases e))


theorem wp_append_bools0 (W : World) {o : Oper} {a : Act} {K : Act → World → Prop} {Q : Exit → Act → World → Prop} (hg : o.guard = none) (s x : Operand)
    (hop : o.op = Op.call { callee := Callee.builtin Builtin.append, args := #[s, x], argTypes := #[30, 30] }) {B g : Nat} {A2 : Option Addr} {m c2 : Nat} {f2 : Nat → Bool}
    (hs : a.eval s = .slice (some ⟨g, 0, none⟩) 0 0) (hx : a.eval x = .slice A2 m c2) (hr2 : Bools W B A2 m f2) (hm : 0 < m) (hn : m ≤ 1000000000)
    (hK : ∀ A' c' w', RowB w' W.heap.size A' m c' f2 → Below W.heap.size W w' → K (a.put o.dst (.slice A' (m : Nat) c')) w') : Oper.wp Tryz.prog o a W K Q := by
  have h := step_append_bools0 (ops := #[]) (E := False) (Q := Q) W hg s x hop hs hx hr2 hm hn hK
  rwa [if_pos (by simp [Region.wanted, hg])] at h

section
variable (w0 : World) (U D C : Option Addr) (nu cu nd cd nc cc : Nat) (up dn car : Nat → Bool)
/-- What holds on the way through l8Copy's region, in whatever order. -/
structure CI (L : Array Bool) (a : Act) (W : World) : Prop where
  sz : L.size = 14
  ts : a.tmps.size = 16
  t1 : a.tmps.getD 1 undef = .pointer (some ⟨w0.heap.size, 0, none⟩)
  t2 : a.tmps.getD 2 undef = .pointer (some ⟨w0.heap.size + 1, 0, none⟩)
  df : a.defers = []
  bl : Below w0.heap.size w0 W
  hs : w0.heap.size + 2 ≤ W.heap.size
  x : Bx W w0.heap.size #[.slice U nu cu, .slice D nd cd, .slice C nc cc]
  y : L.getD 13 false = false → Bx W (w0.heap.size + 1) #[.slice none 0 0, .slice none 0 0, .slice none 0 0]
  o7 : L.getD 7 false = true → L.getD 3 false = true
  o11 : L.getD 11 false = true → L.getD 7 false = true
  o12 : L.getD 12 false = true → L.getD 11 false = true
  o13 : L.getD 13 false = true → ∀ k, k < 13 → L.getD k false = true
  f0 : L.getD 13 false = false → L.getD 0 false = true → ∃ g, a.tmps.getD 3 undef = .slice (some ⟨g, 0, none⟩) 0 0
  f1 : L.getD 13 false = false → L.getD 1 false = true → a.tmps.getD 4 undef = .pointer (some ⟨w0.heap.size, 0, none⟩)
  f2 : L.getD 13 false = false → L.getD 2 false = true → a.tmps.getD 5 undef = .slice U nu cu
  f3 : L.getD 13 false = false → L.getD 3 false = true → ∃ U' cu', a.tmps.getD 6 undef = .slice U' nu cu' ∧ RowB W (w0.heap.size + 2) U' nu cu' up
  f4 : L.getD 13 false = false → L.getD 4 false = true → ∃ g, a.tmps.getD 7 undef = .slice (some ⟨g, 0, none⟩) 0 0
  f5 : L.getD 13 false = false → L.getD 5 false = true → a.tmps.getD 8 undef = .pointer (some ⟨w0.heap.size, 1, none⟩)
  f6 : L.getD 13 false = false → L.getD 6 false = true → a.tmps.getD 9 undef = .slice D nd cd
  f7 : L.getD 13 false = false → L.getD 7 false = true → ∃ U' cu' D' cd', a.tmps.getD 6 undef = .slice U' nu cu' ∧ a.tmps.getD 10 undef = .slice D' nd cd' ∧ RowB W (w0.heap.size + 2) U' nu cu' up ∧ RowB W (w0.heap.size + 2) D' nd cd' dn ∧ Apart U' D'
  f8 : L.getD 13 false = false → L.getD 8 false = true → ∃ g, a.tmps.getD 11 undef = .slice (some ⟨g, 0, none⟩) 0 0
  f9 : L.getD 13 false = false → L.getD 9 false = true → a.tmps.getD 12 undef = .pointer (some ⟨w0.heap.size, 2, none⟩)
  f10 : L.getD 13 false = false → L.getD 10 false = true → a.tmps.getD 13 undef = .slice C nc cc
  f11 : L.getD 13 false = false → L.getD 11 false = true → ∃ U' cu' D' cd' C' cc', a.tmps.getD 6 undef = .slice U' nu cu' ∧ a.tmps.getD 10 undef = .slice D' nd cd' ∧ a.tmps.getD 14 undef = .slice C' nc cc' ∧ OwnC W (w0.heap.size + 2) U' nu cu' up D' nd cd' dn C' nc cc' car
  f12 : L.getD 13 false = false → L.getD 12 false = true → ∃ U' cu' D' cd' C' cc', a.tmps.getD 15 undef = .agg #[.slice U' nu cu', .slice D' nd cd', .slice C' nc cc'] ∧ OwnC W (w0.heap.size + 2) U' nu cu' up D' nd cd' dn C' nc cc' car
  f13 : L.getD 13 false = true → ∃ U' cu' D' cd' C' cc', Bx W (w0.heap.size + 1) #[.slice U' nu cu', .slice D' nd cd', .slice C' nc cc'] ∧ OwnC W (w0.heap.size + 2) U' nu cu' up D' nd cd' dn C' nc cc' car
variable {w0 U D C nu cu nd cd nc cc up dn car}
theorem CI.carry {L : Array Bool} {a : Act} {W W' : World} (I : CI w0 U D C nu cu nd cd nc cc up dn car L a W) {i d : Nat} (hi : i < 13) (hd : d = i + 3) (hun : L.getD i false = false) (hall : (i = 7 → L.getD 3 false = true) ∧ (i = 11 → L.getD 7 false = true) ∧ (i = 12 → L.getD 11 false = true)) (h13 : L.getD 13 false = false) (hb : Below W.heap.size W W') (v : Value)
    (n0 : i = 0 ∨ i = 4 ∨ i = 8 → ∃ g, v = .slice (some ⟨g, 0, none⟩) 0 0 := by omega)
    (n1 : i = 1 → v = .pointer (some ⟨w0.heap.size, 0, none⟩) := by omega)
    (n2 : i = 2 → v = .slice U nu cu := by omega)
    (n3 : i = 3 → ∃ U' cu', v = .slice U' nu cu' ∧ RowB W' (w0.heap.size + 2) U' nu cu' up := by omega)
    (n5 : i = 5 → v = .pointer (some ⟨w0.heap.size, 1, none⟩) := by omega)
    (n6 : i = 6 → v = .slice D nd cd := by omega)
    (n7 : i = 7 → ∃ U' cu' D' cd', a.tmps.getD 6 undef = .slice U' nu cu' ∧ v = .slice D' nd cd' ∧ RowB W' (w0.heap.size + 2) U' nu cu' up ∧ RowB W' (w0.heap.size + 2) D' nd cd' dn ∧ Apart U' D' := by omega)
    (n9 : i = 9 → v = .pointer (some ⟨w0.heap.size, 2, none⟩) := by omega)
    (n10 : i = 10 → v = .slice C nc cc := by omega)
    (n11 : i = 11 → ∃ U' cu' D' cd' C' cc', a.tmps.getD 6 undef = .slice U' nu cu' ∧ a.tmps.getD 10 undef = .slice D' nd cd' ∧ v = .slice C' nc cc' ∧ OwnC W' (w0.heap.size + 2) U' nu cu' up D' nd cd' dn C' nc cc' car := by omega)
    (n12 : i = 12 → ∃ U' cu' D' cd' C' cc', v = .agg #[.slice U' nu cu', .slice D' nd cd', .slice C' nc cc'] ∧ OwnC W' (w0.heap.size + 2) U' nu cu' up D' nd cd' dn C' nc cc' car := by omega) :
    CI w0 U D C nu cu nd cd nc cc up dn car (L.setIfInBounds i true) (a.put (some d) v) W' := by
  subst hd
  have hw : ∀ j, i ≠ j → (L.setIfInBounds i true).getD j false = L.getD j false := fun j h => getD_set_ne false h
  have hself : (L.setIfInBounds i true).getD i false = true := getD_set_self false (by rw [I.sz]; omega)
  have tne : ∀ k, i + 3 ≠ k → (a.put (some (i + 3)) v).tmps.getD k undef = a.tmps.getD k undef := fun k h => tmp_put_ne v h
  have tself : (a.put (some (i + 3)) v).tmps.getD (i + 3) undef = v := tmp_put_self v (by rw [I.ts]; omega)
  have hgt := I.hs
  constructor
  case sz => simp [I.sz]
  case ts => simp [Act.put, I.ts]
  case t1 => rw [tne 1 (by omega)]; exact I.t1
  case t2 => rw [tne 2 (by omega)]; exact I.t2
  case df => exact I.df
  case bl => exact I.bl.trans (hb.mono (by omega))
  case hs => exact Nat.le_trans I.hs hb.size
  case x => exact I.x.below hb I.x.lt
  case y => intro _; exact (I.y h13).below hb (I.y h13).lt
  case o7 =>
    intro h
    by_cases e : i = 3
    · subst e; exact hself
    rw [hw 3 e]
    by_cases e7 : i = 7
    · exact hall.1 e7
    · rw [hw 7 e7] at h; exact I.o7 h
  case o11 =>
    intro h
    by_cases e : i = 7
    · subst e; exact hself
    rw [hw 7 e]
    by_cases e7 : i = 11
    · exact hall.2.1 e7
    · rw [hw 11 e7] at h; exact I.o11 h
  case o12 =>
    intro h
    by_cases e : i = 11
    · subst e; exact hself
    rw [hw 11 e]
    by_cases e7 : i = 12
    · exact hall.2.2 e7
    · rw [hw 12 e7] at h; exact I.o12 h
  case o13 =>
    intro h
    rw [hw 13 (by omega), h13] at h
    cases h
  case f0 =>
    intro _ h
    by_cases e : i = 0
    · subst e; rw [tself]; exact n0 (by omega)
    · rw [hw 0 e] at h
      rw [tne 3 (by omega)]; exact I.f0 h13 h
  case f4 =>
    intro _ h
    by_cases e : i = 4
    · subst e; rw [tself]; exact n0 (by omega)
    · rw [hw 4 e] at h
      rw [tne 7 (by omega)]; exact I.f4 h13 h
  case f8 =>
    intro _ h
    by_cases e : i = 8
    · subst e; rw [tself]; exact n0 (by omega)
    · rw [hw 8 e] at h
      rw [tne 11 (by omega)]; exact I.f8 h13 h
  case f1 =>
    intro _ h
    by_cases e : i = 1
    · subst e; rw [tself]; exact n1 rfl
    · rw [hw 1 e] at h
      rw [tne 4 (by omega)]; exact I.f1 h13 h
  case f2 =>
    intro _ h
    by_cases e : i = 2
    · subst e; rw [tself]; exact n2 rfl
    · rw [hw 2 e] at h
      rw [tne 5 (by omega)]; exact I.f2 h13 h
  case f5 =>
    intro _ h
    by_cases e : i = 5
    · subst e; rw [tself]; exact n5 rfl
    · rw [hw 5 e] at h
      rw [tne 8 (by omega)]; exact I.f5 h13 h
  case f6 =>
    intro _ h
    by_cases e : i = 6
    · subst e; rw [tself]; exact n6 rfl
    · rw [hw 6 e] at h
      rw [tne 9 (by omega)]; exact I.f6 h13 h
  case f9 =>
    intro _ h
    by_cases e : i = 9
    · subst e; rw [tself]; exact n9 rfl
    · rw [hw 9 e] at h
      rw [tne 12 (by omega)]; exact I.f9 h13 h
  case f10 =>
    intro _ h
    by_cases e : i = 10
    · subst e; rw [tself]; exact n10 rfl
    · rw [hw 10 e] at h
      rw [tne 13 (by omega)]; exact I.f10 h13 h
  case f3 =>
    intro _ h
    by_cases e : i = 3
    · subst e; rw [tself]; exact n3 rfl
    · rw [hw 3 e] at h
      obtain ⟨U', cu', h1, h2⟩ := I.f3 h13 h
      exact ⟨U', cu', by rw [tne 6 (by omega)]; exact h1, h2.below hb (Nat.le_refl _)⟩
  case f7 =>
    intro _ h
    by_cases e : i = 7
    · subst e
      obtain ⟨U', cu', D', cd', h1, h2, h3⟩ := n7 rfl
      exact ⟨U', cu', D', cd', by rw [tne 6 (by omega)]; exact h1, by rw [tself]; exact h2, h3⟩
    · rw [hw 7 e] at h
      have h3 := I.o7 h
      have e3 : i ≠ 3 := fun e => by subst e; rw [hun] at h3; cases h3
      obtain ⟨U', cu', D', cd', h1, h2, h3, h4, h5⟩ := I.f7 h13 h
      exact ⟨U', cu', D', cd', by rw [tne 6 (by omega)]; exact h1, by rw [tne 10 (by omega)]; exact h2, h3.below hb (Nat.le_refl _), h4.below hb (Nat.le_refl _), h5⟩
  case f11 =>
    intro _ h
    by_cases e : i = 11
    · subst e
      obtain ⟨U', cu', D', cd', C', cc', h1, h2, h3, h4⟩ := n11 rfl
      exact ⟨U', cu', D', cd', C', cc', by rw [tne 6 (by omega)]; exact h1, by rw [tne 10 (by omega)]; exact h2, by rw [tself]; exact h3, h4⟩
    · rw [hw 11 e] at h
      have h7 := I.o11 h
      have h3 := I.o7 h7
      have e3 : i ≠ 3 := fun e => by subst e; rw [hun] at h3; cases h3
      have e7 : i ≠ 7 := fun e => by subst e; rw [hun] at h7; cases h7
      obtain ⟨U', cu', D', cd', C', cc', h1, h2, h3, h4⟩ := I.f11 h13 h
      exact ⟨U', cu', D', cd', C', cc', by rw [tne 6 (by omega)]; exact h1, by rw [tne 10 (by omega)]; exact h2, by rw [tne 14 (by omega)]; exact h3, h4.below hb (Nat.le_refl _)⟩
  case f12 =>
    intro _ h
    by_cases e : i = 12
    · subst e; rw [tself]; exact n12 rfl
    · rw [hw 12 e] at h
      obtain ⟨U', cu', D', cd', C', cc', h1, h2⟩ := I.f12 h13 h
      exact ⟨U', cu', D', cd', C', cc', by rw [tne 15 (by omega)]; exact h1, h2.below hb (Nat.le_refl _)⟩
  case f13 =>
    intro h
    rw [hw 13 (by omega), h13] at h
    cases h
end
end Go.Proofs.YthkpikkjgggimaaGreatDoor

namespace Go.Proofs.YthkpikkjgggimaaGreatDoor
open Go.RowKit
set_option linter.unusedVariables false
set_option linter.unusedSimpArgs false

set_option maxRecDepth 4000 in
set_option maxHeartbeats 3200000 in
theorem l8Copy_any {w : World} {B : Nat} {U D C : Option Addr} {nu cu nd cd nc cc : Nat} {up dn car : Nat → Bool} (p1 : 0 < nu) (p2 : 0 < nd) (p3 : 0 < nc) (n1 : nu ≤ 1000000000) (n2 : nd ≤ 1000000000) (n3 : nc ≤ 1000000000) (hB : B ≤ w.heap.size)
    (hu : Bools w B U nu up) (hd : Bools w B D nd dn) (hc : Bools w B C nc car) :
    Calls Tryz.prog 86 #[.agg #[.slice U nu cu, .slice D nd cd, .slice C nc cc]] w fun e w' =>
      ∃ U' cu' D' cd' C' cc', e = .returned (.agg #[.slice U' nu cu', .slice D' nd cd', .slice C' nc cc']) ∧ OwnC w' w.heap.size U' nu cu' up D' nd cd' dn C' nc cc' car ∧ Below w.heap.size w w' := by
  have HU := Lib.hid hu
  have HD := Lib.hid hd
  have HC := Lib.hid hc
  clear hu hd hc
  go_enter Tryz.func86, Tryz.ntmps86
  have X := (Bx.new w #[.slice U nu cu, .slice D nd cd, .slice C nc cc] 32).alloc (.cells #[.slice none 0 0, .slice none 0 0, .slice none 0 0] 32)
  have Y := Bx.new (w.alloc (.cells #[.slice U nu cu, .slice D nd cd, .slice C nc cc] 32)) #[.slice none 0 0, .slice none 0 0, .slice none 0 0] 32
  rw [show (w.alloc (.cells #[.slice U nu cu, .slice D nd cd, .slice C nc cc] 32)).heap.size = w.heap.size + 1 by simp] at Y
  have hb := ((Below.refl w.heap.size w).alloc (Nat.le_refl _) (.cells #[.slice U nu cu, .slice D nd cd, .slice C nc cc] 32)).alloc (by simp) (.cells #[.slice none 0 0, .slice none 0 0, .slice none 0 0] 32)
  have hz0 : w.heap.size + 2 = ((w.alloc (.cells #[.slice U nu cu, .slice D nd cd, .slice C nc cc] 32)).alloc (.cells #[.slice none 0 0, .slice none 0 0, .slice none 0 0] 32)).heap.size := by simp
  have HX := Lib.hid X
  have HY := Lib.hid Y
  have HZ := Lib.hid hb.drew
  have HZ0 := Lib.hid hz0
  clear X Y hb hz0
  go_wp2_with fail
  generalize (w.alloc (.cells #[.slice U nu cu, .slice D nd cd, .slice C nc cc] 32)).alloc (.cells #[.slice none 0 0, .slice none 0 0, .slice none 0 0] 32) = W at *
  rename_i Q' K hK
  refine wp_region_any (by kernel_rfl) ?_
  refine wpAny_inv (CI w U D C nu cu nd cd nc cc up dn car) ?_ ?_ _ _ _ _ (by decide) ?_
  · intro L a w' hr I
    have hsz : L.size = 14 := I.sz
    have hnr := fun (i : Nat) (o : Oper) ho hall => not_ready hr (i := i) (o := o) ho hsz hall
    have l0 := hnr 0 _ rfl (by simp)
    have l1 := hnr 1 _ rfl (by simp)
    have l2 := hnr 2 _ rfl (by intro e he _; simp at he; rcases he with rfl <;> (dsimp only; assumption))
    have l3 := hnr 3 _ rfl (by intro e he _; simp at he; rcases he with rfl | rfl <;> (dsimp only; assumption))
    have l4 := hnr 4 _ rfl (by simp)
    have l5 := hnr 5 _ rfl (by simp)
    have l6 := hnr 6 _ rfl (by intro e he _; simp at he; rcases he with rfl <;> (dsimp only; assumption))
    have l7 := hnr 7 _ rfl (by intro e he _; simp at he; rcases he with rfl | rfl | rfl <;> (dsimp only; assumption))
    have l8 := hnr 8 _ rfl (by simp)
    have l9 := hnr 9 _ rfl (by simp)
    have l10 := hnr 10 _ rfl (by intro e he _; simp at he; rcases he with rfl <;> (dsimp only; assumption))
    have l11 := hnr 11 _ rfl (by intro e he _; simp at he; rcases he with rfl | rfl | rfl <;> (dsimp only; assumption))
    have l12 := hnr 12 _ rfl (by intro e he _; simp at he; rcases he with rfl | rfl | rfl <;> (dsimp only; assumption))
    have l13 := hnr 13 _ rfl (by intro e he _; simp at he; rcases he with rfl | rfl | rfl | rfl | rfl | rfl | rfl | rfl | rfl | rfl | rfl | rfl | rfl | rfl | rfl <;> (dsimp only; assumption))
    obtain ⟨U', cu', D', cd', C', cc', hx, hown⟩ := I.f13 l13
    have c1 := hx.cells
    have t2 : a.tmps[2]?.getD undef = .pointer (some ⟨w.heap.size + 1, 0, none⟩) := by simpa using I.t2
    have hdf := I.df
    have HOWN := Lib.hid hown
    have HBL := Lib.hid I.bl
    clear hr hnr l0 l1 l2 l3 l4 l5 l6 l7 l8 l9 l10 l11 l12 l13 hown hx I
    refine hK _ _ ?_
    go_wp2
    refine bodyPost_ret (v := .agg #[.slice U' nu cu', .slice D' nd cd', .slice C' nc cc']) (by simp [results, Tryz.results86, go_sem, Act.eval, t2, c1]) (by first | rfl | exact hdf) ⟨U', cu', D', cd', C', cc', rfl, HOWN.out.mono (by omega), HBL.out⟩
  · intro L a w' i hi I
    obtain ⟨hun, o, ho, hall⟩ := mem_ready.1 hi
    have hlt : i < 14 := (Array.getElem?_eq_some_iff.1 ho).1
    have hun' : L.getD i false = false := by
      have h := I.sz
      simp [h, hlt] at hun ⊢
      exact hun
    have h13 : i ≠ 13 → L.getD 13 false = false := by
      intro hne
      cases h : L.getD 13 false
      · rfl
      · have := I.o13 h i (by omega)
        rw [hun'] at this
        cases this
    rcases (by omega : i = 0 ∨ i = 1 ∨ i = 2 ∨ i = 3 ∨ i = 4 ∨ i = 5 ∨ i = 6 ∨ i = 7 ∨ i = 8 ∨ i = 9 ∨ i = 10 ∨ i = 11 ∨ i = 12 ∨ i = 13) with rfl | rfl | rfl | rfl | rfl | rfl | rfl | rfl | rfl | rfl | rfl | rfl | rfl | rfl
    all_goals (refine wpOp_of ho (by cases ho; rfl) ?_; cases ho)
    · unfold Oper.wp
      simp [go_sem, Act.eval]
      exact I.carry (i := 0) (d := 3) (by omega) rfl hun' ⟨by omega, by omega, by omega⟩ (h13 (by omega)) ((Below.refl _ _).alloc (Nat.le_refl _) _) (.slice (some ⟨w'.heap.size, 0, none⟩) 0 0) (n0 := fun _ => ⟨_, rfl⟩)
    · have t1 := I.t1
      unfold Oper.wp
      simp [go_sem, Act.eval, t1]
      exact I.carry (i := 1) (d := 4) (by omega) rfl hun' ⟨by omega, by omega, by omega⟩ (h13 (by omega)) (Below.refl _ _) _ (n1 := fun _ => rfl)
    · have l1 : L.getD 1 false = true := hall ⟨1, .data⟩ (by simp) rfl
      have t := I.f1 (h13 (by omega)) l1
      have c := I.x.cells
      unfold Oper.wp
      simp [go_sem, Act.eval, t, c]
      exact I.carry (i := 2) (d := 5) (by omega) rfl hun' ⟨by omega, by omega, by omega⟩ (h13 (by omega)) (Below.refl _ _) _ (n2 := fun _ => rfl)
    · have l0 : L.getD 0 false = true := hall ⟨0, .data⟩ (by simp) rfl
      have l2 : L.getD 2 false = true := hall ⟨2, .data⟩ (by simp) rfl
      obtain ⟨g, hs⟩ := I.f0 (h13 (by omega)) l0
      refine wp_append_bools0 w' rfl (.tmp 3) (.tmp 5) rfl hs (I.f2 (h13 (by omega)) l2) (HU.out.below (I.bl.mono hB)) p1 n1 ?_
      intro U' cu' w1 hr hb
      exact I.carry (i := 3) (d := 6) (by omega) rfl hun' ⟨by omega, by omega, by omega⟩ (h13 (by omega)) hb (.slice U' nu cu') (n3 := fun _ => ⟨U', cu', rfl, hr.mono I.hs⟩)
    · unfold Oper.wp
      simp [go_sem, Act.eval]
      exact I.carry (i := 4) (d := 7) (by omega) rfl hun' ⟨by omega, by omega, by omega⟩ (h13 (by omega)) ((Below.refl _ _).alloc (Nat.le_refl _) _) (.slice (some ⟨w'.heap.size, 0, none⟩) 0 0) (n0 := fun _ => ⟨_, rfl⟩)
    · have t1 := I.t1
      unfold Oper.wp
      simp [go_sem, Act.eval, t1]
      exact I.carry (i := 5) (d := 8) (by omega) rfl hun' ⟨by omega, by omega, by omega⟩ (h13 (by omega)) (Below.refl _ _) _ (n5 := fun _ => rfl)
    · have l5 : L.getD 5 false = true := hall ⟨5, .data⟩ (by simp) rfl
      have t := I.f5 (h13 (by omega)) l5
      have c := I.x.cells
      unfold Oper.wp
      simp [go_sem, Act.eval, t, c]
      exact I.carry (i := 6) (d := 9) (by omega) rfl hun' ⟨by omega, by omega, by omega⟩ (h13 (by omega)) (Below.refl _ _) _ (n6 := fun _ => rfl)
    · have l4 : L.getD 4 false = true := hall ⟨4, .data⟩ (by simp) rfl
      have l6 : L.getD 6 false = true := hall ⟨6, .data⟩ (by simp) rfl
      have l3 : L.getD 3 false = true := hall ⟨3, .chain⟩ (by simp) rfl
      obtain ⟨g, hs⟩ := I.f4 (h13 (by omega)) l4
      obtain ⟨U', cu', h6, hu⟩ := I.f3 (h13 (by omega)) l3
      refine wp_append_bools0 w' rfl (.tmp 7) (.tmp 9) rfl hs (I.f6 (h13 (by omega)) l6) (HD.out.below (I.bl.mono hB)) p2 n2 ?_
      intro D' cd' w1 hr hb
      exact I.carry (i := 7) (d := 10) (by omega) rfl hun' ⟨fun _ => l3, by omega, by omega⟩ (h13 (by omega)) hb (.slice D' nd cd') (n7 := fun _ => ⟨U', cu', D', cd', h6, rfl, hu.below hb (Nat.le_refl _), hr.mono I.hs, hu.place.apart hr.place (Nat.le_refl _)⟩)
    · unfold Oper.wp
      simp [go_sem, Act.eval]
      exact I.carry (i := 8) (d := 11) (by omega) rfl hun' ⟨by omega, by omega, by omega⟩ (h13 (by omega)) ((Below.refl _ _).alloc (Nat.le_refl _) _) (.slice (some ⟨w'.heap.size, 0, none⟩) 0 0) (n0 := fun _ => ⟨_, rfl⟩)
    · have t1 := I.t1
      unfold Oper.wp
      simp [go_sem, Act.eval, t1]
      exact I.carry (i := 9) (d := 12) (by omega) rfl hun' ⟨by omega, by omega, by omega⟩ (h13 (by omega)) (Below.refl _ _) _ (n9 := fun _ => rfl)
    · have l9 : L.getD 9 false = true := hall ⟨9, .data⟩ (by simp) rfl
      have t := I.f9 (h13 (by omega)) l9
      have c := I.x.cells
      unfold Oper.wp
      simp [go_sem, Act.eval, t, c]
      exact I.carry (i := 10) (d := 13) (by omega) rfl hun' ⟨by omega, by omega, by omega⟩ (h13 (by omega)) (Below.refl _ _) _ (n10 := fun _ => rfl)
    · have l8 : L.getD 8 false = true := hall ⟨8, .data⟩ (by simp) rfl
      have l10 : L.getD 10 false = true := hall ⟨10, .data⟩ (by simp) rfl
      have l7 : L.getD 7 false = true := hall ⟨7, .chain⟩ (by simp) rfl
      obtain ⟨g, hs⟩ := I.f8 (h13 (by omega)) l8
      obtain ⟨U', cu', D', cd', h6, h10, hu, hd, hud⟩ := I.f7 (h13 (by omega)) l7
      refine wp_append_bools0 w' rfl (.tmp 11) (.tmp 13) rfl hs (I.f10 (h13 (by omega)) l10) (HC.out.below (I.bl.mono hB)) p3 n3 ?_
      intro C' cc' w1 hr hb
      exact I.carry (i := 11) (d := 14) (by omega) rfl hun' ⟨by omega, fun _ => l7, by omega⟩ (h13 (by omega)) hb (.slice C' nc cc') (n11 := fun _ => ⟨U', cu', D', cd', C', cc', h6, h10, rfl, ⟨hu.below hb (Nat.le_refl _), hd.below hb (Nat.le_refl _), hr.mono I.hs, hud, hu.place.apart hr.place (Nat.le_refl _), hd.place.apart hr.place (Nat.le_refl _)⟩⟩)
    · have l3 : L.getD 3 false = true := hall ⟨3, .data⟩ (by simp) rfl
      have l7 : L.getD 7 false = true := hall ⟨7, .data⟩ (by simp) rfl
      have l11 : L.getD 11 false = true := hall ⟨11, .data⟩ (by simp) rfl
      have h11 := I.f11 (h13 (by omega)) l11
      obtain ⟨U', cu', D', cd', r⟩ := h11
      obtain ⟨C', cc', h6, h10, r⟩ := r
      obtain ⟨h14, hown⟩ := r
      have k6 : a.tmps[6]?.getD undef = .slice U' nu cu' := by simpa using h6
      have k10 : a.tmps[10]?.getD undef = .slice D' nd cd' := by simpa using h10
      have k14 : a.tmps[14]?.getD undef = .slice C' nc cc' := by simpa using h14
      unfold Oper.wp
      simp [go_sem, Act.eval, k6, k10, k14]
      exact I.carry (i := 12) (d := 15) (by omega) rfl hun' ⟨by omega, by omega, fun _ => l11⟩ (h13 (by omega)) (Below.refl _ _) _ (n12 := fun _ => ⟨U', cu', D', cd', C', cc', rfl, hown⟩)
    · have l12 : L.getD 12 false = true := hall ⟨12, .data⟩ (by simp) rfl
      obtain ⟨U', cu', D', cd', C', cc', h15, hown⟩ := I.f12 hun' l12
      have t2 := I.t2
      have c1 := (I.y hun').cells
      have z1 := (I.y hun').free
      unfold Oper.wp
      simp [go_sem, Act.eval, t2, h15, c1, z1]
      have hw : ∀ j, 13 ≠ j → (L.setIfInBounds 13 true).getD j false = L.getD j false := fun j h => getD_set_ne false h
      have hself : (L.setIfInBounds 13 true).getD 13 false = true := getD_set_self false (by rw [I.sz]; omega)
      have no : ∀ (p : Prop), (L.setIfInBounds 13 true).getD 13 false = false → p := fun p h => by rw [hself] at h; cases h
      have hb3 := ((I.bl.setCell (p := ⟨w.heap.size + 1, 0, none⟩) (by simp) (.slice U' nu cu')).setCell (p := ⟨w.heap.size + 1, 1, none⟩) (by simp) (.slice D' nd cd')).setCell (p := ⟨w.heap.size + 1, 2, none⟩) (by simp) (.slice C' nc cc')
      have hx3 := ((I.x.far ⟨w.heap.size + 1, 0, none⟩ (.slice U' nu cu') (by simp)).far ⟨w.heap.size + 1, 1, none⟩ (.slice D' nd cd') (by simp)).far ⟨w.heap.size + 1, 2, none⟩ (.slice C' nc cc') (by simp)
      have hy3 := (((I.y hun').set 0 (.slice U' nu cu')).set 1 (.slice D' nd cd')).set 2 (.slice C' nc cc')
      have hall' : ∀ k, k < 13 → L.getD k false = true := by
        intro k hk
        rcases (by omega : k = 0 ∨ k = 1 ∨ k = 2 ∨ k = 3 ∨ k = 4 ∨ k = 5 ∨ k = 6 ∨ k = 7 ∨ k = 8 ∨ k = 9 ∨ k = 10 ∨ k = 11 ∨ k = 12) with rfl | rfl | rfl | rfl | rfl | rfl | rfl | rfl | rfl | rfl | rfl | rfl | rfl
        · exact hall ⟨0, .phase⟩ (by simp) rfl
        · exact hall ⟨1, .phase⟩ (by simp) rfl
        · exact hall ⟨2, .phase⟩ (by simp) rfl
        · exact hall ⟨3, .phase⟩ (by simp) rfl
        · exact hall ⟨4, .phase⟩ (by simp) rfl
        · exact hall ⟨5, .phase⟩ (by simp) rfl
        · exact hall ⟨6, .phase⟩ (by simp) rfl
        · exact hall ⟨7, .phase⟩ (by simp) rfl
        · exact hall ⟨8, .phase⟩ (by simp) rfl
        · exact hall ⟨9, .phase⟩ (by simp) rfl
        · exact hall ⟨10, .phase⟩ (by simp) rfl
        · exact hall ⟨11, .phase⟩ (by simp) rfl
        · exact hall ⟨12, .phase⟩ (by simp) rfl
      have hall3 : ∀ k, k < 13 → (L.setIfInBounds 13 true).getD k false = true := fun k hk => by rw [hw k (by omega)]; exact hall' k hk
      exact ⟨by simp [I.sz], I.ts, I.t1, I.t2, I.df, hb3, by simpa using I.hs, hx3, no _, fun _ => hall3 3 (by omega), fun _ => hall3 7 (by omega), fun _ => hall3 11 (by omega), fun _ => hall3,
        no _, no _, no _, no _, no _, no _, no _, no _, no _, no _, no _, no _, no _, fun _ => ⟨U', cu', D', cd', C', cc', hy3,
          ⟨((hown.u.far _ _ (by simp)).far _ _ (by simp)).far _ _ (by simp), ((hown.d.far _ _ (by simp)).far _ _ (by simp)).far _ _ (by simp), ((hown.c.far _ _ (by simp)).far _ _ (by simp)).far _ _ (by simp), hown.ud, hown.uc, hown.dc⟩⟩⟩
  · have z : ∀ k, (Array.replicate 14 false).getD k false = false := by
      intro k
      rcases Nat.lt_or_ge k 14 with h | h
      · simp [h]
      · simp [h]
    have n : ∀ (k : Nat) (p : Prop), (Array.replicate 14 false).getD k false = true → p := fun k p h => by rw [z k] at h; cases h
    exact ⟨rfl, rfl, rfl, rfl, rfl, HZ.out, by rw [HZ0.out]; exact Nat.le_refl _, HX.out, fun _ => HY.out, n _ _, n _ _, n _ _, n _ _, fun _ => n _ _, fun _ => n _ _, fun _ => n _ _, fun _ => n _ _, fun _ => n _ _, fun _ => n _ _, fun _ => n _ _, fun _ => n _ _, fun _ => n _ _, fun _ => n _ _, fun _ => n _ _, fun _ => n _ _, fun _ => n _ _, n _ _⟩
end Go.Proofs.YthkpikkjgggimaaGreatDoor

namespace Go.Proofs.YthkpikkjgggimaaGreatDoor
open Go.RowKit
set_option linter.unusedVariables false
set_option linter.unusedSimpArgs false

set_option maxHeartbeats 3200000 in
theorem l27Copy_any {w : World} {B : Nat} {v : Bv} {b : Bld} (p0 : 0 < b.n) (p1 : 0 < b.nu) (p2 : 0 < b.nd) (p3 : 0 < b.nc) (n0 : b.n ≤ 100000000) (n1 : b.nu ≤ 100000000) (n2 : b.nd ≤ 100000000) (n3 : b.nc ≤ 100000000) (hB : B ≤ w.heap.size) (hr : ReadB w B v b) :
    Calls Tryz.prog 35 #[bval v b] w fun e w' => ∃ v', e = .returned (bval v' b) ∧ OwnB w' w.heap.size v' b ∧ Below w.heap.size w w' := by
  have HR := Lib.hid hr
  clear hr
  unfold bval bcells
  go_enter Tryz.func35, Tryz.ntmps35
  go_wp2_with (at_builtin; refine append_ints _ rfl _ _ rfl rfl (Row.emptyAt (g := w.heap.size + 1 + 1 + 1) (base := w.heap.size + 3) b.f (by simp) (by simp)) rfl ((((HR.out.alloc hB _).alloc (Nat.le_trans hB (by simp <;> omega)) _).alloc (Nat.le_trans hB (by simp <;> omega)) _).alloc (Nat.le_trans hB (by simp <;> omega)) _).h (fun h => HR.out.hn h) (by omega) (by simp) ?_; intro A' c' w1 hr1 hg1; have h1 := hr1.congr (g := b.f) (fun i hi => by rw [catF_hi (by omega), Nat.sub_zero]); rw [Nat.zero_add] at h1; have hb1 := ((Below.refl _ (((w.alloc (.cells (bcells v b) 36)).alloc (.cells #[.slice none 0 0, .int .i64 0, .int .i64 0, .int .i64 0, .int .i64 0, .slice none 0 0, .slice none 0 0, .slice none 0 0, .int .i64 0, .int .i64 0, .bool false] 36)).alloc (.cells (bcells v b) 36))).alloc (Nat.le_refl _) (.cells #[] 3)).grown hg1 (by simp) (by intro k hk; simp [Value.ownBlock] at hk; simp; omega); have F1 := Fr.start hb1; unfold bcells at F1; have hs1 : w.heap.size + 3 ≤ w1.heap.size := (by have := hb1.size; simp at this; omega); have HP1 := Lib.hid h1.place; have HH1 := Lib.hid h1; have HF1 := Lib.hid F1; have c0 := F1.x0.cells; have c2 := F1.x2.cells; have z2 := F1.x2.free; clear hb1 hr1 hg1 F1 h1)
  have HRs := Lib.hid (HR.out.below ((HF1.out.set 0 (.slice A' b.n c')).b.mono hB))
  refine (l8Copy_any p1 p2 p3 (by omega) (by omega) (by omega) (Nat.le_trans hB (HF1.out.set 0 (.slice A' b.n c')).b.size) HRs.out.u HRs.out.d HRs.out.c).mono ?_
  rintro e w2 ⟨U', cu', D', cd', C', cc', rfl, hk, hb2⟩
  have F2 := (HF1.out.set 0 (.slice A' b.n c')).call hb2
  have h2 := (HH1.out.far ⟨w.heap.size + 1 + 1, 0, none⟩ (.slice A' b.n c') (by simp)).below hb2 (Nat.le_refl _)
  have hs2 : w1.heap.size ≤ w2.heap.size := by have := hb2.size; simpa using this
  have hk' := hk.mono (base' := w1.heap.size) (by simp)
  have HOWN : Hid (OwnB w2 (w.heap.size + 3) ⟨A', c', U', cu', D', cd', C', cc'⟩ b) := Lib.hid ⟨h2, hk'.mono hs1, HP1.out.apart hk'.u.place (Nat.le_refl _), HP1.out.apart hk'.d.place (Nat.le_refl _), HP1.out.apart hk'.c.place (Nat.le_refl _)⟩
  have HF2 := Lib.hid F2
  clear c0 c2 z2
  have c0 := F2.x0.cells
  have c1 := F2.x1.cells
  have z1 := F2.x1.free
  have c2 := F2.x2.cells
  have z2 := F2.x2.free
  clear hb2 F2 h2 hk hk' HH1 HF1 HRs
  go_wp2
  refine bodyPost_ret (v := bval ⟨A', c', U', cu', D', cd', C', cc'⟩ b) (by simp [bval, bcells, results, Tryz.results35, go_sem, c1, c2]) rfl ⟨⟨A', c', U', cu', D', cd', C', cc'⟩, rfl, ?_, ?_⟩
  · exact (sets_own (putL (w.heap.size + 1) ⟨A', c', U', cu', D', cd', C', cc'⟩ b) (sets_own [(⟨w.heap.size + 1 + 1, 5, none⟩, .slice U' b.nu cu'), (⟨w.heap.size + 1 + 1, 6, none⟩, .slice D' b.nd cd'), (⟨w.heap.size + 1 + 1, 7, none⟩, .slice C' b.nc cc')] HOWN.out (by simp <;> omega)) (fun q hq => by rw [putL_block q hq]; omega)).mono (by omega)
  · exact sets_below (putL (w.heap.size + 1) ⟨A', c', U', cu', D', cd', C', cc'⟩ b) (sets_below [(⟨w.heap.size + 1 + 1, 5, none⟩, .slice U' b.nu cu'), (⟨w.heap.size + 1 + 1, 6, none⟩, .slice D' b.nd cd'), (⟨w.heap.size + 1 + 1, 7, none⟩, .slice C' b.nc cc')] HF2.out.b (by simp <;> omega)) (fun q hq => by rw [putL_block q hq]; omega)
end Go.Proofs.YthkpikkjgggimaaGreatDoor
