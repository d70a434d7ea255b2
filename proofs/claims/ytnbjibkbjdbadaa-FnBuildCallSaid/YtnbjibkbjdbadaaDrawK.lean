/-
  The contract of the drawing of a building beside a call. No claim stands here.
-/
import Derived.Test.YtnbjibkbjdbadaaDrawJ
namespace Go.Proofs.Ytnbjibkbjdbadaa
open Go.RowKit
set_option linter.unusedVariables false
set_option linter.unusedSimpArgs false

/-- What DrawBuildCall leaves. -/
def DrawnK (w : World) (e : Ending) (w' : World) : Prop := ∃ (v : Bv) (b : Bld) (kind fl : Int), e = .returned (.tuple #[bval v b, .int .i64 kind, .int .i64 fl]) ∧ ReadB w' w'.heap.size v b ∧ b.Upto 9 ∧ Below w.heap.size w w'
def AskR (g g2 g6 : Nat) (v : Bv) (b : Bld) : Nat → Value → World → Prop
  | 0, u, _ => u = bval v b
  | 1, u, _ => u = .pointer (some ⟨g, 0, none⟩)
  | 3, u, _ => u = .pointer (some ⟨g, 0, none⟩)
  | 8, u, _ => u = .pointer (some ⟨g, 0, none⟩)
  | 9, u, _ => u = .pointer (some ⟨g6, 0, none⟩)
  | 10, u, _ => u = .slice v.A b.n v.c
  | 11, u, _ => u = .int .i64 b.n
  | 12, u, _ => u = .int .i64 ((b.n : Int) + 1)
  | 14, u, _ => u = .pointer (some ⟨g, 0, none⟩)
  | 18, _, W => Bx W g2 (bcells v b)
  | _, u, _ => AnInt u
theorem AskR_keep {g g2 g6 : Nat} {v : Bv} {b : Bld} {W W' : World} (hx : Bx W g2 (bcells v b) → Bx W' g2 (bcells v b)) : ∀ j u, AskR g g2 g6 v b j u W → AskR g g2 g6 v b j u W' := by
  intro j u h
  unfold AskR at h ⊢
  split at h
  all_goals first
    | exact h
    | exact hx h

set_option maxRecDepth 4000 in
set_option maxHeartbeats 12800000 in
theorem DrawBuildCall_any {w : World} {B : Nat} {A : Option Addr} {n c : Nat} {h : Nat → Int} (hB : B ≤ w.heap.size) (hc : n ≤ c) (hs : Bytes w B A n h) :
    Calls Try.prog 17 #[.slice A n c] w (DrawnK w) := by
  have HX0 := Lib.hid (Bx.new w #[.slice none 0 0, .int .i64 0, .int .i64 0, .int .i64 0, .int .i64 0, .slice none 0 0, .slice none 0 0, .slice none 0 0, .int .i64 0, .int .i64 0, .bool false] 36)
  have HB0 := Lib.hid ((Below.refl w.heap.size w).alloc (Nat.le_refl _) (.cells #[.slice none 0 0, .int .i64 0, .int .i64 0, .int .i64 0, .int .i64 0, .slice none 0 0, .slice none 0 0, .slice none 0 0, .int .i64 0, .int .i64 0, .bool false] 36))
  have HS := Lib.hid (hs.below (HB0.out.mono hB))
  clear hs
  unfold DrawnK
  go_enter Try.func17, Try.ntmps17
  go_wp2_with fail
  refine (l20Open_any (Nat.le_trans hB (by simp)) hc HS.out).mono ?_
  rintro e w1 ⟨g, rfl, hgl, hr1, hb1⟩
  have hgl' : w.heap.size < g := by simp at hgl; omega
  have HX1 := Lib.hid (HX0.out.below hb1 HX0.out.lt)
  have HB1 := Lib.hid (HB0.out.trans (hb1.mono HB0.out.size))
  have HR1 := Lib.hid hr1
  have hs1 : w.heap.size + 1 ≤ w1.heap.size := by have := hb1.size; simpa using this
  clear hgl hb1 hr1 HX0 HB0 HS
  go_wp2_with fail
  refine (l20Building_any (by omega) (by omega) (by omega) HR1.out).mono ?_
  rintro e w2 ⟨v, b, rfl, hrb, hu, hr2, hg2, hoff⟩
  have hg1l := HR1.out.lt
  have hsz2 := hg2.size
  have HOg := Lib.hid (hoff g hg1l)
  have HOw := Lib.hid (hoff w.heap.size (by omega))
  have HU := Lib.hid hu
  have hgw2 : g < w2.heap.size := by omega
  have hb9 : b.n ≤ 9 := hu.1
  have HG : Hid (JG w g w.heap.size w2.heap.size w2.heap.size (0 + 10000) 18 v b (Array.replicate 21 false) 0 (w2.alloc (.cells (bcells v b) 36)).drew) := by
    have hx2 := (HX1.out.kept hg2 (by omega)).alloc (.cells (bcells v b) 36)
    have hal := (Below.refl w2.heap.size w2).alloc (Nat.le_refl _) (.cells (bcells v b) 36)
    exact Lib.hid ⟨((below_grown HB1.out hg2 (by omega)).alloc (by omega) _).drew, (Bx.new w2 (bcells v b) _).drewN 1, ⟨Bv.none, Bld.none, hx2.drewN 1⟩, (hrb.below hal).drewN 1, by simp, fun _ => (hr2.alloc _).drewN 1⟩
  clear hrb hu hr2 hg2 hoff HX1 HB1 HR1
  simp only [bval, bcells] at HG ⊢
  go_wp2_with fail
  rename_i hK
  refine wp_region_any (by kernel_rfl) ?_
  refine wpAny_typedL 21 (fun i => (#[11, 12, 13, 14, 15, 16, 17, 18, 19, 20, 21, 22, 23, 24, 25, 26, 27, 28, 1000, 3, 4] : Array Nat).getD i 0) (fun i => i == 18) (AskR g w.heap.size w2.heap.size v b) (JG w g w.heap.size w2.heap.size w2.heap.size (0 + 10000) 18 v b) rfl 29 rfl (by kernel_rfl) HG.out ?_ ?_
  · intro a W U hR hG
    obtain ⟨f, hf, ha⟩ := U.form [false, false, false, true, true, false, false, false, false, false, false, true, true, true, true, true, true, true, true, true, true, true, true, true, true, true, true, true, true] rfl (by decide)
    obtain ⟨c3, h3⟩ := hR 19 (by omega)
    obtain ⟨c4, h4⟩ := hR 20 (by omega)
    have hx2 := hR 18 (by omega)
    have e3 : a.tmps.getD 3 undef = f 3 := hf 19 (by omega)
    have e4 : a.tmps.getD 4 undef = f 4 := hf 20 (by omega)
    have h3' : f 3 = .int .i64 c3 := e3.symm.trans h3
    have h4' : f 4 = .int .i64 c4 := e4.symm.trans h4
    simp only [letters, cond_true, cond_false, Nat.reduceAdd, h3', h4'] at ha
    obtain ⟨L, kk, hkk, _, _, hg⟩ := hG
    have HE := Lib.hid hg.r
    have HBL := Lib.hid hg.o
    have hBs := hg.hB
    have hx2' : Bx W w.heap.size (bcells v b) := hx2
    unfold bcells at hx2'
    have c2 := hx2'.cells
    clear hR hf U h3 h4 e3 e4 h3' h4' hg hx2 hx2' HG
    subst ha
    refine hK _ _ ?_
    go_wp2
    obtain ⟨A', cA', U', cu', D', cd', C', cc'⟩ := v
    obtain ⟨n', f', pos', sp', gap', hold', nu', up', nd', dn', nc', car', fl', dir', op'⟩ := b
    simp only at c2
    refine bodyPost_ret (v := .tuple #[.agg #[.slice A' n' cA', .int .i64 pos', .int .i64 sp', .int .i64 gap', .int .i64 hold', .slice U' nu' cu', .slice D' nd' cd', .slice C' nc' cc', .int .i64 fl', .int .i64 dir', .bool op'], .int .i64 c3, .int .i64 c4]) (by simp [results, Try.results17, go_sem, c2]) rfl ⟨_, _, c3, c4, rfl, HE.out.more hBs, HU.out, HBL.out⟩
  · intro i' o ho L a W k' hLs hLi hLw U hG hk' hd
    have hlt : i' < 21 := (Array.getElem?_eq_some_iff.1 ho).1
    have h6 := U.other 6 (by decide)
    have t6 : a.tmps[6]?.getD undef = .pointer (some ⟨w2.heap.size, 0, none⟩) := by simpa using h6
    have c6 := hG.x6.cells
    unfold bcells at c6
    have h5 := U.other 5 (by decide)
    have t5 : a.tmps[5]?.getD undef = .pointer (some ⟨g, 0, none⟩) := by simpa using h5
    have w15 : L.getD 18 false = true → L.getD 15 false = true := hLw 18 15 ⟨_, rfl, ⟨15, .chain⟩, by simp, rfl, rfl⟩
    have w13 : L.getD 15 false = true → L.getD 13 false = true := hLw 15 13 ⟨_, rfl, ⟨13, .chain⟩, by simp, rfl, rfl⟩
    have w4 : L.getD 13 false = true → L.getD 4 false = true := hLw 13 4 ⟨_, rfl, ⟨4, .chain⟩, by simp, rfl, rfl⟩
    have w2' : L.getD 4 false = true → L.getD 2 false = true := hLw 4 2 ⟨_, rfl, ⟨2, .chain⟩, by simp, rfl, rfl⟩
    rcases (by omega : i' = 0 ∨ i' = 1 ∨ i' = 2 ∨ i' = 3 ∨ i' = 4 ∨ i' = 5 ∨ i' = 6 ∨ i' = 7 ∨ i' = 8 ∨ i' = 9 ∨ i' = 10 ∨ i' = 11 ∨ i' = 12 ∨ i' = 13 ∨ i' = 14 ∨ i' = 15 ∨ i' = 16 ∨ i' = 17 ∨ i' = 18 ∨ i' = 19 ∨ i' = 20) with rfl | rfl | rfl | rfl | rfl | rfl | rfl | rfl | rfl | rfl | rfl | rfl | rfl | rfl | rfl | rfl | rfl | rfl | rfl | rfl | rfl
    all_goals (refine wpOp_of ho (by cases ho; rfl) ?_; cases ho)
    · unfold Oper.wp
      simp [go_sem, Act.eval, t6, c6]
      exact ⟨hG.step 0 (by omega), fun j v _ h => h, .inl ⟨rfl, _, rfl, rfl⟩⟩
    · unfold Oper.wp
      simp [go_sem, Act.eval, t5]
      exact ⟨hG.step 1 (by omega), fun j v _ h => h, .inl ⟨rfl, _, rfl, rfl⟩⟩
    · have h1 := hd ⟨1, .data⟩ (by simp) rfl
      have t12 : a.tmps[12]?.getD undef = .pointer (some ⟨g, 0, none⟩) := by simpa [AskR] using h1
      have hrd := hG.rd (unl (fun h => w2' (w4 (w13 (w15 h)))) hLi)
      unfold Oper.wp
      simp [go_sem, Act.eval, t12]
      refine (hrd.pick 3 (by omega) (by omega)).mono ?_
      rintro e w' ⟨xx, rfl, hp, hr, hg⟩
      exact ⟨hG.picked 2 (by omega) hg (hr.mono (by omega)) (by omega) (by omega) (by omega) HOg.out, fun j v hj h => AskR_keep (fun h => h.kept hg (by omega)) j v h, .inl ⟨rfl, _, rfl, ⟨_, rfl⟩⟩⟩
    · unfold Oper.wp
      simp [go_sem, Act.eval, t5]
      exact ⟨hG.step 3 (by omega), fun j v _ h => h, .inl ⟨rfl, _, rfl, rfl⟩⟩
    · have h3 := hd ⟨3, .data⟩ (by simp) rfl
      have t14 : a.tmps[14]?.getD undef = .pointer (some ⟨g, 0, none⟩) := by simpa [AskR] using h3
      have hrd := hG.rd (unl (fun h => w4 (w13 (w15 h))) hLi)
      unfold Oper.wp
      simp [go_sem, Act.eval, t14]
      refine (hrd.pick 20 (by omega) (by omega)).mono ?_
      rintro e w' ⟨xx, rfl, hp, hr, hg⟩
      exact ⟨hG.picked 4 (by omega) hg (hr.mono (by omega)) (by omega) (by omega) (by omega) HOg.out, fun j v hj h => AskR_keep (fun h => h.kept hg (by omega)) j v h, .inl ⟨rfl, _, rfl, ⟨_, rfl⟩⟩⟩
    · obtain ⟨c15, h15⟩ := hd ⟨4, .data⟩ (by simp) rfl
      have t15 : a.tmps[15]?.getD undef = .int .i64 c15 := by simpa using h15
      unfold Oper.wp
      simp [go_sem, Act.eval, t15]
      exact ⟨hG.step 5 (by omega), fun j v _ h => h, .inl ⟨rfl, _, rfl, ⟨_, rfl⟩⟩⟩
    · obtain ⟨c16, h16⟩ := hd ⟨5, .data⟩ (by simp) rfl
      have t16 : a.tmps[16]?.getD undef = .int .i64 c16 := by simpa using h16
      unfold Oper.wp
      simp [go_sem, Act.eval, t16]
      exact ⟨hG.step 6 (by omega), fun j v _ h => h, .inl ⟨rfl, _, rfl, ⟨_, rfl⟩⟩⟩
    · obtain ⟨c13, h13⟩ := hd ⟨2, .data⟩ (by simp) rfl
      have t13 : a.tmps[13]?.getD undef = .int .i64 c13 := by simpa using h13
      obtain ⟨c17, h17⟩ := hd ⟨6, .data⟩ (by simp) rfl
      have t17 : a.tmps[17]?.getD undef = .int .i64 c17 := by simpa using h17
      unfold Oper.wp
      simp [go_sem, Act.eval, t13, t17]
      exact ⟨hG.step 7 (by omega), fun j v _ h => h, .inl ⟨rfl, _, rfl, ⟨_, rfl⟩⟩⟩
    · unfold Oper.wp
      simp [go_sem, Act.eval, t5]
      exact ⟨hG.step 8 (by omega), fun j v _ h => h, .inl ⟨rfl, _, rfl, rfl⟩⟩
    · unfold Oper.wp
      simp [go_sem, Act.eval, t6]
      exact ⟨hG.step 9 (by omega), fun j v _ h => h, .inl ⟨rfl, _, rfl, rfl⟩⟩
    · have h9 := hd ⟨9, .data⟩ (by simp) rfl
      have t20 : a.tmps[20]?.getD undef = .pointer (some ⟨w2.heap.size, 0, none⟩) := by simpa [AskR] using h9
      unfold Oper.wp
      simp [go_sem, Act.eval, t20, c6]
      exact ⟨hG.step 10 (by omega), fun j v _ h => h, .inl ⟨rfl, _, rfl, rfl⟩⟩
    · have h10 := hd ⟨10, .data⟩ (by simp) rfl
      have t21 : a.tmps[21]?.getD undef = .slice v.A b.n v.c := by simpa [AskR] using h10
      unfold Oper.wp
      simp [go_sem, Act.eval, t21]
      exact ⟨hG.step 11 (by omega), fun j v _ h => h, .inl ⟨rfl, _, rfl, rfl⟩⟩
    · have h11 := hd ⟨11, .data⟩ (by simp) rfl
      have t22 : a.tmps[22]?.getD undef = .int .i64 b.n := by simpa [AskR] using h11
      have hw : IntKind.i64.wrap ((b.n : Int) + 1) = (b.n : Int) + 1 := IntWalk.i64_in _ (by omega)
      unfold Oper.wp
      simp [go_sem, Act.eval, t22, hw]
      exact ⟨hG.step 12 (by omega), fun j v _ h => h, .inl ⟨rfl, _, rfl, rfl⟩⟩
    · have h8 := hd ⟨8, .data⟩ (by simp) rfl
      have t19 : a.tmps[19]?.getD undef = .pointer (some ⟨g, 0, none⟩) := by simpa [AskR] using h8
      have h12 := hd ⟨12, .data⟩ (by simp) rfl
      have t23 : a.tmps[23]?.getD undef = .int .i64 ((b.n : Int) + 1) := by simpa [AskR] using h12
      have hrd := hG.rd (unl (fun h => w13 (w15 h)) hLi)
      unfold Oper.wp
      simp [go_sem, Act.eval, t19, t23]
      refine (hrd.pick ((b.n : Int) + 1) (by omega) (by omega)).mono ?_
      rintro e w' ⟨xx, rfl, hp, hr, hg⟩
      exact ⟨hG.picked 13 (by omega) hg (hr.mono (by omega)) (by omega) (by omega) (by omega) HOg.out, fun j v hj h => AskR_keep (fun h => h.kept hg (by omega)) j v h, .inl ⟨rfl, _, rfl, ⟨_, rfl⟩⟩⟩
    · unfold Oper.wp
      simp [go_sem, Act.eval, t5]
      exact ⟨hG.step 14 (by omega), fun j v _ h => h, .inl ⟨rfl, _, rfl, rfl⟩⟩
    · have h14 := hd ⟨14, .data⟩ (by simp) rfl
      have t25 : a.tmps[25]?.getD undef = .pointer (some ⟨g, 0, none⟩) := by simpa [AskR] using h14
      have hrd := hG.rd (unl (fun h => w15 h) hLi)
      unfold Oper.wp
      simp [go_sem, Act.eval, t25]
      refine (hrd.pick 20 (by omega) (by omega)).mono ?_
      rintro e w' ⟨xx, rfl, hp, hr, hg⟩
      exact ⟨hG.picked 15 (by omega) hg (hr.mono (by omega)) (by omega) (by omega) (by omega) HOg.out, fun j v hj h => AskR_keep (fun h => h.kept hg (by omega)) j v h, .inl ⟨rfl, _, rfl, ⟨_, rfl⟩⟩⟩
    · obtain ⟨c26, h26⟩ := hd ⟨15, .data⟩ (by simp) rfl
      have t26 : a.tmps[26]?.getD undef = .int .i64 c26 := by simpa using h26
      unfold Oper.wp
      simp [go_sem, Act.eval, t26]
      exact ⟨hG.step 16 (by omega), fun j v _ h => h, .inl ⟨rfl, _, rfl, ⟨_, rfl⟩⟩⟩
    · obtain ⟨c24, h24⟩ := hd ⟨13, .data⟩ (by simp) rfl
      have t24 : a.tmps[24]?.getD undef = .int .i64 c24 := by simpa using h24
      obtain ⟨c27, h27⟩ := hd ⟨16, .data⟩ (by simp) rfl
      have t27 : a.tmps[27]?.getD undef = .int .i64 c27 := by simpa using h27
      unfold Oper.wp
      simp [go_sem, Act.eval, t24, t27]
      exact ⟨hG.step 17 (by omega), fun j v _ h => h, .inl ⟨rfl, _, rfl, ⟨_, rfl⟩⟩⟩
    · have h0 := hd ⟨0, .data⟩ (by simp) rfl
      have t11 : a.tmps[11]?.getD undef = bval v b := by simpa [AskR] using h0
      have h2 := U.other 2 (by decide)
      have t2 : a.tmps[2]?.getD undef = .pointer (some ⟨w.heap.size, 0, none⟩) := by simpa using h2
      obtain ⟨v0, b0, hx0⟩ := hG.x2
      have c2 := hx0.cells
      have f2 := hx0.free
      unfold bcells at c2
      unfold bval bcells at t11
      have hx1 := hx0
      unfold bcells at hx1
      unfold Oper.wp
      simp [go_sem, Act.eval, t2, t11, c2, f2]
      exact ⟨hG.stored (by rw [hLs]; omega) (Nat.le_refl _) (by omega) HOw.out, fun j u hj h => AskR_keep (fun _ => hx1.put v b) j u h, .inr ⟨rfl, hx1.put v b⟩⟩
    · obtain ⟨c18, h18⟩ := hd ⟨7, .data⟩ (by simp) rfl
      have t18 : a.tmps[18]?.getD undef = .int .i64 c18 := by simpa using h18
      unfold Oper.wp
      simp [go_sem, Act.eval, t18]
      exact ⟨hG.step 19 (by omega), fun j v _ h => h, .inl ⟨rfl, _, rfl, ⟨_, rfl⟩⟩⟩
    · obtain ⟨c28, h28⟩ := hd ⟨17, .data⟩ (by simp) rfl
      have t28 : a.tmps[28]?.getD undef = .int .i64 c28 := by simpa using h28
      unfold Oper.wp
      simp [go_sem, Act.eval, t28]
      exact ⟨hG.step 20 (by omega), fun j v _ h => h, .inl ⟨rfl, _, rfl, ⟨_, rfl⟩⟩⟩
end Go.Proofs.Ytnbjibkbjdbadaa
