/-
  The contracts of the drawings of a building beside deeds or a call. No claim stands here.
-/
import Derived.Test.YtnbjibkbjdbadaaDrawI
import Derived.Test.YtnbjibkbjdbadaaTypedL
namespace Go.Proofs.Ytnbjibkbjdbadaa
open Go.RowKit
set_option linter.unusedVariables false
set_option linter.unusedSimpArgs false

/-- The box of the drawn building, the box of the result and the reader. -/
structure JG (w : World) (g g2 g6 B Q i18 : Nat) (v : Bv) (b : Bld) (L : Array Bool) (k : Nat) (W : World) : Prop where
  o : Below w.heap.size w W
  x6 : Bx W g6 (bcells v b)
  x2 : ∃ v0 b0, Bx W g2 (bcells v0 b0)
  r : ReadB W B v b
  hB : B ≤ W.heap.size
  rd : L.getD i18 false = false → Reads W g (Q + 1000 * k)
section
variable {w W W' : World} {g g2 g6 B Q i18 k : Nat} {v : Bv} {b : Bld} {L : Array Bool}
theorem JG.step (h : JG w g g2 g6 B Q i18 v b L k W) (i : Nat) (hi : i ≠ i18) : JG w g g2 g6 B Q i18 v b (L.setIfInBounds i true) (k + 1) W :=
  ⟨h.o, h.x6, h.x2, h.r, h.hB, fun hl => (h.rd (by rw [getD_set_ne false hi] at hl; exact hl)).mono (by omega)⟩
theorem JG.picked (h : JG w g g2 g6 B Q i18 v b L k W) (i : Nat) (hi : i ≠ i18) (hg : W.grownBy W' (some g)) (hr : Reads W' g (Q + 1000 * (k + 1))) (hwg : w.heap.size ≤ g) (h2 : g2 ≠ g) (h6 : g6 ≠ g) (hoff : Off g v) : JG w g g2 g6 B Q i18 v b (L.setIfInBounds i true) (k + 1) W' := by
  obtain ⟨v0, b0, h0⟩ := h.x2
  exact ⟨h.o.grown hg h.o.size (by intro b e; cases e; exact hwg), h.x6.kept hg h6, ⟨v0, b0, h0.kept hg h2⟩, h.r.picked h.hB hg hoff, Nat.le_trans h.hB hg.size, fun _ => hr⟩
theorem JG.stored (h : JG w g g2 g6 B Q i18 v b L k W) (hsz : i18 < L.size) (hwg : w.heap.size ≤ g2) (h2 : g6 ≠ g2) (hoff : Off g2 v) : JG w g g2 g6 B Q i18 v b (L.setIfInBounds i18 true) (k + 1) (sets W (putL g2 v b)) := by
  obtain ⟨v0, b0, h0⟩ := h.x2
  refine ⟨sets_below _ h.o (fun q hq => by rw [putL_block q hq]; exact hwg), sets_bx _ h.x6 (fun q hq => by rw [putL_block q hq]; exact Ne.symm h2), ⟨v, b, ?_⟩, readB_sets _ h.r (fun q hq => by rw [putL_block q hq]; exact hoff), by rw [sets_size]; exact h.hB, fun hl => ?_⟩
  · unfold bcells at h0; exact h0.put v b
  · rw [getD_set_self false hsz] at hl; cases hl
end

theorem unl {L : Array Bool} {j i : Nat} (h : L.getD j false = true → L.getD i false = true) (hi : L.getD i false = false) : L.getD j false = false := by
  cases hj : L.getD j false
  · rfl
  · rw [h hj] at hi; cases hi
/-! ### a building and deeds -/
/-- What DrawBuildRun leaves. -/
def DrawnR (w : World) (e : Ending) (w' : World) : Prop := ∃ v b a n c d, e = .returned (.tuple #[bval v b, .slice (some ⟨a, 0, none⟩) n c]) ∧ ReadB w' w'.heap.size v b ∧ b.Upto 9 ∧ n ≤ 29 ∧ n ≤ c ∧ c ≤ maxLen ∧ Deeds w' w'.heap.size (some ⟨a, 0, none⟩) n d ∧ Below w.heap.size w w'
def RunR (base g g2 : Nat) (v : Bv) (b : Bld) : Nat → Value → World → Prop
  | 0, u, _ => u = bval v b
  | 1, u, _ => u = .pointer (some ⟨g, 0, none⟩)
  | 2, u, _ => u = bval v b
  | 3, u, W => ∃ a n c d, u = .slice (some ⟨a, 0, none⟩) n c ∧ n ≤ 29 ∧ RowD W base (some ⟨a, 0, none⟩) n c d
  | 4, _, W => Bx W g2 (bcells v b)
  | 5, u, W => ∃ a n c d, u = .slice (some ⟨a, 0, none⟩) n c ∧ n ≤ 29 ∧ RowD W base (some ⟨a, 0, none⟩) n c d
  | _, _, _ => True
theorem RunR_keep {base g g2 : Nat} {v : Bv} {b : Bld} {W W' : World} (hr : ∀ {A : Option Addr} {n c : Nat} {d : Nat → Int × Int × Int}, RowD W base A n c d → RowD W' base A n c d) (hx : Bx W g2 (bcells v b) → Bx W' g2 (bcells v b)) : ∀ j u, RunR base g g2 v b j u W → RunR base g g2 v b j u W' := by
  intro j u h
  unfold RunR at h ⊢
  split at h
  all_goals first
    | exact h
    | exact hx h
    | (obtain ⟨A, n, c, d, h1, h2, h3⟩ := h; exact ⟨A, n, c, d, h1, h2, hr h3⟩)
theorem RowD.offstore {W : World} {base n c g2 : Nat} {A : Option Addr} {d : Nat → Int × Int × Int} (h : RowD W base A n c d) (v : Bv) (b : Bld) (hlt : g2 < base) : RowD (sets W (putL g2 v b)) base A n c d :=
  h.kept (sets_grown (putL g2 v b) putL_block) (.inr (by intro k e; cases e; left; exact hlt))

set_option maxRecDepth 4000 in
set_option maxHeartbeats 6400000 in
theorem DrawBuildRun_any {w : World} {B : Nat} {A : Option Addr} {n c : Nat} {h : Nat → Int} (hB : B ≤ w.heap.size) (hc : n ≤ c) (hs : Bytes w B A n h) :
    Calls Try.prog 33 #[.slice A n c] w (DrawnR w) := by
  have HX0 := Lib.hid (Bx.new w #[.slice none 0 0, .int .i64 0, .int .i64 0, .int .i64 0, .int .i64 0, .slice none 0 0, .slice none 0 0, .slice none 0 0, .int .i64 0, .int .i64 0, .bool false] 36)
  have HB0 := Lib.hid ((Below.refl w.heap.size w).alloc (Nat.le_refl _) (.cells #[.slice none 0 0, .int .i64 0, .int .i64 0, .int .i64 0, .int .i64 0, .slice none 0 0, .slice none 0 0, .slice none 0 0, .int .i64 0, .int .i64 0, .bool false] 36))
  have HS := Lib.hid (hs.below (HB0.out.mono hB))
  clear hs
  unfold DrawnR
  go_enter Try.func33, Try.ntmps33
  go_wp2_with fail
  refine (l20Open_any (Nat.le_trans hB (by simp)) hc HS.out).mono ?_
  rintro e w1 ⟨g, rfl, hgl, hr1, hb1⟩
  have hgl' : w.heap.size < g := by simp at hgl; omega
  have HX1 := Lib.hid (HX0.out.below hb1 HX0.out.lt)
  have HB1 := Lib.hid (HB0.out.trans (hb1.mono HB0.out.size))
  have HR1 := Lib.hid hr1
  have hs1 : w.heap.size + 1 ≤ w1.heap.size := by have := hb1.size; simpa using this
  clear hgl hb1 hr1 HX0 HB0 HS
  go_wp2_with fail
  refine (l20Building_any (by omega) (by omega) (by omega) HR1.out).mono ?_
  rintro e w2 ⟨v, b, rfl, hrb, hu, hr2, hg2, hoff⟩
  have hg1l := HR1.out.lt
  have hsz2 := hg2.size
  have HOg := Lib.hid (hoff g hg1l)
  have HOw := Lib.hid (hoff w.heap.size (by omega))
  have HU := Lib.hid hu
  have hgw2 : g < w2.heap.size := by omega
  have HG : Hid (JG w g w.heap.size w2.heap.size w2.heap.size (0 + 10000) 4 v b (Array.replicate 6 false) 0 (w2.alloc (.cells (bcells v b) 36)).drew) := by
    have hx2 := (HX1.out.kept hg2 (by omega)).alloc (.cells (bcells v b) 36)
    have hal := (Below.refl w2.heap.size w2).alloc (Nat.le_refl _) (.cells (bcells v b) 36)
    exact Lib.hid ⟨((below_grown HB1.out hg2 (by omega)).alloc (by omega) _).drew, (Bx.new w2 (bcells v b) _).drewN 1, ⟨Bv.none, Bld.none, hx2.drewN 1⟩, (hrb.below hal).drewN 1, by simp, fun _ => (hr2.alloc _).drewN 1⟩
  clear hrb hu hr2 hg2 hoff HX1 HB1 HR1
  simp only [bval, bcells] at HG ⊢
  go_wp2_with fail
  rename_i hK
  refine wp_region_any (by kernel_rfl) ?_
  refine wpAny_typedL 6 (fun i => (#[10, 11, 12, 13, 1000, 3] : Array Nat).getD i 0) (fun i => i == 4) (RunR (w2.heap.size + 1) g w.heap.size v b) (JG w g w.heap.size w2.heap.size w2.heap.size (0 + 10000) 4 v b) rfl 14 rfl (by kernel_rfl) HG.out ?_ ?_
  · intro a W U hR hG
    obtain ⟨f, hf, ha⟩ := U.form [false, false, false, true, false, false, false, false, false, false, true, true, true, true] rfl (by decide)
    obtain ⟨A3, n3, c3, d3, h3, hn3, hr3⟩ := hR 5 (by omega)
    have hx2 := hR 4 (by omega)
    have e3 : a.tmps.getD 3 undef = f 3 := hf 5 (by omega)
    have h3' : f 3 = .slice (some ⟨A3, 0, none⟩) n3 c3 := e3.symm.trans h3
    simp only [letters, cond_true, cond_false, Nat.reduceAdd, h3'] at ha
    obtain ⟨L, kk, hkk, _, _, hg⟩ := hG
    have HE := Lib.hid hg.r
    have HBL := Lib.hid hg.o
    have hBs := hg.hB
    have HD := Lib.hid hr3.deeds
    have hcap := hr3.cap
    have hx2' : Bx W w.heap.size (bcells v b) := hx2
    unfold bcells at hx2'
    have c2 := hx2'.cells
    clear hR hf U h3 e3 h3' hg hr3 hx2 hx2' HG
    subst ha
    refine hK _ _ ?_
    go_wp2
    obtain ⟨A', cA', U', cu', D', cd', C', cc'⟩ := v
    obtain ⟨n', f', pos', sp', gap', hold', nu', up', nd', dn', nc', car', fl', dir', op'⟩ := b
    simp only at c2
    refine bodyPost_ret (v := .tuple #[.agg #[.slice A' n' cA', .int .i64 pos', .int .i64 sp', .int .i64 gap', .int .i64 hold', .slice U' nu' cu', .slice D' nd' cd', .slice C' nc' cc', .int .i64 fl', .int .i64 dir', .bool op'], .slice (some ⟨A3, 0, none⟩) n3 c3]) (by simp [results, Try.results33, go_sem, c2]) rfl ⟨_, _, A3, n3, c3, d3, rfl, HE.out.more hBs, HU.out, hn3, hcap.1, hcap.2, HD.out, HBL.out⟩
  · intro i' o ho L a W k' hLs hLi hLw U hG hk' hd
    have hlt : i' < 6 := (Array.getElem?_eq_some_iff.1 ho).1
    have h5 := U.other 5 (by decide)
    have t5 : a.tmps[5]?.getD undef = .pointer (some ⟨w2.heap.size, 0, none⟩) := by simpa using h5
    have c5 := hG.x6.cells
    unfold bcells at c5
    rcases (by omega : i' = 0 ∨ i' = 1 ∨ i' = 2 ∨ i' = 3 ∨ i' = 4 ∨ i' = 5) with rfl | rfl | rfl | rfl | rfl | rfl
    all_goals (refine wpOp_of ho (by cases ho; rfl) ?_; cases ho)
    · unfold Oper.wp
      simp [go_sem, Act.eval, t5, c5]
      exact ⟨hG.step 0 (by omega), fun j v _ h => h, .inl ⟨rfl, _, rfl, rfl⟩⟩
    · have h4 := U.other 4 (by decide)
      have t4 : a.tmps[4]?.getD undef = .pointer (some ⟨g, 0, none⟩) := by simpa using h4
      unfold Oper.wp
      simp [go_sem, Act.eval, t4]
      exact ⟨hG.step 1 (by omega), fun j v _ h => h, .inl ⟨rfl, _, rfl, rfl⟩⟩
    · unfold Oper.wp
      simp [go_sem, Act.eval, t5, c5]
      exact ⟨hG.step 2 (by omega), fun j v _ h => h, .inl ⟨rfl, _, rfl, rfl⟩⟩
    · have h1 := hd ⟨1, .data⟩ (by simp) rfl
      have h2 := hd ⟨2, .data⟩ (by simp) rfl
      have t11 : a.tmps[11]?.getD undef = .pointer (some ⟨g, 0, none⟩) := by simpa [RunR] using h1
      have t12 : a.tmps[12]?.getD undef = bval v b := by simpa [RunR] using h2
      have hrd := hG.rd (unl (hLw 4 3 ⟨_, rfl, ⟨3, .chain⟩, by simp, rfl, rfl⟩) hLi)
      unfold Oper.wp
      simp [go_sem, Act.eval, t11, t12]
      refine (l20BuildDeeds_any (v := v) (b := b) (by omega) (by have := HU.out.1; omega) hrd).mono ?_
      rintro e w' ⟨A3, n3, c3, d3, rfl, hn3, hrow, hr, hg⟩
      have hbs : w2.heap.size + 1 ≤ W.heap.size := hG.x6.lt
      refine ⟨hG.picked 3 (by omega) hg (hr.mono (by omega)) (by omega) (by omega) (by omega) HOg.out, fun j v hj h => RunR_keep (fun h => h.kept hg (.inr (by intro k e; cases e; left; omega))) (fun h => h.kept hg (by omega)) j v h, .inl ⟨rfl, _, rfl, ⟨A3, n3, c3, d3, rfl, hn3, hrow.mono hbs⟩⟩⟩
    · have h0 := hd ⟨0, .data⟩ (by simp) rfl
      have t10 : a.tmps[10]?.getD undef = bval v b := by simpa [RunR] using h0
      have h2 := U.other 2 (by decide)
      have t2 : a.tmps[2]?.getD undef = .pointer (some ⟨w.heap.size, 0, none⟩) := by simpa using h2
      obtain ⟨v0, b0, hx0⟩ := hG.x2
      have c2 := hx0.cells
      have f2 := hx0.free
      unfold bcells at c2
      unfold bval bcells at t10
      have hx1 := hx0
      unfold bcells at hx1
      unfold Oper.wp
      simp [go_sem, Act.eval, t2, t10, c2, f2]
      exact ⟨hG.stored (by rw [hLs]; omega) (Nat.le_refl _) (by omega) HOw.out, fun j u hj h => RunR_keep (fun h => h.offstore v b (by omega)) (fun _ => hx1.put v b) j u h, .inr ⟨rfl, hx1.put v b⟩⟩
    · obtain ⟨A3, n3, c3, d3, h3, hn3, hrow⟩ := hd ⟨3, .data⟩ (by simp) rfl
      have t13 : a.tmps[13]?.getD undef = .slice (some ⟨A3, 0, none⟩) n3 c3 := by simpa using h3
      unfold Oper.wp
      simp [go_sem, Act.eval, t13]
      exact ⟨hG.step 5 (by omega), fun j v _ h => h, .inl ⟨rfl, _, rfl, ⟨A3, n3, c3, d3, rfl, hn3, hrow⟩⟩⟩
end Go.Proofs.Ytnbjibkbjdbadaa
