/-
  The contract of the drawing of valid floors, and of DrawReadHeights. No claim stands here.
-/
import Derived.Test.YthkpikkjgggimaaDoorBB
import Derived.Test.YthkpikkjgggimaaDoorBG
import Derived.Test.YthkpikkjgggimaaDoorBT
import Derived.Test.YthkpikkjgggimaaDoorBackM
import Derived.Test.YthkpikkjgggimaaDoorFlD
namespace Go.Proofs.YthkpikkjgggimaaDoor
open Go.RowKit
set_option linter.unusedVariables false
set_option linter.unusedSimpArgs false

theorem Reads.odd0 {w : World} {g Q : Nat} (hQ : Q + 1 ≤ 1000000) (r : Reads w g Q) :
    Calls Tryd.prog 34 #[.pointer (some ⟨g, 0, none⟩), .int .i64 0] w fun e w' => e = .returned (.bool false) ∧ Reads w' g (Q + 1) ∧ w.grownBy w' (some g) := by
  have H := Lib.hid (r.mono (Nat.le_succ Q))
  clear r
  go_enter Tryd.func34, Tryd.ntmps34
  go_wp2
  go_ret
  exact ⟨rfl, H.out, World.grownBy.refl _ _⟩

/-- Heights from 0 on, each higher than the one before. -/
def Rises (f : Nat → Int) (i a : Nat) : Prop := f 0 = 0 ∧ f i = a ∧ a ≤ 7 * i ∧ ∀ j, 0 < j → j ≤ i → f (j - 1) < f j
theorem Rises.start : Rises (fun _ => 0) 0 0 := ⟨rfl, rfl, by omega, fun j h0 h1 => by omega⟩
theorem Rises.more {f : Nat → Int} {i a z : Nat} (h : Rises f i a) (hz : z ≤ 5) : Rises (snoc f (i + 1) ((a : Int) + 2 + z)) (i + 1) (a + 2 + z) := by
  obtain ⟨h0, h1, h2, h3⟩ := h
  refine ⟨by simp [snoc, h0], by simp [snoc], by omega, fun j hj hj2 => ?_⟩
  by_cases e : j = i + 1
  · subst e
    simp [snoc, h1]
    omega
  · have := h3 j hj (by omega)
    have a1 : j - 1 < i + 1 := by omega
    have a2 : j < i + 1 := by omega
    simpa [snoc, a1, a2] using this
theorem Rises.ok {f : Nat → Int} {i a : Nat} (h : Rises f i a) (hi : i ≤ 7) : floorsB f (i + 1) = true := by
  obtain ⟨h0, h1, h2, h3⟩ := h
  refine floorsB_iff.2 ⟨by omega, by omega, h0, fun j hj hj2 => h3 j hj (by omega), ?_⟩
  rw [Nat.add_sub_cancel, h1]
  omega

/-- What a drawing of valid floors leaves. -/
def DrawnV (Q : Nat) (w : World) (g : Nat) (e : Ending) (w' : World) : Prop :=
  ∃ A n c f, e = .returned (.slice A n c) ∧ floorsB f n = true ∧ Row w' w.heap.size A n c f ∧ Reads w' g Q ∧ w.grownBy w' (some g)

set_option maxHeartbeats 3200000 in
theorem l20Floors_valid {w : World} {g Q : Nat} (hQ : Q + 20 ≤ 1000000) (r : Reads w g Q) :
    Calls Tryd.prog 27 #[.pointer (some ⟨g, 0, none⟩), .int .i64 0] w (DrawnV (Q + 20) w g) := by
  have hgl := r.lt
  have H := Lib.hid (r.alloc (.cells #[.int .i64 0] 3))
  have HRS := Lib.hid Rises.start
  clear r
  go_enter Tryd.func27, Tryd.ntmps27
  go_wp2_with fail
  refine (H.out.pick _ (by omega) (by omega)).mono ?_
  rintro e w1 ⟨x1, rfl, hp1, hr1, hg1⟩
  obtain ⟨p1, p2⟩ := picked_litS hp1 (by omega)
  have ho1 := ((Only.refl w.heap.size g w).alloc (Nat.le_refl _) (.cells #[.int .i64 0] 3)).picked hg1 (by simp)
  have hrow1 := (Row.one (w := w) (base := w.heap.size) 0 (Nat.le_refl _)).kept hg1 (.inr (by intro b e; cases e; left; omega))
  clear hp1 hg1
  obtain ⟨k1, rfl⟩ := Int.eq_ofNat_of_zero_le p1
  go_wp2
  go_loopw [5, 6, 7] (fun s5 s6 s7 wr => ∃ (k i : Nat) (A : Option Addr) (c : Nat) (f : Nat → Int) (a : Nat), s7 = .int .i64 k ∧ i + k ≤ 7 ∧ s5 = .slice A (i + 1) c ∧ s6 = .int .i64 a ∧ a ≤ 7 * i ∧ Row wr w.heap.size A (i + 1) c f ∧ Reads wr g (Q + 1 + i) ∧ Only w.heap.size g w wr ∧ Hid (Rises f i a)) (fun _ _ s7 _ => (intOf s7).toNat)
  case atStart => exact ⟨k1, 0, _, _, _, 0, rfl, by omega, rfl, rfl, by omega, hrow1, hr1, ho1, HRS⟩
  case round =>
    obtain ⟨k, i, A, c, f, a, rfl, hik, rfl, rfl, hai, hrow, hr, ho, HF⟩ := hrel
    clear hrow1 hr1 ho1 H
    by_cases hk : 0 < k
    · have HRow := Lib.hid hrow
      have HR := Lib.hid hr
      have HO := Lib.hid ho
      have hsz := ho.size
      clear hrow hr ho
      go_wp2_with fail
      refine (HR.out.pick _ (by omega) (by omega)).mono ?_
      rintro e w2 ⟨x2, rfl, hp2, hr2, hg2⟩
      obtain ⟨p3, p4⟩ := picked_litS hp2 (by omega)
      have HO2 := Lib.hid (HO.out.picked hg2 hsz)
      have HRow2 := Lib.hid (HRow.out.kept hg2 (.inr (by intro b e; cases e; left; omega)))
      have HR2 := Lib.hid hr2
      have hsz2 := HO2.out.size
      clear hp2 hr2 hg2 HO HRow HR
      obtain ⟨z, rfl⟩ := Int.eq_ofNat_of_zero_le p3
      go_wp2_with (at_builtin; refine append_int _ rfl _ _ rfl rfl (HRow2.out.alloc _) w2.heap.size ((a : Int) + 2 + z) rfl (by simp) (by omega) (by simp; omega) ?_; intro A3 c3 w3 hr3 hg3)
      have HO3 := Lib.hid ((HO2.out.alloc hsz2 _).grown hg3 (by simp; omega) (fun b e => .inl (HRow2.out.own b e)))
      have HR3 := Lib.hid ((HR2.out.alloc _).grown (base := w.heap.size) hg3 hgl HRow2.out.own)
      have HRow3 := Lib.hid hr3
      clear hr3 hg3
      go_wp2
      go_roundw
      case rel => exact ⟨k - 1, i + 1, A3, c3, _, a + 2 + z, by go_num, by omega, rfl, by go_num, by omega, HRow3.out, HR3.out.mono (by omega), HO3.out, HF.out.more (by omega)⟩
      case measure => simp [intOf]; omega
    · obtain rfl : k = 0 := by omega
      have HRow := Lib.hid hrow
      have HR := Lib.hid hr
      have HO := Lib.hid ho
      have hsz := ho.size
      clear hrow hr ho
      go_wp2_with fail
      refine (HR.out.odd0 (by omega)).mono ?_
      rintro e w2 ⟨rfl, hr2, hg2⟩
      have HO2 := Lib.hid (HO.out.picked hg2 hsz)
      have HRow2 := Lib.hid (HRow.out.kept hg2 (.inr (by intro b e; cases e; left; omega)))
      have HR2 := Lib.hid hr2
      have hsz2 := HO2.out.size
      clear hr2 hg2 HO HRow HR
      go_wp2
      go_ret
      exact ⟨A, i + 1, c, f, rfl, HF.out.ok (by omega), HRow2.out, HR2.out.mono (by omega), HO2.out.grow⟩

theorem Only.drewN {base g : Nat} {a w : World} (h : Only base g a w) (k : Nat) : Only base g a (w.drewN k) := ⟨h.os, h.tape, h.output, h.size, h.block⟩
/-- The texts that stand between the two parts. -/
def fourT : Array Value := #[.string ⟨#[]⟩, .string ⟨#[48]⟩, .string ⟨#[44]⟩, .string ⟨#[57]⟩]
theorem fourT_get {x : Nat} (h : x < 4) : ∃ t : ByteArray, fourT[x]? = some (.string t) ∧ t.size ≤ 1 := by
  rcases (by omega : x = 0 ∨ x = 1 ∨ x = 2 ∨ x = 3) with rfl | rfl | rfl | rfl
  · exact ⟨_, rfl, by decide⟩
  · exact ⟨_, rfl, by decide⟩
  · exact ⟨_, rfl, by decide⟩
  · exact ⟨_, rfl, by decide⟩
/-- A value is a text of at most m bytes. -/
def ShortT (m : Nat) (v : Value) : Prop := ∃ t : ByteArray, v = .string t ∧ t.size ≤ m
/-- What the operations of the region leave. -/
def DrR (base g : Nat) (s : ByteArray) (k : Nat) : Nat → Value → World → Prop
  | 0, v, _ => v = .string s
  | 1, v, _ => v = .int .i64 k
  | 2, v, _ => ShortT s.size v
  | 3, v, W => ∃ b, v = .slice (some ⟨b, 0, none⟩) 4 4 ∧ base ≤ b ∧ W.heap[b]? = some (.cells fourT 9 (0, 0))
  | 4, v, _ => v = .pointer (some ⟨g, 0, none⟩)
  | 5, v, _ => ∃ x : Nat, v = .int .i64 x ∧ x < 4
  | 6, v, W => ∃ b x : Nat, v = .pointer (some ⟨b, x, none⟩) ∧ x < 4 ∧ base ≤ b ∧ W.heap[b]? = some (.cells fourT 9 (0, 0))
  | 7, v, _ => ShortT 1 v
  | 8, v, _ => ShortT (s.size + 1) v
  | 9, v, _ => v = .string s
  | 10, v, _ => v = .int .i64 k
  | 11, v, _ => v = .int .i64 ((k + 1 : Nat) : Int)
  | 12, v, _ => ShortT s.size v
  | 13, v, _ => ShortT (s.size + 1 + s.size) v
  | 14, v, _ => ShortT (s.size + 1 + s.size) v
  | _, _, _ => True
theorem DrR.keep {base g : Nat} {s : ByteArray} {k : Nat} (hgb : g < base) {W W' : World} (hb : W.grownBy W' (some g)) : ∀ j v, DrR base g s k j v W → DrR base g s k j v W' := by
  have key : ∀ b xs, base ≤ b → W.heap[b]? = some (.cells xs 9 (0, 0)) → W'.heap[b]? = some (.cells xs 9 (0, 0)) := by
    intro b xs h1 h2
    refine (hb.block b ?_ (by intro e; cases e; omega)).trans h2
    rcases Nat.lt_or_ge b W.heap.size with hlt | hge
    · exact hlt
    · rw [Array.getElem?_eq_none hge] at h2; cases h2
  intro j v h
  unfold DrR at h ⊢
  split at h
  all_goals first
    | exact h
    | (obtain ⟨b, h1, h2, h3⟩ := h; exact ⟨b, h1, h2, key b _ h2 h3⟩)
    | (obtain ⟨b, x, h1, h2, h3, h4⟩ := h; exact ⟨b, x, h1, h2, h3, key b _ h3 h4⟩)

/-- What DrawReadHeights leaves: a text of at most N bytes. -/
def DrawnS (N B : Nat) (w : World) (e : Ending) (w' : World) : Prop := ∃ s : ByteArray, e = .returned (.string s) ∧ s.size ≤ N ∧ Below B w w'

set_option maxRecDepth 100000 in
set_option maxHeartbeats 3200000 in
theorem DrawReadHeights_any {w : World} {B : Nat} {A : Option Addr} {n c : Nat} {h : Nat → Int} (hB : B ≤ w.heap.size) (hc : n ≤ c) (hs : Bytes w B A n h) :
    Calls Tryd.prog 19 #[.slice A n c] w (DrawnS 100 w.heap.size w) := by
  go_enter Tryd.func19, Tryd.ntmps19
  go_wp2_with fail
  refine (l20Open_any hB hc hs).mono ?_; rintro e w1 ⟨g, rfl, hg, hr, hb⟩
  have HS0 := hb.size
  go_wp2_with fail
  refine (l20Floors_valid (by omega) hr).mono ?_; rintro e w2 ⟨A2, n2, c2, f, rfl, hf, hr2, hrd2, hg2⟩
  have HB2 := Lib.hid (hb.grown hg2 hb.size (fun b e => by cases e; exact hg))
  have HR := Lib.hid hr2
  have HRD := Lib.hid hrd2
  have hg1 := hr.lt
  have hs2 := hg2.size
  have hn8 := (floorsB_iff.1 hf).2.1
  have HIN := Lib.hid (fun i (hi : i < n2) => floorsB_in hf hi)
  have HT := Lib.hid (textOf_yes hf)
  have HNE := Lib.hid (text_ne hf)
  clear hr hb hr2 hrd2 hg2 hf
  go_wp2_with fail
  refine (spec_HeightsText (by omega) (Nat.le_refl _) HR.out.ints).mono ?_; rintro e w3 ⟨rfl, hb3⟩
  have hlen : (ByteArray.mk (textOf f n2).toArray).size ≤ 24 := by
    rw [HT.out]
    have := hTo_len (f := f) (n := n2) n2 (fun i hi => HIN.out i hi)
    show (hTo f n2).toArray.size ≤ 24
    simp; omega
  have hpos : 0 < (ByteArray.mk (textOf f n2).toArray).size := by
    show 0 < (textOf f n2).toArray.size
    have := HNE.out
    cases hx : textOf f n2 with
    | nil => exact absurd hx this
    | cons a l => simp
  have HB3 := Lib.hid (HB2.out.trans (hb3.mono (by omega)))
  have HRD3 := Lib.hid (HRD.out.below hb3 (by omega))
  have hs3 := hb3.size
  clear hb3 HB2 HR HRD HIN HT HNE
  generalize ByteArray.mk (textOf f n2).toArray = s at *
  go_wp2_with fail
  refine (HRD3.out.pick _ (by omega) (by omega)).mono ?_; rintro e w4 ⟨x4, rfl, hp4, hr4, hg4⟩
  have HB4 := Lib.hid (HB3.out.grown hg4 (by omega) (fun b e => by cases e; exact hg))
  have HR4 := Lib.hid hr4
  have hs4 := hg4.size
  clear hp4 hr4 hg4 HB3 HRD3
  by_cases e0 : x4 = 0
  · subst e0
    go_wp2_with fail
    refine (HR4.out.pick _ (by omega) (by omega)).mono ?_; rintro e w5 ⟨x5, rfl, hp5, hr5, hg5⟩
    obtain ⟨p1, p2⟩ := picked_litS hp5 (by omega)
    obtain ⟨k, rfl⟩ := Int.eq_ofNat_of_zero_le p1
    have hk : k + 1 ≤ s.size := by omega
    have hkl : k ≤ s.size := by omega
    have hgw : g < w5.heap.size := by have := hr5.lt; omega
    have HB5 := Lib.hid (HB4.out.grown hg5 (by omega) (fun b e => by cases e; exact hg))
    have HR5 := Lib.hid hr5
    have hs5 := hg5.size
    clear hp5 hr5 hg5 HB4 HR4 p1 p2
    go_wp2_with fail
    rename_i hK
    refine wp_region_any (by kernel_rfl) ?_
    refine wpAny_typed 15 (fun i => (#[18, 19, 20, 21, 22, 23, 24, 25, 26, 27, 28, 29, 30, 31, 2] : Array Nat).getD i 0) (fun _ => false) (DrR w5.heap.size g s k) (fun j W => Reads W g (200 + j) ∧ Only w5.heap.size g w5 W) rfl 33 rfl (by kernel_rfl) ⟨(HR5.out.drewN 1).mono (by omega), (Only.refl _ _ _).drewN 1⟩ ?_ ?_
    · intro a W U hR hG
      obtain ⟨F, hf, ha⟩ := U.form [false, false, true, false, false, false, false, false, false, false, false, false, false, false, false, false, false, false, true, true, true, true, true, true, true, true, true, true, true, true, true, true, false] rfl (by decide)
      have h14 := hR 14 (by omega)
      have e2 : a.tmps.getD 2 undef = F 2 := hf 14 (by omega)
      obtain ⟨t, ht, hts⟩ : ShortT (s.size + 1 + s.size) (a.tmps.getD 2 undef) := h14
      have h2 : F 2 = .string t := e2.symm.trans ht
      simp only [letters, cond_true, cond_false, Nat.reduceAdd, h2] at ha
      obtain ⟨kk, hkk, -, hg2⟩ := hG
      have HB := Lib.hid (HB5.out.trans (hg2.below (B := w.heap.size) (by omega) hg))
      have HT := Lib.hid (show t.size ≤ 100 by omega)
      clear hR hf U e2 h2 hg2 ht hts
      subst ha
      refine hK _ _ ?_
      go_wp2
      go_ret
      exact ⟨t, rfl, HT.out, HB.out⟩
    · intro i' o ho a W k' U hG hk' hd
      have hlt : i' < 15 := (Array.getElem?_eq_some_iff.1 ho).1
      have hu3 := U.other 3 (by decide)
      have hu4 := U.other 4 (by decide)
      have hu5 := U.other 5 (by decide)
      have t3 : a.tmps[3]?.getD undef = .pointer (some ⟨g, 0, none⟩) := by simpa using hu3
      have t4 : a.tmps[4]?.getD undef = .string s := by simpa using hu4
      have t5 : a.tmps[5]?.getD undef = .int .i64 k := by simpa using hu5
      obtain ⟨hG1, hG2⟩ := hG
      have hG1' := hG1.mono (show 200 + k' ≤ 200 + (k' + 1) by omega)
      rcases (by omega : i' = 0 ∨ i' = 1 ∨ i' = 2 ∨ i' = 3 ∨ i' = 4 ∨ i' = 5 ∨ i' = 6 ∨ i' = 7 ∨ i' = 8 ∨ i' = 9 ∨ i' = 10 ∨ i' = 11 ∨ i' = 12 ∨ i' = 13 ∨ i' = 14) with rfl | rfl | rfl | rfl | rfl | rfl | rfl | rfl | rfl | rfl | rfl | rfl | rfl | rfl | rfl
      all_goals (refine wpOp_of ho (by cases ho; rfl) ?_; cases ho)
      · unfold Oper.wp
        simp [go_sem, Act.eval, t4]
        exact ⟨⟨hG1', hG2⟩, fun j v _ h => h, .inl ⟨rfl, _, rfl, rfl⟩⟩
      · unfold Oper.wp
        simp [go_sem, Act.eval, t5]
        exact ⟨⟨hG1', hG2⟩, fun j v _ h => h, .inl ⟨rfl, _, rfl, rfl⟩⟩
      · have h0 := hd ⟨0, .data⟩ (by simp) rfl
        have h1 := hd ⟨1, .data⟩ (by simp) rfl
        have u0 : a.tmps[18]?.getD undef = .string s := by simpa [DrR] using h0
        have u1 : a.tmps[19]?.getD undef = .int .i64 k := by simpa [DrR] using h1
        unfold Oper.wp
        simp [go_sem, Act.eval, u0, u1, hkl]
        exact ⟨⟨hG1', hG2⟩, fun j v _ h => h, .inl ⟨rfl, _, rfl, ⟨_, rfl, by rw [ByteArray.size_extract]; omega⟩⟩⟩
      · have hba := World.grownBy_alloc W (.cells fourT 9) (some g)
        have hgl := hG1.lt
        unfold Oper.wp
        simp [go_sem, Act.eval]
        refine ⟨⟨hG1'.alloc _, hG2.alloc (by have := hG2.size; omega) _⟩, fun j v _ h => h.keep hgw hba, .inl ⟨rfl, _, rfl, ⟨W.heap.size, rfl, hG2.size, ?_⟩⟩⟩
        show (W.heap.push _)[W.heap.size]? = _
        simp [fourT]
      · unfold Oper.wp
        simp [go_sem, Act.eval, t3]
        exact ⟨⟨hG1', hG2⟩, fun j v _ h => h, .inl ⟨rfl, _, rfl, rfl⟩⟩
      · have h4 := hd ⟨4, .data⟩ (by simp) rfl
        have u4 : a.tmps[22]?.getD undef = .pointer (some ⟨g, 0, none⟩) := by simpa [DrR] using h4
        unfold Oper.wp
        simp [go_sem, Act.eval, u4]
        refine (hG1.pick 4 (by omega) (by omega)).mono ?_
        rintro e w' ⟨x, rfl, hp, hr, hgr⟩
        obtain ⟨q1, q2⟩ := picked_litS hp (by omega)
        obtain ⟨z, rfl⟩ := Int.eq_ofNat_of_zero_le q1
        exact ⟨⟨hr, hG2.picked hgr hG2.size⟩, fun j v _ h => h.keep hgw hgr, .inl ⟨rfl, _, rfl, ⟨z, rfl, by omega⟩⟩⟩
      · obtain ⟨b, h3, hb1, hb2⟩ := hd ⟨3, .data⟩ (by simp) rfl
        obtain ⟨x, h5, hx⟩ := hd ⟨5, .data⟩ (by simp) rfl
        have u3 : a.tmps[21]?.getD undef = .slice (some ⟨b, 0, none⟩) 4 4 := by simpa using h3
        have u5 : a.tmps[23]?.getD undef = .int .i64 x := by simpa using h5
        have hx4 : (x : Int) < 4 := by omega
        unfold Oper.wp
        simp [go_sem, Act.eval, u3, u5, hx4]
        exact ⟨⟨hG1', hG2⟩, fun j v _ h => h, .inl ⟨rfl, _, rfl, ⟨b, x, rfl, hx, hb1, hb2⟩⟩⟩
      · obtain ⟨b, x, h6, hx, hb1, hb2⟩ := hd ⟨6, .data⟩ (by simp) rfl
        obtain ⟨t, ht, hts⟩ := fourT_get hx
        have u6 : a.tmps[24]?.getD undef = .pointer (some ⟨b, x, none⟩) := by simpa using h6
        have hc := (cell_of_row W b x fourT 9 (0, 0) hb2).trans ht
        unfold Oper.wp
        simp [go_sem, Act.eval, u6, hc]
        exact ⟨⟨hG1', hG2⟩, fun j v _ h => h, .inl ⟨rfl, _, rfl, ⟨t, rfl, hts⟩⟩⟩
      · obtain ⟨t2, h2, hl2⟩ := hd ⟨2, .data⟩ (by simp) rfl
        obtain ⟨t7, h7, hl7⟩ := hd ⟨7, .data⟩ (by simp) rfl
        have u2 : a.tmps[20]?.getD undef = .string t2 := by simpa using h2
        have u7 : a.tmps[25]?.getD undef = .string t7 := by simpa using h7
        have hl : ¬ 9223372036854775807 < t2.size + t7.size := by omega
        unfold Oper.wp
        simp [go_sem, Act.eval, u2, u7, hl]
        exact ⟨⟨hG1', hG2⟩, fun j v _ h => h, .inl ⟨rfl, _, rfl, ⟨_, rfl, by rw [ByteArray.size_append]; omega⟩⟩⟩
      · unfold Oper.wp
        simp [go_sem, Act.eval, t4]
        exact ⟨⟨hG1', hG2⟩, fun j v _ h => h, .inl ⟨rfl, _, rfl, rfl⟩⟩
      · unfold Oper.wp
        simp [go_sem, Act.eval, t5]
        exact ⟨⟨hG1', hG2⟩, fun j v _ h => h, .inl ⟨rfl, _, rfl, rfl⟩⟩
      · have h10 := hd ⟨10, .data⟩ (by simp) rfl
        have u10 : a.tmps[28]?.getD undef = .int .i64 k := by simpa [DrR] using h10
        have hw : IntKind.i64.wrap ((k : Int) + 1) = (k : Int) + 1 := IntWalk.i64_in _ (by omega)
        unfold Oper.wp
        simp [go_sem, Act.eval, u10, hw]
        exact ⟨⟨hG1', hG2⟩, fun j v _ h => h, .inl ⟨rfl, _, rfl, by show _ = _; simp⟩⟩
      · have h9 := hd ⟨9, .data⟩ (by simp) rfl
        have h11 := hd ⟨11, .data⟩ (by simp) rfl
        have u9 : a.tmps[27]?.getD undef = .string s := by simpa [DrR] using h9
        have u11 : a.tmps[29]?.getD undef = .int .i64 ((k + 1 : Nat) : Int) := by
          have h : a.tmps.getD 29 undef = .int .i64 ((k + 1 : Nat) : Int) := h11
          generalize k + 1 = k1 at *
          simpa using h
        generalize k + 1 = k1 at *
        unfold Oper.wp
        simp [go_sem, Act.eval, u9, u11, hk]
        exact ⟨⟨hG1', hG2⟩, fun j v _ h => h, .inl ⟨rfl, _, rfl, ⟨_, rfl, by rw [ByteArray.size_extract]; omega⟩⟩⟩
      · obtain ⟨t2, h2, hl2⟩ := hd ⟨8, .data⟩ (by simp) rfl
        obtain ⟨t7, h7, hl7⟩ := hd ⟨12, .data⟩ (by simp) rfl
        have u2 : a.tmps[26]?.getD undef = .string t2 := by simpa using h2
        have u7 : a.tmps[30]?.getD undef = .string t7 := by simpa using h7
        have hl : ¬ 9223372036854775807 < t2.size + t7.size := by omega
        unfold Oper.wp
        simp [go_sem, Act.eval, u2, u7, hl]
        exact ⟨⟨hG1', hG2⟩, fun j v _ h => h, .inl ⟨rfl, _, rfl, ⟨_, rfl, by rw [ByteArray.size_append]; omega⟩⟩⟩
      · obtain ⟨t2, h2, hl2⟩ := hd ⟨13, .data⟩ (by simp) rfl
        have u2 : a.tmps[31]?.getD undef = .string t2 := by simpa using h2
        unfold Oper.wp
        simp [go_sem, Act.eval, u2]
        exact ⟨⟨hG1', hG2⟩, fun j v _ h => h, .inl ⟨rfl, _, rfl, ⟨_, rfl, hl2⟩⟩⟩
  · have e0' : (x4 == 0) = false := by simpa using e0
    clear e0
    go_wp2
    go_ret
    exact ⟨s, rfl, by omega, HB4.out⟩
end Go.Proofs.YthkpikkjgggimaaDoor
