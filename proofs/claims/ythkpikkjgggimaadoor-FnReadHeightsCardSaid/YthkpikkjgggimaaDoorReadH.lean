/-
  The contracts of ReadHeights, the program's and the reference's. No claim stands here.
-/
import Derived.Test.YthkpikkjgggimaaDoorStr
namespace Go.Proofs.YthkpikkjgggimaaDoor
open Go.RowKit
set_option linter.unusedVariables false
set_option linter.unusedSimpArgs false

/-- How many heights a text reads as. -/
def rdN (s : ByteArray) : Nat := if readOk s = true then readN s else 0
theorem rdN_yes {s : ByteArray} (h : readOk s = true) : rdN s = readN s := if_pos h
theorem rdN_no {s : ByteArray} (h : readOk s = false) : rdN s = 0 := by simp [rdN, h]
theorem countB_short {s : ByteArray} : Lib.countB s ⟨#[44]⟩ ≤ s.size := Lib.countB_le _ (by decide) _ s (Nat.le_refl _)
theorem readN_short (s : ByteArray) : readN s ≤ s.size + 1 := by
  rw [readN, wordsB_length]
  have := countB_short (s := s)
  omega
theorem splitB_small (sep : ByteArray) : ∀ (k : Nat) (s : ByteArray), ∀ x ∈ Lib.splitB sep 0 k s, x.size ≤ s.size
  | 0, s => by intro x hx; rw [Lib.splitB_zero] at hx; simp at hx; subst hx; exact Nat.le_refl _
  | k + 1, s => by
    intro x hx
    rcases Lib.indexB_cases s sep with h | ⟨i, h, _⟩
    · rw [Lib.splitB_miss _ _ _ _ h] at hx; simp at hx; subst hx; exact Nat.le_refl _
    · rw [Lib.splitB_hit _ _ _ _ i h] at hx
      rcases List.mem_cons.1 hx with rfl | hx
      · rw [ByteArray.size_extract]; omega
      · have := splitB_small sep k _ x hx
        rw [ByteArray.size_extract] at this
        omega
theorem wordAt_small (s : ByteArray) (i : Nat) : (wordAt s i).size ≤ s.size := by
  unfold wordAt
  rw [List.getD_eq_getElem?_getD]
  cases h : (wordsB s)[i]? with
  | none => simp
  | some x => exact splitB_small _ _ _ x (List.mem_of_getElem? h)
theorem readOk_no1 {s : ByteArray} {k : Nat} (hk : k < readN s) (h : wordOk (wordAt s k) = false) : readOk s = false := by
  rw [← Bool.not_eq_true]; intro e
  rw [readF_ok e hk] at h
  cases h
theorem readOk_no2 {s : ByteArray} (h : 8 < readN s) : readOk s = false := by
  rw [← Bool.not_eq_true]; intro e
  have := (floorsB_iff.1 e).2.1
  omega
theorem strs_split {w : World} (s : ByteArray) : Strs (w.alloc (.cells ((wordsB s).map Value.string).toArray 9)) (w.heap.size + 1) (some ⟨w.heap.size, 0, none⟩) (wordsB s) := by
  intro hn
  refine ⟨w.heap.size, rfl, by omega, fun i hi => ?_⟩
  rw [Nat.zero_add]
  refine (cell_of_row _ w.heap.size i ((wordsB s).map Value.string).toArray 9 (0, 0) (by show (w.heap.push _)[w.heap.size]? = _; simp)).trans ?_
  have := svals_get hi
  simpa [svals] using this

theorem split_words (s : ByteArray) (hs : s.size ≤ 1048577) (W : World) (h : W.ShapedOpen Tryd.prog) :
    Calls Tryd.prog 25 #[.string s, .string ⟨#[44]⟩] W fun e w' => e = .returned (.slice (some ⟨W.heap.size, 0, none⟩) (readN s) (readN s)) ∧ w' = W.alloc (.cells ((wordsB s).map Value.string).toArray 9) := by
  refine (Tryd.strings_Split_shaped s ⟨#[44]⟩ W h (by omega) (by decide)).mono ?_
  rintro e w1 ⟨rfl, rfl⟩
  exact ⟨by rw [readN, wordsB_length], rfl⟩

/-- append of one int onto a row of the call's own: where it lies. -/
theorem append_int_at (W : World) {ops : Array Oper} {rest : List Oper} {o : Oper} {a : Act} {Q : Exit → Act → World → Prop} (hg : o.guard = none) (s x : Operand)
    (hop : o.op = Op.call { callee := Callee.builtin Builtin.append, args := #[s, x], argTypes := #[22, 22] }) {base : Nat} {A : Option Addr} {n c : Nat} {f : Nat → Int}
    (hs : a.eval s = .slice A n c) (hr : Row W base A n c f) (g : Nat) (X : Int) (hx : a.eval x = .slice (some ⟨g, 0, none⟩) 1 1) (hcell : W.cell? ⟨g, 0, none⟩ = some (.int .i64 X))
    (hn : n ≤ 1000000000) (hb : base ≤ W.heap.size)
    (hK : ∀ g' c' w', Row w' base (some ⟨g', 0, none⟩) (n + 1) c' (snoc f n X) → W.grownBy w' (Value.slice A n c).ownBlock → ((Value.slice A n c).ownBlock = some g' ∨ g' = W.heap.size) → wpList Tryd.prog ops Q rest (a.put o.dst (.slice (some ⟨g', 0, none⟩) (n + 1 : Nat) c')) w') : wpList Tryd.prog ops Q (o :: rest) a W := by
  obtain ⟨i0, hi, hz0, hz1, hz2⟩ := info_parts Tryd.infoInt
  refine wpList_append_lies W hg s x 22 hop base 3 i0 (.int .i64 0) 1 8 Tryd.underlying22 hi hz0 hz1 hz2 rfl (by decide) _ _ _ hs hr ⟨g, 0, none⟩ 1 1 [.int .i64 X] hx rfl ?_ ?_ (by decide) (by unfold maxLen; omega) (by omega) hb _ rfl ?_
  · intro j u hj
    match j, hj with
    | 0, hj => simp at hj; subst hj; simpa [Addr.add] using hcell
  · intro u hu; simp at hu; subst hu; rfl
  · intro g' c' w' hown hgrow hl _
    exact hK g' c' w' (by unfold Row; rw [ivals_snoc]; exact hown) hgrow hl
theorem Strs.word {w : World} {B b : Nat} {s : ByteArray} (h : Strs w B (some ⟨b, 0, none⟩) (wordsB s)) {i : Nat} (hi : i < readN s) : w.cell? ⟨b, i, none⟩ = some (.string (wordAt s i)) := by
  obtain ⟨b', e, _, hc⟩ := h (by unfold readN at hi; omega)
  obtain rfl : b = b' := by simpa using e
  have := hc i hi
  rwa [Nat.zero_add] at this
theorem wordN_readF {s : ByteArray} {k : Nat} (h : wordOk (wordAt s k) = true) : wordN (wordAt s k) = readF s k := by rw [readF, wordN_yes h, wordNo_yes h]

set_option maxRecDepth 100000 in
set_option maxHeartbeats 1600000 in
theorem impl_ReadHeights (s : ByteArray) (hs : s.size ≤ 1048577) (w : World) (hsh : w.ShapedOpen Tryd.prog) :
    Calls Tryd.prog 12 #[.string s] w fun e w' => ∃ A c, e = .returned (.tuple #[.slice A (rdN s) c, .bool (readOk s)]) ∧ Row w' w.heap.size A (rdN s) c (readF s) ∧ Below w.heap.size w w' := by
  have HSP := Lib.hid (split_words s hs w hsh)
  have HS := Lib.hid (strs_split (w := w) s)
  have HB0 := Lib.hid ((Below.refl w.heap.size w).alloc (Nat.le_refl _) (.cells ((wordsB s).map Value.string).toArray 9))
  have hns := readN_short s
  generalize hw1 : w.alloc (.cells ((wordsB s).map Value.string).toArray 9) = w1 at *
  have hsz : w1.heap.size = w.heap.size + 1 := by rw [← hw1]; simp
  clear hw1
  go_enter Tryd.func12, Tryd.ntmps12
  go_wp2_with (go_at_call 25; refine HSP.out.mono ?_; rintro e w1 ⟨rfl, rfl⟩)
  clear HSP
  go_loopw [4, 12] (fun s4 s12 wr => ∃ (A : Option Addr) (c k : Nat), k ≤ readN s ∧ k ≤ 8 ∧ s4 = .slice A k c ∧ s12 = .int .i64 k ∧ Hid (Row wr w1.heap.size A k c (readF s)) ∧ Hid (Below w1.heap.size w1 wr)) (fun _ s12 _ => readN s - (intOf s12).toNat)
  case atStart => exact ⟨none, 0, 0, Nat.zero_le _, Nat.zero_le _, rfl, rfl, Row.nil _ _ _, Below.refl _ _⟩
  case round =>
    obtain ⟨A, c, k, hk, hk8, rfl, rfl, HR, HB⟩ := hrel
    have HBW := Lib.hid (HB0.out.trans (HB.out.mono (by omega)))
    have hwz := HB.out.size
    by_cases hlt : k < readN s
    · have c0 := (HB.out.cell (p := ⟨w.heap.size, k, none⟩) (by show w.heap.size < _; omega)).trans (HS.out.word hlt)
      have hsm := wordAt_small s k
      cases hok : wordOk (wordAt s k)
      · have HN := Lib.hid (readOk_no1 hlt hok)
        have HW := Lib.hid (fun W => (impl_readNumber (wordAt s k) (by omega) W).mono fun e w' h => And.intro h.1 h.2.symm)
        rw [hok] at HW
        go_wp2_with (go_at_call 26; refine (HW.out _).mono ?_; rintro e w2 ⟨rfl, rfl⟩)
        refine bodyPost_ret (v := .tuple #[.slice none 0 0, .bool false]) (by simp [results, Tryd.results12, go_sem]) rfl ⟨none, 0, by rw [rdN_no HN.out, HN.out], ?_, HBW.out⟩
        rw [rdN_no HN.out]
        exact Row.nil _ _ _
      · have HWN := Lib.hid (wordN_readF hok)
        have HW := Lib.hid (fun W => (impl_readNumber (wordAt s k) (by omega) W).mono fun e w' h => And.intro h.1 h.2.symm)
        rw [hok, HWN.out] at HW
        by_cases h8 : k = 8
        · have HN := Lib.hid (readOk_no2 (s := s) (by omega))
          have hx : ((k : Int) == 8) = true := by simp; omega
          clear h8
          go_wp2_with (go_at_call 26; refine (HW.out _).mono ?_; rintro e w2 ⟨rfl, rfl⟩)
          refine bodyPost_ret (v := .tuple #[.slice none 0 0, .bool false]) (by simp [results, Tryd.results12, go_sem]) rfl ⟨none, 0, by rw [rdN_no HN.out, HN.out], ?_, HBW.out⟩
          rw [rdN_no HN.out]
          exact Row.nil _ _ _
        · have hx : ((k : Int) == 8) = false := by simp; omega
          have hk7 : k < 8 := by omega
          clear h8
          go_wp2_with (first
            | (go_at_call 26; refine (HW.out _).mono ?_; rintro e w2 ⟨rfl, rfl⟩)
            | (at_builtin; refine append_int _ rfl _ _ rfl rfl (HR.out.alloc _) wr.heap.size (readF s k) rfl (by simp) (by omega) (by simp; omega) ?_; intro A3 c3 w3 hr3 hg3; have HR3 := Lib.hid (hr3.congr (snoc_self (readF s) k)); have HG3 := Lib.hid hg3; clear hr3 hg3))
          go_roundw
          case rel =>
            refine ⟨A3, c3, k + 1, by omega, by omega, rfl, by go_num, HR3, ?_⟩
            exact (HB.out.alloc hwz _).grown HG3.out (by simp; omega) HR.out.own
          case measure => simp [intOf]; omega
    · obtain rfl : k = readN s := by omega
      have HF := Lib.hid (impl_FloorsValid (c := c) (by omega) HR.out.ints)
      cases hv : readOk s
      · have HN := Lib.hid hv
        have HF2 : floorsB (readF s) (readN s) = false := hv
        rw [HF2] at HF
        go_wp2_with (go_at_call 16; refine HF.out.mono ?_; rintro e w2 ⟨rfl, m2, rfl⟩)
        refine bodyPost_ret (v := .tuple #[.slice none 0 0, .bool false]) (by simp [results, Tryd.results12, go_sem]) rfl ⟨none, 0, by rw [rdN_no HN.out, HN.out], ?_, below_drewN HBW.out _⟩
        rw [rdN_no HN.out]
        exact Row.nil _ _ _
      · have HN := Lib.hid hv
        have HF2 : floorsB (readF s) (readN s) = true := hv
        rw [HF2] at HF
        go_wp2_with (go_at_call 16; refine HF.out.mono ?_; rintro e w2 ⟨rfl, m2, rfl⟩)
        refine bodyPost_ret (v := .tuple #[.slice A (readN s) c, .bool true]) (by simp [results, Tryd.results12, go_sem]) rfl ⟨A, c, by rw [rdN_yes HN.out, HN.out], ?_, below_drewN HBW.out _⟩
        rw [rdN_yes HN.out]
        exact (HR.out.mono (by omega)).drewN _

set_option maxRecDepth 100000 in
set_option maxHeartbeats 1600000 in
theorem spec_ReadHeights (s : ByteArray) (hs : s.size ≤ 1048577) (w : World) :
    Calls Tryd.prog 11 #[.string s] w fun e w' => ∃ A c, e = .returned (.tuple #[.slice A (rdN s) c, .bool (readOk s)]) ∧ Row w' w.heap.size A (rdN s) c (readF s) ∧ Below w.heap.size w w' := by
  have HR0 := Lib.hid (Row.empty (w := w) (readF s) (Nat.le_refl w.heap.size))
  have HB0 := Lib.hid ((Below.refl w.heap.size w).alloc (Nat.le_refl _) (.cells #[] 3))
  have hns := readN_short s
  go_enter Tryd.func11, Tryd.ntmps11
  go_wp2_with (go_at_call 23; refine (l1Cut_any s hs _).mono ?_; rintro e w1 ⟨A1, c1, rfl, hr1, hb1⟩)
  have hsz1 := hb1.size
  rw [World.size_alloc] at hr1 hb1 hsz1
  have hpos : 0 < readN s := by rw [readN, wordsB_length]; omega
  obtain ⟨b, rfl, hbw, hbl, hwc⟩ : ∃ b, A1 = some ⟨b, 0, none⟩ ∧ w.heap.size + 1 ≤ b ∧ b < w1.heap.size ∧ ∀ i, i < readN s → w1.cell? ⟨b, i, none⟩ = some (.string (wordAt s i)) := by
    obtain ⟨b, cap, hv, hb, hlt⟩ := World.ownsRow.form hr1 hpos
    obtain ⟨rfl, -⟩ : A1 = some ⟨b, 0, none⟩ ∧ readN s = (wordsB s).length ∧ c1 = cap := by simpa using hv
    exact ⟨b, rfl, hb, hlt, fun i hi => hr1.strs.word hi⟩
  have hb01 := HB0.out.trans (hb1.mono (by omega))
  have HR1 := Lib.hid (HR0.out.below hb1 (by simp))
  have HB1 := Lib.hid hb01
  have HWC := Lib.hid hwc
  clear hr1 hb1 hb01 HR0 HB0 hwc
  go_loopw [4, 6] (fun s4 s6 wr => ∃ (g c k : Nat), k ≤ readN s ∧ s4 = .slice (some ⟨g, 0, none⟩) k c ∧ s6 = .int .i64 k ∧ Hid (Row wr w.heap.size (some ⟨g, 0, none⟩) k c (readF s)) ∧ Hid (Below w.heap.size w wr) ∧ (g = w.heap.size ∨ w1.heap.size ≤ g) ∧ w1.heap.size ≤ wr.heap.size ∧ Hid (∀ i, i < readN s → wr.cell? ⟨b, i, none⟩ = some (.string (wordAt s i)))) (fun _ s6 _ => readN s - (intOf s6).toNat)
  case atStart => exact ⟨_, _, 0, Nat.zero_le _, rfl, rfl, HR1, HB1, .inl rfl, Nat.le_refl _, HWC⟩
  case round =>
    obtain ⟨g, c, k, hk, rfl, rfl, HR, HB, hg, hwz, HC⟩ := hrel
    have hwz2 := HB.out.size
    by_cases hlt : k < readN s
    · have c0 := HC.out k hlt
      have hsm := wordAt_small s k
      have HW := Lib.hid (fun W => (spec_l1Read (wordAt s k) (by omega) W).mono fun e w' h => And.intro h.1 h.2.symm)
      rw [show wordNo (wordAt s k) = readF s k from rfl] at HW
      go_wp2_with (first
        | (go_at_call 24; refine (HW.out _).mono ?_; rintro e w2 ⟨rfl, rfl⟩)
        | (at_builtin; refine append_int_at _ rfl _ _ rfl rfl (HR.out.alloc _) wr.heap.size (readF s k) rfl (by simp) (by omega) (by simp; omega) ?_; intro g3 c3 w3 hr3 hg3 hl3; have HR3 := Lib.hid (hr3.congr (snoc_self (readF s) k)); have HG3 := Lib.hid hg3; have HL3 := Lib.hid hl3; clear hr3 hg3 hl3))
      have hg3 := HG3.out
      have hs3 := hg3.size
      rw [World.size_alloc] at hs3
      go_roundw
      case rel =>
        refine ⟨g3, c3, k + 1, by omega, rfl, by go_num, HR3, (HB.out.alloc hwz2 _).grown hg3 (by simp; omega) HR.out.own, ?_, by omega, ?_⟩
        · rcases HL3.out with e | e
          · obtain rfl : g = g3 := by simpa [Value.ownBlock] using e
            exact hg
          · rw [World.size_alloc] at e
            omega
        · intro i hi
          rw [hg3.cell_far ⟨b, i, none⟩ (by simp; omega) (by simp [Value.ownBlock]; omega)]
          exact (World.cell?_alloc_lt wr _ _ (by show b < _; omega)).trans (HC.out i hi)
      case measure => simp [intOf]; omega
    · obtain rfl : k = readN s := by omega
      have HF := Lib.hid (fun W (h : Ints W wr.heap.size (some ⟨g, 0, none⟩) (readN s) (readF s)) => spec_FloorsValid (c := c) (by omega) h)
      have HI := Lib.hid HR.out.ints
      cases hv : readOk s
      · have HN := Lib.hid hv
        have HF2 : floorsB (readF s) (readN s) = false := hv
        rw [HF2] at HF
        go_wp2_with (go_at_call 20; refine (HF.out _ HI.out).mono ?_; rintro e w2 ⟨rfl, m2, rfl⟩)
        refine bodyPost_ret (v := .tuple #[.slice (some ⟨wr.heap.size, 0, none⟩) 0 0, .bool false]) (by simp [results, Tryd.results11, go_sem]) rfl ⟨some ⟨wr.heap.size, 0, none⟩, 0, by rw [rdN_no HN.out, HN.out], ?_, (below_drewN HB.out m2).alloc hwz2 _⟩
        rw [rdN_no HN.out]
        exact Row.emptyAt (w := wr.drewN m2) _ rfl hwz2
      · have HN := Lib.hid hv
        have HF2 : floorsB (readF s) (readN s) = true := hv
        rw [HF2] at HF
        have HT := Lib.hid (fun W (hW : wr.heap.size ≤ W.heap.size) (h : Ints W wr.heap.size (some ⟨g, 0, none⟩) (readN s) (readF s)) => spec_HeightsText (c := c) (by omega) hW h)
        rw [read_text hv, show ByteArray.mk s.data.toList.toArray = s from by cases s; simp] at HT
        go_wp2_with (first
          | (go_at_call 20; refine (HF.out _ HI.out).mono ?_; rintro e w2 ⟨rfl, m2, rfl⟩)
          | (go_at_call 7; refine (HT.out (wr.drewN m2) (Nat.le_refl _) HI.out).mono ?_; rintro e w3 ⟨rfl, hb3⟩; have HB3 := Lib.hid hb3; clear hb3))
        refine bodyPost_ret (v := .tuple #[.slice (some ⟨g, 0, none⟩) (readN s) c, .bool true]) (by simp [results, Tryd.results11, go_sem]) rfl ⟨some ⟨g, 0, none⟩, c, by rw [rdN_yes HN.out, HN.out], ?_, (below_drewN HB.out m2).trans (HB3.out.mono hwz2)⟩
        rw [rdN_yes HN.out]
        exact (HR.out.drewN m2).below HB3.out (Nat.le_refl _)
end Go.Proofs.YthkpikkjgggimaaDoor
