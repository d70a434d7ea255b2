/-
  Plain facts: the text of valid floors reads as those floors; with a comma behind it a text reads as none. No claim stands here.
-/
import Derived.Test.YthkpikkjgggimaaDoorReadH
namespace Go.Proofs.YthkpikkjgggimaaDoor
open Go.RowKit
set_option linter.unusedVariables false
set_option linter.unusedSimpArgs false

theorem cutL_snoc (w : List UInt8) (hw : ∀ b ∈ w, b ≠ 44) : ∀ l : List UInt8, cutL (l ++ 44 :: w) = cutL l ++ [w]
  | [] => by rw [cutL_at [] w (by simp), cutL_none _ hw]; rfl
  | b :: l => by
    rw [List.cons_append, cutL, cutL, cutL_snoc w hw l]
    by_cases h : b = 44
    · rw [if_pos h, if_pos h]; rfl
    · rw [if_neg h, if_neg h]
      cases hc : cutL l with
      | nil => exact absurd hc (cutL_ne l)
      | cons x r => rfl
theorem dec_byte {i : Nat} (h : i < 10) : (UInt8.ofNat (48 + i)).toNat = 48 + i := by
  rw [UInt8.toNat_ofNat']; omega
theorem dec_noC {i : Nat} (h : i < 100) : ∀ b ∈ Lib.decDigits i, b ≠ 44 := by
  intro b hb e
  have key : ∀ j, j < 10 → b = UInt8.ofNat (48 + j) → False := fun j hj e2 => by
    have := dec_byte hj
    rw [← e2, e] at this
    simp at this
    omega
  by_cases h1 : i < 10
  · rw [Lib.decDigits_one h1] at hb
    exact key i h1 (by simpa using hb)
  · rw [decDigits_more h1, Lib.decDigits_one (by omega)] at hb
    rcases (by simpa using hb : b = UInt8.ofNat (48 + i / 10) ∨ b = UInt8.ofNat (48 + i % 10)) with e2 | e2
    · exact key _ (by omega) e2
    · exact key _ (by omega) e2
theorem cut_hTo {f : Nat → Int} : ∀ k, 0 < k → (∀ i, i < k → 0 ≤ f i ∧ f i ≤ 60) → cutL (hTo f k) = (List.range k).map fun i => Lib.decDigits (f i).toNat
  | 0, h, _ => absurd h (by omega)
  | k + 1, _, h => by
    have hd := dec_noC (i := (f k).toNat) (by have := h k (by omega); omega)
    by_cases hk : k = 0
    · subst hk
      simp only [hTo, if_true, List.nil_append]
      rw [cutL_none _ hd]
      rfl
    · rw [hTo, if_neg hk, List.append_assoc, List.singleton_append, cutL_snoc _ hd, cut_hTo k (by omega) fun i hi => h i (by omega), List.range_succ, List.map_append]
      rfl
theorem byteAt_get {s : ByteArray} {k : Nat} {b : UInt8} (h : s.data.toList[k]? = some b) : byteAt s k = b.toNat := by
  have hk : k < s.size := by have := (List.getElem?_eq_some_iff.1 h).1; simpa using this
  have h2 := byteAt_list s k hk
  rw [h] at h2
  have := byteAt_lt s k
  rw [Option.some.inj h2, UInt8.toNat_ofNat']
  omega
theorem word_of_dec {s : ByteArray} {i : Nat} (hi : i < 100) (h : s.data.toList = Lib.decDigits i) : wordOk s = true ∧ numTo s s.size = i := by
  by_cases h1 : i < 10
  · rw [Lib.decDigits_one h1] at h
    have hs : s.size = 1 := by have := congrArg List.length h; simpa using this
    have b0 := byteAt_get (s := s) (k := 0) (b := UInt8.ofNat (48 + i)) (by rw [h]; rfl)
    rw [dec_byte h1] at b0
    refine ⟨wordOk_yes (by omega) (by omega) (by omega) (allB_iff.2 fun j hj => ?_), ?_⟩
    · obtain rfl : j = 0 := by omega
      exact digP_iff.2 ⟨by omega, by omega⟩
    · rw [hs, numTo, numTo, b0]; omega
  · rw [decDigits_more h1, Lib.decDigits_one (by omega)] at h
    have hs : s.size = 2 := by have := congrArg List.length h; simpa using this
    have b0 := byteAt_get (s := s) (k := 0) (b := UInt8.ofNat (48 + i / 10)) (by rw [h]; rfl)
    have b1 := byteAt_get (s := s) (k := 1) (b := UInt8.ofNat (48 + i % 10)) (by rw [h]; rfl)
    rw [dec_byte (by omega)] at b0 b1
    refine ⟨wordOk_yes (by omega) (by omega) (by omega) (allB_iff.2 fun j hj => ?_), ?_⟩
    · rcases (by omega : j = 0 ∨ j = 1) with rfl | rfl
      · exact digP_iff.2 ⟨by omega, by omega⟩
      · exact digP_iff.2 ⟨by omega, by omega⟩
    · rw [hs, numTo, numTo, numTo, b0, b1]; omega
/-- The text of valid floors reads as those floors. -/
theorem text_read {f : Nat → Int} {n : Nat} {s : ByteArray} (h : floorsB f n = true) (hs : s.data.toList = textOf f n) : readN s = n ∧ (∀ i, i < n → readF s i = f i) := by
  have hn := (floorsB_iff.1 h).1
  have hin := fun i (hi : i < n) => floorsB_in h hi
  have hc : (wordsB s).map (·.data.toList) = (List.range n).map fun i => Lib.decDigits (f i).toNat := by
    rw [wordsB_cut, hs, textOf_yes h, cut_hTo n (by omega) hin]
  have hl : readN s = n := by have := congrArg List.length hc; simpa [readN] using this
  refine ⟨hl, fun i hi => ?_⟩
  have hg := congrArg (·[i]?) hc
  simp only [List.getElem?_map, List.getElem?_range hi] at hg
  have hw : (wordAt s i).data.toList = Lib.decDigits (f i).toNat := by
    unfold wordAt
    rw [List.getD_eq_getElem?_getD]
    cases hx : (wordsB s)[i]? with
    | none => rw [hx] at hg; cases hg
    | some x => rw [hx] at hg; simpa using hg
  have hf := hin i hi
  obtain ⟨h1, h2⟩ := word_of_dec (by omega) hw
  rw [readF, wordNo_yes h1, h2]
  omega
/-- With a comma behind it a text reads as no floors. -/
theorem read_comma {s t : ByteArray} (h : t.data.toList = s.data.toList ++ [44]) : readOk t = false := by
  have hc : (wordsB t).map (·.data.toList) = cutL s.data.toList ++ [[]] := by rw [wordsB_cut, h, cutL_snoc [] (by simp)]
  have hl : readN t = (cutL s.data.toList).length + 1 := by have := congrArg List.length hc; simpa [readN] using this
  refine readOk_no1 (k := (cutL s.data.toList).length) (by omega) (wordOk_no1 (.inl ?_))
  have hg := congrArg (·[(cutL s.data.toList).length]?) hc
  simp only [List.getElem?_map] at hg
  rw [List.getElem?_append_right (Nat.le_refl _)] at hg
  unfold wordAt
  rw [List.getD_eq_getElem?_getD]
  cases hx : (wordsB t)[(cutL s.data.toList).length]? with
  | none => simp
  | some x =>
    rw [hx] at hg
    have : x.data.toList = [] := by simpa using hg
    have := congrArg List.length this
    simp at this
    simp [ByteArray.size, this]
/-- The text of valid floors is not empty. -/
theorem text_ne {f : Nat → Int} {n : Nat} (h : floorsB f n = true) : textOf f n ≠ [] := by
  intro e
  have hn := (floorsB_iff.1 h).1
  have := cut_hTo n (by omega) fun i hi => floorsB_in h hi
  rw [textOf_yes h] at e
  rw [e] at this
  have hg := congrArg (·[0]?) this
  simp only [List.getElem?_map, List.getElem?_range hn] at hg
  have hd : Lib.decDigits (f 0).toNat = [] := by simpa [cutL] using hg.symm
  have hf := floorsB_in h hn
  by_cases h1 : (f 0).toNat < 10
  · rw [Lib.decDigits_one h1] at hd; cases hd
  · rw [decDigits_more h1] at hd; simp at hd
end Go.Proofs.YthkpikkjgggimaaDoor
