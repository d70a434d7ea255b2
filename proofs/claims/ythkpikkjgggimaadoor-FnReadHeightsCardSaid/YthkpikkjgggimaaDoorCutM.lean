/-
  Plain facts on texts cut at commas, and on the heights that such a text reads as. No claim stands here.
-/
import Derived.Test.YthkpikkjgggimaaDoorWord
import Derived.Test.YthkpikkjgggimaaDoorText
import Derived.Lib.Split
import Derived.Lib.SplitLaws
import Derived.Lib.IndexLaws
import Derived.Lib.IndexBytes
namespace Go.Proofs.YthkpikkjgggimaaDoor
open Go.RowKit
set_option linter.unusedVariables false
set_option linter.unusedSimpArgs false

/-- A text cut at its commas. -/
def cutL : List UInt8 → List (List UInt8)
  | [] => [[]]
  | b :: l => if b = 44 then [] :: cutL l else match cutL l with | [] => [[b]] | x :: r => (b :: x) :: r
theorem cutL_none : ∀ l : List UInt8, (∀ b ∈ l, b ≠ 44) → cutL l = [l]
  | [], _ => rfl
  | b :: l, h => by
    rw [cutL, if_neg (h b (by simp)), cutL_none l fun c hc => h c (by simp [hc])]
theorem cutL_at : ∀ (p r : List UInt8), (∀ b ∈ p, b ≠ 44) → cutL (p ++ 44 :: r) = p :: cutL r
  | [], r, _ => by rw [List.nil_append, cutL, if_pos rfl]
  | b :: p, r, h => by
    rw [List.cons_append, cutL, if_neg (h b (by simp)), cutL_at p r fun c hc => h c (by simp [hc])]
/-- Texts with commas between them. -/
def joinL : List (List UInt8) → List UInt8
  | [] => []
  | [x] => x
  | x :: y :: r => x ++ 44 :: joinL (y :: r)
theorem cutL_ne (l : List UInt8) : cutL l ≠ [] := by
  cases l with
  | nil => simp [cutL]
  | cons b l =>
    rw [cutL]
    split
    · simp
    · split <;> simp
theorem joinL_cut : ∀ l : List UInt8, joinL (cutL l) = l
  | [] => rfl
  | b :: l => by
    have ih := joinL_cut l
    rw [cutL]
    split
    · rename_i h
      subst h
      have hn := cutL_ne l
      cases hc : cutL l with
      | nil => exact absurd hc hn
      | cons x r => rw [joinL, ← hc, ih]; rfl
    · cases hc : cutL l with
      | nil => exact absurd hc (cutL_ne l)
      | cons x r =>
        rw [hc] at ih
        cases r with
        | nil => simp only [joinL] at ih ⊢; rw [ih]
        | cons y r => simp only [joinL] at ih ⊢; rw [List.cons_append, ih]
theorem joinL_snoc : ∀ (l : List (List UInt8)) (x : List UInt8), joinL (l ++ [x]) = if l = [] then x else joinL l ++ 44 :: x
  | [], x => rfl
  | [y], x => by simp [joinL]
  | y :: z :: r, x => by
    have ih := joinL_snoc (z :: r) x
    rw [if_neg (by simp)] at ih ⊢
    rw [List.cons_append, List.cons_append, joinL, ← List.cons_append, ih, joinL]
    simp

/-- The shelf's cutting is the plain one. -/
theorem splitK_cut : ∀ (k : Nat) (l : List UInt8), l.count 44 = k → Lib.splitK [44] 0 k l = cutL l
  | 0, l, h => by
    rw [Lib.splitK, cutL_none l fun b hb e => by subst e; exact absurd (List.count_eq_zero.1 h) (by simpa using hb)]
  | k + 1, l, h => by
    rw [Lib.splitK, Lib.index_one]
    have hm : (44 : UInt8) ∈ l := List.count_pos_iff.1 (by omega)
    have h1 : Lib.indexByte l 44 ≠ -1 := fun e => by
      obtain ⟨i, hi, he⟩ := List.getElem_of_mem hm
      exact Lib.indexByte_none e i (by rw [List.getElem?_eq_getElem hi, he])
    have h2 := Lib.indexByte_ge l 44
    obtain ⟨o, ho⟩ : ∃ o : Nat, Lib.indexByte l 44 = o := ⟨(Lib.indexByte l 44).toNat, by omega⟩
    obtain ⟨h3, h4⟩ := Lib.indexByte_some ho
    have hlt : o < l.length := (List.getElem?_eq_some_iff.1 h3).1
    have hno : ∀ b ∈ l.take o, b ≠ 44 := fun b hb e => by
      subst e
      obtain ⟨i, hi, he⟩ := List.getElem_of_mem hb
      rw [List.length_take] at hi
      rw [List.getElem_take] at he
      exact h4 i (by omega) (by rw [List.getElem?_eq_getElem (by omega), he])
    have hsp : l = l.take o ++ 44 :: l.drop (o + 1) := by
      have := List.getElem?_eq_some_iff.1 h3
      conv => lhs; rw [← List.take_append_drop o l, List.drop_eq_getElem_cons hlt, this.2]
    have hc : (l.drop (o + 1)).count 44 = k := by
      have hz : (l.take o).count 44 = 0 := List.count_eq_zero.2 fun hb => hno _ hb rfl
      have : l.count 44 = (l.take o ++ 44 :: l.drop (o + 1)).count 44 := by rw [← hsp]
      rw [List.count_append, List.count_cons_self, hz] at this
      omega
    rw [if_neg (by simpa using h1), ho, show ((o : Int).toNat + 0) = o by omega, show ((o : Int).toNat + [(44 : UInt8)].length) = o + 1 by simp, splitK_cut k _ hc]
    conv => rhs; rw [hsp, cutL_at _ _ hno]

/-- The words of a text. -/
def wordsB (s : ByteArray) : List ByteArray := Lib.splitB ⟨#[44]⟩ 0 (Lib.countB s ⟨#[44]⟩) s
def wordAt (s : ByteArray) (i : Nat) : ByteArray := (wordsB s).getD i ByteArray.empty
theorem wordsB_cut (s : ByteArray) : (wordsB s).map (·.data.toList) = cutL s.data.toList := by
  rw [wordsB, Lib.splitB_data]
  refine splitK_cut _ _ ?_
  exact (Lib.count_one 44 s.data.toList).symm
theorem wordsB_length (s : ByteArray) : (wordsB s).length = Lib.countB s ⟨#[44]⟩ + 1 := Lib.splitB_all _ (by decide) 0 _ s rfl
theorem ba_ext {a b : ByteArray} (h : a.data.toList = b.data.toList) : a = b := by
  cases a; cases b
  simp only [ByteArray.mk.injEq]
  exact Array.toList_inj.1 h
theorem wordsB_of {s : ByteArray} {l : List ByteArray} (h : l.map (·.data.toList) = cutL s.data.toList) : l = wordsB s := by
  rw [← wordsB_cut] at h
  have : ∀ (a b : List ByteArray), a.map (·.data.toList) = b.map (·.data.toList) → a = b := by
    intro a
    induction a with
    | nil => intro b hb; cases b with | nil => rfl | cons => cases hb
    | cons x a ih => intro b hb; cases b with | nil => cases hb | cons y b => simp only [List.map_cons, List.cons.injEq] at hb; rw [ba_ext hb.1, ih b hb.2]
  exact this _ _ h

/-- The heights that a text reads as. -/
def readF (s : ByteArray) (i : Nat) : Int := wordNo (wordAt s i)
def readN (s : ByteArray) : Nat := (wordsB s).length
def readOk (s : ByteArray) : Bool := floorsB (readF s) (readN s)

theorem byteAt_list (s : ByteArray) (k : Nat) (h : k < s.size) : s.data.toList[k]? = some (UInt8.ofNat (byteAt s k)) := by
  have h' : k < s.data.size := h
  have e : s[k] = s.data[k] := rfl
  rw [Array.getElem?_toList, Array.getElem?_eq_getElem h', ← byteAt_of h, e]
  simp
theorem wordOk_digits {s : ByteArray} (h : wordOk s = true) : 1 ≤ s.size ∧ s.size ≤ 3 ∧ (1 < s.size → byteAt s 0 ≠ 48) ∧ allB (digP s) s.size = true := by
  simp only [wordOk, Bool.and_eq_true, decide_eq_true_eq, Bool.not_eq_true', Bool.and_eq_false_iff, decide_eq_false_iff_not] at h
  obtain ⟨⟨⟨a, b⟩, c⟩, d⟩ := h
  exact ⟨a, b, fun h1 e => by rcases c with c | c; exact c h1; exact c e, d⟩
theorem word_dec {s : ByteArray} (h : wordOk s = true) : Lib.decDigits (numTo s s.size) = s.data.toList := by
  obtain ⟨h1, h3, h0, hd⟩ := wordOk_digits h
  have key : ∀ k, 1 ≤ k → k ≤ s.size → (Lib.decDigits (numTo s k) = s.data.toList.take k ∧ (1 < s.size → 1 ≤ numTo s k)) := by
    intro k
    induction k with
    | zero => intro h; omega
    | succ k ih =>
      intro hk1 hk
      have hb := digP_iff.1 (allB_iff.1 hd k (by omega))
      have hl := byteAt_list s k (by omega)
      have ht : s.data.toList.take (k + 1) = s.data.toList.take k ++ [UInt8.ofNat (byteAt s k)] := by
        rw [List.take_add_one, hl]; rfl
      by_cases hk0 : k = 0
      · subst hk0
        rw [ht]
        simp only [numTo, Nat.mul_zero, Nat.zero_add]
        rw [Lib.decDigits_one (by omega), show 48 + (byteAt s 0 - 48) = byteAt s 0 by omega]
        refine ⟨rfl, fun h => ?_⟩
        have := h0 h
        omega
      · obtain ⟨e1, e2⟩ := ih (by omega) (by omega)
        have e3 := e2 (by omega)
        rw [ht, ← e1, numTo]
        rw [decDigits_more (by omega), show (10 * numTo s k + (byteAt s k - 48)) / 10 = numTo s k by omega, show 48 + (10 * numTo s k + (byteAt s k - 48)) % 10 = byteAt s k by omega]
        exact ⟨rfl, fun _ => by omega⟩
  rw [(key s.size h1 (Nat.le_refl _)).1]
  exact List.take_of_length_le (by show s.data.toList.length ≤ s.data.size; simp)

theorem hTo_join (f : Nat → Int) (g : Nat → List UInt8) : ∀ k, (∀ i, i < k → Lib.decDigits (f i).toNat = g i) → hTo f k = joinL ((List.range k).map g)
  | 0, _ => rfl
  | k + 1, h => by
    rw [hTo, hTo_join f g k fun i hi => h i (by omega), h k (by omega), List.range_succ, List.map_append, List.map_singleton, joinL_snoc]
    by_cases hk : k = 0
    · subst hk; simp [joinL]
    · rw [if_neg hk, if_neg (by simp [hk])]; simp
theorem readF_ok {s : ByteArray} (h : readOk s = true) {i : Nat} (hi : i < readN s) : wordOk (wordAt s i) = true := by
  rw [← Bool.not_eq_false]
  intro e
  have := (floorsB_in h hi).1
  rw [readF, wordNo_no e] at this
  omega
/-- The text of the heights that a text reads as is the text. -/
theorem read_text {s : ByteArray} (h : readOk s = true) : textOf (readF s) (readN s) = s.data.toList := by
  rw [textOf_yes h, hTo_join (readF s) (fun i => (wordAt s i).data.toList) _ fun i hi => by
    have := readF_ok h hi
    rw [readF, wordNo_yes this, Int.toNat_natCast, word_dec this]]
  have : (List.range (readN s)).map (fun i => (wordAt s i).data.toList) = (wordsB s).map (·.data.toList) := by
    apply List.ext_getElem?
    intro i
    rw [List.getElem?_map, List.getElem?_map]
    by_cases hi : i < readN s
    · rw [List.getElem?_range hi]
      unfold readN at hi
      simp [wordAt, hi]
    · rw [List.getElem?_eq_none (by simpa using hi), List.getElem?_eq_none (by unfold readN at hi; omega)]; rfl
  rw [this, wordsB_cut, joinL_cut]
end Go.Proofs.YthkpikkjgggimaaDoor
