/-
  What a line of text does to a building, and what is answered, in plain Lean. No claim stands here.
-/
import Derived.Test.YthkpikkjgggimaaGreatDoorTold
import Derived.Test.YthkpikkjgggimaaGreatDoorCutZ
import Derived.Test.YthkpikkjgggimaaGreatDoorBF
namespace Go.Proofs.YthkpikkjgggimaaGreatDoor
open Go.RowKit
set_option linter.unusedVariables false
set_option linter.unusedSimpArgs false

/-- What stands ahead of the first space of a text, what stands behind it, and whether there is one. -/
def cutW (s : ByteArray) : ByteArray := ⟨(Lib.cut s.data.toList [32]).1.toArray⟩
def cutR (s : ByteArray) : ByteArray := ⟨(Lib.cut s.data.toList [32]).2.1.toArray⟩
def cutOk (s : ByteArray) : Bool := (Lib.cut s.data.toList [32]).2.2
/-- A line is a call. -/
def callLine (s : ByteArray) : Bool := cutOk s && (decide (0 ≤ kindOf (cutW s)) && wordOk (cutR s))

theorem cut_cases (l : List UInt8) : ((∀ b ∈ l, b ≠ 32) ∧ Lib.cut l [32] = (l, [], false)) ∨ ∃ p r, l = p ++ 32 :: r ∧ (∀ b ∈ p, b ≠ 32) ∧ Lib.cut l [32] = (p, r, true) := by
  by_cases hm : (32 : UInt8) ∈ l
  · right
    have h1 : Lib.indexByte l 32 ≠ -1 := fun e => by
      obtain ⟨i, hi, he⟩ := List.getElem_of_mem hm
      exact Lib.indexByte_none e i (by rw [List.getElem?_eq_getElem hi, he])
    have h2 := Lib.indexByte_ge l 32
    obtain ⟨o, ho⟩ : ∃ o : Nat, Lib.indexByte l 32 = o := ⟨(Lib.indexByte l 32).toNat, by omega⟩
    obtain ⟨h3, h4⟩ := Lib.indexByte_some ho
    have hlt : o < l.length := (List.getElem?_eq_some_iff.1 h3).1
    have hno : ∀ b ∈ l.take o, b ≠ 32 := fun b hb e => by
      subst e
      obtain ⟨i, hi, he⟩ := List.getElem_of_mem hb
      rw [List.length_take] at hi
      rw [List.getElem_take] at he
      exact h4 i (by omega) (by rw [List.getElem?_eq_getElem (by omega), he])
    have hsp : l = l.take o ++ 32 :: l.drop (o + 1) := by
      have := List.getElem?_eq_some_iff.1 h3
      conv => lhs; rw [← List.take_append_drop o l, List.drop_eq_getElem_cons hlt, this.2]
    refine ⟨l.take o, l.drop (o + 1), hsp, hno, ?_⟩
    unfold Lib.cut
    rw [Lib.index_one, ho, if_pos (by omega)]
    simp
  · left
    have h1 : Lib.indexByte l 32 = -1 := by
      have h2 := Lib.indexByte_ge l 32
      rcases (by omega : Lib.indexByte l 32 = -1 ∨ 0 ≤ Lib.indexByte l 32) with h | h
      · exact h
      · obtain ⟨o, ho⟩ : ∃ o : Nat, Lib.indexByte l 32 = o := ⟨(Lib.indexByte l 32).toNat, by omega⟩
        exact absurd (List.mem_of_getElem? (Lib.indexByte_some ho).1) hm
    refine ⟨fun b hb e => hm (e ▸ hb), ?_⟩
    unfold Lib.cut
    rw [Lib.index_one, h1, if_neg (by omega)]

theorem wordOk_noS {s : ByteArray} (h : wordOk s = true) : ∀ b ∈ s.data.toList, b ≠ 32 := by
  intro b hb e
  subst e
  obtain ⟨i, hi, he⟩ := List.getElem_of_mem hb
  have hi' : i < s.size := by simpa using hi
  have hl := byteAt_list s i hi'
  rw [List.getElem?_eq_getElem hi, he] at hl
  simp only [wordOk, Bool.and_eq_true] at h
  have hd := digP_iff.1 (allB_iff.1 h.2 i hi')
  have h5 : (32 : UInt8) = UInt8.ofNat (byteAt s i) := by simpa using hl
  have h6 := congrArg UInt8.toNat h5
  rw [UInt8.toNat_ofNat'] at h6
  simp at h6
  omega

/-- The reference's cutting against the program's. -/
theorem words_cut (s : ByteArray) : wordAt s 0 = cutW s ∧ 1 ≤ readN s ∧ callLine s = (decide (0 ≤ kindOf (wordAt s 0)) && decide (readN s = 2) && wordOk (wordAt s 1)) ∧ (readN s = 2 → cutR s = wordAt s 1) := by
  rcases cut_cases s.data.toList with ⟨h1, h2⟩ | ⟨p, r, h1, h2, h3⟩
  · have hw : wordsB s = [s] := by
      rw [wordsB, cutL_none _ h1]
      cases s; simp
    have hn : readN s = 1 := by rw [readN, hw]; rfl
    refine ⟨?_, by omega, ?_, fun h => by omega⟩
    · unfold wordAt cutW
      rw [hw, h2]
      cases s; simp
    · rw [hn]
      simp [callLine, cutOk, h2]
  · have hw : wordsB s = ⟨p.toArray⟩ :: (cutL r).map fun x => ⟨x.toArray⟩ := by
      rw [wordsB, h1, cutL_at p r h2]; rfl
    have hc : cutW s = ⟨p.toArray⟩ := by unfold cutW; rw [h3]
    have hr : cutR s = ⟨r.toArray⟩ := by unfold cutR; rw [h3]
    have h0 : wordAt s 0 = cutW s := by unfold wordAt; rw [hw, hc]; rfl
    have hok : cutOk s = true := by unfold cutOk; rw [h3]
    by_cases hm : ∀ b ∈ r, b ≠ 32
    · have hn : readN s = 2 := by rw [readN, hw, cutL_none _ hm]; rfl
      have e1 : wordAt s 1 = cutR s := by unfold wordAt; rw [hw, hr, cutL_none _ hm]; rfl
      refine ⟨h0, by omega, ?_, fun _ => e1.symm⟩
      rw [callLine, hok, h0, hn, e1]
      simp
    · have hn : 2 < readN s := by
        rcases cut_cases r with ⟨g1, _⟩ | ⟨p', r', g1, g2, _⟩
        · exact absurd g1 hm
        · rw [readN, hw, g1, cutL_at _ _ g2]
          have := cutL_ne r'
          cases hx : cutL r' with
          | nil => exact absurd hx this
          | cons a b => simp
      have hno : wordOk (cutR s) = false := by
        rw [← Bool.not_eq_true]
        intro h
        have := wordOk_noS h
        rw [hr] at this
        exact hm (by simpa using this)
      refine ⟨h0, by omega, ?_, fun h => by omega⟩
      rw [callLine, hno]
      have : ¬ readN s = 2 := by omega
      simp [this]

theorem isT_cut {s : ByteArray} {l : List UInt8} (h : isT s l = true) (hl : (Lib.cut l [32]).2.2 = false) : cutOk s = false := by
  rw [isT_iff] at h
  subst h
  exact hl
/-- A line with a space asks nothing. -/
theorem told_what {b : Bld} {s : ByteArray} (h : cutOk s = true) : toldL b s = rWhat := by
  have key : ∀ l, (Lib.cut l [32]).2.2 = false → isT s l = false := fun l hl => by
    rw [← Bool.not_eq_true]
    intro e
    rw [isT_cut e hl] at h
    cases h
  simp [toldL, key wWhere (by decide), key wAt (by decide), key wSpeed (by decide), key wDoor (by decide), key wCalls (by decide), key wFloors (by decide), key wQuiet (by decide)]

/-- A valid building after a line. -/
def Bld.line (b : Bld) (s : ByteArray) : Bld :=
  if isT s wTick = true then b.tick false else if isT s wBlock = true then b.tick true else if isT s wRest = true then b.after b.rest
  else if callLine s = true then b.ask (kindOf (cutW s)) (wordN (cutR s)) else b
/-- What a valid building answers. -/
def Bld.reply (b : Bld) (s : ByteArray) : List UInt8 :=
  if isT s wTick = true then rOk else if isT s wBlock = true then rOk else if isT s wRest = true then Lib.itoa (b.rest : Int)
  else if callLine s = true then (if b.askOk (kindOf (cutW s)) (wordN (cutR s)) = true then rOk else rNo) else toldL b s
def Bld.lined (b : Bld) (s : ByteArray) : Bld := if b.valid = true then b.line s else Bld.none
def Bld.says (b : Bld) (s : ByteArray) : List UInt8 := if b.valid = true then b.reply s else []
theorem lined_no {b : Bld} {s : ByteArray} (h : b.valid = false) : b.lined s = Bld.none ∧ b.says s = [] := by simp [Bld.lined, Bld.says, h]
theorem lined_yes {b : Bld} {s : ByteArray} (h : b.valid = true) : b.lined s = b.line s ∧ b.says s = b.reply s := by simp [Bld.lined, Bld.says, h]
theorem ask_not {b : Bld} {k f : Int} (h : b.askOk k f = false) : b.ask k f = b := by
  unfold Bld.askOk at h
  cases b
  simp [Bld.ask, askUp, askDn, askCar] at h ⊢
  simp [h]
theorem line_ok {b : Bld} (h : b.Ok) (s : ByteArray) : (b.line s).Ok := by
  unfold Bld.line
  split
  · exact tick_ok h false
  · split
    · exact tick_ok h true
    · split
      · exact after_ok h _
      · split
        · exact Bld.ask_valid h _ _
        · exact h
end Go.Proofs.YthkpikkjgggimaaGreatDoor
