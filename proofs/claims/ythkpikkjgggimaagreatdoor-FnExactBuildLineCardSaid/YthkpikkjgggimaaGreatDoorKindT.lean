/-
  The contracts of callKind, the program's, and l29Kind, the reference's. No claim stands here.
-/
import Derived.Test.YthkpikkjgggimaaGreatDoorBB
namespace Go.Proofs.YthkpikkjgggimaaGreatDoor
open Go.RowKit
set_option linter.unusedVariables false
set_option linter.unusedSimpArgs false

/-- A text is the bytes l. -/
def isT (s : ByteArray) (l : List UInt8) : Bool := s.toList == l
theorem isT_iff {s : ByteArray} {l : List UInt8} : isT s l = true ↔ s = ⟨l.toArray⟩ := by
  unfold isT
  rw [beq_iff_eq]
  constructor
  · rintro rfl
    rw [ByteArray.toList_eq]
  · rintro rfl
    rw [ByteArray.toList_eq]
theorem isT_other {s : ByteArray} {l m : List UInt8} (h : isT s l = true) (hne : (l == m) = false) : isT s m = false := by
  unfold isT at h ⊢
  rw [beq_iff_eq] at h
  rw [h, hne]
def wUp : List UInt8 := [117, 112]
def wDown : List UInt8 := [100, 111, 119, 110]
def wCar : List UInt8 := [99, 97, 114]
/-- The kind of the calls that a word names; -1 if it names none. -/
def kindOf (s : ByteArray) : Int := if isT s wUp = true then 0 else if isT s wDown = true then 1 else if isT s wCar = true then 2 else -1
theorem impl_kind (s : ByteArray) (w : World) : Calls Tryz.prog 49 #[.string s] w fun e w' => e = .returned (.int .i64 (kindOf s)) ∧ w = w' := by
  cases h1 : isT s wUp
  · cases h2 : isT s wDown
    · cases h3 : isT s wCar
      · have HK : Hid (kindOf s = -1) := by simp [Hid, kindOf, h1, h2, h3]
        have g1 : (s.toList == [117, 112]) = false := h1
        have g2 : (s.toList == [100, 111, 119, 110]) = false := h2
        have g3 : (s.toList == [99, 97, 114]) = false := h3
        clear h1 h2 h3
        go_enter Tryz.func49, Tryz.ntmps49
        go_wp2
        go_ret
        exact ⟨by rw [HK.out]; rfl, rfl⟩
      · have HK : Hid (kindOf s = 2) := by simp [Hid, kindOf, h1, h2, h3]
        have g1 : (s.toList == [117, 112]) = false := h1
        have g2 : (s.toList == [100, 111, 119, 110]) = false := h2
        have g3 : (s.toList == [99, 97, 114]) = true := h3
        clear h1 h2 h3
        go_enter Tryz.func49, Tryz.ntmps49
        go_wp2
        go_ret
        exact ⟨by rw [HK.out]; rfl, rfl⟩
    · have HK : Hid (kindOf s = 1) := by simp [Hid, kindOf, h1, h2]
      have g1 : (s.toList == [117, 112]) = false := h1
      have g2 : (s.toList == [100, 111, 119, 110]) = true := h2
      clear h1 h2
      go_enter Tryz.func49, Tryz.ntmps49
      go_wp2
      go_ret
      exact ⟨by rw [HK.out]; rfl, rfl⟩
  · have HK : Hid (kindOf s = 0) := by simp [Hid, kindOf, h1]
    have g1 : (s.toList == [117, 112]) = true := h1
    clear h1
    go_enter Tryz.func49, Tryz.ntmps49
    go_wp2
    go_ret
    exact ⟨by rw [HK.out]; rfl, rfl⟩
theorem spec_kind (s : ByteArray) (w : World) : Calls Tryz.prog 55 #[.string s] w fun e w' => e = .returned (.int .i64 (kindOf s)) ∧ w = w' := by
  cases h1 : isT s wUp
  · cases h2 : isT s wDown
    · cases h3 : isT s wCar
      · have HK : Hid (kindOf s = -1) := by simp [Hid, kindOf, h1, h2, h3]
        have g1 : (s.toList == [117, 112]) = false := h1
        have g2 : (s.toList == [100, 111, 119, 110]) = false := h2
        have g3 : (s.toList == [99, 97, 114]) = false := h3
        clear h1 h2 h3
        go_enter Tryz.func55, Tryz.ntmps55
        go_wp2
        go_ret
        exact ⟨by rw [HK.out]; rfl, rfl⟩
      · have HK : Hid (kindOf s = 2) := by simp [Hid, kindOf, h1, h2, h3]
        have g1 : (s.toList == [117, 112]) = false := h1
        have g2 : (s.toList == [100, 111, 119, 110]) = false := h2
        have g3 : (s.toList == [99, 97, 114]) = true := h3
        clear h1 h2 h3
        go_enter Tryz.func55, Tryz.ntmps55
        go_wp2
        go_ret
        exact ⟨by rw [HK.out]; rfl, rfl⟩
    · have HK : Hid (kindOf s = 1) := by simp [Hid, kindOf, h1, h2]
      have g1 : (s.toList == [117, 112]) = false := h1
      have g2 : (s.toList == [100, 111, 119, 110]) = true := h2
      clear h1 h2
      go_enter Tryz.func55, Tryz.ntmps55
      go_wp2
      go_ret
      exact ⟨by rw [HK.out]; rfl, rfl⟩
  · have HK : Hid (kindOf s = 0) := by simp [Hid, kindOf, h1]
    have g1 : (s.toList == [117, 112]) = true := h1
    clear h1
    go_enter Tryz.func55, Tryz.ntmps55
    go_wp2
    go_ret
    exact ⟨by rw [HK.out]; rfl, rfl⟩
end Go.Proofs.YthkpikkjgggimaaGreatDoor
