/-
  An argument that is a slice of texts, as a row's proof opens it. No claim stands here.
-/
import Derived.Test.YthkpikkjgggimaaGreatDoorTexts
import Derived.ProofKit
import Derived.OpenShut
import Derived.SliceStrings
namespace Go.Proofs.YthkpikkjgggimaaGreatDoor
open Go.ChangeShapes Go.WideShapes Go.ChangeAt Go.RowKit
set_option linter.unusedVariables false
set_option linter.unusedSimpArgs false

set_option maxRecDepth 100000 in
theorem open_texts {H : Type} {enc : TypeId × Value → H} {w : World} {base : Nat} {v0 : Value} {d : DataW H} {p : List MemPlace} (hval : Value.okWide Tryz.prog w .any base 37 v0) (h : DataW.Trod enc Tryz.prog w 0 (fun _ => true) true 37 v0 d p) :
    ∃ (A : Option Addr) (t : Nat → ByteArray) (n c : Nat), v0 = .slice A n c ∧ (n ≤ 9223372036854775807 ∧ ∀ i, i < n → (t i).size ≤ 9223372036854775807) ∧ Texts w w.heap.size A n t := by
  obtain ⟨a0, len0, cap0, rfl⟩ := okWide_slice Tryz.underlying37 hval
  obtain ⟨fuel, hf⟩ := h
  rcases open_strings Tryz.underlying37 Tryz.underlying9 (by kernel_rfl) hf with ⟨hcs, _⟩ | ⟨x, l, c', ss, hcs, _, hl, hm, hz, _, hcell, hsz⟩
  · simp [Value.cells] at hcs
    obtain ⟨rfl, rfl, rfl⟩ := hcs
    exact ⟨none, fun _ => ByteArray.empty, 0, 0, rfl, ⟨by omega, fun i hi => absurd hi (Nat.not_lt_zero _)⟩, Texts.zero⟩
  · simp [Value.cells] at hcs
    obtain ⟨rfl, rfl, rfl⟩ := hcs
    have hz' : ss.length = cap0 := by simpa using hz
    unfold maxLen at hm hsz
    refine ⟨some x, fun i => ss.getD i ByteArray.empty, len0, cap0, rfl, ⟨by omega, fun i hi => ?_⟩, fun hn => ?_⟩
    · have hi' : i < ss.length := by omega
      refine hsz _ ?_
      simp [List.getD, hi']
    · obtain ⟨b, off, spot⟩ := x
      have h0 := hcell 0 (by omega)
      have hs : spot = none := by simpa [Addr.add] using World.cell?_spot h0
      subst hs
      refine ⟨b, off, rfl, ?_, fun i hi => ?_⟩
      · have := World.block_lt_of_cell? w _ h0
        simpa [Addr.add] using this
      · have := hcell i (by omega)
        rwa [Addr.add_lit] at this
end Go.Proofs.YthkpikkjgggimaaGreatDoor
