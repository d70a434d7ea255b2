/-
  The contracts of Clone, copyTruths, copyCalls, copyBuilding. No claim stands here.
-/
import Derived.Test.YtailpiagjemhpaaMany
import Derived.Laws.CopyOwn
namespace Go.Proofs.Ytailpiagjemhpaa
open Go.RowKit
set_option linter.unusedVariables false
set_option linter.unusedSimpArgs false

theorem Clone_any {w : World} {B : Nat} {A : Option Addr} {n c : Nat} {f : Nat → Int} (hn : n ≤ 100000000) (hB : B ≤ w.heap.size) (hA : 0 < n) (hs : Ints w B A n f) :
    Calls Try.prog 112 #[.slice A n c] w fun e w' => ∃ A' c', e = .returned (.slice A' n c') ∧ Row w' w.heap.size A' n c' f ∧ Below w.heap.size w w' := by
  obtain ⟨b, off, rfl, hb, _⟩ := hs hA
  have HS := Lib.hid (hs.alloc hB (.cells #[] 3))
  have hrun : ∀ W : World, (binOp .eql 23 (.slice (some ⟨b, off, none⟩) n c) (.slice none 0 0)).run Try.prog W = .ok (.bool false) W := fun W => Lib.run_eql_slice_nil (P := Try.prog) W 23 3 (some ⟨b, off, none⟩) n c 0 0 Try.underlying23
  clear hs
  go_enter Try.func112, Try.ntmps112
  go_wp2_with (at_builtin; refine append_ints _ rfl _ _ rfl rfl (Row.empty (w := w) (base := w.heap.size) f (Nat.le_refl _)) rfl HS.out (by intro h; cases h) (by omega) (by simp) ?_; intro A' c' w' hr hg)
  have HR := Lib.hid (hr.congr (g := f) (fun i hi => by rw [catF_hi (by omega), Nat.sub_zero]))
  have HB := Lib.hid (((Below.refl w.heap.size w).alloc (Nat.le_refl _) (.cells #[] 3)).grown hg (by simp) (by intro k hk; simp [Value.ownBlock] at hk; omega))
  clear hr hg
  go_wp2
  go_ret
  exact ⟨_, _, rfl, by simpa using HR.out, HB.out⟩

/-- make of truths as a run's equation. -/
theorem makeB_run (n : Nat) (hn : n ≤ 1000000000) : ∃ MC : Array Value, MC.size = n ∧ (∀ w : World, (Instr.makeSlice 30 (.int .i64 (n : Int)) (.int .i64 (n : Int))).run Try.prog w = .ok (.slice (some ⟨w.heap.size, 0, none⟩) n n) (w.alloc (.cells MC 4))) := by
  obtain ⟨i0, hi, hz0, hz1, hz2⟩ := info_parts Try.infoBool
  refine ⟨madeCells (Value.bool false).cells (n * i0.size), ?_, fun w => ?_⟩
  · rw [hz1, Nat.mul_one]; exact size_madeCells _ _
  · have hr := run_make (P := Try.prog) w 30 4 i0 (.bool false) Try.underlying30 hi hz0 .i64 .i64 n n (by omega) (Int.le_refl _) (by rw [hz2]; omega) (by omega)
    simp only [Int.toNat_natCast] at hr
    exact hr
theorem copied_row {w : World} {g n : Nat} {MC : Array Value} {p : Nat → Bool} (hm : n ≤ maxLen) (hs : MC.size = n) (h : w.heap[g]? = some (.cells (splice MC.toList 0 (bvals p n)).toArray 4 (0, 0))) : RowB w g (some ⟨g, 0, none⟩) n n p := by
  refine ⟨by rw [bvals_length, Nat.mul_one], .inr ⟨g, n, _, rfl, Nat.le_refl _, h, Nat.le_refl _, hm, ?_, ?_⟩⟩
  · rw [List.size_toArray, length_splice _ _ _ (by simp [bvals_length, hs])]; simp [hs]
  · simp [splice, List.take_append_of_le_length, bvals_length]

set_option maxHeartbeats 800000 in
theorem copyTruths_any {w : World} {B : Nat} {A : Option Addr} {n c : Nat} {p : Nat → Bool} (hn : n ≤ 1000000000) (hB : B ≤ w.heap.size) (hs : Bools w B A n p) :
    Calls Try.prog 115 #[.slice A n c] w fun e w' => ∃ A' c', e = .returned (.slice A' n c') ∧ RowB w' w.heap.size A' n c' p ∧ Below w.heap.size w w' := by
  obtain ⟨i0, hi, hz0, hz1, hz2⟩ := info_parts Try.infoBool
  have hsz : (Try.prog.info? 4).map (·.size) = some 1 := by rw [hi]; simp [hz1]
  obtain ⟨MC, hM, hmk⟩ := makeB_run n hn
  have HM := Lib.hid hM
  have hg0 : (w.alloc (.cells MC 4)).heap[w.heap.size]? = some (.cells MC.toList.toArray 4 (0, 0)) := by
    show (w.heap.push _)[w.heap.size]? = _; simp
  have HG := Lib.hid hg0
  have HB := Lib.hid ((Below.refl w.heap.size w).alloc (Nat.le_refl _) (.cells MC 4))
  have hs1 := hs.alloc hB (.cells MC 4)
  have hpos : 0 < (bvals p n).length → some (⟨w.heap.size, 0, none⟩ : Addr) = some ⟨w.heap.size, 0, none⟩ ∧ ∃ ad, A = some ad ∧ ∀ j v, (bvals p n)[j]? = some v → (w.alloc (.cells MC 4)).cell? (ad.add j) = some v := by
    intro h0
    rw [bvals_length] at h0
    obtain ⟨b, off, hA, _, hc⟩ := hs1 h0
    refine ⟨rfl, _, hA, fun j v hj => ?_⟩
    have hjn : j < n := by
      rcases Nat.lt_or_ge j n with h | h
      · exact h
      · rw [List.getElem?_eq_none (by rw [bvals_length]; omega)] at hj; cases hj
    rw [bvals_get hjn] at hj
    cases hj
    rw [Addr.add_lit]
    exact hc j hjn
  have HP := Lib.hid hpos
  clear hM hg0 hs hs1 hpos hi hz0 hz1 hz2
  go_enter Try.func115, Try.ntmps115
  go_wp2_with (with_reducible refine wpList_copy_splice rfl (.tmp 7) (.tmp 8) 30 30 rfl 4 Try.underlying30 hsz (some ⟨w.heap.size, 0, none⟩) A n n n c rfl rfl w.heap.size 0 MC.toList 4 HG.out (bvals p n) (by rw [bvals_length]; exact (Nat.min_self n).symm) HP.out (by rw [bvals_length]; simp [HM.out]) bvals_one w.heap.size w HB.out (Nat.le_refl _) ?_; intro w1 hg1 hb1)
  have HR := Lib.hid (copied_row (by unfold maxLen; omega) HM.out hg1.out)
  have HB1 := Lib.hid hb1
  clear hg1 hb1
  go_wp2
  go_ret
  exact ⟨_, _, rfl, HR.out, HB1.out⟩
end Go.Proofs.Ytailpiagjemhpaa
