/-
  The contract of l27Copy. No claim stands here.
-/
import Derived.Test.YtailpiagjemhpaaCopy4
namespace Go.Proofs.Ytailpiagjemhpaa
open Go.RowKit
set_option linter.unusedVariables false
set_option linter.unusedSimpArgs false

set_option maxHeartbeats 3200000 in
theorem l27Copy_any {w : World} {B : Nat} {v : Bv} {b : Bld} (p0 : 0 < b.n) (p1 : 0 < b.nu) (p2 : 0 < b.nd) (p3 : 0 < b.nc) (n0 : b.n ≤ 100000000) (n1 : b.nu ≤ 100000000) (n2 : b.nd ≤ 100000000) (n3 : b.nc ≤ 100000000) (hB : B ≤ w.heap.size) (hr : ReadB w B v b) :
    Calls Try.prog 74 #[bval v b] w fun e w' => ∃ v', e = .returned (bval v' b) ∧ OwnB w' w.heap.size v' b ∧ Below w.heap.size w w' := by
  have HR := Lib.hid hr
  clear hr
  unfold bval bcells
  go_enter Try.func74, Try.ntmps74
  go_wp2_with (at_builtin; refine append_ints _ rfl _ _ rfl rfl (Row.emptyAt (g := w.heap.size + 1 + 1 + 1) (base := w.heap.size + 3) b.f (by simp) (by simp)) rfl ((((HR.out.alloc hB _).alloc (Nat.le_trans hB (by simp <;> omega)) _).alloc (Nat.le_trans hB (by simp <;> omega)) _).alloc (Nat.le_trans hB (by simp <;> omega)) _).h (fun h => HR.out.hn h) (by omega) (by simp) ?_; intro A' c' w1 hr1 hg1; have h1 := hr1.congr (g := b.f) (fun i hi => by rw [catF_hi (by omega), Nat.sub_zero]); rw [Nat.zero_add] at h1; have hb1 := ((Below.refl _ (((w.alloc (.cells (bcells v b) 36)).alloc (.cells #[.slice none 0 0, .int .i64 0, .int .i64 0, .int .i64 0, .int .i64 0, .slice none 0 0, .slice none 0 0, .slice none 0 0, .int .i64 0, .int .i64 0, .bool false] 36)).alloc (.cells (bcells v b) 36))).alloc (Nat.le_refl _) (.cells #[] 3)).grown hg1 (by simp) (by intro k hk; simp [Value.ownBlock] at hk; simp; omega); have F1 := Fr.start hb1; unfold bcells at F1; have hs1 : w.heap.size + 3 ≤ w1.heap.size := (by have := hb1.size; simp at this; omega); have HP1 := Lib.hid h1.place; have HH1 := Lib.hid h1; have HF1 := Lib.hid F1; have c0 := F1.x0.cells; have c2 := F1.x2.cells; have z2 := F1.x2.free; clear hb1 hr1 hg1 F1 h1)
  have HRs := Lib.hid (HR.out.below ((HF1.out.set 0 (.slice A' b.n c')).b.mono hB))
  refine (l8Copy_any p1 p2 p3 (by omega) (by omega) (by omega) (Nat.le_trans hB (HF1.out.set 0 (.slice A' b.n c')).b.size) HRs.out.u HRs.out.d HRs.out.c).mono ?_
  rintro e w2 ⟨U', cu', D', cd', C', cc', rfl, hk, hb2⟩
  have F2 := (HF1.out.set 0 (.slice A' b.n c')).call hb2
  have h2 := (HH1.out.far ⟨w.heap.size + 1 + 1, 0, none⟩ (.slice A' b.n c') (by simp)).below hb2 (Nat.le_refl _)
  have hs2 : w1.heap.size ≤ w2.heap.size := by have := hb2.size; simpa using this
  have hk' := hk.mono (base' := w1.heap.size) (by simp)
  have HOWN : Hid (OwnB w2 (w.heap.size + 3) ⟨A', c', U', cu', D', cd', C', cc'⟩ b) := Lib.hid ⟨h2, hk'.mono hs1, HP1.out.apart hk'.u.place (Nat.le_refl _), HP1.out.apart hk'.d.place (Nat.le_refl _), HP1.out.apart hk'.c.place (Nat.le_refl _)⟩
  have HF2 := Lib.hid F2
  clear c0 c2 z2
  have c0 := F2.x0.cells
  have c1 := F2.x1.cells
  have z1 := F2.x1.free
  have c2 := F2.x2.cells
  have z2 := F2.x2.free
  clear hb2 F2 h2 hk hk' HH1 HF1 HRs
  go_wp2
  refine bodyPost_ret (v := bval ⟨A', c', U', cu', D', cd', C', cc'⟩ b) (by simp [bval, bcells, results, Try.results74, go_sem, c1, c2]) rfl ⟨⟨A', c', U', cu', D', cd', C', cc'⟩, rfl, ?_, ?_⟩
  · exact (sets_own (putL (w.heap.size + 1) ⟨A', c', U', cu', D', cd', C', cc'⟩ b) (sets_own [(⟨w.heap.size + 1 + 1, 5, none⟩, .slice U' b.nu cu'), (⟨w.heap.size + 1 + 1, 6, none⟩, .slice D' b.nd cd'), (⟨w.heap.size + 1 + 1, 7, none⟩, .slice C' b.nc cc')] HOWN.out (by simp <;> omega)) (fun q hq => by rw [putL_block q hq]; omega)).mono (by omega)
  · exact sets_below (putL (w.heap.size + 1) ⟨A', c', U', cu', D', cd', C', cc'⟩ b) (sets_below [(⟨w.heap.size + 1 + 1, 5, none⟩, .slice U' b.nu cu'), (⟨w.heap.size + 1 + 1, 6, none⟩, .slice D' b.nd cd'), (⟨w.heap.size + 1 + 1, 7, none⟩, .slice C' b.nc cc')] HF2.out.b (by simp <;> omega)) (fun q hq => by rw [putL_block q hq]; omega)
end Go.Proofs.Ytailpiagjemhpaa
