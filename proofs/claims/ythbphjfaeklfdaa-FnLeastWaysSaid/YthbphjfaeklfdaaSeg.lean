/-
  Slices of the call's own, or of a part of a row of its own; make of ints; slices without their first number. No claim stands here.
-/
import Derived.Test.YthbphjfaeklfdaaOpen
import Derived.Test.YthbphjfaeklfdaaWant
import Derived.Deep.RegionHeld3
namespace Go.Proofs.Ythbphjfaeklfdaa
open Go.RowKit
set_option linter.unusedVariables false
set_option linter.unusedSimpArgs false

theorem Ints.tail {w : World} {B b off n : Nat} {f : Nat → Int} (h : Ints w B (some ⟨b, off, none⟩) n f) : Ints w B (some ⟨b, off + 1, none⟩) (n - 1) (fun i => f (i + 1)) := by
  intro hn
  obtain ⟨b', off', e, hb, hc⟩ := h (by omega)
  cases e
  refine ⟨b, off + 1, rfl, hb, fun i hi => ?_⟩
  have := hc (i + 1) (by omega)
  rwa [show off + (i + 1) = off + 1 + i by omega] at this
/-- From place k on. -/
theorem Ints.from {w : World} {B b off n : Nat} {f : Nat → Int} (k : Nat) (h : Ints w B (some ⟨b, off, none⟩) n f) : Ints w B (some ⟨b, off + k, none⟩) (n - k) (fun i => f (k + i)) := by
  intro hn
  obtain ⟨b', off', e, hb, hc⟩ := h (by omega)
  cases e
  refine ⟨b, off + k, rfl, hb, fun i hi => ?_⟩
  have := hc (k + i) (by omega)
  rwa [show off + (k + i) = off + k + i by omega] at this
/-- The first k numbers. -/
theorem Ints.take {w : World} {B n : Nat} {A : Option Addr} {f : Nat → Int} (k : Nat) (hk : k ≤ n) (h : Ints w B A n f) : Ints w B A k f := by
  intro hn
  obtain ⟨b', off', e, hb, hc⟩ := h (by omega)
  exact ⟨b', off', e, hb, fun i hi => hc i (by omega)⟩

/-- A slice that reads as f, in a block from base on that may be written. -/
structure Seg (w : World) (base : Nat) (A : Option Addr) (n c : Nat) (f : Nat → Int) : Prop where
  ints : Ints w w.heap.size A n f
  cap : n ≤ c
  nil : A = none → c = 0
  own : ∀ b off spot, A = some ⟨b, off, spot⟩ → base ≤ b ∧ b < w.heap.size ∧ ∀ i, w.frozen? ⟨b, i, none⟩ = false
section
variable {w w' : World} {base : Nat} {A : Option Addr} {n c : Nat} {f g : Nat → Int}
theorem frozen_of_block {w w' : World} {b : Nat} (h : w'.heap[b]? = w.heap[b]?) (i : Nat) : w'.frozen? ⟨b, i, none⟩ = w.frozen? ⟨b, i, none⟩ := by
  simp [World.frozen?, h]
theorem Row.shape (h : Row w base A n c f) : A = none ∨ ∃ b, A = some ⟨b, 0, none⟩ := by
  rcases h.2 with ⟨hv, h0⟩ | ⟨b, cap, cur, hv, _⟩
  · simp only [Value.slice.injEq] at hv; exact .inl hv.1
  · simp only [Value.slice.injEq] at hv; exact .inr ⟨b, hv.1⟩
theorem Row.seg (h : Row w base A n c f) : Seg w base A n c f := by
  refine ⟨h.ints, h.cap.1, h.none_cap, fun b off spot e => ?_⟩
  rcases h.shape with e' | ⟨b', e'⟩
  · rw [e'] at e; cases e
  · rw [e'] at e; cases e; subst e'
    exact ⟨h.lt.1, h.lt.2, h.frozen⟩
theorem Seg.grown {row : Option Nat} (h : Seg w base A n c f) (hg : w.grownBy w' row) (hne : row = none ∨ ∀ b, row = some b → b < base ∨ w.heap.size ≤ b) : Seg w' base A n c f := by
  have hx : ∀ b off spot, A = some ⟨b, off, spot⟩ → w'.heap[b]? = w.heap[b]? := fun b off spot e => by
    obtain ⟨h1, h2, _⟩ := h.own b off spot e
    refine hg.block b h2 (fun e2 => ?_)
    rcases hne with rfl | hne
    · cases e2
    · have := hne b e2.symm; omega
  refine ⟨?_, h.cap, h.nil, fun b off spot e => ?_⟩
  · intro hn
    obtain ⟨b, off, e, hb, hc⟩ := h.ints hn
    exact ⟨b, off, e, by have := hg.size; omega, fun i hi => (World.cell?_of_block (hx b off none e)).trans (hc i hi)⟩
  · obtain ⟨h1, h2, h3⟩ := h.own b off spot e
    exact ⟨h1, by have := hg.size; omega, fun i => (frozen_of_block (hx b off spot e) i).trans (h3 i)⟩
theorem Seg.below {B : Nat} (h : Seg w base A n c f) (hb : Below B w w') (hB : w.heap.size ≤ B) : Seg w' base A n c f :=
  h.grown (row := none) ⟨hb.os, hb.tape, hb.output, hb.size, fun k hk _ => hb.block k (by omega)⟩ (.inl rfl)
theorem Seg.drewN (h : Seg w base A n c f) (k : Nat) : Seg (w.drewN k) base A n c f := ⟨h.ints, h.cap, h.nil, h.own⟩
theorem Seg.drew (h : Seg w base A n c f) : Seg w.drew base A n c f := ⟨h.ints, h.cap, h.nil, h.own⟩
theorem Seg.alloc (h : Seg w base A n c f) (o : Obj) : Seg (w.alloc o) base A n c f := h.grown (World.grownBy_alloc w o none) (.inl rfl)
theorem Seg.mono {base' : Nat} (h : Seg w base A n c f) (hb : base' ≤ base) : Seg w base' A n c f :=
  ⟨h.ints, h.cap, h.nil, fun b off spot e => by obtain ⟨h1, h2⟩ := h.own b off spot e; exact ⟨by omega, h2⟩⟩
theorem Seg.congr (h : Seg w base A n c f) (e : ∀ i, i < n → f i = g i) : Seg w base A n c g := ⟨h.ints.congr e, h.cap, h.nil, h.own⟩
theorem Seg.from {b off : Nat} (k : Nat) (h : Seg w base (some ⟨b, off, none⟩) n c f) (hk : k ≤ n) : Seg w base (some ⟨b, off + k, none⟩) (n - k) (c - k) (fun i => f (k + i)) :=
  ⟨h.ints.from k, by have := h.cap; omega, (fun e => by cases e), fun b' off' spot e => by cases e; exact h.own b off none rfl⟩
theorem Seg.cell {b off k : Nat} (h : Seg w base (some ⟨b, off, none⟩) n c f) (hk : k < n) : w.cell? ⟨b, off + k, none⟩ = some (.int .i64 (f k)) := by
  obtain ⟨b', off', e, _, hc⟩ := h.ints (by omega)
  cases e
  exact hc k hk
theorem Seg.form (h : Seg w base A n c f) (hn : 0 < n) : ∃ b off, A = some ⟨b, off, none⟩ ∧ base ≤ b ∧ b < w.heap.size := by
  obtain ⟨b, off, e, hb, hc⟩ := h.ints hn
  exact ⟨b, off, e, (h.own b off none e).1, hb⟩
theorem Seg.set {b off k : Nat} (h : Seg w base (some ⟨b, off, none⟩) n c f) (hk : k < n) (v : Int) :
    Seg (w.setCell ⟨b, off + k, none⟩ (.int .i64 v)) base (some ⟨b, off, none⟩) n c (upd f k v) ∧ w.grownBy (w.setCell ⟨b, off + k, none⟩ (.int .i64 v)) (some b) := by
  have hg : w.grownBy (w.setCell ⟨b, off + k, none⟩ (.int .i64 v)) (some b) := ⟨rfl, rfl, rfl, by simp, fun j hj hne => Below.heap_setCell _ _ _ _ (by intro e; exact hne (by simp [e]))⟩
  refine ⟨⟨?_, h.cap, h.nil, fun b' off' spot e => ?_⟩, hg⟩
  · intro hn
    obtain ⟨b', off', e, hb, hc⟩ := h.ints hn
    cases e
    refine ⟨b, off, rfl, by simpa using hb, fun i hi => ?_⟩
    by_cases hi' : i = k
    · subst hi'
      rw [World.cell?_setCell_same w ⟨b, off + i, none⟩ (.int .i64 v) (hc i hk)]
      simp [upd]
    · rw [World.cell?_setCell_other w ⟨b, off + k, none⟩ ⟨b, off + i, none⟩ _ (fun e => by simp at e <;> omega), hc i hi]
      simp [upd, hi']
  · cases e
    obtain ⟨h1, h2, h3⟩ := h.own b off none rfl
    exact ⟨h1, by simpa using h2, fun i => by rw [World.frozen?_setCell]; exact h3 i⟩
end

/-- What a drawing of a list leaves: a slice of the call's own of at most N numbers, the reader at most at Q. -/
def DrawnS (N Q : Nat) (w : World) (g : Nat) (e : Ending) (w' : World) : Prop :=
  ∃ A n c f, e = .returned (.slice A n c) ∧ n ≤ N ∧ Seg w' w.heap.size A n c f ∧ Reads w' g Q ∧ w.grownBy w' (some g)
theorem picked_litS {N x : Int} (h : Picked N x) (hN : 1 ≤ N) : 0 ≤ x ∧ x < N := ⟨h.1, h.2.1 hN⟩

/-- make of ints, as a step of a region that draws its order. -/
theorem want_step_make_ints (W : World) {ops : Array Oper} {o : Oper} {a : Act} {K : Act → World → Prop} {Q : Exit → Act → World → Prop} {E : Prop} (hw : Region.wanted o (yielded ops a.tmps) = true) (s t : Operand)
    (hop : o.op = Op.makeSlice 24 s t) (base n : Nat) (L : Int) (hs : a.eval s = .int .i64 L) (ht : a.eval t = .int .i64 L) (hL : L = (n : Int)) (hn : n ≤ 1000000) (hb : base ≤ W.heap.size)
    (hK : ∀ w', Row w' base (some ⟨W.heap.size, 0, none⟩) n n (fun _ => 0) → W.grownBy w' none → K (a.put o.dst (.slice (some ⟨W.heap.size, 0, none⟩) n n)) w') : if Region.wanted o (yielded ops a.tmps) = true then Oper.wp Try.prog o a W K Q else E := by
  obtain ⟨i0, hi, hz0, hz1, hz2⟩ := info_parts Try.infoInt
  rw [if_pos hw]
  obtain ⟨w', hrun, r1, r2⟩ := run_make_full (P := Try.prog) W base 24 3 i0 (.int .i64 0) 1 Try.underlying24 hi hz0 hz1 .i64 .i64 n (by rw [hz2]; omega) (by unfold maxLen; omega) hb
  subst hL
  unfold Oper.wp
  simp [execOp, hop, hs, ht, hrun, Result.andThen]
  exact hK _ (by unfold Row; rw [← ivals_made]; exact r1) r2
/-- make of ints. -/
theorem want_make_ints (W : World) {ops : Array Oper} {rest : List Oper} {o : Oper} {a : Act} {Q : Exit → Act → World → Prop} (hw : Region.wanted o (yielded ops a.tmps) = true) (s t : Operand)
    (hop : o.op = Op.makeSlice 24 s t) (base n : Nat) (L : Int) (hs : a.eval s = .int .i64 L) (ht : a.eval t = .int .i64 L) (hL : L = (n : Int)) (hn : n ≤ 1000000) (hb : base ≤ W.heap.size)
    (hK : ∀ w', Row w' base (some ⟨W.heap.size, 0, none⟩) n n (fun _ => 0) → W.grownBy w' none → wpList Try.prog ops Q rest (a.put o.dst (.slice (some ⟨W.heap.size, 0, none⟩) n n)) w') : wpList Try.prog ops Q (o :: rest) a W :=
  wpList_step fun K hK' => want_step_make_ints W hw s t hop base n L hs ht hL hn hb fun w' h1 h2 => hK' _ _ (hK w' h1 h2)
end Go.Proofs.Ythbphjfaeklfdaa
