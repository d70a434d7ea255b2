/-
  The contracts of the functions that mark a building and see whether the marks stay. No claim stands here.
-/
import Derived.Test.YtnbjibkbjdbadaaAsk
namespace Go.Proofs.Ytnbjibkbjdbadaa
open Go.RowKit
set_option linter.unusedVariables false
set_option linter.unusedSimpArgs false

def markedB (k0 : Int) (i : Nat) : Bool := (k0 + i) % 3 == 0
/-- Nothing but the blocks from lo on, below hi, has turned, of those that were. -/
structure Within (lo hi : Nat) (w w' : World) : Prop where
  os : w'.os = w.os
  tape : w'.tape = w.tape
  output : w'.output = w.output
  size : w.heap.size ≤ w'.heap.size
  block : ∀ k, k < w.heap.size → (k < lo ∨ hi ≤ k) → w'.heap[k]? = w.heap[k]?
section
variable {lo hi : Nat} {w w1 w2 : World}
theorem Within.refl (lo hi : Nat) (w : World) : Within lo hi w w := ⟨rfl, rfl, rfl, Nat.le_refl _, fun _ _ _ => rfl⟩
theorem Within.trans (h : Within lo hi w w1) (h' : Within lo hi w1 w2) : Within lo hi w w2 :=
  ⟨h'.os.trans h.os, h'.tape.trans h.tape, h'.output.trans h.output, Nat.le_trans h.size h'.size, fun k hk hne => (h'.block k (Nat.lt_of_lt_of_le hk h.size) hne).trans (h.block k hk hne)⟩
theorem Within.below (h : Within lo hi w w1) {B : Nat} (hB : B ≤ lo) (hs : B ≤ w.heap.size) : Below B w w1 :=
  ⟨h.os, h.tape, h.output, h.size, fun k hk => h.block k (by omega) (.inl (by omega))⟩
theorem Within.of_below (h : Below w.heap.size w w1) : Within lo hi w w1 := ⟨h.os, h.tape, h.output, h.size, fun k hk _ => h.block k hk⟩
theorem Within.of_wrote {A : Option Addr} {n : Nat} (h : Wrote w w1 A n) (hA : ∀ x, A = some x → lo ≤ x.block ∧ x.block < hi) : Within lo hi w w1 := by
  obtain ⟨row, hg, hr⟩ := h
  refine ⟨hg.os, hg.tape, hg.output, hg.size, fun k hk hne => hg.block k hk ?_⟩
  intro e
  have := hA _ (hr k e.symm).2
  simp only at this
  omega
theorem Bx.within {g : Nat} {xs : Array Value} (h : Bx w g xs) (hw : Within lo hi w w1) (hg : g < lo ∨ hi ≤ g) : Bx w1 g xs := by
  have hl := h.lt
  obtain ⟨T, h'⟩ := h
  exact ⟨T, (hw.block g hl hg).trans h'⟩
/-- A row of the call's own whose block is not among those that turn stays. -/
theorem Row.within {base n c : Nat} {A : Option Addr} {f : Nat → Int} (h : Row w base A n c f) (hw : Within lo hi w w1) (hA : ∀ x, A = some x → x.block < lo ∨ hi ≤ x.block) : Row w1 base A n c f := by
  refine ⟨h.1, ?_⟩
  rcases h.2 with h' | ⟨b, cap, cur, hv, hbb, hh, r⟩
  · exact .inl h'
  · simp only [Value.slice.injEq] at hv
    refine .inr ⟨b, cap, cur, by simp [hv.1, hv.2], hbb, ?_, r⟩
    rw [hw.block b (Array.getElem?_eq_some_iff.1 hh).1 (hA _ hv.1)]
    exact hh
theorem RowB.within {base n c : Nat} {A : Option Addr} {f : Nat → Bool} (h : RowB w base A n c f) (hw : Within lo hi w w1) (hA : ∀ x, A = some x → x.block < lo ∨ hi ≤ x.block) : RowB w1 base A n c f := by
  refine ⟨h.1, ?_⟩
  rcases h.2 with h' | ⟨b, cap, cur, hv, hbb, hh, r⟩
  · exact .inl h'
  · simp only [Value.slice.injEq] at hv
    refine .inr ⟨b, cap, cur, by simp [hv.1, hv.2], hbb, ?_, r⟩
    rw [hw.block b (Array.getElem?_eq_some_iff.1 hh).1 (hA _ hv.1)]
    exact hh
end
/-- The slices of a building lie in blocks from lo on, below hi. -/
structure InB (lo hi : Nat) (v : Bv) : Prop where
  a : In lo hi v.A
  u : In lo hi v.U
  d : In lo hi v.D
  c : In lo hi v.C
theorem OwnB.place {w : World} {base : Nat} {v : Bv} {b : Bld} (h : OwnB w base v b) : InB base w.heap.size v := ⟨h.h.place, h.k.u.place, h.k.d.place, h.k.c.place⟩
theorem OwnB.within {w w1 : World} {base lo hi l2 h2 : Nat} {v : Bv} {b : Bld} (h : OwnB w base v b) (hw : Within lo hi w w1) (hi' : InB l2 h2 v) (ho : h2 ≤ lo ∨ hi ≤ l2) : OwnB w1 base v b :=
  ⟨h.h.within hw fun x hx => by have := hi'.a x hx; omega, ⟨h.k.u.within hw fun x hx => by have := hi'.u x hx; omega, h.k.d.within hw fun x hx => by have := hi'.d x hx; omega, h.k.c.within hw fun x hx => by have := hi'.c x hx; omega, h.k.ud, h.k.uc, h.k.dc⟩, h.hu, h.hd, h.hc⟩
theorem Row.wrote2 {w w1 : World} {base n c n' : Nat} {A A' : Option Addr} {f : Nat → Int} (h : Row w base A n c f) (hw : Wrote w w1 A' n') (hA : Apart A A') : Row w1 base A n c f := by
  obtain ⟨row, hg, hr⟩ := hw
  refine ⟨h.1, ?_⟩
  rcases h.2 with h' | ⟨b, cap, cur, hv, hbb, hh, r⟩
  · exact .inl h'
  · simp only [Value.slice.injEq] at hv
    refine .inr ⟨b, cap, cur, by simp [hv.1, hv.2], hbb, ?_, r⟩
    rw [hg.block b (Array.getElem?_eq_some_iff.1 hh).1 (fun e => hA _ _ hv.1 (hr b e.symm).2 rfl)]
    exact hh
theorem RowB.wrote2 {w w1 : World} {base n c n' : Nat} {A A' : Option Addr} {f : Nat → Bool} (h : RowB w base A n c f) (hw : Wrote w w1 A' n') (hA : Apart A A') : RowB w1 base A n c f := by
  obtain ⟨row, hg, hr⟩ := hw
  refine ⟨h.1, ?_⟩
  rcases h.2 with h' | ⟨b, cap, cur, hv, hbb, hh, r⟩
  · exact .inl h'
  · simp only [Value.slice.injEq] at hv
    refine .inr ⟨b, cap, cur, by simp [hv.1, hv.2], hbb, ?_, r⟩
    rw [hg.block b (Array.getElem?_eq_some_iff.1 hh).1 (fun e => hA _ _ hv.1 (hr b e.symm).2 rfl)]
    exact hh

/-- A row apart from three others stays. -/
def KeepsRow (U D C : Option Addr) (w w' : World) : Prop := ∀ (base : Nat) (A : Option Addr) (n c : Nat) (f : Nat → Int), Row w base A n c f → Apart A U → Apart A D → Apart A C → Row w' base A n c f
/-- A building of marks. -/
def Bld.marked (b : Bld) (k0 : Int) : Bld := { b with f := markedI k0, up := markedB (k0 + b.n), dn := markedB (k0 + b.n + b.nu), car := markedB (k0 + b.n + b.nu + b.nd) }

end Go.Proofs.Ytnbjibkbjdbadaa
