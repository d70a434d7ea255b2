/-
  The contract of impl.CallSet. No claim stands here.
-/
import Derived.Test.YthkpikkjgggimaaGreatDoorCallM
import Derived.Test.YthkpikkjgggimaaGreatDoorBE
namespace Go.Proofs.YthkpikkjgggimaaGreatDoor
open Go.RowKit
set_option linter.unusedVariables false
set_option linter.unusedSimpArgs false

/-- A frame of four boxes, one behind the other. -/
structure Fr4 (w W : World) (P R O S : Array Value) : Prop where
  x0 : Bx W w.heap.size P
  x1 : Bx W (w.heap.size + 1) R
  x2 : Bx W (w.heap.size + 1 + 1) O
  x3 : Bx W (w.heap.size + 1 + 1 + 1) S
  b : Below w.heap.size w W
section
variable {w W W' : World} {P R O S : Array Value}
theorem Fr4.lt (F : Fr4 w W P R O S) : w.heap.size + 4 ≤ W.heap.size := by have := F.x3.lt; omega
theorem Fr4.call (F : Fr4 w W P R O S) (hb : Below W.heap.size W W') : Fr4 w W' P R O S :=
  ⟨F.x0.below hb F.x0.lt, F.x1.below hb F.x1.lt, F.x2.below hb F.x2.lt, F.x3.below hb F.x3.lt, F.b.trans (hb.mono (by have := F.lt; omega))⟩
theorem Fr4.set1 (F : Fr4 w W P R O S) (o : Nat) (v : Value) : Fr4 w (W.setCell ⟨w.heap.size + 1, o, none⟩ v) P (R.setIfInBounds o v) O S :=
  ⟨F.x0.far _ _ (by simp), F.x1.set o v, F.x2.far _ _ (by simp), F.x3.far _ _ (by simp <;> omega), F.b.setCell (by simp) v⟩
theorem Fr4.set2 (F : Fr4 w W P R O S) (o : Nat) (v : Value) : Fr4 w (W.setCell ⟨w.heap.size + 1 + 1, o, none⟩ v) P R (O.setIfInBounds o v) S :=
  ⟨F.x0.far _ _ (by simp <;> omega), F.x1.far _ _ (by simp), F.x2.set o v, F.x3.far _ _ (by simp), F.b.setCell (by simp <;> omega) v⟩
theorem Fr4.set3 (F : Fr4 w W P R O S) (o : Nat) (v : Value) : Fr4 w (W.setCell ⟨w.heap.size + 1 + 1 + 1, o, none⟩ v) P R O (S.setIfInBounds o v) :=
  ⟨F.x0.far _ _ (by simp <;> omega), F.x1.far _ _ (by simp <;> omega), F.x2.far _ _ (by simp), F.x3.set o v, F.b.setCell (by simp <;> omega) v⟩
theorem Fr4.far (F : Fr4 w W P R O S) (p : Addr) (v : Value) (hp : w.heap.size + 4 ≤ p.block) : Fr4 w (W.setCell p v) P R O S :=
  ⟨F.x0.far _ _ (by omega), F.x1.far _ _ (by omega), F.x2.far _ _ (by omega), F.x3.far _ _ (by omega), F.b.setCell (by omega) v⟩
theorem Fr4.init {T T1 T2 T3 : TypeId} : Fr4 w ((((w.alloc (.cells P T)).alloc (.cells R T1)).alloc (.cells O T2)).alloc (.cells S T3)) P R O S := by
  have a := (((Bx.new w P T).alloc (.cells R T1)).alloc (.cells O T2)).alloc (.cells S T3)
  have b := ((Bx.new (w.alloc (.cells P T)) R T1).alloc (.cells O T2)).alloc (.cells S T3)
  have c := (Bx.new ((w.alloc (.cells P T)).alloc (.cells R T1)) O T2).alloc (.cells S T3)
  have d := Bx.new (((w.alloc (.cells P T)).alloc (.cells R T1)).alloc (.cells O T2)) S T3
  rw [show (w.alloc (.cells P T)).heap.size = w.heap.size + 1 by simp] at b
  rw [show ((w.alloc (.cells P T)).alloc (.cells R T1)).heap.size = w.heap.size + 1 + 1 by simp] at c
  rw [show (((w.alloc (.cells P T)).alloc (.cells R T1)).alloc (.cells O T2)).heap.size = w.heap.size + 1 + 1 + 1 by simp] at d
  exact ⟨a, b, c, d, ((((Below.refl w.heap.size w).alloc (Nat.le_refl _) _).alloc (by simp) _).alloc (by simp <;> omega) _).alloc (by simp <;> omega) _⟩
end

theorem heap_other {w : World} {p : Addr} {v : Value} {g : Nat} {o : Obj} (h : w.heap[g]? = some o) (hp : p.block ≠ g) : (w.setCell p v).heap[g]? = some o := by
  rw [← h]
  have := (grown_set w p v).block g (Array.getElem?_eq_some_iff.1 h).1 (by intro e; exact hp (Option.some.inj e).symm)
  exact this
/-- A write into another block leaves a row of truths as it is. -/
theorem RowB.other {w : World} {base : Nat} {A : Option Addr} {n c : Nat} {f : Nat → Bool} (h : RowB w base A n c f) (p : Addr) (v : Value) (hp : ∀ x, A = some x → p.block ≠ x.block) : RowB (w.setCell p v) base A n c f := by
  refine ⟨h.1, ?_⟩
  rcases h.2 with h' | ⟨b, cap, cur, hv, hbb, hh, r⟩
  · exact .inl h'
  · simp only [Value.slice.injEq] at hv
    exact .inr ⟨b, cap, cur, by simp [hv.1, hv.2], hbb, heap_other hh (hp _ hv.1), r⟩
theorem Row.other {w : World} {base : Nat} {A : Option Addr} {n c : Nat} {f : Nat → Int} (h : Row w base A n c f) (p : Addr) (v : Value) (hp : ∀ x, A = some x → p.block ≠ x.block) : Row (w.setCell p v) base A n c f := by
  refine ⟨h.1, ?_⟩
  rcases h.2 with h' | ⟨b, cap, cur, hv, hbb, hh, r⟩
  · exact .inl h'
  · simp only [Value.slice.injEq] at hv
    exact .inr ⟨b, cap, cur, by simp [hv.1, hv.2], hbb, heap_other hh (hp _ hv.1), r⟩
theorem RowB.block {w : World} {base : Nat} {A : Option Addr} {n c : Nat} {f : Nat → Bool} (h : RowB w base A n c f) (hn : 0 < n) : ∃ b, A = some ⟨b, 0, none⟩ ∧ base ≤ b ∧ b < w.heap.size := by
  obtain ⟨b, off, hA, _⟩ := h.bools hn
  rcases h.2 with ⟨hv, _⟩ | ⟨b', cap, cur, hv, hbb, hh, r⟩
  · simp only [Value.slice.injEq] at hv; rw [hv.1] at hA; cases hA
  · simp only [Value.slice.injEq] at hv
    exact ⟨b', hv.1, hbb, (Array.getElem?_eq_some_iff.1 hh).1⟩
section
variable {w : World} {base : Nat} {U D C : Option Addr} {nu cu nd cd nc cc : Nat} {up dn car : Nat → Bool}
theorem OwnC.setU {b : Nat} (h : OwnC w base (some ⟨b, 0, none⟩) nu cu up D nd cd dn C nc cc car) (k : Nat) (v : Bool) : OwnC (w.setCell ⟨b, k, none⟩ (.bool v)) base (some ⟨b, 0, none⟩) nu cu (updB up k v) D nd cd dn C nc cc car :=
  ⟨(h.u.set v).1, h.d.other _ _ fun x hx => (h.ud ⟨b, 0, none⟩ x rfl hx :), h.c.other _ _ fun x hx => (h.uc ⟨b, 0, none⟩ x rfl hx :), h.ud, h.uc, h.dc⟩
theorem OwnC.setD {b : Nat} (h : OwnC w base U nu cu up (some ⟨b, 0, none⟩) nd cd dn C nc cc car) (k : Nat) (v : Bool) : OwnC (w.setCell ⟨b, k, none⟩ (.bool v)) base U nu cu up (some ⟨b, 0, none⟩) nd cd (updB dn k v) C nc cc car :=
  ⟨h.u.other _ _ fun x hx => (Ne.symm (h.ud x ⟨b, 0, none⟩ hx rfl) :), (h.d.set v).1, h.c.other _ _ fun x hx => (h.dc ⟨b, 0, none⟩ x rfl hx :), h.ud, h.uc, h.dc⟩
theorem OwnC.setC {b : Nat} (h : OwnC w base U nu cu up D nd cd dn (some ⟨b, 0, none⟩) nc cc car) (k : Nat) (v : Bool) : OwnC (w.setCell ⟨b, k, none⟩ (.bool v)) base U nu cu up D nd cd dn (some ⟨b, 0, none⟩) nc cc (updB car k v) :=
  ⟨h.u.other _ _ fun x hx => (Ne.symm (h.uc x ⟨b, 0, none⟩ hx rfl) :), h.d.other _ _ fun x hx => (Ne.symm (h.dc x ⟨b, 0, none⟩ hx rfl) :), (h.c.set v).1, h.ud, h.uc, h.dc⟩
end
end Go.Proofs.YthkpikkjgggimaaGreatDoor
