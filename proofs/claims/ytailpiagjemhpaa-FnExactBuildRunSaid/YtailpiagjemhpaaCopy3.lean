/-
  The contracts of l8Copy, l27Copy. No claim stands here.
-/
import Derived.Test.YtailpiagjemhpaaInv
namespace Go.Proofs.Ytailpiagjemhpaa
open Go.RowKit
set_option linter.unusedVariables false
set_option linter.unusedSimpArgs false

/-- append of truths onto an empty slice without room, as a step of a region that draws its order. -/
theorem step_append_bools0 (W : World) {ops : Array Oper} {o : Oper} {a : Act} {K : Act → World → Prop} {Q : Exit → Act → World → Prop} {E : Prop} (hg : o.guard = none) (s x : Operand)
    (hop : o.op = Op.call { callee := Callee.builtin Builtin.append, args := #[s, x], argTypes := #[30, 30] }) {B g : Nat} {A2 : Option Addr} {m c2 : Nat} {f2 : Nat → Bool}
    (hs : a.eval s = .slice (some ⟨g, 0, none⟩) 0 0) (hx : a.eval x = .slice A2 m c2) (hr2 : Bools W B A2 m f2) (hm : 0 < m) (hn : m ≤ 1000000000)
    (hK : ∀ A' c' w', RowB w' W.heap.size A' m c' f2 → Below W.heap.size W w' → K (a.put o.dst (.slice A' (m : Nat) c')) w') : if Region.wanted o (yielded ops a.tmps) = true then Oper.wp Try.prog o a W K Q else E := by
  obtain ⟨i0, hi, hz0, hz1, hz2⟩ := info_parts Try.infoBool
  obtain ⟨b, off, hA, _, hc⟩ := hr2 hm
  subst hA
  refine step_append_grows hg s x 30 hop 4 i0 (.bool false) 1 1 Try.underlying30 hi hz0 hz1 hz2 rfl (by decide) _ 0 0 [] hs (by intro h; cases h) rfl (by intro b _ j u hj; simp at hj) ⟨b, off, none⟩ m c2 (bvals f2 m) hx (by rw [bvals_length, Nat.mul_one]) ?_ bvals_one (by omega) (by unfold maxLen; omega) (by omega) ?_
  · intro j u hj
    have hjm : j < m := by
      rcases Nat.lt_or_ge j m with h | h
      · exact h
      · rw [List.getElem?_eq_none (by rw [bvals_length]; omega)] at hj; cases hj
    rw [bvals_get hjm] at hj
    rw [← Option.some.inj hj, Addr.add_lit]
    exact hc j hjm
  · intro v' w' hown hgrow
    rw [Nat.zero_add, List.nil_append] at hown
    obtain ⟨A', c', rfl⟩ := row_shapeB hown
    exact hK A' c' w' hown ((Below.refl W.heap.size W).grown hgrow (Nat.le_refl _) (by intro b e; cases e))


theorem wp_append_bools0 (W : World) {o : Oper} {a : Act} {K : Act → World → Prop} {Q : Exit → Act → World → Prop} (hg : o.guard = none) (s x : Operand)
    (hop : o.op = Op.call { callee := Callee.builtin Builtin.append, args := #[s, x], argTypes := #[30, 30] }) {B g : Nat} {A2 : Option Addr} {m c2 : Nat} {f2 : Nat → Bool}
    (hs : a.eval s = .slice (some ⟨g, 0, none⟩) 0 0) (hx : a.eval x = .slice A2 m c2) (hr2 : Bools W B A2 m f2) (hm : 0 < m) (hn : m ≤ 1000000000)
    (hK : ∀ A' c' w', RowB w' W.heap.size A' m c' f2 → Below W.heap.size W w' → K (a.put o.dst (.slice A' (m : Nat) c')) w') : Oper.wp Try.prog o a W K Q := by
  have h := step_append_bools0 (ops := #[]) (E := False) (Q := Q) W hg s x hop hs hx hr2 hm hn hK
  rwa [if_pos (by simp [Region.wanted, hg])] at h

section
variable (w0 : World) (U D C : Option Addr) (nu cu nd cd nc cc : Nat) (up dn car : Nat → Bool)
/-- What holds on the way through l8Copy's region, in whatever order. -/
structure CI (L : Array Bool) (a : Act) (W : World) : Prop where
  sz : L.size = 14
  ts : a.tmps.size = 16
  t1 : a.tmps.getD 1 undef = .pointer (some ⟨w0.heap.size, 0, none⟩)
  t2 : a.tmps.getD 2 undef = .pointer (some ⟨w0.heap.size + 1, 0, none⟩)
  df : a.defers = []
  bl : Below w0.heap.size w0 W
  hs : w0.heap.size + 2 ≤ W.heap.size
  x : Bx W w0.heap.size #[.slice U nu cu, .slice D nd cd, .slice C nc cc]
  y : L.getD 13 false = false → Bx W (w0.heap.size + 1) #[.slice none 0 0, .slice none 0 0, .slice none 0 0]
  o7 : L.getD 7 false = true → L.getD 3 false = true
  o11 : L.getD 11 false = true → L.getD 7 false = true
  o12 : L.getD 12 false = true → L.getD 11 false = true
  o13 : L.getD 13 false = true → ∀ k, k < 13 → L.getD k false = true
  f0 : L.getD 13 false = false → L.getD 0 false = true → ∃ g, a.tmps.getD 3 undef = .slice (some ⟨g, 0, none⟩) 0 0
  f1 : L.getD 13 false = false → L.getD 1 false = true → a.tmps.getD 4 undef = .pointer (some ⟨w0.heap.size, 0, none⟩)
  f2 : L.getD 13 false = false → L.getD 2 false = true → a.tmps.getD 5 undef = .slice U nu cu
  f3 : L.getD 13 false = false → L.getD 3 false = true → ∃ U' cu', a.tmps.getD 6 undef = .slice U' nu cu' ∧ RowB W (w0.heap.size + 2) U' nu cu' up
  f4 : L.getD 13 false = false → L.getD 4 false = true → ∃ g, a.tmps.getD 7 undef = .slice (some ⟨g, 0, none⟩) 0 0
  f5 : L.getD 13 false = false → L.getD 5 false = true → a.tmps.getD 8 undef = .pointer (some ⟨w0.heap.size, 1, none⟩)
  f6 : L.getD 13 false = false → L.getD 6 false = true → a.tmps.getD 9 undef = .slice D nd cd
  f7 : L.getD 13 false = false → L.getD 7 false = true → ∃ U' cu' D' cd', a.tmps.getD 6 undef = .slice U' nu cu' ∧ a.tmps.getD 10 undef = .slice D' nd cd' ∧ RowB W (w0.heap.size + 2) U' nu cu' up ∧ RowB W (w0.heap.size + 2) D' nd cd' dn ∧ Apart U' D'
  f8 : L.getD 13 false = false → L.getD 8 false = true → ∃ g, a.tmps.getD 11 undef = .slice (some ⟨g, 0, none⟩) 0 0
  f9 : L.getD 13 false = false → L.getD 9 false = true → a.tmps.getD 12 undef = .pointer (some ⟨w0.heap.size, 2, none⟩)
  f10 : L.getD 13 false = false → L.getD 10 false = true → a.tmps.getD 13 undef = .slice C nc cc
  f11 : L.getD 13 false = false → L.getD 11 false = true → ∃ U' cu' D' cd' C' cc', a.tmps.getD 6 undef = .slice U' nu cu' ∧ a.tmps.getD 10 undef = .slice D' nd cd' ∧ a.tmps.getD 14 undef = .slice C' nc cc' ∧ OwnC W (w0.heap.size + 2) U' nu cu' up D' nd cd' dn C' nc cc' car
  f12 : L.getD 13 false = false → L.getD 12 false = true → ∃ U' cu' D' cd' C' cc', a.tmps.getD 15 undef = .agg #[.slice U' nu cu', .slice D' nd cd', .slice C' nc cc'] ∧ OwnC W (w0.heap.size + 2) U' nu cu' up D' nd cd' dn C' nc cc' car
  f13 : L.getD 13 false = true → ∃ U' cu' D' cd' C' cc', Bx W (w0.heap.size + 1) #[.slice U' nu cu', .slice D' nd cd', .slice C' nc cc'] ∧ OwnC W (w0.heap.size + 2) U' nu cu' up D' nd cd' dn C' nc cc' car
variable {w0 U D C nu cu nd cd nc cc up dn car}
theorem CI.carry {L : Array Bool} {a : Act} {W W' : World} (I : CI w0 U D C nu cu nd cd nc cc up dn car L a W) {i d : Nat} (hi : i < 13) (hd : d = i + 3) (hun : L.getD i false = false) (hall : (i = 7 → L.getD 3 false = true) ∧ (i = 11 → L.getD 7 false = true) ∧ (i = 12 → L.getD 11 false = true)) (h13 : L.getD 13 false = false) (hb : Below W.heap.size W W') (v : Value)
    (n0 : i = 0 ∨ i = 4 ∨ i = 8 → ∃ g, v = .slice (some ⟨g, 0, none⟩) 0 0 := by omega)
    (n1 : i = 1 → v = .pointer (some ⟨w0.heap.size, 0, none⟩) := by omega)
    (n2 : i = 2 → v = .slice U nu cu := by omega)
    (n3 : i = 3 → ∃ U' cu', v = .slice U' nu cu' ∧ RowB W' (w0.heap.size + 2) U' nu cu' up := by omega)
    (n5 : i = 5 → v = .pointer (some ⟨w0.heap.size, 1, none⟩) := by omega)
    (n6 : i = 6 → v = .slice D nd cd := by omega)
    (n7 : i = 7 → ∃ U' cu' D' cd', a.tmps.getD 6 undef = .slice U' nu cu' ∧ v = .slice D' nd cd' ∧ RowB W' (w0.heap.size + 2) U' nu cu' up ∧ RowB W' (w0.heap.size + 2) D' nd cd' dn ∧ Apart U' D' := by omega)
    (n9 : i = 9 → v = .pointer (some ⟨w0.heap.size, 2, none⟩) := by omega)
    (n10 : i = 10 → v = .slice C nc cc := by omega)
    (n11 : i = 11 → ∃ U' cu' D' cd' C' cc', a.tmps.getD 6 undef = .slice U' nu cu' ∧ a.tmps.getD 10 undef = .slice D' nd cd' ∧ v = .slice C' nc cc' ∧ OwnC W' (w0.heap.size + 2) U' nu cu' up D' nd cd' dn C' nc cc' car := by omega)
    (n12 : i = 12 → ∃ U' cu' D' cd' C' cc', v = .agg #[.slice U' nu cu', .slice D' nd cd', .slice C' nc cc'] ∧ OwnC W' (w0.heap.size + 2) U' nu cu' up D' nd cd' dn C' nc cc' car := by omega) :
    CI w0 U D C nu cu nd cd nc cc up dn car (L.setIfInBounds i true) (a.put (some d) v) W' := by
  subst hd
  have hw : ∀ j, i ≠ j → (L.setIfInBounds i true).getD j false = L.getD j false := fun j h => getD_set_ne false h
  have hself : (L.setIfInBounds i true).getD i false = true := getD_set_self false (by rw [I.sz]; omega)
  have tne : ∀ k, i + 3 ≠ k → (a.put (some (i + 3)) v).tmps.getD k undef = a.tmps.getD k undef := fun k h => tmp_put_ne v h
  have tself : (a.put (some (i + 3)) v).tmps.getD (i + 3) undef = v := tmp_put_self v (by rw [I.ts]; omega)
  have hgt := I.hs
  constructor
  case sz => simp [I.sz]
  case ts => simp [Act.put, I.ts]
  case t1 => rw [tne 1 (by omega)]; exact I.t1
  case t2 => rw [tne 2 (by omega)]; exact I.t2
  case df => exact I.df
  case bl => exact I.bl.trans (hb.mono (by omega))
  case hs => exact Nat.le_trans I.hs hb.size
  case x => exact I.x.below hb I.x.lt
  case y => intro _; exact (I.y h13).below hb (I.y h13).lt
  case o7 =>
    intro h
    by_cases e : i = 3
    · subst e; exact hself
    rw [hw 3 e]
    by_cases e7 : i = 7
    · exact hall.1 e7
    · rw [hw 7 e7] at h; exact I.o7 h
  case o11 =>
    intro h
    by_cases e : i = 7
    · subst e; exact hself
    rw [hw 7 e]
    by_cases e7 : i = 11
    · exact hall.2.1 e7
    · rw [hw 11 e7] at h; exact I.o11 h
  case o12 =>
    intro h
    by_cases e : i = 11
    · subst e; exact hself
    rw [hw 11 e]
    by_cases e7 : i = 12
    · exact hall.2.2 e7
    · rw [hw 12 e7] at h; exact I.o12 h
  case o13 =>
    intro h
    rw [hw 13 (by omega), h13] at h
    cases h
  case f0 =>
    intro _ h
    by_cases e : i = 0
    · subst e; rw [tself]; exact n0 (by omega)
    · rw [hw 0 e] at h
      rw [tne 3 (by omega)]; exact I.f0 h13 h
  case f4 =>
    intro _ h
    by_cases e : i = 4
    · subst e; rw [tself]; exact n0 (by omega)
    · rw [hw 4 e] at h
      rw [tne 7 (by omega)]; exact I.f4 h13 h
  case f8 =>
    intro _ h
    by_cases e : i = 8
    · subst e; rw [tself]; exact n0 (by omega)
    · rw [hw 8 e] at h
      rw [tne 11 (by omega)]; exact I.f8 h13 h
  case f1 =>
    intro _ h
    by_cases e : i = 1
    · subst e; rw [tself]; exact n1 rfl
    · rw [hw 1 e] at h
      rw [tne 4 (by omega)]; exact I.f1 h13 h
  case f2 =>
    intro _ h
    by_cases e : i = 2
    · subst e; rw [tself]; exact n2 rfl
    · rw [hw 2 e] at h
      rw [tne 5 (by omega)]; exact I.f2 h13 h
  case f5 =>
    intro _ h
    by_cases e : i = 5
    · subst e; rw [tself]; exact n5 rfl
    · rw [hw 5 e] at h
      rw [tne 8 (by omega)]; exact I.f5 h13 h
  case f6 =>
    intro _ h
    by_cases e : i = 6
    · subst e; rw [tself]; exact n6 rfl
    · rw [hw 6 e] at h
      rw [tne 9 (by omega)]; exact I.f6 h13 h
  case f9 =>
    intro _ h
    by_cases e : i = 9
    · subst e; rw [tself]; exact n9 rfl
    · rw [hw 9 e] at h
      rw [tne 12 (by omega)]; exact I.f9 h13 h
  case f10 =>
    intro _ h
    by_cases e : i = 10
    · subst e; rw [tself]; exact n10 rfl
    · rw [hw 10 e] at h
      rw [tne 13 (by omega)]; exact I.f10 h13 h
  case f3 =>
    intro _ h
    by_cases e : i = 3
    · subst e; rw [tself]; exact n3 rfl
    · rw [hw 3 e] at h
      obtain ⟨U', cu', h1, h2⟩ := I.f3 h13 h
      exact ⟨U', cu', by rw [tne 6 (by omega)]; exact h1, h2.below hb (Nat.le_refl _)⟩
  case f7 =>
    intro _ h
    by_cases e : i = 7
    · subst e
      obtain ⟨U', cu', D', cd', h1, h2, h3⟩ := n7 rfl
      exact ⟨U', cu', D', cd', by rw [tne 6 (by omega)]; exact h1, by rw [tself]; exact h2, h3⟩
    · rw [hw 7 e] at h
      have h3 := I.o7 h
      have e3 : i ≠ 3 := fun e => by subst e; rw [hun] at h3; cases h3
      obtain ⟨U', cu', D', cd', h1, h2, h3, h4, h5⟩ := I.f7 h13 h
      exact ⟨U', cu', D', cd', by rw [tne 6 (by omega)]; exact h1, by rw [tne 10 (by omega)]; exact h2, h3.below hb (Nat.le_refl _), h4.below hb (Nat.le_refl _), h5⟩
  case f11 =>
    intro _ h
    by_cases e : i = 11
    · subst e
      obtain ⟨U', cu', D', cd', C', cc', h1, h2, h3, h4⟩ := n11 rfl
      exact ⟨U', cu', D', cd', C', cc', by rw [tne 6 (by omega)]; exact h1, by rw [tne 10 (by omega)]; exact h2, by rw [tself]; exact h3, h4⟩
    · rw [hw 11 e] at h
      have h7 := I.o11 h
      have h3 := I.o7 h7
      have e3 : i ≠ 3 := fun e => by subst e; rw [hun] at h3; cases h3
      have e7 : i ≠ 7 := fun e => by subst e; rw [hun] at h7; cases h7
      obtain ⟨U', cu', D', cd', C', cc', h1, h2, h3, h4⟩ := I.f11 h13 h
      exact ⟨U', cu', D', cd', C', cc', by rw [tne 6 (by omega)]; exact h1, by rw [tne 10 (by omega)]; exact h2, by rw [tne 14 (by omega)]; exact h3, h4.below hb (Nat.le_refl _)⟩
  case f12 =>
    intro _ h
    by_cases e : i = 12
    · subst e; rw [tself]; exact n12 rfl
    · rw [hw 12 e] at h
      obtain ⟨U', cu', D', cd', C', cc', h1, h2⟩ := I.f12 h13 h
      exact ⟨U', cu', D', cd', C', cc', by rw [tne 15 (by omega)]; exact h1, h2.below hb (Nat.le_refl _)⟩
  case f13 =>
    intro h
    rw [hw 13 (by omega), h13] at h
    cases h
end
end Go.Proofs.Ytailpiagjemhpaa
