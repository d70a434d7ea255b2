/-
  append as a step of a region with guards. No claim stands here.
-/
import Derived.Test.YthbphjfaeklfdaaRow
namespace Go.Proofs.Ythbphjfaeklfdaa
open Go.RowKit
set_option linter.unusedVariables false
set_option linter.unusedSimpArgs false

/-- append of one int, as a step of a region that draws its order. -/
theorem want_step_append_int (W : World) {ops : Array Oper} {o : Oper} {a : Act} {K : Act → World → Prop} {Q : Exit → Act → World → Prop} {E : Prop} (hw : Region.wanted o (yielded ops a.tmps) = true) (s x : Operand)
    (hop : o.op = Op.call { callee := Callee.builtin Builtin.append, args := #[s, x], argTypes := #[24, 24] }) {base : Nat} {A : Option Addr} {n c : Nat} {f : Nat → Int}
    (hs : a.eval s = .slice A n c) (hr : Row W base A n c f) (g : Nat) (X : Int) (hx : a.eval x = .slice (some ⟨g, 0, none⟩) 1 1) (hcell : W.cell? ⟨g, 0, none⟩ = some (.int .i64 X))
    (hn : n ≤ 1000000000) (hb : base ≤ W.heap.size)
    (hK : ∀ A' c' w', Row w' base A' (n + 1) c' (snoc f n X) → W.grownBy w' (Value.slice A n c).ownBlock → K (a.put o.dst (.slice A' (n + 1 : Nat) c')) w') : if Region.wanted o (yielded ops a.tmps) = true then Oper.wp Try.prog o a W K Q else E := by
  obtain ⟨i0, hi, hz0, hz1, hz2⟩ := info_parts Try.infoInt
  rw [if_pos hw]
  refine wp_append_own W s x 24 hop base 3 i0 (.int .i64 0) 1 8 Try.underlying24 hi hz0 hz1 hz2 rfl (by decide) _ _ _ hs hr ⟨g, 0, none⟩ 1 1 [.int .i64 X] hx rfl ?_ ?_ (by unfold maxLen; omega) (by omega) hb ?_
  · intro j u hj
    match j, hj with
    | 0, hj => simp at hj; subst hj; simpa [Addr.add] using hcell
  · intro u hu; simp at hu; subst hu; rfl
  · intro v' w' hown hgrow _
    obtain ⟨A', c', rfl⟩ := row_shape hown
    exact hK A' c' w' (by unfold Row; rw [ivals_snoc]; exact hown) hgrow

/-- append of a slice of ints, as a step of a region that draws its order. -/
theorem want_step_append_ints (W : World) {ops : Array Oper} {o : Oper} {a : Act} {K : Act → World → Prop} {Q : Exit → Act → World → Prop} {E : Prop} (hw : Region.wanted o (yielded ops a.tmps) = true) (s x : Operand)
    (hop : o.op = Op.call { callee := Callee.builtin Builtin.append, args := #[s, x], argTypes := #[24, 24] }) {base B : Nat} {A A2 : Option Addr} {n c m c2 : Nat} {f f2 : Nat → Int}
    (hs : a.eval s = .slice A n c) (hr : Row W base A n c f) (hx : a.eval x = .slice A2 m c2) (hr2 : Ints W B A2 m f2) (hc2 : A2 = none → c2 = 0)
    (hn : n + m ≤ 1000000000) (hb : base ≤ W.heap.size)
    (hK : ∀ A' c' w', Row w' base A' (n + m) c' (catF f n f2) → W.grownBy w' (Value.slice A n c).ownBlock → K (a.put o.dst (.slice A' (n + m : Nat) c')) w') : if Region.wanted o (yielded ops a.tmps) = true then Oper.wp Try.prog o a W K Q else E := by
  rw [if_pos hw]
  obtain ⟨i0, hi, hz0, hz1, hz2⟩ := info_parts Try.infoInt
  cases A2 with
  | none =>
    have hm : m = 0 := by
      rcases Nat.eq_zero_or_pos m with h0 | h0
      · exact h0
      · obtain ⟨b, off, h, _⟩ := hr2 h0
        cases h
    subst hm
    rw [hc2 rfl] at hx
    have hrun := run_append_owned_none (P := Try.prog) W base 24 o.type 3 i0 1 Try.underlying24 hi _ _ _ hr
    unfold Oper.wp
    simp [execOp, hop, resolve, invoke, builtin, hs, hx, hrun, Result.andThen]
    exact hK A c W (hr.congr fun i hi => (catF_lo hi).symm) (World.grownBy.refl _ _)
  | some ad =>
    refine wp_append_own W s x 24 hop base 3 i0 (.int .i64 0) 1 8 Try.underlying24 hi hz0 hz1 hz2 rfl (by decide) _ _ _ hs hr ad m c2 (ivals f2 m) hx (by rw [ivals_length, Nat.mul_one]) ?_ ivals_one (by unfold maxLen; omega) (by omega) hb ?_
    · intro j u hj
      have hjm : j < m := by
        rcases Nat.lt_or_ge j m with h | h
        · exact h
        · rw [List.getElem?_eq_none (by rw [ivals_length]; omega)] at hj; cases hj
      obtain ⟨b, off, h, _, hc⟩ := hr2 (by omega)
      rw [ivals_get hjm] at hj
      cases h
      rw [← hj, Addr.add_lit]
      exact hc j hjm
    · intro v' w' hown hgrow _
      obtain ⟨A', c', rfl⟩ := row_shape hown
      exact hK A' c' w' (by unfold Row; rw [ivals_cat]; exact hown) hgrow

/-- append of one int onto a row of the call's own. -/
theorem want_append_int (W : World) {ops : Array Oper} {rest : List Oper} {o : Oper} {a : Act} {Q : Exit → Act → World → Prop} (hw : Region.wanted o (yielded ops a.tmps) = true) (s x : Operand)
    (hop : o.op = Op.call { callee := Callee.builtin Builtin.append, args := #[s, x], argTypes := #[24, 24] }) {base : Nat} {A : Option Addr} {n c : Nat} {f : Nat → Int}
    (hs : a.eval s = .slice A n c) (hr : Row W base A n c f) (g : Nat) (X : Int) (hx : a.eval x = .slice (some ⟨g, 0, none⟩) 1 1) (hcell : W.cell? ⟨g, 0, none⟩ = some (.int .i64 X))
    (hn : n ≤ 1000000000) (hb : base ≤ W.heap.size)
    (hK : ∀ A' c' w', Row w' base A' (n + 1) c' (snoc f n X) → W.grownBy w' (Value.slice A n c).ownBlock → wpList Try.prog ops Q rest (a.put o.dst (.slice A' (n + 1 : Nat) c')) w') : wpList Try.prog ops Q (o :: rest) a W :=
  wpList_step fun K hK' => want_step_append_int W hw s x hop hs hr g X hx hcell hn hb fun A' c' w' h1 h2 => hK' _ _ (hK A' c' w' h1 h2)

/-- append of a slice of ints onto a row of the call's own. -/
theorem want_append_ints (W : World) {ops : Array Oper} {rest : List Oper} {o : Oper} {a : Act} {Q : Exit → Act → World → Prop} (hw : Region.wanted o (yielded ops a.tmps) = true) (s x : Operand)
    (hop : o.op = Op.call { callee := Callee.builtin Builtin.append, args := #[s, x], argTypes := #[24, 24] }) {base B : Nat} {A A2 : Option Addr} {n c m c2 : Nat} {f f2 : Nat → Int}
    (hs : a.eval s = .slice A n c) (hr : Row W base A n c f) (hx : a.eval x = .slice A2 m c2) (hr2 : Ints W B A2 m f2) (hc2 : A2 = none → c2 = 0)
    (hn : n + m ≤ 1000000000) (hb : base ≤ W.heap.size)
    (hK : ∀ A' c' w', Row w' base A' (n + m) c' (catF f n f2) → W.grownBy w' (Value.slice A n c).ownBlock → wpList Try.prog ops Q rest (a.put o.dst (.slice A' (n + m : Nat) c')) w') : wpList Try.prog ops Q (o :: rest) a W :=
  wpList_step fun K hK' => want_step_append_ints W hw s x hop hs hr hx hr2 hc2 hn hb fun A' c' w' h1 h2 => hK' _ _ (hK A' c' w' h1 h2)

end Go.Proofs.Ythbphjfaeklfdaa
