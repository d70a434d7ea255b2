/-
  Slices of truths: the words and the laws, as for slices of numbers. No claim stands here. (Printed by genbools.py.)
-/
import Derived.Test.YtailpiagjemhpaaRow
import Derived.Test.YtailpiagjemhpaaRead
import Derived.Test.YtailpiagjemhpaaBuild2M
namespace Go.Proofs.Ytailpiagjemhpaa
open Go.RowKit
set_option linter.unusedVariables false
set_option linter.unusedSimpArgs false

/-- A slice of ints reads as the numbers f 0 .. f (n - 1), and lies below block B. -/
def Bools (w : World) (B : Nat) (A : Option Addr) (n : Nat) (f : Nat → Bool) : Prop :=
  0 < n → ∃ b off, A = some ⟨b, off, none⟩ ∧ b < B ∧ ∀ i, i < n → w.cell? ⟨b, off + i, none⟩ = some (.bool (f i))

section
variable {w w' : World} {B B' : Nat} {A : Option Addr} {n : Nat} {f g : Nat → Bool}
theorem Bools.keep (h : Bools w B A n f) (hk : ∀ p : Addr, p.block < B → w'.cell? p = w.cell? p) : Bools w' B A n f := by
  intro hn
  obtain ⟨b, off, hA, hb, hc⟩ := h hn
  exact ⟨b, off, hA, hb, fun i hi => (hk _ hb).trans (hc i hi)⟩
theorem Bools.more (h : Bools w B A n f) (hB : B ≤ B') : Bools w B' A n f := by
  intro hn
  obtain ⟨b, off, hA, hb, hc⟩ := h hn
  exact ⟨b, off, hA, Nat.lt_of_lt_of_le hb hB, hc⟩
theorem Bools.below (h : Bools w B A n f) (hb : Below B w w') : Bools w' B A n f := h.keep fun _ hp => hb.cell hp
theorem Bools.drewN (h : Bools w B A n f) (k : Nat) : Bools (w.drewN k) B A n f := h
theorem Bools.drew (h : Bools w B A n f) : Bools w.drew B A n f := h
theorem Bools.alloc (h : Bools w B A n f) (hB : B ≤ w.heap.size) (o : Obj) : Bools (w.alloc o) B A n f := h.keep fun p hp => World.cell?_alloc_lt w o p (by omega)
theorem Bools.zero : Bools w B A 0 f := fun h => absurd h (by omega)
theorem Bools.congr (h : Bools w B A n f) (e : ∀ i, i < n → f i = g i) : Bools w B A n g := by
  intro hn
  obtain ⟨b, off, hA, hb, hc⟩ := h hn
  exact ⟨b, off, hA, hb, fun i hi => by rw [hc i hi, e i hi]⟩
end

theorem Try.infoBool : (Try.prog.info? 4).map (fun i => (i.zero, i.size, i.bytes)) = some (some (.bool false), 1, 1) := by kernel_rfl

/-- The numbers f 0 .. f (n - 1) as cells. -/
def bvals (f : Nat → Bool) (n : Nat) : List Value := (List.range n).map fun i => .bool (f i)
theorem bvals_length (f : Nat → Bool) (n : Nat) : (bvals f n).length = n := by simp [bvals]
theorem bvals_get {f : Nat → Bool} {n i : Nat} (h : i < n) : (bvals f n)[i]? = some (.bool (f i)) := by simp [bvals, h]
theorem bvals_succ (f : Nat → Bool) (n : Nat) : bvals f (n + 1) = bvals f n ++ [.bool (f n)] := by simp [bvals, List.range_succ]
theorem bvals_one {f : Nat → Bool} {n : Nat} : ∀ u ∈ bvals f n, u.oneCell' = true := by
  intro u hu
  obtain ⟨_, _, rfl⟩ := List.mem_map.1 hu
  rfl
theorem bvals_congr {f g : Nat → Bool} {n : Nat} (h : ∀ i, i < n → f i = g i) : bvals f n = bvals g n :=
  List.map_congr_left fun i hi => by rw [h i (List.mem_range.1 hi)]
theorem bvals_set (h : Nat → Bool) (n k : Nat) (v : Bool) : (bvals h n).set k (.bool v) = bvals (updB h k v) n := by
  apply List.ext_getElem?
  intro i
  rw [List.getElem?_set]
  by_cases hi : i < n
  · rw [bvals_get hi, bvals_get hi]
    by_cases hk : k = i
    · subst hk; simp [bvals_length, hi, updB]
    · simp [hk, updB, Ne.symm hk]
  · rw [List.getElem?_eq_none (by rw [bvals_length]; omega), List.getElem?_eq_none (by rw [bvals_length]; omega)]
    by_cases hk : k = i
    · simp [hk, bvals_length, hi]
    · simp [hk]
theorem bvals_made (n : Nat) : (madeCells (Value.bool false).cells (n * 1)).toList = bvals (fun _ => false) n := by
  rw [Nat.mul_one]
  show (madeCells #[Value.bool false] n).toList = _
  rw [toList_madeCells_one]
  apply List.ext_getElem?
  intro i
  by_cases hi : i < n
  · rw [bvals_get hi]; simp [hi]
  · rw [List.getElem?_eq_none (by simp; omega), List.getElem?_eq_none (by rw [bvals_length]; omega)]

/-- The slice (A, n, c) is a row of the call's own: it holds f 0 .. f (n - 1), in a block from base on. -/
def RowB (w : World) (base : Nat) (A : Option Addr) (n c : Nat) (f : Nat → Bool) : Prop := w.ownsRow base 4 1 (.slice A n c) n (bvals f n)

section
variable {w w' : World} {base : Nat} {A : Option Addr} {n c : Nat} {f g : Nat → Bool}
theorem RowB.bools (h : RowB w base A n c f) : Bools w w.heap.size A n f := by
  intro hn
  obtain ⟨b, cap, hv, _, hlt⟩ := World.ownsRow.form h hn
  obtain ⟨rfl, -, rfl⟩ : A = some ⟨b, 0, none⟩ ∧ n = n ∧ c = cap := by simpa using hv
  refine ⟨b, 0, rfl, hlt, fun i hi => ?_⟩
  rw [Nat.zero_add, World.ownsRow.cellAt h i (by omega), bvals_get hi]
theorem RowB.form (h : RowB w base A n c f) (hn : 0 < n) : ∃ b, A = some ⟨b, 0, none⟩ ∧ base ≤ b ∧ b < w.heap.size := by
  obtain ⟨b, cap, hv, hb, hlt⟩ := World.ownsRow.form h hn
  obtain ⟨rfl, -⟩ : A = some ⟨b, 0, none⟩ ∧ c = cap := by simpa using hv
  exact ⟨b, rfl, hb, hlt⟩
theorem RowB.cap (h : RowB w base A n c f) : n ≤ c ∧ c ≤ maxLen := by
  rcases h.2 with ⟨hv, h0⟩ | ⟨b, cap, cur, hv, _, _, hc, hm, _⟩
  · simp only [Value.slice.injEq] at hv; obtain ⟨_, rfl, rfl⟩ := hv; exact ⟨Nat.le_refl _, Nat.zero_le _⟩
  · simp only [Value.slice.injEq] at hv; obtain ⟨_, _, rfl⟩ := hv; exact ⟨hc, hm⟩
theorem RowB.kept {row : Option Nat} (h : RowB w base A n c f) (hg : w.grownBy w' row) (hne : row = none ∨ ∀ b, row = some b → b < base ∨ w.heap.size ≤ b) : RowB w' base A n c f := by
  refine World.ownsRow.kept h hg ?_
  cases hb : (Value.slice A n c).ownBlock with
  | none => exact .inl rfl
  | some b =>
    right
    have := World.ownsRow.lt h b hb
    rcases hne with rfl | hne
    · simp
    · intro e
      have := hne b e.symm
      omega
theorem RowB.below {B : Nat} (h : RowB w base A n c f) (hb : Below B w w') (hB : w.heap.size ≤ B) : RowB w' base A n c f :=
  h.kept (row := none) ⟨hb.os, hb.tape, hb.output, hb.size, fun k hk _ => hb.block k (by omega)⟩ (.inl rfl)
theorem RowB.drewN (h : RowB w base A n c f) (k : Nat) : RowB (w.drewN k) base A n c f := h
theorem RowB.drew (h : RowB w base A n c f) : RowB w.drew base A n c f := h
theorem RowB.alloc (h : RowB w base A n c f) (o : Obj) : RowB (w.alloc o) base A n c f := h.kept (World.grownBy_alloc w o none) (.inl rfl)
theorem RowB.congr (h : RowB w base A n c f) (e : ∀ i, i < n → f i = g i) : RowB w base A n c g := by
  unfold RowB at h ⊢
  rw [← bvals_congr e]
  exact h
theorem RowB.mono {base' : Nat} (h : RowB w base A n c f) (hb : base' ≤ base) : RowB w base' A n c f := by
  refine ⟨h.1, ?_⟩
  rcases h.2 with h' | ⟨b, cap, cur, hv, hbb, r⟩
  · exact .inl h'
  · exact .inr ⟨b, cap, cur, hv, Nat.le_trans hb hbb, r⟩
theorem RowB.set {b k : Nat} (h : RowB w base (some ⟨b, 0, none⟩) n c f) (v : Bool) :
    RowB (w.setCell ⟨b, k, none⟩ (.bool v)) base (some ⟨b, 0, none⟩) n c (updB f k v) ∧ w.grownBy (w.setCell ⟨b, k, none⟩ (.bool v)) (some b) := by
  have := World.ownsRow.stored h k (.bool v)
  rw [bvals_set] at this
  exact this
theorem RowB.frozen {b : Nat} (h : RowB w base (some ⟨b, 0, none⟩) n c f) (k : Nat) : w.frozen? ⟨b, k, none⟩ = false := World.ownsRow.frozenAt h k
theorem RowB.cell {b k : Nat} (h : RowB w base (some ⟨b, 0, none⟩) n c f) (hk : k < n) : w.cell? ⟨b, k, none⟩ = some (.bool (f k)) := by
  rw [World.ownsRow.cellAt h k (by omega), bvals_get hk]
theorem RowB.lt {b : Nat} (h : RowB w base (some ⟨b, 0, none⟩) n c f) : base ≤ b ∧ b < w.heap.size := World.ownsRow.lt h b rfl
theorem RowB.own (h : RowB w base A n c f) : ∀ b, (Value.slice A n c).ownBlock = some b → base ≤ b := fun b hb => (World.ownsRow.lt h b hb).1
theorem RowB.nil (w : World) (base : Nat) (f : Nat → Bool) : RowB w base none 0 0 f := by
  unfold RowB
  simpa [bvals] using World.ownsRow_nil w base 4 1
end

/-- '[]int' written out without an element. -/
theorem RowB.empty {w : World} {base : Nat} (f : Nat → Bool) (hb : base ≤ w.heap.size) : RowB (w.alloc (.cells #[] 4)) base (some ⟨w.heap.size, 0, none⟩) 0 0 f := by
  have h := World.ownsRow_lit (e := 4) (size := 1) (base := base) w #[] 0 hb (Nat.zero_le _) (by simp)
  simpa [RowB, bvals] using h
theorem RowB.emptyAt {w : World} {base g : Nat} (f : Nat → Bool) (hg : g = w.heap.size) (hb : base ≤ w.heap.size) : RowB (w.alloc (.cells #[] 4)) base (some ⟨g, 0, none⟩) 0 0 f := by
  subst hg; exact RowB.empty f hb
/-- f, and X behind its first n numbers. -/
def snocB (f : Nat → Bool) (n : Nat) (X : Bool) (i : Nat) : Bool := if i < n then f i else X
theorem snocB_lo {f : Nat → Bool} {n i : Nat} {X : Bool} (h : i < n) : snocB f n X i = f i := by simp [snocB, h]
theorem snocB_at (f : Nat → Bool) (n : Nat) (X : Bool) : snocB f n X n = X := by simp [snocB]
theorem bvals_snocB (f : Nat → Bool) (n : Nat) (X : Bool) : bvals (snocB f n X) (n + 1) = bvals f n ++ [.bool X] := by
  rw [bvals_succ, snocB_at, bvals_congr (g := f) fun i hi => snocB_lo hi]
/-- f, and g behind its first n numbers. -/
def catB (f : Nat → Bool) (n : Nat) (g : Nat → Bool) (i : Nat) : Bool := if i < n then f i else g (i - n)
theorem catB_lo {f g : Nat → Bool} {n i : Nat} (h : i < n) : catB f n g i = f i := by simp [catB, h]
theorem catB_hi {f g : Nat → Bool} {n i : Nat} (h : n ≤ i) : catB f n g i = g (i - n) := by simp [catB, Nat.not_lt.2 h]
theorem bvals_cat (f : Nat → Bool) (n : Nat) (g : Nat → Bool) (m : Nat) : bvals (catB f n g) (n + m) = bvals f n ++ bvals g m := by
  apply List.ext_getElem?
  intro i
  by_cases h : i < n
  · rw [bvals_get (by omega), catB_lo h, List.getElem?_append_left (by rw [bvals_length]; exact h), bvals_get h]
  · rw [List.getElem?_append_right (by rw [bvals_length]; omega), bvals_length]
    by_cases h' : i < n + m
    · rw [bvals_get h', catB_hi (by omega), bvals_get (by omega)]
    · rw [List.getElem?_eq_none (by rw [bvals_length]; omega), List.getElem?_eq_none (by rw [bvals_length]; omega)]
theorem row_shapeB {w : World} {base : Nat} {v : Value} {n : Nat} {xs : List Value} (h : w.ownsRow base 4 1 v n xs) : ∃ A c, v = .slice A n c := by
  rcases h.2 with ⟨rfl, rfl⟩ | ⟨b, cap, cur, rfl, _⟩
  · exact ⟨_, _, rfl⟩
  · exact ⟨_, _, rfl⟩

theorem snocB_self (f : Nat → Bool) (n : Nat) : ∀ i, i < n + 1 → snocB f n (f n) i = f i := by
  intro i hi
  unfold snocB
  split
  · rfl
  · rw [show n = i by omega]

/-- append of one int onto a row of the call's own. -/
theorem append_bool (W : World) {ops : Array Oper} {rest : List Oper} {o : Oper} {a : Act} {Q : Exit → Act → World → Prop} (hg : o.guard = none) (s x : Operand)
    (hop : o.op = Op.call { callee := Callee.builtin Builtin.append, args := #[s, x], argTypes := #[30, 30] }) {base : Nat} {A : Option Addr} {n c : Nat} {f : Nat → Bool}
    (hs : a.eval s = .slice A n c) (hr : RowB W base A n c f) (g : Nat) (X : Bool) (hx : a.eval x = .slice (some ⟨g, 0, none⟩) 1 1) (hcell : W.cell? ⟨g, 0, none⟩ = some (.bool X))
    (hn : n ≤ 1000000000) (hb : base ≤ W.heap.size)
    (hK : ∀ A' c' w', RowB w' base A' (n + 1) c' (snocB f n X) → W.grownBy w' (Value.slice A n c).ownBlock → wpList Try.prog ops Q rest (a.put o.dst (.slice A' (n + 1 : Nat) c')) w') : wpList Try.prog ops Q (o :: rest) a W := by
  obtain ⟨i0, hi, hz0, hz1, hz2⟩ := info_parts Try.infoBool
  refine wpList_append_own W hg s x 30 hop base 4 i0 (.bool false) 1 1 Try.underlying30 hi hz0 hz1 hz2 rfl (by decide) _ _ _ hs hr ⟨g, 0, none⟩ 1 1 [.bool X] hx rfl ?_ ?_ (by unfold maxLen; omega) (by omega) hb ?_
  · intro j u hj
    match j, hj with
    | 0, hj => simp at hj; subst hj; simpa [Addr.add] using hcell
  · intro u hu; simp at hu; subst hu; rfl
  · intro v' w' hown hgrow _
    obtain ⟨A', c', rfl⟩ := row_shapeB hown
    exact hK A' c' w' (by unfold RowB; rw [bvals_snocB]; exact hown) hgrow

/-- append of a slice of ints onto a row of the call's own. -/
theorem append_bools (W : World) {ops : Array Oper} {rest : List Oper} {o : Oper} {a : Act} {Q : Exit → Act → World → Prop} (hg : o.guard = none) (s x : Operand)
    (hop : o.op = Op.call { callee := Callee.builtin Builtin.append, args := #[s, x], argTypes := #[30, 30] }) {base B : Nat} {A A2 : Option Addr} {n c m c2 : Nat} {f f2 : Nat → Bool}
    (hs : a.eval s = .slice A n c) (hr : RowB W base A n c f) (hx : a.eval x = .slice A2 m c2) (hr2 : Bools W B A2 m f2) (hc2 : A2 = none → c2 = 0)
    (hn : n + m ≤ 1000000000) (hb : base ≤ W.heap.size)
    (hK : ∀ A' c' w', RowB w' base A' (n + m) c' (catB f n f2) → W.grownBy w' (Value.slice A n c).ownBlock → wpList Try.prog ops Q rest (a.put o.dst (.slice A' (n + m : Nat) c')) w') : wpList Try.prog ops Q (o :: rest) a W := by
  obtain ⟨i0, hi, hz0, hz1, hz2⟩ := info_parts Try.infoBool
  cases A2 with
  | none =>
    have hm : m = 0 := by
      rcases Nat.eq_zero_or_pos m with h0 | h0
      · exact h0
      · obtain ⟨b, off, h, _⟩ := hr2 h0
        cases h
    subst hm
    rw [hc2 rfl] at hx
    refine wpList_append_own_none hg s x 30 hop base 4 i0 1 Try.underlying30 hi _ _ _ hs hr hx ?_
    exact hK A c W (hr.congr fun i hi => (catB_lo hi).symm) (World.grownBy.refl _ _)
  | some ad =>
    refine wpList_append_own W hg s x 30 hop base 4 i0 (.bool false) 1 1 Try.underlying30 hi hz0 hz1 hz2 rfl (by decide) _ _ _ hs hr ad m c2 (bvals f2 m) hx (by rw [bvals_length, Nat.mul_one]) ?_ bvals_one (by unfold maxLen; omega) (by omega) hb ?_
    · intro j u hj
      have hjm : j < m := by
        rcases Nat.lt_or_ge j m with h | h
        · exact h
        · rw [List.getElem?_eq_none (by rw [bvals_length]; omega)] at hj; cases hj
      obtain ⟨b, off, h, _, hc⟩ := hr2 (by omega)
      rw [bvals_get hjm] at hj
      cases h
      rw [← hj, Addr.add_lit]
      exact hc j hjm
    · intro v' w' hown hgrow _
      obtain ⟨A', c', rfl⟩ := row_shapeB hown
      exact hK A' c' w' (by unfold RowB; rw [bvals_cat]; exact hown) hgrow

theorem Bools.grown {w w' : World} {B : Nat} {A : Option Addr} {n : Nat} {f : Nat → Bool} {row : Option Nat} (h : Bools w B A n f) (hg : w.grownBy w' row) (hB : B ≤ w.heap.size) (hr : ∀ b, row = some b → B ≤ b) : Bools w' B A n f :=
  h.keep fun p hp => World.cell?_of_block (hg.block p.block (by omega) (fun e => by have := hr _ e.symm; omega))
theorem RowB.wrote {w w' : World} {base : Nat} {A A' : Option Addr} {n c n' : Nat} {f : Nat → Bool} (h : RowB w base A n c f) (hw : Wrote w w' A' n') (hA : 0 < n' → ∀ b, A' = some ⟨b, 0, none⟩ → b < base) : RowB w' base A n c f := by
  obtain ⟨row, hg, hr⟩ := hw
  exact h.kept hg (.inr fun b e => .inl (hA (hr b e).1 b (hr b e).2))
theorem Bools.wrote {w w' : World} {B : Nat} {A A' : Option Addr} {n n' : Nat} {f : Nat → Bool} (h : Bools w B A n f) (hw : Wrote w w' A' n') (hB : B ≤ w.heap.size) (hA : 0 < n' → ∀ b, A' = some ⟨b, 0, none⟩ → B ≤ b) : Bools w' B A n f := by
  obtain ⟨row, hg, hr⟩ := hw
  exact h.grown hg hB fun b e => hA (hr b e).1 b (hr b e).2

/-- Where a row lies. -/
theorem RowB.lies {w : World} {base : Nat} {A : Option Addr} {n c : Nat} {f : Nat → Bool} (h : RowB w base A n c f) : 0 < n → ∀ b, A = some ⟨b, 0, none⟩ → base ≤ b ∧ b < w.heap.size := by
  intro hn b e
  obtain ⟨b', e', h1, h2⟩ := h.form hn
  rw [e] at e'
  have : b = b' := by simpa using e'
  subst this
  exact ⟨h1, h2⟩

/-- The numbers of two slices are the same. -/
def eqPb (f g : Nat → Bool) (i : Nat) : Bool := f i == g i
def eqBb (f : Nat → Bool) (n : Nat) (g : Nat → Bool) (m : Nat) : Bool := n == m && allB (eqPb f g) n
theorem eqBb_iff {f : Nat → Bool} {n : Nat} {g : Nat → Bool} {m : Nat} : eqBb f n g m = true ↔ n = m ∧ ∀ i, i < n → f i = g i := by
  simp [eqBb, allB_iff, eqPb]
theorem eqBb_refl (f : Nat → Bool) (n : Nat) : eqBb f n f n = true := eqBb_iff.2 ⟨rfl, fun _ _ => rfl⟩

theorem eqBoolS_any {w : World} {B B' : Nat} {A A' : Option Addr} {n m c c' : Nat} {f g : Nat → Bool} (hn : n ≤ 9223372036854775806) (hs : Bools w B A n f) (hs' : Bools w B' A' m g) :
    Calls Try.prog 132 #[.slice A n c, .slice A' m c'] w fun e w' => e = .returned (.bool (eqBb f n g m)) ∧ Drew w w' := by
  by_cases hnm : n = m
  · subst hnm
    go_enter Try.func132, Try.ntmps132
    go_wp2
    go_loopw [5] (fun s5 wr => ∃ k : Nat, k ≤ n ∧ s5 = .int .i64 k ∧ Hid (allB (eqPb f g) k = true) ∧ Drew w wr) (fun s5 _ => n - (intOf s5).toNat)
    case atStart => exact ⟨0, Nat.zero_le _, rfl, rfl, Drew.refl _⟩
    case round =>
      obtain ⟨k, hk, rfl, HK, m, rfl⟩ := hrel
      by_cases hlt : k < n
      · obtain ⟨b, off, rfl, _, hc⟩ := hs (by omega)
        obtain ⟨b', off', rfl, _, hc'⟩ := hs' (by omega)
        have c0 := hc k hlt
        have c1 := hc' k hlt
        clear hc hs hc' hs'
        by_cases h1 : f k = g k
        · have HN := Lib.hid (show eqPb f g k = true by simp [eqPb, h1])
          have he : (f k == g k) = true := by simp [h1]
          clear h1
          go_wp2
          go_quiet (fail)
          go_wp2
          go_roundw
          case rel => exact ⟨k + 1, by omega, by go_num, allB_succ HK.out HN.out, by first | exact ⟨_, rfl⟩ | exact ⟨_, World.drewN_drewN _ _ _⟩⟩
          case measure => simp [intOf]; omega
        · have HN := Lib.hid (show eqPb f g k = false by simp [eqPb, h1])
          have he : (f k == g k) = false := by simp [h1]
          clear h1
          go_wp2
          go_quiet (fail)
          go_wp2
          go_ret
          exact ⟨ret_bool (by simp [eqBb, allB_no hlt HN.out]), (Drew.refl _).n _ |>.n _⟩
      · obtain rfl : k = n := by omega
        go_wp2
        go_ret
        exact ⟨ret_bool (by simp [eqBb, HK.out]), (Drew.refl _).n _⟩
  · have he : ((n : Int) == (m : Int)) = false := by simp; omega
    have HN := Lib.hid (show eqBb f n g m = false by simp [eqBb, hnm])
    clear hnm
    go_enter Try.func132, Try.ntmps132
    go_wp2
    go_ret
    exact ⟨ret_bool HN.out.symm, Drew.refl _⟩
theorem sameBools_any {w : World} {B B' : Nat} {A A' : Option Addr} {n m c c' : Nat} {f g : Nat → Bool} (hn : n ≤ 9223372036854775806) (hs : Bools w B A n f) (hs' : Bools w B' A' m g) :
    Calls Try.prog 114 #[.slice A n c, .slice A' m c'] w fun e w' => e = .returned (.bool (eqBb f n g m)) ∧ Drew w w' := by
  by_cases hnm : n = m
  · subst hnm
    go_enter Try.func114, Try.ntmps114
    go_wp2
    go_loopw [5] (fun s5 wr => ∃ k : Nat, k ≤ n ∧ s5 = .int .i64 k ∧ Hid (allB (eqPb f g) k = true) ∧ Drew w wr) (fun s5 _ => n - (intOf s5).toNat)
    case atStart => exact ⟨0, Nat.zero_le _, rfl, rfl, Drew.refl _⟩
    case round =>
      obtain ⟨k, hk, rfl, HK, m, rfl⟩ := hrel
      by_cases hlt : k < n
      · obtain ⟨b, off, rfl, _, hc⟩ := hs (by omega)
        obtain ⟨b', off', rfl, _, hc'⟩ := hs' (by omega)
        have c0 := hc k hlt
        have c1 := hc' k hlt
        clear hc hs hc' hs'
        by_cases h1 : f k = g k
        · have HN := Lib.hid (show eqPb f g k = true by simp [eqPb, h1])
          have he : (f k == g k) = true := by simp [h1]
          clear h1
          go_wp2
          go_quiet (fail)
          go_wp2
          go_roundw
          case rel => exact ⟨k + 1, by omega, by go_num, allB_succ HK.out HN.out, by first | exact ⟨_, rfl⟩ | exact ⟨_, World.drewN_drewN _ _ _⟩⟩
          case measure => simp [intOf]; omega
        · have HN := Lib.hid (show eqPb f g k = false by simp [eqPb, h1])
          have he : (f k == g k) = false := by simp [h1]
          clear h1
          go_wp2
          go_quiet (fail)
          go_wp2
          go_ret
          exact ⟨ret_bool (by simp [eqBb, allB_no hlt HN.out]), (Drew.refl _).n _ |>.n _⟩
      · obtain rfl : k = n := by omega
        go_wp2
        go_ret
        exact ⟨ret_bool (by simp [eqBb, HK.out]), (Drew.refl _).n _⟩
  · have he : ((n : Int) == (m : Int)) = false := by simp; omega
    have HN := Lib.hid (show eqBb f n g m = false by simp [eqBb, hnm])
    clear hnm
    go_enter Try.func114, Try.ntmps114
    go_wp2
    go_ret
    exact ⟨ret_bool HN.out.symm, Drew.refl _⟩
theorem toBoolS_any {w : World} {B : Nat} {A : Option Addr} {n c : Nat} {f : Nat → Bool} (hn : n ≤ 17592186044415) (hB : B ≤ w.heap.size) (hs : Bools w B A n f) :
    Calls Try.prog 129 #[.slice A n c] w fun e w' => ∃ A' c', e = .returned (.slice A' n c') ∧ RowB w' w.heap.size A' n c' f ∧ Below w.heap.size w w' := by
  obtain ⟨i0, hi, hz0, hz1, hz2⟩ := info_parts Try.infoBool
  go_enter Try.func129, Try.ntmps129
  go_wp2_with (at_make; refine wpList_make_full _ rfl _ _ 30 rfl w.heap.size 4 i0 (.bool false) 1 Try.underlying30 hi hz0 hz1 _ _ _ _ n rfl rfl rfl rfl (by rw [hz2]; omega) (by unfold maxLen; omega) (Nat.le_refl _) ?_; intro w1 hown hgrow)
  have hrow0 : RowB w1 w.heap.size (some ⟨w.heap.size, 0, none⟩) n n (fun _ => false) := by
    unfold RowB
    rw [← bvals_made]
    exact hown
  have hb0 := (Below.refl w.heap.size w).grown hgrow (Nat.le_refl _) (by intro k hk; cases hk)
  clear hown hgrow hi hz0 hz1 hz2
  have HS := Lib.hid hs
  clear hs
  go_wp2
  go_loopw [4] (fun s4 wr => ∃ k : Nat, k ≤ n ∧ s4 = .int .i64 k ∧ RowB wr w.heap.size (some ⟨w.heap.size, 0, none⟩) n n (fun i => if i < k then f i else false) ∧ Below w.heap.size w wr) (fun s4 _ => n - (intOf s4).toNat)
  case atStart => exact ⟨0, Nat.zero_le _, rfl, hrow0.congr fun i hi => by simp, hb0⟩
  case round =>
    obtain ⟨k, hk, rfl, hr, hb⟩ := hrel
    clear hrow0 hb0
    by_cases hlt : k < n
    · obtain ⟨b, off, rfl, hbB, hc⟩ := HS.out (by omega)
      have c0 := (hb.cell (p := ⟨b, off + k, none⟩) (by simp; omega)).trans (hc k hlt)
      have c1 := hr.cell hlt
      have c2 := hr.frozen k
      have hnext := hr.set (k := k) (f k)
      have hr2 := hnext.1.congr (g := fun i => if i < k + 1 then f i else false) (fun i hi => by
        unfold updB
        by_cases e : i = k
        · subst e; simp
        · have : (i < k + 1) = (i < k) := by simp; omega
          simp [e, this])
      have HR := Lib.hid hr2
      have HB := Lib.hid (hb.setCell (p := ⟨w.heap.size, k, none⟩) (Nat.le_refl _) (.bool (f k)))
      clear hr hb hnext hr2 HS hc
      go_wp2
      go_roundw
      case rel => exact ⟨k + 1, by omega, by go_num, HR.out, HB.out⟩
      case measure => simp [intOf]; omega
    · obtain rfl : k = n := by omega
      have HR := Lib.hid (hr.congr (g := f) (fun i hi => by simp [hi]))
      clear hr
      go_wp2
      go_ret
      exact ⟨_, _, rfl, HR.out, hb⟩
end Go.Proofs.Ytailpiagjemhpaa
