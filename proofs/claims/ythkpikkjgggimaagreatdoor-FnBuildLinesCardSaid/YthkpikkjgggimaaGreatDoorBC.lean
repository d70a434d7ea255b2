/-
  Texts Bools, Box, Lift, To, Bv in one. No claim stands here.
-/
import Derived.Test.YthkpikkjgggimaaGreatDoorBB
import Derived.Test.YthkpikkjgggimaaGreatDoorBA
namespace Go.Proofs.YthkpikkjgggimaaGreatDoor
open Go.RowKit
set_option linter.unusedVariables false
set_option linter.unusedSimpArgs false

/-- A slice of ints reads as the numbers f 0 .. f (n - 1), and lies below block B. -/
def Bools (w : World) (B : Nat) (A : Option Addr) (n : Nat) (f : Nat → Bool) : Prop :=
  0 < n → ∃ b off, A = some ⟨b, off, none⟩ ∧ b < B ∧ ∀ i, i < n → w.cell? ⟨b, off + i, none⟩ = some (.bool (f i))

section
variable {w w' : World} {B B' : Nat} {A : Option Addr} {n : Nat} {f g : Nat → Bool}
theorem Bools.keep (h : Bools w B A n f) (hk : ∀ p : Addr, p.block < B → w'.cell? p = w.cell? p) : Bools w' B A n f := by
  intro hn
  obtain ⟨b, off, hA, hb, hc⟩ := h hn
  exact ⟨b, off, hA, hb, fun i hi => (hk _ hb).trans (hc i hi)⟩
theorem Bools.more (h : Bools w B A n f) (hB : B ≤ B') : Bools w B' A n f := by
  intro hn
  obtain ⟨b, off, hA, hb, hc⟩ := h hn
  exact ⟨b, off, hA, Nat.lt_of_lt_of_le hb hB, hc⟩
theorem Bools.below (h : Bools w B A n f) (hb : Below B w w') : Bools w' B A n f := h.keep fun _ hp => hb.cell hp
theorem Bools.drewN (h : Bools w B A n f) (k : Nat) : Bools (w.drewN k) B A n f := h
theorem Bools.drew (h : Bools w B A n f) : Bools w.drew B A n f := h
theorem Bools.alloc (h : Bools w B A n f) (hB : B ≤ w.heap.size) (o : Obj) : Bools (w.alloc o) B A n f := h.keep fun p hp => World.cell?_alloc_lt w o p (by omega)
theorem Bools.zero : Bools w B A 0 f := fun h => absurd h (by omega)
theorem Bools.congr (h : Bools w B A n f) (e : ∀ i, i < n → f i = g i) : Bools w B A n g := by
  intro hn
  obtain ⟨b, off, hA, hb, hc⟩ := h hn
  exact ⟨b, off, hA, hb, fun i hi => by rw [hc i hi, e i hi]⟩
end

theorem Tryz.infoBool : (Tryz.prog.info? 4).map (fun i => (i.zero, i.size, i.bytes)) = some (some (.bool false), 1, 1) := by kernel_rfl

/-- The numbers f 0 .. f (n - 1) as cells. -/
def bvals (f : Nat → Bool) (n : Nat) : List Value := (List.range n).map fun i => .bool (f i)
theorem bvals_length (f : Nat → Bool) (n : Nat) : (bvals f n).length = n := by simp [bvals]
theorem bvals_get {f : Nat → Bool} {n i : Nat} (h : i < n) : (bvals f n)[i]? = some (.bool (f i)) := by simp [bvals, h]
theorem bvals_succ (f : Nat → Bool) (n : Nat) : bvals f (n + 1) = bvals f n ++ [.bool (f n)] := by simp [bvals, List.range_succ]
theorem bvals_one {f : Nat → Bool} {n : Nat} : ∀ u ∈ bvals f n, u.oneCell' = true := by
  intro u hu
  obtain ⟨_, _, rfl⟩ := List.mem_map.1 hu
  rfl
theorem bvals_congr {f g : Nat → Bool} {n : Nat} (h : ∀ i, i < n → f i = g i) : bvals f n = bvals g n :=
  List.map_congr_left fun i hi => by rw [h i (List.mem_range.1 hi)]
theorem bvals_set (h : Nat → Bool) (n k : Nat) (v : Bool) : (bvals h n).set k (.bool v) = bvals (updB h k v) n := by
  apply List.ext_getElem?
  intro i
  rw [List.getElem?_set]
  by_cases hi : i < n
  · rw [bvals_get hi, bvals_get hi]
    by_cases hk : k = i
    · subst hk; simp [bvals_length, hi, updB]
    · simp [hk, updB, Ne.symm hk]
  · rw [List.getElem?_eq_none (by rw [bvals_length]; omega), List.getElem?_eq_none (by rw [bvals_length]; omega)]
    by_cases hk : k = i
    · simp [hk, bvals_length, hi]
    · simp [hk]
theorem bvals_made (n : Nat) : (madeCells (Value.bool false).cells (n * 1)).toList = bvals (fun _ => false) n := by
  rw [Nat.mul_one]
  show (madeCells #[Value.bool false] n).toList = _
  rw [toList_madeCells_one]
  apply List.ext_getElem?
  intro i
  by_cases hi : i < n
  · rw [bvals_get hi]; simp [hi]
  · rw [List.getElem?_eq_none (by simp; omega), List.getElem?_eq_none (by rw [bvals_length]; omega)]

/-- The slice (A, n, c) is a row of the call's own: it holds f 0 .. f (n - 1), in a block from base on. -/
def RowB (w : World) (base : Nat) (A : Option Addr) (n c : Nat) (f : Nat → Bool) : Prop := w.ownsRow base 4 1 (.slice A n c) n (bvals f n)

section
variable {w w' : World} {base : Nat} {A : Option Addr} {n c : Nat} {f g : Nat → Bool}
theorem RowB.bools (h : RowB w base A n c f) : Bools w w.heap.size A n f := by
  intro hn
  obtain ⟨b, cap, hv, _, hlt⟩ := World.ownsRow.form h hn
  obtain ⟨rfl, -, rfl⟩ : A = some ⟨b, 0, none⟩ ∧ n = n ∧ c = cap := by simpa using hv
  refine ⟨b, 0, rfl, hlt, fun i hi => ?_⟩
  rw [Nat.zero_add, World.ownsRow.cellAt h i (by omega), bvals_get hi]
theorem RowB.form (h : RowB w base A n c f) (hn : 0 < n) : ∃ b, A = some ⟨b, 0, none⟩ ∧ base ≤ b ∧ b < w.heap.size := by
  obtain ⟨b, cap, hv, hb, hlt⟩ := World.ownsRow.form h hn
  obtain ⟨rfl, -⟩ : A = some ⟨b, 0, none⟩ ∧ c = cap := by simpa using hv
  exact ⟨b, rfl, hb, hlt⟩
theorem RowB.cap (h : RowB w base A n c f) : n ≤ c ∧ c ≤ maxLen := by
  rcases h.2 with ⟨hv, h0⟩ | ⟨b, cap, cur, hv, _, _, hc, hm, _⟩
  · simp only [Value.slice.injEq] at hv; obtain ⟨_, rfl, rfl⟩ := hv; exact ⟨Nat.le_refl _, Nat.zero_le _⟩
  · simp only [Value.slice.injEq] at hv; obtain ⟨_, _, rfl⟩ := hv; exact ⟨hc, hm⟩
theorem RowB.kept {row : Option Nat} (h : RowB w base A n c f) (hg : w.grownBy w' row) (hne : row = none ∨ ∀ b, row = some b → b < base ∨ w.heap.size ≤ b) : RowB w' base A n c f := by
  refine World.ownsRow.kept h hg ?_
  cases hb : (Value.slice A n c).ownBlock with
  | none => exact .inl rfl
  | some b =>
    right
    have := World.ownsRow.lt h b hb
    rcases hne with rfl | hne
    · simp
    · intro e
      have := hne b e.symm
      omega
theorem RowB.below {B : Nat} (h : RowB w base A n c f) (hb : Below B w w') (hB : w.heap.size ≤ B) : RowB w' base A n c f :=
  h.kept (row := none) ⟨hb.os, hb.tape, hb.output, hb.size, fun k hk _ => hb.block k (by omega)⟩ (.inl rfl)
theorem RowB.drewN (h : RowB w base A n c f) (k : Nat) : RowB (w.drewN k) base A n c f := h
theorem RowB.drew (h : RowB w base A n c f) : RowB w.drew base A n c f := h
theorem RowB.alloc (h : RowB w base A n c f) (o : Obj) : RowB (w.alloc o) base A n c f := h.kept (World.grownBy_alloc w o none) (.inl rfl)
theorem RowB.congr (h : RowB w base A n c f) (e : ∀ i, i < n → f i = g i) : RowB w base A n c g := by
  unfold RowB at h ⊢
  rw [← bvals_congr e]
  exact h
theorem RowB.mono {base' : Nat} (h : RowB w base A n c f) (hb : base' ≤ base) : RowB w base' A n c f := by
  refine ⟨h.1, ?_⟩
  rcases h.2 with h' | ⟨b, cap, cur, hv, hbb, r⟩
  · exact .inl h'
  · exact .inr ⟨b, cap, cur, hv, Nat.le_trans hb hbb, r⟩
theorem RowB.set {b k : Nat} (h : RowB w base (some ⟨b, 0, none⟩) n c f) (v : Bool) :
    RowB (w.setCell ⟨b, k, none⟩ (.bool v)) base (some ⟨b, 0, none⟩) n c (updB f k v) ∧ w.grownBy (w.setCell ⟨b, k, none⟩ (.bool v)) (some b) := by
  have := World.ownsRow.stored h k (.bool v)
  rw [bvals_set] at this
  exact this
theorem RowB.frozen {b : Nat} (h : RowB w base (some ⟨b, 0, none⟩) n c f) (k : Nat) : w.frozen? ⟨b, k, none⟩ = false := World.ownsRow.frozenAt h k
theorem RowB.cell {b k : Nat} (h : RowB w base (some ⟨b, 0, none⟩) n c f) (hk : k < n) : w.cell? ⟨b, k, none⟩ = some (.bool (f k)) := by
  rw [World.ownsRow.cellAt h k (by omega), bvals_get hk]
theorem RowB.lt {b : Nat} (h : RowB w base (some ⟨b, 0, none⟩) n c f) : base ≤ b ∧ b < w.heap.size := World.ownsRow.lt h b rfl
theorem RowB.own (h : RowB w base A n c f) : ∀ b, (Value.slice A n c).ownBlock = some b → base ≤ b := fun b hb => (World.ownsRow.lt h b hb).1
theorem RowB.nil (w : World) (base : Nat) (f : Nat → Bool) : RowB w base none 0 0 f := by
  unfold RowB
  simpa [bvals] using World.ownsRow_nil w base 4 1
end

/-- '[]int' written out without an element. -/
theorem RowB.empty {w : World} {base : Nat} (f : Nat → Bool) (hb : base ≤ w.heap.size) : RowB (w.alloc (.cells #[] 4)) base (some ⟨w.heap.size, 0, none⟩) 0 0 f := by
  have h := World.ownsRow_lit (e := 4) (size := 1) (base := base) w #[] 0 hb (Nat.zero_le _) (by simp)
  simpa [RowB, bvals] using h
theorem RowB.emptyAt {w : World} {base g : Nat} (f : Nat → Bool) (hg : g = w.heap.size) (hb : base ≤ w.heap.size) : RowB (w.alloc (.cells #[] 4)) base (some ⟨g, 0, none⟩) 0 0 f := by
  subst hg; exact RowB.empty f hb
/-- f, and X behind its first n numbers. -/
def snocB (f : Nat → Bool) (n : Nat) (X : Bool) (i : Nat) : Bool := if i < n then f i else X
theorem snocB_lo {f : Nat → Bool} {n i : Nat} {X : Bool} (h : i < n) : snocB f n X i = f i := by simp [snocB, h]
theorem snocB_at (f : Nat → Bool) (n : Nat) (X : Bool) : snocB f n X n = X := by simp [snocB]
theorem bvals_snocB (f : Nat → Bool) (n : Nat) (X : Bool) : bvals (snocB f n X) (n + 1) = bvals f n ++ [.bool X] := by
  rw [bvals_succ, snocB_at, bvals_congr (g := f) fun i hi => snocB_lo hi]
/-- f, and g behind its first n numbers. -/
def catB (f : Nat → Bool) (n : Nat) (g : Nat → Bool) (i : Nat) : Bool := if i < n then f i else g (i - n)
theorem catB_lo {f g : Nat → Bool} {n i : Nat} (h : i < n) : catB f n g i = f i := by simp [catB, h]
theorem catB_hi {f g : Nat → Bool} {n i : Nat} (h : n ≤ i) : catB f n g i = g (i - n) := by simp [catB, Nat.not_lt.2 h]
theorem bvals_cat (f : Nat → Bool) (n : Nat) (g : Nat → Bool) (m : Nat) : bvals (catB f n g) (n + m) = bvals f n ++ bvals g m := by
  apply List.ext_getElem?
  intro i
  by_cases h : i < n
  · rw [bvals_get (by omega), catB_lo h, List.getElem?_append_left (by rw [bvals_length]; exact h), bvals_get h]
  · rw [List.getElem?_append_right (by rw [bvals_length]; omega), bvals_length]
    by_cases h' : i < n + m
    · rw [bvals_get h', catB_hi (by omega), bvals_get (by omega)]
    · rw [List.getElem?_eq_none (by rw [bvals_length]; omega), List.getElem?_eq_none (by rw [bvals_length]; omega)]
theorem row_shapeB {w : World} {base : Nat} {v : Value} {n : Nat} {xs : List Value} (h : w.ownsRow base 4 1 v n xs) : ∃ A c, v = .slice A n c := by
  rcases h.2 with ⟨rfl, rfl⟩ | ⟨b, cap, cur, rfl, _⟩
  · exact ⟨_, _, rfl⟩
  · exact ⟨_, _, rfl⟩

theorem snocB_self (f : Nat → Bool) (n : Nat) : ∀ i, i < n + 1 → snocB f n (f n) i = f i := by
  intro i hi
  unfold snocB
  split
  · rfl
  · rw [show n = i by omega]

/-- append of one int onto a row of the call's own. -/
theorem append_bool (W : World) {ops : Array Oper} {rest : List Oper} {o : Oper} {a : Act} {Q : Exit → Act → World → Prop} (hg : o.guard = none) (s x : Operand)
    (hop : o.op = Op.call { callee := Callee.builtin Builtin.append, args := #[s, x], argTypes := #[30, 30] }) {base : Nat} {A : Option Addr} {n c : Nat} {f : Nat → Bool}
    (hs : a.eval s = .slice A n c) (hr : RowB W base A n c f) (g : Nat) (X : Bool) (hx : a.eval x = .slice (some ⟨g, 0, none⟩) 1 1) (hcell : W.cell? ⟨g, 0, none⟩ = some (.bool X))
    (hn : n ≤ 1000000000) (hb : base ≤ W.heap.size)
    (hK : ∀ A' c' w', RowB w' base A' (n + 1) c' (snocB f n X) → W.grownBy w' (Value.slice A n c).ownBlock → wpList Tryz.prog ops Q rest (a.put o.dst (.slice A' (n + 1 : Nat) c')) w') : wpList Tryz.prog ops Q (o :: rest) a W := by
  obtain ⟨i0, hi, hz0, hz1, hz2⟩ := info_parts Tryz.infoBool
  refine wpList_append_own W hg s x 30 hop base 4 i0 (.bool false) 1 1 Tryz.underlying30 hi hz0 hz1 hz2 rfl (by decide) _ _ _ hs hr ⟨g, 0, none⟩ 1 1 [.bool X] hx rfl ?_ ?_ (by unfold maxLen; omega) (by omega) hb ?_
  · intro j u hj
    match j, hj with
    | 0, hj => simp at hj; subst hj; simpa [Addr.add] using hcell
  · intro u hu; simp at hu; subst hu; rfl
  · intro v' w' hown hgrow _
    obtain ⟨A', c', rfl⟩ := row_shapeB hown
    exact hK A' c' w' (by unfold RowB; rw [bvals_snocB]; exact hown) hgrow

/-- append of a slice of ints onto a row of the call's own. -/
theorem append_bools (W : World) {ops : Array Oper} {rest : List Oper} {o : Oper} {a : Act} {Q : Exit → Act → World → Prop} (hg : o.guard = none) (s x : Operand)
    (hop : o.op = Op.call { callee := Callee.builtin Builtin.append, args := #[s, x], argTypes := #[30, 30] }) {base B : Nat} {A A2 : Option Addr} {n c m c2 : Nat} {f f2 : Nat → Bool}
    (hs : a.eval s = .slice A n c) (hr : RowB W base A n c f) (hx : a.eval x = .slice A2 m c2) (hr2 : Bools W B A2 m f2) (hc2 : A2 = none → c2 = 0)
    (hn : n + m ≤ 1000000000) (hb : base ≤ W.heap.size)
    (hK : ∀ A' c' w', RowB w' base A' (n + m) c' (catB f n f2) → W.grownBy w' (Value.slice A n c).ownBlock → wpList Tryz.prog ops Q rest (a.put o.dst (.slice A' (n + m : Nat) c')) w') : wpList Tryz.prog ops Q (o :: rest) a W := by
  obtain ⟨i0, hi, hz0, hz1, hz2⟩ := info_parts Tryz.infoBool
  cases A2 with
  | none =>
    have hm : m = 0 := by
      rcases Nat.eq_zero_or_pos m with h0 | h0
      · exact h0
      · obtain ⟨b, off, h, _⟩ := hr2 h0
        cases h
    subst hm
    rw [hc2 rfl] at hx
    refine wpList_append_own_none hg s x 30 hop base 4 i0 1 Tryz.underlying30 hi _ _ _ hs hr hx ?_
    exact hK A c W (hr.congr fun i hi => (catB_lo hi).symm) (World.grownBy.refl _ _)
  | some ad =>
    refine wpList_append_own W hg s x 30 hop base 4 i0 (.bool false) 1 1 Tryz.underlying30 hi hz0 hz1 hz2 rfl (by decide) _ _ _ hs hr ad m c2 (bvals f2 m) hx (by rw [bvals_length, Nat.mul_one]) ?_ bvals_one (by unfold maxLen; omega) (by omega) hb ?_
    · intro j u hj
      have hjm : j < m := by
        rcases Nat.lt_or_ge j m with h | h
        · exact h
        · rw [List.getElem?_eq_none (by rw [bvals_length]; omega)] at hj; cases hj
      obtain ⟨b, off, h, _, hc⟩ := hr2 (by omega)
      rw [bvals_get hjm] at hj
      cases h
      rw [← hj, Addr.add_lit]
      exact hc j hjm
    · intro v' w' hown hgrow _
      obtain ⟨A', c', rfl⟩ := row_shapeB hown
      exact hK A' c' w' (by unfold RowB; rw [bvals_cat]; exact hown) hgrow

theorem Bools.grown {w w' : World} {B : Nat} {A : Option Addr} {n : Nat} {f : Nat → Bool} {row : Option Nat} (h : Bools w B A n f) (hg : w.grownBy w' row) (hB : B ≤ w.heap.size) (hr : ∀ b, row = some b → B ≤ b) : Bools w' B A n f :=
  h.keep fun p hp => World.cell?_of_block (hg.block p.block (by omega) (fun e => by have := hr _ e.symm; omega))
theorem RowB.wrote {w w' : World} {base : Nat} {A A' : Option Addr} {n c n' : Nat} {f : Nat → Bool} (h : RowB w base A n c f) (hw : Wrote w w' A' n') (hA : 0 < n' → ∀ b, A' = some ⟨b, 0, none⟩ → b < base) : RowB w' base A n c f := by
  obtain ⟨row, hg, hr⟩ := hw
  exact h.kept hg (.inr fun b e => .inl (hA (hr b e).1 b (hr b e).2))
theorem Bools.wrote {w w' : World} {B : Nat} {A A' : Option Addr} {n n' : Nat} {f : Nat → Bool} (h : Bools w B A n f) (hw : Wrote w w' A' n') (hB : B ≤ w.heap.size) (hA : 0 < n' → ∀ b, A' = some ⟨b, 0, none⟩ → B ≤ b) : Bools w' B A n f := by
  obtain ⟨row, hg, hr⟩ := hw
  exact h.grown hg hB fun b e => hA (hr b e).1 b (hr b e).2

/-- Where a row lies. -/
theorem RowB.lies {w : World} {base : Nat} {A : Option Addr} {n c : Nat} {f : Nat → Bool} (h : RowB w base A n c f) : 0 < n → ∀ b, A = some ⟨b, 0, none⟩ → base ≤ b ∧ b < w.heap.size := by
  intro hn b e
  obtain ⟨b', e', h1, h2⟩ := h.form hn
  rw [e] at e'
  have : b = b' := by simpa using e'
  subst this
  exact ⟨h1, h2⟩

/-- The numbers of two slices are the same. -/
def eqPb (f g : Nat → Bool) (i : Nat) : Bool := f i == g i
def eqBb (f : Nat → Bool) (n : Nat) (g : Nat → Bool) (m : Nat) : Bool := n == m && allB (eqPb f g) n
theorem eqBb_iff {f : Nat → Bool} {n : Nat} {g : Nat → Bool} {m : Nat} : eqBb f n g m = true ↔ n = m ∧ ∀ i, i < n → f i = g i := by
  simp [eqBb, allB_iff, eqPb]
theorem eqBb_refl (f : Nat → Bool) (n : Nat) : eqBb f n f n = true := eqBb_iff.2 ⟨rfl, fun _ _ => rfl⟩

theorem eqBoolS_any {w : World} {B B' : Nat} {A A' : Option Addr} {n m c c' : Nat} {f g : Nat → Bool} (hn : n ≤ 9223372036854775806) (hs : Bools w B A n f) (hs' : Bools w B' A' m g) :
    Calls Tryz.prog 117 #[.slice A n c, .slice A' m c'] w fun e w' => e = .returned (.bool (eqBb f n g m)) ∧ Drew w w' := by
  by_cases hnm : n = m
  · subst hnm
    go_enter Tryz.func117, Tryz.ntmps117
    go_wp2
    go_loopw [5] (fun s5 wr => ∃ k : Nat, k ≤ n ∧ s5 = .int .i64 k ∧ Hid (allB (eqPb f g) k = true) ∧ Drew w wr) (fun s5 _ => n - (intOf s5).toNat)
    case atStart => exact ⟨0, Nat.zero_le _, rfl, rfl, Drew.refl _⟩
    case round =>
      obtain ⟨k, hk, rfl, HK, m, rfl⟩ := hrel
      by_cases hlt : k < n
      · obtain ⟨b, off, rfl, _, hc⟩ := hs (by omega)
        obtain ⟨b', off', rfl, _, hc'⟩ := hs' (by omega)
        have c0 := hc k hlt
        have c1 := hc' k hlt
        clear hc hs hc' hs'
        by_cases h1 : f k = g k
        · have HN := Lib.hid (show eqPb f g k = true by simp [eqPb, h1])
          have he : (f k == g k) = true := by simp [h1]
          clear h1
          go_wp2
          go_quiet (fail)
          go_wp2
          go_roundw
          case rel => exact ⟨k + 1, by omega, by go_num, allB_succ HK.out HN.out, by first | exact ⟨_, rfl⟩ | exact ⟨_, World.drewN_drewN _ _ _⟩⟩
          case measure => simp [intOf]; omega
        · have HN := Lib.hid (show eqPb f g k = false by simp [eqPb, h1])
          have he : (f k == g k) = false := by simp [h1]
          clear h1
          go_wp2
          go_quiet (fail)
          go_wp2
          go_ret
          exact ⟨ret_bool (by simp [eqBb, allB_no hlt HN.out]), (Drew.refl _).n _ |>.n _⟩
      · obtain rfl : k = n := by omega
        go_wp2
        go_ret
        exact ⟨ret_bool (by simp [eqBb, HK.out]), (Drew.refl _).n _⟩
  · have he : ((n : Int) == (m : Int)) = false := by simp; omega
    have HN := Lib.hid (show eqBb f n g m = false by simp [eqBb, hnm])
    clear hnm
    go_enter Tryz.func117, Tryz.ntmps117
    go_wp2
    go_ret
    exact ⟨ret_bool HN.out.symm, Drew.refl _⟩
theorem sameBools_any {w : World} {B B' : Nat} {A A' : Option Addr} {n m c c' : Nat} {f g : Nat → Bool} (hn : n ≤ 9223372036854775806) (hs : Bools w B A n f) (hs' : Bools w B' A' m g) :
    Calls Tryz.prog 87 #[.slice A n c, .slice A' m c'] w fun e w' => e = .returned (.bool (eqBb f n g m)) ∧ Drew w w' := by
  by_cases hnm : n = m
  · subst hnm
    go_enter Tryz.func87, Tryz.ntmps87
    go_wp2
    go_loopw [5] (fun s5 wr => ∃ k : Nat, k ≤ n ∧ s5 = .int .i64 k ∧ Hid (allB (eqPb f g) k = true) ∧ Drew w wr) (fun s5 _ => n - (intOf s5).toNat)
    case atStart => exact ⟨0, Nat.zero_le _, rfl, rfl, Drew.refl _⟩
    case round =>
      obtain ⟨k, hk, rfl, HK, m, rfl⟩ := hrel
      by_cases hlt : k < n
      · obtain ⟨b, off, rfl, _, hc⟩ := hs (by omega)
        obtain ⟨b', off', rfl, _, hc'⟩ := hs' (by omega)
        have c0 := hc k hlt
        have c1 := hc' k hlt
        clear hc hs hc' hs'
        by_cases h1 : f k = g k
        · have HN := Lib.hid (show eqPb f g k = true by simp [eqPb, h1])
          have he : (f k == g k) = true := by simp [h1]
          clear h1
          go_wp2
          go_quiet (fail)
          go_wp2
          go_roundw
          case rel => exact ⟨k + 1, by omega, by go_num, allB_succ HK.out HN.out, by first | exact ⟨_, rfl⟩ | exact ⟨_, World.drewN_drewN _ _ _⟩⟩
          case measure => simp [intOf]; omega
        · have HN := Lib.hid (show eqPb f g k = false by simp [eqPb, h1])
          have he : (f k == g k) = false := by simp [h1]
          clear h1
          go_wp2
          go_quiet (fail)
          go_wp2
          go_ret
          exact ⟨ret_bool (by simp [eqBb, allB_no hlt HN.out]), (Drew.refl _).n _ |>.n _⟩
      · obtain rfl : k = n := by omega
        go_wp2
        go_ret
        exact ⟨ret_bool (by simp [eqBb, HK.out]), (Drew.refl _).n _⟩
  · have he : ((n : Int) == (m : Int)) = false := by simp; omega
    have HN := Lib.hid (show eqBb f n g m = false by simp [eqBb, hnm])
    clear hnm
    go_enter Tryz.func87, Tryz.ntmps87
    go_wp2
    go_ret
    exact ⟨ret_bool HN.out.symm, Drew.refl _⟩
theorem toBoolS_any {w : World} {B : Nat} {A : Option Addr} {n c : Nat} {f : Nat → Bool} (hn : n ≤ 17592186044415) (hB : B ≤ w.heap.size) (hs : Bools w B A n f) :
    Calls Tryz.prog 114 #[.slice A n c] w fun e w' => ∃ A' c', e = .returned (.slice A' n c') ∧ RowB w' w.heap.size A' n c' f ∧ Below w.heap.size w w' := by
  obtain ⟨i0, hi, hz0, hz1, hz2⟩ := info_parts Tryz.infoBool
  go_enter Tryz.func114, Tryz.ntmps114
  go_wp2_with (at_make; refine wpList_make_full _ rfl _ _ 30 rfl w.heap.size 4 i0 (.bool false) 1 Tryz.underlying30 hi hz0 hz1 _ _ _ _ n rfl rfl rfl rfl (by rw [hz2]; omega) (by unfold maxLen; omega) (Nat.le_refl _) ?_; intro w1 hown hgrow)
  have hrow0 : RowB w1 w.heap.size (some ⟨w.heap.size, 0, none⟩) n n (fun _ => false) := by
    unfold RowB
    rw [← bvals_made]
    exact hown
  have hb0 := (Below.refl w.heap.size w).grown hgrow (Nat.le_refl _) (by intro k hk; cases hk)
  clear hown hgrow hi hz0 hz1 hz2
  have HS := Lib.hid hs
  clear hs
  go_wp2
  go_loopw [4] (fun s4 wr => ∃ k : Nat, k ≤ n ∧ s4 = .int .i64 k ∧ RowB wr w.heap.size (some ⟨w.heap.size, 0, none⟩) n n (fun i => if i < k then f i else false) ∧ Below w.heap.size w wr) (fun s4 _ => n - (intOf s4).toNat)
  case atStart => exact ⟨0, Nat.zero_le _, rfl, hrow0.congr fun i hi => by simp, hb0⟩
  case round =>
    obtain ⟨k, hk, rfl, hr, hb⟩ := hrel
    clear hrow0 hb0
    by_cases hlt : k < n
    · obtain ⟨b, off, rfl, hbB, hc⟩ := HS.out (by omega)
      have c0 := (hb.cell (p := ⟨b, off + k, none⟩) (by simp; omega)).trans (hc k hlt)
      have c1 := hr.cell hlt
      have c2 := hr.frozen k
      have hnext := hr.set (k := k) (f k)
      have hr2 := hnext.1.congr (g := fun i => if i < k + 1 then f i else false) (fun i hi => by
        unfold updB
        by_cases e : i = k
        · subst e; simp
        · have : (i < k + 1) = (i < k) := by simp; omega
          simp [e, this])
      have HR := Lib.hid hr2
      have HB := Lib.hid (hb.setCell (p := ⟨w.heap.size, k, none⟩) (Nat.le_refl _) (.bool (f k)))
      clear hr hb hnext hr2 HS hc
      go_wp2
      go_roundw
      case rel => exact ⟨k + 1, by omega, by go_num, HR.out, HB.out⟩
      case measure => simp [intOf]; omega
    · obtain rfl : k = n := by omega
      have HR := Lib.hid (hr.congr (g := f) (fun i hi => by simp [hi]))
      clear hr
      go_wp2
      go_ret
      exact ⟨_, _, rfl, HR.out, hb⟩
end Go.Proofs.YthkpikkjgggimaaGreatDoor

namespace Go.Proofs.YthkpikkjgggimaaGreatDoor
open Go.RowKit
set_option linter.unusedVariables false
set_option linter.unusedSimpArgs false

/-- Block g is a box of the cells xs, which may be written. -/
def Bx (w : World) (g : Nat) (xs : Array Value) : Prop := ∃ T, w.heap[g]? = some (.cells xs T (0, 0))
theorem Bx.cells {w : World} {g : Nat} {xs : Array Value} (h : Bx w g xs) : ∀ o, w.cell? ⟨g, o, none⟩ = xs[o]? := by
  obtain ⟨T, h⟩ := h
  intro o
  exact cell_of_row w g o xs T (0, 0) h
theorem Bx.free {w : World} {g : Nat} {xs : Array Value} (h : Bx w g xs) : ∀ o, w.frozen? ⟨g, o, none⟩ = false := by
  obtain ⟨T, h⟩ := h
  intro o
  simp [World.frozen?, h]
theorem Bx.lt {w : World} {g : Nat} {xs : Array Value} (h : Bx w g xs) : g < w.heap.size := by
  obtain ⟨T, h⟩ := h
  rcases Nat.lt_or_ge g w.heap.size with hlt | hge
  · exact hlt
  · rw [Array.getElem?_eq_none hge] at h; cases h
theorem Bx.new (w : World) (xs : Array Value) (T : TypeId) : Bx (w.alloc (.cells xs T)) w.heap.size xs := ⟨T, by show (w.heap.push _)[w.heap.size]? = _; simp⟩
theorem Bx.below {w w' : World} {B g : Nat} {xs : Array Value} (h : Bx w g xs) (hb : Below B w w') (hB : g < B) : Bx w' g xs := by
  obtain ⟨T, h⟩ := h
  exact ⟨T, (hb.block g hB).trans h⟩
theorem Bx.drewN {w : World} {g : Nat} {xs : Array Value} (h : Bx w g xs) (k : Nat) : Bx (w.drewN k) g xs := h
theorem Bx.alloc {w : World} {g : Nat} {xs : Array Value} (h : Bx w g xs) (o : Obj) : Bx (w.alloc o) g xs := h.below ((Below.refl w.heap.size w).alloc (Nat.le_refl _) o) h.lt
theorem Bx.set {w : World} {g : Nat} {xs : Array Value} (h : Bx w g xs) (i : Nat) (v : Value) : Bx (w.setCell ⟨g, i, none⟩ v) g (xs.setIfInBounds i v) := by
  obtain ⟨T, h⟩ := h
  refine ⟨T, ?_⟩
  simp [World.setCell, Array.getElem?_modify, h]
theorem Bx.far {w : World} {g : Nat} {xs : Array Value} (h : Bx w g xs) (p : Addr) (v : Value) (hp : p.block ≠ g) : Bx (w.setCell p v) g xs := by
  obtain ⟨T, h⟩ := h
  exact ⟨T, (Below.heap_setCell _ _ _ _ (by intro e; exact hp e.symm)).trans h⟩
/-- A call of a function that makes a box of its argument and leaves all else: what was below it is as it was. -/
theorem boxed {w w' : World} {o : Obj} (h : Below (w.alloc o).heap.size (w.alloc o) w') : Below w.heap.size w w' :=
  ((Below.refl w.heap.size w).alloc (Nat.le_refl _) o).trans (h.mono (by simp))
theorem box_kept {w w' : World} {xs : Array Value} {T : TypeId} (h : Below (w.alloc (.cells xs T)).heap.size (w.alloc (.cells xs T)) w') : Bx w' w.heap.size xs :=
  (Bx.new w xs T).below h (by simp)
theorem box_size {w w' : World} {o : Obj} (h : Below (w.alloc o).heap.size (w.alloc o) w') : w.heap.size < w'.heap.size := by
  have := h.size; simp at this; omega

theorem boxes2 {w w' : World} {P R : Array Value} {T T' : TypeId} (h : Below ((w.alloc (.cells P T)).alloc (.cells R T')).heap.size ((w.alloc (.cells P T)).alloc (.cells R T')) w') :
    Bx w' w.heap.size P ∧ Bx w' (w.heap.size + 1) R ∧ Below w.heap.size w w' ∧ w.heap.size + 2 ≤ w'.heap.size := by
  have h1 := Bx.new (w.alloc (.cells P T)) R T'
  rw [show (w.alloc (.cells P T)).heap.size = w.heap.size + 1 by simp] at h1
  refine ⟨((Bx.new w P T).alloc _).below h (by simp <;> omega), h1.below h (by simp), ?_, by have := h.size; simp at this; omega⟩
  exact ((Below.refl w.heap.size w).alloc (Nat.le_refl _) _).alloc (by simp) _ |>.trans (h.mono (by simp <;> omega))
theorem boxes3 {w w' : World} {P R O : Array Value} {T T' T2 : TypeId} (h : Below (((w.alloc (.cells P T)).alloc (.cells R T')).alloc (.cells O T2)).heap.size (((w.alloc (.cells P T)).alloc (.cells R T')).alloc (.cells O T2)) w') :
    Bx w' w.heap.size P ∧ Bx w' (w.heap.size + 1) R ∧ Bx w' (w.heap.size + 1 + 1) O ∧ Below w.heap.size w w' ∧ w.heap.size + 3 ≤ w'.heap.size := by
  have h1 := Bx.new (w.alloc (.cells P T)) R T'
  rw [show (w.alloc (.cells P T)).heap.size = w.heap.size + 1 by simp] at h1
  have h2 := Bx.new ((w.alloc (.cells P T)).alloc (.cells R T')) O T2
  rw [show ((w.alloc (.cells P T)).alloc (.cells R T')).heap.size = w.heap.size + 2 by simp] at h2
  refine ⟨(((Bx.new w P T).alloc _).alloc _).below h (by simp <;> omega), (h1.alloc _).below h (by simp <;> omega), h2.below h (by simp), ?_, by have := h.size; simp at this; omega⟩
  exact (((Below.refl w.heap.size w).alloc (Nat.le_refl _) _).alloc (by simp) _).alloc (by simp <;> omega) _ |>.trans (h.mono (by simp <;> omega))

theorem stepValid_any (a : Int) (w : World) : Calls Tryz.prog 125 #[.int .i64 a] w fun e w' => e = .returned (.bool (inB a 0 60)) ∧ w = w' := by
  by_cases h1 : a < 0
  · go_enter Tryz.func125, Tryz.ntmps125
    go_wp2
    go_ret
    exact ⟨ret_bool (by rw [Bool.eq_iff_iff, inB_iff]; simp; omega), rfl⟩
  · by_cases h2 : a ≤ 60
    all_goals
      go_enter Tryz.func125, Tryz.ntmps125
      go_wp2
      go_ret
      exact ⟨ret_bool (by rw [Bool.eq_iff_iff, inB_iff]; simp; omega), rfl⟩
theorem isFloor_any (a : Int) (n : Nat) (w : World) : Calls Tryz.prog 79 #[.int .i64 a, .int .i64 n] w fun e w' => e = .returned (.bool (inB a 0 ((n : Int) - 1))) ∧ w = w' := by
  by_cases h1 : a < 0
  · go_enter Tryz.func79, Tryz.ntmps79
    go_wp2
    go_ret
    exact ⟨ret_bool (by rw [Bool.eq_iff_iff, inB_iff]; simp; omega), rfl⟩
  · by_cases h2 : a < (n : Int)
    all_goals
      go_enter Tryz.func79, Tryz.ntmps79
      go_wp2
      go_ret
      exact ⟨ret_bool (by rw [Bool.eq_iff_iff, inB_iff]; simp; omega), rfl⟩

theorem impl_MotionValid (a s : Int) (w : World) : Calls Tryz.prog 120 #[.agg #[.int .i64 a, .int .i64 s]] w fun e w' => e = .returned (.bool (motionB a s)) ∧ Below w.heap.size w w' := by
  have HB := Lib.hid ((Below.refl w.heap.size w).alloc (Nat.le_refl _) (.cells #[.int .i64 a, .int .i64 s] 25))
  cases h : inB a 0 60
  · go_enter Tryz.func120, Tryz.ntmps120
    go_wp2_with fail
    refine (stepValid_any a _).mono ?_
    rintro e w1 ⟨rfl, rfl⟩
    go_wp2
    go_ret
    exact ⟨ret_bool (by simp [motionB, h]), HB.out⟩
  · by_cases h1 : -5 ≤ s
    · by_cases h2 : s ≤ 5
      all_goals
        go_enter Tryz.func120, Tryz.ntmps120
        go_wp2_with fail
        refine (stepValid_any a _).mono ?_
        rintro e w1 ⟨rfl, rfl⟩
        go_wp2
        go_ret
        exact ⟨ret_bool (by rw [Bool.eq_iff_iff]; simp [motionB, h, inB_iff]; omega), HB.out⟩
    · go_enter Tryz.func120, Tryz.ntmps120
      go_wp2_with fail
      refine (stepValid_any a _).mono ?_
      rintro e w1 ⟨rfl, rfl⟩
      go_wp2
      go_ret
      exact ⟨ret_bool (by rw [Bool.eq_iff_iff]; simp [motionB, h, inB_iff]; omega), HB.out⟩

theorem impl_DoorValid (g h : Int) (w : World) : Calls Tryz.prog 121 #[.agg #[.int .i64 g, .int .i64 h]] w fun e w' => e = .returned (.bool (doorB g h)) ∧ Below w.heap.size w w' := by
  have HB := Lib.hid ((Below.refl w.heap.size w).alloc (Nat.le_refl _) (.cells #[.int .i64 g, .int .i64 h] 27))
  by_cases h1 : g < 0
  · go_enter Tryz.func121, Tryz.ntmps121
    go_wp2
    go_ret
    exact ⟨ret_bool (by rw [Bool.eq_iff_iff, doorB_iff]; simp; omega), HB.out⟩
  · by_cases h2 : 4 < g
    · go_enter Tryz.func121, Tryz.ntmps121
      go_wp2
      go_ret
      exact ⟨ret_bool (by rw [Bool.eq_iff_iff, doorB_iff]; simp; omega), HB.out⟩
    · by_cases h3 : h < 0
      · go_enter Tryz.func121, Tryz.ntmps121
        go_wp2
        go_ret
        exact ⟨ret_bool (by rw [Bool.eq_iff_iff, doorB_iff]; simp; omega), HB.out⟩
      · by_cases h4 : 3 < h
        · go_enter Tryz.func121, Tryz.ntmps121
          go_wp2
          go_ret
          exact ⟨ret_bool (by rw [Bool.eq_iff_iff, doorB_iff]; simp; omega), HB.out⟩
        · cases h5 : (h == 0)
          all_goals
            go_enter Tryz.func121, Tryz.ntmps121
            go_wp2
            go_ret
            exact ⟨ret_bool (by rw [Bool.eq_iff_iff, doorB_iff]; simp at h5 ⊢; omega), HB.out⟩
end Go.Proofs.YthkpikkjgggimaaGreatDoor

namespace Go.Proofs.YthkpikkjgggimaaGreatDoor
open Go.RowKit
set_option linter.unusedVariables false
set_option linter.unusedSimpArgs false

theorem spec_MotionValid (a s : Int) (w : World) : Calls Tryz.prog 90 #[.agg #[.int .i64 a, .int .i64 s]] w fun e w' => e = .returned (.bool (motionB a s)) ∧ Below w.heap.size w w' := by
  have HB := Lib.hid ((Below.refl w.heap.size w).alloc (Nat.le_refl _) (.cells #[.int .i64 a, .int .i64 s] 25))
  cases h : inB a 0 60
  all_goals
    go_enter Tryz.func90, Tryz.ntmps90
    go_wp2_with (go_at_call 40; refine (l1In_any _ _ _ _).mono ?_; rintro e w1 ⟨rfl, rfl⟩)
    go_ret
    exact ⟨ret_bool (by simp [motionB, h]), HB.out⟩

theorem spec_DoorValid (g h : Int) (w : World) : Calls Tryz.prog 91 #[.agg #[.int .i64 g, .int .i64 h]] w fun e w' => e = .returned (.bool (doorB g h)) ∧ Below w.heap.size w w' := by
  have HB := Lib.hid ((Below.refl w.heap.size w).alloc (Nat.le_refl _) (.cells #[.int .i64 g, .int .i64 h] 27))
  cases h1 : inB g 0 4
  · go_enter Tryz.func91, Tryz.ntmps91
    go_wp2_with (go_at_call 40; refine (l1In_any _ _ _ _).mono ?_; rintro e w1 ⟨rfl, rfl⟩)
    go_ret
    exact ⟨ret_bool (by simp [doorB, h1]), HB.out⟩
  · cases h2 : inB h 0 3
    · go_enter Tryz.func91, Tryz.ntmps91
      go_wp2_with (go_at_call 40; refine (l1In_any _ _ _ _).mono ?_; rintro e w1 ⟨rfl, rfl⟩)
      go_ret
      exact ⟨ret_bool (by simp [doorB, h1, h2]), HB.out⟩
    · cases h3 : (h == 0)
      all_goals
        go_enter Tryz.func91, Tryz.ntmps91
        go_wp2_with (go_at_call 40; refine (l1In_any _ _ _ _).mono ?_; rintro e w1 ⟨rfl, rfl⟩)
        go_ret
        exact ⟨ret_bool (by simp only [doorB, h1, h2]; simp at h3; simp [h3] <;> (rw [Bool.eq_iff_iff]; simp)), HB.out⟩

theorem standingFloor_any {w : World} {B : Nat} {A : Option Addr} {n c : Nat} {f : Nat → Int} (pos sp : Int) (hn : n ≤ 9223372036854775806) (hB : B ≤ w.heap.size) (hs : Ints w B A n f) :
    Calls Tryz.prog 78 #[.slice A n c, .agg #[.int .i64 pos, .int .i64 sp]] w fun e w' => e = .returned (.int .i64 (standF f n pos sp)) ∧ Below w.heap.size w w' := by
  have HB := Lib.hid ((Below.refl w.heap.size w).alloc (Nat.le_refl _) (.cells #[.int .i64 pos, .int .i64 sp] 25))
  have HS := Lib.hid (hs.alloc hB (.cells #[.int .i64 pos, .int .i64 sp] 25))
  clear hs
  by_cases h : sp = 0
  · have h1 : (sp != 0) = false := by simp [h]
    have HN : Hid (floorAtOf f n pos = standF f n pos sp) := Lib.hid (by simp [standF, h])
    clear h
    go_enter Tryz.func78, Tryz.ntmps78
    go_wp2_with fail
    refine (impl_FloorAt pos hn HS.out).mono ?_
    rintro e w1 ⟨rfl, j, rfl⟩
    go_wp2
    go_ret
    exact ⟨ret_int HN.out, below_drewN HB.out j⟩
  · have h1 : (sp != 0) = true := by simp [h]
    have HN : Hid (-1 = standF f n pos sp) := Lib.hid (by simp [standF, h])
    clear h
    go_enter Tryz.func78, Tryz.ntmps78
    go_wp2
    go_ret
    exact ⟨ret_int HN.out, HB.out⟩

set_option maxHeartbeats 800000 in
theorem spec_FloorAt {w : World} {B : Nat} {A : Option Addr} {n c : Nat} {f : Nat → Int} (a : Int) (hn : n ≤ 9223372036854775806) (hs : Ints w B A n f) :
    Calls Tryz.prog 88 #[.slice A n c, .int .i64 a] w fun e w' => e = .returned (.int .i64 (floorAtOf f n a)) ∧ Drew w w' := by
  have HS : Hid (∀ j, Ints (w.drewN j) B A n f) := Lib.hid (fun j => hs.drewN j)
  cases hv : floorsB f n
  · have HN := Lib.hid (floorAt_no (a := a) hv)
    go_enter Tryz.func88, Tryz.ntmps88
    go_wp2
    go_loopw [5] (fun s5 wr => s5 = .int .i64 0 ∧ wr = w) (fun _ _ => 0)
    case atStart => exact ⟨rfl, rfl⟩
    case round =>
      obtain ⟨rfl, rfl⟩ := hrel
      by_cases h0 : 0 < n
      · go_wp2_with (go_at_call 89; refine (spec_FloorsValid hn hs).mono ?_; rintro e w' ⟨rfl, m, rfl⟩)
        go_ret
        exact ⟨ret_int HN.out.symm, _, rfl⟩
      · obtain rfl : n = 0 := by omega
        go_wp2
        go_ret
        exact ⟨ret_int HN.out.symm, Drew.refl _⟩
  · have HV := Lib.hid hv
    go_enter Tryz.func88, Tryz.ntmps88
    go_wp2
    go_loopw [5] (fun s5 wr => ∃ k : Nat, k ≤ n ∧ s5 = .int .i64 k ∧ Hid (∀ i, i < k → heightP f a i = false) ∧ Drew w wr) (fun s5 _ => n - (intOf s5).toNat)
    case atStart => exact ⟨0, Nat.zero_le _, rfl, fun i hi => absurd hi (by omega), Drew.refl _⟩
    case round =>
      obtain ⟨k, hk, rfl, HK, j, rfl⟩ := hrel
      by_cases hlt : k < n
      · obtain ⟨b, off, rfl, _, hc⟩ := hs (by omega)
        have c0 := hc k hlt
        clear hc hs
        cases he : (f k == a)
        · have HN : Hid (∀ i, i < k + 1 → heightP f a i = false) := fun i hi => by
            by_cases e : i = k
            · subst e; exact he
            · exact HK.out i (by omega)
          go_wp2_with (go_at_call 89; refine (spec_FloorsValid hn (HS.out _)).mono ?_; rintro e w' ⟨rfl, m, rfl⟩)
          go_roundw
          case rel => exact ⟨k + 1, by omega, by go_num, HN.out, by first | exact ⟨_, rfl⟩ | exact ⟨_, World.drewN_drewN _ _ _⟩⟩
          case measure => simp [intOf]; omega
        · have HN := Lib.hid (floorAt_hit HV.out hlt he HK.out)
          go_wp2_with (go_at_call 89; refine (spec_FloorsValid hn (HS.out _)).mono ?_; rintro e w' ⟨rfl, m, rfl⟩)
          go_ret
          exact ⟨ret_int HN.out.symm, by first | exact ⟨_, rfl⟩ | exact ⟨_, World.drewN_drewN _ _ _⟩⟩
      · obtain rfl : k = n := by omega
        have HN := Lib.hid (floorAt_none HK.out)
        go_wp2
        go_ret
        exact ⟨ret_int HN.out.symm, _, rfl⟩

set_option maxHeartbeats 1600000 in
theorem impl_LiftValid {w : World} {B : Nat} {A : Option Addr} {n c : Nat} {f : Nat → Int} (pos sp gap hold : Int) (hn : n ≤ 9223372036854775806) (hB : B ≤ w.heap.size) (hs : Ints w B A n f) :
    Calls Tryz.prog 76 #[.slice A n c, .agg #[.int .i64 pos, .int .i64 sp, .int .i64 gap, .int .i64 hold]] w fun e w' => e = .returned (.bool (liftB f n pos sp gap hold)) ∧ Below w.heap.size w w' := by
  have HX0 := Lib.hid (Bx.new w #[.int .i64 pos, .int .i64 sp, .int .i64 gap, .int .i64 hold] 29)
  have HB0 := Lib.hid ((Below.refl w.heap.size w).alloc (Nat.le_refl _) (.cells #[.int .i64 pos, .int .i64 sp, .int .i64 gap, .int .i64 hold] 29))
  have HS0 := Lib.hid (hs.alloc hB (.cells #[.int .i64 pos, .int .i64 sp, .int .i64 gap, .int .i64 hold] 29))
  clear hs
  go_enter Tryz.func76, Tryz.ntmps76
  go_wp2_with fail
  refine (impl_FloorsValid hn HS0.out).mono ?_
  rintro e w1 ⟨rfl, j, rfl⟩
  have HX1 := Lib.hid (HX0.out.drewN j)
  have HB1 := Lib.hid (below_drewN HB0.out j)
  have HS1 := Lib.hid (HS0.out.drewN j)
  clear HX0 HB0 HS0
  generalize (w.alloc (.cells #[.int .i64 pos, .int .i64 sp, .int .i64 gap, .int .i64 hold] 29)).drewN j = w1 at *
  have hx1 := HX1.out.cells
  cases hf : floorsB f n
  · go_wp2
    go_ret
    exact ⟨ret_bool (by simp [liftB, hf]), HB1.out⟩
  · go_wp2_with fail
    refine (impl_MotionValid pos sp _).mono ?_
    rintro e w2 ⟨rfl, hb2⟩
    have HX2 := Lib.hid (HX1.out.below hb2 HX1.out.lt)
    have HB2 := Lib.hid (HB1.out.trans (hb2.mono HB1.out.size))
    have HS2 := Lib.hid (HS1.out.below (hb2.mono (Nat.le_trans hB HB1.out.size)))
    clear hx1 hb2 HX1 HB1 HS1
    have hx2 := HX2.out.cells
    cases hm : motionB pos sp
    · go_wp2
      go_ret
      exact ⟨ret_bool (by simp [liftB, hm]), HB2.out⟩
    · go_wp2_with fail
      refine (impl_DoorValid gap hold _).mono ?_
      rintro e w3 ⟨rfl, hb3⟩
      have HX3 := Lib.hid (HX2.out.below hb3 HX2.out.lt)
      have HB3 := Lib.hid (HB2.out.trans (hb3.mono HB2.out.size))
      have HS3 := Lib.hid (HS2.out.below (hb3.mono (Nat.le_trans hB HB2.out.size)))
      clear hx2 hb3 HX2 HB2 HS2
      have hx3 := HX3.out.cells
      cases hd : doorB gap hold
      · go_wp2
        go_ret
        exact ⟨ret_bool (by simp [liftB, hd]), HB3.out⟩
      · cases hg : (gap == 0)
        · go_wp2_with fail
          refine (standingFloor_any pos sp hn (Nat.le_trans hB HB3.out.size) HS3.out).mono ?_
          rintro e w4 ⟨rfl, hb4⟩
          have HB4 := Lib.hid (HB3.out.trans (hb4.mono HB3.out.size))
          clear hx3 hb4 HX3 HB3 HS3
          have HN : Hid (decide (0 ≤ standF f n pos sp) = liftB f n pos sp gap hold) := Lib.hid (by simp at hg; simp [liftB, hf, hm, hd, hg])
          generalize standF f n pos sp = S at *
          clear hf hm hd
          go_wp2
          go_ret
          exact ⟨ret_bool HN.out, HB4.out⟩
        · go_wp2
          go_ret
          exact ⟨ret_bool (by simp only [liftB, hf, hm, hd]; simp at hg; simp [hg]), HB3.out⟩
end Go.Proofs.YthkpikkjgggimaaGreatDoor

namespace Go.Proofs.YthkpikkjgggimaaGreatDoor
open Go.RowKit
set_option linter.unusedVariables false
set_option linter.unusedSimpArgs false

theorem toMotion_any (a s : Int) (w : World) : Calls Tryz.prog 112 #[.agg #[.int .i64 a, .int .i64 s]] w fun e w' => e = .returned (.agg #[.int .i64 a, .int .i64 s]) ∧ Below w.heap.size w w' := by
  go_enter Tryz.func112, Tryz.ntmps112
  go_wp2
  refine bodyPost_ret (v := .agg #[.int .i64 a, .int .i64 s]) (by simp [results, Tryz.results112, go_sem]) rfl ⟨rfl, ?_⟩
  repeat (first | exact Below.refl _ _ | (refine Below.alloc ?_ (by simp <;> omega) _))
theorem toDoor_any (a s : Int) (w : World) : Calls Tryz.prog 113 #[.agg #[.int .i64 a, .int .i64 s]] w fun e w' => e = .returned (.agg #[.int .i64 a, .int .i64 s]) ∧ Below w.heap.size w w' := by
  go_enter Tryz.func113, Tryz.ntmps113
  go_wp2
  refine bodyPost_ret (v := .agg #[.int .i64 a, .int .i64 s]) (by simp [results, Tryz.results113, go_sem]) rfl ⟨rfl, ?_⟩
  repeat (first | exact Below.refl _ _ | (refine Below.alloc ?_ (by simp <;> omega) _))
theorem toStop_any (a s : Int) (w : World) : Calls Tryz.prog 66 #[.agg #[.int .i64 a, .int .i64 s]] w fun e w' => e = .returned (.agg #[.int .i64 a, .int .i64 s]) ∧ Below w.heap.size w w' := by
  go_enter Tryz.func66, Tryz.ntmps66
  go_wp2
  refine bodyPost_ret (v := .agg #[.int .i64 a, .int .i64 s]) (by simp [results, Tryz.results66, go_sem]) rfl ⟨rfl, ?_⟩
  repeat (first | exact Below.refl _ _ | (refine Below.alloc ?_ (by simp <;> omega) _))

/-- A call behind two stores into a box of the caller's own. -/
theorem call_two {w w1 w2 : World} {g0 g1 g o o' : Nat} {B : Nat} {P R O : Array Value} {v v' : Value} (h0 : Bx w1 g0 P) (h1 : Bx w1 g1 R) (h : Bx w1 g O) (n0 : g0 ≠ g) (n1 : g1 ≠ g) (hB : Below B w w1) (hg : B ≤ g)
    (hb : Below ((w1.setCell ⟨g, o, none⟩ v).setCell ⟨g, o', none⟩ v').heap.size ((w1.setCell ⟨g, o, none⟩ v).setCell ⟨g, o', none⟩ v') w2) :
    Bx w2 g0 P ∧ Bx w2 g1 R ∧ Bx w2 g ((O.setIfInBounds o v).setIfInBounds o' v') ∧ Below B w w2 ∧ w1.heap.size ≤ w2.heap.size :=
  ⟨((h0.far _ _ (Ne.symm n0)).far _ _ (Ne.symm n0)).below hb (by have := h0.lt; simpa using this), ((h1.far _ _ (Ne.symm n1)).far _ _ (Ne.symm n1)).below hb (by have := h1.lt; simpa using this),
    ((h.set o v).set o' v').below hb (by have := h.lt; simpa using this), ((hB.setCell (by simpa using hg) v).setCell (by simpa using hg) v').trans (hb.mono (by have := hB.size; have := h.lt; simp; omega)), by have := hb.size; simpa using this⟩
/-- A call behind a store into a box of the caller's own. -/
theorem call_one {w w1 w2 : World} {g0 g1 g o : Nat} {B : Nat} {P R O : Array Value} {v : Value} (h0 : Bx w1 g0 P) (h1 : Bx w1 g1 R) (h : Bx w1 g O) (n0 : g0 ≠ g) (n1 : g1 ≠ g) (hB : Below B w w1) (hg : B ≤ g)
    (hb : Below (w1.setCell ⟨g, o, none⟩ v).heap.size (w1.setCell ⟨g, o, none⟩ v) w2) :
    Bx w2 g0 P ∧ Bx w2 g1 R ∧ Bx w2 g (O.setIfInBounds o v) ∧ Below B w w2 ∧ w1.heap.size ≤ w2.heap.size :=
  ⟨(h0.far _ _ (Ne.symm n0)).below hb (by have := h0.lt; simpa using this), (h1.far _ _ (Ne.symm n1)).below hb (by have := h1.lt; simpa using this),
    (h.set o v).below hb (by have := h.lt; simpa using this), (hB.setCell (by simpa using hg) v).trans (hb.mono (by have := hB.size; have := h.lt; simp; omega)), by have := hb.size; simpa using this⟩

set_option maxHeartbeats 800000 in
theorem toLift_any (a s g h : Int) (w : World) : Calls Tryz.prog 64 #[.agg #[.int .i64 a, .int .i64 s, .int .i64 g, .int .i64 h]] w fun e w' => e = .returned (.agg #[.int .i64 a, .int .i64 s, .int .i64 g, .int .i64 h]) ∧ Below w.heap.size w w' := by
  go_enter Tryz.func64, Tryz.ntmps64
  go_wp2_with fail
  refine (toMotion_any a s _).mono ?_
  rintro e w1 ⟨rfl, hb1⟩
  obtain ⟨x0, x1, x2, b1, s1⟩ := boxes3 hb1
  have HX0 := Lib.hid x0
  have HX1 := Lib.hid x1
  have HX2 := Lib.hid x2
  have HB1 := Lib.hid b1
  have c0 := x0.cells
  have c2 := x2.cells
  have z2 := x2.free
  clear hb1 x0 x1 x2 b1
  go_wp2_with fail
  refine (toDoor_any g h _).mono ?_
  rintro e w2 ⟨rfl, hb2⟩
  obtain ⟨x0, x1, x2, b2, s2⟩ := call_two HX0.out HX1.out HX2.out (by omega) (by omega) HB1.out (by omega) hb2
  have HX1 := Lib.hid x1
  have HX2 := Lib.hid x2
  have HB2 := Lib.hid b2
  have c1 := x1.cells
  have z1 := x1.free
  have c2 := x2.cells
  have z2 := x2.free
  clear c0 hb2 x0 x1 x2 b2
  go_wp2
  refine bodyPost_ret (v := .agg #[.int .i64 a, .int .i64 s, .int .i64 g, .int .i64 h]) (by simp [results, Tryz.results64, go_sem, c1, c2]) rfl ⟨rfl, ?_⟩
  exact (((((HB2.out.setCell (by simp <;> omega) _).setCell (by simp <;> omega) _).setCell (by simp <;> omega) _).setCell (by simp <;> omega) _).setCell (by simp <;> omega) _).setCell (by simp <;> omega) _

theorem grown_set (w : World) (p : Addr) (v : Value) : w.grownBy (w.setCell p v) (some p.block) :=
  ⟨rfl, rfl, rfl, by simp, fun j hj hne => Below.heap_setCell _ _ _ _ (by intro e; exact hne (by simp [e]))⟩
theorem Ints.far {w : World} {B : Nat} {A : Option Addr} {n : Nat} {f : Nat → Int} (h : Ints w B A n f) (p : Addr) (v : Value) (hp : B ≤ p.block) : Ints (w.setCell p v) B A n f :=
  h.keep fun q hq => World.cell?_setCell_other w p q v (fun e => by subst e; omega)
theorem Bools.far {w : World} {B : Nat} {A : Option Addr} {n : Nat} {f : Nat → Bool} (h : Bools w B A n f) (p : Addr) (v : Value) (hp : B ≤ p.block) : Bools (w.setCell p v) B A n f :=
  h.keep fun q hq => World.cell?_setCell_other w p q v (fun e => by subst e; omega)
theorem Row.far {w : World} {base : Nat} {A : Option Addr} {n c : Nat} {f : Nat → Int} (h : Row w base A n c f) (p : Addr) (v : Value) (hp : p.block < base) : Row (w.setCell p v) base A n c f :=
  h.kept (grown_set w p v) (.inr fun b e => .inl (by cases e; exact hp))
theorem RowB.far {w : World} {base : Nat} {A : Option Addr} {n c : Nat} {f : Nat → Bool} (h : RowB w base A n c f) (p : Addr) (v : Value) (hp : p.block < base) : RowB (w.setCell p v) base A n c f :=
  h.kept (grown_set w p v) (.inr fun b e => .inl (by cases e; exact hp))

/-- Two slices lie in different blocks. -/
def Apart (A U : Option Addr) : Prop := ∀ x y : Addr, A = some x → U = some y → x.block ≠ y.block
theorem Apart.symm {A U : Option Addr} (h : Apart A U) : Apart U A := fun x y hx hy => Ne.symm (h y x hy hx)
/-- A slice lies in a block from base on, below top. -/
def In (base top : Nat) (A : Option Addr) : Prop := ∀ x : Addr, A = some x → base ≤ x.block ∧ x.block < top
theorem In.apart {b1 t1 b2 t2 : Nat} {A U : Option Addr} (h : In b1 t1 A) (h' : In b2 t2 U) (ht : t1 ≤ b2) : Apart A U := fun x y hx hy => by
  have := (h x hx).2; have := (h' y hy).1; omega
theorem In.mono {b1 t1 b2 t2 : Nat} {A : Option Addr} (h : In b1 t1 A) (hb : b2 ≤ b1) (ht : t1 ≤ t2) : In b2 t2 A := fun x hx => by
  have := h x hx; omega
theorem Row.place {w : World} {base : Nat} {A : Option Addr} {n c : Nat} {f : Nat → Int} (h : Row w base A n c f) : In base w.heap.size A := by
  intro x hx
  rcases h.2 with ⟨hv, h0⟩ | ⟨b, cap, cur, hv, _⟩
  · simp only [Value.slice.injEq] at hv; rw [hv.1] at hx; cases hx
  · simp only [Value.slice.injEq] at hv
    rw [hv.1] at hx; cases hx
    have := World.ownsRow.lt h b (by simp [Value.ownBlock, hv.1])
    exact this
theorem RowB.place {w : World} {base : Nat} {A : Option Addr} {n c : Nat} {f : Nat → Bool} (h : RowB w base A n c f) : In base w.heap.size A := by
  intro x hx
  rcases h.2 with ⟨hv, h0⟩ | ⟨b, cap, cur, hv, _⟩
  · simp only [Value.slice.injEq] at hv; rw [hv.1] at hx; cases hx
  · simp only [Value.slice.injEq] at hv
    rw [hv.1] at hx; cases hx
    have := World.ownsRow.lt h b (by simp [Value.ownBlock, hv.1])
    exact this

/-- Calls in memory: three slices of truths of the call's own, in three blocks. -/
structure OwnC (w : World) (base : Nat) (U : Option Addr) (nu cu : Nat) (up : Nat → Bool) (D : Option Addr) (nd cd : Nat) (dn : Nat → Bool) (C : Option Addr) (nc cc : Nat) (car : Nat → Bool) : Prop where
  u : RowB w base U nu cu up
  d : RowB w base D nd cd dn
  c : RowB w base C nc cc car
  ud : Apart U D
  uc : Apart U C
  dc : Apart D C
theorem OwnC.below {w w' : World} {B base : Nat} {U D C : Option Addr} {nu cu nd cd nc cc : Nat} {up dn car : Nat → Bool} (h : OwnC w base U nu cu up D nd cd dn C nc cc car) (hb : Below B w w') (hB : w.heap.size ≤ B) : OwnC w' base U nu cu up D nd cd dn C nc cc car :=
  ⟨h.u.below hb hB, h.d.below hb hB, h.c.below hb hB, h.ud, h.uc, h.dc⟩
theorem OwnC.mono {w : World} {base base' : Nat} {U D C : Option Addr} {nu cu nd cd nc cc : Nat} {up dn car : Nat → Bool} (h : OwnC w base U nu cu up D nd cd dn C nc cc car) (hb : base' ≤ base) : OwnC w base' U nu cu up D nd cd dn C nc cc car :=
  ⟨h.u.mono hb, h.d.mono hb, h.c.mono hb, h.ud, h.uc, h.dc⟩
theorem OwnC.kept {w w' : World} {base : Nat} {row : Option Nat} {U D C : Option Addr} {nu cu nd cd nc cc : Nat} {up dn car : Nat → Bool} (h : OwnC w base U nu cu up D nd cd dn C nc cc car) (hg : w.grownBy w' row) (hne : row = none ∨ ∀ b, row = some b → b < base ∨ w.heap.size ≤ b) : OwnC w' base U nu cu up D nd cd dn C nc cc car :=
  ⟨h.u.kept hg hne, h.d.kept hg hne, h.c.kept hg hne, h.ud, h.uc, h.dc⟩

set_option maxHeartbeats 1600000 in
theorem toCalls_any {w : World} {B : Nat} {U D C : Option Addr} {nu cu nd cd nc cc : Nat} {up dn car : Nat → Bool} (n1 : nu ≤ 17592186044415) (n2 : nd ≤ 17592186044415) (n3 : nc ≤ 17592186044415) (hB : B ≤ w.heap.size)
    (hu : Bools w B U nu up) (hd : Bools w B D nd dn) (hc : Bools w B C nc car) :
    Calls Tryz.prog 65 #[.agg #[.slice U nu cu, .slice D nd cd, .slice C nc cc]] w fun e w' =>
      ∃ U' cu' D' cd' C' cc', e = .returned (.agg #[.slice U' nu cu', .slice D' nd cd', .slice C' nc cc']) ∧ OwnC w' w.heap.size U' nu cu' up D' nd cd' dn C' nc cc' car ∧ Below w.heap.size w w' := by
  have HU := Lib.hid hu
  have HD := Lib.hid hd
  have HC := Lib.hid hc
  clear hu hd hc
  go_enter Tryz.func65, Tryz.ntmps65
  go_wp2_with fail
  refine (toBoolS_any n1 (Nat.le_trans hB (by simp <;> omega)) (((HU.out.alloc hB _).alloc (Nat.le_trans hB (by simp <;> omega)) _).alloc (Nat.le_trans hB (by simp <;> omega)) _)).mono ?_
  rintro e w1 ⟨U', cu', rfl, hr1, hb1⟩
  obtain ⟨x0, x1, x2, b1, s1⟩ := boxes3 hb1
  have HX0 := Lib.hid x0
  have HX1 := Lib.hid x1
  have HX2 := Lib.hid x2
  have HB1 := Lib.hid b1
  have hr1' := hr1.mono (base' := w.heap.size + 3) (by simp <;> omega)
  have HR1 := Lib.hid hr1'
  have hp1 := hr1'.place
  have HP1 := Lib.hid hp1
  have c0 := x0.cells
  have c2 := x2.cells
  have z2 := x2.free
  clear hb1 x0 x1 x2 b1 hr1 hr1' hp1
  go_wp2_with fail
  refine (toBoolS_any n2 (Nat.le_trans hB (by simp <;> omega)) ((HD.out.below (HB1.out.mono hB)).far _ _ (by simp <;> omega))).mono ?_
  rintro e w2 ⟨D', cd', rfl, hr2, hb2⟩
  obtain ⟨x0, x1, x2, b2, s2⟩ := call_one HX0.out HX1.out HX2.out (by omega) (by omega) HB1.out (by omega) hb2
  have HX0 := Lib.hid x0
  have HX1 := Lib.hid x1
  have HX2 := Lib.hid x2
  have HB2 := Lib.hid b2
  have hr2' := hr2.mono (base' := w1.heap.size) (by simp)
  have HR1 := Lib.hid ((HR1.out.far ⟨w.heap.size + 1 + 1, 0, none⟩ (.slice U' nu cu') (by simp)).below hb2 (Nat.le_refl _))
  have HR2 := Lib.hid hr2'
  have hp2 := hr2'.place
  have HP2 := Lib.hid hp2
  have c0 := x0.cells
  have c2 := x2.cells
  have z2 := x2.free
  clear hb2 x0 x1 x2 b2 hr2 hr2' hp2
  go_wp2_with fail
  refine (toBoolS_any n3 (Nat.le_trans hB (by simp <;> omega)) ((HC.out.below (HB2.out.mono hB)).far _ _ (by simp <;> omega))).mono ?_
  rintro e w3 ⟨C', cc', rfl, hr3, hb3⟩
  obtain ⟨x0, x1, x2, b3, s3⟩ := call_one HX0.out HX1.out HX2.out (by omega) (by omega) HB2.out (by omega) hb3
  have HB3 := Lib.hid b3
  have hr3' := hr3.mono (base' := w2.heap.size) (by simp)
  have HR1 := Lib.hid ((HR1.out.far ⟨w.heap.size + 1 + 1, 1, none⟩ (.slice D' nd cd') (by simp)).below hb3 (Nat.le_refl _))
  have HR2 := Lib.hid ((HR2.out.far ⟨w.heap.size + 1 + 1, 1, none⟩ (.slice D' nd cd') (by simp; omega)).below hb3 (Nat.le_refl _))
  have HR3 := Lib.hid hr3'
  have hp3 := hr3'.place
  have HP3 := Lib.hid hp3
  have c1 := x1.cells
  have z1 := x1.free
  have c2 := x2.cells
  have z2 := x2.free
  clear c0 hb3 x0 x1 x2 b3 hr3 hr3' hp3 HX0 HX1 HX2
  go_wp2
  refine bodyPost_ret (v := .agg #[.slice U' nu cu', .slice D' nd cd', .slice C' nc cc']) (by simp [results, Tryz.results65, go_sem, c1, c2]) rfl ⟨U', cu', D', cd', C', cc', rfl, ?_, ?_⟩
  · refine ⟨?_, ?_, ?_, HP1.out.apart HP2.out (Nat.le_refl _), HP1.out.apart HP3.out s2, HP2.out.apart HP3.out (Nat.le_refl _)⟩
    · exact ((((HR1.out.far _ _ (by simp)).far _ _ (by simp)).far _ _ (by simp)).far _ _ (by simp)).mono (by omega)
    · exact ((((HR2.out.far _ _ (by simp; omega)).far _ _ (by simp; omega)).far _ _ (by simp; omega)).far _ _ (by simp; omega)).mono (by omega)
    · exact ((((HR3.out.far _ _ (by simp; omega)).far _ _ (by simp; omega)).far _ _ (by simp; omega)).far _ _ (by simp; omega)).mono (by omega)
  · exact (((HB3.out.setCell (by simp <;> omega) _).setCell (by simp <;> omega) _).setCell (by simp <;> omega) _).setCell (by simp <;> omega) _
end Go.Proofs.YthkpikkjgggimaaGreatDoor

namespace Go.Proofs.YthkpikkjgggimaaGreatDoor
open Go.RowKit
set_option linter.unusedVariables false
set_option linter.unusedSimpArgs false

/-- Where the slices of a building lie. -/
structure Bv where
  A : Option Addr
  c : Nat
  U : Option Addr
  cu : Nat
  D : Option Addr
  cd : Nat
  C : Option Addr
  cc : Nat
def bcells (v : Bv) (b : Bld) : Array Value :=
  #[.slice v.A b.n v.c, .int .i64 b.pos, .int .i64 b.sp, .int .i64 b.gap, .int .i64 b.hold, .slice v.U b.nu v.cu, .slice v.D b.nd v.cd, .slice v.C b.nc v.cc, .int .i64 b.fl, .int .i64 b.dir, .bool b.op]
def bval (v : Bv) (b : Bld) : Value := .agg (bcells v b)
/-- The slices of a building read as it says, and lie below B. -/
structure ReadB (w : World) (B : Nat) (v : Bv) (b : Bld) : Prop where
  h : Ints w B v.A b.n b.f
  u : Bools w B v.U b.nu b.up
  d : Bools w B v.D b.nd b.dn
  c : Bools w B v.C b.nc b.car
  hn : v.A = none → v.c = 0
  un : v.U = none → v.cu = 0
  dn : v.D = none → v.cd = 0
  cn : v.C = none → v.cc = 0
theorem ReadB.below {w w' : World} {B : Nat} {v : Bv} {b : Bld} (r : ReadB w B v b) (hb : Below B w w') : ReadB w' B v b :=
  ⟨r.h.below hb, r.u.below hb, r.d.below hb, r.c.below hb, r.hn, r.un, r.dn, r.cn⟩
theorem ReadB.more {w : World} {B B' : Nat} {v : Bv} {b : Bld} (r : ReadB w B v b) (hB : B ≤ B') : ReadB w B' v b :=
  ⟨r.h.more hB, r.u.more hB, r.d.more hB, r.c.more hB, r.hn, r.un, r.dn, r.cn⟩
theorem ReadB.alloc {w : World} {B : Nat} {v : Bv} {b : Bld} (r : ReadB w B v b) (hB : B ≤ w.heap.size) (o : Obj) : ReadB (w.alloc o) B v b :=
  r.below ((Below.refl B w).alloc hB o)
theorem ReadB.drewN {w : World} {B : Nat} {v : Bv} {b : Bld} (r : ReadB w B v b) (k : Nat) : ReadB (w.drewN k) B v b := r.below (below_drewN (Below.refl _ _) k)
theorem ReadB.far {w : World} {B : Nat} {v : Bv} {b : Bld} (r : ReadB w B v b) (p : Addr) (x : Value) (hp : B ≤ p.block) : ReadB (w.setCell p x) B v b :=
  r.below ((Below.refl B w).setCell hp x)
/-- A building of the call's own: its slices lie in four blocks from base on. -/
structure OwnB (w : World) (base : Nat) (v : Bv) (b : Bld) : Prop where
  h : Row w base v.A b.n v.c b.f
  k : OwnC w base v.U b.nu v.cu b.up v.D b.nd v.cd b.dn v.C b.nc v.cc b.car
  hu : Apart v.A v.U
  hd : Apart v.A v.D
  hc : Apart v.A v.C
theorem RowB.none_cap' {w : World} {base n c : Nat} {A : Option Addr} {f : Nat → Bool} (h : RowB w base A n c f) (hA : A = none) : c = 0 := by
  subst hA
  rcases h.2 with ⟨hv, h0⟩ | ⟨b, cap, cur, hv, _⟩
  · simp only [Value.slice.injEq] at hv; exact hv.2.2
  · simp at hv
theorem Row.none_cap' {w : World} {base n c : Nat} {A : Option Addr} {f : Nat → Int} (h : Row w base A n c f) (hA : A = none) : c = 0 := by
  subst hA
  rcases h.2 with ⟨hv, h0⟩ | ⟨b, cap, cur, hv, _⟩
  · simp only [Value.slice.injEq] at hv; exact hv.2.2
  · simp at hv
theorem OwnB.read {w : World} {base : Nat} {v : Bv} {b : Bld} (o : OwnB w base v b) : ReadB w w.heap.size v b :=
  ⟨o.h.ints, o.k.u.bools, o.k.d.bools, o.k.c.bools, o.h.none_cap', o.k.u.none_cap', o.k.d.none_cap', o.k.c.none_cap'⟩
theorem OwnB.below {w w' : World} {B base : Nat} {v : Bv} {b : Bld} (o : OwnB w base v b) (hb : Below B w w') (hB : w.heap.size ≤ B) : OwnB w' base v b :=
  ⟨o.h.below hb hB, o.k.below hb hB, o.hu, o.hd, o.hc⟩
theorem OwnB.mono {w : World} {base base' : Nat} {v : Bv} {b : Bld} (o : OwnB w base v b) (hb : base' ≤ base) : OwnB w base' v b :=
  ⟨o.h.mono hb, o.k.mono hb, o.hu, o.hd, o.hc⟩
theorem OwnB.kept {w w' : World} {base : Nat} {row : Option Nat} {v : Bv} {b : Bld} (o : OwnB w base v b) (hg : w.grownBy w' row) (hne : row = none ∨ ∀ b, row = some b → b < base ∨ w.heap.size ≤ b) : OwnB w' base v b :=
  ⟨o.h.kept hg hne, o.k.kept hg hne, o.hu, o.hd, o.hc⟩

/-- Cells written one after the other. -/
def sets (w : World) (l : List (Addr × Value)) : World := l.foldl (fun w q => w.setCell q.1 q.2) w
theorem sets_below {B : Nat} {w0 w : World} (l : List (Addr × Value)) (h : Below B w0 w) (hl : ∀ q ∈ l, B ≤ q.1.block) : Below B w0 (sets w l) := by
  induction l generalizing w with
  | nil => exact h
  | cons q l ih => exact ih (h.setCell (hl q (by simp)) q.2) (fun x hx => hl x (by simp [hx]))
theorem sets_row {w : World} {base : Nat} {A : Option Addr} {n c : Nat} {f : Nat → Int} (l : List (Addr × Value)) (h : Row w base A n c f) (hl : ∀ q ∈ l, q.1.block < base) : Row (sets w l) base A n c f := by
  induction l generalizing w with
  | nil => exact h
  | cons q l ih => exact ih (h.far q.1 q.2 (hl q (by simp))) (fun x hx => hl x (by simp [hx]))
theorem sets_rowB {w : World} {base : Nat} {A : Option Addr} {n c : Nat} {f : Nat → Bool} (l : List (Addr × Value)) (h : RowB w base A n c f) (hl : ∀ q ∈ l, q.1.block < base) : RowB (sets w l) base A n c f := by
  induction l generalizing w with
  | nil => exact h
  | cons q l ih => exact ih (h.far q.1 q.2 (hl q (by simp))) (fun x hx => hl x (by simp [hx]))
theorem sets_own {w : World} {base : Nat} {v : Bv} {b : Bld} (l : List (Addr × Value)) (o : OwnB w base v b) (hl : ∀ q ∈ l, q.1.block < base) : OwnB (sets w l) base v b :=
  ⟨sets_row l o.h hl, ⟨sets_rowB l o.k.u hl, sets_rowB l o.k.d hl, sets_rowB l o.k.c hl, o.k.ud, o.k.uc, o.k.dc⟩, o.hu, o.hd, o.hc⟩
/-- A whole building stored into block g. -/
def putL (g : Nat) (v : Bv) (b : Bld) : List (Addr × Value) :=
  [(⟨g, 0, none⟩, .slice v.A b.n v.c), (⟨g, 1, none⟩, .int .i64 b.pos), (⟨g, 2, none⟩, .int .i64 b.sp), (⟨g, 3, none⟩, .int .i64 b.gap), (⟨g, 4, none⟩, .int .i64 b.hold), (⟨g, 5, none⟩, .slice v.U b.nu v.cu),
   (⟨g, 6, none⟩, .slice v.D b.nd v.cd), (⟨g, 7, none⟩, .slice v.C b.nc v.cc), (⟨g, 8, none⟩, .int .i64 b.fl), (⟨g, 9, none⟩, .int .i64 b.dir), (⟨g, 10, none⟩, .bool b.op)]
theorem putL_block {g : Nat} {v : Bv} {b : Bld} : ∀ q ∈ putL g v b, q.1.block = g := by
  intro q hq
  simp only [putL, List.mem_cons, List.not_mem_nil, or_false] at hq
  rcases hq with rfl | rfl | rfl | rfl | rfl | rfl | rfl | rfl | rfl | rfl | rfl <;> rfl

/-- A frame of three boxes: the parameter's, the result's, a variable's; the third is written. -/
structure Fr (w W : World) (B g0 g1 g : Nat) (P R O : Array Value) : Prop where
  x0 : Bx W g0 P
  x1 : Bx W g1 R
  x2 : Bx W g O
  b : Below B w W
  n0 : g0 ≠ g
  n1 : g1 ≠ g
  hB : B ≤ g
section
variable {w W W' : World} {B g0 g1 g : Nat} {P R O : Array Value}
theorem Fr.set (F : Fr w W B g0 g1 g P R O) (o : Nat) (v : Value) : Fr w (W.setCell ⟨g, o, none⟩ v) B g0 g1 g P R (O.setIfInBounds o v) :=
  ⟨F.x0.far _ _ (Ne.symm F.n0), F.x1.far _ _ (Ne.symm F.n1), F.x2.set o v, F.b.setCell F.hB v, F.n0, F.n1, F.hB⟩
theorem Fr.call (F : Fr w W B g0 g1 g P R O) (hb : Below W.heap.size W W') : Fr w W' B g0 g1 g P R O :=
  ⟨F.x0.below hb F.x0.lt, F.x1.below hb F.x1.lt, F.x2.below hb F.x2.lt, F.b.trans (hb.mono (Nat.le_trans F.hB (Nat.le_of_lt F.x2.lt))), F.n0, F.n1, F.hB⟩
theorem Fr.start {P R O : Array Value} {T T' T2 : TypeId} (h : Below (((w.alloc (.cells P T)).alloc (.cells R T')).alloc (.cells O T2)).heap.size (((w.alloc (.cells P T)).alloc (.cells R T')).alloc (.cells O T2)) W) :
    Fr w W w.heap.size w.heap.size (w.heap.size + 1) (w.heap.size + 1 + 1) P R O := by
  obtain ⟨a, b, c, d, _⟩ := boxes3 h
  exact ⟨a, b, c, d, by omega, by omega, by omega⟩
end
theorem grown_call {W W' : World} (g : Nat) (hb : Below W.heap.size W W') : W.grownBy W' (some g) := ⟨hb.os, hb.tape, hb.output, hb.size, fun k hk _ => hb.block k hk⟩

set_option maxHeartbeats 3200000 in
theorem toBuilding_any {w : World} {B : Nat} {v : Bv} {b : Bld} (n0 : b.n ≤ 17592186044415) (n1 : b.nu ≤ 17592186044415) (n2 : b.nd ≤ 17592186044415) (n3 : b.nc ≤ 17592186044415) (hB : B ≤ w.heap.size) (hr : ReadB w B v b) :
    Calls Tryz.prog 18 #[bval v b] w fun e w' => ∃ v', e = .returned (bval v' b) ∧ OwnB w' w.heap.size v' b ∧ Below w.heap.size w w' := by
  have HR := Lib.hid hr
  clear hr
  unfold bval bcells
  go_enter Tryz.func18, Tryz.ntmps18
  go_wp2_with fail
  refine (toIntS_any n0 (Nat.le_trans hB (by simp <;> omega)) (((HR.out.alloc hB _).alloc (Nat.le_trans hB (by simp <;> omega)) _).alloc (Nat.le_trans hB (by simp <;> omega)) _).h).mono ?_
  rintro e w1 ⟨A', c', rfl, hr1, hb1⟩
  have F1 := Fr.start hb1
  have hs1 : w.heap.size + 3 ≤ w1.heap.size := by have := hb1.size; simp at this; omega
  have H1 := hr1.mono (base' := w.heap.size + 3) (by simp <;> omega)
  have HP1 := Lib.hid H1.place
  have HH1 := Lib.hid H1
  have HF1 := Lib.hid F1
  have c0 := F1.x0.cells
  have c2 := F1.x2.cells
  have z2 := F1.x2.free
  clear hb1 hr1 F1 H1
  go_wp2_with fail
  refine (toLift_any b.pos b.sp b.gap b.hold _).mono ?_
  rintro e w2 ⟨rfl, hb2⟩
  have F2 := (HF1.out.set 0 _).call hb2
  have hg2 := (grown_set _ _ _).trans (grown_call _ hb2)
  have HH2 := Lib.hid (HH1.out.kept hg2 (.inr (by intro k e; cases e; left; simp <;> omega)))
  have HF2 := Lib.hid F2
  have hs2 : w1.heap.size ≤ w2.heap.size := by have := hg2.size; simpa using this
  clear c0 c2 z2
  have c0 := F2.x0.cells
  have c2 := F2.x2.cells
  have z2 := F2.x2.free
  clear hb2 hg2 F2 HF1 HH1
  have F2s := (((HF2.out.set 1 (.int .i64 b.pos)).set 2 (.int .i64 b.sp)).set 3 (.int .i64 b.gap)).set 4 (.int .i64 b.hold)
  have HF2s := Lib.hid F2s
  have HRs := Lib.hid (HR.out.below (F2s.b.mono hB))
  clear F2s HF2
  go_wp2_with fail
  refine (toCalls_any n1 n2 n3 (Nat.le_trans hB HF2s.out.b.size) HRs.out.u HRs.out.d HRs.out.c).mono ?_
  rintro e w3 ⟨U', cu', D', cd', C', cc', rfl, hk3, hb3⟩
  have F3 := HF2s.out.call hb3
  have hg3 := ((((grown_set w2 ⟨w.heap.size + 1 + 1, 1, none⟩ (.int .i64 b.pos)).trans (grown_set _ ⟨w.heap.size + 1 + 1, 2, none⟩ (.int .i64 b.sp))).trans (grown_set _ ⟨w.heap.size + 1 + 1, 3, none⟩ (.int .i64 b.gap))).trans (grown_set _ ⟨w.heap.size + 1 + 1, 4, none⟩ (.int .i64 b.hold))).trans (grown_call _ hb3)
  have HH3 := Lib.hid (HH2.out.kept hg3 (.inr (by intro k e; cases e; left; simp <;> omega)))
  have hk3' := hk3.mono (base' := w2.heap.size) (by simp)
  have HK3 := Lib.hid hk3'
  have HF3 := Lib.hid F3
  have hs3 : w2.heap.size ≤ w3.heap.size := by have := hg3.size; simpa using this
  have HAU := Lib.hid ((HP1.out.mono (Nat.le_refl _) hs2).apart hk3'.u.place (Nat.le_refl _))
  have HAD := Lib.hid ((HP1.out.mono (Nat.le_refl _) hs2).apart hk3'.d.place (Nat.le_refl _))
  have HAC := Lib.hid ((HP1.out.mono (Nat.le_refl _) hs2).apart hk3'.c.place (Nat.le_refl _))
  clear c0 c2 z2
  have c0 := F3.x0.cells
  have c2 := F3.x2.cells
  have z2 := F3.x2.free
  clear hb3 hg3 F3 HF2s HH2 HRs hk3 hk3'
  go_wp2_with fail
  refine (toStop_any b.fl b.dir _).mono ?_
  rintro e w4 ⟨rfl, hb4⟩
  have F4 := (((HF3.out.set 5 (.slice U' b.nu cu')).set 6 (.slice D' b.nd cd')).set 7 (.slice C' b.nc cc')).call hb4
  have hg4 := (((grown_set w3 ⟨w.heap.size + 1 + 1, 5, none⟩ (.slice U' b.nu cu')).trans (grown_set _ ⟨w.heap.size + 1 + 1, 6, none⟩ (.slice D' b.nd cd'))).trans (grown_set _ ⟨w.heap.size + 1 + 1, 7, none⟩ (.slice C' b.nc cc'))).trans (grown_call _ hb4)
  have HH4 := Lib.hid (HH3.out.kept hg4 (.inr (by intro k e; cases e; left; simp <;> omega)))
  have HK4 := Lib.hid (HK3.out.kept hg4 (.inr (by intro k e; cases e; left; simp <;> omega)))
  have HF4 := Lib.hid F4
  have hs4 : w3.heap.size ≤ w4.heap.size := by have := hg4.size; simpa using this
  clear c0 c2 z2
  have c0 := F4.x0.cells
  have c1 := F4.x1.cells
  have z1 := F4.x1.free
  have c2 := F4.x2.cells
  have z2 := F4.x2.free
  clear hb4 hg4 F4 HF3 HH3 HK3
  have HOWN : Hid (OwnB w4 (w.heap.size + 3) ⟨A', c', U', cu', D', cd', C', cc'⟩ b) := Lib.hid ⟨HH4.out, HK4.out.mono (by omega), HAU.out, HAD.out, HAC.out⟩
  clear HH4 HK4 HAU HAD HAC
  go_wp2
  refine bodyPost_ret (v := bval ⟨A', c', U', cu', D', cd', C', cc'⟩ b) (by simp [bval, bcells, results, Tryz.results18, go_sem, c1, c2]) rfl ⟨⟨A', c', U', cu', D', cd', C', cc'⟩, rfl, ?_, ?_⟩
  · exact (sets_own (putL (w.heap.size + 1) ⟨A', c', U', cu', D', cd', C', cc'⟩ b) (sets_own [(⟨w.heap.size + 1 + 1, 8, none⟩, .int .i64 b.fl), (⟨w.heap.size + 1 + 1, 9, none⟩, .int .i64 b.dir), (⟨w.heap.size + 1 + 1, 10, none⟩, .bool b.op)] HOWN.out (by simp <;> omega)) (fun q hq => by rw [putL_block q hq]; omega)).mono (by omega)
  · exact sets_below (putL (w.heap.size + 1) ⟨A', c', U', cu', D', cd', C', cc'⟩ b) (sets_below [(⟨w.heap.size + 1 + 1, 8, none⟩, .int .i64 b.fl), (⟨w.heap.size + 1 + 1, 9, none⟩, .int .i64 b.dir), (⟨w.heap.size + 1 + 1, 10, none⟩, .bool b.op)] HF4.out.b (by simp <;> omega)) (fun q hq => by rw [putL_block q hq]; omega)
end Go.Proofs.YthkpikkjgggimaaGreatDoor
