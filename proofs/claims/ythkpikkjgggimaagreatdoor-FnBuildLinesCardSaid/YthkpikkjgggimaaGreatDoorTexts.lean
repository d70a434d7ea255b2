/-
  Slices of texts: the words and the laws, as for slices of numbers. No claim stands here. (Printed by gentexts.py.)
-/
import Derived.Test.YthkpikkjgggimaaGreatDoorBB
import Derived.Test.YthkpikkjgggimaaGreatDoorBA
namespace Go.Proofs.YthkpikkjgggimaaGreatDoor
open Go.RowKit
set_option linter.unusedVariables false
set_option linter.unusedSimpArgs false

/-- A slice of ints reads as the numbers f 0 .. f (n - 1), and lies below block B. -/
def Texts (w : World) (B : Nat) (A : Option Addr) (n : Nat) (f : Nat → ByteArray) : Prop :=
  0 < n → ∃ b off, A = some ⟨b, off, none⟩ ∧ b < B ∧ ∀ i, i < n → w.cell? ⟨b, off + i, none⟩ = some (.string (f i))

section
variable {w w' : World} {B B' : Nat} {A : Option Addr} {n : Nat} {f g : Nat → ByteArray}
theorem Texts.keep (h : Texts w B A n f) (hk : ∀ p : Addr, p.block < B → w'.cell? p = w.cell? p) : Texts w' B A n f := by
  intro hn
  obtain ⟨b, off, hA, hb, hc⟩ := h hn
  exact ⟨b, off, hA, hb, fun i hi => (hk _ hb).trans (hc i hi)⟩
theorem Texts.more (h : Texts w B A n f) (hB : B ≤ B') : Texts w B' A n f := by
  intro hn
  obtain ⟨b, off, hA, hb, hc⟩ := h hn
  exact ⟨b, off, hA, Nat.lt_of_lt_of_le hb hB, hc⟩
theorem Texts.below (h : Texts w B A n f) (hb : Below B w w') : Texts w' B A n f := h.keep fun _ hp => hb.cell hp
theorem Texts.drewN (h : Texts w B A n f) (k : Nat) : Texts (w.drewN k) B A n f := h
theorem Texts.drew (h : Texts w B A n f) : Texts w.drew B A n f := h
theorem Texts.alloc (h : Texts w B A n f) (hB : B ≤ w.heap.size) (o : Obj) : Texts (w.alloc o) B A n f := h.keep fun p hp => World.cell?_alloc_lt w o p (by omega)
theorem Texts.zero : Texts w B A 0 f := fun h => absurd h (by omega)
theorem Texts.congr (h : Texts w B A n f) (e : ∀ i, i < n → f i = g i) : Texts w B A n g := by
  intro hn
  obtain ⟨b, off, hA, hb, hc⟩ := h hn
  exact ⟨b, off, hA, hb, fun i hi => by rw [hc i hi, e i hi]⟩
end

theorem Tryz.infoTxt : (Tryz.prog.info? 9).map (fun i => (i.zero, i.size, i.bytes)) = some (some (.string ByteArray.empty), 1, 16) := by kernel_rfl

/-- The numbers f 0 .. f (n - 1) as cells. -/
def tvals (f : Nat → ByteArray) (n : Nat) : List Value := (List.range n).map fun i => .string (f i)
theorem tvals_length (f : Nat → ByteArray) (n : Nat) : (tvals f n).length = n := by simp [tvals]
theorem tvals_get {f : Nat → ByteArray} {n i : Nat} (h : i < n) : (tvals f n)[i]? = some (.string (f i)) := by simp [tvals, h]
theorem tvals_succ (f : Nat → ByteArray) (n : Nat) : tvals f (n + 1) = tvals f n ++ [.string (f n)] := by simp [tvals, List.range_succ]
theorem tvals_one {f : Nat → ByteArray} {n : Nat} : ∀ u ∈ tvals f n, u.oneCell' = true := by
  intro u hu
  obtain ⟨_, _, rfl⟩ := List.mem_map.1 hu
  rfl
theorem tvals_congr {f g : Nat → ByteArray} {n : Nat} (h : ∀ i, i < n → f i = g i) : tvals f n = tvals g n :=
  List.map_congr_left fun i hi => by rw [h i (List.mem_range.1 hi)]
def updT (p : Nat → ByteArray) (k : Nat) (v : ByteArray) (i : Nat) : ByteArray := if i = k then v else p i
theorem tvals_set (h : Nat → ByteArray) (n k : Nat) (v : ByteArray) : (tvals h n).set k (.string v) = tvals (updT h k v) n := by
  apply List.ext_getElem?
  intro i
  rw [List.getElem?_set]
  by_cases hi : i < n
  · rw [tvals_get hi, tvals_get hi]
    by_cases hk : k = i
    · subst hk; simp [tvals_length, hi, updT]
    · simp [hk, updT, Ne.symm hk]
  · rw [List.getElem?_eq_none (by rw [tvals_length]; omega), List.getElem?_eq_none (by rw [tvals_length]; omega)]
    by_cases hk : k = i
    · simp [hk, tvals_length, hi]
    · simp [hk]
theorem tvals_made (n : Nat) : (madeCells (Value.string ByteArray.empty).cells (n * 1)).toList = tvals (fun _ => ByteArray.empty) n := by
  rw [Nat.mul_one]
  show (madeCells #[Value.string ByteArray.empty] n).toList = _
  rw [toList_madeCells_one]
  apply List.ext_getElem?
  intro i
  by_cases hi : i < n
  · rw [tvals_get hi]; simp [hi]
  · rw [List.getElem?_eq_none (by simp; omega), List.getElem?_eq_none (by rw [tvals_length]; omega)]

/-- The slice (A, n, c) is a row of the call's own: it holds f 0 .. f (n - 1), in a block from base on. -/
def RowT (w : World) (base : Nat) (A : Option Addr) (n c : Nat) (f : Nat → ByteArray) : Prop := w.ownsRow base 9 1 (.slice A n c) n (tvals f n)

section
variable {w w' : World} {base : Nat} {A : Option Addr} {n c : Nat} {f g : Nat → ByteArray}
theorem RowT.texts (h : RowT w base A n c f) : Texts w w.heap.size A n f := by
  intro hn
  obtain ⟨b, cap, hv, _, hlt⟩ := World.ownsRow.form h hn
  obtain ⟨rfl, -, rfl⟩ : A = some ⟨b, 0, none⟩ ∧ n = n ∧ c = cap := by simpa using hv
  refine ⟨b, 0, rfl, hlt, fun i hi => ?_⟩
  rw [Nat.zero_add, World.ownsRow.cellAt h i (by omega), tvals_get hi]
theorem RowT.form (h : RowT w base A n c f) (hn : 0 < n) : ∃ b, A = some ⟨b, 0, none⟩ ∧ base ≤ b ∧ b < w.heap.size := by
  obtain ⟨b, cap, hv, hb, hlt⟩ := World.ownsRow.form h hn
  obtain ⟨rfl, -⟩ : A = some ⟨b, 0, none⟩ ∧ c = cap := by simpa using hv
  exact ⟨b, rfl, hb, hlt⟩
theorem RowT.cap (h : RowT w base A n c f) : n ≤ c ∧ c ≤ maxLen := by
  rcases h.2 with ⟨hv, h0⟩ | ⟨b, cap, cur, hv, _, _, hc, hm, _⟩
  · simp only [Value.slice.injEq] at hv; obtain ⟨_, rfl, rfl⟩ := hv; exact ⟨Nat.le_refl _, Nat.zero_le _⟩
  · simp only [Value.slice.injEq] at hv; obtain ⟨_, _, rfl⟩ := hv; exact ⟨hc, hm⟩
theorem RowT.kept {row : Option Nat} (h : RowT w base A n c f) (hg : w.grownBy w' row) (hne : row = none ∨ ∀ b, row = some b → b < base ∨ w.heap.size ≤ b) : RowT w' base A n c f := by
  refine World.ownsRow.kept h hg ?_
  cases hb : (Value.slice A n c).ownBlock with
  | none => exact .inl rfl
  | some b =>
    right
    have := World.ownsRow.lt h b hb
    rcases hne with rfl | hne
    · simp
    · intro e
      have := hne b e.symm
      omega
theorem RowT.below {B : Nat} (h : RowT w base A n c f) (hb : Below B w w') (hB : w.heap.size ≤ B) : RowT w' base A n c f :=
  h.kept (row := none) ⟨hb.os, hb.tape, hb.output, hb.size, fun k hk _ => hb.block k (by omega)⟩ (.inl rfl)
theorem RowT.drewN (h : RowT w base A n c f) (k : Nat) : RowT (w.drewN k) base A n c f := h
theorem RowT.drew (h : RowT w base A n c f) : RowT w.drew base A n c f := h
theorem RowT.alloc (h : RowT w base A n c f) (o : Obj) : RowT (w.alloc o) base A n c f := h.kept (World.grownBy_alloc w o none) (.inl rfl)
theorem RowT.congr (h : RowT w base A n c f) (e : ∀ i, i < n → f i = g i) : RowT w base A n c g := by
  unfold RowT at h ⊢
  rw [← tvals_congr e]
  exact h
theorem RowT.mono {base' : Nat} (h : RowT w base A n c f) (hb : base' ≤ base) : RowT w base' A n c f := by
  refine ⟨h.1, ?_⟩
  rcases h.2 with h' | ⟨b, cap, cur, hv, hbb, r⟩
  · exact .inl h'
  · exact .inr ⟨b, cap, cur, hv, Nat.le_trans hb hbb, r⟩
theorem RowT.set {b k : Nat} (h : RowT w base (some ⟨b, 0, none⟩) n c f) (v : ByteArray) :
    RowT (w.setCell ⟨b, k, none⟩ (.string v)) base (some ⟨b, 0, none⟩) n c (updT f k v) ∧ w.grownBy (w.setCell ⟨b, k, none⟩ (.string v)) (some b) := by
  have := World.ownsRow.stored h k (.string v)
  rw [tvals_set] at this
  exact this
theorem RowT.frozen {b : Nat} (h : RowT w base (some ⟨b, 0, none⟩) n c f) (k : Nat) : w.frozen? ⟨b, k, none⟩ = false := World.ownsRow.frozenAt h k
theorem RowT.cell {b k : Nat} (h : RowT w base (some ⟨b, 0, none⟩) n c f) (hk : k < n) : w.cell? ⟨b, k, none⟩ = some (.string (f k)) := by
  rw [World.ownsRow.cellAt h k (by omega), tvals_get hk]
theorem RowT.lt {b : Nat} (h : RowT w base (some ⟨b, 0, none⟩) n c f) : base ≤ b ∧ b < w.heap.size := World.ownsRow.lt h b rfl
theorem RowT.own (h : RowT w base A n c f) : ∀ b, (Value.slice A n c).ownBlock = some b → base ≤ b := fun b hb => (World.ownsRow.lt h b hb).1
theorem RowT.nil (w : World) (base : Nat) (f : Nat → ByteArray) : RowT w base none 0 0 f := by
  unfold RowT
  simpa [tvals] using World.ownsRow_nil w base 9 1
end

/-- '[]int' written out without an element. -/
theorem RowT.empty {w : World} {base : Nat} (f : Nat → ByteArray) (hb : base ≤ w.heap.size) : RowT (w.alloc (.cells #[] 9)) base (some ⟨w.heap.size, 0, none⟩) 0 0 f := by
  have h := World.ownsRow_lit (e := 9) (size := 1) (base := base) w #[] 0 hb (Nat.zero_le _) (by simp)
  simpa [RowT, tvals] using h
theorem RowT.emptyAt {w : World} {base g : Nat} (f : Nat → ByteArray) (hg : g = w.heap.size) (hb : base ≤ w.heap.size) : RowT (w.alloc (.cells #[] 9)) base (some ⟨g, 0, none⟩) 0 0 f := by
  subst hg; exact RowT.empty f hb
/-- f, and X behind its first n numbers. -/
def snocT (f : Nat → ByteArray) (n : Nat) (X : ByteArray) (i : Nat) : ByteArray := if i < n then f i else X
theorem snocT_lo {f : Nat → ByteArray} {n i : Nat} {X : ByteArray} (h : i < n) : snocT f n X i = f i := by simp [snocT, h]
theorem snocT_at (f : Nat → ByteArray) (n : Nat) (X : ByteArray) : snocT f n X n = X := by simp [snocT]
theorem tvals_snocT (f : Nat → ByteArray) (n : Nat) (X : ByteArray) : tvals (snocT f n X) (n + 1) = tvals f n ++ [.string X] := by
  rw [tvals_succ, snocT_at, tvals_congr (g := f) fun i hi => snocT_lo hi]
/-- f, and g behind its first n numbers. -/
def catT (f : Nat → ByteArray) (n : Nat) (g : Nat → ByteArray) (i : Nat) : ByteArray := if i < n then f i else g (i - n)
theorem catT_lo {f g : Nat → ByteArray} {n i : Nat} (h : i < n) : catT f n g i = f i := by simp [catT, h]
theorem catT_hi {f g : Nat → ByteArray} {n i : Nat} (h : n ≤ i) : catT f n g i = g (i - n) := by simp [catT, Nat.not_lt.2 h]
theorem tvals_cat (f : Nat → ByteArray) (n : Nat) (g : Nat → ByteArray) (m : Nat) : tvals (catT f n g) (n + m) = tvals f n ++ tvals g m := by
  apply List.ext_getElem?
  intro i
  by_cases h : i < n
  · rw [tvals_get (by omega), catT_lo h, List.getElem?_append_left (by rw [tvals_length]; exact h), tvals_get h]
  · rw [List.getElem?_append_right (by rw [tvals_length]; omega), tvals_length]
    by_cases h' : i < n + m
    · rw [tvals_get h', catT_hi (by omega), tvals_get (by omega)]
    · rw [List.getElem?_eq_none (by rw [tvals_length]; omega), List.getElem?_eq_none (by rw [tvals_length]; omega)]
theorem row_shapeT {w : World} {base : Nat} {v : Value} {n : Nat} {xs : List Value} (h : w.ownsRow base 9 1 v n xs) : ∃ A c, v = .slice A n c := by
  rcases h.2 with ⟨rfl, rfl⟩ | ⟨b, cap, cur, rfl, _⟩
  · exact ⟨_, _, rfl⟩
  · exact ⟨_, _, rfl⟩

theorem snocT_self (f : Nat → ByteArray) (n : Nat) : ∀ i, i < n + 1 → snocT f n (f n) i = f i := by
  intro i hi
  unfold snocT
  split
  · rfl
  · rw [show n = i by omega]

/-- append of one int onto a row of the call's own. -/
theorem append_text2 (W : World) {ops : Array Oper} {rest : List Oper} {o : Oper} {a : Act} {Q : Exit → Act → World → Prop} (hg : o.guard = none) (s x : Operand)
    (hop : o.op = Op.call { callee := Callee.builtin Builtin.append, args := #[s, x], argTypes := #[37, 37] }) {base : Nat} {A : Option Addr} {n c : Nat} {f : Nat → ByteArray}
    (hs : a.eval s = .slice A n c) (hr : RowT W base A n c f) (g : Nat) (X : ByteArray) (hx : a.eval x = .slice (some ⟨g, 0, none⟩) 1 1) (hcell : W.cell? ⟨g, 0, none⟩ = some (.string X))
    (hn : n ≤ 1000000000) (hb : base ≤ W.heap.size)
    (hK : ∀ A' c' w', RowT w' base A' (n + 1) c' (snocT f n X) → W.grownBy w' (Value.slice A n c).ownBlock → wpList Tryz.prog ops Q rest (a.put o.dst (.slice A' (n + 1 : Nat) c')) w') : wpList Tryz.prog ops Q (o :: rest) a W := by
  obtain ⟨i0, hi, hz0, hz1, hz2⟩ := info_parts Tryz.infoTxt
  refine wpList_append_own W hg s x 37 hop base 9 i0 (.string ByteArray.empty) 1 16 Tryz.underlying37 hi hz0 hz1 hz2 rfl (by decide) _ _ _ hs hr ⟨g, 0, none⟩ 1 1 [.string X] hx rfl ?_ ?_ (by unfold maxLen; omega) (by omega) hb ?_
  · intro j u hj
    match j, hj with
    | 0, hj => simp at hj; subst hj; simpa [Addr.add] using hcell
  · intro u hu; simp at hu; subst hu; rfl
  · intro v' w' hown hgrow _
    obtain ⟨A', c', rfl⟩ := row_shapeT hown
    exact hK A' c' w' (by unfold RowT; rw [tvals_snocT]; exact hown) hgrow

/-- append of a slice of ints onto a row of the call's own. -/
theorem append_texts2 (W : World) {ops : Array Oper} {rest : List Oper} {o : Oper} {a : Act} {Q : Exit → Act → World → Prop} (hg : o.guard = none) (s x : Operand)
    (hop : o.op = Op.call { callee := Callee.builtin Builtin.append, args := #[s, x], argTypes := #[37, 37] }) {base B : Nat} {A A2 : Option Addr} {n c m c2 : Nat} {f f2 : Nat → ByteArray}
    (hs : a.eval s = .slice A n c) (hr : RowT W base A n c f) (hx : a.eval x = .slice A2 m c2) (hr2 : Texts W B A2 m f2) (hc2 : A2 = none → c2 = 0)
    (hn : n + m ≤ 1000000000) (hb : base ≤ W.heap.size)
    (hK : ∀ A' c' w', RowT w' base A' (n + m) c' (catT f n f2) → W.grownBy w' (Value.slice A n c).ownBlock → wpList Tryz.prog ops Q rest (a.put o.dst (.slice A' (n + m : Nat) c')) w') : wpList Tryz.prog ops Q (o :: rest) a W := by
  obtain ⟨i0, hi, hz0, hz1, hz2⟩ := info_parts Tryz.infoTxt
  cases A2 with
  | none =>
    have hm : m = 0 := by
      rcases Nat.eq_zero_or_pos m with h0 | h0
      · exact h0
      · obtain ⟨b, off, h, _⟩ := hr2 h0
        cases h
    subst hm
    rw [hc2 rfl] at hx
    refine wpList_append_own_none hg s x 37 hop base 9 i0 1 Tryz.underlying37 hi _ _ _ hs hr hx ?_
    exact hK A c W (hr.congr fun i hi => (catT_lo hi).symm) (World.grownBy.refl _ _)
  | some ad =>
    refine wpList_append_own W hg s x 37 hop base 9 i0 (.string ByteArray.empty) 1 16 Tryz.underlying37 hi hz0 hz1 hz2 rfl (by decide) _ _ _ hs hr ad m c2 (tvals f2 m) hx (by rw [tvals_length, Nat.mul_one]) ?_ tvals_one (by unfold maxLen; omega) (by omega) hb ?_
    · intro j u hj
      have hjm : j < m := by
        rcases Nat.lt_or_ge j m with h | h
        · exact h
        · rw [List.getElem?_eq_none (by rw [tvals_length]; omega)] at hj; cases hj
      obtain ⟨b, off, h, _, hc⟩ := hr2 (by omega)
      rw [tvals_get hjm] at hj
      cases h
      rw [← hj, Addr.add_lit]
      exact hc j hjm
    · intro v' w' hown hgrow _
      obtain ⟨A', c', rfl⟩ := row_shapeT hown
      exact hK A' c' w' (by unfold RowT; rw [tvals_cat]; exact hown) hgrow

theorem Texts.grown {w w' : World} {B : Nat} {A : Option Addr} {n : Nat} {f : Nat → ByteArray} {row : Option Nat} (h : Texts w B A n f) (hg : w.grownBy w' row) (hB : B ≤ w.heap.size) (hr : ∀ b, row = some b → B ≤ b) : Texts w' B A n f :=
  h.keep fun p hp => World.cell?_of_block (hg.block p.block (by omega) (fun e => by have := hr _ e.symm; omega))
theorem RowT.wrote {w w' : World} {base : Nat} {A A' : Option Addr} {n c n' : Nat} {f : Nat → ByteArray} (h : RowT w base A n c f) (hw : Wrote w w' A' n') (hA : 0 < n' → ∀ b, A' = some ⟨b, 0, none⟩ → b < base) : RowT w' base A n c f := by
  obtain ⟨row, hg, hr⟩ := hw
  exact h.kept hg (.inr fun b e => .inl (hA (hr b e).1 b (hr b e).2))
theorem Texts.wrote {w w' : World} {B : Nat} {A A' : Option Addr} {n n' : Nat} {f : Nat → ByteArray} (h : Texts w B A n f) (hw : Wrote w w' A' n') (hB : B ≤ w.heap.size) (hA : 0 < n' → ∀ b, A' = some ⟨b, 0, none⟩ → B ≤ b) : Texts w' B A n f := by
  obtain ⟨row, hg, hr⟩ := hw
  exact h.grown hg hB fun b e => hA (hr b e).1 b (hr b e).2

/-- Where a row lies. -/
theorem RowT.lies {w : World} {base : Nat} {A : Option Addr} {n c : Nat} {f : Nat → ByteArray} (h : RowT w base A n c f) : 0 < n → ∀ b, A = some ⟨b, 0, none⟩ → base ≤ b ∧ b < w.heap.size := by
  intro hn b e
  obtain ⟨b', e', h1, h2⟩ := h.form hn
  rw [e] at e'
  have : b = b' := by simpa using e'
  subst this
  exact ⟨h1, h2⟩

theorem toList_inj {a b : ByteArray} : a.toList = b.toList ↔ a = b := by
  constructor
  · intro h
    rw [ByteArray.toList_eq, ByteArray.toList_eq] at h
    cases a; cases b
    simp only [ByteArray.mk.injEq]
    exact Array.toList_inj.1 h
  · rintro rfl; rfl
theorem toList_ne {a b : ByteArray} (h : ¬ a = b) : (a.toList == b.toList) = false := by
  rw [beq_eq_false_iff_ne]
  exact fun e => h (toList_inj.1 e)
def eqPt (f g : Nat → ByteArray) (i : Nat) : Bool := (f i).toList == (g i).toList
def eqBt (f : Nat → ByteArray) (n : Nat) (g : Nat → ByteArray) (m : Nat) : Bool := n == m && allB (eqPt f g) n
theorem eqBt_iff {f : Nat → ByteArray} {n : Nat} {g : Nat → ByteArray} {m : Nat} : eqBt f n g m = true ↔ n = m ∧ ∀ i, i < n → f i = g i := by
  simp only [eqBt, allB_iff, eqPt, Bool.and_eq_true, beq_iff_eq, toList_inj]
theorem eqBt_refl (f : Nat → ByteArray) (n : Nat) : eqBt f n f n = true := eqBt_iff.2 ⟨rfl, fun _ _ => rfl⟩

theorem eqStringS_any {w : World} {B B' : Nat} {A A' : Option Addr} {n m c c' : Nat} {f g : Nat → ByteArray} (hn : n ≤ 9223372036854775806) (hs : Texts w B A n f) (hs' : Texts w B' A' m g) :
    Calls Tryz.prog 24 #[.slice A n c, .slice A' m c'] w fun e w' => e = .returned (.bool (eqBt f n g m)) ∧ Drew w w' := by
  by_cases hnm : n = m
  · subst hnm
    go_enter Tryz.func24, Tryz.ntmps24
    go_wp2
    go_loopw [5] (fun s5 wr => ∃ k : Nat, k ≤ n ∧ s5 = .int .i64 k ∧ Hid (allB (eqPt f g) k = true) ∧ Drew w wr) (fun s5 _ => n - (intOf s5).toNat)
    case atStart => exact ⟨0, Nat.zero_le _, rfl, rfl, Drew.refl _⟩
    case round =>
      obtain ⟨k, hk, rfl, HK, m, rfl⟩ := hrel
      by_cases hlt : k < n
      · obtain ⟨b, off, rfl, _, hc⟩ := hs (by omega)
        obtain ⟨b', off', rfl, _, hc'⟩ := hs' (by omega)
        have c0 := hc k hlt
        have c1 := hc' k hlt
        clear hc hs hc' hs'
        by_cases h1 : f k = g k
        · have HN := Lib.hid (show eqPt f g k = true by simp [eqPt, h1])
          have he : ((f k).toList == (g k).toList) = true := by simp [h1]
          clear h1
          go_wp2
          go_quiet (fail)
          go_wp2
          go_roundw
          case rel => exact ⟨k + 1, by omega, by go_num, allB_succ HK.out HN.out, by first | exact ⟨_, rfl⟩ | exact ⟨_, World.drewN_drewN _ _ _⟩⟩
          case measure => simp [intOf]; omega
        · have HN := Lib.hid (show eqPt f g k = false from toList_ne h1)
          have he : ((f k).toList == (g k).toList) = false := toList_ne h1
          clear h1
          go_wp2
          go_quiet (fail)
          go_wp2
          go_ret
          exact ⟨ret_bool (by simp [eqBt, allB_no hlt HN.out]), (Drew.refl _).n _ |>.n _⟩
      · obtain rfl : k = n := by omega
        go_wp2
        go_ret
        exact ⟨ret_bool (by simp [eqBt, HK.out]), (Drew.refl _).n _⟩
  · have he : ((n : Int) == (m : Int)) = false := by simp; omega
    have HN := Lib.hid (show eqBt f n g m = false by simp [eqBt, hnm])
    clear hnm
    go_enter Tryz.func24, Tryz.ntmps24
    go_wp2
    go_ret
    exact ⟨ret_bool HN.out.symm, Drew.refl _⟩
theorem sameTexts_any {w : World} {B B' : Nat} {A A' : Option Addr} {n m c c' : Nat} {f g : Nat → ByteArray} (hn : n ≤ 9223372036854775806) (hs : Texts w B A n f) (hs' : Texts w B' A' m g) :
    Calls Tryz.prog 11 #[.slice A n c, .slice A' m c'] w fun e w' => e = .returned (.bool (eqBt f n g m)) ∧ Drew w w' := by
  by_cases hnm : n = m
  · subst hnm
    go_enter Tryz.func11, Tryz.ntmps11
    go_wp2
    go_loopw [5] (fun s5 wr => ∃ k : Nat, k ≤ n ∧ s5 = .int .i64 k ∧ Hid (allB (eqPt f g) k = true) ∧ Drew w wr) (fun s5 _ => n - (intOf s5).toNat)
    case atStart => exact ⟨0, Nat.zero_le _, rfl, rfl, Drew.refl _⟩
    case round =>
      obtain ⟨k, hk, rfl, HK, m, rfl⟩ := hrel
      by_cases hlt : k < n
      · obtain ⟨b, off, rfl, _, hc⟩ := hs (by omega)
        obtain ⟨b', off', rfl, _, hc'⟩ := hs' (by omega)
        have c0 := hc k hlt
        have c1 := hc' k hlt
        clear hc hs hc' hs'
        by_cases h1 : f k = g k
        · have HN := Lib.hid (show eqPt f g k = true by simp [eqPt, h1])
          have he : ((f k).toList == (g k).toList) = true := by simp [h1]
          clear h1
          go_wp2
          go_quiet (fail)
          go_wp2
          go_roundw
          case rel => exact ⟨k + 1, by omega, by go_num, allB_succ HK.out HN.out, by first | exact ⟨_, rfl⟩ | exact ⟨_, World.drewN_drewN _ _ _⟩⟩
          case measure => simp [intOf]; omega
        · have HN := Lib.hid (show eqPt f g k = false from toList_ne h1)
          have he : ((f k).toList == (g k).toList) = false := toList_ne h1
          clear h1
          go_wp2
          go_quiet (fail)
          go_wp2
          go_ret
          exact ⟨ret_bool (by simp [eqBt, allB_no hlt HN.out]), (Drew.refl _).n _ |>.n _⟩
      · obtain rfl : k = n := by omega
        go_wp2
        go_ret
        exact ⟨ret_bool (by simp [eqBt, HK.out]), (Drew.refl _).n _⟩
  · have he : ((n : Int) == (m : Int)) = false := by simp; omega
    have HN := Lib.hid (show eqBt f n g m = false by simp [eqBt, hnm])
    clear hnm
    go_enter Tryz.func11, Tryz.ntmps11
    go_wp2
    go_ret
    exact ⟨ret_bool HN.out.symm, Drew.refl _⟩
theorem toStringS_any {w : World} {B : Nat} {A : Option Addr} {n c : Nat} {f : Nat → ByteArray} (hn : n ≤ 17592186044415) (hB : B ≤ w.heap.size) (hs : Texts w B A n f) :
    Calls Tryz.prog 23 #[.slice A n c] w fun e w' => ∃ A' c', e = .returned (.slice A' n c') ∧ RowT w' w.heap.size A' n c' f ∧ Below w.heap.size w w' := by
  obtain ⟨i0, hi, hz0, hz1, hz2⟩ := info_parts Tryz.infoTxt
  go_enter Tryz.func23, Tryz.ntmps23
  go_wp2_with (at_make; refine wpList_make_full _ rfl _ _ 37 rfl w.heap.size 9 i0 (.string ByteArray.empty) 1 Tryz.underlying37 hi hz0 hz1 _ _ _ _ n rfl rfl rfl rfl (by rw [hz2]; omega) (by unfold maxLen; omega) (Nat.le_refl _) ?_; intro w1 hown hgrow)
  have hrow0 : RowT w1 w.heap.size (some ⟨w.heap.size, 0, none⟩) n n (fun _ => ByteArray.empty) := by
    unfold RowT
    rw [← tvals_made]
    exact hown
  have hb0 := (Below.refl w.heap.size w).grown hgrow (Nat.le_refl _) (by intro k hk; cases hk)
  clear hown hgrow hi hz0 hz1 hz2
  have HS := Lib.hid hs
  clear hs
  go_wp2
  go_loopw [4] (fun s4 wr => ∃ k : Nat, k ≤ n ∧ s4 = .int .i64 k ∧ RowT wr w.heap.size (some ⟨w.heap.size, 0, none⟩) n n (fun i => if i < k then f i else ByteArray.empty) ∧ Below w.heap.size w wr) (fun s4 _ => n - (intOf s4).toNat)
  case atStart => exact ⟨0, Nat.zero_le _, rfl, hrow0.congr fun i hi => by simp, hb0⟩
  case round =>
    obtain ⟨k, hk, rfl, hr, hb⟩ := hrel
    clear hrow0 hb0
    by_cases hlt : k < n
    · obtain ⟨b, off, rfl, hbB, hc⟩ := HS.out (by omega)
      have c0 := (hb.cell (p := ⟨b, off + k, none⟩) (by simp; omega)).trans (hc k hlt)
      have c1 := hr.cell hlt
      have c2 := hr.frozen k
      have hnext := hr.set (k := k) (f k)
      have hr2 := hnext.1.congr (g := fun i => if i < k + 1 then f i else ByteArray.empty) (fun i hi => by
        unfold updT
        by_cases e : i = k
        · subst e; simp
        · have : (i < k + 1) = (i < k) := by simp; omega
          simp [e, this])
      have HR := Lib.hid hr2
      have HB := Lib.hid (hb.setCell (p := ⟨w.heap.size, k, none⟩) (Nat.le_refl _) (.string (f k)))
      clear hr hb hnext hr2 HS hc
      go_wp2
      go_roundw
      case rel => exact ⟨k + 1, by omega, by go_num, HR.out, HB.out⟩
      case measure => simp [intOf]; omega
    · obtain rfl : k = n := by omega
      have HR := Lib.hid (hr.congr (g := f) (fun i hi => by simp [hi]))
      clear hr
      go_wp2
      go_ret
      exact ⟨_, _, rfl, HR.out, hb⟩
end Go.Proofs.YthkpikkjgggimaaGreatDoor
