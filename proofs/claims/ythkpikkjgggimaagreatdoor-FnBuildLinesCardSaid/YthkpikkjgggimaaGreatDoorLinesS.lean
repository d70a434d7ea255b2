/-
  The contract of the reference's BuildLines. No claim stands here.
-/
import Derived.Test.YthkpikkjgggimaaGreatDoorLinesM
namespace Go.Proofs.YthkpikkjgggimaaGreatDoor
open Go.RowKit
set_option linter.unusedVariables false
set_option linter.unusedSimpArgs false

theorem koffT {W : World} {g base n c : Nat} {xs : Array Value} {A : Option Addr} {f : Nat → ByteArray} (h : KBx W g xs) (r : RowT W base A n c f) : ∀ x, A = some x → g ≠ x.block := by
  intro x hx e
  rcases r.2 with ⟨hv, _⟩ | ⟨k, cap, cur, hv, _, hh, _⟩
  · simp only [Value.slice.injEq] at hv; rw [hx] at hv; cases hv.1
  · simp only [Value.slice.injEq] at hv
    rw [hx] at hv
    have hk : x = ⟨k, 0, none⟩ := Option.some.inj hv.1
    subst hk
    simp only at e
    rw [← e, h] at hh
    simp at hh
theorem RowT.other {w : World} {base : Nat} {A : Option Addr} {n c : Nat} {f : Nat → ByteArray} (h : RowT w base A n c f) (p : Addr) (v : Value) (hp : ∀ x, A = some x → p.block ≠ x.block) : RowT (w.setCell p v) base A n c f := by
  refine ⟨h.1, ?_⟩
  rcases h.2 with h' | ⟨b, cap, cur, hv, hbb, hh, r⟩
  · exact .inl h'
  · simp only [Value.slice.injEq] at hv
    exact .inr ⟨b, cap, cur, by simp [hv.1, hv.2], hbb, heap_other hh (hp _ hv.1), r⟩
theorem rowT_sets {W : World} {base g n c : Nat} {A : Option Addr} {f : Nat → ByteArray} (l : List (Addr × Value)) (h : RowT W base A n c f) (ho : ∀ x, A = some x → g ≠ x.block) (hl : ∀ q ∈ l, q.1.block = g) : RowT (sets W l) base A n c f := by
  induction l generalizing W with
  | nil => exact h
  | cons q l ih => exact ih (h.other q.1 q.2 (by rw [hl q (by simp)]; exact ho)) (fun x hx => hl x (by simp [hx]))
/-- A row of texts lies in no block in which a row of numbers or of truths lies. -/
theorem apartTI {W : World} {base base' n c m k : Nat} {A C : Option Addr} {f : Nat → ByteArray} {p : Nat → Int} (h : RowT W base A n c f) (r : Row W base' C m k p) : Apart C A := by
  intro x y hx hy e
  rcases h.2 with ⟨hv, _⟩ | ⟨k1, cap, cur, hv, _, hh, _⟩
  · simp only [Value.slice.injEq] at hv; rw [hy] at hv; cases hv.1
  · rcases r.2 with ⟨hv2, _⟩ | ⟨k2, cap2, cur2, hv2, _, hh2, _⟩
    · simp only [Value.slice.injEq] at hv2; rw [hx] at hv2; cases hv2.1
    · simp only [Value.slice.injEq] at hv hv2
      rw [hy] at hv; rw [hx] at hv2
      have e1 : y = ⟨k1, 0, none⟩ := Option.some.inj hv.1
      have e2 : x = ⟨k2, 0, none⟩ := Option.some.inj hv2.1
      subst e1; subst e2
      simp only at e
      rw [e, hh] at hh2
      simp at hh2
theorem apartTB {W : World} {base base' n c m k : Nat} {A C : Option Addr} {f : Nat → ByteArray} {p : Nat → Bool} (h : RowT W base A n c f) (r : RowB W base' C m k p) : Apart C A := by
  intro x y hx hy e
  rcases h.2 with ⟨hv, _⟩ | ⟨k1, cap, cur, hv, _, hh, _⟩
  · simp only [Value.slice.injEq] at hv; rw [hy] at hv; cases hv.1
  · rcases r.2 with ⟨hv2, _⟩ | ⟨k2, cap2, cur2, hv2, _, hh2, _⟩
    · simp only [Value.slice.injEq] at hv2; rw [hx] at hv2; cases hv2.1
    · simp only [Value.slice.injEq] at hv hv2
      rw [hy] at hv; rw [hx] at hv2
      have e1 : y = ⟨k1, 0, none⟩ := Option.some.inj hv.1
      have e2 : x = ⟨k2, 0, none⟩ := Option.some.inj hv2.1
      subst e1; subst e2
      simp only at e
      rw [e, hh] at hh2
      simp at hh2
theorem rowG {W W' : World} {base n c : Nat} {A C : Option Addr} {f : Nat → Int} {m k : Nat} (h : Row W base A n c f) (hg : W.grownBy W' (Value.slice C m k).ownBlock) (ha : Apart A C) : Row W' base A n c f := by
  refine World.ownsRow.kept h hg ?_
  cases A with
  | none => exact .inl rfl
  | some x =>
    right
    cases C with
    | none => simp [Value.ownBlock]
    | some y =>
      have := ha x y rfl rfl
      simpa [Value.ownBlock] using this
theorem rowBG {W W' : World} {base n c : Nat} {A C : Option Addr} {f : Nat → Bool} {m k : Nat} (h : RowB W base A n c f) (hg : W.grownBy W' (Value.slice C m k).ownBlock) (ha : Apart A C) : RowB W' base A n c f := by
  refine World.ownsRow.kept h hg ?_
  cases A with
  | none => exact .inl rfl
  | some x =>
    right
    cases C with
    | none => simp [Value.ownBlock]
    | some y =>
      have := ha x y rfl rfl
      simpa [Value.ownBlock] using this
theorem own_grownT {W W' : World} {base base' m k : Nat} {C : Option Addr} {f : Nat → ByteArray} {v : Bv} {b : Bld} (o : OwnB W base v b) (r : RowT W base' C m k f) (hg : W.grownBy W' (Value.slice C m k).ownBlock) : OwnB W' base v b :=
  ⟨rowG o.h hg (apartTI r o.h), ⟨rowBG o.k.u hg (apartTB r o.k.u), rowBG o.k.d hg (apartTB r o.k.d), rowBG o.k.c hg (apartTB r o.k.c), o.k.ud, o.k.uc, o.k.dc⟩, o.hu, o.hd, o.hc⟩
theorem KBx.keptO {W W' : World} {b : Nat} {row : Option Nat} {xs : Array Value} (h : KBx W b xs) (hg : W.grownBy W' row) (hne : row ≠ some b) : KBx W' b xs :=
  (hg.block b h.bx.lt (by intro e; exact hne e.symm)).trans h
theorem own_block_neT {C : Option Addr} {m k g : Nat} (h : ∀ x, C = some x → g ≠ x.block) : (Value.slice C m k).ownBlock ≠ some g := by
  cases C with
  | none => simp [Value.ownBlock]
  | some x => have := h x rfl; simp [Value.ownBlock]; exact fun e => this e.symm

/-- What the operations of a round leave. -/
def LsR (base lo k n c : Nat) (vb : Value) (A : Option Addr) (pt : Value) (x ak : ByteArray) (b' : Bld) : Nat → Value → World → Prop
  | 0, v, _ => v = vb
  | 1, v, _ => v = .slice A n c
  | 2, v, _ => v = .int .i64 k
  | 3, v, _ => v = pt
  | 4, v, _ => v = .string x
  | 5, v, W => ∃ v', v = .tuple #[bval v' b', .string ak] ∧ OwnB W base v' b'
  | 6, v, W => ∃ v', v = .tuple #[bval v' b', .string ak] ∧ OwnB W base v' b'
  | 7, v, W => ∃ v', v = bval v' b' ∧ OwnB W base v' b'
  | 8, v, _ => v = .string ak
  | 9, v, W => ∃ g, v = .pointer (some ⟨g, 0, none⟩) ∧ lo ≤ g ∧ ∃ a0 a1 a2 a3 a4 a5 a6 a7 a8 a9 a10 : Value, KBx W g #[a0, a1, a2, a3, a4, a5, a6, a7, a8, a9, a10]
  | 10, v, W => ∃ g v', v = .pointer (some ⟨g, 0, none⟩) ∧ lo ≤ g ∧ KBx W g (bcells v' b') ∧ OwnB W base v' b'
  | 11, v, _ => v = .string ak
  | _, _, _ => True
theorem LsR.below {base lo k n c : Nat} {vb pt : Value} {A : Option Addr} {x ak : ByteArray} {b' : Bld} {W W' : World} (hb : Below W.heap.size W W') : ∀ j v, LsR base lo k n c vb A pt x ak b' j v W → LsR base lo k n c vb A pt x ak b' j v W' := by
  intro j v h
  unfold LsR at h ⊢
  split at h
  all_goals first
    | with_reducible exact h
    | (obtain ⟨v', h1, h2⟩ := h; with_reducible exact ⟨v', h1, ownB_below h2 hb⟩)
    | (obtain ⟨g, h1, h2, a0, a1, a2, a3, a4, a5, a6, a7, a8, a9, a10, h3⟩ := h; with_reducible exact ⟨g, h1, h2, _, _, _, _, _, _, _, _, _, _, _, h3.below hb⟩)
    | (obtain ⟨g, v', h1, h2, h3, h4⟩ := h; with_reducible exact ⟨g, v', h1, h2, h3.below hb, ownB_below h4 hb⟩)
theorem LsR.stored {base lo k n c : Nat} {vb pt : Value} {A : Option Addr} {x ak : ByteArray} {b' : Bld} {W : World} {g8 : Nat} {a0 a1 a2 a3 a4 a5 a6 a7 a8 a9 a10 : Value} (hk : KBx W g8 #[a0, a1, a2, a3, a4, a5, a6, a7, a8, a9, a10]) (v0 : Bv) (b0 : Bld) :
    ∀ j v, j ≠ 10 → LsR base lo k n c vb A pt x ak b' j v W → LsR base lo k n c vb A pt x ak b' j v (sets W (putL g8 v0 b0)) := by
  intro j v hj h
  unfold LsR at h ⊢
  split at h
  all_goals first
    | with_reducible exact h
    | (obtain ⟨v', h1, h2⟩ := h; with_reducible exact ⟨v', h1, own_offs _ h2 (koff hk h2) (fun q hq => putL_block q hq)⟩)
    | (obtain ⟨g, h1, h2, a0, a1, a2, a3, a4, a5, a6, a7, a8, a9, a10, h3⟩ := h
       by_cases e : g = g8
       · subst e; exact ⟨g, h1, h2, _, _, _, _, _, _, _, _, _, _, _, h3.put v0 b0⟩
       · exact ⟨g, h1, h2, _, _, _, _, _, _, _, _, _, _, _, h3.setsFar _ (fun q hq => by rw [putL_block q hq]; exact fun e' => e e'.symm)⟩)
    | exact absurd rfl hj

/-- What holds of the world in a round: the box of the building, the result's box, the row of the answers. -/
structure LsG (w : World) (base lo g1 g7 k : Nat) (v : Bv) (b : Bld) (xs : Array Value) (A : Option Addr) (c : Nat) (f : Nat → ByteArray) (W : World) : Prop where
  x7 : KBx W g7 (bcells v b)
  own : OwnB W base v b
  x1 : Bx W g1 xs
  row : RowT W base A k c f
  bel : Below w.heap.size w W
  hlo : lo ≤ W.heap.size
  al : ∀ x, A = some x → x.block < lo
section
variable {w W W' : World} {base lo g1 g7 k c : Nat} {v : Bv} {b : Bld} {xs : Array Value} {A : Option Addr} {f : Nat → ByteArray}
theorem LsG.below (h : LsG w base lo g1 g7 k v b xs A c f W) (hb : Below W.heap.size W W') : LsG w base lo g1 g7 k v b xs A c f W' :=
  ⟨h.x7.below hb, ownB_below h.own hb, h.x1.below hb h.x1.lt, h.row.below hb (Nat.le_refl _), h.bel.trans (hb.mono h.bel.size), Nat.le_trans h.hlo hb.size, h.al⟩
theorem LsG.top (h : LsG w base lo g1 g7 k v b xs A c f W) : LsG w base W.heap.size g1 g7 k v b xs A c f W := ⟨h.x7, h.own, h.x1, h.row, h.bel, Nat.le_refl _, fun x hx => Nat.lt_of_lt_of_le (h.al x hx) h.hlo⟩
theorem bx_keptO {W W' : World} {b : Nat} {row : Option Nat} {xs : Array Value} (h : Bx W b xs) (hg : W.grownBy W' row) (hne : row ≠ some b) : Bx W' b xs := by
  obtain ⟨T, h'⟩ := h
  exact ⟨T, (hg.block b (Bx.lt ⟨T, h'⟩) (by intro e; exact hne e.symm)).trans h'⟩
theorem LsG.stored (h : LsG w base lo g1 g7 k v b xs A c f W) {g8 : Nat} {ys : Array Value} (hk : KBx W g8 ys) (h7 : g7 < lo) (h1 : g1 < lo) (hw : w.heap.size ≤ lo) (hl : lo ≤ g8) (v0 : Bv) (b0 : Bld) : LsG w base lo g1 g7 k v b xs A c f (sets W (putL g8 v0 b0)) :=
  ⟨h.x7.setsFar _ (fun q hq => by rw [putL_block q hq]; omega), own_offs (putL g8 v0 b0) h.own (koff hk h.own) (fun q hq => putL_block q hq), sets_bx _ h.x1 (fun q hq => by rw [putL_block q hq]; omega),
    rowT_sets (putL g8 v0 b0) h.row (koffT hk h.row) (fun q hq => putL_block q hq), sets_below _ h.bel (fun q hq => by rw [putL_block q hq]; omega), by rw [sets_size]; exact h.hlo, h.al⟩
end

set_option maxRecDepth 100000 in
set_option maxHeartbeats 6400000 in
theorem spec_BuildLines_no {w : World} {B n c : Nat} {v : Bv} {b : Bld} {A : Option Addr} {t : Nat → ByteArray} (hn : b.Small) (hB : B ≤ w.heap.size) (hr : ReadB w B v b) (hl : n ≤ 1000000000) (hv : b.linesOk n = false) :
    Calls Tryz.prog 9 #[bval v b, .slice A n c] w (LinesPost b t n w) := by
  have HR := Lib.hid hr
  have HSm := Lib.hid hn
  have HE := Lib.hid (lines_no (t := t) hv)
  have key : b.valid = false ∨ (b.valid = true ∧ ¬ n ≤ 40) := by
    cases h : b.valid
    · exact .inl rfl
    · right
      refine ⟨rfl, fun h4 => ?_⟩
      simp [Bld.linesOk, h, h4] at hv
  have HX0 := Lib.hid ((Bx.new (w.alloc (.cells (bcells v b) 36)) (bcells Bv.none Bld.none) 36).alloc (.cells #[] 9))
  have HB0 := Lib.hid ((((Below.refl w.heap.size w).alloc (Nat.le_refl _) (.cells (bcells v b) 36)).alloc (by simp) (.cells (bcells Bv.none Bld.none) 36)).alloc (by simp; omega) (.cells #[] 9))
  have HRW := Lib.hid (RowT.empty (w := (w.alloc (.cells (bcells v b) 36)).alloc (.cells (bcells Bv.none Bld.none) 36)) (base := w.heap.size + 2) (b.ansL t) (by simp))
  rw [show (w.alloc (.cells (bcells v b) 36)).heap.size = w.heap.size + 1 by simp] at HX0
  rw [show ((w.alloc (.cells (bcells v b) 36)).alloc (.cells (bcells Bv.none Bld.none) 36)).heap.size = w.heap.size + 1 + 1 by simp] at HRW
  clear hr hv hn
  unfold LinesPost
  rw [HE.out.1, HE.out.2]
  unfold bval bcells at *
  simp only [Bv.none, Bld.none] at HX0 HB0 HRW
  go_enter Tryz.func9, Tryz.ntmps9
  go_wp2_with fail
  refine (spec_BuildValid (v := v) (b := b) HSm.out (Nat.le_trans hB HB0.out.size) (HR.out.below (HB0.out.mono hB))).mono ?_
  rintro e w1 ⟨rfl, hb1⟩
  have HX1 := Lib.hid (HX0.out.below hb1 HX0.out.lt)
  have HB1 := Lib.hid (HB0.out.trans (hb1.mono HB0.out.size))
  have HR1 := Lib.hid (HRW.out.below hb1 (Nat.le_refl _))
  clear hb1 HX0 HB0 HRW
  have c1 := HX1.out.cells
  have z1 := HX1.out.free
  rcases key with hv | ⟨hv, h4⟩
  all_goals
    rw [hv]
    go_wp2
    refine bodyPost_ret (v := .tuple #[bval Bv.none Bld.none, .slice (some ⟨w.heap.size + 1 + 1, 0, none⟩) 0 0]) (by simp [bval, bcells, Bv.none, Bld.none, results, Tryz.results9, go_sem, c1]) rfl ⟨Bv.none, some ⟨w.heap.size + 1 + 1, 0, none⟩, 0, by rfl, own_none _ _, ?_, ?_⟩
    · refine RowT.mono (base := w.heap.size + 2) ?_ (by omega)
      repeat (refine rowT_set (by simp <;> omega) ?_)
      exact HR1.out
    · repeat (refine below_set (by simp <;> omega) ?_)
      exact HB1.out

set_option maxRecDepth 100000 in
set_option maxHeartbeats 12800000 in
theorem spec_BuildLines_yes {w : World} {B n c : Nat} {v : Bv} {b : Bld} {A : Option Addr} {t : Nat → ByteArray} (hn : b.Small) (hB : B ≤ w.heap.size) (hr : ReadB w B v b) (hv : b.valid = true) (hl : n ≤ 40) (ht : Texts w B A n t) (hts : ∀ i, i < n → (t i).size ≤ 1048576) (hh : Here w) :
    Calls Tryz.prog 9 #[bval v b, .slice A n c] w (LinesPost b t n w) := by
  have hok := valid_iff.1 hv
  have HSZ := Lib.hid hok.sizes
  have HOK := Lib.hid hok
  have HR := Lib.hid hr
  have HSm := Lib.hid hn
  have HV := Lib.hid hv
  have HH := Lib.hid hh
  have HT := Lib.hid ht
  have HTS := Lib.hid hts
  have HE := Lib.hid (lines_yes (t := t) (show b.linesOk n = true by simp [Bld.linesOk, hv, hl]))
  have HNX := Lib.hid (line_next hok t)
  have HRO := Lib.hid (runL_ok hok t)
  have HX0 := Lib.hid ((Bx.new (w.alloc (.cells (bcells v b) 36)) (bcells Bv.none Bld.none) 36).alloc (.cells #[] 9))
  have HP0 := Lib.hid (((Bx.new w (bcells v b) 36).alloc (.cells (bcells Bv.none Bld.none) 36)).alloc (.cells #[] 9))
  have HB0 := Lib.hid ((((Below.refl w.heap.size w).alloc (Nat.le_refl _) (.cells (bcells v b) 36)).alloc (by simp) (.cells (bcells Bv.none Bld.none) 36)).alloc (by simp; omega) (.cells #[] 9))
  have HRW := Lib.hid (RowT.empty (w := (w.alloc (.cells (bcells v b) 36)).alloc (.cells (bcells Bv.none Bld.none) 36)) (base := w.heap.size + 2) (b.ansL t) (by simp))
  rw [show (w.alloc (.cells (bcells v b) 36)).heap.size = w.heap.size + 1 by simp] at HX0
  rw [show ((w.alloc (.cells (bcells v b) 36)).alloc (.cells (bcells Bv.none Bld.none) 36)).heap.size = w.heap.size + 1 + 1 by simp] at HRW
  clear hr hn hv hok hh ht hts
  unfold LinesPost
  rw [HE.out.1, HE.out.2]
  clear HE
  unfold bval bcells at *
  simp only [Bv.none, Bld.none] at HX0 HP0 HB0 HRW
  go_enter Tryz.func9, Tryz.ntmps9
  go_wp2_with fail
  refine (spec_BuildValid (v := v) (b := b) HSm.out (Nat.le_trans hB HB0.out.size) (HR.out.below (HB0.out.mono hB))).mono ?_
  rintro e w1 ⟨rfl, hb1⟩
  have HX1 := Lib.hid (HX0.out.below hb1 HX0.out.lt)
  have HP1 := Lib.hid (HP0.out.below hb1 HP0.out.lt)
  have HB1 := Lib.hid (HB0.out.trans (hb1.mono HB0.out.size))
  have HR1 := Lib.hid (HRW.out.below hb1 (Nat.le_refl _))
  have hs1 : w.heap.size + 3 ≤ w1.heap.size := by have := hb1.size; simp at this; omega
  clear hb1 HX0 HB0 HRW HP0
  have c0 := HP1.out.cells
  rw [HV.out]
  go_wp2_with fail
  refine (l27Copy_any (v := v) (b := b) (by have := HSZ.out; omega) (by have := HSZ.out; omega) (by have := HSZ.out; omega) (by have := HSZ.out; omega) (by have := HSZ.out; omega) (by have := HSZ.out; omega) (by have := HSZ.out; omega) (by have := HSZ.out; omega) (Nat.le_trans hB HB1.out.size) (HR.out.below (HB1.out.mono hB))).mono ?_
  rintro e w2 ⟨v2, rfl, ho2, hb2⟩
  have hal := (Below.refl w2.heap.size w2).alloc (Nat.le_refl _) (.cells (bcells v2 b) 36)
  have hs2 : w.heap.size + 3 ≤ w2.heap.size := Nat.le_trans hs1 hb2.size
  have HG2 : Hid (LsG w (w.heap.size + 2) (w2.alloc (.cells (bcells v2 b) 36)).heap.size (w.heap.size + 1) w2.heap.size 0 v2 b #[.slice none 0 0, .int .i64 0, .int .i64 0, .int .i64 0, .int .i64 0, .slice none 0 0, .slice none 0 0, .slice none 0 0, .int .i64 0, .int .i64 0, .bool false] (some ⟨w.heap.size + 1 + 1, 0, none⟩) 0 (b.ansL t) (w2.alloc (.cells (bcells v2 b) 36))) :=
    Lib.hid ⟨(by show (w2.heap.push _)[w2.heap.size]? = _; simp), ownB_below (ho2.mono (by omega)) hal, (HX1.out.below hb2 HX1.out.lt).below hal (by have := (HX1.out.below hb2 HX1.out.lt).lt; omega), (HR1.out.below hb2 (Nat.le_refl _)).below hal (Nat.le_refl _), (HB1.out.trans (hb2.mono HB1.out.size)).alloc (by omega) _, Nat.le_refl _, by intro x hx; cases hx; simp; omega⟩
  clear ho2 hb2 hal HX1 HP1 HB1 HR1 c0
  simp only [bval, bcells]
  unfold bcells at HG2
  go_wp2
  generalize w2.heap.size = g7 at *
  generalize w2.alloc (.cells #[.slice v2.A b.n v2.c, .int .i64 b.pos, .int .i64 b.sp, .int .i64 b.gap, .int .i64 b.hold, .slice v2.U b.nu v2.cu, .slice v2.D b.nd v2.cd, .slice v2.C b.nc v2.cc, .int .i64 b.fl, .int .i64 b.dir, .bool b.op] 36) = w3 at *
  go_loopw [6, 8] (fun s6 s8 wr => ∃ (k : Nat) (v' : Bv) (b' : Bld) (A' : Option Addr) (c' : Nat), k ≤ n ∧ s6 = .slice A' k c' ∧ s8 = .int .i64 k ∧ Hid (b' = b.runL t k) ∧ Hid (LsG w (w.heap.size + 2) wr.heap.size (w.heap.size + 1) g7 k v' b' #[.slice none 0 0, .int .i64 0, .int .i64 0, .int .i64 0, .int .i64 0, .slice none 0 0, .slice none 0 0, .slice none 0 0, .int .i64 0, .int .i64 0, .bool false] A' c' (b.ansL t) wr)) (fun _ s8 _ => n - (intOf s8).toNat)
  case atStart => exact ⟨0, v2, b, _, _, Nat.zero_le _, rfl, rfl, Lib.hid rfl, HG2⟩
  case round =>
    obtain ⟨k, v', b', A', c', hk, rfl, rfl, HK, HG⟩ := hrel
    have hg7 := HG.out.x7.bx.lt
    by_cases hlt : k < n
    · obtain ⟨bl, off, rfl, hbB, hc⟩ := HT.out (by omega)
      have HC := Lib.hid (hc k hlt)
      have htk := HTS.out k hlt
      have HS : Hid b'.Small := Lib.hid (by rw [HK.out]; exact ok_small (HRO.out k))
      have HN : Hid (b'.lined (t k) = b.runL t (k + 1) ∧ ByteArray.mk (b'.says (t k)).toArray = b.ansL t k) := Lib.hid (by rw [HK.out]; exact HNX.out k)
      have HCL := Lib.hid (fun W (h : ReadB W W.heap.size v' b') (hW : Here W) => spec_BuildLine (v := v') (b := b') (t k) htk HS.out (Nat.le_refl _) h hW)
      clear hc
      unfold LinePost at HCL
      rw [HN.out.1, HN.out.2] at HCL
      generalize hb6 : b.runL t (k + 1) = b6 at *
      have HB6 := Lib.hid hb6
      generalize t k = tk at *
      have HAK := Lib.hid (snocT_self (b.ansL t) k)
      generalize hak : b.ansL t k = ak at *
      clear hb6 hak
      go_wp2_with fail
      rename_i hK
      have hwr := HG.out.hlo
      have hwl : w.heap.size + 2 ≤ wr.heap.size := by omega
      refine wp_region_any (by kernel_rfl) ?_
      refine wpAny_typed 12 (fun i => (#[31, 32, 33, 34, 35, 36, 30, 37, 38, 9, 9, 10] : Array Nat).getD i 0) (fun i => i == 10) (LsR (w.heap.size + 2) wr.heap.size k n c (bval v' b') (some ⟨bl, off, none⟩) (.pointer (some ⟨bl, off + k, none⟩)) tk ak b6) (fun _ W => LsG w (w.heap.size + 2) wr.heap.size (w.heap.size + 1) g7 k v' b' #[.slice none 0 0, .int .i64 0, .int .i64 0, .int .i64 0, .int .i64 0, .slice none 0 0, .slice none 0 0, .slice none 0 0, .int .i64 0, .int .i64 0, .bool false] A' c' (b.ansL t) W) rfl 46 rfl (by kernel_rfl) (HG.out.below (below_drewN (Below.refl _ _) 1)) ?_ ?_
      · intro a W U hR hG
        obtain ⟨F, hf, ha⟩ := U.form [false, false, false, false, false, false, false, false, false, true, true, false, false, false, false, false, false, false, false, false, false, false, false, false, false, false, false, false, false, false, true, true, true, true, true, true, true, true, true, false, false, false, false, false, false, false] rfl (by decide)
        obtain ⟨g9, v6, e9, hlo, hx9, ho6⟩ : ∃ g v', a.tmps.getD 9 undef = .pointer (some ⟨g, 0, none⟩) ∧ wr.heap.size ≤ g ∧ KBx W g (bcells v' b6) ∧ OwnB W (w.heap.size + 2) v' b6 := hR 10 (by omega)
        have f9 : a.tmps.getD 9 undef = F 9 := hf 9 (by omega)
        have f10 : a.tmps.getD 10 undef = F 10 := hf 11 (by omega)
        have h10 : a.tmps.getD 10 undef = .string ak := hR 11 (by omega)
        have q9 : F 9 = .pointer (some ⟨g9, 0, none⟩) := f9.symm.trans e9
        have q10 : F 10 = .string ak := f10.symm.trans h10
        simp only [letters, cond_true, cond_false, Nat.reduceAdd, q9, q10] at ha
        obtain ⟨kk, hkk, hg⟩ := hG
        have hx7 := hg.x7
        unfold bcells at hx7
        have HW5 : Hid (LsG w (w.heap.size + 2) wr.heap.size (w.heap.size + 1) g7 k v6 b6 #[.slice none 0 0, .int .i64 0, .int .i64 0, .int .i64 0, .int .i64 0, .slice none 0 0, .slice none 0 0, .slice none 0 0, .int .i64 0, .int .i64 0, .bool false] A' c' (b.ansL t) ((sets W (putL g7 v6 b6)).alloc (.cells #[.string ak] 9))) := Lib.hid (LsG.below ⟨hx7.put v6 b6, own_offs (putL g7 v6 b6) ho6 (koff hx7 ho6) (fun q hq => putL_block q hq), sets_bx _ hg.x1 (fun q hq => by rw [putL_block q hq]; omega), rowT_sets (putL g7 v6 b6) hg.row (koffT hx7 hg.row) (fun q hq => putL_block q hq), sets_below _ hg.bel (fun q hq => by rw [putL_block q hq]; omega), by rw [sets_size]; exact hg.hlo, hg.al⟩ ((Below.refl _ _).alloc (Nat.le_refl _) _))
        have hcell : ((sets W (putL g7 v6 b6)).alloc (.cells #[.string ak] 9)).cell? ⟨W.heap.size, 0, none⟩ = some (.string ak) := by
          rw [cell_of_row _ W.heap.size 0 #[.string ak] 9 (0, 0) (by show ((sets W (putL g7 v6 b6)).heap.push _)[W.heap.size]? = _; rw [show W.heap.size = (sets W (putL g7 v6 b6)).heap.size by rw [sets_size]]; simp)]
          rfl
        have HCE := Lib.hid hcell
        have c9 := hx9.bx.cells
        have c7 := hx7.bx.cells
        have z7 := hx7.bx.free
        unfold bcells at c9
        obtain ⟨W6, hW6⟩ : ∃ W6, W6 = (sets W (putL g7 v6 b6)).alloc (.cells #[.string ak] 9) := ⟨_, rfl⟩
        rw [← hW6] at HW5 HCE
        have HW6 := Lib.hid hW6
        clear hR hf U hg hx9 ho6 e9 f9 f10 h10 q9 q10 HG hcell hx7 hW6
        subst ha
        refine hK _ _ ?_
        go_wp2_with (at_builtin; refine list_at HW6.out ?_; refine append_text2 _ rfl _ _ rfl rfl HW5.out.row W.heap.size ak rfl HCE.out (by omega) (by have := HW5.out.hlo; omega) ?_; intro A3 c3 w7 hr7 hg7'; have HR7 := Lib.hid hr7; have HG7 := Lib.hid hg7'; clear hr7 hg7')
        go_roundw
        case rel =>
          have hne7 := own_block_neT (m := k) (k := c') (koffT HW5.out.x7 HW5.out.row)
          refine ⟨k + 1, v6, b6, A3, c3, by omega, by go_num, by go_num, Lib.hid HB6.out.symm, Lib.hid ⟨HW5.out.x7.keptO HG7.out hne7, own_grownT HW5.out.own HW5.out.row HG7.out, bx_keptO HW5.out.x1 HG7.out (fun e => by have := HW5.out.row.own _ e; omega), HR7.out.congr HAK.out, HW5.out.bel.grown HG7.out (by have := HW5.out.bel.size; omega) (fun x hx => by have := HW5.out.row.own _ hx; omega), Nat.le_refl _, fun x hx => by
            obtain ⟨bb, e, _, h2⟩ := RowT.form HR7.out (by omega)
            rw [hx] at e
            cases e
            exact h2⟩⟩
        case measure => simp [intOf]; omega
      · intro i' o ho a W k' U hG hk' hd
        have hlt' : i' < 12 := (Array.getElem?_eq_some_iff.1 ho).1
        have hu1 := U.other 1 (by decide)
        have hu7 := U.other 7 (by decide)
        have hu8 := U.other 8 (by decide)
        have t1 : a.tmps[1]?.getD undef = .slice (some ⟨bl, off, none⟩) n c := by simpa using hu1
        have t7 : a.tmps[7]?.getD undef = .pointer (some ⟨g7, 0, none⟩) := by simpa using hu7
        have t8 : a.tmps[8]?.getD undef = .int .i64 k := by simpa using hu8
        rcases (by omega : i' = 0 ∨ i' = 1 ∨ i' = 2 ∨ i' = 3 ∨ i' = 4 ∨ i' = 5 ∨ i' = 6 ∨ i' = 7 ∨ i' = 8 ∨ i' = 9 ∨ i' = 10 ∨ i' = 11) with rfl | rfl | rfl | rfl | rfl | rfl | rfl | rfl | rfl | rfl | rfl | rfl
        all_goals (refine wpOp_of ho (by cases ho; rfl) ?_; cases ho)
        · have cc := hG.x7.bx.cells
          unfold bcells at cc
          unfold Oper.wp
          simp [go_sem, Act.eval, t7, cc]
          exact ⟨hG, fun j v _ h => h, .inl ⟨rfl, _, rfl, rfl⟩⟩
        · unfold Oper.wp
          simp [go_sem, Act.eval, t1]
          exact ⟨hG, fun j v _ h => h, .inl ⟨rfl, _, rfl, rfl⟩⟩
        · unfold Oper.wp
          simp [go_sem, Act.eval, t8]
          exact ⟨hG, fun j v _ h => h, .inl ⟨rfl, _, rfl, rfl⟩⟩
        · have q0 := hd ⟨1, .data⟩ (by simp) rfl
          have q1 := hd ⟨2, .data⟩ (by simp) rfl
          have u0 : a.tmps[32]?.getD undef = .slice (some ⟨bl, off, none⟩) n c := by simpa [LsR] using q0
          have u1 : a.tmps[33]?.getD undef = .int .i64 k := by simpa [LsR] using q1
          unfold Oper.wp
          simp [go_sem, Act.eval, u0, u1, hlt]
          exact ⟨hG, fun j v _ h => h, .inl ⟨rfl, _, rfl, rfl⟩⟩
        · have q0 := hd ⟨3, .data⟩ (by simp) rfl
          have u0 : a.tmps[34]?.getD undef = .pointer (some ⟨bl, off + k, none⟩) := by simpa [LsR] using q0
          have cc := (hG.bel.cell (p := ⟨bl, off + k, none⟩) (by show bl < _; omega)).trans HC.out
          unfold Oper.wp
          simp [go_sem, Act.eval, u0, cc]
          exact ⟨hG, fun j v _ h => h, .inl ⟨rfl, _, rfl, rfl⟩⟩
        · have q0 := hd ⟨0, .data⟩ (by simp) rfl
          have q1 := hd ⟨4, .data⟩ (by simp) rfl
          have u0 : a.tmps[31]?.getD undef = bval v' b' := by simpa [LsR] using q0
          have u1 : a.tmps[35]?.getD undef = .string tk := by simpa [LsR] using q1
          have hsz : w.heap.size + 2 ≤ W.heap.size := Nat.le_trans hwl hG.hlo
          unfold Oper.wp
          simp [go_sem, Act.eval, u0, u1]
          refine (HCL.out W hG.own.read (HH.out.below hG.bel)).mono ?_
          rintro e w' ⟨v6, rfl, ho', hb'⟩
          exact ⟨hG.below hb', fun j v _ h => LsR.below hb' j v h, .inl ⟨rfl, _, rfl, ⟨v6, rfl, ho'.mono hsz⟩⟩⟩
        · obtain ⟨v6, h0, ho'⟩ := hd ⟨5, .data⟩ (by simp) rfl
          have u0 : a.tmps[36]?.getD undef = .tuple #[bval v6 b6, .string ak] := by simpa using h0
          unfold Oper.wp
          simp [go_sem, Act.eval, u0]
          exact ⟨hG, fun j v _ h => h, .inl ⟨rfl, _, rfl, ⟨v6, rfl, ho'⟩⟩⟩
        · obtain ⟨v6, h0, ho'⟩ := hd ⟨6, .data⟩ (by simp) rfl
          have u0 : a.tmps[30]?.getD undef = .tuple #[bval v6 b6, .string ak] := by simpa using h0
          unfold Oper.wp
          simp [go_sem, Act.eval, u0]
          exact ⟨hG, fun j v _ h => h, .inl ⟨rfl, _, rfl, ⟨v6, rfl, ho'⟩⟩⟩
        · obtain ⟨v6, h0, ho'⟩ := hd ⟨6, .data⟩ (by simp) rfl
          have u0 : a.tmps[30]?.getD undef = .tuple #[bval v6 b6, .string ak] := by simpa using h0
          unfold Oper.wp
          simp [go_sem, Act.eval, u0]
          exact ⟨hG, fun j v _ h => h, .inl ⟨rfl, _, rfl, rfl⟩⟩
        · have hba := (Below.refl W.heap.size W).alloc (Nat.le_refl _) (.cells (bcells Bv.none Bld.none) 36)
          unfold bcells at hba
          simp only [Bv.none, Bld.none] at hba
          unfold Oper.wp
          simp [go_sem, Act.eval]
          refine ⟨hG.below hba, fun j v _ h => LsR.below hba j v h, .inl ⟨rfl, _, rfl, ⟨W.heap.size, rfl, hG.hlo, .slice none 0 0, .int .i64 0, .int .i64 0, .int .i64 0, .int .i64 0, .slice none 0 0, .slice none 0 0, .slice none 0 0, .int .i64 0, .int .i64 0, .bool false, ?_⟩⟩⟩
          show (W.heap.push _)[W.heap.size]? = _
          simp
        · obtain ⟨v6, h0, ho'⟩ := hd ⟨7, .data⟩ (by simp) rfl
          obtain ⟨g9, h1, hlo, a0, a1, a2, a3, a4, a5, a6, a7, a8, a9, a10, hy⟩ := hd ⟨9, .data⟩ (by simp) rfl
          have u0 : a.tmps[37]?.getD undef = bval v6 b6 := by simpa using h0
          have u1 : a.tmps[9]?.getD undef = .pointer (some ⟨g9, 0, none⟩) := by simpa using h1
          have cc := hy.bx.cells
          have fz := hy.bx.free
          have hG' := hG.stored hy (by omega) (by omega) (by omega) hlo v6 b6
          unfold bval bcells at u0
          unfold Oper.wp
          simp [go_sem, Act.eval, u1, u0, cc, fz]
          exact ⟨hG', fun j v hj h => LsR.stored hy v6 b6 j v hj h, .inr ⟨rfl, ⟨g9, v6, h1, hlo, hy.put v6 b6, own_offs (putL g9 v6 b6) ho' (koff hy ho') (fun q hq => putL_block q hq)⟩⟩⟩
        · have q0 := hd ⟨8, .data⟩ (by simp) rfl
          have u0 : a.tmps[38]?.getD undef = .string ak := by simpa [LsR] using q0
          unfold Oper.wp
          simp [go_sem, Act.eval, u0]
          exact ⟨hG, fun j v _ h => h, .inl ⟨rfl, _, rfl, rfl⟩⟩
    · obtain rfl : k = n := by omega
      have c7 := HG.out.x7.bx.cells
      have c1 := HG.out.x1.cells
      have z1 := HG.out.x1.free
      unfold bcells at c7
      go_wp2
      refine bodyPost_ret (v := .tuple #[bval v' b', .slice A' k c']) (by simp [bval, bcells, results, Tryz.results9, go_sem, c7, c1]) rfl ⟨v', _, _, by rw [HK.out]; rfl, ?_, ?_, ?_⟩
      · rw [← HK.out]
        refine OwnB.mono (base := w.heap.size + 2) ?_ (by omega)
        repeat (refine ownB_set (by simp <;> omega) ?_)
        exact HG.out.own
      · refine RowT.mono (base := w.heap.size + 2) ?_ (by omega)
        repeat (refine rowT_set (by simp <;> omega) ?_)
        exact HG.out.row
      · repeat (refine below_set (by simp <;> omega) ?_)
        exact HG.out.bel

theorem impl_BuildLines {w : World} {B n c : Nat} {v : Bv} {b : Bld} {A : Option Addr} {t : Nat → ByteArray} (hn : b.Small) (hB : B ≤ w.heap.size) (hr : ReadB w B v b) (hl : n ≤ 1000000000) (ht : Texts w B A n t) (hts : ∀ i, i < n → (t i).size ≤ 1048576) (hh : Here w) :
    Calls Tryz.prog 8 #[bval v b, .slice A n c] w (LinesPost b t n w) := by
  cases hv : b.linesOk n
  · exact impl_BuildLines_no hn hB hr hl hv
  · simp only [Bld.linesOk, Bool.and_eq_true, decide_eq_true_eq] at hv
    exact impl_BuildLines_yes hn hB hr hv.1 hv.2 ht hts hh
theorem spec_BuildLines {w : World} {B n c : Nat} {v : Bv} {b : Bld} {A : Option Addr} {t : Nat → ByteArray} (hn : b.Small) (hB : B ≤ w.heap.size) (hr : ReadB w B v b) (hl : n ≤ 1000000000) (ht : Texts w B A n t) (hts : ∀ i, i < n → (t i).size ≤ 1048576) (hh : Here w) :
    Calls Tryz.prog 9 #[bval v b, .slice A n c] w (LinesPost b t n w) := by
  cases hv : b.linesOk n
  · exact spec_BuildLines_no hn hB hr hl hv
  · simp only [Bld.linesOk, Bool.and_eq_true, decide_eq_true_eq] at hv
    exact spec_BuildLines_yes hn hB hr hv.1 hv.2 ht hts hh
end Go.Proofs.YthkpikkjgggimaaGreatDoor
