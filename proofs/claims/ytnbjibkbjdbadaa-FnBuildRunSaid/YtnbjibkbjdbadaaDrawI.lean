/-
  The contracts of the drawings of deeds, and of a building beside a call or deeds. No claim stands here.
-/
import Derived.Test.YtnbjibkbjdbadaaDrawH
namespace Go.Proofs.Ytnbjibkbjdbadaa
open Go.RowKit
set_option linter.unusedVariables false
set_option linter.unusedSimpArgs false

theorem Try.infoDeed : (Try.prog.info? 84).map (fun i => (i.zero, i.size, i.bytes)) = some (some (.agg #[.int .i64 0, .int .i64 0, .int .i64 0]), 3, 24) := by kernel_rfl
/-- Deeds as cells. -/
def dvals (d : Nat → Int × Int × Int) : Nat → List Value
  | 0 => []
  | n + 1 => dvals d n ++ [.int .i64 (d n).1, .int .i64 (d n).2.1, .int .i64 (d n).2.2]
theorem dvals_length (d : Nat → Int × Int × Int) (n : Nat) : (dvals d n).length = n * 3 := by
  induction n with
  | zero => rfl
  | succ n ih => simp only [dvals, List.length_append, ih, List.length_cons, List.length_nil]; omega
theorem dvals_get {d : Nat → Int × Int × Int} {n i : Nat} (h : i < n) : (dvals d n)[i * 3]? = some (.int .i64 (d i).1) ∧ (dvals d n)[i * 3 + 1]? = some (.int .i64 (d i).2.1) ∧ (dvals d n)[i * 3 + 2]? = some (.int .i64 (d i).2.2) := by
  induction n with
  | zero => omega
  | succ n ih =>
    simp only [dvals]
    by_cases e : i < n
    · obtain ⟨a, b, c⟩ := ih e
      have hl := dvals_length d n
      rw [List.getElem?_append_left (by omega), List.getElem?_append_left (by omega), List.getElem?_append_left (by omega)]
      exact ⟨a, b, c⟩
    · obtain rfl : i = n := by omega
      have hl := dvals_length d i
      rw [List.getElem?_append_right (by omega), List.getElem?_append_right (by omega), List.getElem?_append_right (by omega), hl]
      simp
theorem dvals_congr {d d' : Nat → Int × Int × Int} {n : Nat} (h : ∀ i, i < n → d i = d' i) : dvals d n = dvals d' n := by
  induction n with
  | zero => rfl
  | succ n ih => simp only [dvals]; rw [ih (fun i hi => h i (by omega)), h n (by omega)]
def snocD (d : Nat → Int × Int × Int) (n : Nat) (x : Int × Int × Int) (i : Nat) : Int × Int × Int := if i < n then d i else x
theorem dvals_snoc (d : Nat → Int × Int × Int) (n : Nat) (x y z : Int) : dvals (snocD d n (x, y, z)) (n + 1) = dvals d n ++ [.int .i64 x, .int .i64 y, .int .i64 z] := by
  simp only [dvals]
  rw [dvals_congr (d' := d) (fun i hi => by simp [snocD, hi])]
  simp [snocD]
/-- The slice (A, n, c) is a row of deeds of the call's own. -/
def RowD (w : World) (base : Nat) (A : Option Addr) (n c : Nat) (d : Nat → Int × Int × Int) : Prop := w.ownsRow base 84 3 (.slice A n c) n (dvals d n)
section
variable {w w' : World} {base : Nat} {A : Option Addr} {n c : Nat} {d : Nat → Int × Int × Int}
theorem RowD.deeds (h : RowD w base A n c d) : Deeds w w.heap.size A n d := by
  intro hn
  obtain ⟨b, cap, hv, _, hlt⟩ := World.ownsRow.form h hn
  obtain ⟨rfl, -, rfl⟩ : A = some ⟨b, 0, none⟩ ∧ n = n ∧ c = cap := by simpa using hv
  refine ⟨b, 0, rfl, hlt, fun i hi => ?_⟩
  obtain ⟨g0, g1, g2⟩ := dvals_get (d := d) hi
  rw [Nat.zero_add, World.ownsRow.cellAt h (i * 3) (by omega), World.ownsRow.cellAt h (i * 3 + 1) (by omega), World.ownsRow.cellAt h (i * 3 + 2) (by omega)]
  exact ⟨g0, g1, g2⟩
theorem RowD.kept {row : Option Nat} (h : RowD w base A n c d) (hg : w.grownBy w' row) (hne : row = none ∨ ∀ b, row = some b → b < base ∨ w.heap.size ≤ b) : RowD w' base A n c d := by
  refine World.ownsRow.kept h hg ?_
  cases hb : (Value.slice A n c).ownBlock with
  | none => exact .inl rfl
  | some b =>
    right
    have := World.ownsRow.lt h b hb
    rcases hne with rfl | hne
    · simp
    · intro e
      have := hne b e.symm
      omega
theorem RowD.below (h : RowD w base A n c d) (hb : Below w.heap.size w w') : RowD w' base A n c d :=
  h.kept (row := none) ⟨hb.os, hb.tape, hb.output, hb.size, fun k hk _ => hb.block k hk⟩ (.inl rfl)
theorem RowD.alloc (h : RowD w base A n c d) (o : Obj) : RowD (w.alloc o) base A n c d := h.kept (World.grownBy_alloc w o none) (.inl rfl)
theorem RowD.form (h : RowD w base A n c d) (hn : 0 < n) : ∃ b, A = some ⟨b, 0, none⟩ := by
  obtain ⟨b, cap, hv, hb, hlt⟩ := World.ownsRow.form h hn
  obtain ⟨rfl, -⟩ : A = some ⟨b, 0, none⟩ ∧ c = cap := by simpa using hv
  exact ⟨b, rfl⟩
theorem RowD.cap (h : RowD w base A n c d) : n ≤ c ∧ c ≤ maxLen := by
  rcases h.2 with ⟨hv, h0⟩ | ⟨b, cap, cur, hv, _, _, hc, hm, _⟩
  · simp only [Value.slice.injEq] at hv; obtain ⟨_, rfl, rfl⟩ := hv; exact ⟨Nat.le_refl _, Nat.zero_le _⟩
  · simp only [Value.slice.injEq] at hv; obtain ⟨_, _, rfl⟩ := hv; exact ⟨hc, hm⟩
theorem RowD.own (h : RowD w base A n c d) : ∀ b, (Value.slice A n c).ownBlock = some b → base ≤ b := fun b hb => (World.ownsRow.lt h b hb).1
theorem RowD.mono {base' : Nat} (h : RowD w base A n c d) (hb : base' ≤ base) : RowD w base' A n c d := by
  refine ⟨h.1, ?_⟩
  rcases h.2 with h' | ⟨b, cap, cur, hv, hbb, r⟩
  · exact .inl h'
  · exact .inr ⟨b, cap, cur, hv, Nat.le_trans hb hbb, r⟩
end
theorem RowD.empty {w : World} {base : Nat} (d : Nat → Int × Int × Int) (hb : base ≤ w.heap.size) : RowD (w.alloc (.cells #[] 84)) base (some ⟨w.heap.size, 0, none⟩) 0 0 d := by
  have h := World.ownsRow_lit (e := 84) (size := 3) (base := base) w #[] 0 hb (Nat.zero_le _) (by simp)
  simpa [RowD, dvals] using h
theorem RowD.emptyAt {w : World} {base g : Nat} (d : Nat → Int × Int × Int) (hg : g = w.heap.size) (hb : base ≤ w.heap.size) : RowD (w.alloc (.cells #[] 84)) base (some ⟨g, 0, none⟩) 0 0 d := by
  subst hg; exact RowD.empty d hb
theorem Bx.keptO {W W' : World} {g : Nat} {xs : Array Value} {row : Option Nat} (h : Bx W g xs) (hg : W.grownBy W' row) (hne : ∀ b, row = some b → b ≠ g) : Bx W' g xs := by
  have hl := h.lt
  obtain ⟨T, h'⟩ := h
  exact ⟨T, (hg.block g hl (fun e => hne g e.symm rfl)).trans h'⟩
theorem row_shapeD {w : World} {base : Nat} {v : Value} {n : Nat} {xs : List Value} (h : w.ownsRow base 84 3 v n xs) : ∃ A c, v = .slice A n c := by
  rcases h.2 with ⟨rfl, rfl⟩ | ⟨b, cap, cur, rfl, _⟩
  · exact ⟨_, _, rfl⟩
  · exact ⟨_, _, rfl⟩
/-- append of one deed onto a row of the call's own. -/
theorem append_deed (W : World) {ops : Array Oper} {rest : List Oper} {o : Oper} {a : Act} {Q : Exit → Act → World → Prop} (hg : o.guard = none) (s x : Operand)
    (hop : o.op = Op.call { callee := Callee.builtin Builtin.append, args := #[s, x], argTypes := #[54, 54] }) {base : Nat} {A : Option Addr} {n c : Nat} {d : Nat → Int × Int × Int}
    (hs : a.eval s = .slice A n c) (hr : RowD W base A n c d) (g : Nat) (X Y Z : Int) (hx : a.eval x = .slice (some ⟨g, 0, none⟩) 1 1) (hbox : Bx W g #[.int .i64 X, .int .i64 Y, .int .i64 Z])
    (hn : n ≤ 1000000000) (hb : base ≤ W.heap.size)
    (hK : ∀ A' c' w', RowD w' base A' (n + 1) c' (snocD d n (X, Y, Z)) → W.grownBy w' (Value.slice A n c).ownBlock → wpList Try.prog ops Q rest (a.put o.dst (.slice A' (n + 1 : Nat) c')) w') : wpList Try.prog ops Q (o :: rest) a W := by
  obtain ⟨i0, hi, hz0, hz1, hz2⟩ := info_parts Try.infoDeed
  have c := hbox.cells
  refine wpList_append_own W hg s x 54 hop base 84 i0 (.agg #[.int .i64 0, .int .i64 0, .int .i64 0]) 3 24 Try.underlying54 hi hz0 hz1 hz2 rfl (by decide) _ _ _ hs hr ⟨g, 0, none⟩ 1 1 [.int .i64 X, .int .i64 Y, .int .i64 Z] hx rfl ?_ ?_ (by unfold maxLen; omega) (by omega) hb ?_
  · intro j u hj
    match j, hj with
    | 0, hj => simp at hj; subst hj; simpa [Addr.add] using c 0
    | 1, hj => simp at hj; subst hj; simpa [Addr.add] using c 1
    | 2, hj => simp at hj; subst hj; simpa [Addr.add] using c 2
  · intro u hu; simp at hu; rcases hu with rfl | rfl | rfl <;> rfl
  · intro v' w' hown hgrow _
    obtain ⟨A', c', rfl⟩ := row_shapeD hown
    exact hK A' c' w' (by unfold RowD; rw [dvals_snoc]; exact hown) hgrow

/-- What a drawing of deeds leaves. -/
def DrawnD (Q : Nat) (w : World) (g : Nat) (e : Ending) (w' : World) : Prop :=
  ∃ a n c d, e = .returned (.slice (some ⟨a, 0, none⟩) n c) ∧ n ≤ 29 ∧ RowD w' w.heap.size (some ⟨a, 0, none⟩) n c d ∧ Reads w' g Q ∧ w.grownBy w' (some g)
set_option maxHeartbeats 6400000 in
theorem l20BuildDeeds_any {w : World} {g Q : Nat} {v : Bv} {b : Bld} (hQ : Q + 1000 ≤ 1000000) (hn : b.n ≤ 100000000) (r : Reads w g Q) :
    Calls Try.prog 74 #[.pointer (some ⟨g, 0, none⟩), bval v b] w (DrawnD (Q + 1000) w g) := by
  have hgl := r.lt
  have H := Lib.hid ((r.alloc (.cells (bcells v b) 36)).alloc (.cells #[] 84))
  have HX := Lib.hid ((Bx.new w (bcells v b) 36).alloc (.cells #[] 84))
  have HO := Lib.hid (((Only.refl w.heap.size g w).alloc (Nat.le_refl _) (.cells (bcells v b) 36)).alloc (by simp) (.cells #[] 84))
  have HR := Lib.hid (RowD.emptyAt (w := w.alloc (.cells (bcells v b) 36)) (base := w.heap.size + 1) (g := w.heap.size + 1) (fun _ => (0, 0, 0)) (by simp) (by simp))
  clear r
  unfold bval bcells at *
  unfold DrawnD
  go_enter Try.func74, Try.ntmps74
  go_wp2_with fail
  refine (H.out.pick 30 (by omega) (by omega)).mono ?_
  rintro e w1 ⟨x1, rfl, hp1, hr1, hg1⟩
  obtain ⟨p1, p2⟩ := picked_lit0 hp1 (by omega)
  obtain ⟨k1, rfl⟩ := Int.eq_ofNat_of_zero_le p1
  have H1 := hr1
  have HX1 := HX.out.kept hg1 (by omega)
  have HO1 := HO.out.picked hg1 (by simp; omega)
  have HR1 := HR.out.kept hg1 (.inr (by intro b e; cases e; left; omega))
  have hs1 : w.heap.size + 2 ≤ w1.heap.size := by have := hg1.size; simp at this; omega
  clear hp1 hr1 hg1 H HX HO HR
  go_wp2
  go_loopw [5, 6] (fun s5 s6 wr => ∃ (k i : Nat) (a : Nat) (c : Nat) (d : Nat → Int × Int × Int), s6 = .int .i64 k ∧ i + k ≤ 29 ∧ s5 = .slice (some ⟨a, 0, none⟩) i c ∧ Hid (RowD wr (w.heap.size + 1) (some ⟨a, 0, none⟩) i c d) ∧ Hid (Bx wr w.heap.size #[.slice v.A b.n v.c, .int .i64 b.pos, .int .i64 b.sp, .int .i64 b.gap, .int .i64 b.hold, .slice v.U b.nu v.cu, .slice v.D b.nd v.cd, .slice v.C b.nc v.cc, .int .i64 b.fl, .int .i64 b.dir, .bool b.op]) ∧ Hid (Reads wr g (Q + 1 + 30 * i)) ∧ Hid (Only w.heap.size g w wr) ∧ w.heap.size + 2 ≤ wr.heap.size) (fun _ s6 _ => (intOf s6).toNat)
  case atStart => exact ⟨k1, 0, _, _, _, rfl, by omega, rfl, Lib.hid HR1, Lib.hid HX1, Lib.hid H1, Lib.hid HO1, hs1⟩
  case round =>
    obtain ⟨k, i, A, c, d, rfl, hik, rfl, HR, HX, HRD, HO, hsz⟩ := hrel
    clear HR1 HX1 H1 HO1
    by_cases hk : 0 < k
    · have c0 := HX.out.cells
      go_wp2_with fail
      refine (l20BuildDeed_any (v := v) (b := b) (by omega) hn HRD.out).mono ?_
      rintro e w2 ⟨x, y, z, rfl, hr2, hg2⟩
      have HR2 := Lib.hid ((HR.out.kept hg2 (.inr (by intro b e; cases e; left; omega))).alloc (.cells #[.int .i64 x, .int .i64 y, .int .i64 z] 84))
      have HX2 := Lib.hid ((HX.out.kept hg2 (by omega)).alloc (.cells #[.int .i64 x, .int .i64 y, .int .i64 z] 84))
      have HB2 := Lib.hid (Bx.new w2 #[.int .i64 x, .int .i64 y, .int .i64 z] 84)
      have HRD2 := Lib.hid (hr2.alloc (.cells #[.int .i64 x, .int .i64 y, .int .i64 z] 84))
      have hsz2 := hg2.size
      have HO2 := Lib.hid ((HO.out.picked hg2 (by omega)).alloc (by omega) (.cells #[.int .i64 x, .int .i64 y, .int .i64 z] 84))
      clear hr2 hg2 HR HX HRD HO c0
      go_wp2_with (at_builtin; refine append_deed _ rfl _ _ rfl rfl HR2.out w2.heap.size x y z rfl HB2.out (by omega) (by simp; omega) ?_; intro A3 c3 w3 hr3 hg3)
      have HO3 := Lib.hid (HO2.out.grown hg3 (by simp; omega) (fun b e => .inl (by have := HR2.out.own b e; omega)))
      have HRD3 := Lib.hid (HRD2.out.grown (base := w.heap.size + 1) hg3 (by omega) HR2.out.own)
      have HX3 := Lib.hid (HX2.out.keptO hg3 (fun b e => by have := HR2.out.own b e; omega))
      obtain ⟨a3, rfl⟩ := hr3.form (by omega)
      have HR3 := Lib.hid hr3
      have hsz3 : w.heap.size + 2 ≤ w3.heap.size := by have := hg3.size; simp at this; omega
      clear hr3 hg3 HR2 HX2 HB2 HRD2 HO2
      go_wp2
      go_roundw
      case rel => exact ⟨k - 1, i + 1, a3, c3, _, by go_num, by omega, rfl, HR3, HX3, Lib.hid (HRD3.out.mono (by omega)), HO3, hsz3⟩
      case measure => simp [intOf]; omega
    · obtain rfl : k = 0 := by omega
      go_wp2
      go_ret
      exact ⟨A, i, c, d, rfl, by omega, HR.out.mono (by omega), HRD.out.mono (by omega), HO.out.grow⟩
end Go.Proofs.Ytnbjibkbjdbadaa
