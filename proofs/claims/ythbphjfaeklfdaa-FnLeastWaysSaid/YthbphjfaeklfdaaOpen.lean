/-
  The contracts of l20Open and odd, and the facts that walks over the reader keep. No claim stands here.
-/
import Derived.Test.YthbphjfaeklfdaaRd
namespace Go.Proofs.Ythbphjfaeklfdaa
open Go.RowKit
set_option linter.unusedVariables false
set_option linter.unusedSimpArgs false

/-- Block g is a reader that has read at most Q numbers. -/
def Reads (w : World) (g Q : Nat) : Prop := ∃ A n c h q, Rd w g A n c h q ∧ q ≤ Q
theorem Reads.mono {w : World} {g Q Q' : Nat} (r : Reads w g Q) (hQ : Q ≤ Q') : Reads w g Q' := by
  obtain ⟨A, n, c, h, q, hr, hq⟩ := r
  exact ⟨A, n, c, h, q, hr, Nat.le_trans hq hQ⟩
theorem Reads.lt {w : World} {g Q : Nat} (r : Reads w g Q) : g < w.heap.size := by
  obtain ⟨A, n, c, h, q, hr, hq⟩ := r
  exact hr.lt
theorem Reads.drewN {w : World} {g Q : Nat} (r : Reads w g Q) (k : Nat) : Reads (w.drewN k) g Q := by
  obtain ⟨A, n, c, h, q, hr, hq⟩ := r
  exact ⟨A, n, c, h, q, hr.drewN k, hq⟩
theorem Reads.below {w w' : World} {B g Q : Nat} (r : Reads w g Q) (hb : Below B w w') (hB : g < B) : Reads w' g Q := by
  obtain ⟨A, n, c, h, q, hr, hq⟩ := r
  exact ⟨A, n, c, h, q, hr.below hb hB, hq⟩
theorem Reads.grown {w w' : World} {g Q base : Nat} {row : Option Nat} (r : Reads w g Q) (hg : w.grownBy w' row) (hb : g < base) (hrow : ∀ b, row = some b → base ≤ b) : Reads w' g Q :=
  r.below (B := g + 1) ⟨hg.os, hg.tape, hg.output, hg.size, fun k hk => hg.block k (by have := r.lt; omega) (by intro e; have := hrow k e.symm; omega)⟩ (by omega)
theorem Reads.alloc {w : World} {g Q : Nat} (r : Reads w g Q) (o : Obj) : Reads (w.alloc o) g Q :=
  r.grown (base := g + 1) (World.grownBy_alloc w o none) (by omega) (by intro b h; cases h)

theorem Reads.pick {w : World} {g Q : Nat} (N : Int) (hN : N ≤ 1000000000) (hQ : Q + 1 ≤ 1000000) (r : Reads w g Q) :
    Calls Try.prog 39 #[.pointer (some ⟨g, 0, none⟩), .int .i64 N] w
      fun e w' => ∃ x, e = .returned (.int .i64 x) ∧ Picked N x ∧ Reads w' g (Q + 1) ∧ w.grownBy w' (some g) := by
  obtain ⟨A, n, c, h, q, hr, hq⟩ := r
  refine (pick_any N hN (by omega) hr).mono ?_
  rintro e w' ⟨x, rfl, hp, hr', hg⟩
  exact ⟨x, rfl, hp, ⟨A, n, c, h, q + 1, hr', by omega⟩, hg⟩

theorem Reads.odd {w : World} {g Q : Nat} (N : Int) (h0 : 0 ≤ N) (hN : N ≤ 1000000000) (hQ : Q + 1 ≤ 1000000) (r : Reads w g Q) :
    Calls Try.prog 45 #[.pointer (some ⟨g, 0, none⟩), .int .i64 N] w
      fun e w' => ∃ b, e = .returned (.bool b) ∧ Reads w' g (Q + 1) ∧ w.grownBy w' (some g) := by
  by_cases h1 : 0 < N
  · have H := Lib.hid r
    have hd : decide (0 < N) = true := by simpa using h1
    clear r
    go_enter Try.func45, Try.ntmps45
    go_wp2_with (go_at_call 39; refine (H.out.pick _ hN hQ).mono ?_; rintro e w' ⟨x, rfl, hp, hr, hg⟩; have HR := Lib.hid hr; have HG := Lib.hid hg; clear hr hg hp)
    go_ret
    exact ⟨_, rfl, HR.out, HG.out⟩
  · have hd : decide (0 < N) = false := by simpa using h1
    have H := Lib.hid (r.mono (Nat.le_succ Q))
    clear r
    go_enter Try.func45, Try.ntmps45
    go_wp2
    go_ret
    exact ⟨.inl rfl, H.out, World.grownBy.refl _ _⟩

/-- Blocks below base are as they were, but block g. -/
structure Only (base g : Nat) (w w' : World) : Prop where
  os : w'.os = w.os
  tape : w'.tape = w.tape
  output : w'.output = w.output
  size : w.heap.size ≤ w'.heap.size
  block : ∀ k, k < base → k ≠ g → w'.heap[k]? = w.heap[k]?
theorem Only.refl (base g : Nat) (w : World) : Only base g w w := ⟨rfl, rfl, rfl, Nat.le_refl _, fun _ _ _ => rfl⟩
theorem Only.trans {base g : Nat} {a b c : World} (h : Only base g a b) (h' : Only base g b c) : Only base g a c :=
  ⟨h'.os.trans h.os, h'.tape.trans h.tape, h'.output.trans h.output, Nat.le_trans h.size h'.size, fun k hk hne => (h'.block k hk hne).trans (h.block k hk hne)⟩
theorem Only.mono {base base' g : Nat} {a b : World} (h : Only base g a b) (hb : base' ≤ base) : Only base' g a b :=
  ⟨h.os, h.tape, h.output, h.size, fun k hk hne => h.block k (by omega) hne⟩
theorem Only.grown {base g : Nat} {a w w' : World} {row : Option Nat} (h : Only base g a w) (hg : w.grownBy w' row) (hb : base ≤ w.heap.size) (hrow : ∀ b, row = some b → base ≤ b ∨ b = g) : Only base g a w' :=
  h.trans ⟨hg.os, hg.tape, hg.output, hg.size, fun k hk hne => hg.block k (by omega) (by intro e; rcases hrow k e.symm with h | h <;> omega)⟩
theorem Only.picked {base g : Nat} {a w w' : World} (h : Only base g a w) (hg : w.grownBy w' (some g)) (hb : base ≤ w.heap.size) : Only base g a w' :=
  h.grown hg hb (by intro b e; right; cases e; rfl)
theorem Only.alloc {base g : Nat} {a w : World} (h : Only base g a w) (hb : base ≤ w.heap.size) (o : Obj) : Only base g a (w.alloc o) :=
  h.grown (World.grownBy_alloc w o none) hb (by intro b e; cases e)
/-- What is behind the reader only: as nothing was. -/
theorem Only.below {base g B : Nat} {a w : World} (h : Only base g a w) (hB : B ≤ base) (hg : B ≤ g) : Below B a w :=
  ⟨h.os, h.tape, h.output, h.size, fun k hk => h.block k (by omega) (by omega)⟩
theorem Only.grow {g : Nat} {a w : World} (h : Only a.heap.size g a w) : a.grownBy w (some g) :=
  ⟨h.os, h.tape, h.output, h.size, fun k hk hne => h.block k hk (by intro e; exact hne (by rw [e]))⟩

theorem Rd.fresh {w : World} {B n c : Nat} {A : Option Addr} {h : Nat → Int} (hB : B ≤ w.heap.size) (hs : Bytes w B A n h) (hn : n ≤ 2000) :
    Reads (w.alloc (.cells #[.slice A n c, .int .i64 0] 48)) w.heap.size 0 ∧ Below w.heap.size w (w.alloc (.cells #[.slice A n c, .int .i64 0] 48)) := by
  have hb := (Below.refl w.heap.size w).alloc (Nat.le_refl _) (.cells #[.slice A n c, .int .i64 0] 48)
  refine ⟨⟨A, n, c, h, 0, ⟨?_, (hs.below (hb.mono hB)).more hB, hn, by omega⟩, Nat.le_refl _⟩, hb⟩
  show (w.heap.push _)[w.heap.size]? = _
  simp

set_option maxHeartbeats 1600000 in
theorem l20Open_any {w : World} {B : Nat} {A : Option Addr} {n c : Nat} {h : Nat → Int} (hB : B ≤ w.heap.size) (hc : n ≤ c) (hs : Bytes w B A n h) :
    Calls Try.prog 38 #[.slice A n c] w fun e w' => ∃ g, e = .returned (.pointer (some ⟨g, 0, none⟩)) ∧ w.heap.size ≤ g ∧ Reads w' g 0 ∧ Below w.heap.size w w' := by
  by_cases h2 : 2000 < n
  · obtain ⟨b, off, rfl, hb, hcell⟩ := hs (by omega)
    have hs2 : Bytes w B (some ⟨b, off, none⟩) 2000 h := fun _ => ⟨b, off, rfl, hb, fun i hi => hcell i (by omega)⟩
    have HF := Lib.hid (Rd.fresh (c := c) hB hs2 (by omega))
    have HH := Lib.hid hcell
    clear hcell hs hs2
    go_enter Try.func38, Try.ntmps38
    go_wp2
    go_ret
    exact ⟨_, rfl, Nat.le_refl _, HF.out.1, HF.out.2⟩
  · have HF := Lib.hid (Rd.fresh (c := c) hB hs (by omega))
    clear hs
    go_enter Try.func38, Try.ntmps38
    go_wp2
    go_ret
    exact ⟨_, rfl, Nat.le_refl _, HF.out.1, HF.out.2⟩

/-- A number written out in a list, read behind a pick. -/
theorem lit_cell {w w' : World} {g z : Nat} {xs : Array Value} {v : Value} (hg : (w.alloc (.cells xs 3)).grownBy w' (some g)) (hgl : g < w.heap.size) (hv : xs[z]? = some v) : w'.cell? ⟨w.heap.size, z, none⟩ = some v := by
  refine hg.cell ?_ (by simp; omega)
  rw [cell_of_row _ w.heap.size z xs 3 (0, 0) (by show (w.heap.push _)[w.heap.size]? = _; simp)]
  exact hv
theorem lit_two {w w' : World} {g z : Nat} {a b : Int} (hg : (w.alloc (.cells #[.int .i64 a, .int .i64 b] 3)).grownBy w' (some g)) (hgl : g < w.heap.size) (hz : (z : Int) < 2) :
    ∃ X, (X = a ∨ X = b) ∧ w'.cell? ⟨w.heap.size, z, none⟩ = some (.int .i64 X) := by
  match z, hz with
  | 0, _ => exact ⟨a, .inl rfl, lit_cell hg hgl rfl⟩
  | 1, _ => exact ⟨b, .inr rfl, lit_cell hg hgl rfl⟩
  | z + 2, h => omega

theorem Row.one {w : World} {base : Nat} (X : Int) (hb : base ≤ w.heap.size) : Row (w.alloc (.cells #[.int .i64 X] 3)) base (some ⟨w.heap.size, 0, none⟩) 1 1 (fun _ => X) := by
  have h := World.ownsRow_lit (e := 3) (size := 1) (base := base) w #[.int .i64 X] 1 hb (by unfold maxLen; omega) (by simp)
  simpa [Row, ivals] using h
theorem Row.none_cap {w : World} {base n c : Nat} {A : Option Addr} {f : Nat → Int} (h : Row w base A n c f) (hA : A = none) : c = 0 := by
  subst hA
  rcases h.2 with ⟨hv, h0⟩ | ⟨b, cap, cur, hv, _⟩
  · simp only [Value.slice.injEq] at hv; exact hv.2.2
  · simp at hv
end Go.Proofs.Ythbphjfaeklfdaa
