/-
  A building behind deeds, in plain Lean; deeds in memory. No claim stands here.
-/
import Derived.Test.YthkpikkjgggimaaGreatDoorHeld
namespace Go.Proofs.YthkpikkjgggimaaGreatDoor
open Go.RowKit
set_option linter.unusedVariables false
set_option linter.unusedSimpArgs false

/-- A building behind a deed: its kind, the kind of a call, a floor. -/
def Bld.deed (b : Bld) (x : Int × Int × Int) : Bld := if x.1 = 0 then b.ticked false else if x.1 = 1 then b.ticked true else if x.1 = 2 then b.called x.2.1 x.2.2 else b
def Bld.runN (b : Bld) (d : Nat → Int × Int × Int) : Nat → Bld
  | 0 => b
  | k + 1 => (b.runN d k).deed (d k)
/-- What BuildRun answers. -/
def Bld.ran (b : Bld) (d : Nat → Int × Int × Int) (n : Nat) : Bld := if b.valid = true then b.runN d n else Bld.none
theorem deed_small {b : Bld} (h : b.Small) (x : Int × Int × Int) : (b.deed x).Small := by
  unfold Bld.deed
  split
  · exact ticked_small h _
  · split
    · exact ticked_small h _
    · split
      · exact called_small h _ _
      · exact h
theorem runN_small {b : Bld} (h : b.Small) (d : Nat → Int × Int × Int) : ∀ n, (b.runN d n).Small := by
  intro n
  induction n with
  | zero => exact h
  | succ n ih => exact deed_small ih _
theorem ran_small {b : Bld} (h : b.Small) (d : Nat → Int × Int × Int) (n : Nat) : (b.ran d n).Small := by
  unfold Bld.ran
  split
  · exact runN_small h d n
  · exact none_small
theorem deed_ok {b : Bld} (h : b.Ok) (x : Int × Int × Int) : (b.deed x).Ok := by
  have hv := valid_iff.2 h
  unfold Bld.deed Bld.ticked Bld.called
  rw [if_pos hv, if_pos hv, if_pos hv]
  split
  · exact tick_ok h _
  · split
    · exact tick_ok h _
    · split
      · exact Bld.ask_valid h _ _
      · exact h
theorem runN_ok {b : Bld} (h : b.Ok) (d : Nat → Int × Int × Int) : ∀ n, (b.runN d n).Ok := by
  intro n
  induction n with
  | zero => exact h
  | succ n ih => exact deed_ok ih _

/-- A slice of deeds reads as d 0 .. d (n - 1), and lies below block B. -/
def Deeds (w : World) (B : Nat) (A : Option Addr) (n : Nat) (d : Nat → Int × Int × Int) : Prop :=
  0 < n → ∃ b off, A = some ⟨b, off, none⟩ ∧ b < B ∧ ∀ i, i < n → w.cell? ⟨b, off + i * 3, none⟩ = some (.int .i64 (d i).1) ∧ w.cell? ⟨b, off + i * 3 + 1, none⟩ = some (.int .i64 (d i).2.1) ∧ w.cell? ⟨b, off + i * 3 + 2, none⟩ = some (.int .i64 (d i).2.2)
theorem Deeds.below {w w' : World} {B : Nat} {A : Option Addr} {n : Nat} {d : Nat → Int × Int × Int} (h : Deeds w B A n d) (hb : Below B w w') : Deeds w' B A n d := by
  intro hn
  obtain ⟨b, off, hA, hlt, hc⟩ := h hn
  exact ⟨b, off, hA, hlt, fun i hi => ⟨(hb.cell hlt).trans (hc i hi).1, (hb.cell hlt).trans (hc i hi).2.1, (hb.cell hlt).trans (hc i hi).2.2⟩⟩
theorem Deeds.more {w : World} {B B' : Nat} {A : Option Addr} {n : Nat} {d : Nat → Int × Int × Int} (h : Deeds w B A n d) (hB : B ≤ B') : Deeds w B' A n d := by
  intro hn
  obtain ⟨b, off, hA, hlt, hc⟩ := h hn
  exact ⟨b, off, hA, Nat.lt_of_lt_of_le hlt hB, hc⟩
/-- A whole building of the call's own is stored into box g, whose building is forgotten. -/
theorem put_building {w W W' : World} {g g1 base : Nat} {v v' : Bv} {b b' : Bld} {R : Array Value} (x : Bx W g (bcells v b)) (y : Bx W g1 R) (hne : g1 ≠ g) (hB : Below w.heap.size w W) (hg : w.heap.size ≤ g) (hb : Below W.heap.size W W') (o : OwnB W' W.heap.size v' b') (hbase : base ≤ W.heap.size) :
    Bx (sets W' (putL g v' b')) g (bcells v' b') ∧ Bx (sets W' (putL g v' b')) g1 R ∧ Below w.heap.size w (sets W' (putL g v' b')) ∧ OwnB (sets W' (putL g v' b')) base v' b' ∧ Off g v' := by
  have hl := x.lt
  unfold bcells at x
  exact ⟨(x.below hb x.lt).put v' b', sets_bx _ (y.below hb y.lt) (fun q hq => by rw [putL_block q hq]; exact Ne.symm hne), sets_below _ (hB.trans (hb.mono hB.size)) (fun q hq => by rw [putL_block q hq]; exact hg),
    (sets_own _ o (fun q hq => by rw [putL_block q hq]; exact hl)).mono hbase, own_off o (.inl hl)⟩
theorem deed_0 {b : Bld} {x : Int × Int × Int} (h : x.1 = 0) : b.deed x = b.ticked false := by simp [Bld.deed, h]
theorem deed_1 {b : Bld} {x : Int × Int × Int} (h : x.1 = 1) : b.deed x = b.ticked true := by simp [Bld.deed, h]
theorem deed_2 {b : Bld} {x : Int × Int × Int} (h : x.1 = 2) : b.deed x = b.called x.2.1 x.2.2 := by simp [Bld.deed, h]
theorem deed_3 {b : Bld} {x : Int × Int × Int} (h0 : x.1 ≠ 0) (h1 : x.1 ≠ 1) (h2 : x.1 ≠ 2) : b.deed x = b := by simp [Bld.deed, h0, h1, h2]
def RunPost (b : Bld) (d : Nat → Int × Int × Int) (n : Nat) (w : World) (e : Ending) (w' : World) : Prop :=
  ∃ v', e = .returned (bval v' (b.ran d n)) ∧ OwnB w' w.heap.size v' (b.ran d n) ∧ Below w.heap.size w w'
theorem ran_no {b : Bld} {d : Nat → Int × Int × Int} {n : Nat} (h : b.valid = false) : b.ran d n = Bld.none := by simp [Bld.ran, h]
theorem ran_yes {b : Bld} {d : Nat → Int × Int × Int} {n : Nat} (h : b.valid = true) : b.ran d n = b.runN d n := by simp [Bld.ran, h]
end Go.Proofs.YthkpikkjgggimaaGreatDoor
