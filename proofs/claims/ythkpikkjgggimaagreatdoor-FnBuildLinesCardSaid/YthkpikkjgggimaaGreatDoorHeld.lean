/-
  A box that holds a building of the call's own: what keeps it. No claim stands here.
-/
import Derived.Test.YthkpikkjgggimaaGreatDoorMarkC
import Derived.Test.YthkpikkjgggimaaGreatDoorTick3
namespace Go.Proofs.YthkpikkjgggimaaGreatDoor
open Go.RowKit
set_option linter.unusedVariables false
set_option linter.unusedSimpArgs false

/-- Box g holds a building whose slices lie in blocks of its own, from lo on, below hi. -/
structure Held (W : World) (g lo hi : Nat) (v : Bv) (b : Bld) : Prop where
  x : Bx W g (bcells v b)
  o : OwnB W lo v b
  i : InB lo hi v
  le : hi ≤ g
section
variable {W W' : World} {g lo hi l h : Nat} {v : Bv} {b : Bld}
theorem Held.lt (H : Held W g lo hi v b) : g < W.heap.size := H.x.lt
theorem Held.call (H : Held W g lo hi v b) (hb : Below W.heap.size W W') : Held W' g lo hi v b := ⟨H.x.below hb H.x.lt, ownB_below H.o hb, H.i, H.le⟩
theorem Held.alloc (H : Held W g lo hi v b) (o : Obj) : Held (W.alloc o) g lo hi v b := H.call ((Below.refl _ _).alloc (Nat.le_refl _) o)
theorem Held.drew (H : Held W g lo hi v b) : Held W.drew g lo hi v b := H.call (Below.refl _ _).drew
theorem Held.within (H : Held W g lo hi v b) (hw : Within l h W W') (hg : g < l ∨ h ≤ g) (ho : hi ≤ l ∨ h ≤ lo) : Held W' g lo hi v b := ⟨H.x.within hw hg, H.o.within hw H.i ho, H.i, H.le⟩
theorem Held.new (o : OwnB W lo v b) (T : TypeId) : Held (W.alloc (.cells (bcells v b) T)) W.heap.size lo W.heap.size v b :=
  ⟨Bx.new W _ T, ownB_below o ((Below.refl _ _).alloc (Nat.le_refl _) _), o.place, Nat.le_refl _⟩
theorem Held.read (H : Held W g lo hi v b) : ReadB W W.heap.size v b := H.o.read
theorem Held.top (H : Held W g lo hi v b) : hi ≤ W.heap.size := Nat.le_trans H.le (Nat.le_of_lt H.lt)
theorem Held.cells (H : Held W g lo hi v b) : ∀ o, W.cell? ⟨g, o, none⟩ = (#[.slice v.A b.n v.c, .int .i64 b.pos, .int .i64 b.sp, .int .i64 b.gap, .int .i64 b.hold, .slice v.U b.nu v.cu, .slice v.D b.nd v.cd, .slice v.C b.nc v.cc, .int .i64 b.fl, .int .i64 b.dir, .bool b.op] : Array Value)[o]? := H.x.cells
/-- Behind markBuilding. -/
theorem Held.marked (H : Held W g lo hi v b) {k0 : Int} (o : OwnB W' lo v (b.marked k0)) (hw : Within lo hi W W') : Held W' g lo hi v (b.marked k0) :=
  ⟨H.x.within hw (.inr H.le), o, H.i, H.le⟩
end
theorem none_small : Bld.none.Small := ⟨by simp [Bld.none], by simp [Bld.none], by simp [Bld.none], by simp [Bld.none]⟩
theorem called_small {b : Bld} (h : b.Small) (kind fl : Int) : (b.called kind fl).Small := by
  unfold Bld.called
  split
  · exact h
  · exact none_small
theorem tick_small {b : Bld} (h : b.Small) (bl : Bool) : (b.tick bl).Small := by
  unfold Bld.tick
  split
  · exact h
  · split
    · split
      · exact h
      · exact h
    · unfold Bld.look; split
      · exact h
      · exact h
theorem ticked_small {b : Bld} (h : b.Small) (bl : Bool) : (b.ticked bl).Small := by
  unfold Bld.ticked
  split
  · exact tick_small h bl
  · exact none_small
end Go.Proofs.YthkpikkjgggimaaGreatDoor
