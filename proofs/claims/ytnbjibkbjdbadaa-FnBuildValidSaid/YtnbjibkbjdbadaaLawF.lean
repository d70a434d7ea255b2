/-
  The law FnBuildValid: the walk. No claim stands here.
-/
import Derived.Test.YtnbjibkbjdbadaaDrawG
import Derived.Test.YtnbjibkbjdbadaaSame
import Derived.Test.YtnbjibkbjdbadaaAlive
namespace Go.Proofs.Ytnbjibkbjdbadaa
open Go.RowKit
set_option linter.unusedVariables false
set_option linter.unusedSimpArgs false

/-- Box g of a law holds a building; nothing of what was in w has turned. -/
structure LB (w W : World) (g : Nat) (v : Bv) (b : Bld) : Prop where
  x : Bx W g (bcells v b)
  r : ReadB W W.heap.size v b
  o : Below w.heap.size w W
section
variable {w W W' : World} {g : Nat} {v : Bv} {b : Bld}
theorem LB.call (L : LB w W g v b) (hb : Below W.heap.size W W') : LB w W' g v b := ⟨L.x.below hb L.x.lt, (L.r.below hb).more hb.size, L.o.trans (hb.mono L.o.size)⟩
theorem LB.alloc (L : LB w W g v b) (o : Obj) : LB w (W.alloc o) g v b := L.call ((Below.refl _ _).alloc (Nat.le_refl _) o)
theorem LB.drewed (L : LB w W g v b) (hd : Drew W W') : LB w W' g v b := L.call hd.below
theorem LB.drew (L : LB w W g v b) : LB w W.drew g v b := L.call (Below.refl _ _).drew
theorem LB.new (T : TypeId) (r : ReadB W W.heap.size v b) (o : Below w.heap.size w W) : LB w (W.alloc (.cells (bcells v b) T)) W.heap.size v b :=
  ⟨Bx.new W _ T, (r.below ((Below.refl _ _).alloc (Nat.le_refl _) _)).more (by simp), o.alloc o.size _⟩
theorem LB.cells (L : LB w W g v b) : ∀ o, W.cell? ⟨g, o, none⟩ = (#[.slice v.A b.n v.c, .int .i64 b.pos, .int .i64 b.sp, .int .i64 b.gap, .int .i64 b.hold, .slice v.U b.nu v.cu, .slice v.D b.nd v.cd, .slice v.C b.nc v.cc, .int .i64 b.fl, .int .i64 b.dir, .bool b.op] : Array Value)[o]? := L.x.cells
end
/-- What the law FnBuildValid asks. -/
theorem valid_says {b : Bld} (h : b.Ok) : (b.fl < 0 ∧ b.sp = 0 ∧ 0 ≤ floorAtOf b.f b.n b.pos) ∨ (0 ≤ b.fl ∧ b.gap = 0) := by
  rcases h.halt with ⟨h1, h2⟩ | ⟨h1, h2, _⟩
  · left
    have hs := (stand_at h2).1
    refine ⟨by omega, hs, ?_⟩
    unfold Bld.stand standF at h2
    rw [if_pos hs] at h2
    exact h2
  · exact .inr ⟨h1.1, h2⟩
theorem none_valid : Bld.none.valid = false := by
  cases h : Bld.none.valid
  · rfl
  · have := (valid_iff.1 h).sizes
    simp [Bld.none] at this

set_option maxHeartbeats 6400000 in
theorem law_BuildValid {w : World} {A : Option Addr} {n c : Nat} {h : Nat → Int} (hc : n ≤ c) (hs : Bytes w w.heap.size A n h) :
    Calls Try.prog 3 #[.slice A n c] w fun e w' => e = .returned (.bool true) ∧ Below w.heap.size w w' := by
  by_cases h20 : n ≤ 1048576
  · go_enter Try.func3, Try.ntmps3
    go_wp2_with fail
    refine (DrawBuildValid_any (Nat.le_refl _) hc hs).mono ?_
    rintro e w1 ⟨v, b, rfl, hr1, hu, hb1⟩
    have HU := Lib.hid (hu.small (by omega))
    have hn := HU.out.1
    have HL := Lib.hid (LB.new 36 hr1 hb1)
    clear hr1 hu hb1 hs
    unfold bcells at HL
    simp only [bval, bcells]
    have c0 := HL.out.cells
    go_wp2_with fail
    refine (impl_BuildValid (v := v) (b := b) HU.out (Nat.le_refl _) HL.out.r).mono ?_
    rintro e w2 ⟨rfl, hb2⟩
    have HL2 := Lib.hid (HL.out.call hb2)
    clear hb2 HL c0
    have c0 := HL2.out.cells
    go_wp2_with fail
    refine (spec_BuildValid (v := v) (b := b) HU.out (Nat.le_refl _) HL2.out.r).mono ?_
    rintro e w3 ⟨rfl, hb3⟩
    have HL3 := Lib.hid (HL2.out.call hb3)
    clear hb3 HL2 c0
    have c0 := HL3.out.cells
    cases hv : b.valid
    · clear hv
      go_wp2_with fail
      refine (impl_BuildValid (v := Bv.none) (b := Bld.none) none_small (Nat.le_refl _) (read_none _ _)).mono ?_
      rintro e w4 ⟨rfl, hb4⟩
      rw [none_valid]
      have HL4 := Lib.hid (HL3.out.call hb4)
      clear hb4 HL3 c0
      go_wp2_with fail
      refine alive_any.mono ?_
      rintro e w5 ⟨rfl, hb5⟩
      have HL5 := Lib.hid (HL4.out.call hb5)
      clear hb5 HL4
      go_wp2
      go_ret
      exact ⟨rfl, HL5.out.o⟩
    · have hok := valid_iff.1 hv
      have hsay := valid_says hok
      have hlb : liftB b.f b.n b.pos b.sp b.gap b.hold = true := liftB_iff.2 ⟨hok.floors, hok.motion, hok.door, hok.shut⟩
      have HLB := Lib.hid hlb
      clear hlb hok hv
      rcases hsay with ⟨s1, s2, s3⟩ | ⟨s1, s2⟩
      · have q1 : decide (b.fl < 0) = true := by simpa using s1
        have q2 : ¬ 0 ≤ b.fl := by omega
        have q3 : (b.sp == 0) = true := by simp [s2]
        have HS3 := Lib.hid s3
        clear s2 s3
        go_wp2_with fail
        refine (impl_FloorAt b.pos (by omega) HL3.out.r.h).mono ?_
        rintro e w4 ⟨rfl, hd4⟩
        have HL4 := Lib.hid (HL3.out.drewed hd4)
        clear hd4 HL3 c0
        have c0 := HL4.out.cells
        have s3 := HS3.out
        generalize floorAtOf b.f b.n b.pos = fa at *
        go_wp2_with fail
        refine (impl_LiftValid b.pos b.sp b.gap b.hold (by omega) (Nat.le_refl _) HL4.out.r.h).mono ?_
        rintro e w5 ⟨rfl, hb5⟩
        rw [HLB.out]
        have HL5 := Lib.hid (HL4.out.call hb5)
        clear hb5 HL4 c0
        go_wp2
        go_ret
        exact ⟨rfl, HL5.out.o⟩
      · have q3 : (b.gap == 0) = true := by simp [s2]
        have q2 : ¬ b.fl < 0 := by omega
        clear s2
        go_wp2_with fail
        refine (impl_LiftValid b.pos b.sp b.gap b.hold (by omega) (Nat.le_refl _) HL3.out.r.h).mono ?_
        rintro e w5 ⟨rfl, hb5⟩
        rw [HLB.out]
        have HL5 := Lib.hid (HL3.out.call hb5)
        clear hb5 HL3 c0
        go_wp2
        go_ret
        exact ⟨rfl, HL5.out.o⟩
  · go_enter Try.func3, Try.ntmps3
    go_wp2
    go_ret
    exact ⟨rfl, Below.refl _ _⟩
end Go.Proofs.Ytnbjibkbjdbadaa
