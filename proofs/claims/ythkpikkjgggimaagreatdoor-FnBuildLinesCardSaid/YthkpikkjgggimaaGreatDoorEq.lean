/-
  The contracts of the sizes and of the equality of buildings. No claim stands here.
-/
import Derived.Test.YthkpikkjgggimaaGreatDoorBD
namespace Go.Proofs.YthkpikkjgggimaaGreatDoor
open Go.RowKit
set_option linter.unusedVariables false
set_option linter.unusedSimpArgs false

def szOf (l n : Int) : Int := if l - n < 0 then -1 else l - n
theorem szIntS_any {w : World} {A : Option Addr} {n c : Nat} (l : Int) (h0 : 0 ≤ l) (h1 : l ≤ 1048576) (hn : n ≤ 9223372036854775807) :
    Calls Tryz.prog 52 #[.slice A n c, .int .i64 l] w fun e w' => e = .returned (.int .i64 (szOf l n)) ∧ w = w' := by
  by_cases h : l - (n : Int) < 0
  all_goals
    go_enter Tryz.func52, Tryz.ntmps52
    go_wp2
    go_ret
    exact ⟨ret_int (by simp only [szOf]; first | rw [if_pos h] | rw [if_neg (by omega)]), rfl⟩
theorem szBoolS_any {w : World} {A : Option Addr} {n c : Nat} (l : Int) (h0 : 0 ≤ l) (h1 : l ≤ 1048576) (hn : n ≤ 9223372036854775807) :
    Calls Tryz.prog 103 #[.slice A n c, .int .i64 l] w fun e w' => e = .returned (.int .i64 (szOf l n)) ∧ w = w' := by
  by_cases h : l - (n : Int) < 0
  all_goals
    go_enter Tryz.func103, Tryz.ntmps103
    go_wp2
    go_ret
    exact ⟨ret_int (by simp only [szOf]; first | rw [if_pos h] | rw [if_neg (by omega)]), rfl⟩

/-- What the size of a building says: it is less than 0, or no slice is long. -/
def SzPost (b : Bld) (w : World) (e : Ending) (w' : World) : Prop :=
  ∃ x : Int, e = .returned (.int .i64 x) ∧ (x < 0 ∨ (0 ≤ x ∧ b.n ≤ 1048576 ∧ b.nu ≤ 1048576 ∧ b.nd ≤ 1048576 ∧ b.nc ≤ 1048576)) ∧ Below w.heap.size w w'
def SzCalls (l : Int) (nu nd nc : Nat) (w : World) (e : Ending) (w' : World) : Prop :=
  ∃ x : Int, e = .returned (.int .i64 x) ∧ (x < 0 ∨ (0 ≤ x ∧ x ≤ l ∧ nu ≤ 1048576 ∧ nd ≤ 1048576 ∧ nc ≤ 1048576)) ∧ Below w.heap.size w w'

theorem sz_cases (l : Int) (n : Nat) (h0 : 0 ≤ l) : (szOf l n = -1) ∨ (0 ≤ szOf l n ∧ szOf l n ≤ l ∧ n ≤ l) := by
  unfold szOf; split <;> omega

set_option maxHeartbeats 800000 in
theorem szCalls_any {w : World} {U D C : Option Addr} {nu cu nd cd nc cc : Nat} (l : Int) (h0 : 0 ≤ l) (h1 : l ≤ 1048576) (n1 : nu ≤ 9223372036854775807) (n2 : nd ≤ 9223372036854775807) (n3 : nc ≤ 9223372036854775807) :
    Calls Tryz.prog 53 #[.agg #[.slice U nu cu, .slice D nd cd, .slice C nc cc], .int .i64 l] w (SzCalls l nu nd nc w) := by
  have HB := Lib.hid ((Below.refl w.heap.size w).alloc (Nat.le_refl _) (.cells #[.slice U nu cu, .slice D nd cd, .slice C nc cc] 52))
  go_enter Tryz.func53, Tryz.ntmps53
  go_wp2_with fail
  refine (szBoolS_any l h0 h1 n1).mono ?_
  rintro e w1 ⟨rfl, rfl⟩
  have g1 := sz_cases l nu h0
  generalize szOf l nu = l1 at *
  rcases g1 with rfl | ⟨a1, a2, a3⟩
  · go_wp2
    go_ret
    exact ⟨-1, rfl, .inl (by omega), HB.out⟩
  · go_wp2_with fail
    refine (szBoolS_any l1 a1 (by omega) n2).mono ?_
    rintro e w1 ⟨rfl, rfl⟩
    have g2 := sz_cases l1 nd a1
    generalize szOf l1 nd = l2 at *
    rcases g2 with rfl | ⟨b1, b2, b3⟩
    · go_wp2
      go_ret
      exact ⟨-1, rfl, .inl (by omega), HB.out⟩
    · go_wp2_with fail
      refine (szBoolS_any l2 b1 (by omega) n3).mono ?_
      rintro e w1 ⟨rfl, rfl⟩
      have g3 := sz_cases l2 nc b1
      generalize szOf l2 nc = l3 at *
      rcases g3 with rfl | ⟨c1, c2, c3⟩
      · go_wp2
        go_ret
        exact ⟨-1, rfl, .inl (by omega), HB.out⟩
      · go_wp2
        go_ret
        exact ⟨l3, rfl, .inr ⟨by omega, by omega, by omega, by omega, by omega⟩, HB.out⟩

set_option maxHeartbeats 800000 in
theorem szBuilding_any {w : World} {v : Bv} {b : Bld} (hn : b.n ≤ 9223372036854775807) (n1 : b.nu ≤ 9223372036854775807) (n2 : b.nd ≤ 9223372036854775807) (n3 : b.nc ≤ 9223372036854775807) :
    Calls Tryz.prog 16 #[bval v b, .int .i64 1048576] w (SzPost b w) := by
  have HX0 := Lib.hid (Bx.new w (bcells v b) 55)
  have HB0 := Lib.hid ((Below.refl w.heap.size w).alloc (Nat.le_refl _) (.cells (bcells v b) 55))
  unfold bval bcells at *
  go_enter Tryz.func16, Tryz.ntmps16
  go_wp2_with fail
  refine (szIntS_any 1048576 (by omega) (by omega) hn).mono ?_
  rintro e w1 ⟨rfl, rfl⟩
  have g1 := sz_cases 1048576 b.n (by omega)
  generalize szOf 1048576 b.n = l1 at *
  rcases g1 with rfl | ⟨a1, a2, a3⟩
  · go_wp2
    go_ret
    exact ⟨-1, rfl, .inl (by omega), HB0.out⟩
  · go_wp2_with fail
    refine (szCalls_any l1 a1 (by omega) n1 n2 n3).mono ?_
    rintro e w2 ⟨x, rfl, hx, hb2⟩
    have HB2 := Lib.hid (HB0.out.trans (hb2.mono HB0.out.size))
    clear hb2 HB0 HX0
    rcases hx with hx0 | ⟨hx0, hx1, hx2, hx3, hx4⟩
    · go_wp2
      go_ret
      exact ⟨-1, rfl, .inl (by omega), HB2.out⟩
    · go_wp2
      go_ret
      exact ⟨x, rfl, .inr ⟨by omega, by omega, hx2, hx3, hx4⟩, HB2.out⟩

/-! ### equality of equal buildings -/
theorem eqMotion_same (a s : Int) (w : World) : Calls Tryz.prog 115 #[.agg #[.int .i64 a, .int .i64 s], .agg #[.int .i64 a, .int .i64 s]] w fun e w' => e = .returned (.bool true) ∧ Below w.heap.size w w' := by
  go_enter Tryz.func115, Tryz.ntmps115
  go_wp2
  go_ret
  exact ⟨rfl, ((Below.refl _ _).alloc (Nat.le_refl _) _).alloc (by simp) _⟩
theorem eqDoor_same (a s : Int) (w : World) : Calls Tryz.prog 116 #[.agg #[.int .i64 a, .int .i64 s], .agg #[.int .i64 a, .int .i64 s]] w fun e w' => e = .returned (.bool true) ∧ Below w.heap.size w w' := by
  go_enter Tryz.func116, Tryz.ntmps116
  go_wp2
  go_ret
  exact ⟨rfl, ((Below.refl _ _).alloc (Nat.le_refl _) _).alloc (by simp) _⟩
theorem eqStop_same (a s : Int) (w : World) : Calls Tryz.prog 70 #[.agg #[.int .i64 a, .int .i64 s], .agg #[.int .i64 a, .int .i64 s]] w fun e w' => e = .returned (.bool true) ∧ Below w.heap.size w w' := by
  go_enter Tryz.func70, Tryz.ntmps70
  go_wp2
  go_ret
  exact ⟨rfl, ((Below.refl _ _).alloc (Nat.le_refl _) _).alloc (by simp) _⟩

/-- Two boxes behind a call. -/
structure Fr2 (w W : World) (P R : Array Value) : Prop where
  x0 : Bx W w.heap.size P
  x1 : Bx W (w.heap.size + 1) R
  b : Below w.heap.size w W
section
variable {w W W' : World} {P R : Array Value}
theorem Fr2.start {T T' : TypeId} : Fr2 w ((w.alloc (.cells P T)).alloc (.cells R T')) P R := by
  obtain ⟨a, b, c, _⟩ := boxes2 (Below.refl ((w.alloc (.cells P T)).alloc (.cells R T')).heap.size ((w.alloc (.cells P T)).alloc (.cells R T')))
  exact ⟨a, b, c⟩
theorem Fr2.call (F : Fr2 w W P R) (hb : Below W.heap.size W W') : Fr2 w W' P R :=
  ⟨F.x0.below hb F.x0.lt, F.x1.below hb F.x1.lt, F.b.trans (hb.mono F.b.size)⟩
theorem Fr2.drewed (F : Fr2 w W P R) (hd : Drew W W') : Fr2 w W' P R := by
  obtain ⟨m, rfl⟩ := hd
  exact ⟨F.x0.drewN m, F.x1.drewN m, below_drewN F.b m⟩
end

set_option maxHeartbeats 800000 in
theorem eqLift_same (a s g h : Int) (w : World) : Calls Tryz.prog 68 #[.agg #[.int .i64 a, .int .i64 s, .int .i64 g, .int .i64 h], .agg #[.int .i64 a, .int .i64 s, .int .i64 g, .int .i64 h]] w fun e w' => e = .returned (.bool true) ∧ Below w.heap.size w w' := by
  have HF0 := Lib.hid (Fr2.start (w := w) (P := #[.int .i64 a, .int .i64 s, .int .i64 g, .int .i64 h]) (R := #[.int .i64 a, .int .i64 s, .int .i64 g, .int .i64 h]) (T := 29) (T' := 29))
  go_enter Tryz.func68, Tryz.ntmps68
  go_wp2_with fail
  refine (eqMotion_same a s _).mono ?_
  rintro e w1 ⟨rfl, hb1⟩
  have HF1 := Lib.hid (HF0.out.call hb1)
  clear hb1 HF0
  have c0 := HF1.out.x0.cells
  have c1 := HF1.out.x1.cells
  go_wp2_with fail
  refine (eqDoor_same g h _).mono ?_
  rintro e w2 ⟨rfl, hb2⟩
  have HF2 := Lib.hid (HF1.out.call hb2)
  clear hb2 HF1 c0 c1
  go_wp2
  go_ret
  exact ⟨rfl, HF2.out.b⟩

theorem eqBb_refl' (f : Nat → Bool) (n : Nat) : eqBb f n f n = true := eqBb_iff.2 ⟨rfl, fun _ _ => rfl⟩

set_option maxHeartbeats 1600000 in
theorem eqCalls_same {w : World} {B B' : Nat} {U D C U' D' C' : Option Addr} {nu cu nd cd nc cc cu' cd' cc' : Nat} {up dn car : Nat → Bool} (n1 : nu ≤ 9223372036854775806) (n2 : nd ≤ 9223372036854775806) (n3 : nc ≤ 9223372036854775806) (hB : B ≤ w.heap.size) (hB' : B' ≤ w.heap.size)
    (hu : Bools w B U nu up) (hd : Bools w B D nd dn) (hc : Bools w B C nc car) (hu' : Bools w B' U' nu up) (hd' : Bools w B' D' nd dn) (hc' : Bools w B' C' nc car) :
    Calls Tryz.prog 69 #[.agg #[.slice U nu cu, .slice D nd cd, .slice C nc cc], .agg #[.slice U' nu cu', .slice D' nd cd', .slice C' nc cc']] w fun e w' => e = .returned (.bool true) ∧ Below w.heap.size w w' := by
  have HF0 := Lib.hid (Fr2.start (w := w) (P := #[.slice U nu cu, .slice D nd cd, .slice C nc cc]) (R := #[.slice U' nu cu', .slice D' nd cd', .slice C' nc cc']) (T := 32) (T' := 32))
  have E1 := eqBb_refl' up nu
  have E2 := eqBb_refl' dn nd
  have E3 := eqBb_refl' car nc
  have HU := Lib.hid hu
  have HD := Lib.hid hd
  have HC := Lib.hid hc
  have HU' := Lib.hid hu'
  have HD' := Lib.hid hd'
  have HC' := Lib.hid hc'
  clear hu hd hc hu' hd' hc'
  go_enter Tryz.func69, Tryz.ntmps69
  go_wp2_with fail
  refine (eqBoolS_any n1 (HU.out.below (HF0.out.b.mono hB)) (HU'.out.below (HF0.out.b.mono hB'))).mono ?_
  rintro e w1 ⟨rfl, hd1⟩
  rw [E1]
  have HF1 := Lib.hid (HF0.out.drewed hd1)
  clear hd1 HF0 E1
  have c0 := HF1.out.x0.cells
  have c1 := HF1.out.x1.cells
  go_wp2_with fail
  refine (eqBoolS_any n2 (HD.out.below (HF1.out.b.mono hB)) (HD'.out.below (HF1.out.b.mono hB'))).mono ?_
  rintro e w2 ⟨rfl, hd2⟩
  rw [E2]
  have HF2 := Lib.hid (HF1.out.drewed hd2)
  clear hd2 HF1 c0 c1 E2
  have c0 := HF2.out.x0.cells
  have c1 := HF2.out.x1.cells
  go_wp2_with fail
  refine (eqBoolS_any n3 (HC.out.below (HF2.out.b.mono hB)) (HC'.out.below (HF2.out.b.mono hB'))).mono ?_
  rintro e w3 ⟨rfl, hd3⟩
  rw [E3]
  have HF3 := Lib.hid (HF2.out.drewed hd3)
  clear hd3 HF2 c0 c1 E3
  go_wp2
  go_ret
  exact ⟨rfl, HF3.out.b⟩

set_option maxHeartbeats 3200000 in
theorem eqBuilding_same {w : World} {B B' : Nat} {v v' : Bv} {b : Bld} (hn : b.Small) (hB : B ≤ w.heap.size) (hB' : B' ≤ w.heap.size) (hr : ReadB w B v b) (hr' : ReadB w B' v' b) :
    Calls Tryz.prog 19 #[bval v b, bval v' b] w fun e w' => e = .returned (.bool true) ∧ Below w.heap.size w w' := by
  have HF0 := Lib.hid (Fr2.start (w := w) (P := bcells v b) (R := bcells v' b) (T := 36) (T' := 36))
  have E := eqB_refl b.f b.n
  have HR := Lib.hid hr
  have HR' := Lib.hid hr'
  obtain ⟨m0, m1, m2, m3⟩ := hn
  clear hr hr'
  unfold bval bcells at *
  go_enter Tryz.func19, Tryz.ntmps19
  go_wp2_with fail
  refine (eqIntS_any (by omega) (HR.out.below (HF0.out.b.mono hB)).h (HR'.out.below (HF0.out.b.mono hB')).h).mono ?_
  rintro e w1 ⟨rfl, hd1⟩
  rw [E]
  have HF1 := Lib.hid (HF0.out.drewed hd1)
  clear hd1 HF0 E
  have c0 := HF1.out.x0.cells
  have c1 := HF1.out.x1.cells
  go_wp2_with fail
  refine (eqLift_same b.pos b.sp b.gap b.hold _).mono ?_
  rintro e w2 ⟨rfl, hb2⟩
  have HF2 := Lib.hid (HF1.out.call hb2)
  clear hb2 HF1 c0 c1
  have c0 := HF2.out.x0.cells
  have c1 := HF2.out.x1.cells
  have HR2 := Lib.hid (HR.out.below (HF2.out.b.mono hB))
  have HR2' := Lib.hid (HR'.out.below (HF2.out.b.mono hB'))
  go_wp2_with fail
  refine (eqCalls_same (by omega) (by omega) (by omega) (Nat.le_trans hB HF2.out.b.size) (Nat.le_trans hB' HF2.out.b.size) HR2.out.u HR2.out.d HR2.out.c HR2'.out.u HR2'.out.d HR2'.out.c).mono ?_
  rintro e w3 ⟨rfl, hb3⟩
  have HF3 := Lib.hid (HF2.out.call hb3)
  clear hb3 HF2 c0 c1 HR2 HR2'
  have c0 := HF3.out.x0.cells
  have c1 := HF3.out.x1.cells
  go_wp2_with fail
  refine (eqStop_same b.fl b.dir _).mono ?_
  rintro e w4 ⟨rfl, hb4⟩
  have HF4 := Lib.hid (HF3.out.call hb4)
  clear hb4 HF3 c0 c1
  have c0 := HF4.out.x0.cells
  have c1 := HF4.out.x1.cells
  go_wp2
  go_ret
  exact ⟨rfl, HF4.out.b⟩
end Go.Proofs.YthkpikkjgggimaaGreatDoor
