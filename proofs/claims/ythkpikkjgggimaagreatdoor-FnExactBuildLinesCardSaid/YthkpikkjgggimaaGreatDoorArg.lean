/-
  An argument that is a building, as a row's proof opens it. No claim stands here.
-/
import Derived.Test.YthkpikkjgggimaaGreatDoorBC
import Derived.ProofKit
import Derived.OpenShut
import Derived.Deep.Grids
namespace Go.Proofs.YthkpikkjgggimaaGreatDoor
open Go.ChangeShapes Go.WideShapes Go.ChangeAt Go.RowKit Go.Deep
set_option linter.unusedVariables false
set_option linter.unusedSimpArgs false

theorem bools_of {w : World} {a : Option Addr} {len cap : Nat} {z : Nat → Bool}
    (h : (a = none ∧ len = 0 ∧ cap = 0) ∨ ∃ x, a = some x ∧ len ≤ cap ∧ cap ≤ maxLen ∧ ∀ i, i < cap → w.cell? (x.add i) = some (.bool (z i))) :
    Bools w w.heap.size a len z ∧ (a = none → cap = 0) ∧ len ≤ 9223372036854775807 := by
  rcases h with ⟨rfl, rfl, rfl⟩ | ⟨⟨b, off, spot⟩, rfl, hl, hm, hc⟩
  · exact ⟨Bools.zero, fun _ => rfl, by omega⟩
  · refine ⟨fun hn => ?_, (fun e => by cases e), by unfold maxLen at hm; omega⟩
    have h0 := hc 0 (by omega)
    have hs : spot = none := by simpa [Addr.add] using World.cell?_spot h0
    subst hs
    refine ⟨b, off, rfl, ?_, fun i hi => ?_⟩
    · have := World.block_lt_of_cell? w _ h0
      simpa [Addr.add] using this
    · have := hc i (by omega)
      rwa [Addr.add_lit] at this

section
variable {H : Type} {enc : TypeId × Value → H} {w : World}
theorem open_bool_slice {fuel : Nat} {c : Value} {y : DataW H × List MemPlace} (h : DataW.trod enc Tryz.prog w 0 (fun _ => true) true fuel 30 [c] = some y) :
    ∃ U len cap z, c = .slice U len cap ∧ Bools w w.heap.size U len z ∧ (U = none → cap = 0) ∧ len ≤ 9223372036854775807 := by
  rcases open_bools Tryz.underlying30 Tryz.underlying4 (by kernel_rfl) h with ⟨hcs, _⟩ | ⟨a, len, cap, z, hcs, _, hl, hm, _, hcell⟩
  · simp at hcs; subst hcs
    exact ⟨none, 0, 0, fun _ => false, rfl, bools_of (.inl ⟨rfl, rfl, rfl⟩)⟩
  · simp at hcs; subst hcs
    exact ⟨some a, len, cap, z, rfl, bools_of (.inr ⟨a, rfl, hl, hm, hcell⟩)⟩
theorem open_int_slice {fuel : Nat} {c : Value} {y : DataW H × List MemPlace} (h : DataW.trod enc Tryz.prog w 0 (fun _ => true) true fuel 23 [c] = some y) :
    ∃ A len cap f, c = .slice A len cap ∧ Ints w w.heap.size A len f ∧ (A = none → cap = 0) ∧ len ≤ 9223372036854775807 := by
  rcases open_ints Tryz.underlying23 Tryz.underlying3 (by kernel_rfl) h with ⟨hcs, _⟩ | ⟨x, l, c', zs, hcs, _, hl, hm, hz, _, hcell, hwz⟩
  · simp at hcs; subst hcs
    exact ⟨none, 0, 0, fun _ => 0, rfl, Ints.zero, fun _ => rfl, by omega⟩
  · simp at hcs; subst hcs
    refine ⟨some x, l, c', fun i => zs.getD i 0, rfl, ints_of (zs := zs) (.inr ⟨x, rfl, hl, hm, by simpa using hz, hcell, hwz⟩), (fun e => by cases e), by unfold maxLen at hm; omega⟩
theorem open_int_cell {fuel : Nat} {c : Value} {y : DataW H × List MemPlace} (h : DataW.trod enc Tryz.prog w 0 (fun _ => true) true fuel 3 [c] = some y) : ∃ n : Int, c = .int .i64 n := by
  obtain ⟨n, hcs, _⟩ := DataW.trod_int Tryz.underlying3 h
  simp at hcs
  exact ⟨n, hcs⟩
theorem open_bool_cell {fuel : Nat} {c : Value} {y : DataW H × List MemPlace} (h : DataW.trod enc Tryz.prog w 0 (fun _ => true) true fuel 4 [c] = some y) : ∃ n : Bool, c = .bool n := by
  obtain ⟨n, hcs, _⟩ := DataW.trod_bool Tryz.underlying4 h
  simp at hcs
  exact ⟨n, hcs⟩
theorem cells_int : Tryz.prog.cellsOf 3 = 1 := by kernel_rfl
theorem cells_bool : Tryz.prog.cellsOf 4 = 1 := by kernel_rfl
theorem cells_ints : Tryz.prog.cellsOf 23 = 1 := by kernel_rfl
theorem cells_bools : Tryz.prog.cellsOf 30 = 1 := by kernel_rfl
theorem cells_Motion : Tryz.prog.cellsOf 48 = 2 := by kernel_rfl
theorem open_Motion {fuel : Nat} {c c' : Value} {y : DataW H × List MemPlace} (h : DataW.trod enc Tryz.prog w 0 (fun _ => true) true fuel 48 [c, c'] = some y) : (∃ n : Int, c = .int .i64 n) ∧ ∃ n : Int, c' = .int .i64 n := by
  obtain ⟨y0, y1, n, _, _, h0, h1⟩ := trod_struct2 Tryz.underlying48 h
  simp [cells_int] at h0 h1
  exact ⟨open_int_cell h0, open_int_cell h1⟩
theorem cells_Door : Tryz.prog.cellsOf 49 = 2 := by kernel_rfl
theorem open_Door {fuel : Nat} {c c' : Value} {y : DataW H × List MemPlace} (h : DataW.trod enc Tryz.prog w 0 (fun _ => true) true fuel 49 [c, c'] = some y) : (∃ n : Int, c = .int .i64 n) ∧ ∃ n : Int, c' = .int .i64 n := by
  obtain ⟨y0, y1, n, _, _, h0, h1⟩ := trod_struct2 Tryz.underlying49 h
  simp [cells_int] at h0 h1
  exact ⟨open_int_cell h0, open_int_cell h1⟩
theorem cells_Stop : Tryz.prog.cellsOf 53 = 2 := by kernel_rfl
theorem open_Stop {fuel : Nat} {c c' : Value} {y : DataW H × List MemPlace} (h : DataW.trod enc Tryz.prog w 0 (fun _ => true) true fuel 53 [c, c'] = some y) : (∃ n : Int, c = .int .i64 n) ∧ ∃ n : Int, c' = .int .i64 n := by
  obtain ⟨y0, y1, n, _, _, h0, h1⟩ := trod_struct2 Tryz.underlying53 h
  simp [cells_int] at h0 h1
  exact ⟨open_int_cell h0, open_int_cell h1⟩
theorem cells_Lift : Tryz.prog.cellsOf 51 = 4 := by kernel_rfl
theorem cells_Calls : Tryz.prog.cellsOf 52 = 3 := by kernel_rfl
theorem cells_Building : Tryz.prog.cellsOf 55 = 11 := by kernel_rfl

set_option maxRecDepth 100000 in
theorem open_building {base : Nat} {v0 : Value} {d : DataW H} {p : List MemPlace} (hval : Value.okWide Tryz.prog w .any base 55 v0) (h : DataW.Trod enc Tryz.prog w 0 (fun _ => true) true 55 v0 d p) :
    ∃ (v : Bv) (b : Bld), v0 = bval v b ∧ ReadB w w.heap.size v b ∧ b.n ≤ 9223372036854775807 ∧ b.nu ≤ 9223372036854775807 ∧ b.nd ≤ 9223372036854775807 ∧ b.nc ≤ 9223372036854775807 := by
  obtain ⟨cs, rfl, hsz⟩ := okWide_struct Tryz.underlying55 hval
  obtain ⟨l⟩ := cs
  match l, hsz.trans cells_Building with
  | [c0, c1, c2, c3, c4, c5, c6, c7, c8, c9, c10], _ =>
    obtain ⟨fuel, hf⟩ := h
    obtain ⟨xs, n, _, _, _, hlen, hg⟩ := DataW.trod_struct Tryz.underlying55 hf
    match xs, hlen with
    | [y0, y1, y2, y3, y4], _ =>
      have g0 := hg 0 _ rfl
      have g1 := hg 1 _ rfl
      have g2 := hg 2 _ rfl
      have g3 := hg 3 _ rfl
      have g4 := hg 4 _ rfl
      simp [Value.cells, cells_ints, cells_Lift, cells_Calls, cells_Stop, cells_bool] at g0 g1 g2 g3 g4
      obtain ⟨l0, l1, m, _, _, q0, q1⟩ := trod_struct2 Tryz.underlying51 g1
      simp [cells_Motion, cells_Door] at q0 q1
      obtain ⟨⟨pos, rfl⟩, ⟨sp, rfl⟩⟩ := open_Motion q0
      obtain ⟨⟨gap, rfl⟩, ⟨hold, rfl⟩⟩ := open_Door q1
      obtain ⟨⟨fl, rfl⟩, ⟨dir, rfl⟩⟩ := open_Stop g3
      obtain ⟨op, rfl⟩ := open_bool_cell g4
      obtain ⟨A, n0, c, f, rfl, hA, eA, bA⟩ := open_int_slice g0
      obtain ⟨zs, k, _, _, _, hz, hk⟩ := DataW.trod_struct Tryz.underlying52 g2
      match zs, hz with
      | [z0, z1, z2], _ =>
        have k0 := hk 0 _ rfl
        have k1 := hk 1 _ rfl
        have k2 := hk 2 _ rfl
        simp [cells_bools] at k0 k1 k2
        obtain ⟨U, nu, cu, up, rfl, hU, eU, bU⟩ := open_bool_slice k0
        obtain ⟨D, nd, cd, dn, rfl, hD, eD, bD⟩ := open_bool_slice k1
        obtain ⟨C, nc, cc, car, rfl, hC, eC, bC⟩ := open_bool_slice k2
        exact ⟨⟨A, c, U, cu, D, cd, C, cc⟩, ⟨n0, f, pos, sp, gap, hold, nu, up, nd, dn, nc, car, fl, dir, op⟩, rfl, ⟨hA, hU, hD, hC, eA, eU, eD, eC⟩, bA, bU, bD, bC⟩
end
end Go.Proofs.YthkpikkjgggimaaGreatDoor
