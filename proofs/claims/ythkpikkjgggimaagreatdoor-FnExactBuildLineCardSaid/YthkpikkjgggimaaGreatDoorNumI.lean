/-
  The contracts of strconv.Itoa and l1Number for whole numbers; the world that the lines are read in. No claim stands here.
-/
import Derived.Test.YthkpikkjgggimaaGreatDoorNum
import Derived.Test.YthkpikkjgggimaaGreatDoorShelf
import Derived.Lib.AppendIntMem
namespace Go.Proofs.YthkpikkjgggimaaGreatDoor
open Go.RowKit
set_option linter.unusedVariables false
set_option linter.unusedSimpArgs false

/-- The world has its shape, and the table of powers of ten reads as it was laid. -/
structure Here (w : World) : Prop where
  s : w.ShapedOpen Tryz.prog
  t : Lib.TabIs Tryz.prog w "internal/strconv.uint64pow10" .u64 Lib.pow10Tab
theorem Here.below {w w' : World} (h : Here w) (hb : Below w.heap.size w w') : Here w' :=
  ⟨h.s.keptBut (may := fun _ => False) (hb.frame _) (fun _ e => e.elim), Lib.tabBelow_of_tabIs h.t w' hb⟩
theorem Here.base {w w' : World} {B : Nat} (h : Here w) (hb : Below B w w') (hB : w.heap.size ≤ B) : Here w' := h.below (hb.mono hB)

theorem itoa_nat (i : Nat) : Lib.itoa (i : Int) = Lib.decDigits i := by
  unfold Lib.itoa
  rw [if_neg (by omega), Int.toNat_natCast]
theorem itoa_neg {i : Nat} (h : 0 < i) : Lib.itoa (-(i : Int)) = 45 :: Lib.decDigits i := by
  unfold Lib.itoa
  rw [if_pos (by omega)]
  simp
theorem Itoa_any (n : Int) (h0 : -1000000 ≤ n) (h1 : n ≤ 1000000) {w : World} (h : Here w) :
    Calls Tryz.prog 45 #[.int .i64 n] w fun e w' => e = .returned (.string ⟨(Lib.itoa n).toArray⟩) ∧ Below w.heap.size w w' := by
  refine (Tryz.strconv_Itoa n (by omega) (by omega) w h.t).mono ?_
  rintro e w' ⟨rfl, k, os, rfl⟩
  exact ⟨rfl, Lib.below_grow _ _ (Nat.le_refl _) _ _⟩

set_option maxRecDepth 100000 in
set_option maxHeartbeats 1600000 in
theorem l1Number_int (n : Int) (h0 : -1000000 ≤ n) (h1 : n ≤ 1000000) (w : World) :
    Calls Tryz.prog 58 #[.int .i64 n] w fun e w' => e = .returned (.string ⟨(Lib.itoa n).toArray⟩) ∧ Below w.heap.size w w' := by
  by_cases hn : 0 ≤ n
  · obtain ⟨i, rfl⟩ := Int.eq_ofNat_of_zero_le hn
    rw [itoa_nat]
    exact l1Number_any (by omega) w
  · obtain ⟨i, rfl⟩ : ∃ i : Nat, n = -(i : Int) := ⟨n.natAbs, by omega⟩
    have hi : 0 < i := by omega
    have HT := Lib.hid (itoa_neg hi)
    have HC := Lib.hid (l1Number_any (i := i) (by omega) w)
    have HL := Lib.hid (decDigits_short i (by omega))
    have q0 : (-(i : Int)) < 0 := by omega
    have q1 : ((-(i : Int)) == (i : Int)) = false := by simp; omega
    have q2 : IntKind.i64.wrap (i : Int) = (i : Int) := IntWalk.i64_in _ (by omega)
    have hz : (ByteArray.mk (Lib.decDigits i).toArray).size ≤ 1000001 := by
      show (Lib.decDigits i).toArray.size ≤ _
      have := HL.out
      simp; omega
    have hy : ByteArray.mk (45 :: Lib.decDigits i).toArray = ByteArray.mk #[45] ++ ByteArray.mk (Lib.decDigits i).toArray := by
      rw [ByteArray.mk_append_mk]; rfl
    generalize ByteArray.mk (Lib.decDigits i).toArray = x at *
    have HY := Lib.hid hy
    clear hy hn
    go_enter Tryz.func58, Tryz.ntmps58
    go_wp2_with (go_at_call 58; refine HC.out.mono ?_; rintro e w1 ⟨rfl, hb1⟩)
    go_ret
    exact ⟨by rw [HT.out, HY.out]; rfl, hb1⟩
end Go.Proofs.YthkpikkjgggimaaGreatDoor
