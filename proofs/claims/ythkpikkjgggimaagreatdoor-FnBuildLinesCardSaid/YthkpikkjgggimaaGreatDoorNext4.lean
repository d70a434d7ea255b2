/-
  The contract of the reference's NextStop. No claim stands here.
-/
import Derived.Test.YthkpikkjgggimaaGreatDoorNext3
namespace Go.Proofs.YthkpikkjgggimaaGreatDoor
open Go.RowKit
set_option linter.unusedVariables false
set_option linter.unusedSimpArgs false

theorem toward_ahead {n : Nat} {up dn car : Nat → Bool} {fl dir : Int} (h : 0 ≤ aheadFl n up dn car fl dir) : towardFl n up dn car fl dir = aheadFl n up dn car fl dir ∧ towardDir n up dn car fl dir = dir := by
  unfold aheadFl towardFl towardDir at *
  split at h
  · rename_i hlt; simp [hlt]
  · omega
theorem toward_back {n : Nat} {up dn car : Nat → Bool} {fl dir : Int} (h : aheadFl n up dn car fl dir < 0) : towardFl n up dn car fl dir = backFl up dn fl dir (ways n fl dir) ∧ towardDir n up dn car fl dir = backDir up dn fl dir (ways n fl dir) := by
  unfold aheadFl towardFl towardDir backFl backDir at *
  split at h
  · omega
  · rename_i hlt; simp [hlt]
theorem back_dir {up dn : Nat → Bool} {fl dir : Int} {j : Nat} (h : 0 ≤ backFl up dn fl dir j) : backDir up dn fl dir j = -dir := by
  unfold backFl backDir at *
  split
  · rename_i hz; rw [if_pos hz] at h; omega
  · rfl
/-- What holds at the head of the loop over the two directions. -/
def TurnInv (n : Nat) (up dn car : Nat → Bool) (fl dir : Int) (t : Nat) (d : Int) : Prop :=
  (t = 0 ∧ d = dir) ∨ (t = 1 ∧ d = -dir ∧ towardFl n up dn car fl dir < 0) ∨ (t = 2 ∧ towardFl n up dn car fl dir < 0 ∧ towardFl n up dn car fl (-dir) < 0)
theorem turn_dir {n : Nat} {up dn car : Nat → Bool} {fl dir : Int} {t : Nat} {d : Int} (h : TurnInv n up dn car fl dir t d) (hd : dir = 1 ∨ dir = -1) (ht : t < 2) : d = 1 ∨ d = -1 := by
  unfold TurnInv at h; omega
theorem turn_found {n : Nat} {up dn car : Nat → Bool} {fl dir : Int} {t : Nat} {d : Int} (h : TurnInv n up dn car fl dir t d) (ht : t < 2) (hf : 0 ≤ towardFl n up dn car fl d) :
    nextFl n up dn car fl dir = towardFl n up dn car fl d ∧ nextDir n up dn car fl dir = towardDir n up dn car fl d := by
  unfold nextFl nextDir
  rcases h with ⟨rfl, rfl⟩ | ⟨rfl, rfl, h⟩ | ⟨rfl, h⟩
  · rw [if_neg (by omega), if_neg (by omega)]; exact ⟨rfl, rfl⟩
  · rw [if_pos h, if_pos h]; exact ⟨rfl, rfl⟩
  · omega
theorem turn_next {n : Nat} {up dn car : Nat → Bool} {fl dir : Int} {t : Nat} {d : Int} (h : TurnInv n up dn car fl dir t d) (ht : t < 2) (hf : towardFl n up dn car fl d < 0) : TurnInv n up dn car fl dir (t + 1) (-d) := by
  rcases h with ⟨rfl, rfl⟩ | ⟨rfl, rfl, h⟩ | ⟨rfl, h⟩
  · exact .inr (.inl ⟨rfl, rfl, hf⟩)
  · exact .inr (.inr ⟨rfl, h, hf⟩)
  · omega
theorem turn_none {n : Nat} {up dn car : Nat → Bool} {fl dir : Int} {d : Int} (h : TurnInv n up dn car fl dir 2 d) : nextFl n up dn car fl dir = -1 ∧ nextDir n up dn car fl dir = 0 := by
  unfold nextFl nextDir
  rcases h with ⟨h, _⟩ | ⟨h, _⟩ | ⟨_, h1, h2⟩
  · omega
  · omega
  · rw [if_pos h1, if_pos h1]; exact toward_none h2

set_option maxHeartbeats 6400000 in
theorem spec_NextStop {w : World} {B n : Nat} {U D C : Option Addr} {cu cd cc : Nat} {up dn car : Nat → Bool} {fl dir : Int} (hv : callsB n n n up dn = true) (h0 : 0 ≤ fl) (h1 : fl < n) (hd : dir = 1 ∨ dir = -1) (hB : B ≤ w.heap.size)
    (hu : Bools w B U n up) (hdn : Bools w B D n dn) (hc : Bools w B C n car) :
    Calls Tryz.prog 107 #[.agg #[.slice U n cu, .slice D n cd, .slice C n cc], .agg #[.int .i64 fl, .int .i64 dir]] w (NextPost n up dn car fl dir w) := by
  obtain ⟨hn1, hn8, _⟩ := callsB_iff.1 hv
  have HD := Lib.hid hd
  have HV := Lib.hid hv
  have HU := Lib.hid hu
  have HDN := Lib.hid hdn
  have HC := Lib.hid hc
  have d1 : -1 ≤ dir := by omega
  have d2 : dir ≤ 1 := by omega
  clear hu hdn hc hd hv
  unfold NextPost
  go_enter Tryz.func107, Tryz.ntmps107
  go_wp2_with fail
  refine (l9Ok_yes HV.out h0 h1 HD.out (Nat.le_trans hB (by simp <;> omega)) (((HU.out.alloc hB _).alloc (Nat.le_trans hB (by simp <;> omega)) _).alloc (Nat.le_trans hB (by simp <;> omega)) _) (((HDN.out.alloc hB _).alloc (Nat.le_trans hB (by simp <;> omega)) _).alloc (Nat.le_trans hB (by simp <;> omega)) _)).mono ?_
  rintro e w1 ⟨rfl, hb1⟩
  obtain ⟨x, y, z, hbb, hs1⟩ := boxes3 hb1
  have HX1 := Lib.hid x
  have HY1 := Lib.hid y
  have HZ1 := Lib.hid z
  have HB1 := Lib.hid hbb
  clear hb1 x y z hbb
  go_wp2
  go_loopw [5] (fun s5 wr => ∃ (t : Nat) (d : Int), t ≤ 2 ∧ s5 = .int .i64 t ∧ -1 ≤ d ∧ d ≤ 1 ∧ Hid (TurnInv n up dn car fl dir t d) ∧ Hid (Bx wr w.heap.size #[.slice U n cu, .slice D n cd, .slice C n cc]) ∧ Hid (Bx wr (w.heap.size + 1) #[.int .i64 fl, .int .i64 d]) ∧
    Hid (Bx wr (w.heap.size + 1 + 1) #[.int .i64 0, .int .i64 0]) ∧ Hid (Below w.heap.size w wr)) (fun s5 _ => 2 - (intOf s5).toNat)
  case atStart => exact ⟨0, dir, by omega, rfl, by omega, by omega, Lib.hid (.inl ⟨rfl, rfl⟩), HX1, HY1, HZ1, HB1⟩
  case round =>
    obtain ⟨t, d, ht, rfl, hd1, hd2, HT, HX, HY, HZ, HB⟩ := hrel
    by_cases hlt : t < 2
    · have HDD := Lib.hid (turn_dir HT.out HD.out hlt)
      have c0 := HX.out.cells
      have c1 := HY.out.cells
      go_wp2_with fail
      refine (l9Ahead_any (up := up) (dn := dn) (car := car) hn8 h0 h1 HDD.out (Nat.le_trans hB HB.out.size) (HU.out.below (HB.out.mono hB)) (HDN.out.below (HB.out.mono hB)) (HC.out.below (HB.out.mono hB))).mono ?_
      rintro e w2 ⟨rfl, hb2⟩
      have HX2 := Lib.hid (HX.out.below hb2 HX.out.lt)
      have HY2 := Lib.hid (HY.out.below hb2 HY.out.lt)
      have HZ2 := Lib.hid (HZ.out.below hb2 HZ.out.lt)
      have HB2 := Lib.hid (HB.out.trans (hb2.mono HB.out.size))
      clear hb2 c0 c1 HX HY HZ HB
      have HAE : Hid (∃ a, a = aheadFl n up dn car fl d) := Lib.hid ⟨_, rfl⟩
      have HTA := Lib.hid (@toward_ahead n up dn car fl d)
      have HTB := Lib.hid (@toward_back n up dn car fl d)
      have HCA : Hid (∀ W : World, B ≤ W.heap.size → Bools W B U n up → Bools W B D n dn → Bools W B C n car → Calls Tryz.prog 137 #[.agg #[.slice U n cu, .slice D n cd, .slice C n cc], .agg #[.int .i64 fl, .int .i64 d]] W fun e w' => e = .returned (.int .i64 (aheadFl n up dn car fl d)) ∧ Below W.heap.size W w') :=
        Lib.hid (fun W hB' a b c => l9Ahead_any hn8 h0 h1 HDD.out hB' a b c)
      clear HAE
      generalize aheadFl n up dn car fl d = a at *
      by_cases ha : 0 ≤ a
      · have HR : Hid (nextFl n up dn car fl dir = a ∧ nextDir n up dn car fl dir = d) := Lib.hid (by
          obtain ⟨e1, e2⟩ := HTA.out ha
          obtain ⟨e3, e4⟩ := turn_found HT.out hlt (by rw [e1]; exact ha)
          exact ⟨by rw [e3, e1], by rw [e4, e2]⟩)
        clear HTA HTB
        go_wp2_with fail
        have c0 := HX2.out.cells
        have c1 := HY2.out.cells
        go_region_held3 (fun w' => (∀ o, w'.cell? ⟨w.heap.size, o, none⟩ = (#[.slice U n cu, .slice D n cd, .slice C n cc] : Array Value)[o]?) ∧ (∀ o, w'.cell? ⟨w.heap.size + 1, o, none⟩ = (#[.int .i64 fl, .int .i64 d] : Array Value)[o]?)) (first | exact ⟨HX2.out.cells, HY2.out.cells⟩ | exact ⟨HX3.out.cells, HY3.out.cells⟩ | exact ⟨((HX3.out.far _ _ (by simp <;> omega)).far _ _ (by simp <;> omega)).cells, ((HY3.out.far _ _ (by simp)).far _ _ (by simp)).cells⟩)
          ((go_at_call 137; (with_reducible refine (HCA.out w2.drew (Nat.le_trans hB HB2.out.drew.size) (HU.out.below (HB2.out.drew.mono hB)) (HDN.out.below (HB2.out.drew.mono hB)) (HC.out.below (HB2.out.drew.mono hB))).mono ?_); rintro e w3 ⟨rfl, hb3⟩; have HX3 := Lib.hid (HX2.out.below (w := w2.drew) hb3 HX2.out.lt); have HY3 := Lib.hid (HY2.out.below (w := w2.drew) hb3 HY2.out.lt); have HZ3 := Lib.hid (HZ2.out.below (w := w2.drew) hb3 HZ2.out.lt); have HB3 := Lib.hid (HB2.out.drew.trans (hb3.mono HB2.out.size)); have c2 := HZ3.out.cells; have z2 := HZ3.out.free))
        go_wp2
        refine bodyPost_ret (v := .agg #[.int .i64 a, .int .i64 d]) (by simp [results, Tryz.results107, go_sem, c2]) rfl ⟨by rw [HR.out.1, HR.out.2], ?_⟩
        repeat (refine below_set (by simp <;> omega) ?_)
        exact HB3.out
      · have e1 := HTB.out (by omega)
        have HCB : Hid (∀ W : World, B ≤ W.heap.size → Bools W B U n up → Bools W B D n dn → Bools W B C n car → Calls Tryz.prog 138 #[.agg #[.slice U n cu, .slice D n cd, .slice C n cc], .agg #[.int .i64 fl, .int .i64 d]] W fun e w' => e = .returned (.int .i64 (backFl up dn fl d (ways n fl d))) ∧ Below W.heap.size W w') :=
          Lib.hid (fun W hB' a b c => l9Last_any hn8 h0 h1 HDD.out hB' a b c)
        have HBD := Lib.hid (@back_dir up dn fl d (ways n fl d))
        have HE1 := Lib.hid e1
        clear e1 HTA HTB HCA
        generalize backFl up dn fl d (ways n fl d) = b at *
        generalize backDir up dn fl d (ways n fl d) = bd at *
        have c0 := HX2.out.cells
        have c1 := HY2.out.cells
        go_wp2_with fail
        refine (HCB.out w2 (Nat.le_trans hB HB2.out.size) (HU.out.below (HB2.out.mono hB)) (HDN.out.below (HB2.out.mono hB)) (HC.out.below (HB2.out.mono hB))).mono ?_
        rintro e w3 ⟨rfl, hb3⟩
        have HX3 := Lib.hid (HX2.out.below hb3 HX2.out.lt)
        have HY3 := Lib.hid (HY2.out.below hb3 HY2.out.lt)
        have HZ3 := Lib.hid (HZ2.out.below hb3 HZ2.out.lt)
        have HB3 := Lib.hid (HB2.out.trans (hb3.mono HB2.out.size))
        clear hb3 c0 c1 HX2 HY2 HZ2 HB2
        have c0 := HX3.out.cells
        have c1 := HY3.out.cells
        by_cases hb : 0 ≤ b
        · have HR : Hid (nextFl n up dn car fl dir = b ∧ nextDir n up dn car fl dir = -d) := Lib.hid (by
            obtain ⟨e1, e2⟩ := HE1.out
            obtain ⟨e3, e4⟩ := turn_found HT.out hlt (by rw [e1]; exact hb)
            exact ⟨by rw [e3, e1], by rw [e4, e2, HBD.out hb]⟩)
          clear HE1 HBD
          go_wp2_with fail
          have x1 : IntKind.i64.wrap (-d) = -d := IntWalk.i64_in _ (by omega)
          go_region_held3 (fun w' => (∀ o, w'.cell? ⟨w.heap.size, o, none⟩ = (#[.slice U n cu, .slice D n cd, .slice C n cc] : Array Value)[o]?) ∧ (∀ o, w'.cell? ⟨w.heap.size + 1, o, none⟩ = (#[.int .i64 fl, .int .i64 d] : Array Value)[o]?)) (first | exact ⟨HX3.out.cells, HY3.out.cells⟩ | exact ⟨HX4.out.cells, HY4.out.cells⟩ | exact ⟨((HX4.out.far _ _ (by simp <;> omega)).far _ _ (by simp <;> omega)).cells, ((HY4.out.far _ _ (by simp)).far _ _ (by simp)).cells⟩)
            ((go_at_call 138; (with_reducible refine (HCB.out w3.drew (Nat.le_trans hB HB3.out.drew.size) (HU.out.below (HB3.out.drew.mono hB)) (HDN.out.below (HB3.out.drew.mono hB)) (HC.out.below (HB3.out.drew.mono hB))).mono ?_); rintro e w4 ⟨rfl, hb4⟩; have HX4 := Lib.hid (HX3.out.below (w := w3.drew) hb4 HX3.out.lt); have HY4 := Lib.hid (HY3.out.below (w := w3.drew) hb4 HY3.out.lt); have HZ4 := Lib.hid (HZ3.out.below (w := w3.drew) hb4 HZ3.out.lt); have HB4 := Lib.hid (HB3.out.drew.trans (hb4.mono HB3.out.size)); have c2 := HZ4.out.cells; have z2 := HZ4.out.free))
          clear x1
          go_wp2
          refine bodyPost_ret (v := .agg #[.int .i64 b, .int .i64 (-d)]) (by simp [results, Tryz.results107, go_sem, c2]) rfl ⟨by rw [HR.out.1, HR.out.2], ?_⟩
          repeat (refine below_set (by simp <;> omega) ?_)
          exact HB4.out
        · have HT4 := Lib.hid (turn_next HT.out hlt (by rw [HE1.out.1]; omega))
          have z1 := HY3.out.free
          go_wp2
          go_roundw
          case rel => exact ⟨t + 1, -d, by omega, by go_num, by omega, by omega, HT4, Lib.hid (HX3.out.far _ _ (by simp)), Lib.hid (HY3.out.set 1 _), Lib.hid (HZ3.out.far _ _ (by simp)), Lib.hid (HB3.out.setCell (by simp) _)⟩
          case measure => simp [intOf]; omega
    · obtain rfl : t = 2 := by omega
      have HR := Lib.hid (turn_none HT.out)
      have c2 := HZ.out.cells
      have z2 := HZ.out.free
      go_wp2
      refine bodyPost_ret (v := .agg #[.int .i64 (-1), .int .i64 0]) (by simp [results, Tryz.results107, go_sem, c2]) rfl ⟨by rw [HR.out.1, HR.out.2], ?_⟩
      repeat (refine below_set (by simp <;> omega) ?_)
      exact HB.out
end Go.Proofs.YthkpikkjgggimaaGreatDoor
