/-
  The contracts of the reference's l9Ok, l9Ahead, l9Last, ServeStop. No claim stands here.
-/
import Derived.Test.YthkpikkjgggimaaGreatDoorNext2
namespace Go.Proofs.YthkpikkjgggimaaGreatDoor
open Go.RowKit
set_option linter.unusedVariables false
set_option linter.unusedSimpArgs false

set_option maxHeartbeats 1600000 in
theorem l9Ok_yes {w : World} {B n : Nat} {U D C : Option Addr} {cu cd cc : Nat} {up dn : Nat → Bool} {fl dir : Int} (hv : callsB n n n up dn = true) (h0 : 0 ≤ fl) (h1 : fl < n) (hd : dir = 1 ∨ dir = -1) (hB : B ≤ w.heap.size)
    (hu : Bools w B U n up) (hdn : Bools w B D n dn) :
    Calls Tryz.prog 134 #[.agg #[.slice U n cu, .slice D n cd, .slice C n cc], .agg #[.int .i64 fl, .int .i64 dir]] w fun e w' => e = .returned (.bool true) ∧ Below w.heap.size w w' := by
  obtain ⟨hn1, hn8, _⟩ := callsB_iff.1 hv
  have HV := Lib.hid hv
  have HU := Lib.hid hu
  have HDN := Lib.hid hdn
  have HI : Hid (inB fl 0 ((n : Int) - 1) = true) := Lib.hid (inB_iff.2 (by omega))
  clear hu hdn hv
  rcases hd with rfl | rfl
  all_goals
    go_enter Tryz.func134, Tryz.ntmps134
    go_wp2_with fail
    refine (spec_CallsValid (nu := n) (nd := n) (nc := n) (up := up) (dn := dn) (by omega) (by omega) (by omega) (Nat.le_trans hB (by simp <;> omega)) ((HU.out.alloc hB _).alloc (Nat.le_trans hB (by simp <;> omega)) _) ((HDN.out.alloc hB _).alloc (Nat.le_trans hB (by simp <;> omega)) _)).mono ?_
    rintro e w1 ⟨rfl, hb1⟩
    rw [HV.out]
    obtain ⟨x, y, hbb, hs1⟩ := boxes2' hb1
    have HB1 := Lib.hid hbb
    have c0 := x.cells
    have c1 := y.cells
    clear hb1 x y hbb
    go_wp2_with fail
    refine (l1In_any fl 0 ((n : Int) - 1) _).mono ?_
    rintro e w2 ⟨rfl, rfl⟩
    rw [HI.out]
    go_wp2
    go_ret
    exact ⟨rfl, HB1.out⟩

/-- The first floor ahead at which there is a call, or -1. -/
def aheadFl (n : Nat) (up dn car : Nat → Bool) (fl dir : Int) : Int :=
  if firstP (hitP up dn car fl dir) (ways n fl dir) < ways n fl dir then (place fl dir (firstP (hitP up dn car fl dir) (ways n fl dir)) : Nat) else -1
theorem ahead_hit {n : Nat} {up dn car : Nat → Bool} {fl dir : Int} {j : Nat} (h : ∀ i, i < j → hitP up dn car fl dir i = false) (hp : hitP up dn car fl dir j = true) (hj : j < ways n fl dir) :
    aheadFl n up dn car fl dir = (place fl dir j : Nat) := by
  have e := firstP_at h hp hj
  simp [aheadFl, e, hj]
theorem ahead_end {n : Nat} {up dn car : Nat → Bool} {fl dir : Int} (h : ∀ i, i < ways n fl dir → hitP up dn car fl dir i = false) : aheadFl n up dn car fl dir = -1 := by
  have e := firstP_all h
  simp [aheadFl, e]

set_option maxHeartbeats 6400000 in
theorem l9Ahead_any {w : World} {B n : Nat} {U D C : Option Addr} {cu cd cc : Nat} {up dn car : Nat → Bool} {fl dir : Int} (hn : n ≤ 8) (h0 : 0 ≤ fl) (h1 : fl < n) (hd : dir = 1 ∨ dir = -1) (hB : B ≤ w.heap.size)
    (hu : Bools w B U n up) (hdn : Bools w B D n dn) (hc : Bools w B C n car) :
    Calls Tryz.prog 137 #[.agg #[.slice U n cu, .slice D n cd, .slice C n cc], .agg #[.int .i64 fl, .int .i64 dir]] w fun e w' => e = .returned (.int .i64 (aheadFl n up dn car fl dir)) ∧ Below w.heap.size w w' := by
  have HB0 := Lib.hid (((Below.refl w.heap.size w).alloc (Nat.le_refl _) (.cells #[.slice U n cu, .slice D n cd, .slice C n cc] 32)).alloc (by simp) (.cells #[.int .i64 fl, .int .i64 dir] 34))
  obtain ⟨b1, o1, rfl, _, g1⟩ := (hu.below (HB0.out.mono hB)) (by omega)
  obtain ⟨b2, o2, rfl, _, g2⟩ := (hdn.below (HB0.out.mono hB)) (by omega)
  obtain ⟨b3, o3, rfl, _, g3⟩ := (hc.below (HB0.out.mono hB)) (by omega)
  have G1 := Lib.hid g1
  have G2 := Lib.hid g2
  have G3 := Lib.hid g3
  clear g1 g2 g3 hu hdn hc
  rcases hd with rfl | rfl
  · go_enter Tryz.func137, Tryz.ntmps137
    go_wp2
    go_loop [5] (fun s5 => ∃ (j : Nat) (x : Int), s5 = .int .i64 x ∧ -1 ≤ x ∧ x ≤ 8 ∧ Hid (j ≤ ways n fl 1) ∧ Hid (x = fl + 1 * j) ∧ Hid (∀ i, i < j → hitP up dn car fl 1 i = false)) (fun s5 => ((n : Int) - intOf s5).toNat)
    case atStart => exact ⟨0, fl, rfl, by omega, by omega, Lib.hid (Nat.zero_le _), Lib.hid (by simp), Lib.hid (fun i hi => absurd hi (by omega))⟩
    case round =>
      obtain ⟨j, x, rfl, hx1, hx2, HJ, HE, HN⟩ := hrel
      go_wp2_with fail
      refine (l1In_any x 0 ((n : Int) - 1) _).mono ?_
      rintro e w2 ⟨rfl, rfl⟩
      cases hi : inB x 0 ((n : Int) - 1)
      · have HW : Hid (j = ways n fl 1) := Lib.hid (ways_end (by simp) h0 h1 HJ.out HE.out (by have := inB_no.1 hi; omega))
        have HT := Lib.hid (ahead_end (n := n) (by rw [← HW.out]; exact HN.out))
        go_wp2
        go_ret
        exact ⟨ret_int HT.out.symm, HB0.out⟩
      · obtain ⟨i1, i2⟩ := inB_iff.1 hi
        obtain ⟨k, rfl⟩ : ∃ k : Nat, x = (k : Int) := ⟨x.toNat, by omega⟩
        have hk : k < n := by omega
        obtain ⟨e1, e2, e3, e4⟩ := round_facts (up := up) (dn := dn) (car := car) (by simp) h0 HE.out hk
        have E1 := Lib.hid e1
        have E2 := Lib.hid e2
        have E3 : Hid (hitP up dn car fl 1 j = (car k || up k)) := Lib.hid (by rw [e3]; simp [callGo])
        clear e1 e2 e3 e4
        have g1 := G1.out k hk
        have g2 := G2.out k hk
        have g3 := G3.out k hk
        have HE5 := Lib.hid (pos_succ HE.out)
        cases hcar : car k
        · cases hgo : up k
          · have HN5 := Lib.hid (none_succ HN.out (by rw [E3.out, hcar, hgo]; rfl))
            go_wp2
            go_round
            case rel => exact ⟨j + 1, (k : Int) + 1, rfl, by omega, by omega, Lib.hid E2.out, HE5, HN5⟩
            case measure => simp [intOf]; omega
          · have HT := Lib.hid (ahead_hit HN.out (by rw [E3.out, hgo, Bool.or_true]) E2.out)
            rw [E1.out] at HT
            go_wp2
            go_ret
            exact ⟨ret_int HT.out.symm, HB0.out⟩
        · have HT := Lib.hid (ahead_hit HN.out (by rw [E3.out, hcar, Bool.true_or]) E2.out)
          rw [E1.out] at HT
          go_wp2
          go_ret
          exact ⟨ret_int HT.out.symm, HB0.out⟩
  · go_enter Tryz.func137, Tryz.ntmps137
    go_wp2
    go_loop [5] (fun s5 => ∃ (j : Nat) (x : Int), s5 = .int .i64 x ∧ -1 ≤ x ∧ x ≤ 8 ∧ Hid (j ≤ ways n fl (-1)) ∧ Hid (x = fl + (-1) * j) ∧ Hid (∀ i, i < j → hitP up dn car fl (-1) i = false)) (fun s5 => (intOf s5 + 1).toNat)
    case atStart => exact ⟨0, fl, rfl, by omega, by omega, Lib.hid (Nat.zero_le _), Lib.hid (by simp), Lib.hid (fun i hi => absurd hi (by omega))⟩
    case round =>
      obtain ⟨j, x, rfl, hx1, hx2, HJ, HE, HN⟩ := hrel
      go_wp2_with fail
      refine (l1In_any x 0 ((n : Int) - 1) _).mono ?_
      rintro e w2 ⟨rfl, rfl⟩
      cases hi : inB x 0 ((n : Int) - 1)
      · have HW : Hid (j = ways n fl (-1)) := Lib.hid (ways_end (by simp) h0 h1 HJ.out HE.out (by have := inB_no.1 hi; omega))
        have HT := Lib.hid (ahead_end (n := n) (by rw [← HW.out]; exact HN.out))
        go_wp2
        go_ret
        exact ⟨ret_int HT.out.symm, HB0.out⟩
      · obtain ⟨i1, i2⟩ := inB_iff.1 hi
        obtain ⟨k, rfl⟩ : ∃ k : Nat, x = (k : Int) := ⟨x.toNat, by omega⟩
        have hk : k < n := by omega
        obtain ⟨e1, e2, e3, e4⟩ := round_facts (up := up) (dn := dn) (car := car) (by simp) h0 HE.out hk
        have E1 := Lib.hid e1
        have E2 := Lib.hid e2
        have E3 : Hid (hitP up dn car fl (-1) j = (car k || dn k)) := Lib.hid (by rw [e3]; simp [callGo])
        clear e1 e2 e3 e4
        have g1 := G1.out k hk
        have g2 := G2.out k hk
        have g3 := G3.out k hk
        have HE5 := Lib.hid (pos_succ HE.out)
        cases hcar : car k
        · cases hgo : dn k
          · have HN5 := Lib.hid (none_succ HN.out (by rw [E3.out, hcar, hgo]; rfl))
            go_wp2
            go_round
            case rel => exact ⟨j + 1, (k : Int) + (-1), rfl, by omega, by omega, Lib.hid E2.out, HE5, HN5⟩
            case measure => simp [intOf]; omega
          · have HT := Lib.hid (ahead_hit HN.out (by rw [E3.out, hgo, Bool.or_true]) E2.out)
            rw [E1.out] at HT
            go_wp2
            go_ret
            exact ⟨ret_int HT.out.symm, HB0.out⟩
        · have HT := Lib.hid (ahead_hit HN.out (by rw [E3.out, hcar, Bool.true_or]) E2.out)
          rw [E1.out] at HT
          go_wp2
          go_ret
          exact ⟨ret_int HT.out.symm, HB0.out⟩

set_option maxHeartbeats 6400000 in
theorem l9Last_any {w : World} {B n : Nat} {U D C : Option Addr} {cu cd cc : Nat} {up dn car : Nat → Bool} {fl dir : Int} (hn : n ≤ 8) (h0 : 0 ≤ fl) (h1 : fl < n) (hd : dir = 1 ∨ dir = -1) (hB : B ≤ w.heap.size)
    (hu : Bools w B U n up) (hdn : Bools w B D n dn) (hc : Bools w B C n car) :
    Calls Tryz.prog 138 #[.agg #[.slice U n cu, .slice D n cd, .slice C n cc], .agg #[.int .i64 fl, .int .i64 dir]] w fun e w' => e = .returned (.int .i64 (backFl up dn fl dir (ways n fl dir))) ∧ Below w.heap.size w w' := by
  have HB0 := Lib.hid (((Below.refl w.heap.size w).alloc (Nat.le_refl _) (.cells #[.slice U n cu, .slice D n cd, .slice C n cc] 32)).alloc (by simp) (.cells #[.int .i64 fl, .int .i64 dir] 34))
  obtain ⟨b1, o1, rfl, _, g1⟩ := (hu.below (HB0.out.mono hB)) (by omega)
  obtain ⟨b2, o2, rfl, _, g2⟩ := (hdn.below (HB0.out.mono hB)) (by omega)
  obtain ⟨b3, o3, rfl, _, g3⟩ := (hc.below (HB0.out.mono hB)) (by omega)
  have G1 := Lib.hid g1
  have G2 := Lib.hid g2
  have G3 := Lib.hid g3
  clear g1 g2 g3 hu hdn hc
  rcases hd with rfl | rfl
  · go_enter Tryz.func138, Tryz.ntmps138
    go_wp2
    go_loop [5, 6] (fun s5 s6 => ∃ (j : Nat) (x bf : Int), s5 = .int .i64 bf ∧ s6 = .int .i64 x ∧ -1 ≤ x ∧ x ≤ 8 ∧ Hid (j ≤ ways n fl 1) ∧ Hid (x = fl + 1 * j) ∧ Hid (bf = backFl up dn fl 1 j)) (fun _ s6 => ((n : Int) - intOf s6).toNat)
    case atStart => exact ⟨0, fl, -1, rfl, rfl, by omega, by omega, Lib.hid (Nat.zero_le _), Lib.hid (by simp), Lib.hid (back_zero (up := up) (dn := dn) (fl := fl) (dir := 1)).1.symm⟩
    case round =>
      obtain ⟨j, x, bf, rfl, rfl, hx1, hx2, HJ, HE, HF⟩ := hrel
      go_wp2_with fail
      refine (l1In_any x 0 ((n : Int) - 1) _).mono ?_
      rintro e w2 ⟨rfl, rfl⟩
      cases hi : inB x 0 ((n : Int) - 1)
      · have HW : Hid (j = ways n fl 1) := Lib.hid (ways_end (by simp) h0 h1 HJ.out HE.out (by have := inB_no.1 hi; omega))
        go_wp2
        go_ret
        exact ⟨ret_int (by rw [HF.out, HW.out]), HB0.out⟩
      · obtain ⟨i1, i2⟩ := inB_iff.1 hi
        obtain ⟨k, rfl⟩ : ∃ k : Nat, x = (k : Int) := ⟨x.toNat, by omega⟩
        have hk : k < n := by omega
        obtain ⟨e1, e2, e3, e4⟩ := round_facts (up := up) (dn := dn) (car := car) (by simp) h0 HE.out hk
        have E1 := Lib.hid e1
        have E2 := Lib.hid e2
        have E4 : Hid (backP up dn fl 1 j = dn k) := Lib.hid (by rw [e4]; simp [callGo])
        clear e1 e2 e3 e4
        have g1 := G1.out k hk
        have g2 := G2.out k hk
        have HE5 := Lib.hid (pos_succ HE.out)
        cases hgo : dn k
        · have HF5 : Hid (bf = backFl up dn fl 1 (j + 1)) := Lib.hid (by rw [(back_not (by rw [E4.out, hgo])).1]; exact HF.out)
          go_wp2
          go_round
          case rel => exact ⟨j + 1, (k : Int) + 1, bf, rfl, rfl, by omega, by omega, Lib.hid E2.out, HE5, HF5⟩
          case measure => simp [intOf]; omega
        · have HF5 : Hid ((k : Int) = backFl up dn fl 1 (j + 1)) := Lib.hid (by rw [(back_yes (by rw [E4.out, hgo])).1, E1.out])
          go_wp2
          go_round
          case rel => exact ⟨j + 1, (k : Int) + 1, (k : Int), rfl, rfl, by omega, by omega, Lib.hid E2.out, HE5, HF5⟩
          case measure => simp [intOf]; omega
  · go_enter Tryz.func138, Tryz.ntmps138
    go_wp2
    go_loop [5, 6] (fun s5 s6 => ∃ (j : Nat) (x bf : Int), s5 = .int .i64 bf ∧ s6 = .int .i64 x ∧ -1 ≤ x ∧ x ≤ 8 ∧ Hid (j ≤ ways n fl (-1)) ∧ Hid (x = fl + (-1) * j) ∧ Hid (bf = backFl up dn fl (-1) j)) (fun _ s6 => (intOf s6 + 1).toNat)
    case atStart => exact ⟨0, fl, -1, rfl, rfl, by omega, by omega, Lib.hid (Nat.zero_le _), Lib.hid (by simp), Lib.hid (back_zero (up := up) (dn := dn) (fl := fl) (dir := (-1))).1.symm⟩
    case round =>
      obtain ⟨j, x, bf, rfl, rfl, hx1, hx2, HJ, HE, HF⟩ := hrel
      go_wp2_with fail
      refine (l1In_any x 0 ((n : Int) - 1) _).mono ?_
      rintro e w2 ⟨rfl, rfl⟩
      cases hi : inB x 0 ((n : Int) - 1)
      · have HW : Hid (j = ways n fl (-1)) := Lib.hid (ways_end (by simp) h0 h1 HJ.out HE.out (by have := inB_no.1 hi; omega))
        go_wp2
        go_ret
        exact ⟨ret_int (by rw [HF.out, HW.out]), HB0.out⟩
      · obtain ⟨i1, i2⟩ := inB_iff.1 hi
        obtain ⟨k, rfl⟩ : ∃ k : Nat, x = (k : Int) := ⟨x.toNat, by omega⟩
        have hk : k < n := by omega
        obtain ⟨e1, e2, e3, e4⟩ := round_facts (up := up) (dn := dn) (car := car) (by simp) h0 HE.out hk
        have E1 := Lib.hid e1
        have E2 := Lib.hid e2
        have E4 : Hid (backP up dn fl (-1) j = up k) := Lib.hid (by rw [e4]; simp [callGo])
        clear e1 e2 e3 e4
        have g1 := G1.out k hk
        have g2 := G2.out k hk
        have HE5 := Lib.hid (pos_succ HE.out)
        cases hgo : up k
        · have HF5 : Hid (bf = backFl up dn fl (-1) (j + 1)) := Lib.hid (by rw [(back_not (by rw [E4.out, hgo])).1]; exact HF.out)
          go_wp2
          go_round
          case rel => exact ⟨j + 1, (k : Int) + (-1), bf, rfl, rfl, by omega, by omega, Lib.hid E2.out, HE5, HF5⟩
          case measure => simp [intOf]; omega
        · have HF5 : Hid ((k : Int) = backFl up dn fl (-1) (j + 1)) := Lib.hid (by rw [(back_yes (by rw [E4.out, hgo])).1, E1.out])
          go_wp2
          go_round
          case rel => exact ⟨j + 1, (k : Int) + (-1), (k : Int), rfl, rfl, by omega, by omega, Lib.hid E2.out, HE5, HF5⟩
          case measure => simp [intOf]; omega

set_option maxHeartbeats 6400000 in
theorem spec_ServeStop {w : World} {B n : Nat} {U D C : Option Addr} {cu cd cc : Nat} {up dn car : Nat → Bool} {fl dir : Int} (hv : callsB n n n up dn = true) (h0 : 0 ≤ fl) (h1 : fl < n) (hd : dir = 1 ∨ dir = -1) (hB : B ≤ w.heap.size)
    (hu : Bools w B U n up) (hdn : Bools w B D n dn) (hc : Bools w B C n car) :
    Calls Tryz.prog 105 #[.agg #[.slice U n cu, .slice D n cd, .slice C n cc], .agg #[.int .i64 fl, .int .i64 dir]] w (ServePost n up dn car fl dir w) := by
  obtain ⟨hn1, hn8, _⟩ := callsB_iff.1 hv
  have HV := Lib.hid hv
  have HU := Lib.hid hu
  have HDN := Lib.hid hdn
  have HC := Lib.hid hc
  clear hu hdn hc hv
  obtain ⟨k, rfl⟩ : ∃ k : Nat, fl = (k : Int) := ⟨fl.toNat, by omega⟩
  have hk : k < n := by omega
  unfold ServePost
  rcases hd with rfl | rfl
  · have HSV := Lib.hid (serve_up (up := up) (dn := dn) (car := car) (k := k))
    go_enter Tryz.func105, Tryz.ntmps105
    go_wp2_with fail
    refine (l9Ok_yes HV.out h0 h1 (by simp) (Nat.le_trans hB (by simp <;> omega)) (((HU.out.alloc hB _).alloc (Nat.le_trans hB (by simp <;> omega)) _).alloc (Nat.le_trans hB (by simp <;> omega)) _) (((HDN.out.alloc hB _).alloc (Nat.le_trans hB (by simp <;> omega)) _).alloc (Nat.le_trans hB (by simp <;> omega)) _)).mono ?_
    rintro e w2 ⟨rfl, hb2⟩
    obtain ⟨x, y, z, hbb, hs2⟩ := boxes3 hb2
    have HX2 := Lib.hid x
    have HY2 := Lib.hid y
    have HZ2 := Lib.hid z
    have HB2 := Lib.hid hbb
    clear hb2 x y z hbb
    have c0 := HX2.out.cells
    go_wp2_with fail
    refine (l8Copy_any (by omega) (by omega) (by omega) (by omega) (by omega) (by omega) (Nat.le_trans hB HB2.out.size) (HU.out.below (HB2.out.mono hB)) (HDN.out.below (HB2.out.mono hB)) (HC.out.below (HB2.out.mono hB))).mono ?_
    rintro e w3 ⟨U3, cu3, D3, cd3, C3, cc3, rfl, hk3, hb3⟩
    obtain ⟨bu, rfl, hbu, hbu2⟩ := hk3.u.block (by omega)
    obtain ⟨bd, rfl, hbd, hbd2⟩ := hk3.d.block (by omega)
    obtain ⟨bc, rfl, hbc, hbc2⟩ := hk3.c.block (by omega)
    have HY3 := Lib.hid (HY2.out.below hb3 HY2.out.lt)
    have HZ3 := Lib.hid (HZ2.out.below hb3 HZ2.out.lt)
    have HB3 := Lib.hid (HB2.out.trans (hb3.mono HB2.out.size))
    have HK3 := Lib.hid (hk3.mono (base' := w.heap.size + 3) hs2)
    have HKA := Lib.hid (HK3.out.below ((Below.refl w3.heap.size w3).alloc (Nat.le_refl _) (.cells #[.slice (some ⟨bu, 0, none⟩) n cu3, .slice (some ⟨bd, 0, none⟩) n cd3, .slice (some ⟨bc, 0, none⟩) n cc3] 32)) (Nat.le_refl _))
    have HKB := Lib.hid ((HK3.out.setC k false).below ((Below.refl w3.heap.size (w3.setCell ⟨bc, k, none⟩ (.bool false))).alloc (by simp) (.cells #[.slice (some ⟨bu, 0, none⟩) n cu3, .slice (some ⟨bd, 0, none⟩) n cd3, .slice (some ⟨bc, 0, none⟩) n cc3] 32)) (by simp))
    have HKC := Lib.hid (((HK3.out.setC k false).setU k false).below ((Below.refl w3.heap.size ((w3.setCell ⟨bc, k, none⟩ (.bool false)).setCell ⟨bu, k, none⟩ (.bool false))).alloc (by simp) (.cells #[.slice (some ⟨bu, 0, none⟩) n cu3, .slice (some ⟨bd, 0, none⟩) n cd3, .slice (some ⟨bc, 0, none⟩) n cc3] 32)) (by simp))
    have HBC := Lib.hid (((HB3.out.setCell (p := ⟨bc, k, none⟩) (by simp; omega) (.bool false)).setCell (p := ⟨bu, k, none⟩) (by simp; omega) (.bool false)).alloc (by have := HB3.out.size; simpa using this) (.cells #[.slice (some ⟨bu, 0, none⟩) n cu3, .slice (some ⟨bd, 0, none⟩) n cd3, .slice (some ⟨bc, 0, none⟩) n cc3] 32))
    have c1 := (HY3.out.alloc (.cells #[.slice (some ⟨bu, 0, none⟩) n cu3, .slice (some ⟨bd, 0, none⟩) n cd3, .slice (some ⟨bc, 0, none⟩) n cc3] 32)).cells
    have c1b := ((HY3.out.far ⟨bc, k, none⟩ (.bool false) (by simp; omega)).alloc (.cells #[.slice (some ⟨bu, 0, none⟩) n cu3, .slice (some ⟨bd, 0, none⟩) n cd3, .slice (some ⟨bc, 0, none⟩) n cc3] 32)).cells
    have c2c := (((HZ3.out.far ⟨bc, k, none⟩ (.bool false) (by simp; omega)).far ⟨bu, k, none⟩ (.bool false) (by simp; omega)).alloc (.cells #[.slice (some ⟨bu, 0, none⟩) n cu3, .slice (some ⟨bd, 0, none⟩) n cd3, .slice (some ⟨bc, 0, none⟩) n cc3] 32)).cells
    have z2c := (((HZ3.out.far ⟨bc, k, none⟩ (.bool false) (by simp; omega)).far ⟨bu, k, none⟩ (.bool false) (by simp; omega)).alloc (.cells #[.slice (some ⟨bu, 0, none⟩) n cu3, .slice (some ⟨bd, 0, none⟩) n cd3, .slice (some ⟨bc, 0, none⟩) n cc3] 32)).free
    have c3 := (Bx.new w3 #[.slice (some ⟨bu, 0, none⟩) n cu3, .slice (some ⟨bd, 0, none⟩) n cd3, .slice (some ⟨bc, 0, none⟩) n cc3] 32).cells
    have c3b := (Bx.new (w3.setCell ⟨bc, k, none⟩ (.bool false)) #[.slice (some ⟨bu, 0, none⟩) n cu3, .slice (some ⟨bd, 0, none⟩) n cd3, .slice (some ⟨bc, 0, none⟩) n cc3] 32).cells
    have c3c := (Bx.new ((w3.setCell ⟨bc, k, none⟩ (.bool false)).setCell ⟨bu, k, none⟩ (.bool false)) #[.slice (some ⟨bu, 0, none⟩) n cu3, .slice (some ⟨bd, 0, none⟩) n cd3, .slice (some ⟨bc, 0, none⟩) n cc3] 32).cells
    simp only [World.size_setCell] at c3b c3c
    have r1 := HKA.out.c.cell hk
    have r2 := HKA.out.c.frozen k
    have r3 := HKB.out.u.cell hk
    have r4 := HKB.out.u.frozen k
    have hs3 : w2.heap.size ≤ w3.heap.size := hb3.size
    clear hb3 hk3 c0 HX2 HY2 HZ2 HB2
    go_wp2
    refine bodyPost_ret (v := .agg #[.slice (some ⟨bu, 0, none⟩) n cu3, .slice (some ⟨bd, 0, none⟩) n cd3, .slice (some ⟨bc, 0, none⟩) n cc3]) (by simp [results, Tryz.results105, go_sem, c2c, c3c]) rfl ⟨_, cu3, _, cd3, _, cc3, rfl, ?_, ?_⟩
    · rw [HSV.out.1, HSV.out.2.1, HSV.out.2.2]
      refine OwnC.mono (base := w.heap.size + 3) ?_ (by omega)
      repeat (refine own_set (by simp <;> omega) ?_)
      exact HKC.out
    · repeat (refine below_set (by simp <;> omega) ?_)
      exact HBC.out
  · have HSV := Lib.hid (serve_dn (up := up) (dn := dn) (car := car) (k := k))
    go_enter Tryz.func105, Tryz.ntmps105
    go_wp2_with fail
    refine (l9Ok_yes HV.out h0 h1 (by simp) (Nat.le_trans hB (by simp <;> omega)) (((HU.out.alloc hB _).alloc (Nat.le_trans hB (by simp <;> omega)) _).alloc (Nat.le_trans hB (by simp <;> omega)) _) (((HDN.out.alloc hB _).alloc (Nat.le_trans hB (by simp <;> omega)) _).alloc (Nat.le_trans hB (by simp <;> omega)) _)).mono ?_
    rintro e w2 ⟨rfl, hb2⟩
    obtain ⟨x, y, z, hbb, hs2⟩ := boxes3 hb2
    have HX2 := Lib.hid x
    have HY2 := Lib.hid y
    have HZ2 := Lib.hid z
    have HB2 := Lib.hid hbb
    clear hb2 x y z hbb
    have c0 := HX2.out.cells
    go_wp2_with fail
    refine (l8Copy_any (by omega) (by omega) (by omega) (by omega) (by omega) (by omega) (Nat.le_trans hB HB2.out.size) (HU.out.below (HB2.out.mono hB)) (HDN.out.below (HB2.out.mono hB)) (HC.out.below (HB2.out.mono hB))).mono ?_
    rintro e w3 ⟨U3, cu3, D3, cd3, C3, cc3, rfl, hk3, hb3⟩
    obtain ⟨bu, rfl, hbu, hbu2⟩ := hk3.u.block (by omega)
    obtain ⟨bd, rfl, hbd, hbd2⟩ := hk3.d.block (by omega)
    obtain ⟨bc, rfl, hbc, hbc2⟩ := hk3.c.block (by omega)
    have HY3 := Lib.hid (HY2.out.below hb3 HY2.out.lt)
    have HZ3 := Lib.hid (HZ2.out.below hb3 HZ2.out.lt)
    have HB3 := Lib.hid (HB2.out.trans (hb3.mono HB2.out.size))
    have HK3 := Lib.hid (hk3.mono (base' := w.heap.size + 3) hs2)
    have HKA := Lib.hid (HK3.out.below ((Below.refl w3.heap.size w3).alloc (Nat.le_refl _) (.cells #[.slice (some ⟨bu, 0, none⟩) n cu3, .slice (some ⟨bd, 0, none⟩) n cd3, .slice (some ⟨bc, 0, none⟩) n cc3] 32)) (Nat.le_refl _))
    have HKB := Lib.hid ((HK3.out.setC k false).below ((Below.refl w3.heap.size (w3.setCell ⟨bc, k, none⟩ (.bool false))).alloc (by simp) (.cells #[.slice (some ⟨bu, 0, none⟩) n cu3, .slice (some ⟨bd, 0, none⟩) n cd3, .slice (some ⟨bc, 0, none⟩) n cc3] 32)) (by simp))
    have HKC := Lib.hid (((HK3.out.setC k false).setD k false).below ((Below.refl w3.heap.size ((w3.setCell ⟨bc, k, none⟩ (.bool false)).setCell ⟨bd, k, none⟩ (.bool false))).alloc (by simp) (.cells #[.slice (some ⟨bu, 0, none⟩) n cu3, .slice (some ⟨bd, 0, none⟩) n cd3, .slice (some ⟨bc, 0, none⟩) n cc3] 32)) (by simp))
    have HBC := Lib.hid (((HB3.out.setCell (p := ⟨bc, k, none⟩) (by simp; omega) (.bool false)).setCell (p := ⟨bd, k, none⟩) (by simp; omega) (.bool false)).alloc (by have := HB3.out.size; simpa using this) (.cells #[.slice (some ⟨bu, 0, none⟩) n cu3, .slice (some ⟨bd, 0, none⟩) n cd3, .slice (some ⟨bc, 0, none⟩) n cc3] 32))
    have c1 := (HY3.out.alloc (.cells #[.slice (some ⟨bu, 0, none⟩) n cu3, .slice (some ⟨bd, 0, none⟩) n cd3, .slice (some ⟨bc, 0, none⟩) n cc3] 32)).cells
    have c1b := ((HY3.out.far ⟨bc, k, none⟩ (.bool false) (by simp; omega)).alloc (.cells #[.slice (some ⟨bu, 0, none⟩) n cu3, .slice (some ⟨bd, 0, none⟩) n cd3, .slice (some ⟨bc, 0, none⟩) n cc3] 32)).cells
    have c2c := (((HZ3.out.far ⟨bc, k, none⟩ (.bool false) (by simp; omega)).far ⟨bd, k, none⟩ (.bool false) (by simp; omega)).alloc (.cells #[.slice (some ⟨bu, 0, none⟩) n cu3, .slice (some ⟨bd, 0, none⟩) n cd3, .slice (some ⟨bc, 0, none⟩) n cc3] 32)).cells
    have z2c := (((HZ3.out.far ⟨bc, k, none⟩ (.bool false) (by simp; omega)).far ⟨bd, k, none⟩ (.bool false) (by simp; omega)).alloc (.cells #[.slice (some ⟨bu, 0, none⟩) n cu3, .slice (some ⟨bd, 0, none⟩) n cd3, .slice (some ⟨bc, 0, none⟩) n cc3] 32)).free
    have c3 := (Bx.new w3 #[.slice (some ⟨bu, 0, none⟩) n cu3, .slice (some ⟨bd, 0, none⟩) n cd3, .slice (some ⟨bc, 0, none⟩) n cc3] 32).cells
    have c3b := (Bx.new (w3.setCell ⟨bc, k, none⟩ (.bool false)) #[.slice (some ⟨bu, 0, none⟩) n cu3, .slice (some ⟨bd, 0, none⟩) n cd3, .slice (some ⟨bc, 0, none⟩) n cc3] 32).cells
    have c3c := (Bx.new ((w3.setCell ⟨bc, k, none⟩ (.bool false)).setCell ⟨bd, k, none⟩ (.bool false)) #[.slice (some ⟨bu, 0, none⟩) n cu3, .slice (some ⟨bd, 0, none⟩) n cd3, .slice (some ⟨bc, 0, none⟩) n cc3] 32).cells
    simp only [World.size_setCell] at c3b c3c
    have r1 := HKA.out.c.cell hk
    have r2 := HKA.out.c.frozen k
    have r3 := HKB.out.d.cell hk
    have r4 := HKB.out.d.frozen k
    have hs3 : w2.heap.size ≤ w3.heap.size := hb3.size
    clear hb3 hk3 c0 HX2 HY2 HZ2 HB2
    go_wp2
    refine bodyPost_ret (v := .agg #[.slice (some ⟨bu, 0, none⟩) n cu3, .slice (some ⟨bd, 0, none⟩) n cd3, .slice (some ⟨bc, 0, none⟩) n cc3]) (by simp [results, Tryz.results105, go_sem, c2c, c3c]) rfl ⟨_, cu3, _, cd3, _, cc3, rfl, ?_, ?_⟩
    · rw [HSV.out.1, HSV.out.2.1, HSV.out.2.2]
      refine OwnC.mono (base := w.heap.size + 3) ?_ (by omega)
      repeat (refine own_set (by simp <;> omega) ?_)
      exact HKC.out
    · repeat (refine below_set (by simp <;> omega) ?_)
      exact HBC.out
end Go.Proofs.YthkpikkjgggimaaGreatDoor
