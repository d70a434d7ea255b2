/-
  The contracts of CountsOf and CountsJoin, in the reference and in the program. No claim stands here.
-/
import Derived.Test.YtcjfcohgokhbbaaCount
import Derived.Test.YtcjfcohgokhbbaaMark
import Derived.Deep.RegionHeld3
namespace Go.Proofs.Ytcjfcohgokhbbaa
open Go.RowKit
set_option linter.unusedVariables false
set_option linter.unusedSimpArgs false

theorem cnt_step {f : Nat → Int} {k j : Nat} (h : min (f k) 15 = (j : Int)) : ∀ i, i < 16 → upd (cntOf f k) j (cntOf f k j + 1) i = cntOf f (k + 1) i := by
  intro i hi
  simp only [upd, cntOf, h]
  by_cases e : i = j
  · subst e; simp
  · have : ¬ ((j : Int) = (i : Int)) := by omega
    simp [e, this]
/-- What CountsOf returns: as many cells. -/
def cntN (f : Nat → Int) (n : Nat) : Nat := if timesB f n = true then 16 else 0
theorem cntN_yes {f : Nat → Int} {n : Nat} (h : timesB f n = true) : cntN f n = 16 := by simp [cntN, h]
theorem cntN_no {f : Nat → Int} {n : Nat} (h : timesB f n = false) : cntN f n = 0 := by simp [cntN, h]
theorem time_at {f : Nat → Int} {k : Nat} (h0 : 0 ≤ f k) : ∃ j : Nat, j < 16 ∧ min (f k) 15 = (j : Int) ∧ (¬ 15 < f k → f k = (j : Int)) ∧ (15 < f k → j = 15) := by
  refine ⟨(min (f k) 15).toNat, by omega, by omega, by omega, by omega⟩

/-- What a round of CountsOf leaves. -/
theorem cnt_round {f : Nat → Int} {wr : World} {base b n k j c : Nat} (hr : Row wr base (some ⟨b, 0, none⟩) 16 c (cntOf f k)) (h : min (f k) 15 = (j : Int)) :
    Row (wr.setCell ⟨b, j, none⟩ (.int .i64 (cntOf f k j + 1))) base (some ⟨b, 0, none⟩) 16 c (cntOf f (k + 1)) := (hr.set (k := j) _).1.congr (cnt_step h)
theorem cnt_ok {f : Nat → Int} {k j : Nat} (hk : timesB f k = true) (h0 : 0 ≤ f k) (h : min (f k) 15 = (j : Int)) (h1 : ¬ 999 < cntOf f k j + 1) : timesB f (k + 1) = true :=
  timesB_succ hk h0 (by rw [h]; simp; omega)
theorem cnt_bad {f : Nat → Int} {n k j : Nat} (hk : k < n) (hj : j < 16) (h : min (f k) 15 = (j : Int)) (h1 : 999 < cntOf f k j + 1) : timesB f n = false := by
  refine timesB_over (k := k + 1) (i := j) (by omega) hj ?_
  simp only [cntOf, h]; simpa using h1

set_option maxHeartbeats 1600000 in
theorem impl_CountsOf {w : World} {B : Nat} {A : Option Addr} {n c : Nat} {f : Nat → Int} (hn : n ≤ 9223372036854775806) (hB : B ≤ w.heap.size) (hs : Ints w B A n f) :
    Calls Try.prog 14 #[.slice A n c] w fun e w' => ∃ A' c', e = .returned (.slice A' (cntN f n : Nat) c') ∧ Row w' w.heap.size A' (cntN f n) c' (cntOf f n) ∧ Below w.heap.size w w' := by
  obtain ⟨i0, hi, hz0, hz1, hz2⟩ := info_parts Try.infoInt
  have HS := Lib.hid hs
  clear hs
  go_enter Try.func14, Try.ntmps14
  go_wp2_with (at_make; refine wpList_make_full _ rfl _ _ 22 rfl w.heap.size 3 i0 (.int .i64 0) 1 Try.underlying22 hi hz0 hz1 _ _ _ _ 16 rfl rfl rfl rfl (by rw [hz2]; omega) (by unfold maxLen; omega) (Nat.le_refl _) ?_; intro w1 hown hgrow)
  have hrow0 : Row w1 w.heap.size (some ⟨w.heap.size, 0, none⟩) 16 16 (cntOf f 0) := by
    unfold Row
    rw [show ivals (cntOf f 0) 16 = ivals (fun _ => 0) 16 from ivals_congr fun _ _ => rfl, ← ivals_made]
    exact hown
  have hb0 := (Below.refl w.heap.size w).grown hgrow (Nat.le_refl _) (by intro k hk; cases hk)
  clear hown hgrow hi hz0 hz1 hz2
  go_wp2
  go_loopw [10] (fun s10 wr => ∃ k : Nat, k ≤ n ∧ s10 = .int .i64 k ∧ Row wr w.heap.size (some ⟨w.heap.size, 0, none⟩) 16 16 (cntOf f k) ∧ Below w.heap.size w wr ∧ Hid (timesB f k = true)) (fun s10 _ => n - (intOf s10).toNat)
  case atStart => exact ⟨0, Nat.zero_le _, rfl, hrow0, hb0, by simp [Hid, timesB, allB, fitsP, cntOf]⟩
  case round =>
    obtain ⟨k, hk, rfl, hr, hb, HT⟩ := hrel
    clear hrow0 hb0
    by_cases hlt : k < n
    · obtain ⟨b, off, rfl, hbB, hc⟩ := HS.out (by omega)
      have c0 := (hb.cell (p := ⟨b, off + k, none⟩) (by simp; omega)).trans (hc k hlt)
      clear hc
      by_cases h0 : f k < 0
      · have HN := Lib.hid (cntN_no (timesB_neg hlt h0))
        have HB := Lib.hid hb
        clear hr hb
        go_wp2
        go_ret
        rw [HN.out]
        exact ⟨none, 0, rfl, Row.nil _ _ _, HB.out⟩
      · obtain ⟨j, hj, hmin, hlo, hhi⟩ := time_at (f := f) (k := k) (by omega)
        have HM := Lib.hid hmin
        have c1 := hr.cell hj
        have c2 := hr.frozen j
        have HR := Lib.hid (cnt_round (n := n) hr hmin)
        have HB := Lib.hid (hb.setCell (p := ⟨w.heap.size, j, none⟩) (Nat.le_refl _) (.int .i64 (cntOf f k j + 1)))
        have d1 := cntOf_nonneg f k j
        have d2 := (timesB_iff.1 HT.out).2 j hj
        clear hmin hr hb
        by_cases h15 : ¬ 15 < f k
        · have hfk := hlo h15
          have H0 : Hid (0 ≤ f k) := by simp only [Hid]; omega
          rw [hfk] at c0
          clear hlo hhi
          have hj15 : ¬ 15 < (j : Int) := by omega
          clear hfk h15 h0
          by_cases h9 : 999 < cntOf f k j + 1
          · have HN := Lib.hid (cntN_no (cnt_bad hlt hj HM.out h9))
            go_wp2
            go_ret
            rw [HN.out]
            exact ⟨none, 0, rfl, Row.nil _ _ _, HB.out⟩
          · have HN := Lib.hid (cnt_ok HT.out H0.out HM.out h9)
            go_wp2
            go_roundw
            case rel => exact ⟨k + 1, by omega, by go_num, HR.out, HB.out, HN.out⟩
            case measure => simp [intOf]; omega
        · have h15 : 15 < f k := by omega
          obtain rfl := hhi h15
          have H0 : Hid (0 ≤ f k) := by simp only [Hid]; omega
          clear hlo hhi
          by_cases h9 : 999 < cntOf f k 15 + 1
          · have HN := Lib.hid (cntN_no (cnt_bad hlt hj HM.out h9))
            go_wp2
            go_ret
            rw [HN.out]
            exact ⟨none, 0, rfl, Row.nil _ _ _, HB.out⟩
          · have HN := Lib.hid (cnt_ok HT.out H0.out HM.out h9)
            go_wp2
            go_roundw
            case rel => exact ⟨k + 1, by omega, by go_num, HR.out, HB.out, HN.out⟩
            case measure => simp [intOf]; omega
    · obtain rfl : k = n := by omega
      have HN := Lib.hid (cntN_yes HT.out)
      have HR := Lib.hid hr
      have HB := Lib.hid hb
      clear hr hb
      go_wp2
      go_ret
      rw [HN.out]
      exact ⟨_, _, rfl, HR.out, HB.out⟩

set_option maxHeartbeats 1600000 in
theorem spec_CountsOf {w : World} {B : Nat} {A : Option Addr} {n c : Nat} {f : Nat → Int} (hn : n ≤ 9223372036854775806) (hB : B ≤ w.heap.size) (hs : Ints w B A n f) :
    Calls Try.prog 12 #[.slice A n c] w fun e w' => ∃ A' c', e = .returned (.slice A' (cntN f n : Nat) c') ∧ Row w' w.heap.size A' (cntN f n) c' (cntOf f n) ∧ Below w.heap.size w w' := by
  obtain ⟨i0, hi, hz0, hz1, hz2⟩ := info_parts Try.infoInt
  have HS := Lib.hid hs
  clear hs
  go_enter Try.func12, Try.ntmps12
  go_wp2_with (at_make; refine wpList_make_full _ rfl _ _ 22 rfl w.heap.size 3 i0 (.int .i64 0) 1 Try.underlying22 hi hz0 hz1 _ _ _ _ 16 rfl rfl rfl rfl (by rw [hz2]; omega) (by unfold maxLen; omega) (Nat.le_refl _) ?_; intro w1 hown hgrow)
  have hrow0 : Row w1 w.heap.size (some ⟨w.heap.size, 0, none⟩) 16 16 (cntOf f 0) := by
    unfold Row
    rw [show ivals (cntOf f 0) 16 = ivals (fun _ => 0) 16 from ivals_congr fun _ _ => rfl, ← ivals_made]
    exact hown
  have hb0 := (Below.refl w.heap.size w).grown hgrow (Nat.le_refl _) (by intro k hk; cases hk)
  clear hown hgrow hi hz0 hz1 hz2
  go_wp2
  go_loopw [4] (fun s10 wr => ∃ k : Nat, k ≤ n ∧ s10 = .int .i64 k ∧ Row wr w.heap.size (some ⟨w.heap.size, 0, none⟩) 16 16 (cntOf f k) ∧ Below w.heap.size w wr ∧ Hid (timesB f k = true)) (fun s10 _ => n - (intOf s10).toNat)
  case atStart => exact ⟨0, Nat.zero_le _, rfl, hrow0, hb0, by simp [Hid, timesB, allB, fitsP, cntOf]⟩
  case round =>
    obtain ⟨k, hk, rfl, hr, hb, HT⟩ := hrel
    clear hrow0 hb0
    by_cases hlt : k < n
    · obtain ⟨b, off, rfl, hbB, hc⟩ := HS.out (by omega)
      have c0 := (hb.cell (p := ⟨b, off + k, none⟩) (by simp; omega)).trans (hc k hlt)
      clear hc
      by_cases h0 : f k < 0
      · have HN := Lib.hid (cntN_no (timesB_neg hlt h0))
        have HB := Lib.hid hb
        clear hr hb
        go_wp2
        go_ret
        rw [HN.out]
        exact ⟨_, _, rfl, Row.emptyAt _ (by simp) HB.out.size, HB.out.alloc HB.out.size _⟩
      · obtain ⟨j, hj, hmin, hlo, hhi⟩ := time_at (f := f) (k := k) (by omega)
        have HM := Lib.hid hmin
        have c1 := hr.cell hj
        have c2 := hr.frozen j
        have HR := Lib.hid (cnt_round (n := n) hr hmin)
        have HB := Lib.hid (hb.setCell (p := ⟨w.heap.size, j, none⟩) (Nat.le_refl _) (.int .i64 (cntOf f k j + 1)))
        have d1 := cntOf_nonneg f k j
        have d2 := (timesB_iff.1 HT.out).2 j hj
        clear hmin hr hb
        by_cases h15 : ¬ 15 < f k
        · have hfk := hlo h15
          have H0 : Hid (0 ≤ f k) := by simp only [Hid]; omega
          rw [hfk] at c0
          clear hlo hhi
          have hj15 : ¬ 15 < (j : Int) := by omega
          clear hfk h15 h0
          by_cases h9 : 999 < cntOf f k j + 1
          · have HN := Lib.hid (cntN_no (cnt_bad hlt hj HM.out h9))
            go_wp2
            go_ret
            rw [HN.out]
            exact ⟨_, _, rfl, Row.emptyAt _ (by simp) HB.out.size, HB.out.alloc HB.out.size _⟩
          · have HN := Lib.hid (cnt_ok HT.out H0.out HM.out h9)
            go_wp2
            go_roundw
            case rel => exact ⟨k + 1, by omega, by go_num, HR.out, HB.out, HN.out⟩
            case measure => simp [intOf]; omega
        · have h15 : 15 < f k := by omega
          obtain rfl := hhi h15
          have H0 : Hid (0 ≤ f k) := by simp only [Hid]; omega
          clear hlo hhi
          by_cases h9 : 999 < cntOf f k 15 + 1
          · have HN := Lib.hid (cntN_no (cnt_bad hlt hj HM.out h9))
            go_wp2
            go_ret
            rw [HN.out]
            exact ⟨_, _, rfl, Row.emptyAt _ (by simp) HB.out.size, HB.out.alloc HB.out.size _⟩
          · have HN := Lib.hid (cnt_ok HT.out H0.out HM.out h9)
            go_wp2
            go_roundw
            case rel => exact ⟨k + 1, by omega, by go_num, HR.out, HB.out, HN.out⟩
            case measure => simp [intOf]; omega
    · obtain rfl : k = n := by omega
      have HN := Lib.hid (cntN_yes HT.out)
      have HR := Lib.hid hr
      have HB := Lib.hid hb
      clear hr hb
      go_wp2
      go_ret
      rw [HN.out]
      exact ⟨_, _, rfl, HR.out, HB.out⟩

/-- What CountsJoin returns: as many cells. -/
def joinN (f : Nat → Int) (n : Nat) (g : Nat → Int) (m : Nat) : Nat := if joinOk f n g m = true then 16 else 0
theorem joinN_yes {f : Nat → Int} {n : Nat} {g : Nat → Int} {m : Nat} (h : joinOk f n g m = true) : joinN f n g m = 16 := by simp [joinN, h]
theorem joinN_no {f : Nat → Int} {n : Nat} {g : Nat → Int} {m : Nat} (h : joinOk f n g m = false) : joinN f n g m = 0 := by simp [joinN, h]
theorem joinOk_no1 {f : Nat → Int} {n : Nat} {g : Nat → Int} {m : Nat} (h : countsB f n = false) : joinOk f n g m = false := by simp [joinOk, h]
theorem joinOk_no2 {f : Nat → Int} {n : Nat} {g : Nat → Int} {m : Nat} (h : countsB g m = false) : joinOk f n g m = false := by simp [joinOk, h]
theorem joinOk_no3 {f : Nat → Int} {n : Nat} {g : Nat → Int} {m : Nat} (h : countsB (joinF f g) 16 = false) : joinOk f n g m = false := by
  unfold joinOk; rw [show (fun i => f i + g i) = joinF f g from rfl, h]; simp
theorem joinOk_yes {f : Nat → Int} {n : Nat} {g : Nat → Int} {m : Nat} (h1 : countsB f n = true) (h2 : countsB g m = true) (h : countsB (joinF f g) 16 = true) : joinOk f n g m = true := joinOk_iff.2 ⟨h1, h2, h⟩
theorem join_step {f g : Nat → Int} {k : Nat} : ∀ i, i < 16 → upd (fun i => if i < k then joinF f g i else 0) k (f k + g k) i = if i < k + 1 then joinF f g i else 0 := by
  intro i hi
  unfold upd joinF
  by_cases e : i = k
  · subst e; simp
  · have : (i < k + 1) = (i < k) := by simp; omega
    simp [e, this]

set_option maxHeartbeats 1600000 in
theorem impl_CountsJoin {w : World} {B B' : Nat} {A A' : Option Addr} {n c m c' : Nat} {f g : Nat → Int} (hn : n ≤ 9223372036854775806) (hm : m ≤ 9223372036854775806) (hB : B ≤ w.heap.size) (hB' : B' ≤ w.heap.size) (hs : Ints w B A n f) (hs' : Ints w B' A' m g) :
    Calls Try.prog 21 #[.slice A n c, .slice A' m c'] w fun e w' => ∃ A2 c2, e = .returned (.tuple #[.slice A2 (joinN f n g m : Nat) c2, .bool (joinOk f n g m)]) ∧ Row w' w.heap.size A2 (joinN f n g m) c2 (joinF f g) ∧ Below w.heap.size w w' := by
  obtain ⟨i0, hi, hz0, hz1, hz2⟩ := info_parts Try.infoInt
  cases hv : countsB f n
  · have HO := Lib.hid (joinOk_no1 (g := g) (m := m) hv)
    have HN := Lib.hid (joinN_no HO.out)
    go_enter Try.func21, Try.ntmps21
    go_wp2_with fail
    refine (impl_CountsValid hn hs).mono ?_; rintro e w' ⟨rfl, rfl⟩
    go_wp2
    go_ret2
    rw [HN.out, HO.out]
    exact ⟨none, 0, rfl, Row.nil _ _ _, Below.refl _ _⟩
  · cases hv' : countsB g m
    · have HO := Lib.hid (joinOk_no2 (f := f) (n := n) hv')
      have HN := Lib.hid (joinN_no HO.out)
      go_enter Try.func21, Try.ntmps21
      go_wp2_with fail
      refine (impl_CountsValid hn hs).mono ?_; rintro e w' ⟨rfl, rfl⟩
      go_wp2_with fail
      refine (impl_CountsValid hm hs').mono ?_; rintro e w' ⟨rfl, rfl⟩
      go_wp2
      go_ret2
      rw [HN.out, HO.out]
      exact ⟨none, 0, rfl, Row.nil _ _ _, Below.refl _ _⟩
    · have HV := Lib.hid hv
      have HV' := Lib.hid hv'
      have F := Lib.hid (countsB_iff.1 hv)
      have F' := Lib.hid (countsB_iff.1 hv')
      have HS := Lib.hid hs
      have HS' := Lib.hid hs'
      go_enter Try.func21, Try.ntmps21
      go_wp2_with fail
      refine (impl_CountsValid hn hs).mono ?_; rintro e w' ⟨rfl, rfl⟩
      go_wp2_with fail
      refine (impl_CountsValid hm hs').mono ?_; rintro e w' ⟨rfl, rfl⟩
      clear hs hs'
      go_wp2_with (at_make; refine wpList_make_full _ rfl _ _ 22 rfl w.heap.size 3 i0 (.int .i64 0) 1 Try.underlying22 hi hz0 hz1 _ _ _ _ 16 rfl rfl rfl rfl (by rw [hz2]; omega) (by unfold maxLen; omega) (Nat.le_refl _) ?_; intro w1 hown hgrow)
      have hrow0 : Row w1 w.heap.size (some ⟨w.heap.size, 0, none⟩) 16 16 (fun i => if i < 0 then joinF f g i else 0) := by
        unfold Row
        rw [show ivals (fun i => if i < 0 then joinF f g i else 0) 16 = ivals (fun _ => 0) 16 from ivals_congr fun _ _ => by simp, ← ivals_made]
        exact hown
      have hb0 := (Below.refl w.heap.size w).grown hgrow (Nat.le_refl _) (by intro k hk; cases hk)
      clear hown hgrow hi hz0 hz1 hz2 hv hv'
      go_wp2
      go_loopw [19] (fun s19 wr => ∃ k : Nat, k ≤ 16 ∧ s19 = .int .i64 k ∧ Row wr w.heap.size (some ⟨w.heap.size, 0, none⟩) 16 16 (fun i => if i < k then joinF f g i else 0) ∧ Below w.heap.size w wr) (fun s19 _ => 16 - (intOf s19).toNat)
      case atStart => exact ⟨0, Nat.zero_le _, rfl, hrow0, hb0⟩
      case round =>
        obtain ⟨k, hk, rfl, hr, hb⟩ := hrel
        clear hrow0 hb0
        by_cases hlt : k < 16
        · have e1 := F.out.1
          have e2 := F'.out.1
          have e3 : k < n := by omega
          have e4 : k < m := by omega
          clear e1 e2
          obtain ⟨b, off, rfl, hbB, hc⟩ := HS.out (by omega)
          obtain ⟨b', off', rfl, hbB', hc'⟩ := HS'.out (by omega)
          have c0 := (hb.cell (p := ⟨b, off + k, none⟩) (by simp; omega)).trans (hc k e3)
          have c3 := (hb.cell (p := ⟨b', off' + k, none⟩) (by simp; omega)).trans (hc' k e4)
          have c1 := hr.cell hlt
          have c2 := hr.frozen k
          obtain ⟨d1, d2⟩ := F.out.2 k hlt
          obtain ⟨d3, d4⟩ := F'.out.2 k hlt
          have HR := Lib.hid ((hr.set (k := k) (f k + g k)).1.congr join_step)
          have HB := Lib.hid (hb.setCell (p := ⟨w.heap.size, k, none⟩) (Nat.le_refl _) (.int .i64 (f k + g k)))
          clear hc hc' hr hb
          have k1 : (0 : Int) ≤ (k : Int) := by omega
          have k2 : (k : Int) < 16 := by omega
          have k3 : (k : Int) < n := by omega
          have k4 : (k : Int) < m := by omega
          go_wp2
          go_region
          go_wp2
          go_roundw
          case rel => exact ⟨k + 1, by omega, by go_num, HR.out.drew, HB.out.drew⟩
          case measure => simp [intOf]; omega
        · have e : k = 16 := by omega
          subst e
          have hr2 := hr.congr (g := joinF f g) (fun i hi => by simp [hi])
          clear hr
          cases hj : countsB (joinF f g) 16
          · have HO := Lib.hid (joinOk_no3 (n := n) (m := m) hj)
            have HN := Lib.hid (joinN_no HO.out)
            go_wp2_with fail
            refine (impl_CountsValid (by omega) hr2.ints).mono ?_; rintro e w' ⟨rfl, rfl⟩
            go_wp2
            go_ret2
            rw [HN.out, HO.out]
            exact ⟨none, 0, rfl, Row.nil _ _ _, hb⟩
          · have HO := Lib.hid (joinOk_yes HV.out HV'.out hj)
            have HN := Lib.hid (joinN_yes HO.out)
            have HR := Lib.hid hr2
            go_wp2_with fail
            refine (impl_CountsValid (by omega) hr2.ints).mono ?_; rintro e w' ⟨rfl, rfl⟩
            go_wp2
            go_ret2
            rw [HN.out, HO.out]
            exact ⟨_, _, rfl, HR.out, hb⟩

set_option maxHeartbeats 1600000 in
theorem spec_CountsJoin {w : World} {B B' : Nat} {A A' : Option Addr} {n c m c' : Nat} {f g : Nat → Int} (hn : n ≤ 9223372036854775806) (hm : m ≤ 9223372036854775806) (hB : B ≤ w.heap.size) (hB' : B' ≤ w.heap.size) (hs : Ints w B A n f) (hs' : Ints w B' A' m g) :
    Calls Try.prog 20 #[.slice A n c, .slice A' m c'] w fun e w' => ∃ A2 c2, e = .returned (.tuple #[.slice A2 (joinN f n g m : Nat) c2, .bool (joinOk f n g m)]) ∧ Row w' w.heap.size A2 (joinN f n g m) c2 (joinF f g) ∧ Below w.heap.size w w' := by
  have hs1 : Ints (w.alloc (.cells #[] 3)) B A n f := hs.alloc hB _
  have hs1' : Ints (w.alloc (.cells #[] 3)) B' A' m g := hs'.alloc hB' _
  have HR0 := Lib.hid (Row.empty (w := w) (joinF f g) (Nat.le_refl _))
  have HB0 := Lib.hid ((Below.refl w.heap.size w).alloc (Nat.le_refl _) (.cells #[] 3))
  have HS := Lib.hid hs
  have HS' := Lib.hid hs'
  clear hs hs'
  cases hv : countsB f n
  · have HO := Lib.hid (joinOk_no1 (g := g) (m := m) hv)
    have HN := Lib.hid (joinN_no HO.out)
    go_enter Try.func20, Try.ntmps20
    go_wp2_with fail
    refine (spec_CountsValid hn hs1).mono ?_; rintro e w' ⟨rfl, rfl⟩
    go_wp2
    go_ret2
    rw [HN.out, HO.out]
    exact ⟨_, _, rfl, HR0.out, HB0.out⟩
  · cases hv' : countsB g m
    · have HO := Lib.hid (joinOk_no2 (f := f) (n := n) hv')
      have HN := Lib.hid (joinN_no HO.out)
      go_enter Try.func20, Try.ntmps20
      go_wp2_with fail
      refine (spec_CountsValid hn hs1).mono ?_; rintro e w' ⟨rfl, rfl⟩
      go_wp2_with fail
      refine (spec_CountsValid hm hs1').mono ?_; rintro e w' ⟨rfl, rfl⟩
      go_wp2
      go_ret2
      rw [HN.out, HO.out]
      exact ⟨_, _, rfl, HR0.out, HB0.out⟩
    · have HV := Lib.hid hv
      have HV' := Lib.hid hv'
      have F := Lib.hid (countsB_iff.1 hv)
      have F' := Lib.hid (countsB_iff.1 hv')
      go_enter Try.func20, Try.ntmps20
      go_wp2_with fail
      refine (spec_CountsValid hn hs1).mono ?_; rintro e w' ⟨rfl, rfl⟩
      go_wp2_with fail
      refine (spec_CountsValid hm hs1').mono ?_; rintro e w' ⟨rfl, rfl⟩
      clear hs1 hs1'
      go_wp2
      clear hv hv'
      go_loopw [6, 7] (fun s6 s7 wr => ∃ (k : Nat) (A2 : Option Addr) (c2 : Nat), k ≤ n ∧ s7 = .int .i64 k ∧ s6 = .slice A2 k c2 ∧ Row wr w.heap.size A2 k c2 (joinF f g) ∧ Below w.heap.size w wr) (fun _ s7 _ => n - (intOf s7).toNat)
      case atStart => exact ⟨0, _, _, Nat.zero_le _, rfl, rfl, HR0.out, HB0.out⟩
      case round =>
        obtain ⟨k, A2, c2, hk, rfl, rfl, hr, hb⟩ := hrel
        by_cases hlt : k < n
        · have e1 := F.out.1
          have e2 := F'.out.1
          have e4 : k < m := by omega
          have e5 : k < 16 := by omega
          clear e1 e2
          obtain ⟨b, off, rfl, hbB, hc⟩ := HS.out (by omega)
          obtain ⟨b', off', rfl, hbB', hc'⟩ := HS'.out (by omega)
          have c0 := (hb.cell (p := ⟨b, off + k, none⟩) (by simp; omega)).trans (hc k hlt)
          have c3 := (hb.cell (p := ⟨b', off' + k, none⟩) (by simp; omega)).trans (hc' k e4)
          obtain ⟨d1, d2⟩ := F.out.2 k e5
          obtain ⟨d3, d4⟩ := F'.out.2 k e5
          have HR := Lib.hid hr
          have HB := Lib.hid hb
          have hsz := hb.size
          clear hc hc' hr hb
          have k1 : (0 : Int) ≤ (k : Int) := by omega
          have k3 : (k : Int) < n := by omega
          have k4 : (k : Int) < m := by omega
          go_wp2
          have KEEP : ∀ (o : Obj) (w3 : World), (wr.drew.alloc o).grownBy w3 (Value.slice A2 k c2).ownBlock → w3.cell? ⟨b, off + k, none⟩ = some (.int .i64 (f k)) ∧ w3.cell? ⟨b', off' + k, none⟩ = some (.int .i64 (g k)) := by
            intro o w3 hg
            exact ⟨hg.cell ((World.cell?_alloc_lt wr.drew o ⟨b, off + k, none⟩ (show b < wr.heap.size by omega)).trans c0) (fun e => by have := HR.out.own b e.symm; omega),
              hg.cell ((World.cell?_alloc_lt wr.drew o ⟨b', off' + k, none⟩ (show b' < wr.heap.size by omega)).trans c3) (fun e => by have := HR.out.own b' e.symm; omega)⟩
          have HKP := Lib.hid KEEP
          clear KEEP
          have ew : IntKind.i64.wrap (f k + g k) = f k + g k := IntWalk.i64_in _ (by omega)
          go_region_held3 (fun w' => w'.cell? ⟨b, off + k, none⟩ = some (.int .i64 (f k)) ∧ w'.cell? ⟨b', off' + k, none⟩ = some (.int .i64 (g k))) (first | go_keep | exact HKP.out _ _ (by assumption)) (first | (refine step_append_int _ rfl _ _ rfl rfl (HR.out.drew.alloc _) wr.heap.size (f k + g k) rfl (by simp [ew]) (by omega) (by simp; omega) ?_; intro A3 c3 w3 hr3 hg3))
          clear ew
          have HR2 := Lib.hid (hr3.congr (snoc_self (joinF f g) k))
          have HB2 := Lib.hid ((HB.out.drew.alloc (B := w.heap.size) hsz _).grown hg3 (by simp; omega) HR.out.own)
          clear hr3 hg3
          go_wp2
          go_roundw
          case rel => exact ⟨k + 1, _, _, by omega, by go_num, rfl, HR2.out, HB2.out⟩
          case measure => simp [intOf]; omega
        · obtain rfl : k = n := by omega
          have e1 := F.out.1
          subst e1
          cases hj : countsB (joinF f g) 16
          · have HO := Lib.hid (joinOk_no3 (n := 16) (m := m) hj)
            have HN := Lib.hid (joinN_no HO.out)
            go_wp2_with fail
            refine (spec_CountsValid (by omega) hr.ints).mono ?_; rintro e w' ⟨rfl, rfl⟩
            go_wp2
            go_ret2
            rw [HN.out, HO.out]
            exact ⟨_, _, rfl, Row.emptyAt _ rfl hb.size, hb.alloc hb.size _⟩
          · have HO := Lib.hid (joinOk_yes HV.out HV'.out hj)
            have HN := Lib.hid (joinN_yes HO.out)
            have HR := Lib.hid hr
            go_wp2_with fail
            refine (spec_CountsValid (by omega) hr.ints).mono ?_; rintro e w' ⟨rfl, rfl⟩
            go_wp2
            go_ret2
            rw [HN.out, HO.out]
            exact ⟨_, _, rfl, HR.out, hb⟩
end Go.Proofs.Ytcjfcohgokhbbaa
