/-
  The contracts of drivenSpeed and l2Fits. No claim stands here.
-/
import Derived.Test.YthkpikkjgggimaaGreatDoorDrive
namespace Go.Proofs.YthkpikkjgggimaaGreatDoor
open Go.RowKit
set_option linter.unusedVariables false
set_option linter.unusedSimpArgs false

theorem stepsBetween_any {x y : Int} (hx : -100 ≤ x ∧ x ≤ 100) (hy : -100 ≤ y ∧ y ≤ 100) (w : World) : Calls Tryz.prog 142 #[.int .i64 x, .int .i64 y] w fun e w' => e = .returned (.int .i64 (distI x y)) ∧ w = w' := by
  obtain ⟨x1, x2⟩ := hx
  obtain ⟨y1, y2⟩ := hy
  by_cases h : x < y
  · have HN : Hid (distI x y = y - x) := Lib.hid (by simp [distI, h])
    go_enter Tryz.func142, Tryz.ntmps142
    go_wp2
    go_ret
    exact ⟨ret_int HN.out.symm, rfl⟩
  · have HN : Hid (distI x y = x - y) := Lib.hid (by simp [distI, h])
    go_enter Tryz.func142, Tryz.ntmps142
    go_wp2
    go_ret
    exact ⟨ret_int HN.out.symm, rfl⟩

theorem spec_l2Fits (a s v t : Int) (ha : 0 ≤ a ∧ a ≤ 60) (hv : -6 ≤ v ∧ v ≤ 6) (w : World) : Calls Tryz.prog 136 #[.agg #[.int .i64 a, .int .i64 s], .int .i64 v, .int .i64 t] w fun e w' => e = .returned (.bool (fitB a t v)) ∧ Below w.heap.size w w' := by
  obtain ⟨a1, a2⟩ := ha
  obtain ⟨v1, v2⟩ := hv
  go_enter Tryz.func136, Tryz.ntmps136
  go_wp2_with fail
  refine (spec_CanStop (a + v) v t _).mono ?_
  rintro e w1 ⟨rfl, hb1⟩
  obtain ⟨x, y, hbb, hs1⟩ := boxes2' hb1
  have HB1 := Lib.hid hbb
  clear x y hbb hb1
  rw [show canStop (a + v) v t = fitB a t v from rfl]
  go_wp2
  go_ret
  exact ⟨rfl, HB1.out⟩

set_option maxHeartbeats 6400000 in
theorem drivenSpeed_any {a s t : Int} (hc : canStop a s t = true) (w : World) : Calls Tryz.prog 127 #[.agg #[.int .i64 a, .int .i64 s], .int .i64 t] w fun e w' => e = .returned (.int .i64 (drv a s t)) ∧ Below w.heap.size w w' := by
  obtain ⟨⟨a1, a2⟩, ⟨s1, s2⟩, ⟨t1, t2⟩, _⟩ := canStop_iff.1 hc
  have HD := Lib.hid (foldI_drv hc)
  have HX0 := Lib.hid (Bx.new w #[.int .i64 a, .int .i64 s] 25)
  have HB0 := Lib.hid ((Below.refl w.heap.size w).alloc (Nat.le_refl _) (.cells #[.int .i64 a, .int .i64 s] 25))
  have c0 := HX0.out.cells
  clear hc
  go_enter Tryz.func127, Tryz.ntmps127
  go_wp2
  clear c0
  go_loopw [5, 6, 7] (fun s5 s6 s7 wr => ∃ (k : Nat) (v : Int), k ≤ 3 ∧ s - 1 + k ≤ v ∧ v ≤ s - 1 + k ∧ s7 = .int .i64 v ∧ s5 = .int .i64 (foldV (fitB a t) (betI a t) s k).1 ∧ s6 = .bool (foldV (fitB a t) (betI a t) s k).2 ∧ Hid (Bx wr w.heap.size #[.int .i64 a, .int .i64 s]) ∧ Hid (Below w.heap.size w wr)) (fun _ _ s7 _ => (s + 2 - intOf s7).toNat)
  case atStart => exact ⟨0, s - 1, by omega, by simp, by simp, rfl, rfl, rfl, HX0, HB0⟩
  case round =>
    obtain ⟨k, v, hk, hv1, hv2, rfl, rfl, rfl, HX, HB⟩ := hrel
    have c0 := HX.out.cells
    have hbd := foldV_bd (fit := fitB a t) (bet := betI a t) ⟨s1, s2⟩ k hk
    have HV : Hid (s - 1 + (k : Int) = v) := Lib.hid (by omega)
    by_cases hlt : k < 3
    · have hle : v ≤ s + 1 := by omega
      have HN := Lib.hid (@foldV_no (fitB a t) (betI a t) s k)
      have HF := Lib.hid (@foldV_first (fitB a t) (betI a t) s k)
      have HT := Lib.hid (@foldV_bet (fitB a t) (betI a t) s k)
      have HO := Lib.hid (@foldV_not (fitB a t) (betI a t) s k)
      rw [HV.out] at HN HF HT HO
      generalize hF1 : foldV (fitB a t) (betI a t) s (k + 1) = F1 at *
      have HF1 := Lib.hid hF1
      clear hF1
      generalize foldV (fitB a t) (betI a t) s k = F0 at *
      obtain ⟨be, fd⟩ := F0
      simp only at hbd
      go_wp2_with fail
      refine (impl_CanStop (a + v) v t _).mono ?_
      rintro e w1 ⟨rfl, hb1⟩
      rw [show canStop (a + v) v t = fitB a t v from rfl]
      have HX1 := Lib.hid (HX.out.below hb1 HX.out.lt)
      have HB1 := Lib.hid (HB.out.trans (hb1.mono HB.out.size))
      clear hb1 HX HB c0
      have c0 := HX1.out.cells
      cases hf : fitB a t v
      · have HE := Lib.hid (HN.out hf)
        clear HN HF HT HO
        go_wp2
        go_roundw
        case rel => exact ⟨k + 1, v + 1, by omega, by omega, by omega, rfl, by rw [HF1.out, HE.out], by rw [HF1.out, HE.out], HX1, HB1⟩
        case measure => simp [intOf]; omega
      · cases fd
        · have HE := Lib.hid (HF.out hf rfl)
          clear HN HF HT HO
          go_wp2
          go_quiet (fail)
          go_wp2
          go_roundw
          case rel => exact ⟨k + 1, v + 1, by omega, by omega, by omega, rfl, by rw [HF1.out, HE.out], by rw [HF1.out, HE.out], Lib.hid (HX1.out.drewN _), Lib.hid (by first | exact HB1.out.drew | exact below_drewN HB1.out _)⟩
          case measure => simp [intOf]; omega
        · have x1 : IntKind.i64.wrap (a + v) = a + v := IntWalk.i64_in _ (by omega)
          have x2 : IntKind.i64.wrap (a + be) = a + be := IntWalk.i64_in _ (by omega)
          have C1 : Hid (∀ z, (z = v ∨ z = be) → ∀ W, Calls Tryz.prog 142 #[.int .i64 (a + z), .int .i64 t] W fun e w' => e = .returned (.int .i64 (distI (a + z) t)) ∧ W = w') := Lib.hid (fun z hz => stepsBetween_any (by omega) (by omega))
          cases hbt : betI a t v be
          · have HE := Lib.hid (HO.out rfl hbt)
            unfold betI at hbt
            clear HN HF HT HO
            go_wp2
            go_quiet ((go_at_call 142; first | with_reducible exact quiet_left (C1.out v (.inl rfl) _) | with_reducible exact quiet_left (C1.out be (.inr rfl) _)))
            clear x1 x2
            go_wp2
            go_roundw
            case rel => exact ⟨k + 1, v + 1, by omega, by omega, by omega, rfl, by rw [HF1.out, HE.out], by rw [HF1.out, HE.out], Lib.hid (HX1.out.drewN _), Lib.hid (by first | exact HB1.out.drew | exact below_drewN HB1.out _)⟩
            case measure => simp [intOf]; omega
          · have HE := Lib.hid (HT.out hf hbt)
            unfold betI at hbt
            clear HN HF HT HO
            go_wp2
            go_quiet ((go_at_call 142; first | with_reducible exact quiet_left (C1.out v (.inl rfl) _) | with_reducible exact quiet_left (C1.out be (.inr rfl) _)))
            clear x1 x2
            go_wp2
            go_roundw
            case rel => exact ⟨k + 1, v + 1, by omega, by omega, by omega, rfl, by rw [HF1.out, HE.out], by rw [HF1.out, HE.out], Lib.hid (HX1.out.drewN _), Lib.hid (by first | exact HB1.out.drew | exact below_drewN HB1.out _)⟩
            case measure => simp [intOf]; omega
    · obtain rfl : k = 3 := by omega
      have hle : ¬ v ≤ s + 1 := by omega
      rw [HD.out]
      clear HV hbd
      go_wp2
      go_ret
      exact ⟨rfl, HB.out⟩
end Go.Proofs.YthkpikkjgggimaaGreatDoor
