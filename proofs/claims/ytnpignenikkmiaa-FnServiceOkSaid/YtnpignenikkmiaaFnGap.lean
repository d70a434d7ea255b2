/-
  The law FnLongestGap: the walk. No claim stands here.
-/
import Derived.Test.YtnpignenikkmiaaDrawS
import Derived.Test.YtnpignenikkmiaaSeg
import Derived.Test.YtnpignenikkmiaaAlive
namespace Go.Proofs.Ytnpignenikkmiaa
open Go.RowKit
set_option linter.unusedVariables false
set_option linter.unusedSimpArgs false

/-- f[:k] and behind it f[k+1:]. -/
theorem cat_del {f : Nat → Int} {k m : Nat} (hk : k ≤ m) : ∀ i, i < m → catF (catF f 0 f) k (fun j => f (k + 1 + j)) i = del f k i := by
  intro i hi
  by_cases h : i < k
  · rw [catF_lo h, del_lo h]; simp [catF]
  · rw [catF_hi (by omega), del_hi (by omega)]; congr 1; omega

/-- What 'append(append([]int{}, s[:k]...), s[k+1:]...)' wants and leaves: the two pieces of a row. -/
theorem Row.pieces {w : World} {base b n c k : Nat} {f : Nat → Int} (h : Row w base (some ⟨b, 0, none⟩) n c f) (hk : k < n) :
    Ints w w.heap.size (some ⟨b, 0, none⟩) k f ∧ Ints w w.heap.size (some ⟨b, k + 1, none⟩) (n - (k + 1)) (fun j => f (k + 1 + j)) := by
  refine ⟨h.ints.take k (by omega), ?_⟩
  have := h.ints.from (k + 1)
  rwa [Nat.zero_add] at this

theorem gap_end {t : Int} {f : Nat → Int} {n : Nat} (h : gapOk t f n = true) : decide (t ≤ gapOf t f n * ((n : Int) + 1)) = true ∧ decide (gapOf t f n ≤ t) = true := by
  obtain ⟨a, b⟩ := gap_sum h
  exact ⟨by simpa using a, by simpa using b⟩

set_option maxHeartbeats 3200000 in
theorem law_LongestGap {w : World} {A : Option Addr} {n c : Nat} {h : Nat → Int} (hc : n ≤ c) (hs : Bytes w w.heap.size A n h) :
    Calls Try.prog 10 #[.slice A n c] w fun e w' => e = .returned (.bool true) ∧ Below w.heap.size w w' := by
  by_cases h20 : n ≤ 1048576
  · go_enter Try.func10, Try.ntmps10
    go_wp2_with fail
    refine (DrawLongestGap_any (Nat.le_refl _) hc hs).mono ?_
    rintro e w1 ⟨t, A1, n1, c1, f, rfl, hn1, hr1, hb1⟩
    have HB1 := Lib.hid hb1
    have HR1 := Lib.hid hr1
    have hsz1 := hb1.size
    clear hb1 hr1
    go_wp2_with fail
    refine (impl_LongestGap t (by omega) HR1.out.ints).mono ?_
    rintro e w2 ⟨rfl, rfl⟩
    go_wp2_with fail
    refine (spec_LongestGap t (by omega) HR1.out.ints).mono ?_
    rintro e w2 ⟨rfl, j2, rfl⟩
    have HB2 := Lib.hid (below_drewN HB1.out j2)
    have HR2 := Lib.hid (HR1.out.drewN j2)
    clear HB1 HR1
    generalize w1.drewN j2 = w2 at *
    cases hv : gapOk t f n1
    · rw [gapOf_no hv]
      clear hv
      go_wp2_with fail
      refine alive_any.mono ?_
      rintro e w3 ⟨rfl, hb3⟩
      have HB3 := Lib.hid (HB2.out.trans (hb3.mono HB2.out.size))
      clear hb3
      go_wp2
      go_ret
      exact ⟨rfl, HB3.out⟩
    · have hg0 := gapOf_nonneg hv
      have HV := Lib.hid hv
      have hsz2 := HB2.out.size
      obtain ⟨e1, e2⟩ := gap_sum hv
      have hg40 : gapOf t f n1 ≤ 40 := by have := (gapOk_iff.1 hv).1; omega
      have HE1 := Lib.hid e1
      clear hv e1
      generalize hG : gapOf t f n1 = G at *
      have HG := Lib.hid hG
      clear hG
      go_wp2
      go_loopw [6] (fun s6 wr => ∃ k : Nat, s6 = .int .i64 k ∧ k ≤ n1 ∧ Below w2.heap.size w2 wr) (fun s6 _ => n1 - (intOf s6).toNat)
      case atStart => exact ⟨0, rfl, by omega, Below.refl _ _⟩
      case round =>
        obtain ⟨k, rfl, hk, hb⟩ := hrel
        by_cases hlt : k < n1
        · have HRr := Lib.hid (HR2.out.below hb (Nat.le_refl _))
          have HBr := Lib.hid hb
          have hszr := hb.size
          clear hb
          obtain ⟨b, rfl, hbb, hbl⟩ := HRr.out.form (by omega)
          obtain ⟨hp1, hp2⟩ := HRr.out.pieces hlt
          have HP1 := Lib.hid hp1
          have HP2 := Lib.hid hp2
          have hcap : n1 ≤ c1 := HRr.out.cap.1
          clear hp1 hp2
          have q1 : (0 : Int) ≤ (k : Int) := by omega
          have q2 : (k : Int) ≤ c1 := by omega
          have q3 : (k : Int) + 1 ≤ n1 := by omega
          have q4 : (n1 : Int) ≤ c1 := by omega
          have q5 : IntKind.i64.wrap ((k : Int) + 1) = (k : Int) + 1 := IntWalk.i64_in _ (by omega)
          have q6 : (0 : Int) ≤ (k : Int) + 1 := by omega
          have q7 : ((k : Int) + 1).toNat = k + 1 := by omega
          by_cases hc1 : c1 = k + 1
          · obtain rfl : n1 = k + 1 := by omega
            subst hc1
            clear q3 q4 q2
            have q2 : (k : Int) ≤ (k : Int) + 1 := by omega
            have q8 : (k : Int) + 1 ≤ (k : Int) + 1 := by omega
            go_wp2
            go_region_held3 (fun _ => True) (trivial) (first
              | (refine step_append_ints _ (by rfl) _ _ rfl rfl (Row.empty (w := wr.drew) (base := wr.heap.size) f (Nat.le_refl _)) rfl (Ints.alloc HP1.out (Nat.le_refl _) _) (by intro h; cases h) (by omega) (by simp) ?_; intro A3 c3 w3 hr3 hg3)
              | (refine step_append_ints _ (by rfl) _ _ rfl rfl hr3 rfl (Ints.zero (B := 0) (f := f)) (by intro h; cases h) (by omega) (by have := hg3.size; simp at this ⊢ <;> omega) ?_; intro A4 c4 w4 hr4 hg4))
            have HB3 : Below wr.heap.size wr w3 := (((Below.refl wr.heap.size wr).drew).alloc (Nat.le_refl _) _).grown hg3 (by simp) (fun b e => by simp [Value.ownBlock] at e <;> omega)
            have HB4 := Lib.hid (HB3.grown hg4 HB3.size hr3.own)
            have HI : Hid (∀ N, N = (k + 1) - 1 → Ints w4 w4.heap.size A4 N (del f k)) := Lib.hid (by
              intro N hN; rw [hN]
              have := hr4.ints
              rw [show 0 + k + 0 = k + 1 - 1 by omega] at this
              refine this.congr (fun i hi => ?_)
              rw [Nat.zero_add, catF_lo (by omega), del_lo (by omega)]; simp [catF])
            have HD : Hid (∀ N, N = (k + 1) - 1 → ¬ gapOf t (del f k) N < G) := Lib.hid (by
              intro N hN; rw [hN]
              have := gap_del HV.out hlt
              rw [HG.out] at this; omega)
            clear hr3 hg3 hr4 hg4 HB3 q5 q7
            go_wp2_with fail
            refine (impl_LongestGap (n := k) (f := del f k) t (by omega) (HI.out _ (by omega))).mono ?_
            rintro e w5 ⟨rfl, rfl⟩
            have HD5 := HD.out (k) (by omega)
            generalize gapOf t (del f k) (k) = D at *
            go_wp2
            go_roundw
            case rel => exact ⟨k + 1, by go_num, by omega, HBr.out.trans (HB4.out.mono hszr)⟩
            case measure => simp [intOf] <;> omega
          · have hc2 : ¬ (c1 - (k + 1) = 0) := by omega
            go_wp2
            go_region_held3 (fun _ => True) (trivial) (first
              | (refine step_append_ints _ (by rfl) _ _ rfl rfl (Row.empty (w := wr.drew) (base := wr.heap.size) f (Nat.le_refl _)) rfl (Ints.alloc HP1.out (Nat.le_refl _) _) (by intro h; cases h) (by omega) (by simp) ?_; intro A3 c3 w3 hr3 hg3)
              | (refine step_append_ints _ (by rfl) _ _ rfl rfl hr3 rfl ((Ints.alloc (Ints.drew HP2.out) (Nat.le_refl _) _).grown hg3 (by simp) (fun b e => by simp [Value.ownBlock] at e <;> omega)) (by intro h; cases h) (by omega) (by have := hg3.size; simp at this ⊢ <;> omega) ?_; intro A4 c4 w4 hr4 hg4))
            have HB3 : Below wr.heap.size wr w3 := (((Below.refl wr.heap.size wr).drew).alloc (Nat.le_refl _) _).grown hg3 (by simp) (fun b e => by simp [Value.ownBlock] at e <;> omega)
            have HB4 := Lib.hid (HB3.grown hg4 HB3.size hr3.own)
            have HI : Hid (∀ N, N = n1 - 1 → Ints w4 w4.heap.size A4 N (del f k)) := Lib.hid (by
              intro N hN; rw [hN]
              have := hr4.ints
              rw [show 0 + k + (n1 - (k + 1)) = n1 - 1 by omega] at this
              refine this.congr (fun i hi => ?_)
              rw [Nat.zero_add]; exact cat_del (f := f) (m := n1 - 1) (by omega) i hi)
            have HD : Hid (∀ N, N = n1 - 1 → ¬ gapOf t (del f k) N < G) := Lib.hid (by
              intro N hN; rw [hN]
              have := gap_del HV.out hlt
              rw [HG.out] at this; omega)
            clear hr3 hg3 hr4 hg4 HB3 q5 q7
            go_wp2_with fail
            refine (impl_LongestGap (n := k + (n1 - (k + 1))) (f := del f k) t (by omega) (HI.out _ (by omega))).mono ?_
            rintro e w5 ⟨rfl, rfl⟩
            have HD5 := HD.out (k + (n1 - (k + 1))) (by omega)
            generalize gapOf t (del f k) (k + (n1 - (k + 1))) = D at *
            go_wp2
            go_roundw
            case rel => exact ⟨k + 1, by go_num, by omega, HBr.out.trans (HB4.out.mono hszr)⟩
            case measure => simp [intOf] <;> omega
        · obtain rfl : k = n1 := by omega
          have HB := Lib.hid (HB2.out.trans (hb.mono hsz2))
          have g1 : (0 : Int) ≤ G * ((k : Int) + 1) := Int.mul_nonneg hg0 (by omega)
          have g2 : G * ((k : Int) + 1) ≤ 840 := Int.le_trans (Int.mul_le_mul hg40 (show (k : Int) + 1 ≤ 21 by omega) (by omega) (by omega)) (by decide)
          have g3 := HE1.out
          clear hb
          go_wp2
          go_ret
          exact ⟨rfl, HB.out⟩
  · go_enter Try.func10, Try.ntmps10
    go_wp2
    go_ret
    exact ⟨rfl, Below.refl _ _⟩
end Go.Proofs.Ytnpignenikkmiaa
