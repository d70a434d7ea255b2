/-
  The law FnClearWays: the walk. No claim stands here.
-/
import Derived.Test.YthbphjfaeklfdaaFnP
namespace Go.Proofs.Ythbphjfaeklfdaa
open Go.RowKit
set_option linter.unusedVariables false
set_option linter.unusedSimpArgs false

theorem roundUp_none {r : Int} (h : 1 ≤ r) : roundUp 0 r = 0 := by
  have h1 := roundUp_le (p := 0) h (Int.le_refl _)
  have h2 := roundUp_nonneg (p := 0) h (Int.le_refl _)
  omega
theorem clearTo_alone {f : Nat → Int} {x r : Int} {k : Nat} (hr : 1 ≤ r) : ∀ j, clearTo f (upd (fun _ => 0) k x) r j = if k < j then roundUp x r * 2 * f k else 0 := by
  intro j
  induction j with
  | zero => simp [clearTo]
  | succ j ih =>
    simp only [clearTo, ih]
    by_cases h1 : k = j
    · subst h1; simp [upd]
    · have h2 : upd (fun _ => 0) k x j = 0 := by simp [upd, Ne.symm h1]
      rw [h2, roundUp_none hr]
      by_cases h3 : k < j
      · rw [if_pos h3, if_pos (by omega)]; omega
      · rw [if_neg h3, if_neg (by omega)]; omega
theorem people_upd {f : Nat → Int} {n : Nat} {p q : Nat → Int} {m k : Nat} {r x : Int} (h : peopleB f n p m r = true) (hq : ∀ i, i < m → 0 ≤ q i ∧ q i ≤ 30) (h0 : 0 ≤ x) (h1 : x ≤ 30) : peopleB f n (upd q k x) m r = true := by
  rw [peopleB_iff] at h ⊢
  obtain ⟨a, b, c, d, e⟩ := h
  refine ⟨a, b, fun i hi => ?_, d, e⟩
  by_cases hk : i = k
  · simp [upd, hk]; omega
  · simpa [upd, hk] using hq i hi
theorem clear_alone {f : Nat → Int} {n : Nat} {p : Nat → Int} {m k : Nat} {r : Int} (h : peopleB f n p m r = true) (hk : k < m) : clearOf f n (upd (fun _ => 0) k (p k)) m r = roundUp (p k) r * 2 * f k := by
  obtain ⟨a, b, c, d, e⟩ := peopleB_iff.1 h
  rw [clearOf_yes (people_upd h (fun i _ => ⟨Int.le_refl _, by decide⟩) (c k hk).1 (c k hk).2), clearTo_alone d, if_pos (by omega)]
theorem clearTo_mono {f p q : Nat → Int} {r : Int} {n : Nat} (hr : 1 ≤ r) (hf : ∀ i, i < n → 0 ≤ f i) (h : ∀ i, i < n → p i ≤ q i) : ∀ j, j ≤ n → clearTo f p r j ≤ clearTo f q r j := by
  intro j
  induction j with
  | zero => intro _; exact Int.le_refl _
  | succ j ih =>
    intro hj
    simp only [clearTo]
    have h1 : roundUp (p j) r ≤ roundUp (q j) r := (roundUp_key hr).2 (Int.le_trans (h j (by omega)) (roundUp_self hr))
    have h2 := Int.mul_le_mul_of_nonneg_right (show roundUp (p j) r * 2 ≤ roundUp (q j) r * 2 by omega) (hf j (by omega))
    have := ih (by omega)
    omega
theorem clear_more {f : Nat → Int} {n : Nat} {p : Nat → Int} {m k : Nat} {r : Int} (h : peopleB f n p m r = true) (hk : k < m) (h30 : p k + 1 ≤ 30) : clearOf f n p m r ≤ clearOf f n (upd p k (p k + 1)) m r := by
  obtain ⟨a, b, c, d, e⟩ := peopleB_iff.1 h
  rw [clearOf_yes h, clearOf_yes (people_upd h c (by have := (c k hk).1; omega) h30)]
  refine clearTo_mono d (fun i hi => (floors_bound a i hi).1) (fun i hi => ?_) n (Nat.le_refl _)
  by_cases hx : i = k
  · simp [upd, hx]; omega
  · simp [upd, hx]

set_option maxHeartbeats 6400000 in
theorem law_ClearWays {w : World} {A : Option Addr} {n c : Nat} {h : Nat → Int} (hc : n ≤ c) (hs : Bytes w w.heap.size A n h) :
    Calls Try.prog 11 #[.slice A n c] w fun e w' => e = .returned (.bool true) ∧ Below w.heap.size w w' := by
  by_cases h20 : n ≤ 1048576
  · go_enter Try.func11, Try.ntmps11
    go_wp2_with fail
    refine (DrawClearWays_any (Nat.le_refl _) hc hs).mono ?_
    rintro e w1 ⟨A1, n1, c1, f, A2, n2, c2, p, r, rfl, hn1, hn2, hr1, hp1, hb1⟩
    have HB1 := Lib.hid hb1
    have HF1 := Lib.hid hr1
    have HP1 := Lib.hid hp1
    have hsz1 := hb1.size
    clear hb1 hr1 hp1
    go_wp2_with fail
    refine (impl_ClearWays r (by omega) (by omega) HF1.out.ints HP1.out.ints).mono ?_
    rintro e w2 ⟨rfl, j2, rfl⟩
    have HB2 := Lib.hid (below_drewN HB1.out j2)
    have HF2 := Lib.hid (HF1.out.drewN j2)
    have HP2 := Lib.hid (HP1.out.drewN j2)
    clear HB1 HF1 HP1
    generalize w1.drewN j2 = w2 at *
    go_wp2_with fail
    refine (spec_ClearWays r (by omega) (by omega) HF2.out.ints HP2.out.ints).mono ?_
    rintro e w3 ⟨rfl, j3, rfl⟩
    have HB3 := Lib.hid (below_drewN HB2.out j3)
    have HF3 := Lib.hid (HF2.out.drewN j3)
    have HP3 := Lib.hid (HP2.out.drewN j3)
    have hsz3 := HB3.out.size
    clear HB2 HF2 HP2
    generalize w2.drewN j3 = w3 at *
    cases hv : peopleB f n1 p n2 r
    · rw [clearOf_no hv]
      clear hv
      go_wp2_with fail
      refine alive_any.mono ?_
      rintro e w4 ⟨rfl, hb4⟩
      have HB4 := Lib.hid (HB3.out.trans (hb4.mono hsz3))
      clear hb4
      go_wp2
      go_ret
      exact ⟨rfl, HB4.out⟩
    · obtain ⟨hf, rfl, hp, r1, r2⟩ := peopleB_iff.1 hv
      obtain ⟨k1, k8, _⟩ := floorsB_iff.1 hf
      have HV := Lib.hid hv
      have HPB := Lib.hid hp
      have HFB := Lib.hid (floors_bound hf)
      have hcb := clearTo_bound (floors_bound hf) (fun i hi => hp i (by omega)) r1
      have HCB := Lib.hid hcb
      have HX : Hid (clearOf f n2 p n2 r = clearTo f p r n2) := Lib.hid (clearOf_yes hv)
      have HMX : Hid (∀ k, k < n2 → p k + 1 ≤ 30 → clearOf f n2 p n2 r ≤ clearOf f n2 (upd p k (p k + 1)) n2 r) := Lib.hid (fun k hk h30 => clear_more hv hk h30)
      have s1 : 0 ≤ clearOf f n2 p n2 r := by rw [clearOf_yes hv]; exact (hcb n2 (Nat.le_refl _)).1
      obtain ⟨b, rfl, hbb, hbl⟩ := HP3.out.form (by omega)
      clear hv hf hp k1 hcb
      generalize clearOf f n2 p n2 r = X at *
      go_wp2
      go_loopw [7, 8] (fun s7 s8 wr => ∃ k : Nat, s8 = .int .i64 k ∧ k ≤ n2 ∧ s7 = .int .i64 (clearTo f p r k) ∧ Below w3.heap.size w3 wr) (fun _ s8 _ => n2 - (intOf s8).toNat)
      case atStart => exact ⟨0, rfl, by omega, rfl, Below.refl _ _⟩
      case round =>
        obtain ⟨k, rfl, hk, rfl, hb⟩ := hrel
        have hck := HCB.out k (by omega)
        have HFr := Lib.hid (HF3.out.below hb (Nat.le_refl _))
        have HPr := Lib.hid (HP3.out.below hb (Nat.le_refl _))
        have HBr := Lib.hid hb
        have hszr := hb.size
        clear hb
        by_cases hlt : k < n2
        · obtain ⟨p0, p30⟩ := HPB.out k hlt
          obtain ⟨⟨u1, u2⟩, ⟨u3, u4⟩, -⟩ := clear_facts HFB.out (fun i hi => HPB.out i (by omega)) r1 r2 (show k < n2 by omega)
          have HC := Lib.hid (clear_alone HV.out hlt)
          have HS : Hid (clearTo f p r (k + 1) = clearTo f p r k + roundUp (p k) r * 2 * f k) := Lib.hid rfl
          have hkl : (k : Int) < n2 := by omega
          go_wp2_with ((at_make; refine want_make_ints _ (by rfl) _ _ rfl wr.heap.size n2 _ rfl rfl (by rfl) (by omega) (Nat.le_refl _) ?_; intro w4 hr4 hg4; have z1 := (HPr.out.kept hg4 (.inl rfl)).cell hlt; have z2 := hr4.cell hlt; have z3 := hr4.frozen k; have HR4 := Lib.hid hr4; have HG4 := Lib.hid hg4; clear hr4 hg4))
          have hst := HR4.out.set (k := k) (p k)
          have hb5 : Below wr.heap.size wr (w4.setCell ⟨wr.heap.size, k, none⟩ (.int .i64 (p k))) := ((Below.refl wr.heap.size wr).grown HG4.out (Nat.le_refl _) (by intro b e; cases e)).grown hst.2 HG4.out.size (by intro b e; cases e; exact Nat.le_refl _)
          refine (impl_ClearWays (p := upd (fun _ => 0) k (p k)) r (by omega) (by omega) (HFr.out.below hb5 (Nat.le_refl _)).ints hst.1.ints).mono ?_
          rintro e w6 ⟨rfl, j6, rfl⟩
          rw [HC.out]
          have HB6 := Lib.hid (below_drewN hb5 j6)
          clear hst hb5 HR4 HG4 z1 z2 z3
          generalize (w4.setCell ⟨wr.heap.size, k, none⟩ (.int .i64 (p k))).drewN j6 = w6 at *
          have hsz6 := HB6.out.size
          have HF6 := Lib.hid (HFr.out.below HB6.out (Nat.le_refl _))
          have HP6 := Lib.hid (HPr.out.below HB6.out (Nat.le_refl _))
          generalize roundUp (p k) r * 2 * f k = D at *
          by_cases h30 : p k + 1 ≤ 30
          · have HMk := Lib.hid (HMX.out k hlt h30)
            go_wp2_with ((at_builtin; refine append_ints _ rfl _ _ rfl rfl (Row.empty (w := w6) (base := w6.heap.size) p (Nat.le_refl _)) rfl (HP6.out.alloc _).ints (by intro h; cases h) (by omega) (by simp) ?_; intro A7 c7 w7 hr7 hg7; obtain ⟨b7, rfl, hbb7, hbl7⟩ := hr7.form (by omega); have hr8 := hr7.congr (g := p) (fun i hi => by rw [catF_hi (by omega)]; rfl); rw [Nat.zero_add] at hr8; have z4 := hr8.cell hlt; have z5 := hr8.frozen k; have HR8 := Lib.hid hr8; have HG7 := Lib.hid hg7; clear hr7 hr8 hg7))
            have hst := HR8.out.set (k := k) (p k + 1)
            have hb7 : Below wr.heap.size wr (w7.setCell ⟨b7, k, none⟩ (.int .i64 (p k + 1))) := (((HB6.out.alloc hsz6 _).grown HG7.out (by simp; omega) (by intro b e; simp [Value.ownBlock] at e; omega))).grown hst.2 (by have := HG7.out.size; simp at this; omega) (by intro b e; cases e; omega)
            refine (impl_ClearWays (p := upd p k (p k + 1)) r (by omega) (by omega) (HFr.out.below hb7 (Nat.le_refl _)).ints hst.1.ints).mono ?_
            rintro e w8 ⟨rfl, j8, rfl⟩
            have HB8 := Lib.hid (below_drewN hb7 j8)
            have hm8 : ¬ clearOf f n2 (upd p k (p k + 1)) n2 r < X := by have := HMk.out; omega
            clear hst hb7 HR8 HG7 z4 z5
            generalize (w7.setCell ⟨b7, k, none⟩ (.int .i64 (p k + 1))).drewN j8 = w8 at *
            generalize clearOf f n2 (upd p k (p k + 1)) n2 r = Y at *
            go_wp2
            go_roundw
            case rel => exact ⟨k + 1, by go_num, by omega, by rw [HS.out], HBr.out.trans (HB8.out.mono hszr)⟩
            case measure => simp [intOf] <;> omega
          · go_wp2_with ((at_builtin; refine append_ints _ rfl _ _ rfl rfl (Row.empty (w := w6) (base := w6.heap.size) p (Nat.le_refl _)) rfl (HP6.out.alloc _).ints (by intro h; cases h) (by omega) (by simp) ?_; intro A7 c7 w7 hr7 hg7; obtain ⟨b7, rfl, hbb7, hbl7⟩ := hr7.form (by omega); have hr8 := hr7.congr (g := p) (fun i hi => by rw [catF_hi (by omega)]; rfl); rw [Nat.zero_add] at hr8; have z4 := hr8.cell hlt; have z5 := hr8.frozen k; have HR8 := Lib.hid hr8; have HG7 := Lib.hid hg7; clear hr7 hr8 hg7))
            have hst := HR8.out.set (k := k) (p k + 1)
            have hb7 : Below wr.heap.size wr (w7.setCell ⟨b7, k, none⟩ (.int .i64 (p k + 1))) := (((HB6.out.alloc hsz6 _).grown HG7.out (by simp; omega) (by intro b e; simp [Value.ownBlock] at e; omega))).grown hst.2 (by have := HG7.out.size; simp at this; omega) (by intro b e; cases e; omega)
            have HB8 := Lib.hid hb7
            clear hst hb7 HR8 HG7 z4 z5
            go_roundw
            case rel => exact ⟨k + 1, by go_num, by omega, by rw [HS.out], HBr.out.trans (HB8.out.mono hszr)⟩
            case measure => simp [intOf] <;> omega
        · obtain rfl : k = n2 := by omega
          have hxe := HX.out
          have hxd : (clearTo f p r k == X) = true := by rw [hxe]; simp
          clear hxe
          go_wp2
          go_ret
          exact ⟨rfl, HB3.out.trans (HBr.out.mono hsz3)⟩
  · go_enter Try.func11, Try.ntmps11
    go_wp2
    go_ret
    exact ⟨rfl, Below.refl _ _⟩
end Go.Proofs.Ythbphjfaeklfdaa
