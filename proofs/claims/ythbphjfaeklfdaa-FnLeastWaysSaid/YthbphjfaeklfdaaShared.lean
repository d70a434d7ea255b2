/-
  The contracts of takeDown, slices.Clone and SharedWays, in the reference and in the program. No claim stands here.
-/
import Derived.Test.YthbphjfaeklfdaaLeast
import Derived.Lib.LazyBuf
import Derived.Deep.LoopGhost
namespace Go.Proofs.Ythbphjfaeklfdaa
open Go.RowKit
set_option linter.unusedVariables false
set_option linter.unusedSimpArgs false

theorem Clone_any {w : World} {B : Nat} {A : Option Addr} {n c : Nat} {f : Nat → Int} (hn : n ≤ 100000000) (hB : B ≤ w.heap.size) (hA : 0 < n) (hs : Ints w B A n f) :
    Calls Try.prog 41 #[.slice A n c] w fun e w' => ∃ A' c', e = .returned (.slice A' n c') ∧ Row w' w.heap.size A' n c' f ∧ Below w.heap.size w w' := by
  obtain ⟨b, off, rfl, hb, _⟩ := hs hA
  have HS := Lib.hid (hs.alloc hB (.cells #[] 3))
  have hrun : ∀ W : World, (binOp .eql 24 (.slice (some ⟨b, off, none⟩) n c) (.slice none 0 0)).run Try.prog W = .ok (.bool false) W := fun W => Lib.run_eql_slice_nil (P := Try.prog) W 24 3 (some ⟨b, off, none⟩) n c 0 0 Try.underlying24
  clear hs
  go_enter Try.func41, Try.ntmps41
  go_wp2_with (at_builtin; refine append_ints _ rfl _ _ rfl rfl (Row.empty (w := w) (base := w.heap.size) f (Nat.le_refl _)) rfl HS.out (by intro h; cases h) (by omega) (by simp) ?_; intro A' c' w' hr hg)
  have HR := Lib.hid (hr.congr (g := f) (fun i hi => by rw [catF_hi (by omega), Nat.sub_zero]))
  have HB := Lib.hid (((Below.refl w.heap.size w).alloc (Nat.le_refl _) (.cells #[] 3)).grown hg (by simp) (by intro k hk; simp [Value.ownBlock] at hk; omega))
  clear hr hg
  go_wp2
  go_ret
  exact ⟨_, _, rfl, by simpa using HR.out, HB.out⟩

set_option maxHeartbeats 800000 in
theorem takeDown_any {w : World} {base b n c t : Nat} {L : Nat → Int} (r : Int) (hr0 : 0 ≤ r) (hr8 : r ≤ 8) (ht : t < n) (hn : n ≤ 100000000) (hL : ∀ i, i < n → 0 ≤ L i ∧ L i ≤ 30) (hs : Row w base (some ⟨b, 0, none⟩) n c L) :
    Calls Try.prog 42 #[.slice (some ⟨b, 0, none⟩) n c, .int .i64 t, .int .i64 r] w fun e w' => ∃ L' R, e = .returned (.tuple #[]) ∧ Row w' base (some ⟨b, 0, none⟩) n c L' ∧ TakeInv L L' n t 0 r R ∧ w.grownBy w' (some b) := by
  have HL : Hid (∀ i, i < n → 0 ≤ L i) := fun i hi => (hL i hi).1
  go_enter Try.func42, Try.ntmps42
  go_wp2
  go_loopw [1, 2] (fun s1 s2 wr => ∃ (e : Nat) (x R : Int) (Lc : Nat → Int), e ≤ t + 1 ∧ s1 = .int .i64 x ∧ Hid (x = (e : Int) - 1) ∧ s2 = .int .i64 R ∧ Row wr base (some ⟨b, 0, none⟩) n c Lc ∧ TakeInv L Lc n t e r R ∧ w.grownBy wr (some b)) (fun s1 _ _ => (intOf s1 + 1).toNat)
  case atStart => exact ⟨t + 1, t, r, L, Nat.le_refl _, rfl, by simp [Hid], rfl, hs, take_start HL.out hr0, World.grownBy.refl _ _⟩
  case round =>
    obtain ⟨e, x, R, Lc, he, rfl, HX, rfl, hr, hi, hg⟩ := hrel
    have hRm := hi.rm
    cases e with
    | zero =>
      have hx : x = -1 := by have := HX.out; omega
      subst hx
      have HR := Lib.hid hr
      have HI := Lib.hid hi
      clear hr hi hs hRm hL
      go_wp2
      go_end0
      exact ⟨Lc, R, rfl, HR.out, HI.out, hg⟩
    | succ j =>
      have hx : x = (j : Int) := by have := HX.out; omega
      subst hx
      have hjn : j < n := by omega
      have hlj : Lc j = L j := hi.lo j (by omega)
      obtain ⟨l1, l2⟩ := hL j hjn
      have hseg := seg_nonneg (L := L) HL.out (k := j + 1) (t1 := t + 1) (by omega) (by omega)
      have r1 : 0 ≤ R := by omega
      have r2 : R ≤ 8 := by omega
      have c0 := hr.cell hjn
      have c1 := hr.frozen j
      rw [hlj] at c0
      have jn : (j : Int) < n := by omega
      by_cases hlt : R < L j
      · have hnext := hr.set (k := j) (L j - R)
        have HR := Lib.hid hnext.1
        have HI := Lib.hid (take_step (Ln := upd Lc j (L j - R)) (x := R) hi (by omega) ht hr0 HL.out (by omega) (fun i hi => rfl))
        have HG := Lib.hid (hg.trans hnext.2)
        clear hr hi hs hRm hL hnext hg hlj hseg HX
        go_wp2
        go_roundw
        case rel => exact ⟨j, _, _, _, by omega, rfl, rfl, rfl, HR.out, by simpa using HI.out, HG.out⟩
        case measure => simp [intOf]
      · have hnext := hr.set (k := j) 0
        have HR := Lib.hid hnext.1
        have HI := Lib.hid (take_step (Ln := upd Lc j 0) (x := L j) hi (by omega) ht hr0 HL.out (by omega) (fun i hi => by simp [upd]))
        have HG := Lib.hid (hg.trans hnext.2)
        clear hr hi hs hRm hL hnext hg hlj hseg HX
        go_wp2
        go_roundw
        case rel => exact ⟨j, _, _, _, by omega, rfl, rfl, rfl, by simpa using HR.out, HI.out, by simpa using HG.out⟩
        case measure => simp [intOf]

set_option maxHeartbeats 1600000 in
theorem impl_SharedWays {w : World} {B B' : Nat} {A A' : Option Addr} {n c m c' : Nat} {f p : Nat → Int} (r : Int) (hn : n ≤ 100000000) (hm : m ≤ 100000000) (hB : B ≤ w.heap.size) (hB' : B' ≤ w.heap.size) (hs : Ints w B A n f) (hp : Ints w B' A' m p) :
    Calls Try.prog 26 #[.slice A n c, .slice A' m c', .int .i64 r] w fun e w' => e = .returned (.int .i64 (leastOf f n p m r)) ∧ Below w.heap.size w w' := by
  cases hv : peopleB f n p m r
  · have HN := Lib.hid (leastOf_no hv)
    go_enter Try.func26, Try.ntmps26
    go_wp2_with (go_at_call 17; refine (impl_PeopleOk r (by omega) (by omega) hs hp).mono ?_; rintro e w' ⟨rfl, j, rfl⟩)
    go_ret
    exact ⟨ret_int HN.out.symm, below_drewN (Below.refl _ _) j⟩
  · have HN := Lib.hid (leastOf_yes hv)
    obtain ⟨hfl, rfl, hpb, hr1, hr8⟩ := peopleB_iff.1 hv
    have HF := Lib.hid hfl
    have HP := Lib.hid hpb
    have hn8 : m ≤ 8 := (floorsB_iff.1 hfl).2.1
    have hn1 : 1 ≤ m := (floorsB_iff.1 hfl).1
    have HS := Lib.hid hs
    go_enter Try.func26, Try.ntmps26
    go_wp2_with fail
    refine (impl_PeopleOk r (by omega) (by omega) hs hp).mono ?_; rintro e w' ⟨rfl, j, rfl⟩
    go_wp2_with fail
    refine (Clone_any (w := w.drewN j) hm hB' (by omega) (hp.drewN j)).mono ?_; rintro e w1 ⟨A1, c1, rfl, hr0, hb0'⟩
    have hb0 : Below w.heap.size w w1 := (below_drewN (Below.refl _ _) j).trans hb0'
    obtain ⟨b1, rfl, hbl, _⟩ := hr0.form (by omega)
    have hbl' : w.heap.size ≤ b1 := hbl
    clear hfl hpb hb0' hs hp hbl
    have HR0 := Lib.hid hr0
    have HB0 := Lib.hid hb0
    clear hr0 hb0
    go_wp2
    clear hv
    go_loopw [8, 9] (fun s8 s9 wr => ∃ (e : Nat) (x S : Int) (L : Nat → Int), e ≤ m ∧ s9 = .int .i64 x ∧ Hid (x = (e : Int) - 1) ∧ s8 = .int .i64 S ∧ Row wr w.heap.size (some ⟨b1, 0, none⟩) m c1 L ∧ Below w.heap.size w wr ∧ ShareInv f p L r m e S) (fun _ s9 _ => (intOf s9 + 1).toNat)
    case atStart => exact ⟨m, _, 0, p, Nat.le_refl _, rfl, rfl, rfl, HR0.out, HB0.out, share_start HP.out⟩
    case round =>
      obtain ⟨e, x, S, L, he, rfl, HX, rfl, hr, hb, hi⟩ := hrel
      clear HR0 HB0
      cases e with
      | zero =>
        have hx : x = -1 := by have := HX.out; omega
        subst hx
        have HE := Lib.hid (share_end hi hr1 hn1 (by omega))
        have HB := Lib.hid hb
        clear hr hi hb
        go_wp2
        go_ret
        exact ⟨ret_int (HE.out.trans HN.out.symm), HB.out⟩
      | succ t =>
        have hx : x = (t : Int) := by have := HX.out; omega
        subst hx
        obtain ⟨wo, hwo⟩ : ∃ wo : World, wo = wr := ⟨_, rfl⟩
        clear hwo
        have HR := Lib.hid hr
        have HB := Lib.hid hb
        have HI := Lib.hid hi
        clear hr hb hi
        go_wp2
        go_loopg [8] (L t).toNat (fun k s8 wi => ∃ (S : Int) (L : Nat → Int), s8 = .int .i64 S ∧ Hid ((L t).toNat ≤ k) ∧ Row wi w.heap.size (some ⟨b1, 0, none⟩) m c1 L ∧ Below w.heap.size w wi ∧ ShareInv f p L r m (t + 1) S)
        case atStart => exact ⟨S, L, rfl, Nat.le_refl _, HR.out, HB.out, HI.out⟩
        case round =>
          obtain ⟨S2, L2, rfl, HK, hr, hb, hi⟩ := hrel
          clear HR HB HI
          have htn : t < m := by omega
          have c0 := hr.cell htn
          have t1 : (t : Int) < m := by omega
          by_cases hp : 0 < L2 t
          · obtain ⟨b, off, rfl, hbB, hc⟩ := HS.out (by omega)
            have c2 := (hb.cell (p := ⟨b, off + t, none⟩) (by simp; omega)).trans (hc t htn)
            obtain ⟨f1, f2⟩ := floors_bound HF.out t htn
            have s0 := hi.s0
            have s1 := share_bound hi HF.out HP.out hr1
            have HI2 := Lib.hid hi
            have HR2 := Lib.hid hr
            have HB2 := Lib.hid hb
            clear hc hr hb hi
            go_wp2_with (go_at_call 42; refine (takeDown_any r (by omega) hr8 htn hm HI2.out.b HR2.out).mono ?_; rintro e w3 ⟨L3, R3, rfl, hr3, hi3, hg3⟩)
            have HI3 := Lib.hid (share_trip HI2.out HF.out hr1 htn hp hi3 (by omega))
            have HL3 := Lib.hid (trip_less hr1 hp hi3 (by omega))
            have HR3 := Lib.hid hr3
            have HB3 := Lib.hid (HB2.out.grown hg3 HB2.out.size (by intro k hk; cases hk; omega))
            clear hr3 hi3 hg3
            go_wp2
            go_roundg (L3 t).toNat
            case measure => have := HK.out; have := HL3.out; omega
            case rel => exact ⟨_, L3, rfl, Nat.le_refl _, HR3.out, HB3.out, HI3.out⟩
          · have HI2 := Lib.hid (share_down hi htn (by omega))
            have HR2 := Lib.hid hr
            have HB2 := Lib.hid hb
            clear hr hb hi
            go_wp2
            go_roundw
            case rel => exact ⟨t, _, S2, L2, by omega, rfl, rfl, rfl, HR2.out, HB2.out, HI2.out⟩
            case measure => simp [intOf]

set_option maxHeartbeats 3200000 in
theorem spec_SharedWays {w : World} {B B' : Nat} {A A' : Option Addr} {n c m c' : Nat} {f p : Nat → Int} (r : Int) (hn : n ≤ 100000000) (hm : m ≤ 100000000) (hB : B ≤ w.heap.size) (hB' : B' ≤ w.heap.size) (hs : Ints w B A n f) (hp : Ints w B' A' m p) :
    Calls Try.prog 25 #[.slice A n c, .slice A' m c', .int .i64 r] w fun e w' => e = .returned (.int .i64 (leastOf f n p m r)) ∧ Below w.heap.size w w' := by
  cases hv : peopleB f n p m r
  · have HN := Lib.hid (leastOf_no hv)
    go_enter Try.func25, Try.ntmps25
    go_wp2_with (go_at_call 15; refine (spec_PeopleOk r (by omega) (by omega) hs hp).mono ?_; rintro e w' ⟨rfl, j, rfl⟩)
    go_ret
    exact ⟨ret_int HN.out.symm, below_drewN (Below.refl _ _) j⟩
  · have HN := Lib.hid (leastOf_yes hv)
    obtain ⟨hfl, rfl, hpb, hr1, hr8⟩ := peopleB_iff.1 hv
    have HF := Lib.hid hfl
    have HP := Lib.hid hpb
    have hn8 : m ≤ 8 := (floorsB_iff.1 hfl).2.1
    have hn1 : 1 ≤ m := (floorsB_iff.1 hfl).1
    have HS := Lib.hid hs
    obtain ⟨b, off, rfl, hb, _⟩ := hp (by omega)
    have HP2 : Hid (∀ j, Ints ((w.drewN j).alloc (.cells #[] 3)) B' (some ⟨b, off, none⟩) m p) := fun j => (hp.drewN j).alloc (by exact hB') _
    go_enter Try.func25, Try.ntmps25
    go_wp2_with fail
    refine (spec_PeopleOk r (by omega) (by omega) hs hp).mono ?_; rintro e w' ⟨rfl, j, rfl⟩
    go_wp2_with (at_builtin; refine append_ints _ rfl _ _ rfl rfl ((Row.empty (w := w.drewN j) (base := w.heap.size) p (Nat.le_refl _))) rfl (HP2.out j) (by intro h; cases h) (by omega) (by simp) ?_; intro A1 c1 w1 hr hg)
    have HR0' : Hid (Row w1 w.heap.size A1 m c1 p) := by
      have := hr.congr (g := p) (fun i hi => by rw [catF_hi (by omega), Nat.sub_zero])
      simpa [Hid] using this
    have HB0 : Hid (Below w.heap.size w w1) := (((below_drewN (Below.refl w.heap.size w) j).alloc (Nat.le_refl _) (.cells #[] 3)).grown hg (by simp) (by intro k hk; simp [Value.ownBlock] at hk; omega))
    obtain ⟨b1, hA1, hbl, _⟩ := HR0'.out.form (by omega)
    subst hA1
    have HR0 := Lib.hid HR0'.out
    clear hfl hpb hs hp hr hg HR0' HP2
    go_wp2
    clear hv
    go_loopw [8, 9] (fun s8 s9 wr => ∃ (t : Nat) (S : Int) (L : Nat → Int), t < m ∧ s9 = .int .i64 t ∧ s8 = .int .i64 S ∧ Row wr w.heap.size (some ⟨b1, 0, none⟩) m c1 L ∧ Below w.heap.size w wr ∧ ShareInv f p L r m (t + 1) S) (fun _ s9 _ => (intOf s9).toNat)
    case atStart => exact ⟨m - 1, 0, p, by omega, congrArg (Value.int .i64) (by omega), rfl, HR0.out, HB0.out, by rw [show m - 1 + 1 = m by omega]; exact share_start HP.out⟩
    case round =>
      obtain ⟨t, S, L, ht, rfl, rfl, hr, hb, hi⟩ := hrel
      clear HR0 HB0
      cases t with
      | zero =>
        have HE := Lib.hid (share_end hi hr1 hn1 (by omega))
        have HB := Lib.hid hb
        clear hr hi hb
        go_wp2
        go_ret
        exact ⟨ret_int (HE.out.trans HN.out.symm), HB.out⟩
      | succ d =>
        generalize ht1 : d + 1 = t at *
        have hd0 : 0 < t := by omega
        have HT1 := Lib.hid ht1
        clear ht1
        obtain ⟨wo, hwo⟩ : ∃ wo : World, wo = wr := ⟨_, rfl⟩
        clear hwo
        have HR := Lib.hid hr
        have HB := Lib.hid hb
        have HI := Lib.hid hi
        clear hr hb hi
        have t0 : (0 : Int) < (t : Int) := by omega
        go_wp2
        go_loopg [8] (L t).toNat (fun k s8 wi => ∃ (S : Int) (L : Nat → Int), s8 = .int .i64 S ∧ Hid ((L t).toNat ≤ k) ∧ Row wi w.heap.size (some ⟨b1, 0, none⟩) m c1 L ∧ Below w.heap.size w wi ∧ ShareInv f p L r m (t + 1) S)
        case atStart => exact ⟨S, L, rfl, Nat.le_refl _, HR.out, HB.out, HI.out⟩
        case round =>
          obtain ⟨S2, L2, rfl, HK, hr, hb, hi⟩ := hrel
          clear HR HB HI
          have c0 := hr.cell ht
          have t1 : (t : Int) < m := by omega
          by_cases hp : 0 < L2 t
          · obtain ⟨b2, off2, rfl, hbB, hc⟩ := HS.out (by omega)
            have c2 := (hb.cell (p := ⟨b2, off2 + t, none⟩) (by simp; omega)).trans (hc t ht)
            obtain ⟨f1, f2⟩ := floors_bound HF.out t ht
            have s0 := hi.s0
            have s1 := share_bound hi HF.out HP.out hr1
            have HI2 := Lib.hid hi
            have HR2 := Lib.hid hr
            have HB2 := Lib.hid hb
            have HL2 : Hid (∀ i, i < m → 0 ≤ L2 i) := fun i hx => (hi.b i hx).1
            clear hc hr hb hi
            go_wp2
            go_loopw [10, 11] (fun s10 s11 wj => ∃ (e : Nat) (R : Int) (Lc : Nat → Int), e ≤ t ∧ s11 = .int .i64 e ∧ s10 = .int .i64 R ∧ Row wj w.heap.size (some ⟨b1, 0, none⟩) m c1 Lc ∧ TakeInv L2 Lc m t (e + 1) r R ∧ Below w.heap.size w wj) (fun _ s11 _ => (intOf s11).toNat)
            case atStart => exact ⟨t, r, L2, Nat.le_refl _, rfl, rfl, HR2.out, take_start HL2.out (by omega), HB2.out⟩
            case round =>
              obtain ⟨e, R, Lc, he, rfl, rfl, hr, hi, hb⟩ := hrel
              clear HR2 HB2
              cases e with
              | zero =>
                have HI3 := Lib.hid (share_trip HI2.out HF.out hr1 ht hp hi (by omega))
                have HL3 := Lib.hid (trip_less hr1 hp hi (by omega))
                have HR3 := Lib.hid hr
                have HB3 := Lib.hid hb
                clear hr hi hb
                go_wp2
                go_roundg (Lc t).toNat
                case measure => have := HK.out; have := HL3.out; omega
                case rel => exact ⟨_, Lc, rfl, Nat.le_refl _, HR3.out, HB3.out, HI3.out⟩
              | succ d2 =>
                generalize he1 : d2 + 1 = e at *
                have HE1 := Lib.hid he1
                have e0 : (0 : Int) < (e : Int) := by omega
                clear he1
                have hen : e < m := by omega
                have hlj : Lc e = L2 e := hi.lo e (by omega)
                have hRm := hi.rm
                have l1 := HL2.out e hen
                have l2 := (HI2.out.b e hen).2
                have hseg := seg_nonneg (L := L2) HL2.out (k := e + 1) (t1 := t + 1) (by omega) (by omega)
                have r1 : 0 ≤ R := by omega
                have r2 : R ≤ 8 := by omega
                have c3 := hr.cell hen
                have c4 := hr.frozen e
                rw [hlj] at c3
                have jn : (e : Int) < m := by omega
                by_cases hlt : L2 e < R
                · have hnext := hr.set (k := e) 0
                  have HR3 := Lib.hid hnext.1
                  have HI3 := Lib.hid (take_step (Ln := upd Lc e 0) (x := L2 e) hi (by omega) ht (by omega) HL2.out (by omega) (fun i hi => by simp [upd]))
                  have HB3 := Lib.hid (hb.grown hnext.2 hb.size (by intro k hk; cases hk; omega))
                  clear hr hi hb hRm hnext hlj hseg
                  go_wp2
                  go_roundw
                  case rel => exact ⟨d2, _, _, by have := HE1.out; omega, congrArg (Value.int .i64) (by have := HE1.out; omega), rfl, HR3.out, by rw [HE1.out]; exact HI3.out, HB3.out⟩
                  case measure => have := HE1.out; simp [intOf]; omega
                · have hnext := hr.set (k := e) (L2 e - R)
                  have HR3 := Lib.hid hnext.1
                  have HI3 := Lib.hid (take_step (Ln := upd Lc e (L2 e - R)) (x := R) hi (by omega) ht (by omega) HL2.out (by omega) (fun i hi => rfl))
                  have HB3 := Lib.hid (hb.grown hnext.2 hb.size (by intro k hk; cases hk; omega))
                  clear hr hi hb hRm hnext hlj hseg
                  go_wp2
                  go_roundw
                  case rel => exact ⟨d2, _, _, by have := HE1.out; omega, congrArg (Value.int .i64) (by have := HE1.out; omega), rfl, HR3.out, by rw [HE1.out]; simpa using HI3.out, HB3.out⟩
                  case measure => have := HE1.out; simp [intOf]; omega
          · have HI2 := Lib.hid (share_down hi ht (by omega))
            have HR2 := Lib.hid hr
            have HB2 := Lib.hid hb
            clear hr hb hi
            go_wp2
            go_roundw
            case rel => exact ⟨d, S2, L2, by have := HT1.out; omega, congrArg (Value.int .i64) (by have := HT1.out; omega), rfl, HR2.out, HB2.out, by rw [HT1.out]; exact HI2.out⟩
            case measure => have := HT1.out; simp [intOf]; omega
end Go.Proofs.Ythbphjfaeklfdaa
