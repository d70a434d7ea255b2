/-
  The contracts of RestVisits, in the program and in the reference. No claim stands here.
-/
import Derived.Test.YtnbjibkbjdbadaaRest2
namespace Go.Proofs.Ytnbjibkbjdbadaa
open Go.RowKit
set_option linter.unusedVariables false
set_option linter.unusedSimpArgs false

/-- A row reads as a list. -/
def RowL (w : World) (base : Nat) (A : Option Addr) (n c : Nat) (l : List Int) : Prop := n = l.length ∧ Row w base A n c (fun i => l.getD i 0)
theorem RowL.snoc {w : World} {base n c : Nat} {A : Option Addr} {l : List Int} {X : Int} (hn : n = l.length) (h : Row w base A (n + 1) c (snoc (fun i => l.getD i 0) n X)) : RowL w base A (n + 1) c (l ++ [X]) := by
  subst hn
  refine ⟨by simp, h.congr fun i hi => ?_⟩
  by_cases e : i < l.length
  · rw [snoc_lo e]
    simp [List.getD, List.getElem?_append_left e]
  · have : i = l.length := by omega
    subst this
    rw [snoc_at]
    simp [List.getD]
theorem RowL.nil (w : World) (base : Nat) : RowL w base none 0 0 [] := ⟨rfl, Row.nil w base _⟩
theorem Bx.kept2 {W W' : World} {g : Nat} {xs : Array Value} {row : Option Nat} (h : Bx W g xs) (hg : W.grownBy W' row) (hne : ∀ b, row = some b → b ≠ g) : Bx W' g xs := by
  have hl := h.lt
  obtain ⟨T, h'⟩ := h
  exact ⟨T, (hg.block g hl (fun e => hne g e.symm rfl)).trans h'⟩
/-- What RestVisits answers. -/
def VisPost (b : Bld) (w : World) (e : Ending) (w' : World) : Prop := ∃ A n c, e = .returned (.slice A n c) ∧ RowL w' w.heap.size A n c b.visits ∧ Below w.heap.size w w'
/-- The next building is stored into box g. -/
theorem put_next {w W : World} {base5 n c : Nat} {v v' : Bv} {b b' : Bld} {A : Option Addr} {f : Nat → Int} (x : Bx W w.heap.size (bcells v b)) (o : OwnB W base5 v' b') (hb5 : w.heap.size < base5) (r : Row W (w.heap.size + 1) A n c f) (hB : Below w.heap.size w W) :
    Bx (sets W (putL w.heap.size v' b')) w.heap.size (bcells v' b') ∧ ReadB (sets W (putL w.heap.size v' b')) (sets W (putL w.heap.size v' b')).heap.size v' b' ∧ Row (sets W (putL w.heap.size v' b')) (w.heap.size + 1) A n c f ∧ Below w.heap.size w (sets W (putL w.heap.size v' b')) := by
  unfold bcells at x
  exact ⟨x.put v' b', (sets_own _ o (fun q hq => by rw [putL_block q hq]; exact hb5)).read, sets_row _ r (fun q hq => by rw [putL_block q hq]; omega), sets_below _ hB (fun q hq => by rw [putL_block q hq]; exact Nat.le_refl _)⟩
theorem ownB_kept {W W' : World} {base n c : Nat} {v : Bv} {b : Bld} {A : Option Addr} (o : OwnB W base v b) (hr : ∀ k, (Value.slice A n c).ownBlock = some k → k < base) (hg : W.grownBy W' (Value.slice A n c).ownBlock) : OwnB W' base v b :=
  o.kept hg (.inr fun k e => .inl (hr k e))

set_option maxHeartbeats 6400000 in
theorem impl_RestVisits {w : World} {B : Nat} {v : Bv} {b : Bld} (hn : b.Small) (hB : B ≤ w.heap.size) (hr : ReadB w B v b) :
    Calls Try.prog 37 #[bval v b] w (VisPost b w) := by
  have HX0 := Lib.hid (Bx.new w (bcells v b) 36)
  have HB0 := Lib.hid ((Below.refl w.heap.size w).alloc (Nat.le_refl _) (.cells (bcells v b) 36))
  have HR0 := Lib.hid (hr.alloc hB (.cells (bcells v b) 36))
  have HSm := Lib.hid hn
  clear hr hn
  unfold VisPost
  unfold bval bcells at *
  go_enter Try.func37, Try.ntmps37
  go_wp2_with fail
  refine (impl_BuildValid (v := v) (b := b) HSm.out (Nat.le_trans hB HB0.out.size) HR0.out).mono ?_
  rintro e w1 ⟨rfl, hb1⟩
  have HX1 := Lib.hid (HX0.out.below hb1 HX0.out.lt)
  have HB1 := Lib.hid (HB0.out.trans (hb1.mono HB0.out.size))
  have HR1 := Lib.hid (HR0.out.below (hb1.mono (Nat.le_trans hB HB0.out.size)))
  clear hb1 HX0 HB0 HR0
  cases hv : b.valid
  · have HE := Lib.hid (visits_no hv)
    go_wp2
    go_ret
    exact ⟨none, 0, 0, rfl, by rw [HE.out]; exact RowL.nil _ _, HB1.out⟩
  · have HE := Lib.hid (visits_yes hv)
    have hok := valid_iff.1 hv
    have HOK := Lib.hid hok
    have HRS := Lib.hid (rest_spec hok)
    have hrb := (rest_bound hok).2
    clear hv hok
    generalize b.rest = R at *
    have HRB := Lib.hid (HR1.out.more (Nat.le_trans hB HB1.out.size))
    go_wp2
    go_loopg [3] R (fun m s3 wr => ∃ (k : Nat) (v' : Bv) (b' : Bld) (A : Option Addr) (n c : Nat), s3 = .slice A n c ∧ k + m = R ∧ Hid (b' = b.after k) ∧ Hid (n = (b.visL k).length) ∧ n ≤ k ∧ Hid (Bx wr w.heap.size (bcells v' b')) ∧ Hid (ReadB wr wr.heap.size v' b') ∧ Hid (Row wr (w.heap.size + 1) A n c (fun i => (b.visL k).getD i 0)) ∧ Hid (Below w.heap.size w wr))
    case atStart => exact ⟨0, v, b, none, 0, 0, rfl, by omega, Lib.hid rfl, Lib.hid rfl, by omega, HX1, HRB, Lib.hid (Row.nil _ _ _), HB1⟩
    case round =>
      obtain ⟨k, v', b', A, n, c, rfl, hkm, HK, HNL, hnk, HX, HR, HRow, HB⟩ := hrel
      have HS : Hid b'.Small := Lib.hid (by rw [HK.out]; exact after_small HSm.out k)
      have HT : Hid (b'.ticked false = b.after (k + 1)) := Lib.hid (by rw [HK.out]; exact ticked_after HOK.out k)
      unfold bcells at HX
      have c0 := HX.out.cells
      by_cases hlt : 0 < gk
      · have HQ : Hid (b'.quiet = false) := Lib.hid (by rw [HK.out]; exact HRS.out.2.2 k (by omega))
        go_wp2_with fail
        refine (impl_BuildQuiet (v := v') (b := b') HS.out (Nat.le_refl _) HR.out).mono ?_
        rintro e w5 ⟨rfl, hb5⟩
        rw [HQ.out]
        have HX5 := Lib.hid (HX.out.below hb5 HX.out.lt)
        have HB5 := Lib.hid (HB.out.trans (hb5.mono HB.out.size))
        have HR5 := Lib.hid ((HR.out.below hb5).more hb5.size)
        have HRow5 := Lib.hid (HRow.out.below hb5 (Nat.le_refl _))
        clear hb5 HX HB HR HRow c0
        have c0 := HX5.out.cells
        go_wp2_with fail
        refine (impl_BuildTick (v := v') (b := b') false HS.out (Nat.le_refl _) HR5.out).mono ?_
        unfold TickPost
        rw [HT.out]
        rintro e w6 ⟨v6, rfl, ho6, hb6⟩
        have HOP : Hid (b'.op = (b.after k).op) := Lib.hid (by rw [HK.out])
        have HV1 := Lib.hid (@visL_yes b k)
        have HV2 := Lib.hid (@visL_no1 b k)
        have HV3 := Lib.hid (@visL_no2 b k)
        rw [← HOP.out] at HV1 HV3
        have HSM6 : Hid (b.after (k + 1)).Small := Lib.hid (after_small HSm.out _)
        generalize hb6' : b.after (k + 1) = b6 at *
        have HB6' := Lib.hid hb6'
        clear hb6' HOP
        obtain ⟨n6, f6, p6, s6, g6, h6, nu6, up6, nd6, dn6, nc6, car6, fl6, dir6, op6⟩ := b6
        have HX6 := Lib.hid ((HX5.out.below hb6 HX5.out.lt).alloc (.cells (bcells v6 ⟨n6, f6, p6, s6, g6, h6, nu6, up6, nd6, dn6, nc6, car6, fl6, dir6, op6⟩) 36))
        have HN6 := Lib.hid (Bx.new w6 (bcells v6 ⟨n6, f6, p6, s6, g6, h6, nu6, up6, nd6, dn6, nc6, car6, fl6, dir6, op6⟩) 36)
        have HB6 := Lib.hid ((HB5.out.trans (hb6.mono HB5.out.size)).alloc (Nat.le_trans HB5.out.size hb6.size) (.cells (bcells v6 ⟨n6, f6, p6, s6, g6, h6, nu6, up6, nd6, dn6, nc6, car6, fl6, dir6, op6⟩) 36))
        have HO6 := Lib.hid (ownB_below ho6 ((Below.refl w6.heap.size w6).alloc (Nat.le_refl _) (.cells (bcells v6 ⟨n6, f6, p6, s6, g6, h6, nu6, up6, nd6, dn6, nc6, car6, fl6, dir6, op6⟩) 36)))
        have HRow6 := Lib.hid ((HRow5.out.below hb6 (Nat.le_refl _)).alloc (.cells (bcells v6 ⟨n6, f6, p6, s6, g6, h6, nu6, up6, nd6, dn6, nc6, car6, fl6, dir6, op6⟩) 36))
        have HPL : Hid (∀ k, (Value.slice A n c).ownBlock = some k → k < w5.heap.size) := Lib.hid (fun k e => (World.ownsRow.lt HRow5.out k e).2)
        have hx5 := HX5.out.lt
        have hs6 := hb6.size
        clear hb6 ho6 c0 HX5 HB5 HR5 HRow5
        simp only [bval, bcells] at *
        have c0 := HX6.out.cells
        have z0 := HX6.out.free
        have c4 := HN6.out.cells
        cases op6
        · have HLL := Lib.hid (HV2.out rfl)
          have HP := Lib.hid (put_next HX6.out HO6.out hx5 HRow6.out HB6.out)
          clear HV1 HV2 HV3
          go_wp2
          go_roundg (gk - 1)
          case rel => exact ⟨k + 1, v6, ⟨n6, f6, p6, s6, g6, h6, nu6, up6, nd6, dn6, nc6, car6, fl6, dir6, false⟩, A, n, c, rfl, by omega, Lib.hid HB6'.out.symm, Lib.hid (by rw [HLL.out]; exact HNL.out), by omega, Lib.hid HP.out.1, Lib.hid HP.out.2.1, Lib.hid (by rw [HLL.out]; exact HP.out.2.2.1), Lib.hid HP.out.2.2.2⟩
          case measure => omega
        · cases hop' : b'.op
          · have HLL := Lib.hid (HV1.out rfl hop')
            clear HV1 HV2 HV3
            go_wp2_with fail
            refine (standingFloor_any (n := n6) (f := f6) p6 s6 (by have h : n6 ≤ 17592186044415 := HSM6.out.1; omega) (Nat.le_refl _) HO6.out.read.h).mono ?_
            rintro e w7 ⟨rfl, hb7⟩
            have HX7 := Lib.hid (HX6.out.below hb7 HX6.out.lt)
            have HN7 := Lib.hid (HN6.out.below hb7 HN6.out.lt)
            have HB7 := Lib.hid (HB6.out.trans (hb7.mono HB6.out.size))
            have HO7 := Lib.hid (ownB_below HO6.out hb7)
            have HRow7 := Lib.hid (HRow6.out.below hb7 (Nat.le_refl _))
            have hs7 : w6.heap.size + 1 ≤ w7.heap.size := by have := hb7.size; simpa using this
            clear hb7 c0 z0 c4 HX6 HN6 HB6 HO6 HRow6
            rw [show standF f6 n6 p6 s6 = Bld.stand ⟨n6, f6, p6, s6, g6, h6, nu6, up6, nd6, dn6, nc6, car6, fl6, dir6, true⟩ from rfl]
            generalize hst : Bld.stand ⟨n6, f6, p6, s6, g6, h6, nu6, up6, nd6, dn6, nc6, car6, fl6, dir6, true⟩ = st at *
            go_wp2_with (at_builtin; refine append_int _ rfl _ _ rfl rfl (HRow7.out.alloc _) w7.heap.size st rfl (by simp) (by omega) (by simp; omega) ?_; intro A8 c8 w8 hr8 hg8; have HX8 := Lib.hid ((HX7.out.alloc (.cells #[.int .i64 st] 3)).kept2 hg8 (fun k e => by have := HRow7.out.own k e; omega)); have HN8 := Lib.hid ((HN7.out.alloc (.cells #[.int .i64 st] 3)).kept2 hg8 (fun k e => by have := HPL.out k e; omega)); have HO8 := Lib.hid (ownB_kept (ownB_below HO7.out ((Below.refl w7.heap.size w7).alloc (Nat.le_refl _) (.cells #[.int .i64 st] 3))) HPL.out hg8); have HB8 := Lib.hid ((HB7.out.alloc HB7.out.size (.cells #[.int .i64 st] 3)).grown hg8 (by simp; omega) (fun k e => by have := HRow7.out.own k e; omega)); have HP := Lib.hid (put_next HX8.out HO8.out hx5 hr8 HB8.out); have HR8 := Lib.hid hr8; clear hr8 hg8; have c0 := HX8.out.cells; have z0 := HX8.out.free; have c4 := HN8.out.cells)
            go_roundg (gk - 1)
            case rel => exact ⟨k + 1, v6, ⟨n6, f6, p6, s6, g6, h6, nu6, up6, nd6, dn6, nc6, car6, fl6, dir6, true⟩, A8, n + 1, c8, rfl, by omega, Lib.hid HB6'.out.symm, Lib.hid (by rw [HLL.out]; simp [HNL.out]), by omega, Lib.hid HP.out.1, Lib.hid HP.out.2.1, Lib.hid (by rw [HLL.out]; exact (RowL.snoc HNL.out HP.out.2.2.1).2), Lib.hid HP.out.2.2.2⟩
            case measure => omega
          · have HLL := Lib.hid (HV3.out hop')
            have HP := Lib.hid (put_next HX6.out HO6.out hx5 HRow6.out HB6.out)
            clear HV1 HV2 HV3
            go_wp2
            go_roundg (gk - 1)
            case rel => exact ⟨k + 1, v6, ⟨n6, f6, p6, s6, g6, h6, nu6, up6, nd6, dn6, nc6, car6, fl6, dir6, true⟩, A, n, c, rfl, by omega, Lib.hid HB6'.out.symm, Lib.hid (by rw [HLL.out]; exact HNL.out), by omega, Lib.hid HP.out.1, Lib.hid HP.out.2.1, Lib.hid (by rw [HLL.out]; exact HP.out.2.2.1), Lib.hid HP.out.2.2.2⟩
            case measure => omega
      · obtain rfl : k = R := by omega
        have HQ : Hid (b'.quiet = true) := Lib.hid (by rw [HK.out]; exact HRS.out.2.1)
        go_wp2_with fail
        refine (impl_BuildQuiet (v := v') (b := b') HS.out (Nat.le_refl _) HR.out).mono ?_
        rintro e w5 ⟨rfl, hb5⟩
        rw [HQ.out]
        have HB5 := Lib.hid (HB.out.trans (hb5.mono HB.out.size))
        have HRow5 := Lib.hid (HRow.out.below hb5 (Nat.le_refl _))
        clear hb5 c0
        go_wp2
        go_ret
        exact ⟨A, n, c, rfl, by rw [HE.out]; exact ⟨HNL.out, HRow5.out.mono (by omega)⟩, HB5.out⟩

set_option maxHeartbeats 6400000 in
theorem spec_RestVisits {w : World} {B : Nat} {v : Bv} {b : Bld} (hn : b.Small) (hB : B ≤ w.heap.size) (hr : ReadB w B v b) :
    Calls Try.prog 39 #[bval v b] w (VisPost b w) := by
  have HX0 := Lib.hid (Bx.new w (bcells v b) 36)
  have HB0 := Lib.hid ((Below.refl w.heap.size w).alloc (Nat.le_refl _) (.cells (bcells v b) 36))
  have HR0 := Lib.hid (hr.alloc hB (.cells (bcells v b) 36))
  have HSm := Lib.hid hn
  clear hr hn
  unfold VisPost
  unfold bval bcells at *
  go_enter Try.func39, Try.ntmps39
  go_wp2_with fail
  have HBe := Lib.hid (HB0.out.alloc HB0.out.size (.cells #[] 3))
  have HXe := Lib.hid (HX0.out.alloc (.cells #[] 3))
  have HRe := Lib.hid (HR0.out.alloc (Nat.le_trans hB HB0.out.size) (.cells #[] 3))
  have HRowE := Lib.hid (Row.emptyAt (w := w.alloc (.cells #[.slice v.A b.n v.c, .int .i64 b.pos, .int .i64 b.sp, .int .i64 b.gap, .int .i64 b.hold, .slice v.U b.nu v.cu, .slice v.D b.nd v.cd, .slice v.C b.nc v.cc, .int .i64 b.fl, .int .i64 b.dir, .bool b.op] 36)) (g := w.heap.size + 1) (base := w.heap.size + 1) (fun i => ([] : List Int).getD i 0) (by simp) (by simp))
  refine (spec_RestTicks (v := v) (b := b) HSm.out (Nat.le_trans hB HBe.out.size) HRe.out).mono ?_
  rintro e w1 ⟨rfl, hb1⟩
  have HX1 := Lib.hid (HXe.out.below hb1 HXe.out.lt)
  have HB1 := Lib.hid (HBe.out.trans (hb1.mono HBe.out.size))
  have HR1 := Lib.hid (HRe.out.below (hb1.mono (Nat.le_trans hB HBe.out.size)))
  have HRow1 := Lib.hid (HRowE.out.below hb1 (Nat.le_refl _))
  clear hb1 HX0 HB0 HR0 HXe HBe HRe HRowE
  cases hv : b.valid
  · have HE := Lib.hid (visits_no hv)
    rw [restTicks_no hv]
    clear hv
    go_wp2
    go_loopw [3, 5] (fun s3 s5 wr => s3 = .slice (some ⟨w.heap.size + 1, 0, none⟩) 0 0 ∧ s5 = .int .i64 0 ∧ Hid (Row wr (w.heap.size + 1) (some ⟨w.heap.size + 1, 0, none⟩) 0 0 (fun i => ([] : List Int).getD i 0)) ∧ Hid (Below w.heap.size w wr)) (fun _ _ _ => 0)
    case atStart => exact ⟨rfl, rfl, HRow1, HB1⟩
    case round =>
      obtain ⟨rfl, rfl, HRow, HB⟩ := hrel
      go_wp2
      go_ret
      exact ⟨_, 0, 0, rfl, by rw [HE.out]; exact ⟨rfl, HRow.out.mono (by omega)⟩, HB.out⟩
  · have HE := Lib.hid (visits_yes hv)
    have hok := valid_iff.1 hv
    have HOK := Lib.hid hok
    have hrb := (rest_bound hok).2
    rw [restTicks_yes hv]
    clear hv hok
    generalize b.rest = R at *
    have HRB := Lib.hid (HR1.out.more (Nat.le_trans hB HB1.out.size))
    go_wp2
    go_loopw [3, 5] (fun s3 s5 wr => ∃ (k : Nat) (v' : Bv) (b' : Bld) (A : Option Addr) (n c : Nat), s3 = .slice A n c ∧ s5 = .int .i64 k ∧ k ≤ R ∧ Hid (b' = b.after k) ∧ Hid (n = (b.visL k).length) ∧ n ≤ k ∧ Hid (Bx wr w.heap.size (bcells v' b')) ∧ Hid (ReadB wr wr.heap.size v' b') ∧ Hid (Row wr (w.heap.size + 1) A n c (fun i => (b.visL k).getD i 0)) ∧ Hid (Below w.heap.size w wr)) (fun _ s5 _ => R - (intOf s5).toNat)
    case atStart => exact ⟨0, v, b, _, 0, 0, rfl, rfl, by omega, Lib.hid rfl, Lib.hid rfl, by omega, HX1, HRB, HRow1, HB1⟩
    case round =>
      obtain ⟨k, v', b', A, n, c, rfl, rfl, hk, HK, HNL, hnk, HX5, HR5, HRow5, HB5⟩ := hrel
      have HS : Hid b'.Small := Lib.hid (by rw [HK.out]; exact after_small HSm.out k)
      have HT : Hid (b'.ticked false = b.after (k + 1)) := Lib.hid (by rw [HK.out]; exact ticked_after HOK.out k)
      unfold bcells at HX5
      have c0 := HX5.out.cells
      clear HRB HX1 HB1 HR1 HRow1
      by_cases hlt : k < R
      · skip
        go_wp2_with fail
        refine (spec_BuildTick (v := v') (b := b') false HS.out (Nat.le_refl _) HR5.out).mono ?_
        unfold TickPost
        rw [HT.out]
        rintro e w6 ⟨v6, rfl, ho6, hb6⟩
        have HOP : Hid (b'.op = (b.after k).op) := Lib.hid (by rw [HK.out])
        have HV1 := Lib.hid (@visL_yes b k)
        have HV2 := Lib.hid (@visL_no1 b k)
        have HV3 := Lib.hid (@visL_no2 b k)
        rw [← HOP.out] at HV1 HV3
        have HSM6 : Hid (b.after (k + 1)).Small := Lib.hid (after_small HSm.out _)
        generalize hb6' : b.after (k + 1) = b6 at *
        have HB6' := Lib.hid hb6'
        clear hb6' HOP
        obtain ⟨n6, f6, p6, s6, g6, h6, nu6, up6, nd6, dn6, nc6, car6, fl6, dir6, op6⟩ := b6
        have HX6 := Lib.hid ((HX5.out.below hb6 HX5.out.lt).alloc (.cells (bcells v6 ⟨n6, f6, p6, s6, g6, h6, nu6, up6, nd6, dn6, nc6, car6, fl6, dir6, op6⟩) 36))
        have HN6 := Lib.hid (Bx.new w6 (bcells v6 ⟨n6, f6, p6, s6, g6, h6, nu6, up6, nd6, dn6, nc6, car6, fl6, dir6, op6⟩) 36)
        have HB6 := Lib.hid ((HB5.out.trans (hb6.mono HB5.out.size)).alloc (Nat.le_trans HB5.out.size hb6.size) (.cells (bcells v6 ⟨n6, f6, p6, s6, g6, h6, nu6, up6, nd6, dn6, nc6, car6, fl6, dir6, op6⟩) 36))
        have HO6 := Lib.hid (ownB_below ho6 ((Below.refl w6.heap.size w6).alloc (Nat.le_refl _) (.cells (bcells v6 ⟨n6, f6, p6, s6, g6, h6, nu6, up6, nd6, dn6, nc6, car6, fl6, dir6, op6⟩) 36)))
        have HRow6 := Lib.hid ((HRow5.out.below hb6 (Nat.le_refl _)).alloc (.cells (bcells v6 ⟨n6, f6, p6, s6, g6, h6, nu6, up6, nd6, dn6, nc6, car6, fl6, dir6, op6⟩) 36))
        have HPL : Hid (∀ k, (Value.slice A n c).ownBlock = some k → k < wr.heap.size) := Lib.hid (fun k e => (World.ownsRow.lt HRow5.out k e).2)
        have hx5 := HX5.out.lt
        have hs6 := hb6.size
        clear hb6 ho6 c0 HX5 HB5 HR5 HRow5
        simp only [bval, bcells] at *
        have c0 := HX6.out.cells
        have z0 := HX6.out.free
        have c4 := HN6.out.cells
        cases op6
        · have HLL := Lib.hid (HV2.out rfl)
          have HP := Lib.hid (put_next HX6.out HO6.out hx5 HRow6.out HB6.out)
          clear HV1 HV2 HV3
          go_wp2
          go_roundw
          case rel => exact ⟨k + 1, v6, ⟨n6, f6, p6, s6, g6, h6, nu6, up6, nd6, dn6, nc6, car6, fl6, dir6, false⟩, A, n, c, rfl, by go_num, by omega, Lib.hid HB6'.out.symm, Lib.hid (by rw [HLL.out]; exact HNL.out), by omega, Lib.hid HP.out.1, Lib.hid HP.out.2.1, Lib.hid (by rw [HLL.out]; exact HP.out.2.2.1), Lib.hid HP.out.2.2.2⟩
          case measure => simp [intOf]; omega
        · cases hop' : b'.op
          · have HLL := Lib.hid (HV1.out rfl hop')
            clear HV1 HV2 HV3
            go_wp2_with fail
            refine (l27Here_any (v := v6) (b := ⟨n6, f6, p6, s6, g6, h6, nu6, up6, nd6, dn6, nc6, car6, fl6, dir6, true⟩) HSM6.out (Nat.le_refl _) HO6.out.read).mono ?_
            rintro e w7 ⟨rfl, hb7⟩
            have HX7 := Lib.hid (HX6.out.below hb7 HX6.out.lt)
            have HN7 := Lib.hid (HN6.out.below hb7 HN6.out.lt)
            have HB7 := Lib.hid (HB6.out.trans (hb7.mono HB6.out.size))
            have HO7 := Lib.hid (ownB_below HO6.out hb7)
            have HRow7 := Lib.hid (HRow6.out.below hb7 (Nat.le_refl _))
            have hs7 : w6.heap.size + 1 ≤ w7.heap.size := by have := hb7.size; simpa using this
            clear hb7 c0 z0 c4 HX6 HN6 HB6 HO6 HRow6
            generalize hst : Bld.stand ⟨n6, f6, p6, s6, g6, h6, nu6, up6, nd6, dn6, nc6, car6, fl6, dir6, true⟩ = st at *
            go_wp2_with (at_builtin; refine append_int _ rfl _ _ rfl rfl (HRow7.out.alloc _) w7.heap.size st rfl (by simp) (by omega) (by simp; omega) ?_; intro A8 c8 w8 hr8 hg8; have HX8 := Lib.hid ((HX7.out.alloc (.cells #[.int .i64 st] 3)).kept2 hg8 (fun k e => by have := HRow7.out.own k e; omega)); have HN8 := Lib.hid ((HN7.out.alloc (.cells #[.int .i64 st] 3)).kept2 hg8 (fun k e => by have := HPL.out k e; omega)); have HO8 := Lib.hid (ownB_kept (ownB_below HO7.out ((Below.refl w7.heap.size w7).alloc (Nat.le_refl _) (.cells #[.int .i64 st] 3))) HPL.out hg8); have HB8 := Lib.hid ((HB7.out.alloc HB7.out.size (.cells #[.int .i64 st] 3)).grown hg8 (by simp; omega) (fun k e => by have := HRow7.out.own k e; omega)); have HP := Lib.hid (put_next HX8.out HO8.out hx5 hr8 HB8.out); have HR8 := Lib.hid hr8; clear hr8 hg8; have c0 := HX8.out.cells; have z0 := HX8.out.free; have c4 := HN8.out.cells)
            go_roundw
            case rel => exact ⟨k + 1, v6, ⟨n6, f6, p6, s6, g6, h6, nu6, up6, nd6, dn6, nc6, car6, fl6, dir6, true⟩, A8, n + 1, c8, rfl, by go_num, by omega, Lib.hid HB6'.out.symm, Lib.hid (by rw [HLL.out]; simp [HNL.out]), by omega, Lib.hid HP.out.1, Lib.hid HP.out.2.1, Lib.hid (by rw [HLL.out]; exact (RowL.snoc HNL.out HP.out.2.2.1).2), Lib.hid HP.out.2.2.2⟩
            case measure => simp [intOf]; omega
          · have HLL := Lib.hid (HV3.out hop')
            have HP := Lib.hid (put_next HX6.out HO6.out hx5 HRow6.out HB6.out)
            clear HV1 HV2 HV3
            go_wp2
            go_roundw
            case rel => exact ⟨k + 1, v6, ⟨n6, f6, p6, s6, g6, h6, nu6, up6, nd6, dn6, nc6, car6, fl6, dir6, true⟩, A, n, c, rfl, by go_num, by omega, Lib.hid HB6'.out.symm, Lib.hid (by rw [HLL.out]; exact HNL.out), by omega, Lib.hid HP.out.1, Lib.hid HP.out.2.1, Lib.hid (by rw [HLL.out]; exact HP.out.2.2.1), Lib.hid HP.out.2.2.2⟩
            case measure => simp [intOf]; omega
      · obtain rfl : k = R := by omega
        go_wp2
        go_ret
        exact ⟨A, n, c, rfl, by rw [HE.out]; exact ⟨HNL.out, HRow5.out.mono (by omega)⟩, HB5.out⟩
end Go.Proofs.Ytnbjibkbjdbadaa
