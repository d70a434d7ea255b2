/-
  Marks on a building beside rows of texts. No claim stands here. (Printed by genmarkbt.py.)
-/
import Derived.Test.YthkpikkjgggimaaGreatDoorLinesS
import Derived.Test.YthkpikkjgggimaaGreatDoorMarkT
import Derived.Test.YthkpikkjgggimaaGreatDoorHeld
namespace Go.Proofs.YthkpikkjgggimaaGreatDoor
open Go.RowKit
set_option linter.unusedVariables false
set_option linter.unusedSimpArgs false

/-- Every row of texts of the call's own stays. -/
def KeepT (w w' : World) : Prop := ∀ (base : Nat) (A : Option Addr) (n c : Nat) (t : Nat → ByteArray), RowT w base A n c t → RowT w' base A n c t
theorem KeepT.trans {w w1 w2 : World} (h : KeepT w w1) (h' : KeepT w1 w2) : KeepT w w2 := fun base A n c t r => h' base A n c t (h base A n c t r)
theorem KeepT.alloc (w : World) (o : Obj) : KeepT w (w.alloc o) := fun base A n c t r => r.alloc o
theorem keepT_wroteI {w w' : World} {base' n' c' : Nat} {A' : Option Addr} {f : Nat → Int} (r : Row w base' A' n' c' f) (hw : Wrote w w' A' n') : KeepT w w' := by
  intro base A n c t h
  obtain ⟨row, hg, hr⟩ := hw
  refine World.ownsRow.kept h hg ?_
  cases A with
  | none => exact .inl rfl
  | some x =>
    right
    intro e
    have h1 := (hr x.block (by rw [← e]; rfl)).2
    exact apartTI h r _ _ h1 rfl rfl
theorem keepT_wroteB {w w' : World} {base' n' c' : Nat} {A' : Option Addr} {f : Nat → Bool} (r : RowB w base' A' n' c' f) (hw : Wrote w w' A' n') : KeepT w w' := by
  intro base A n c t h
  obtain ⟨row, hg, hr⟩ := hw
  refine World.ownsRow.kept h hg ?_
  cases A with
  | none => exact .inl rfl
  | some x =>
    right
    intro e
    have h1 := (hr x.block (by rw [← e]; rfl)).2
    exact apartTB h r _ _ h1 rfl rfl
theorem RowT.inn {w : World} {base n c : Nat} {A : Option Addr} {t : Nat → ByteArray} (h : RowT w base A n c t) : In base w.heap.size A := by
  intro x hx
  rcases h.2 with ⟨hv, _⟩ | ⟨b, cap, cur, hv, hbb, hh, _⟩
  · simp only [Value.slice.injEq] at hv; rw [hx] at hv; cases hv.1
  · simp only [Value.slice.injEq] at hv
    rw [hx] at hv
    have hk : x = ⟨b, 0, none⟩ := Option.some.inj hv.1
    subst hk
    exact ⟨hbb, (Array.getElem?_eq_some_iff.1 hh).1⟩
theorem RowT.within {lo hi : Nat} {w w1 : World} {base n c : Nat} {A : Option Addr} {f : Nat → ByteArray} (h : RowT w base A n c f) (hw : Within lo hi w w1) (hA : ∀ x, A = some x → x.block < lo ∨ hi ≤ x.block) : RowT w1 base A n c f := by
  refine ⟨h.1, ?_⟩
  rcases h.2 with h' | ⟨b, cap, cur, hv, hbb, hh, r⟩
  · exact .inl h'
  · simp only [Value.slice.injEq] at hv
    refine .inr ⟨b, cap, cur, by simp [hv.1, hv.2], hbb, ?_, r⟩
    rw [hw.block b (Array.getElem?_eq_some_iff.1 hh).1 (hA _ hv.1)]
    exact hh
/-- A row of texts of the call's own, in a block from lo on, below hi. -/
structure HT (W : World) (lo hi : Nat) (A : Option Addr) (n c : Nat) (t : Nat → ByteArray) : Prop where
  row : RowT W lo A n c t
  i : In lo hi A
  le : hi ≤ W.heap.size
section
variable {W W' : World} {lo hi l h n c : Nat} {A : Option Addr} {t : Nat → ByteArray}
theorem HT.new (r : RowT W lo A n c t) : HT W lo W.heap.size A n c t := ⟨r, r.inn, Nat.le_refl _⟩
theorem HT.call (H : HT W lo hi A n c t) (hb : Below W.heap.size W W') : HT W' lo hi A n c t := ⟨H.row.below hb (Nat.le_refl _), H.i, Nat.le_trans H.le hb.size⟩
theorem HT.alloc (H : HT W lo hi A n c t) (o : Obj) : HT (W.alloc o) lo hi A n c t := H.call ((Below.refl _ _).alloc (Nat.le_refl _) o)
theorem HT.drew (H : HT W lo hi A n c t) : HT W.drew lo hi A n c t := H.call (Below.refl _ _).drew
theorem HT.within (H : HT W lo hi A n c t) (hw : Within l h W W') (ho : hi ≤ l ∨ h ≤ lo) : HT W' lo hi A n c t :=
  ⟨H.row.within hw (fun x hx => by have := H.i x hx; omega), H.i, Nat.le_trans H.le hw.size⟩
theorem HT.keep (H : HT W lo hi A n c t) (hk : KeepT W W') (hs : W.heap.size ≤ W'.heap.size) : HT W' lo hi A n c t := ⟨hk _ _ _ _ _ H.row, H.i, Nat.le_trans H.le hs⟩
theorem HT.texts (H : HT W lo hi A n c t) : Texts W W.heap.size A n t := H.row.texts
theorem own_wroteT {base base' : Nat} {v : Bv} {b : Bld} (o : OwnB W base v b) (r : RowT W base' A n c t) (hw : Wrote W W' A n) : OwnB W' base v b := by
  obtain ⟨row, hg, hr⟩ := hw
  have key : ∀ (C : Option Addr) (m k : Nat), Apart C A → ((Value.slice C m k).ownBlock = none ∨ (Value.slice C m k).ownBlock ≠ row) := by
    intro C m k ha
    cases C with
    | none => exact .inl rfl
    | some x =>
      right
      intro e
      have h1 := (hr x.block (by rw [← e]; rfl)).2
      exact ha _ _ rfl h1 rfl
  exact ⟨World.ownsRow.kept o.h hg (key _ _ _ (apartTI r o.h)), ⟨World.ownsRow.kept o.k.u hg (key _ _ _ (apartTB r o.k.u)), World.ownsRow.kept o.k.d hg (key _ _ _ (apartTB r o.k.d)), World.ownsRow.kept o.k.c hg (key _ _ _ (apartTB r o.k.c)), o.k.ud, o.k.uc, o.k.dc⟩, o.hu, o.hd, o.hc⟩
/-- Behind markStringS on a row that lies among the building's blocks. -/
theorem Held.wroteT {g : Nat} {v : Bv} {b : Bld} (H : Held W g lo hi v b) (r : HT W lo hi A n c t) (hw : Wrote W W' A n) : Held W' g lo hi v b :=
  ⟨H.x.within (Within.of_wrote hw r.i) (.inr H.le), own_wroteT H.o r.row hw, H.i, H.le⟩
end

set_option maxHeartbeats 1600000 in
theorem markCallsT_any {w : World} {base lo hi : Nat} {U D C : Option Addr} {nu cu nd cd nc cc : Nat} {up dn car : Nat → Bool} (k0 : Int) (n1 : nu ≤ 17592186044415) (n2 : nd ≤ 17592186044415) (n3 : nc ≤ 17592186044415) (h0 : 0 ≤ k0) (h1 : k0 ≤ 100000000000000) (hs : OwnC w base U nu cu up D nd cd dn C nc cc car)
    (hU : In lo hi U) (hD : In lo hi D) (hC : In lo hi C) (hi' : hi ≤ w.heap.size) :
    Calls Tryz.prog 72 #[.agg #[.slice U nu cu, .slice D nd cd, .slice C nc cc], .int .i64 k0] w fun e w' => e = .returned (.int .i64 (k0 + nu + nd + nc)) ∧
      OwnC w' base U nu cu (markedB k0) D nd cd (markedB (k0 + nu)) C nc cc (markedB (k0 + nu + nd)) ∧ Within lo hi w w' ∧ KeepsRow U D C w w' ∧ KeepT w w' := by
  have HX0 := Lib.hid (Bx.new w #[.slice U nu cu, .slice D nd cd, .slice C nc cc] 32)
  have HW0 := Lib.hid (Within.of_below (lo := lo) (hi := hi) ((Below.refl w.heap.size w).alloc (Nat.le_refl _) (.cells #[.slice U nu cu, .slice D nd cd, .slice C nc cc] 32)))
  have HS0 := Lib.hid (hs.below ((Below.refl w.heap.size w).alloc (Nat.le_refl _) (.cells #[.slice U nu cu, .slice D nd cd, .slice C nc cc] 32)) (Nat.le_refl _))
  have HKT0 := Lib.hid (KeepT.alloc w (.cells #[.slice U nu cu, .slice D nd cd, .slice C nc cc] 32))
  have HIU := Lib.hid hU
  have HID := Lib.hid hD
  have HIC := Lib.hid hC
  have HAP := Lib.hid (And.intro hs.ud (And.intro hs.uc hs.dc))
  clear hs hU hD hC
  have c0 := HX0.out.cells
  go_enter Tryz.func72, Tryz.ntmps72
  go_wp2_with fail
  refine (markBoolS_any k0 n1 h0 (by omega) HS0.out.u).mono ?_
  rintro e w1 ⟨rfl, hr1, hw1⟩
  have hq1 := Within.of_wrote (lo := lo) (hi := hi) hw1 HIU.out
  have HX1 := Lib.hid (HX0.out.within hq1 (by omega))
  have HW1 := Lib.hid (HW0.out.trans hq1)
  have HU1 := Lib.hid hr1
  have HD1 := Lib.hid (HS0.out.d.wrote2 hw1 HAP.out.1.symm)
  have HC1 := Lib.hid (HS0.out.c.wrote2 hw1 HAP.out.2.1.symm)
  have HQ1 := Lib.hid hw1
  have HKT1 := Lib.hid (HKT0.out.trans (keepT_wroteB HS0.out.u hw1))
  clear hr1 hw1 hq1 c0 HX0 HW0 HS0
  have c0 := HX1.out.cells
  go_wp2_with fail
  refine (markBoolS_any (k0 + nu) n2 (by omega) (by omega) HD1.out).mono ?_
  rintro e w2 ⟨rfl, hr2, hw2⟩
  have hq2 := Within.of_wrote (lo := lo) (hi := hi) hw2 HID.out
  have HX2 := Lib.hid (HX1.out.within hq2 (by omega))
  have HW2 := Lib.hid (HW1.out.trans hq2)
  have HU2 := Lib.hid (HU1.out.wrote2 hw2 HAP.out.1)
  have HD2 := Lib.hid hr2
  have HC2 := Lib.hid (HC1.out.wrote2 hw2 HAP.out.2.2.symm)
  have HQ2 := Lib.hid hw2
  have HKT2 := Lib.hid (HKT1.out.trans (keepT_wroteB HD1.out hw2))
  clear hr2 hw2 hq2 c0 HX1 HW1 HU1 HD1 HC1
  have c0 := HX2.out.cells
  go_wp2_with fail
  refine (markBoolS_any (k0 + nu + nd) n3 (by omega) (by omega) HC2.out).mono ?_
  rintro e w3 ⟨rfl, hr3, hw3⟩
  have hq3 := Within.of_wrote (lo := lo) (hi := hi) hw3 HIC.out
  have HW3 := Lib.hid (HW2.out.trans hq3)
  have HU3 := Lib.hid (HU2.out.wrote2 hw3 HAP.out.2.1)
  have HD3 := Lib.hid (HD2.out.wrote2 hw3 HAP.out.2.2)
  have HC3 := Lib.hid hr3
  have HQ3 := Lib.hid hw3
  have HKT3 := Lib.hid (HKT2.out.trans (keepT_wroteB HC2.out hw3))
  clear hr3 hw3 hq3 c0 HX2 HW2 HU2 HD2 HC2
  go_wp2
  go_ret
  exact ⟨rfl, ⟨HU3.out, HD3.out, HC3.out, HAP.out.1, HAP.out.2.1, HAP.out.2.2⟩, HW3.out, fun base A n c f h a1 a2 a3 => (((h.alloc _).wrote2 HQ1.out a1).wrote2 HQ2.out a2).wrote2 HQ3.out a3, HKT3.out⟩

set_option maxHeartbeats 1600000 in
theorem markBuildingT_any {w : World} {base lo hi : Nat} {v : Bv} {b : Bld} (k0 : Int) (hn : b.Small) (h0 : 0 ≤ k0) (h1 : k0 ≤ 1000000000000) (hs : OwnB w base v b) (hI : InB lo hi v) (hi' : hi ≤ w.heap.size) :
    Calls Tryz.prog 20 #[bval v b, .int .i64 k0] w fun e w' => e = .returned (.int .i64 (k0 + b.n + b.nu + b.nd + b.nc)) ∧ OwnB w' base v (b.marked k0) ∧ Within lo hi w w' ∧ KeepT w w' := by
  obtain ⟨m0, m1, m2, m3⟩ := hn
  have HX0 := Lib.hid (Bx.new w (bcells v b) 36)
  have HW0 := Lib.hid (Within.of_below (lo := lo) (hi := hi) ((Below.refl w.heap.size w).alloc (Nat.le_refl _) (.cells (bcells v b) 36)))
  have HS0 := Lib.hid (hs.below ((Below.refl w.heap.size w).alloc (Nat.le_refl _) (.cells (bcells v b) 36)) (Nat.le_refl _))
  have HKT0 := Lib.hid (KeepT.alloc w (.cells (bcells v b) 36))
  have HI := Lib.hid hI
  have HAP := Lib.hid (And.intro hs.hu (And.intro hs.hd hs.hc))
  clear hs hI
  unfold bval bcells at *
  have c0 := HX0.out.cells
  go_enter Tryz.func20, Tryz.ntmps20
  go_wp2_with fail
  refine (markIntS_any k0 h0 (by omega) HS0.out.h).mono ?_
  rintro e w1 ⟨rfl, hr1, hw1⟩
  have hq1 := Within.of_wrote (lo := lo) (hi := hi) hw1 HI.out.a.lt
  have HX1 := Lib.hid (HX0.out.within hq1 (by omega))
  have HW1 := Lib.hid (HW0.out.trans hq1)
  have HR1 := Lib.hid hr1
  have HK1 : Hid (OwnC w1 base v.U b.nu v.cu b.up v.D b.nd v.cd b.dn v.C b.nc v.cc b.car) := Lib.hid ⟨HS0.out.k.u.wrote2 hw1 HAP.out.1.symm, HS0.out.k.d.wrote2 hw1 HAP.out.2.1.symm, HS0.out.k.c.wrote2 hw1 HAP.out.2.2.symm, HS0.out.k.ud, HS0.out.k.uc, HS0.out.k.dc⟩
  have hs1 : hi ≤ w1.heap.size := Nat.le_trans hi' HW1.out.size
  have HKT1 := Lib.hid (HKT0.out.trans (keepT_wroteI HS0.out.h hw1))
  clear hr1 hw1 hq1 c0 HX0 HW0 HS0
  have c0 := HX1.out.cells
  go_wp2_with fail
  refine (markCallsT_any (lo := lo) (hi := hi) (k0 + b.n) m1 m2 m3 (by omega) (by omega) HK1.out HI.out.u HI.out.d HI.out.c hs1).mono ?_
  rintro e w2 ⟨rfl, hk2, hw2, hkr, hkt⟩
  have HR2 := Lib.hid (hkr _ _ _ _ _ HR1.out HAP.out.1 HAP.out.2.1 HAP.out.2.2)
  have HK2 := Lib.hid hk2
  have HW2 := Lib.hid (HW1.out.trans hw2)
  have HKT2 := Lib.hid (HKT1.out.trans hkt)
  clear hk2 hw2 hkr hkt c0 HX1 HW1 HR1 HK1
  go_wp2
  go_ret
  exact ⟨rfl, ⟨HR2.out, HK2.out, HAP.out.1, HAP.out.2.1, HAP.out.2.2⟩, HW2.out, HKT2.out⟩
end Go.Proofs.YthkpikkjgggimaaGreatDoor
