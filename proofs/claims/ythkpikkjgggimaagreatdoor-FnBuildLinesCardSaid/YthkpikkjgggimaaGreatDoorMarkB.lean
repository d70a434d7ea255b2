/-
  The contracts of the functions that mark a building and see whether the marks stay. No claim stands here.
-/
import Derived.Test.YthkpikkjgggimaaGreatDoorAsk
namespace Go.Proofs.YthkpikkjgggimaaGreatDoor
open Go.RowKit
set_option linter.unusedVariables false
set_option linter.unusedSimpArgs false

def markedB (k0 : Int) (i : Nat) : Bool := (k0 + i) % 3 == 0
/-- Nothing but the blocks from lo on, below hi, has turned, of those that were. -/
structure Within (lo hi : Nat) (w w' : World) : Prop where
  os : w'.os = w.os
  tape : w'.tape = w.tape
  output : w'.output = w.output
  size : w.heap.size ≤ w'.heap.size
  block : ∀ k, k < w.heap.size → (k < lo ∨ hi ≤ k) → w'.heap[k]? = w.heap[k]?
section
variable {lo hi : Nat} {w w1 w2 : World}
theorem Within.refl (lo hi : Nat) (w : World) : Within lo hi w w := ⟨rfl, rfl, rfl, Nat.le_refl _, fun _ _ _ => rfl⟩
theorem Within.trans (h : Within lo hi w w1) (h' : Within lo hi w1 w2) : Within lo hi w w2 :=
  ⟨h'.os.trans h.os, h'.tape.trans h.tape, h'.output.trans h.output, Nat.le_trans h.size h'.size, fun k hk hne => (h'.block k (Nat.lt_of_lt_of_le hk h.size) hne).trans (h.block k hk hne)⟩
theorem Within.below (h : Within lo hi w w1) {B : Nat} (hB : B ≤ lo) (hs : B ≤ w.heap.size) : Below B w w1 :=
  ⟨h.os, h.tape, h.output, h.size, fun k hk => h.block k (by omega) (.inl (by omega))⟩
theorem Within.of_below (h : Below w.heap.size w w1) : Within lo hi w w1 := ⟨h.os, h.tape, h.output, h.size, fun k hk _ => h.block k hk⟩
theorem Within.of_wrote {A : Option Addr} {n : Nat} (h : Wrote w w1 A n) (hA : ∀ x, A = some x → lo ≤ x.block ∧ x.block < hi) : Within lo hi w w1 := by
  obtain ⟨row, hg, hr⟩ := h
  refine ⟨hg.os, hg.tape, hg.output, hg.size, fun k hk hne => hg.block k hk ?_⟩
  intro e
  have := hA _ (hr k e.symm).2
  simp only at this
  omega
theorem Bx.within {g : Nat} {xs : Array Value} (h : Bx w g xs) (hw : Within lo hi w w1) (hg : g < lo ∨ hi ≤ g) : Bx w1 g xs := by
  have hl := h.lt
  obtain ⟨T, h'⟩ := h
  exact ⟨T, (hw.block g hl hg).trans h'⟩
/-- A row of the call's own whose block is not among those that turn stays. -/
theorem Row.within {base n c : Nat} {A : Option Addr} {f : Nat → Int} (h : Row w base A n c f) (hw : Within lo hi w w1) (hA : ∀ x, A = some x → x.block < lo ∨ hi ≤ x.block) : Row w1 base A n c f := by
  refine ⟨h.1, ?_⟩
  rcases h.2 with h' | ⟨b, cap, cur, hv, hbb, hh, r⟩
  · exact .inl h'
  · simp only [Value.slice.injEq] at hv
    refine .inr ⟨b, cap, cur, by simp [hv.1, hv.2], hbb, ?_, r⟩
    rw [hw.block b (Array.getElem?_eq_some_iff.1 hh).1 (hA _ hv.1)]
    exact hh
theorem RowB.within {base n c : Nat} {A : Option Addr} {f : Nat → Bool} (h : RowB w base A n c f) (hw : Within lo hi w w1) (hA : ∀ x, A = some x → x.block < lo ∨ hi ≤ x.block) : RowB w1 base A n c f := by
  refine ⟨h.1, ?_⟩
  rcases h.2 with h' | ⟨b, cap, cur, hv, hbb, hh, r⟩
  · exact .inl h'
  · simp only [Value.slice.injEq] at hv
    refine .inr ⟨b, cap, cur, by simp [hv.1, hv.2], hbb, ?_, r⟩
    rw [hw.block b (Array.getElem?_eq_some_iff.1 hh).1 (hA _ hv.1)]
    exact hh
end
/-- The slices of a building lie in blocks from lo on, below hi. -/
structure InB (lo hi : Nat) (v : Bv) : Prop where
  a : In lo hi v.A
  u : In lo hi v.U
  d : In lo hi v.D
  c : In lo hi v.C
theorem OwnB.place {w : World} {base : Nat} {v : Bv} {b : Bld} (h : OwnB w base v b) : InB base w.heap.size v := ⟨h.h.place, h.k.u.place, h.k.d.place, h.k.c.place⟩
theorem OwnB.within {w w1 : World} {base lo hi l2 h2 : Nat} {v : Bv} {b : Bld} (h : OwnB w base v b) (hw : Within lo hi w w1) (hi' : InB l2 h2 v) (ho : h2 ≤ lo ∨ hi ≤ l2) : OwnB w1 base v b :=
  ⟨h.h.within hw fun x hx => by have := hi'.a x hx; omega, ⟨h.k.u.within hw fun x hx => by have := hi'.u x hx; omega, h.k.d.within hw fun x hx => by have := hi'.d x hx; omega, h.k.c.within hw fun x hx => by have := hi'.c x hx; omega, h.k.ud, h.k.uc, h.k.dc⟩, h.hu, h.hd, h.hc⟩
theorem Row.wrote2 {w w1 : World} {base n c n' : Nat} {A A' : Option Addr} {f : Nat → Int} (h : Row w base A n c f) (hw : Wrote w w1 A' n') (hA : Apart A A') : Row w1 base A n c f := by
  obtain ⟨row, hg, hr⟩ := hw
  refine ⟨h.1, ?_⟩
  rcases h.2 with h' | ⟨b, cap, cur, hv, hbb, hh, r⟩
  · exact .inl h'
  · simp only [Value.slice.injEq] at hv
    refine .inr ⟨b, cap, cur, by simp [hv.1, hv.2], hbb, ?_, r⟩
    rw [hg.block b (Array.getElem?_eq_some_iff.1 hh).1 (fun e => hA _ _ hv.1 (hr b e.symm).2 rfl)]
    exact hh
theorem RowB.wrote2 {w w1 : World} {base n c n' : Nat} {A A' : Option Addr} {f : Nat → Bool} (h : RowB w base A n c f) (hw : Wrote w w1 A' n') (hA : Apart A A') : RowB w1 base A n c f := by
  obtain ⟨row, hg, hr⟩ := hw
  refine ⟨h.1, ?_⟩
  rcases h.2 with h' | ⟨b, cap, cur, hv, hbb, hh, r⟩
  · exact .inl h'
  · simp only [Value.slice.injEq] at hv
    refine .inr ⟨b, cap, cur, by simp [hv.1, hv.2], hbb, ?_, r⟩
    rw [hg.block b (Array.getElem?_eq_some_iff.1 hh).1 (fun e => hA _ _ hv.1 (hr b e.symm).2 rfl)]
    exact hh

theorem heldBoolS_same {w : World} {B : Nat} {A : Option Addr} {n c : Nat} {f : Nat → Bool} (k0 : Int) (hn : n ≤ 17592186044415) (h0 : 0 ≤ k0) (h1 : k0 ≤ 1000000000000000) (hs : Bools w B A n f) (hf : ∀ i, i < n → f i = markedB k0 i) :
    Calls Tryz.prog 119 #[.slice A n c, .int .i64 k0] w fun e w' => e = .returned (.int .i64 (k0 + n)) ∧ ∃ m, w' = w.drewN m := by
  have HF := Lib.hid hf
  clear hf
  go_enter Tryz.func119, Tryz.ntmps119
  go_wp2
  go_loopw [1, 5] (fun s1 s5 wr => ∃ k : Nat, k ≤ n ∧ s5 = .int .i64 k ∧ s1 = .int .i64 (k0 + k) ∧ ∃ m, wr = w.drewN m) (fun _ s5 _ => n - (intOf s5).toNat)
  case atStart => exact ⟨0, Nat.zero_le _, rfl, by simp, 0, rfl⟩
  case round =>
    obtain ⟨k, hk, rfl, rfl, m, rfl⟩ := hrel
    by_cases hlt : k < n
    · obtain ⟨b, off, rfl, _, hc⟩ := hs (by omega)
      have c0 := hc k hlt
      rw [HF.out k hlt] at c0
      unfold markedB at c0
      clear hc hs
      generalize hQ : ((k0 + (k : Int)) % 3 == 0) = Q at *
      go_wp2
      go_roundw
      case rel => exact ⟨k + 1, by omega, by go_num, by go_num, by first | exact ⟨_, rfl⟩ | exact ⟨_, World.drewN_drewN _ _ _⟩⟩
      case measure => simp [intOf]; omega
    · obtain rfl : k = n := by omega
      go_wp2
      go_ret
      exact ⟨rfl, _, rfl⟩

theorem markBoolS_any {w : World} {base : Nat} {A : Option Addr} {n c : Nat} {f : Nat → Bool} (k0 : Int) (hn : n ≤ 17592186044415) (h0 : 0 ≤ k0) (h1 : k0 ≤ 1000000000000000) (hs : RowB w base A n c f) :
    Calls Tryz.prog 118 #[.slice A n c, .int .i64 k0] w fun e w' => e = .returned (.int .i64 (k0 + n)) ∧ RowB w' base A n c (markedB k0) ∧ Wrote w w' A n := by
  go_enter Tryz.func118, Tryz.ntmps118
  go_wp2
  go_loopw [1, 5] (fun s1 s5 wr => ∃ k : Nat, k ≤ n ∧ s5 = .int .i64 k ∧ s1 = .int .i64 (k0 + k) ∧ RowB wr base A n c (fun i => if i < k then markedB k0 i else f i) ∧ Wrote w wr A n) (fun _ s5 _ => n - (intOf s5).toNat)
  case atStart => exact ⟨0, Nat.zero_le _, rfl, by simp, hs.congr fun i hi => by simp, Wrote.refl _ _ _⟩
  case round =>
    obtain ⟨k, hk, rfl, rfl, hr, hg⟩ := hrel
    by_cases hlt : k < n
    · obtain ⟨b, rfl, _, _⟩ := hr.form (by omega)
      have c0 := hr.cell hlt
      have c1 := hr.frozen k
      have hnext := hr.set (k := k) (markedB k0 k)
      have hr2 := hnext.1.congr (g := fun i => if i < k + 1 then markedB k0 i else f i) (fun i hi => by
        unfold updB
        by_cases e : i = k
        · subst e; simp
        · have : (i < k + 1) = (i < k) := by simp; omega
          simp [e, this])
      have hg2 := hg.step hnext.2 (by omega)
      unfold markedB at hr2 hg2
      have HR := Lib.hid hr2
      have HG := Lib.hid hg2
      clear hr hg hnext hr2 hg2 hs
      go_wp2
      go_roundw
      case rel => exact ⟨k + 1, by omega, by go_num, by go_num, HR.out, HG.out⟩
      case measure => simp [intOf]; omega
    · obtain rfl : k = n := by omega
      have hr2 := hr.congr (g := markedB k0) (fun i hi => by simp [hi])
      clear hr
      go_wp2
      go_ret
      exact ⟨rfl, hr2, hg⟩

/-- A row apart from three others stays. -/
def KeepsRow (U D C : Option Addr) (w w' : World) : Prop := ∀ (base : Nat) (A : Option Addr) (n c : Nat) (f : Nat → Int), Row w base A n c f → Apart A U → Apart A D → Apart A C → Row w' base A n c f
/-- A building of marks. -/
def Bld.marked (b : Bld) (k0 : Int) : Bld := { b with f := markedI k0, up := markedB (k0 + b.n), dn := markedB (k0 + b.n + b.nu), car := markedB (k0 + b.n + b.nu + b.nd) }

set_option maxHeartbeats 1600000 in
theorem markCalls_any {w : World} {base lo hi : Nat} {U D C : Option Addr} {nu cu nd cd nc cc : Nat} {up dn car : Nat → Bool} (k0 : Int) (n1 : nu ≤ 17592186044415) (n2 : nd ≤ 17592186044415) (n3 : nc ≤ 17592186044415) (h0 : 0 ≤ k0) (h1 : k0 ≤ 100000000000000) (hs : OwnC w base U nu cu up D nd cd dn C nc cc car)
    (hU : In lo hi U) (hD : In lo hi D) (hC : In lo hi C) (hi' : hi ≤ w.heap.size) :
    Calls Tryz.prog 72 #[.agg #[.slice U nu cu, .slice D nd cd, .slice C nc cc], .int .i64 k0] w fun e w' => e = .returned (.int .i64 (k0 + nu + nd + nc)) ∧
      OwnC w' base U nu cu (markedB k0) D nd cd (markedB (k0 + nu)) C nc cc (markedB (k0 + nu + nd)) ∧ Within lo hi w w' ∧ KeepsRow U D C w w' := by
  have HX0 := Lib.hid (Bx.new w #[.slice U nu cu, .slice D nd cd, .slice C nc cc] 32)
  have HW0 := Lib.hid (Within.of_below (lo := lo) (hi := hi) ((Below.refl w.heap.size w).alloc (Nat.le_refl _) (.cells #[.slice U nu cu, .slice D nd cd, .slice C nc cc] 32)))
  have HS0 := Lib.hid (hs.below ((Below.refl w.heap.size w).alloc (Nat.le_refl _) (.cells #[.slice U nu cu, .slice D nd cd, .slice C nc cc] 32)) (Nat.le_refl _))
  have HIU := Lib.hid hU
  have HID := Lib.hid hD
  have HIC := Lib.hid hC
  have HAP := Lib.hid (And.intro hs.ud (And.intro hs.uc hs.dc))
  clear hs hU hD hC
  have c0 := HX0.out.cells
  go_enter Tryz.func72, Tryz.ntmps72
  go_wp2_with fail
  refine (markBoolS_any k0 n1 h0 (by omega) HS0.out.u).mono ?_
  rintro e w1 ⟨rfl, hr1, hw1⟩
  have hq1 := Within.of_wrote (lo := lo) (hi := hi) hw1 HIU.out
  have HX1 := Lib.hid (HX0.out.within hq1 (by omega))
  have HW1 := Lib.hid (HW0.out.trans hq1)
  have HU1 := Lib.hid hr1
  have HD1 := Lib.hid (HS0.out.d.wrote2 hw1 HAP.out.1.symm)
  have HC1 := Lib.hid (HS0.out.c.wrote2 hw1 HAP.out.2.1.symm)
  have HQ1 := Lib.hid hw1
  clear hr1 hw1 hq1 c0 HX0 HW0 HS0
  have c0 := HX1.out.cells
  go_wp2_with fail
  refine (markBoolS_any (k0 + nu) n2 (by omega) (by omega) HD1.out).mono ?_
  rintro e w2 ⟨rfl, hr2, hw2⟩
  have hq2 := Within.of_wrote (lo := lo) (hi := hi) hw2 HID.out
  have HX2 := Lib.hid (HX1.out.within hq2 (by omega))
  have HW2 := Lib.hid (HW1.out.trans hq2)
  have HU2 := Lib.hid (HU1.out.wrote2 hw2 HAP.out.1)
  have HD2 := Lib.hid hr2
  have HC2 := Lib.hid (HC1.out.wrote2 hw2 HAP.out.2.2.symm)
  have HQ2 := Lib.hid hw2
  clear hr2 hw2 hq2 c0 HX1 HW1 HU1 HD1 HC1
  have c0 := HX2.out.cells
  go_wp2_with fail
  refine (markBoolS_any (k0 + nu + nd) n3 (by omega) (by omega) HC2.out).mono ?_
  rintro e w3 ⟨rfl, hr3, hw3⟩
  have hq3 := Within.of_wrote (lo := lo) (hi := hi) hw3 HIC.out
  have HW3 := Lib.hid (HW2.out.trans hq3)
  have HU3 := Lib.hid (HU2.out.wrote2 hw3 HAP.out.2.1)
  have HD3 := Lib.hid (HD2.out.wrote2 hw3 HAP.out.2.2)
  have HC3 := Lib.hid hr3
  have HQ3 := Lib.hid hw3
  clear hr3 hw3 hq3 c0 HX2 HW2 HU2 HD2 HC2
  go_wp2
  go_ret
  exact ⟨rfl, ⟨HU3.out, HD3.out, HC3.out, HAP.out.1, HAP.out.2.1, HAP.out.2.2⟩, HW3.out, fun base A n c f h a1 a2 a3 => (((h.alloc _).wrote2 HQ1.out a1).wrote2 HQ2.out a2).wrote2 HQ3.out a3⟩
end Go.Proofs.YthkpikkjgggimaaGreatDoor
