/-
  Texts RunM, Run, Run2, Deed, ArgD in one. No claim stands here.
-/
import Derived.Test.YtailpiagjemhpaaHeld
import Derived.Deep.RegionHeld3
import Derived.Test.YtailpiagjemhpaaArg
import Derived.Deep.Slices
import Derived.Deep.Fields
import Derived.ChangeSame
namespace Go.Proofs.Ytailpiagjemhpaa
open Go.RowKit
set_option linter.unusedVariables false
set_option linter.unusedSimpArgs false

/-- A building behind a deed: its kind, the kind of a call, a floor. -/
def Bld.deed (b : Bld) (x : Int × Int × Int) : Bld := if x.1 = 0 then b.ticked false else if x.1 = 1 then b.ticked true else if x.1 = 2 then b.called x.2.1 x.2.2 else b
def Bld.runN (b : Bld) (d : Nat → Int × Int × Int) : Nat → Bld
  | 0 => b
  | k + 1 => (b.runN d k).deed (d k)
/-- What BuildRun answers. -/
def Bld.ran (b : Bld) (d : Nat → Int × Int × Int) (n : Nat) : Bld := if b.valid = true then b.runN d n else Bld.none
theorem deed_small {b : Bld} (h : b.Small) (x : Int × Int × Int) : (b.deed x).Small := by
  unfold Bld.deed
  split
  · exact ticked_small h _
  · split
    · exact ticked_small h _
    · split
      · exact called_small h _ _
      · exact h
theorem runN_small {b : Bld} (h : b.Small) (d : Nat → Int × Int × Int) : ∀ n, (b.runN d n).Small := by
  intro n
  induction n with
  | zero => exact h
  | succ n ih => exact deed_small ih _
theorem ran_small {b : Bld} (h : b.Small) (d : Nat → Int × Int × Int) (n : Nat) : (b.ran d n).Small := by
  unfold Bld.ran
  split
  · exact runN_small h d n
  · exact none_small
theorem deed_ok {b : Bld} (h : b.Ok) (x : Int × Int × Int) : (b.deed x).Ok := by
  have hv := valid_iff.2 h
  unfold Bld.deed Bld.ticked Bld.called
  rw [if_pos hv, if_pos hv, if_pos hv]
  split
  · exact tick_ok h _
  · split
    · exact tick_ok h _
    · split
      · exact Bld.ask_valid h _ _
      · exact h
theorem runN_ok {b : Bld} (h : b.Ok) (d : Nat → Int × Int × Int) : ∀ n, (b.runN d n).Ok := by
  intro n
  induction n with
  | zero => exact h
  | succ n ih => exact deed_ok ih _

/-- A slice of deeds reads as d 0 .. d (n - 1), and lies below block B. -/
def Deeds (w : World) (B : Nat) (A : Option Addr) (n : Nat) (d : Nat → Int × Int × Int) : Prop :=
  0 < n → ∃ b off, A = some ⟨b, off, none⟩ ∧ b < B ∧ ∀ i, i < n → w.cell? ⟨b, off + i * 3, none⟩ = some (.int .i64 (d i).1) ∧ w.cell? ⟨b, off + i * 3 + 1, none⟩ = some (.int .i64 (d i).2.1) ∧ w.cell? ⟨b, off + i * 3 + 2, none⟩ = some (.int .i64 (d i).2.2)
theorem Deeds.below {w w' : World} {B : Nat} {A : Option Addr} {n : Nat} {d : Nat → Int × Int × Int} (h : Deeds w B A n d) (hb : Below B w w') : Deeds w' B A n d := by
  intro hn
  obtain ⟨b, off, hA, hlt, hc⟩ := h hn
  exact ⟨b, off, hA, hlt, fun i hi => ⟨(hb.cell hlt).trans (hc i hi).1, (hb.cell hlt).trans (hc i hi).2.1, (hb.cell hlt).trans (hc i hi).2.2⟩⟩
theorem Deeds.more {w : World} {B B' : Nat} {A : Option Addr} {n : Nat} {d : Nat → Int × Int × Int} (h : Deeds w B A n d) (hB : B ≤ B') : Deeds w B' A n d := by
  intro hn
  obtain ⟨b, off, hA, hlt, hc⟩ := h hn
  exact ⟨b, off, hA, Nat.lt_of_lt_of_le hlt hB, hc⟩
/-- A whole building of the call's own is stored into box g, whose building is forgotten. -/
theorem put_building {w W W' : World} {g g1 base : Nat} {v v' : Bv} {b b' : Bld} {R : Array Value} (x : Bx W g (bcells v b)) (y : Bx W g1 R) (hne : g1 ≠ g) (hB : Below w.heap.size w W) (hg : w.heap.size ≤ g) (hb : Below W.heap.size W W') (o : OwnB W' W.heap.size v' b') (hbase : base ≤ W.heap.size) :
    Bx (sets W' (putL g v' b')) g (bcells v' b') ∧ Bx (sets W' (putL g v' b')) g1 R ∧ Below w.heap.size w (sets W' (putL g v' b')) ∧ OwnB (sets W' (putL g v' b')) base v' b' ∧ Off g v' := by
  have hl := x.lt
  unfold bcells at x
  exact ⟨(x.below hb x.lt).put v' b', sets_bx _ (y.below hb y.lt) (fun q hq => by rw [putL_block q hq]; exact Ne.symm hne), sets_below _ (hB.trans (hb.mono hB.size)) (fun q hq => by rw [putL_block q hq]; exact hg),
    (sets_own _ o (fun q hq => by rw [putL_block q hq]; exact hl)).mono hbase, own_off o (.inl hl)⟩
theorem deed_0 {b : Bld} {x : Int × Int × Int} (h : x.1 = 0) : b.deed x = b.ticked false := by simp [Bld.deed, h]
theorem deed_1 {b : Bld} {x : Int × Int × Int} (h : x.1 = 1) : b.deed x = b.ticked true := by simp [Bld.deed, h]
theorem deed_2 {b : Bld} {x : Int × Int × Int} (h : x.1 = 2) : b.deed x = b.called x.2.1 x.2.2 := by simp [Bld.deed, h]
theorem deed_3 {b : Bld} {x : Int × Int × Int} (h0 : x.1 ≠ 0) (h1 : x.1 ≠ 1) (h2 : x.1 ≠ 2) : b.deed x = b := by simp [Bld.deed, h0, h1, h2]
def RunPost (b : Bld) (d : Nat → Int × Int × Int) (n : Nat) (w : World) (e : Ending) (w' : World) : Prop :=
  ∃ v', e = .returned (bval v' (b.ran d n)) ∧ OwnB w' w.heap.size v' (b.ran d n) ∧ Below w.heap.size w w'
theorem ran_no {b : Bld} {d : Nat → Int × Int × Int} {n : Nat} (h : b.valid = false) : b.ran d n = Bld.none := by simp [Bld.ran, h]
theorem ran_yes {b : Bld} {d : Nat → Int × Int × Int} {n : Nat} (h : b.valid = true) : b.ran d n = b.runN d n := by simp [Bld.ran, h]
end Go.Proofs.Ytailpiagjemhpaa

namespace Go.Proofs.Ytailpiagjemhpaa
open Go.RowKit
set_option linter.unusedVariables false
set_option linter.unusedSimpArgs false

theorem Bx.drew {w : World} {g : Nat} {xs : Array Value} (h : Bx w g xs) : Bx w.drew g xs := h

set_option maxHeartbeats 6400000 in
theorem spec_BuildRun_no {w : World} {B n c : Nat} {v : Bv} {b : Bld} {A : Option Addr} {d : Nat → Int × Int × Int} (hn : b.Small) (hB : B ≤ w.heap.size) (hr : ReadB w B v b) (hv : b.valid = false) :
    Calls Try.prog 39 #[bval v b, .slice A n c] w (RunPost b d n w) := by
  have HR := Lib.hid hr
  have HSm := Lib.hid hn
  have HV := Lib.hid hv
  have HE := Lib.hid (ran_no (d := d) (n := n) hv)
  obtain ⟨m0, m1, m2, m3⟩ := hn
  clear hr hv
  unfold bval bcells RunPost
  go_enter Try.func39, Try.ntmps39
  go_wp2_with fail
  refine (spec_BuildValid (v := v) (b := b) HSm.out (Nat.le_trans hB (by simp <;> omega)) ((HR.out.alloc hB _).alloc (Nat.le_trans hB (by simp <;> omega)) _)).mono ?_
  rintro e w1 ⟨rfl, hb1⟩
  obtain ⟨x, y, hbb, hs1⟩ := boxes2' hb1
  have HB1 := Lib.hid hbb
  have c1 := y.cells
  have z1 := y.free
  clear hb1 x y hbb
  rw [HV.out]
  go_wp2
  refine bodyPost_ret (v := bval Bv.none Bld.none) (by simp [bval, bcells, Bv.none, Bld.none, results, Try.results39, go_sem, c1]) rfl ⟨Bv.none, by rw [HE.out], ?_, ?_⟩
  · rw [HE.out]
    exact own_none _ _
  · repeat (refine below_set (by simp <;> omega) ?_)
    exact HB1.out

set_option maxHeartbeats 12800000 in
theorem spec_BuildRun_yes {w : World} {B n c : Nat} {v : Bv} {b : Bld} {A : Option Addr} {d : Nat → Int × Int × Int} (hn : b.Small) (hB : B ≤ w.heap.size) (hr : ReadB w B v b) (hv : b.valid = true) (hl : n ≤ 1000000000) (hd : Deeds w B A n d) :
    Calls Try.prog 39 #[bval v b, .slice A n c] w (RunPost b d n w) := by
  have hsz := (valid_iff.1 hv).sizes
  have HSZ := Lib.hid hsz
  clear hsz
  have HR := Lib.hid hr
  have HSm := Lib.hid hn
  have HV := Lib.hid hv
  have HD := Lib.hid hd
  have HE := Lib.hid (ran_yes (d := d) (n := n) hv)
  clear hr hv hn hd
  unfold RunPost
  rw [HE.out]
  unfold bval bcells
  go_enter Try.func39, Try.ntmps39
  go_wp2_with fail
  refine (spec_BuildValid (v := v) (b := b) HSm.out (Nat.le_trans hB (by simp <;> omega)) ((HR.out.alloc hB _).alloc (Nat.le_trans hB (by simp <;> omega)) _)).mono ?_
  rintro e w1 ⟨rfl, hb1⟩
  obtain ⟨x, y, hbb, hs1⟩ := boxes2' hb1
  have HX1 := Lib.hid x
  have HY1 := Lib.hid y
  have HB1 := Lib.hid hbb
  have c0 := x.cells
  clear hb1 x y hbb
  rw [HV.out]
  go_wp2_with fail
  refine (l27Copy_any (v := v) (b := b) (by have := HSZ.out; omega) (by have := HSZ.out; omega) (by have := HSZ.out; omega) (by have := HSZ.out; omega) (by have := HSZ.out; omega) (by have := HSZ.out; omega) (by have := HSZ.out; omega) (by have := HSZ.out; omega) (Nat.le_trans hB HB1.out.size) (HR.out.below (HB1.out.mono hB))).mono ?_
  rintro e w2 ⟨v2, rfl, ho2, hb2⟩
  simp only [bval, bcells]
  have HY2 := Lib.hid ((HY1.out.below hb2 HY1.out.lt).alloc (.cells (bcells v2 b) 36))
  have HZ2 := Lib.hid (Bx.new w2 (bcells v2 b) 36)
  have HB2 := Lib.hid ((HB1.out.trans (hb2.mono HB1.out.size)).alloc (Nat.le_trans HB1.out.size hb2.size) (.cells (bcells v2 b) 36))
  have HO2 := Lib.hid (ownB_below (ho2.mono (base' := w.heap.size + 2) hs1) ((Below.refl w2.heap.size w2).alloc (Nat.le_refl _) (.cells (bcells v2 b) 36)))
  have HOFF := Lib.hid (own_off ho2 (.inr (Nat.le_refl _)))
  have hs2 : w.heap.size + 2 ≤ w2.heap.size := Nat.le_trans hs1 hb2.size
  clear hb2 ho2 c0 HX1 HY1 HB1
  unfold bcells at HY2 HZ2 HB2 HO2
  go_wp2
  go_loopw [6] (fun s6 wr => ∃ (k : Nat) (v' : Bv) (b' : Bld), s6 = .int .i64 k ∧ k ≤ n ∧ Hid (b' = b.runN d k) ∧ Hid b'.Small ∧ Hid (Bx wr (w.heap.size + 1) #[.slice none 0 0, .int .i64 0, .int .i64 0, .int .i64 0, .int .i64 0, .slice none 0 0, .slice none 0 0, .slice none 0 0, .int .i64 0, .int .i64 0, .bool false]) ∧
    Hid (Bx wr w2.heap.size (bcells v' b')) ∧ Hid (OwnB wr (w.heap.size + 2) v' b') ∧ Hid (Off w2.heap.size v') ∧ Hid (Below w.heap.size w wr)) (fun s6 _ => n - (intOf s6).toNat)
  case atStart => exact ⟨0, v2, b, rfl, by omega, Lib.hid rfl, HSm, HY2, HZ2, HO2, HOFF, HB2⟩
  case round =>
    obtain ⟨k, v', b', rfl, hk, HK, HS, HY, HZ, HO, HF, HB⟩ := hrel
    clear HY2 HZ2 HO2 HOFF HB2
    have hwr := HB.out.size
    have hzl := HZ.out.lt
    by_cases hlt : k < n
    · obtain ⟨bd, od, rfl, hbd, gd⟩ := HD.out.below (HB.out.mono hB) (by omega)
      obtain ⟨e1, e2, e3⟩ := gd k hlt
      have HN : Hid (b.runN d (k + 1) = b'.deed (d k)) := Lib.hid (by rw [HK.out]; rfl)
      have HNS := Lib.hid (deed_small HS.out (d k))
      have HL : Hid (∀ W, Below w.heap.size w W → W.cell? ⟨bd, od + k * 3 + 1, none⟩ = some (.int .i64 (d k).2.1) ∧ W.cell? ⟨bd, od + k * 3 + 2, none⟩ = some (.int .i64 (d k).2.2)) := Lib.hid (fun W hW => by
        obtain ⟨b0, o0, e0, _, g0⟩ := HD.out.below (hW.mono hB) (by omega)
        cases e0
        exact (g0 k hlt).2)
      clear gd
      unfold bcells at HZ
      have c2 := HZ.out.cells
      have z2 := HZ.out.free
      have D0 := Lib.hid (@deed_0 b' (d k))
      have D1 := Lib.hid (@deed_1 b' (d k))
      have D2 := Lib.hid (@deed_2 b' (d k))
      have D3 := Lib.hid (@deed_3 b' (d k))
      generalize d k = x at *
      obtain ⟨kd, cd, fd⟩ := x
      simp only at e1 e2 e3 D0 D1 D2 D3
      by_cases q0 : kd = 0
      · subst q0
        rw [D0.out rfl] at HN HNS
        clear D0 D1 D2 D3
        go_wp2_with fail
        refine (spec_BuildTick (v := v') (b := b') false HS.out (Nat.le_refl _) HO.out.read).mono ?_
        unfold TickPost
        rintro e w5 ⟨v5, rfl, ho5, hb5⟩
        obtain ⟨x5, y5, b5, o5, f5⟩ := put_building (base := w.heap.size + 2) HZ.out HY.out (by omega) HB.out (by omega) hb5 ho5 (by omega)
        have HX5 := Lib.hid x5
        have HY5 := Lib.hid y5
        have HB5 := Lib.hid b5
        have HO5 := Lib.hid o5
        have HF5 := Lib.hid f5
        have c5 := (HZ.out.below hb5 hzl).cells
        have z5 := (HZ.out.below hb5 hzl).free
        clear hb5 ho5 x5 y5 b5 o5 f5 c2 z2
        generalize b'.ticked false = b5 at *
        simp only [bval, bcells]
        go_wp2
        go_roundw
        case rel => exact ⟨k + 1, v5, b5, by go_num, by omega, Lib.hid HN.out.symm, HNS, HY5, HX5, HO5, HF5, HB5⟩
        case measure => simp [intOf]; omega
      by_cases q1 : kd = 1
      · have r0 : (kd == 0) = false := by simp [q0]
        clear q0
        subst q1
        rw [D1.out rfl] at HN HNS
        clear D0 D1 D2 D3
        go_wp2_with fail
        refine (spec_BuildTick (v := v') (b := b') true HS.out (Nat.le_refl _) HO.out.read).mono ?_
        unfold TickPost
        rintro e w5 ⟨v5, rfl, ho5, hb5⟩
        obtain ⟨x5, y5, b5, o5, f5⟩ := put_building (base := w.heap.size + 2) HZ.out HY.out (by omega) HB.out (by omega) hb5 ho5 (by omega)
        have HX5 := Lib.hid x5
        have HY5 := Lib.hid y5
        have HB5 := Lib.hid b5
        have HO5 := Lib.hid o5
        have HF5 := Lib.hid f5
        have c5 := (HZ.out.below hb5 hzl).cells
        have z5 := (HZ.out.below hb5 hzl).free
        clear hb5 ho5 x5 y5 b5 o5 f5 c2 z2
        generalize b'.ticked true = b5 at *
        simp only [bval, bcells]
        go_wp2
        go_roundw
        case rel => exact ⟨k + 1, v5, b5, by go_num, by omega, Lib.hid HN.out.symm, HNS, HY5, HX5, HO5, HF5, HB5⟩
        case measure => simp [intOf]; omega
      by_cases q2 : kd = 2
      · subst q2
        rw [D2.out rfl] at HN HNS
        clear D0 D1 D2 D3 q0 q1
        have HZd := Lib.hid HZ.out.drew
        have HYd := Lib.hid HY.out.drew
        have HBd := Lib.hid HB.out.drew
        have HOd := Lib.hid HO.out.drew
        have HCC : Hid (∀ W, OwnB W (w.heap.size + 2) v' b' → Calls Try.prog 23 #[bval v' b', .int .i64 cd, .int .i64 fd] W (CallPost b' cd fd W)) := Lib.hid (fun W hO => spec_BuildCall (v := v') (b := b') cd fd HS.out (Nat.le_refl _) hO.read)
        have HOa := Lib.hid (ownB_below HO.out ((Below.refl wr.heap.size wr).alloc (Nat.le_refl _) (.cells #[.slice none 0 0, .int .i64 0, .int .i64 0, .int .i64 0, .int .i64 0, .slice none 0 0, .slice none 0 0, .slice none 0 0, .int .i64 0, .int .i64 0, .bool false] 36))).drew
        have HZa := Lib.hid (HZ.out.alloc (.cells #[.slice none 0 0, .int .i64 0, .int .i64 0, .int .i64 0, .int .i64 0, .slice none 0 0, .slice none 0 0, .slice none 0 0, .int .i64 0, .int .i64 0, .bool false] 36)).drew
        have HXa := Lib.hid (Bx.new wr #[.slice none 0 0, .int .i64 0, .int .i64 0, .int .i64 0, .int .i64 0, .slice none 0 0, .slice none 0 0, .slice none 0 0, .int .i64 0, .int .i64 0, .bool false] 36).drew
        have HBa := Lib.hid (HB.out.alloc HB.out.size (.cells #[.slice none 0 0, .int .i64 0, .int .i64 0, .int .i64 0, .int .i64 0, .slice none 0 0, .slice none 0 0, .slice none 0 0, .int .i64 0, .int .i64 0, .bool false] 36)).drew
        generalize hr6 : b'.called cd fd = r6 at *
        generalize hk6 : b'.calledOk cd fd = ok6 at *
        unfold CallPost bval bcells at HCC
        rw [hr6, hk6] at HCC
        clear hr6 hk6
        go_wp2
        go_region_held3 (fun w' => (∀ o, w'.cell? ⟨w2.heap.size, o, none⟩ = (#[.slice v'.A b'.n v'.c, .int .i64 b'.pos, .int .i64 b'.sp, .int .i64 b'.gap, .int .i64 b'.hold, .slice v'.U b'.nu v'.cu, .slice v'.D b'.nd v'.cd, .slice v'.C b'.nc v'.cc, .int .i64 b'.fl, .int .i64 b'.dir, .bool b'.op] : Array Value)[o]?) ∧ w'.cell? ⟨bd, od + k * 3 + 1, none⟩ = some (.int .i64 cd) ∧ w'.cell? ⟨bd, od + k * 3 + 2, none⟩ = some (.int .i64 fd))
          (first | with_reducible exact ⟨HZd.out.cells, HL.out _ HBd.out⟩ | with_reducible exact ⟨HZa.out.cells, HL.out _ HBa.out⟩ | with_reducible exact ⟨HZ5.out.cells, HL.out _ HB5.out⟩ | with_reducible exact ⟨HZ6.out.cells, HL.out _ HB6.out⟩ | with_reducible exact ⟨HZ7.out.cells, HL.out _ HB7.out⟩)
          (first
          | (go_at_call 23; (with_reducible refine (HCC.out wr.drew HOd.out).mono ?_); rintro e w5 ⟨v5, rfl, ho5, hb5⟩; have HZ5 := Lib.hid (HZd.out.below hb5 HZd.out.lt); have HB5 := Lib.hid (HBd.out.trans (hb5.mono HBd.out.size)); have HZ6 := Lib.hid (HZ5.out.alloc (.cells #[.slice none 0 0, .int .i64 0, .int .i64 0, .int .i64 0, .int .i64 0, .slice none 0 0, .slice none 0 0, .slice none 0 0, .int .i64 0, .int .i64 0, .bool false] 36)); have HB6 := Lib.hid (HB5.out.alloc HB5.out.size (.cells #[.slice none 0 0, .int .i64 0, .int .i64 0, .int .i64 0, .int .i64 0, .slice none 0 0, .slice none 0 0, .slice none 0 0, .int .i64 0, .int .i64 0, .bool false] 36)); have HZ7 := Lib.hid (HZ5.out.alloc (.cells (bcells v5 r6) 36)); have HB7 := Lib.hid (HB5.out.alloc HB5.out.size (.cells (bcells v5 r6) 36)); have hb6 := hb5.alloc hb5.size (.cells (bcells v5 r6) 36); have ho6 := ownB_below ho5 ((Below.refl w5.heap.size w5).alloc (Nat.le_refl _) (.cells (bcells v5 r6) 36)); have hP := put_building (base := w.heap.size + 2) HZd.out HYd.out (by omega) HBd.out (by omega) hb6 ho6 (by simp; omega); have HN5 := Lib.hid (Bx.new w5 (bcells v5 r6) 36); have HP := Lib.hid hP; clear hP hb6 ho6; unfold bcells at HZ7 HB7 HN5; have c7 := HZ7.out.cells; have z7 := HZ7.out.free; have c8 := HN5.out.cells)
          | (go_at_call 23; (with_reducible refine (HCC.out _ HOa.out).mono ?_); rintro e w5 ⟨v5, rfl, ho5, hb5⟩; have HZ5 := Lib.hid (HZa.out.below hb5 HZa.out.lt); have HB5 := Lib.hid (HBa.out.trans (hb5.mono HBa.out.size)); have HX5 := Lib.hid (HXa.out.below hb5 HXa.out.lt); have HZ7 := Lib.hid (sets_bx (putL wr.heap.size v5 r6) HZ5.out (fun q hq => by rw [putL_block q hq]; omega)); have HB7 := Lib.hid (sets_below (putL wr.heap.size v5 r6) HB5.out (fun q hq => by rw [putL_block q hq]; omega)); have hP := put_building (base := w.heap.size + 2) (W' := sets w5 (putL wr.heap.size v5 r6)) HZ.out HY.out (by omega) HB.out (by omega) (sets_below _ ((((Below.refl wr.heap.size wr).alloc (Nat.le_refl _) (.cells #[.slice none 0 0, .int .i64 0, .int .i64 0, .int .i64 0, .int .i64 0, .slice none 0 0, .slice none 0 0, .slice none 0 0, .int .i64 0, .int .i64 0, .bool false] 36)).drew).trans (hb5.mono (by simp))) (fun q hq => by rw [putL_block q hq]; omega)) ((sets_own _ ho5 (fun q hq => by rw [putL_block q hq]; simp)).mono (by simp)) (by omega); have HP := Lib.hid hP; clear hP; simp only [sets, putL, List.foldl_cons, List.foldl_nil] at HZ7 HB7; have c7 := HZ5.out.cells; have z7 := HZ5.out.free; have c8 := HX5.out.cells; have z8 := HX5.out.free))
        all_goals go_wp2
        all_goals
          go_roundw
          case rel => exact ⟨k + 1, v5, r6, by go_num, by omega, Lib.hid HN.out.symm, HNS, Lib.hid HP.out.2.1, Lib.hid HP.out.1, Lib.hid HP.out.2.2.2.1, Lib.hid HP.out.2.2.2.2, Lib.hid HP.out.2.2.1⟩
          case measure => simp [intOf]; omega
      · have r0 : (kd == 0) = false := by simp [q0]
        have r1 : (kd == 1) = false := by simp [q1]
        have r2 : (kd == 2) = false := by simp [q2]
        rw [D3.out q0 q1 q2] at HN
        clear D0 D1 D2 D3 q0 q1 q2
        go_wp2
        go_roundw
        case rel => exact ⟨k + 1, v', b', by go_num, by omega, Lib.hid HN.out.symm, HS, HY, HZ, HO, HF, HB⟩
        case measure => simp [intOf]; omega
    · obtain rfl : k = n := by omega
      have HN : Hid (b.runN d k = b') := Lib.hid HK.out.symm
      unfold bcells at HZ
      have c2 := HZ.out.cells
      have c1 := HY.out.cells
      have z1 := HY.out.free
      go_wp2
      refine bodyPost_ret (v := bval v' b') (by simp [bval, bcells, results, Try.results39, go_sem, c1, c2]) rfl ⟨v', by rw [HN.out]; rfl, ?_, ?_⟩
      · rw [HN.out]
        refine OwnB.mono (base := w.heap.size + 2) ?_ (by omega)
        repeat (refine ownB_set (by simp <;> omega) ?_)
        exact HO.out
      · repeat (refine below_set (by simp <;> omega) ?_)
        exact HB.out

theorem spec_BuildRun {w : World} {B n c : Nat} {v : Bv} {b : Bld} {A : Option Addr} {d : Nat → Int × Int × Int} (hn : b.Small) (hB : B ≤ w.heap.size) (hr : ReadB w B v b) (hl : n ≤ 1000000000) (hd : Deeds w B A n d) :
    Calls Try.prog 39 #[bval v b, .slice A n c] w (RunPost b d n w) := by
  cases hv : b.valid
  · exact spec_BuildRun_no hn hB hr hv
  · exact spec_BuildRun_yes hn hB hr hv hl hd
end Go.Proofs.Ytailpiagjemhpaa

namespace Go.Proofs.Ytailpiagjemhpaa
open Go.RowKit
set_option linter.unusedVariables false
set_option linter.unusedSimpArgs false

set_option maxHeartbeats 6400000 in
theorem impl_BuildRun_no {w : World} {B n c : Nat} {v : Bv} {b : Bld} {A : Option Addr} {d : Nat → Int × Int × Int} (hn : b.Small) (hB : B ≤ w.heap.size) (hr : ReadB w B v b) (hv : b.valid = false) :
    Calls Try.prog 38 #[bval v b, .slice A n c] w (RunPost b d n w) := by
  have HR := Lib.hid hr
  have HSm := Lib.hid hn
  have HV := Lib.hid hv
  have HE := Lib.hid (ran_no (d := d) (n := n) hv)
  obtain ⟨m0, m1, m2, m3⟩ := hn
  clear hr hv
  unfold bval bcells RunPost
  go_enter Try.func38, Try.ntmps38
  go_wp2_with fail
  refine (impl_BuildValid (v := v) (b := b) HSm.out (Nat.le_trans hB (by simp <;> omega)) ((HR.out.alloc hB _).alloc (Nat.le_trans hB (by simp <;> omega)) _)).mono ?_
  rintro e w1 ⟨rfl, hb1⟩
  obtain ⟨x, y, hbb, hs1⟩ := boxes2' hb1
  have HB1 := Lib.hid hbb
  have c1 := y.cells
  have z1 := y.free
  clear hb1 x y hbb
  rw [HV.out]
  go_wp2
  refine bodyPost_ret (v := bval Bv.none Bld.none) (by simp [bval, bcells, Bv.none, Bld.none, results, Try.results38, go_sem, c1]) rfl ⟨Bv.none, by rw [HE.out], ?_, ?_⟩
  · rw [HE.out]
    exact own_none _ _
  · repeat (refine below_set (by simp <;> omega) ?_)
    exact HB1.out

set_option maxHeartbeats 12800000 in
theorem impl_BuildRun_yes {w : World} {B n c : Nat} {v : Bv} {b : Bld} {A : Option Addr} {d : Nat → Int × Int × Int} (hn : b.Small) (hB : B ≤ w.heap.size) (hr : ReadB w B v b) (hv : b.valid = true) (hl : n ≤ 1000000000) (hd : Deeds w B A n d) :
    Calls Try.prog 38 #[bval v b, .slice A n c] w (RunPost b d n w) := by
  have hsz := (valid_iff.1 hv).sizes
  have HSZ := Lib.hid hsz
  clear hsz
  have HR := Lib.hid hr
  have HSm := Lib.hid hn
  have HV := Lib.hid hv
  have HD := Lib.hid hd
  have HE := Lib.hid (ran_yes (d := d) (n := n) hv)
  clear hr hv hn hd
  unfold RunPost
  rw [HE.out]
  unfold bval bcells
  go_enter Try.func38, Try.ntmps38
  go_wp2_with fail
  refine (impl_BuildValid (v := v) (b := b) HSm.out (Nat.le_trans hB (by simp <;> omega)) ((HR.out.alloc hB _).alloc (Nat.le_trans hB (by simp <;> omega)) _)).mono ?_
  rintro e w1 ⟨rfl, hb1⟩
  obtain ⟨x, y, hbb, hs1⟩ := boxes2' hb1
  have HX1 := Lib.hid x
  have HY1 := Lib.hid y
  have HB1 := Lib.hid hbb
  have c0 := x.cells
  clear hb1 x y hbb
  rw [HV.out]
  go_wp2_with fail
  refine (copyBuilding_any (v := v) (b := b) (by have := HSZ.out; omega) (by have := HSZ.out; omega) (by have := HSZ.out; omega) (by have := HSZ.out; omega) (by have := HSZ.out; omega) (Nat.le_trans hB HB1.out.size) (HR.out.below (HB1.out.mono hB))).mono ?_
  rintro e w2 ⟨v2, rfl, ho2, hb2⟩
  have x2 := HX1.out.below hb2 HX1.out.lt
  have z2 := x2.free
  have c2 := x2.cells
  have F2 := store_building v2 b x2 (HY1.out.below hb2 HY1.out.lt) (by omega) (HB1.out.trans (hb2.mono HB1.out.size)) (Nat.le_refl _) (ho2.mono (base' := w.heap.size + 2) hs1) (by omega) (Nat.le_trans hs1 hb2.size)
  clear hb2 ho2 x2 c0 HX1 HY1 HB1
  obtain ⟨W3, hW, x3, y3, hb3, ho3, hs3⟩ := F2
  subst hW
  have HX3 := Lib.hid x3
  have HY3 := Lib.hid y3
  have HB3 := Lib.hid hb3
  have HO3 := Lib.hid ho3
  clear x3 y3 hb3 ho3
  simp only [bval, bcells]
  go_wp2
  go_loopw [15] (fun s15 wr => ∃ (k : Nat) (v' : Bv) (b' : Bld), s15 = .int .i64 k ∧ k ≤ n ∧ Hid (b' = b.runN d k) ∧ Hid b'.Small ∧ Hid (Bx wr (w.heap.size + 1) #[.slice none 0 0, .int .i64 0, .int .i64 0, .int .i64 0, .int .i64 0, .slice none 0 0, .slice none 0 0, .slice none 0 0, .int .i64 0, .int .i64 0, .bool false]) ∧
    Hid (Bx wr w.heap.size (bcells v' b')) ∧ Hid (OwnB wr (w.heap.size + 2) v' b') ∧ Hid (Below w.heap.size w wr) ∧ w.heap.size + 2 ≤ wr.heap.size) (fun s15 _ => n - (intOf s15).toNat)
  case atStart => exact ⟨0, v2, b, rfl, by omega, Lib.hid rfl, HSm, HY3, HX3, HO3, HB3, hs3⟩
  case round =>
    obtain ⟨k, v', b', rfl, hk, HK, HS, HY, HX, HO, HB, hwr⟩ := hrel
    clear HY3 HX3 HO3 HB3 c2 z2
    by_cases hlt : k < n
    · obtain ⟨bd, od, rfl, hbd, gd⟩ := HD.out.below (HB.out.mono hB) (by omega)
      obtain ⟨e1, e2, e3⟩ := gd k hlt
      have HN : Hid (b.runN d (k + 1) = b'.deed (d k)) := Lib.hid (by rw [HK.out]; rfl)
      have HNS := Lib.hid (deed_small HS.out (d k))
      clear gd
      have D0 := Lib.hid (@deed_0 b' (d k))
      have D1 := Lib.hid (@deed_1 b' (d k))
      have D2 := Lib.hid (@deed_2 b' (d k))
      have D3 := Lib.hid (@deed_3 b' (d k))
      generalize d k = x at *
      obtain ⟨kd, cd, fd⟩ := x
      simp only at e1 e2 e3 D0 D1 D2 D3
      unfold bcells at HX
      have HXa := Lib.hid (HX.out.alloc (.cells #[.int .i64 kd, .int .i64 cd, .int .i64 fd] 102))
      have HYa := Lib.hid (HY.out.alloc (.cells #[.int .i64 kd, .int .i64 cd, .int .i64 fd] 102))
      have HOa := Lib.hid (ownB_below HO.out ((Below.refl wr.heap.size wr).alloc (Nat.le_refl _) (.cells #[.int .i64 kd, .int .i64 cd, .int .i64 fd] 102)))
      have HBa := Lib.hid (HB.out.alloc HB.out.size (.cells #[.int .i64 kd, .int .i64 cd, .int .i64 fd] 102))
      have c2 := HXa.out.cells
      have z2 := HXa.out.free
      have c3 := (Bx.new wr #[.int .i64 kd, .int .i64 cd, .int .i64 fd] 102).cells
      by_cases q0 : kd = 0
      · subst q0
        rw [D0.out rfl] at HN HNS
        clear D0 D1 D2 D3
        go_wp2_with fail
        refine (impl_BuildTick (v := v') (b := b') false HS.out (Nat.le_refl _) HOa.out.read).mono ?_
        unfold TickPost
        rintro e w5 ⟨v5, rfl, ho5, hb5⟩
        have HP := Lib.hid (put_building (base := w.heap.size + 2) HXa.out HYa.out (by omega) HBa.out (by omega) hb5 ho5 (by simp; omega))
        have c5 := (HXa.out.below hb5 HXa.out.lt).cells
        have z5 := (HXa.out.below hb5 HXa.out.lt).free
        have hsz5 : w.heap.size + 2 ≤ w5.heap.size := by have := hb5.size; simp at this; omega
        clear hb5 ho5 c2 z2 c3
        generalize b'.ticked false = b5 at *
        simp only [bval, bcells]
        go_wp2
        go_roundw
        case rel => exact ⟨k + 1, v5, b5, by go_num, by omega, Lib.hid HN.out.symm, HNS, Lib.hid HP.out.2.1, Lib.hid HP.out.1, Lib.hid HP.out.2.2.2.1, Lib.hid HP.out.2.2.1, by simpa using hsz5⟩
        case measure => simp [intOf]; omega
      by_cases q1 : kd = 1
      · have r0 : (kd == 0) = false := by simp [q0]
        clear q0
        subst q1
        rw [D1.out rfl] at HN HNS
        clear D0 D1 D2 D3
        go_wp2_with fail
        refine (impl_BuildTick (v := v') (b := b') true HS.out (Nat.le_refl _) HOa.out.read).mono ?_
        unfold TickPost
        rintro e w5 ⟨v5, rfl, ho5, hb5⟩
        have HP := Lib.hid (put_building (base := w.heap.size + 2) HXa.out HYa.out (by omega) HBa.out (by omega) hb5 ho5 (by simp; omega))
        have c5 := (HXa.out.below hb5 HXa.out.lt).cells
        have z5 := (HXa.out.below hb5 HXa.out.lt).free
        have hsz5 : w.heap.size + 2 ≤ w5.heap.size := by have := hb5.size; simp at this; omega
        clear hb5 ho5 c2 z2 c3
        generalize b'.ticked true = b5 at *
        simp only [bval, bcells]
        go_wp2
        go_roundw
        case rel => exact ⟨k + 1, v5, b5, by go_num, by omega, Lib.hid HN.out.symm, HNS, Lib.hid HP.out.2.1, Lib.hid HP.out.1, Lib.hid HP.out.2.2.2.1, Lib.hid HP.out.2.2.1, by simpa using hsz5⟩
        case measure => simp [intOf]; omega
      by_cases q2 : kd = 2
      · subst q2
        rw [D2.out rfl] at HN HNS
        clear D0 D1 D2 D3 q0 q1
        go_wp2_with fail
        refine (impl_BuildCall (v := v') (b := b') cd fd HS.out (Nat.le_refl _) HOa.out.read).mono ?_
        unfold CallPost
        rintro e w5 ⟨v5, rfl, ho5, hb5⟩
        have HP := Lib.hid (put_building (base := w.heap.size + 2) HXa.out HYa.out (by omega) HBa.out (by omega) hb5 ho5 (by simp; omega))
        have c5 := (HXa.out.below hb5 HXa.out.lt).cells
        have z5 := (HXa.out.below hb5 HXa.out.lt).free
        have hsz5 : w.heap.size + 2 ≤ w5.heap.size := by have := hb5.size; simp at this; omega
        clear hb5 ho5 c2 z2 c3
        generalize b'.called cd fd = b5 at *
        simp only [bval, bcells]
        go_wp2
        go_roundw
        case rel => exact ⟨k + 1, v5, b5, by go_num, by omega, Lib.hid HN.out.symm, HNS, Lib.hid HP.out.2.1, Lib.hid HP.out.1, Lib.hid HP.out.2.2.2.1, Lib.hid HP.out.2.2.1, by simpa using hsz5⟩
        case measure => simp [intOf]; omega
      · have r0 : (kd == 0) = false := by simp [q0]
        have r1 : (kd == 1) = false := by simp [q1]
        have r2 : (kd == 2) = false := by simp [q2]
        rw [D3.out q0 q1 q2] at HN
        clear D0 D1 D2 D3 q0 q1 q2
        go_wp2
        go_roundw
        case rel => exact ⟨k + 1, v', b', by go_num, by omega, Lib.hid HN.out.symm, HS, HYa, HXa, HOa, HBa, by simp; omega⟩
        case measure => simp [intOf]; omega
    · obtain rfl : k = n := by omega
      have HN : Hid (b.runN d k = b') := Lib.hid HK.out.symm
      unfold bcells at HX
      have c2 := HX.out.cells
      have c1 := HY.out.cells
      have z1 := HY.out.free
      go_wp2
      refine bodyPost_ret (v := bval v' b') (by simp [bval, bcells, results, Try.results38, go_sem, c1, c2]) rfl ⟨v', by rw [HN.out]; rfl, ?_, ?_⟩
      · rw [HN.out]
        refine OwnB.mono (base := w.heap.size + 2) ?_ (by omega)
        repeat (refine ownB_set (by simp <;> omega) ?_)
        exact HO.out
      · repeat (refine below_set (by simp <;> omega) ?_)
        exact HB.out

theorem impl_BuildRun {w : World} {B n c : Nat} {v : Bv} {b : Bld} {A : Option Addr} {d : Nat → Int × Int × Int} (hn : b.Small) (hB : B ≤ w.heap.size) (hr : ReadB w B v b) (hl : n ≤ 1000000000) (hd : Deeds w B A n d) :
    Calls Try.prog 38 #[bval v b, .slice A n c] w (RunPost b d n w) := by
  cases hv : b.valid
  · exact impl_BuildRun_no hn hB hr hv
  · exact impl_BuildRun_yes hn hB hr hv hl hd
end Go.Proofs.Ytailpiagjemhpaa

namespace Go.Proofs.Ytailpiagjemhpaa
open Go.RowKit
set_option linter.unusedVariables false
set_option linter.unusedSimpArgs false

/-- A slice of deeds of the call's own: in a block from base on that may be written. -/
def DRow (w : World) (base : Nat) (A : Option Addr) (n : Nat) (d : Nat → Int × Int × Int) : Prop :=
  0 < n → ∃ b, A = some ⟨b, 0, none⟩ ∧ base ≤ b ∧ b < w.heap.size ∧ (∀ o, w.frozen? ⟨b, o, none⟩ = false) ∧
    ∀ i, i < n → w.cell? ⟨b, i * 3, none⟩ = some (.int .i64 (d i).1) ∧ w.cell? ⟨b, i * 3 + 1, none⟩ = some (.int .i64 (d i).2.1) ∧ w.cell? ⟨b, i * 3 + 2, none⟩ = some (.int .i64 (d i).2.2)
section
variable {w w' : World} {base : Nat} {A : Option Addr} {n : Nat} {d d' : Nat → Int × Int × Int}
theorem DRow.deeds (h : DRow w base A n d) : Deeds w w.heap.size A n d := by
  intro hn
  obtain ⟨b, hA, _, hb, _, hc⟩ := h hn
  exact ⟨b, 0, hA, hb, fun i hi => by simpa using hc i hi⟩
theorem DRow.keep (h : DRow w base A n d) (hs : w.heap.size ≤ w'.heap.size) (hb : ∀ x, A = some x → x.block < w.heap.size → w'.heap[x.block]? = w.heap[x.block]?) : DRow w' base A n d := by
  intro hn
  obtain ⟨b, hA, h1, h2, h3, hc⟩ := h hn
  have e := hb _ hA h2
  simp only at e
  refine ⟨b, hA, h1, by omega, fun o => ?_, fun i hi => ?_⟩
  · have := h3 o
    unfold World.frozen? at this ⊢
    simp only at this ⊢
    rw [e]; exact this
  · have f1 : ∀ o, w'.cell? ⟨b, o, none⟩ = w.cell? ⟨b, o, none⟩ := fun o => World.cell?_of_block (a := ⟨b, o, none⟩) e
    rw [f1, f1, f1]
    exact hc i hi
theorem DRow.below {B : Nat} (h : DRow w base A n d) (hb : Below B w w') (hB : w.heap.size ≤ B) : DRow w' base A n d :=
  h.keep hb.size fun x _ hx => hb.block _ (by omega)
theorem DRow.alloc (h : DRow w base A n d) (o : Obj) : DRow (w.alloc o) base A n d := h.below ((Below.refl _ _).alloc (Nat.le_refl _) o) (Nat.le_refl _)
theorem DRow.drew (h : DRow w base A n d) : DRow w.drew base A n d := h.below (Below.refl _ _).drew (Nat.le_refl _)
theorem DRow.within {lo hi : Nat} (h : DRow w base A n d) (hw : Within lo hi w w') (hA : 0 < n → ∀ x, A = some x → x.block < lo ∨ hi ≤ x.block) : DRow w' base A n d := by
  intro hn
  exact h.keep hw.size (fun x hx hl => hw.block _ hl (hA hn x hx)) hn
theorem DRow.place (h : DRow w base A n d) (hn : 0 < n) : ∀ x, A = some x → base ≤ x.block ∧ x.block < w.heap.size := by
  obtain ⟨b, hA, h1, h2, _⟩ := h hn
  intro x hx
  rw [hA] at hx; cases hx
  exact ⟨h1, h2⟩
end

/-- What the size of a building says, and that it is not more than was left. -/
def SzPost2 (b : Bld) (w : World) (e : Ending) (w' : World) : Prop :=
  ∃ x : Int, e = .returned (.int .i64 x) ∧ (x < 0 ∨ (0 ≤ x ∧ x ≤ 1048576 ∧ b.n ≤ 1048576 ∧ b.nu ≤ 1048576 ∧ b.nd ≤ 1048576 ∧ b.nc ≤ 1048576)) ∧ Below w.heap.size w w'
set_option maxHeartbeats 800000 in
theorem szBuilding_le {w : World} {v : Bv} {b : Bld} (hn : b.n ≤ 9223372036854775807) (n1 : b.nu ≤ 9223372036854775807) (n2 : b.nd ≤ 9223372036854775807) (n3 : b.nc ≤ 9223372036854775807) :
    Calls Try.prog 40 #[bval v b, .int .i64 1048576] w (SzPost2 b w) := by
  have HX0 := Lib.hid (Bx.new w (bcells v b) 65)
  have HB0 := Lib.hid ((Below.refl w.heap.size w).alloc (Nat.le_refl _) (.cells (bcells v b) 65))
  unfold bval bcells at *
  go_enter Try.func40, Try.ntmps40
  go_wp2_with fail
  refine (szIntS_any 1048576 (by omega) (by omega) hn).mono ?_
  rintro e w1 ⟨rfl, rfl⟩
  have g1 := sz_cases 1048576 b.n (by omega)
  generalize szOf 1048576 b.n = l1 at *
  rcases g1 with rfl | ⟨a1, a2, a3⟩
  · go_wp2
    go_ret
    exact ⟨-1, rfl, .inl (by omega), HB0.out⟩
  · go_wp2_with fail
    refine (szCalls_any l1 a1 (by omega) n1 n2 n3).mono ?_
    rintro e w2 ⟨x, rfl, hx, hb2⟩
    have HB2 := Lib.hid (HB0.out.trans (hb2.mono HB0.out.size))
    clear hb2 HB0 HX0
    rcases hx with hx0 | ⟨hx0, hx1, hx2, hx3, hx4⟩
    · go_wp2
      go_ret
      exact ⟨-1, rfl, .inl (by omega), HB2.out⟩
    · go_wp2
      go_ret
      exact ⟨x, rfl, .inr ⟨by omega, by omega, by omega, hx2, hx3, hx4⟩, HB2.out⟩

theorem szBuildDeedS_any {w : World} {A : Option Addr} {n c : Nat} (x : Int) (hx : 0 ≤ x ∧ x ≤ 1048576) (hn : n ≤ 9223372036854775807) :
    Calls Try.prog 56 #[.slice A n c, .int .i64 x] w fun e w' => ∃ y, e = .returned (.int .i64 y) ∧ (y = -1 ∨ (0 ≤ y ∧ y = x - n)) ∧ w = w' := by
  obtain ⟨x1, x2⟩ := hx
  by_cases h : x - (n : Int) < 0
  · go_enter Try.func56, Try.ntmps56
    go_wp2
    go_ret
    exact ⟨_, rfl, .inl rfl, rfl⟩
  · go_enter Try.func56, Try.ntmps56
    go_wp2
    go_ret
    exact ⟨_, rfl, .inr ⟨by omega, rfl⟩, rfl⟩

theorem toBuildDeed_any (a b c : Int) (w : World) : Calls Try.prog 102 #[.agg #[.int .i64 a, .int .i64 b, .int .i64 c]] w fun e w' => e = .returned (.agg #[.int .i64 a, .int .i64 b, .int .i64 c]) ∧ Below w.heap.size w w' := by
  go_enter Try.func102, Try.ntmps102
  go_wp2
  refine bodyPost_ret (v := .agg #[.int .i64 a, .int .i64 b, .int .i64 c]) (by simp [results, Try.results102, go_sem]) rfl ⟨rfl, ?_⟩
  repeat (refine below_set (by simp <;> omega) ?_)
  exact (((Below.refl w.heap.size w).alloc (Nat.le_refl _) _).alloc (by simp) _).alloc (by simp <;> omega) _

theorem eqBuildDeed_same (x : Int × Int × Int) (w : World) : Calls Try.prog 103 #[.agg #[.int .i64 x.1, .int .i64 x.2.1, .int .i64 x.2.2], .agg #[.int .i64 x.1, .int .i64 x.2.1, .int .i64 x.2.2]] w fun e w' => e = .returned (.bool true) ∧ Below w.heap.size w w' := by
  obtain ⟨a, b, c⟩ := x
  simp only
  go_enter Try.func103, Try.ntmps103
  go_wp2
  go_ret
  exact ⟨rfl, ((Below.refl w.heap.size w).alloc (Nat.le_refl _) _).alloc (by simp) _⟩

theorem Try.infoDeed : (Try.prog.info? 102).map (fun i => (i.zero, i.size, i.bytes)) = some (some (.agg #[.int .i64 0, .int .i64 0, .int .i64 0]), 3, 24) := by kernel_rfl
theorem makeD_run (n : Nat) (hn : n ≤ 1000000000) : ∃ MC : Array Value, (∀ o, o < n * 3 → MC[o]? = some (.int .i64 0)) ∧ ∀ w : World, (Instr.makeSlice 54 (.int .i64 (n : Int)) (.int .i64 (n : Int))).run Try.prog w = .ok (.slice (some ⟨w.heap.size, 0, none⟩) n n) (w.alloc (.cells MC 102)) := by
  obtain ⟨i0, hi, hz0, hz1, hz2⟩ := info_parts Try.infoDeed
  refine ⟨madeCells (Value.agg #[.int .i64 0, .int .i64 0, .int .i64 0]).cells (n * i0.size), fun o ho => ?_, fun w => ?_⟩
  · rw [hz1]
    have : o % 3 = 0 ∨ o % 3 = 1 ∨ o % 3 = 2 := by omega
    simp [madeCells, Value.cells, ho]
    rcases this with h | h | h <;> simp [h]
  · have hr := run_make (P := Try.prog) w 54 102 i0 (.agg #[.int .i64 0, .int .i64 0, .int .i64 0]) Try.underlying54 hi hz0 .i64 .i64 n n (by omega) (Int.le_refl _) (by rw [hz2]; omega) (by omega)
    simp only [Int.toNat_natCast] at hr
    exact hr
theorem DRow.made {w : World} {n : Nat} {MC : Array Value} (hM : ∀ o, o < n * 3 → MC[o]? = some (.int .i64 0)) : DRow (w.alloc (.cells MC 102)) w.heap.size (some ⟨w.heap.size, 0, none⟩) n (fun _ => (0, 0, 0)) := by
  intro hn
  have hx := Bx.new w MC 102
  refine ⟨w.heap.size, rfl, Nat.le_refl _, hx.lt, fun o => hx.free o, fun i hi => ?_⟩
  rw [hx.cells, hx.cells, hx.cells]
  exact ⟨hM _ (by omega), hM _ (by omega), hM _ (by omega)⟩
theorem DRow.set {w : World} {base b n k : Nat} {d : Nat → Int × Int × Int} (h : DRow w base (some ⟨b, 0, none⟩) n d) (hk : k < n) (x y z : Int) :
    DRow (((w.setCell ⟨b, k * 3, none⟩ (.int .i64 x)).setCell ⟨b, k * 3 + 1, none⟩ (.int .i64 y)).setCell ⟨b, k * 3 + 2, none⟩ (.int .i64 z)) base (some ⟨b, 0, none⟩) n (fun i => if i = k then (x, y, z) else d i) := by
  intro hn
  obtain ⟨b', hA, h1, h2, h3, hc⟩ := h hn
  cases hA
  refine ⟨b, rfl, h1, by simpa using h2, fun o => by rw [World.frozen?_setCell, World.frozen?_setCell, World.frozen?_setCell]; exact h3 o, fun i hi => ?_⟩
  obtain ⟨e1, e2, e3⟩ := hc i hi
  by_cases e : i = k
  · subst e
    simp only [if_true]
    have q1 : (w.setCell ⟨b, i * 3, none⟩ (.int .i64 x)).cell? ⟨b, i * 3, none⟩ = some (.int .i64 x) := World.cell?_setCell_same w _ _ e1
    have q2 : (w.setCell ⟨b, i * 3, none⟩ (.int .i64 x)).cell? ⟨b, i * 3 + 1, none⟩ = some (.int .i64 (d i).2.1) := (World.cell?_setCell_other w _ _ _ (fun e => by simp at e)).trans e2
    have q3 : (w.setCell ⟨b, i * 3, none⟩ (.int .i64 x)).cell? ⟨b, i * 3 + 2, none⟩ = some (.int .i64 (d i).2.2) := (World.cell?_setCell_other w _ _ _ (fun e => by simp at e)).trans e3
    have r1 : ((w.setCell ⟨b, i * 3, none⟩ (.int .i64 x)).setCell ⟨b, i * 3 + 1, none⟩ (.int .i64 y)).cell? ⟨b, i * 3, none⟩ = some (.int .i64 x) := (World.cell?_setCell_other _ _ _ _ (fun e => by simp at e)).trans q1
    have r2 : ((w.setCell ⟨b, i * 3, none⟩ (.int .i64 x)).setCell ⟨b, i * 3 + 1, none⟩ (.int .i64 y)).cell? ⟨b, i * 3 + 1, none⟩ = some (.int .i64 y) := World.cell?_setCell_same _ _ _ q2
    have r3 : ((w.setCell ⟨b, i * 3, none⟩ (.int .i64 x)).setCell ⟨b, i * 3 + 1, none⟩ (.int .i64 y)).cell? ⟨b, i * 3 + 2, none⟩ = some (.int .i64 (d i).2.2) := (World.cell?_setCell_other _ _ _ _ (fun e => by simp at e)).trans q3
    exact ⟨(World.cell?_setCell_other _ _ _ _ (fun e => by simp at e)).trans r1, (World.cell?_setCell_other _ _ _ _ (fun e => by simp at e)).trans r2, World.cell?_setCell_same _ _ _ r3⟩
  · simp only [if_neg e]
    refine ⟨?_, ?_, ?_⟩
    · rw [World.cell?_setCell_other _ _ _ _ (fun e => by simp at e <;> omega), World.cell?_setCell_other _ _ _ _ (fun e => by simp at e <;> omega), World.cell?_setCell_other _ _ _ _ (fun e => by simp at e <;> omega)]; exact e1
    · rw [World.cell?_setCell_other _ _ _ _ (fun e => by simp at e <;> omega), World.cell?_setCell_other _ _ _ _ (fun e => by simp at e <;> omega), World.cell?_setCell_other _ _ _ _ (fun e => by simp at e <;> omega)]; exact e2
    · rw [World.cell?_setCell_other _ _ _ _ (fun e => by simp at e <;> omega), World.cell?_setCell_other _ _ _ _ (fun e => by simp at e <;> omega), World.cell?_setCell_other _ _ _ _ (fun e => by simp at e <;> omega)]; exact e3

set_option maxHeartbeats 3200000 in
theorem toBuildDeedS_any {w : World} {B n c : Nat} {A : Option Addr} {d : Nat → Int × Int × Int} (hn : n ≤ 1000000000) (hB : B ≤ w.heap.size) (hs : Deeds w B A n d) :
    Calls Try.prog 57 #[.slice A n c] w fun e w' => ∃ A' c', e = .returned (.slice A' n c') ∧ DRow w' w.heap.size A' n d ∧ Below w.heap.size w w' := by
  obtain ⟨MC, hM, hmk⟩ := makeD_run n hn
  have HM := Lib.hid (DRow.made (w := w) hM)
  have HB0 := Lib.hid ((Below.refl w.heap.size w).alloc (Nat.le_refl _) (.cells MC 102))
  have HS := Lib.hid hs
  clear hM hs
  go_enter Try.func57, Try.ntmps57
  go_wp2
  go_loopw [4] (fun s4 wr => ∃ k : Nat, s4 = .int .i64 k ∧ k ≤ n ∧ Hid (DRow wr w.heap.size (some ⟨w.heap.size, 0, none⟩) n (fun i => if i < k then d i else (0, 0, 0))) ∧ Hid (Below w.heap.size w wr)) (fun s4 _ => n - (intOf s4).toNat)
  case atStart => exact ⟨0, rfl, by omega, Lib.hid (by simpa using HM.out), HB0⟩
  case round =>
    obtain ⟨k, rfl, hk, HD, HB⟩ := hrel
    clear HM HB0 hmk
    by_cases hlt : k < n
    · obtain ⟨bd, od, rfl, hbd, gd⟩ := HS.out.below (HB.out.mono hB) (by omega)
      obtain ⟨e1, e2, e3⟩ := gd k hlt
      have HDn : Hid (∀ W, DRow W w.heap.size (some ⟨w.heap.size, 0, none⟩) n (fun i => if i = k then d k else if i < k then d i else (0, 0, 0)) → DRow W w.heap.size (some ⟨w.heap.size, 0, none⟩) n (fun i => if i < k + 1 then d i else (0, 0, 0))) := Lib.hid (fun W h => by
        have : (fun i => if i = k then d k else if i < k then d i else ((0 : Int), (0 : Int), (0 : Int))) = (fun i => if i < k + 1 then d i else (0, 0, 0)) := by
          funext i
          by_cases e : i = k
          · subst e; simp
          · have : (i < k + 1) = (i < k) := by simp; omega
            simp [e, this]
        rw [← this]; exact h)
      clear gd
      generalize d k = x at *
      obtain ⟨a, b, c0⟩ := x
      simp only at e1 e2 e3
      go_wp2_with fail
      refine (toBuildDeed_any a b c0 _).mono ?_
      rintro e w5 ⟨rfl, hb5⟩
      have HB5 := Lib.hid (HB.out.trans (hb5.mono HB.out.size))
      have HD5 := Lib.hid (HD.out.below hb5 (Nat.le_refl _))
      clear hb5 HB HD
      obtain ⟨b', hA, _, _, r0, rc⟩ := HD5.out (by omega)
      cases hA
      have r1 := r0 (k * 3)
      have r2 := r0 (k * 3 + 1)
      have r3 := r0 (k * 3 + 2)
      obtain ⟨s1, s2, s3⟩ := rc k hlt
      clear r0 rc
      have HN := Lib.hid (HDn.out _ (HD5.out.set hlt a b c0))
      go_wp2
      go_roundw
      case rel => exact ⟨k + 1, by go_num, by omega, HN, Lib.hid (((HB5.out.setCell (by simp) _).setCell (by simp) _).setCell (by simp) _)⟩
      case measure => simp [intOf]; omega
    · obtain rfl : k = n := by omega
      go_wp2
      go_ret
      refine ⟨_, _, rfl, ?_, HB.out⟩
      intro hn0
      obtain ⟨b', hA, h1, h2, h3, hc⟩ := HD.out hn0
      refine ⟨b', hA, h1, h2, h3, fun i hi => ?_⟩
      have := hc i hi
      simpa [hi] using this

set_option maxHeartbeats 3200000 in
theorem eqBuildDeedS_same {w : World} {B B' n c c' : Nat} {A A' : Option Addr} {d : Nat → Int × Int × Int} (hn : n ≤ 1000000000) (hB : B ≤ w.heap.size) (hB' : B' ≤ w.heap.size) (hs : Deeds w B A n d) (hs' : Deeds w B' A' n d) :
    Calls Try.prog 58 #[.slice A n c, .slice A' n c'] w fun e w' => e = .returned (.bool true) ∧ Below w.heap.size w w' := by
  have HS := Lib.hid hs
  have HS' := Lib.hid hs'
  have HB0 := Lib.hid (Below.refl w.heap.size w)
  clear hs hs'
  go_enter Try.func58, Try.ntmps58
  go_wp2
  go_loopw [5] (fun s5 wr => ∃ k : Nat, s5 = .int .i64 k ∧ k ≤ n ∧ Hid (Below w.heap.size w wr)) (fun s5 _ => n - (intOf s5).toNat)
  case atStart => exact ⟨0, rfl, by omega, HB0⟩
  case round =>
    obtain ⟨k, rfl, hk, HB⟩ := hrel
    clear HB0
    by_cases hlt : k < n
    · have HF : Hid (∀ W, Below w.heap.size w W → (∃ b o b' o', A = some ⟨b, o, none⟩ ∧ A' = some ⟨b', o', none⟩ ∧ ∀ W, Below w.heap.size w W → (W.cell? ⟨b, o + k * 3, none⟩ = some (.int .i64 (d k).1) ∧ W.cell? ⟨b, o + k * 3 + 1, none⟩ = some (.int .i64 (d k).2.1) ∧ W.cell? ⟨b, o + k * 3 + 2, none⟩ = some (.int .i64 (d k).2.2)) ∧
          (W.cell? ⟨b', o' + k * 3, none⟩ = some (.int .i64 (d k).1) ∧ W.cell? ⟨b', o' + k * 3 + 1, none⟩ = some (.int .i64 (d k).2.1) ∧ W.cell? ⟨b', o' + k * 3 + 2, none⟩ = some (.int .i64 (d k).2.2)))) := Lib.hid (by
        intro W0 _
        obtain ⟨b, o, hA, _, _⟩ := HS.out (by omega)
        obtain ⟨b', o', hA', _, _⟩ := HS'.out (by omega)
        refine ⟨b, o, b', o', hA, hA', fun W hW => ⟨?_, ?_⟩⟩
        · obtain ⟨b1, o1, h1, _, g1⟩ := HS.out.below (hW.mono hB) (by omega)
          rw [hA] at h1; cases h1
          exact g1 k hlt
        · obtain ⟨b1, o1, h1, _, g1⟩ := HS'.out.below (hW.mono hB') (by omega)
          rw [hA'] at h1; cases h1
          exact g1 k hlt)
      obtain ⟨b, o, b', o', rfl, rfl, hF⟩ := HF.out _ HB.out
      have HF2 := Lib.hid hF
      have HE := Lib.hid (eqBuildDeed_same (d k))
      have hd := HF2.out _ HB.out.drew
      clear HF hF HS HS'
      generalize d k = x at *
      obtain ⟨x1, x2, x3⟩ := x
      simp only at hd
      obtain ⟨⟨a1, a2, a3⟩, ⟨a4, a5, a6⟩⟩ := hd
      go_wp2
      go_region_held3 (fun w' => (w'.cell? ⟨b, o + k * 3, none⟩ = some (.int .i64 x1) ∧ w'.cell? ⟨b, o + k * 3 + 1, none⟩ = some (.int .i64 x2) ∧ w'.cell? ⟨b, o + k * 3 + 2, none⟩ = some (.int .i64 x3)) ∧ (w'.cell? ⟨b', o' + k * 3, none⟩ = some (.int .i64 x1) ∧ w'.cell? ⟨b', o' + k * 3 + 1, none⟩ = some (.int .i64 x2) ∧ w'.cell? ⟨b', o' + k * 3 + 2, none⟩ = some (.int .i64 x3)))
        (first | exact HF2.out _ HB.out.drew | exact HF2.out _ HB5.out)
        ((go_at_call 103; (with_reducible refine (HE.out wr.drew).mono ?_); rintro e w5 ⟨rfl, hb5⟩; have HB5 := Lib.hid (HB.out.drew.trans (hb5.mono HB.out.size))))
      all_goals clear hb5 a1 a2 a3 a4 a5 a6
      all_goals go_wp2
      all_goals
        go_roundw
        case rel => exact ⟨k + 1, by go_num, by omega, HB5⟩
        case measure => simp [intOf]; omega
    · obtain rfl : k = n := by omega
      go_wp2
      go_ret
      exact ⟨rfl, HB.out⟩

set_option maxHeartbeats 3200000 in
theorem markBuildDeedS_any {w : World} {base lo hi n c : Nat} {A : Option Addr} {d : Nat → Int × Int × Int} (k0 : Int) (hn : n ≤ 1000000000) (h0 : 0 ≤ k0) (h1 : k0 ≤ 100000000000) (hs : DRow w base A n d) (hA : 0 < n → ∀ x, A = some x → lo ≤ x.block ∧ x.block < hi) :
    Calls Try.prog 59 #[.slice A n c, .int .i64 k0] w fun e w' => e = .returned (.int .i64 (k0 + 3 * n)) ∧ Within lo hi w w' := by
  have HS := Lib.hid hs
  have HA := Lib.hid hA
  have HW0 := Lib.hid (Within.refl lo hi w)
  clear hs hA
  go_enter Try.func59, Try.ntmps59
  go_wp2
  go_loopw [1, 5] (fun s1 s5 wr => ∃ (k : Nat) (d' : Nat → Int × Int × Int), s5 = .int .i64 k ∧ s1 = .int .i64 (k0 + 3 * k) ∧ k ≤ n ∧ Hid (DRow wr base A n d') ∧ Hid (Within lo hi w wr)) (fun _ s5 _ => n - (intOf s5).toNat)
  case atStart => exact ⟨0, d, rfl, by simp, by omega, HS, HW0⟩
  case round =>
    obtain ⟨k, d', rfl, rfl, hk, HD, HW⟩ := hrel
    clear HS HW0
    by_cases hlt : k < n
    · obtain ⟨b, rfl, _, _, r0, rc⟩ := HD.out (by omega)
      have hb := HA.out (by omega) _ rfl
      simp only at hb
      have r1 := r0 (k * 3)
      have r2 := r0 (k * 3 + 1)
      have r3 := r0 (k * 3 + 2)
      obtain ⟨s1, s2, s3⟩ := rc k hlt
      clear r0 rc
      have HN := Lib.hid (HD.out.set hlt (k0 + 3 * k) (k0 + 3 * k + 1) (k0 + 3 * k + 1 + 1))
      have hw : ∀ (W : World) (o : Nat) (v : Value), Within lo hi W (W.setCell ⟨b, o, none⟩ v) := fun W o v => ⟨rfl, rfl, rfl, by simp, fun j hj hne => Below.heap_setCell _ _ _ _ (by intro e; have e2 : j = b := e; omega)⟩
      have HWn := Lib.hid (((HW.out.trans (hw wr (k * 3) (.int .i64 (k0 + 3 * k)))).trans (hw _ (k * 3 + 1) (.int .i64 (k0 + 3 * k + 1)))).trans (hw _ (k * 3 + 2) (.int .i64 (k0 + 3 * k + 1 + 1))))
      clear hw
      go_wp2
      go_roundw
      case rel => exact ⟨k + 1, _, by go_num, by go_num, by omega, HN, HWn⟩
      case measure => simp [intOf]; omega
    · obtain rfl : k = n := by omega
      go_wp2
      go_ret
      exact ⟨rfl, HW.out⟩
end Go.Proofs.Ytailpiagjemhpaa

namespace Go.Proofs.Ytailpiagjemhpaa
open Go.ChangeShapes Go.WideShapes Go.ChangeAt Go.RowKit Go.Deep
set_option linter.unusedVariables false
set_option linter.unusedSimpArgs false

section
variable {H : Type} {enc : TypeId × Value → H} {P : Program} {w : World} {base : Nat} {spare : Nat → Bool} {held : Bool}
theorem open_slice_fields {t e : TypeId} {fs : Array Field} {fuel : Nat} {cs : List Value} {x : DataW H × List MemPlace} (ht : P.underlying t = some (.slice e)) (he : P.underlying e = some (.struct fs))
    (hone : oneCellFields P fs = true) (hC : P.cellsOf e = fs.size) (h : DataW.trod enc P w base spare held fuel t cs = some x) :
    (cs = [.slice none 0 0] ∧ x = (.nil, [])) ∨
    ∃ (a : Addr) (len cap m : Nat) (D : Nat → DataW H) (Pl : Nat → List MemPlace), cs = [.slice (some a) len cap] ∧ base ≤ a.block ∧ len ≤ cap ∧ cap ≤ maxLen ∧ m = (if spare a.block then cap else len) ∧
      x = (.slice ((List.range len).map D) ((List.range (m - len)).map fun j => D (len + j)), MemPlace.row a (m * fs.size) ++ (List.range m).flatMap Pl) ∧
      ∀ i, i < m → ∃ (ys : List (DataW H × List MemPlace)) (n : Nat), D i = .agg (ys.map (·.1)) ∧ Pl i = ys.flatMap (·.2) ∧ ys.length = fs.size ∧
        ∀ (j : Nat) (f : Field), fs[j]? = some f → ∃ (v : Value) (y : DataW H × List MemPlace), w.cell? (a.add (i * fs.size + j)) = some v ∧ ys[j]? = some y ∧ DataW.trod enc P w base spare held n f.type [v] = some y := by
  rcases open_slice ht h with h0 | ⟨a, len, cap, m, n, D, Pl, hcs, hb, hl, hm, hmm, hx, hi⟩
  · exact .inl h0
  · refine .inr ⟨a, len, cap, m, D, Pl, hcs, hb, hl, hm, hmm, by rw [hC] at hx; exact hx, fun i him => ?_⟩
    obtain ⟨cs', hc, ht'⟩ := hi i him
    rw [hC] at hc
    obtain ⟨ys, n', hn', hy, hlen, hyl, hf⟩ := DataW.trod_struct he ht'
    obtain ⟨_, hcl, hat⟩ := World.cells?_some hc
    simp only [Prod.mk.injEq] at hy
    refine ⟨ys, n', hy.1, hy.2, hyl, fun j f hj => ?_⟩
    obtain ⟨ho, hk⟩ := hone_of hone j f hj
    have hjl : j < fs.size := (Array.getElem?_eq_some_iff.1 hj).1
    have hcell := hat j hjl
    have hv : cs'[j]? = some (cs'[j]'(by omega)) := List.getElem?_eq_getElem (by omega)
    have h1 := hf j f hj
    rw [ho, hk] at h1
    have hone' : (cs'.drop j).take 1 = [cs'[j]'(by omega)] := by
      rw [List.drop_eq_getElem_cons (by omega)]
      rfl
    rw [hone'] at h1
    have hys : ys[j]? = some (ys[j]'(by omega)) := List.getElem?_eq_getElem (by omega)
    refine ⟨_, _, ?_, hys, h1.trans hys⟩
    rw [← Go.Deep.add_add, hcell, hv]
end
def numAt (w : World) (p : Addr) : Int := match w.cell? p with
  | some (.int _ n) => n
  | _ => 0
theorem numAt_of {w : World} {p : Addr} {n : Int} (h : w.cell? p = some (.int .i64 n)) : w.cell? p = some (.int .i64 (numAt w p)) := by
  unfold numAt; rw [h]
section
variable {H : Type} {enc : TypeId × Value → H} {w : World}
set_option maxRecDepth 100000 in
theorem open_deeds {base : Nat} {v0 : Value} {d : DataW H} {p : List MemPlace} (hval : Value.okWide Try.prog w .any base 74 v0) (h : DataW.Trod enc Try.prog w 0 (fun _ => true) true 74 v0 d p) :
    ∃ (A : Option Addr) (n c : Nat) (dd : Nat → Int × Int × Int), v0 = .slice A n c ∧ n ≤ 9223372036854775807 ∧ Deeds w w.heap.size A n dd := by
  obtain ⟨a, len, cap, rfl⟩ := okWide_slice Try.underlying74 hval
  obtain ⟨fuel, hf⟩ := h
  rcases open_slice_fields Try.underlying74 Try.underlying112 (by kernel_rfl) (by kernel_rfl) hf with ⟨hcs, _⟩ | ⟨x, l, c, m, D, Pl, hcs, hb, hl, hm, hmm, _, hi⟩
  · simp [Value.cells] at hcs
    obtain ⟨rfl, rfl, rfl⟩ := hcs
    exact ⟨none, 0, 0, fun _ => (0, 0, 0), rfl, by omega, fun h => absurd h (by omega)⟩
  · simp [Value.cells] at hcs
    obtain ⟨rfl, rfl, rfl⟩ := hcs
    simp at hmm
    subst hmm
    have each : ∀ i, i < len → (∃ n, w.cell? (x.add (i * 3)) = some (.int .i64 n)) ∧ (∃ n, w.cell? (x.add (i * 3 + 1)) = some (.int .i64 n)) ∧ ∃ n, w.cell? (x.add (i * 3 + 2)) = some (.int .i64 n) := by
      intro i h
      obtain ⟨ys, k, _, _, _, hf⟩ := hi i (by omega)
      obtain ⟨v0, y0, c0, _, t0⟩ := hf 0 _ rfl
      obtain ⟨v1, y1, c1, _, t1⟩ := hf 1 _ rfl
      obtain ⟨v2, y2, c2, _, t2⟩ := hf 2 _ rfl
      obtain ⟨n0, rfl⟩ := open_int_cell t0
      obtain ⟨n1, rfl⟩ := open_int_cell t1
      obtain ⟨n2, rfl⟩ := open_int_cell t2
      exact ⟨⟨n0, c0⟩, ⟨n1, c1⟩, ⟨n2, c2⟩⟩
    refine ⟨some x, len, _, fun i => (numAt w (x.add (i * 3)), numAt w (x.add (i * 3 + 1)), numAt w (x.add (i * 3 + 2))), rfl, by unfold maxLen at hm; omega, fun hn => ?_⟩
    obtain ⟨⟨z, hz⟩, _⟩ := each 0 hn
    obtain ⟨b, off, spot⟩ := x
    have hs : spot = none := by simpa [Addr.add] using World.cell?_spot hz
    subst hs
    refine ⟨b, off, rfl, ?_, fun i hi => ?_⟩
    · have := World.block_lt_of_cell? w _ hz
      simpa [Addr.add] using this
    · obtain ⟨⟨z0, h0⟩, ⟨z1, h1⟩, ⟨z2, h2⟩⟩ := each i hi
      have g0 := numAt_of h0
      have g1 := numAt_of h1
      have g2 := numAt_of h2
      rw [Addr.add_lit] at g0 g1 g2
      simp only [Addr.add_lit]
      exact ⟨g0, by simpa [Nat.add_assoc] using g1, by simpa [Nat.add_assoc] using g2⟩
end
end Go.Proofs.Ytailpiagjemhpaa
