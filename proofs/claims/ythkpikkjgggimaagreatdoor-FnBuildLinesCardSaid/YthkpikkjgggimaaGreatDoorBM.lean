/-
  Texts RegL, LineI, LineS in one. No claim stands here.
-/
import Derived.Test.YthkpikkjgggimaaGreatDoorBK
import Derived.Test.YthkpikkjgggimaaGreatDoorRest2
import Derived.Test.YthkpikkjgggimaaGreatDoorAsk2
import Derived.Test.YthkpikkjgggimaaGreatDoorTick3
namespace Go.Proofs.YthkpikkjgggimaaGreatDoor
open Go.RowKit
set_option linter.unusedVariables false
set_option linter.unusedSimpArgs false

theorem code_at {P : Program} {c : Code} {Q : Exit → Act → World → Prop} {a : Act} {W W' : World} (h : W = W') (hc : Code.wp P c Q a W) : Code.wp P c Q a W' := by
  subst h; exact hc
theorem cut_small (s : ByteArray) : (cutW s).size ≤ s.size ∧ (cutR s).size ≤ s.size := by
  have hl : s.data.toList.length = s.size := by simp
  unfold cutW cutR
  rcases cut_cases s.data.toList with ⟨_, h2⟩ | ⟨p, r, h1, _, h3⟩
  · rw [h2, size_mk, size_mk]
    exact ⟨by omega, Nat.zero_le _⟩
  · rw [h3, size_mk, size_mk]
    have hl2 := congrArg List.length h1
    rw [hl, List.length_append, List.length_cons] at hl2
    show p.length ≤ s.size ∧ r.length ≤ s.size
    omega
theorem Cut_any (s : ByteArray) (hs : s.size ≤ 1048576) {w : World} (h : Here w) :
    Calls Tryz.prog 47 #[.string s, .string ⟨#[32]⟩] w fun e w' => e = .returned (.tuple #[.string (cutW s), .string (cutR s), .bool (cutOk s)]) ∧ Below w.heap.size w w' := by
  refine (Tryz.strings_Cut_shaped s ⟨#[32]⟩ w h.s (by omega)).mono ?_
  rintro e w' ⟨rfl, n, rfl⟩
  exact ⟨rfl, below_drewN (Below.refl _ _) n⟩

theorem wordN_range (s : ByteArray) : 0 ≤ wordN s ∧ wordN s ≤ 999 := by
  unfold wordN
  split
  · rename_i h
    simp only [wordOk, Bool.and_eq_true, decide_eq_true_eq] at h
    have := numTo_1000 (k := s.size) h.1.1.2 h.2
    omega
  · omega
/-- What a line leaves. -/
def LinePost (b : Bld) (s : ByteArray) (w : World) (e : Ending) (w' : World) : Prop :=
  ∃ v', e = .returned (.tuple #[bval v' (b.lined s), .string ⟨(b.says s).toArray⟩]) ∧ OwnB w' w.heap.size v' (b.lined s) ∧ Below w.heap.size w w'

/-- The frame of the region: the building's box, the result's box. -/
structure LnG (w : World) (g0 g1 : Nat) (xs : Array Value) (K : World → Prop) (W : World) : Prop where
  x0 : Bx W g0 xs
  x1 : ∃ a0 a1 a2 a3 a4 a5 a6 a7 a8 a9 a10 : Value, Bx W g1 #[a0, a1, a2, a3, a4, a5, a6, a7, a8, a9, a10]
  k : K W
  b : Below w.heap.size w W
  hh : Here W
section
variable {w W W' : World} {g0 g1 base : Nat} {xs : Array Value} {K : World → Prop}
theorem LnG.below (h : LnG w g0 g1 xs K W) (hK : ∀ U U', Below U.heap.size U U' → K U → K U') (hb : Below W.heap.size W W') : LnG w g0 g1 xs K W' := by
  obtain ⟨a0, a1, a2, a3, a4, a5, a6, a7, a8, a9, a10, h1⟩ := h.x1
  exact ⟨h.x0.below hb h.x0.lt, ⟨_, _, _, _, _, _, _, _, _, _, _, h1.below hb h1.lt⟩, hK _ _ hb h.k, h.b.trans (hb.mono h.b.size), h.hh.below hb⟩
theorem LnG.drewN (h : LnG w g0 g1 xs K W) (hK : ∀ U U', Below U.heap.size U U' → K U → K U') (n : Nat) : LnG w g0 g1 xs K (W.drewN n) := h.below hK (below_drewN (Below.refl _ _) n)
theorem Here.sets (h : Here w) (hb : Below w.heap.size w W) (g : Nat) (hg : w.heap.size ≤ g) (v : Bv) (b : Bld) : Here (sets W (putL g v b)) :=
  h.below (sets_below _ hb (fun q hq => by rw [putL_block q hq]; exact hg))
theorem LnG.stored (h0 : Here w) (h : LnG w g0 g1 xs K W) (hK : ∀ U v b, K U → K (sets U (putL g1 v b))) (hne : g0 ≠ g1) (hg : w.heap.size ≤ g1) (v : Bv) (b : Bld) :
    LnG w g0 g1 xs K (sets W (putL g1 v b)) ∧ Bx (sets W (putL g1 v b)) g1 (bcells v b) := by
  obtain ⟨a0, a1, a2, a3, a4, a5, a6, a7, a8, a9, a10, h1⟩ := h.x1
  have hb := sets_below (putL g1 v b) h.b (fun q hq => by rw [putL_block q hq]; exact hg)
  have hx := h1.put v b
  exact ⟨⟨sets_bx _ h.x0 (fun q hq => by rw [putL_block q hq]; exact Ne.symm hne), ⟨_, _, _, _, _, _, _, _, _, _, _, hx⟩, hK _ v b h.k, hb, h0.below hb⟩, hx⟩
theorem own_sets {v v' : Bv} {b b' : Bld} (h : OwnB W base v b) (hg : g1 < base) : OwnB (sets W (putL g1 v' b')) base v b := sets_own _ h (fun q hq => by rw [putL_block q hq]; exact hg)
end

/-- What the operations of the region leave: a building is made from the one in the box (m tells whether), a number or a text is asked, a text is made. -/
def LnR (base g1 : Nat) (vb : Value) (b' : Bld) (x : Value) (tx : ByteArray) : Nat → Value → World → Prop
  | 0, v, _ => v = vb
  | 1, v, W => ∃ v', v = bval v' b' ∧ OwnB W base v' b'
  | 2, v, _ => v = vb
  | 3, v, _ => v = x
  | 4, v, _ => v = .string tx
  | 5, _, W => ∃ v', Bx W g1 (bcells v' b') ∧ OwnB W base v' b'
  | 6, v, _ => v = .string tx
  | _, _, _ => True
theorem LnR.below {base g1 : Nat} {vb x : Value} {b' : Bld} {tx : ByteArray} {W W' : World} (hb : Below W.heap.size W W') : ∀ j v, LnR base g1 vb b' x tx j v W → LnR base g1 vb b' x tx j v W' := by
  intro j v h
  unfold LnR at h ⊢
  split at h
  all_goals first
    | with_reducible exact h
    | (obtain ⟨v', h1, h2⟩ := h; with_reducible exact ⟨v', Bx.below h1 hb (Bx.lt h1), ownB_below h2 hb⟩)
    | (obtain ⟨v', h1, h2⟩ := h; with_reducible exact ⟨v', h1, ownB_below h2 hb⟩)
theorem LnR.stored {base g1 : Nat} {vb x : Value} {b' : Bld} {tx : ByteArray} {W : World} (hg : g1 < base) (v0 : Bv) (b0 : Bld) : ∀ j v, j ≠ 5 → LnR base g1 vb b' x tx j v W → LnR base g1 vb b' x tx j v (sets W (putL g1 v0 b0)) := by
  intro j v hj h
  unfold LnR at h ⊢
  split at h
  all_goals first
    | with_reducible exact h
    | (obtain ⟨v', h1, h2⟩ := h; with_reducible exact ⟨v', h1, own_sets h2 hg⟩)
    | exact absurd rfl hj

/-- The same for a region in which the building stays. -/
def LnS (g1 : Nat) (vb : Value) (cs : Array Value) (s tx : ByteArray) : Nat → Value → World → Prop
  | 0, v, _ => v = vb
  | 1, v, _ => v = vb
  | 2, v, _ => v = .string s
  | 3, v, _ => v = .string tx
  | 4, _, W => Bx W g1 cs
  | 5, v, _ => v = .string tx
  | _, _, _ => True
theorem LnS.below {g1 : Nat} {vb : Value} {cs : Array Value} {s tx : ByteArray} {W W' : World} (hb : Below W.heap.size W W') : ∀ j v, LnS g1 vb cs s tx j v W → LnS g1 vb cs s tx j v W' := by
  intro j v h
  unfold LnS at h ⊢
  split at h
  all_goals first
    | with_reducible exact h
    | with_reducible exact Bx.below h hb (Bx.lt h)
theorem LnS.stored {g1 : Nat} {vb : Value} {cs : Array Value} {s tx : ByteArray} {W : World} (v0 : Bv) (b0 : Bld) : ∀ j v, j ≠ 4 → LnS g1 vb cs s tx j v W → LnS g1 vb cs s tx j v (sets W (putL g1 v0 b0)) := by
  intro j v hj h
  unfold LnS at h ⊢
  split at h
  all_goals first
    | with_reducible exact h
    | exact absurd rfl hj
end Go.Proofs.YthkpikkjgggimaaGreatDoor

namespace Go.Proofs.YthkpikkjgggimaaGreatDoor
open Go.RowKit
set_option linter.unusedVariables false
set_option linter.unusedSimpArgs false

set_option maxRecDepth 100000 in
set_option maxHeartbeats 6400000 in
theorem impl_BuildLine_no {w : World} {B : Nat} {v : Bv} {b : Bld} (s : ByteArray) (hn : b.Small) (hB : B ≤ w.heap.size) (hr : ReadB w B v b) (hv : b.valid = false) :
    Calls Tryz.prog 15 #[bval v b, .string s] w (LinePost b s w) := by
  have HR := Lib.hid hr
  have HSm := Lib.hid hn
  have HV := Lib.hid hv
  have HE := Lib.hid (lined_no (s := s) hv)
  obtain ⟨m0, m1, m2, m3⟩ := hn
  clear hr hv
  unfold bval bcells LinePost
  go_enter Tryz.func15, Tryz.ntmps15
  go_wp2_with fail
  refine (impl_BuildValid (v := v) (b := b) HSm.out (Nat.le_trans hB (by simp <;> omega)) ((HR.out.alloc hB _).alloc (Nat.le_trans hB (by simp <;> omega)) _)).mono ?_
  rintro e w1 ⟨rfl, hb1⟩
  obtain ⟨x, y, hbb, hs1⟩ := boxes2' hb1
  have HB1 := Lib.hid hbb
  have c1 := y.cells
  have z1 := y.free
  clear hb1 x y hbb
  rw [HV.out]
  go_wp2
  refine bodyPost_ret (v := .tuple #[bval Bv.none Bld.none, .string ⟨#[]⟩]) (by simp [bval, bcells, Bv.none, Bld.none, results, Tryz.results15, go_sem, c1]) rfl ⟨Bv.none, by rw [HE.out.1, HE.out.2], ?_, ?_⟩
  · rw [HE.out.1]
    exact own_none _ _
  · repeat (refine below_set (by simp <;> omega) ?_)
    exact HB1.out
set_option maxRecDepth 100000 in
set_option maxHeartbeats 6400000 in
theorem spec_BuildLine_no {w : World} {B : Nat} {v : Bv} {b : Bld} (s : ByteArray) (hn : b.Small) (hB : B ≤ w.heap.size) (hr : ReadB w B v b) (hv : b.valid = false) :
    Calls Tryz.prog 17 #[bval v b, .string s] w (LinePost b s w) := by
  have HR := Lib.hid hr
  have HSm := Lib.hid hn
  have HV := Lib.hid hv
  have HE := Lib.hid (lined_no (s := s) hv)
  obtain ⟨m0, m1, m2, m3⟩ := hn
  clear hr hv
  unfold bval bcells LinePost
  go_enter Tryz.func17, Tryz.ntmps17
  go_wp2_with fail
  refine (spec_BuildValid (v := v) (b := b) HSm.out (Nat.le_trans hB (by simp <;> omega)) ((HR.out.alloc hB _).alloc (Nat.le_trans hB (by simp <;> omega)) _)).mono ?_
  rintro e w1 ⟨rfl, hb1⟩
  obtain ⟨x, y, hbb, hs1⟩ := boxes2' hb1
  have HB1 := Lib.hid hbb
  have c1 := y.cells
  have z1 := y.free
  clear hb1 x y hbb
  rw [HV.out]
  go_wp2
  refine bodyPost_ret (v := .tuple #[bval Bv.none Bld.none, .string ⟨#[]⟩]) (by simp [bval, bcells, Bv.none, Bld.none, results, Tryz.results17, go_sem, c1]) rfl ⟨Bv.none, by rw [HE.out.1, HE.out.2], ?_, ?_⟩
  · rw [HE.out.1]
    exact own_none _ _
  · repeat (refine below_set (by simp <;> omega) ?_)
    exact HB1.out

set_option maxRecDepth 100000 in
set_option maxHeartbeats 12800000 in
theorem impl_BuildLine_yes {w : World} {B : Nat} {v : Bv} {b : Bld} (s : ByteArray) (hs : s.size ≤ 1048576) (hn : b.Small) (hB : B ≤ w.heap.size) (hr : ReadB w B v b) (hv : b.valid = true) (hh : Here w) :
    Calls Tryz.prog 15 #[bval v b, .string s] w (LinePost b s w) := by
  have hok := valid_iff.1 hv
  have HSZ := Lib.hid hok.sizes
  have HOK := Lib.hid hok
  have HR := Lib.hid hr
  have HSm := Lib.hid hn
  have HV := Lib.hid hv
  have HH := Lib.hid hh
  have HE := Lib.hid (lined_yes (s := s) hv)
  clear hr hn hv hok hh
  unfold LinePost
  rw [HE.out.1, HE.out.2]
  clear HE
  unfold bval bcells
  go_enter Tryz.func15, Tryz.ntmps15
  go_wp2_with fail
  refine (impl_BuildValid (v := v) (b := b) HSm.out (Nat.le_trans hB (by simp <;> omega)) ((HR.out.alloc hB _).alloc (Nat.le_trans hB (by simp <;> omega)) _)).mono ?_
  rintro e w1 ⟨rfl, hb1⟩
  obtain ⟨x, y, hbb, hs1⟩ := boxes2' hb1
  have HX1 := Lib.hid x
  have HY1 := Lib.hid y
  have HB1 := Lib.hid hbb
  have c0 := x.cells
  clear hb1 x y hbb
  rw [HV.out]
  go_wp2_with fail
  refine (copyBuilding_any (v := v) (b := b) (by have := HSZ.out; omega) (by have := HSZ.out; omega) (by have := HSZ.out; omega) (by have := HSZ.out; omega) (by have := HSZ.out; omega) (Nat.le_trans hB HB1.out.size) (HR.out.below (HB1.out.mono hB))).mono ?_
  rintro e w2 ⟨v2, rfl, ho2, hb2⟩
  have x2 := HX1.out.below hb2 HX1.out.lt
  have z2 := x2.free
  have c2 := x2.cells
  have F2 := store_building v2 b x2 (HY1.out.below hb2 HY1.out.lt) (by omega) (HB1.out.trans (hb2.mono HB1.out.size)) (Nat.le_refl _) (ho2.mono (base' := w.heap.size + 2) hs1) (by omega) (Nat.le_trans hs1 hb2.size)
  clear hb2 ho2 x2 c0 HX1 HY1 HB1
  obtain ⟨W3, hW, x3, y3, hb3, ho3, hs3⟩ := F2
  have HX3 := Lib.hid x3
  have HY3 := Lib.hid y3
  have HB3 := Lib.hid hb3
  have HO3 := Lib.hid ho3
  have HW := Lib.hid hW
  have HH3 := Lib.hid (HH.out.below hb3)
  clear x3 y3 hb3 ho3 hW
  simp only [bval, bcells]
  cases h1 : isT s wTick
  · have g1 : (s.toList == [116, 105, 99, 107]) = false := h1
    cases h2 : isT s wBlock
    · have g2 : (s.toList == [98, 108, 111, 99, 107]) = false := h2
      cases h3 : isT s wRest
      · have g3 : (s.toList == [114, 101, 115, 116]) = false := h3
        have HNW : Hid (b.line s = (if callLine s = true then b.ask (kindOf (cutW s)) (wordN (cutR s)) else b) ∧ b.reply s = (if callLine s = true then (if b.askOk (kindOf (cutW s)) (wordN (cutR s)) = true then rOk else rNo) else toldL b s)) := Lib.hid ⟨by simp [Bld.line, h1, h2, h3], by simp [Bld.reply, h1, h2, h3]⟩
        clear h1 h2 h3
        have hcs := (cut_small s).2
        go_wp2_with fail
        refine calls_at HW.out ?_
        refine (Cut_any s hs HH3.out).mono ?_
        rintro e w4 ⟨rfl, hb4⟩
        have HX4 := Lib.hid (HX3.out.below hb4 HX3.out.lt)
        have HY4 := Lib.hid (HY3.out.below hb4 HY3.out.lt)
        have HB4 := Lib.hid (HB3.out.trans (hb4.mono HB3.out.size))
        have HO4 := Lib.hid (ownB_below HO3.out hb4)
        have HH4 := Lib.hid (HH3.out.below hb4)
        have hs4 := Nat.le_trans hs3 hb4.size
        clear hb4 HX3 HY3 HB3 HO3 HW HH3 z2 c2 hs3
        cases hco : cutOk s
        · -- a line without a space
          have HL : Hid (b.line s = b ∧ b.reply s = toldL b s) := Lib.hid (by
            have := HNW.out
            simpa [callLine, hco] using this)
          clear hco HNW
          generalize hbe : b.line s = b' at *
          have HBE := Lib.hid hbe
          clear hbe
          go_wp2_with fail
          rename_i hK
          have HG : Hid (LnG w w.heap.size (w.heap.size + 1) (bcells v2 b) (fun W => OwnB W (w.heap.size + 2) v2 b) w4) := Lib.hid ⟨HX4.out, ⟨_, _, _, _, _, _, _, _, _, _, _, HY4.out⟩, HO4.out, HB4.out, HH4.out⟩
          clear HX4 HY4 HB4 HO4 HH4
          have kp : ∀ U U' : World, Below U.heap.size U U' → OwnB U (w.heap.size + 2) v2 b → OwnB U' (w.heap.size + 2) v2 b := fun U U' hb h => ownB_below h hb
          refine wp_region_any (by kernel_rfl) ?_
          refine wpAny_typed 6 (fun i => (#[42, 43, 44, 45, 1000, 5] : Array Nat).getD i 0) (fun i => i == 4) (LnS (w.heap.size + 1) (bval v2 b) (bcells v2 b) s ⟨(toldL b s).toArray⟩) (fun _ W => LnG w w.heap.size (w.heap.size + 1) (bcells v2 b) (fun W => OwnB W (w.heap.size + 2) v2 b) W) rfl 71 rfl (by kernel_rfl) (HG.out.drewN kp 1) ?_ ?_
          · intro a W U hR hG
            obtain ⟨F, hf, ha⟩ := U.form [false, false, false, false, false, true, false, false, false, false, false, false, false, false, false, false, false, false, false, false, false, false, false, false, false, false, false, false, false, false, false, false, false, false, false, false, false, false, false, false, false, false, true, true, true, true, false, false, false, false, false, false, false, false, false, false, false, false, false, false, false, false, false, false, false, false, false, false, false, false, false] rfl (by decide)
            have hy : Bx W (w.heap.size + 1) (bcells v2 b) := hR 4 (by omega)
            have e2 : a.tmps.getD 5 undef = F 5 := hf 5 (by omega)
            have h6 : a.tmps.getD 5 undef = .string ⟨(toldL b s).toArray⟩ := hR 5 (by omega)
            have h2 : F 5 = .string ⟨(toldL b s).toArray⟩ := e2.symm.trans h6
            simp only [letters, cond_true, cond_false, Nat.reduceAdd, h2] at ha
            obtain ⟨kk, hkk, hg⟩ := hG
            have HY := Lib.hid hy
            have HO := Lib.hid hg.k
            have HB := Lib.hid hg.b
            clear hR hf U hg hy e2 h6 h2 HG kp
            subst ha
            refine hK _ _ ?_
            generalize htx : ByteArray.mk (toldL b s).toArray = tx
            have HTX := Lib.hid htx
            clear htx
            have c1 := HY.out.cells
            unfold bcells at c1
            go_wp2
            refine bodyPost_ret (v := .tuple #[bval v2 b, .string tx]) (by simp [bval, bcells, results, Tryz.results15, go_sem, c1]) rfl ⟨v2, by rw [HBE.out, HL.out.1, HL.out.2, HTX.out]; rfl, ?_, HB.out⟩
            rw [HBE.out, HL.out.1]
            exact HO.out.mono (by omega)
          · intro i' o ho a W k' U hG hk' hd
            have hlt : i' < 6 := (Array.getElem?_eq_some_iff.1 ho).1
            have hu1 := U.other 1 (by decide)
            have hu2 := U.other 2 (by decide)
            have hu4 := U.other 4 (by decide)
            have t1 : a.tmps[1]?.getD undef = .string s := by simpa using hu1
            have t2 : a.tmps[2]?.getD undef = .pointer (some ⟨w.heap.size, 0, none⟩) := by simpa using hu2
            have t4 : a.tmps[4]?.getD undef = .pointer (some ⟨w.heap.size + 1, 0, none⟩) := by simpa using hu4
            rcases (by omega : i' = 0 ∨ i' = 1 ∨ i' = 2 ∨ i' = 3 ∨ i' = 4 ∨ i' = 5) with rfl | rfl | rfl | rfl | rfl | rfl
            all_goals (refine wpOp_of ho (by cases ho; rfl) ?_; cases ho)
            · have c := hG.x0.cells
              unfold bcells at c
              unfold Oper.wp
              simp [go_sem, Act.eval, t2, c]
              exact ⟨hG, fun j v _ h => h, .inl ⟨rfl, _, rfl, rfl⟩⟩
            · have c := hG.x0.cells
              unfold bcells at c
              unfold Oper.wp
              simp [go_sem, Act.eval, t2, c]
              exact ⟨hG, fun j v _ h => h, .inl ⟨rfl, _, rfl, rfl⟩⟩
            · unfold Oper.wp
              simp [go_sem, Act.eval, t1]
              exact ⟨hG, fun j v _ h => h, .inl ⟨rfl, _, rfl, rfl⟩⟩
            · have h0 := hd ⟨1, .data⟩ (by simp) rfl
              have h1 := hd ⟨2, .data⟩ (by simp) rfl
              have u0 : a.tmps[43]?.getD undef = bval v2 b := by simpa [LnS] using h0
              have u1 : a.tmps[44]?.getD undef = .string s := by simpa [LnS] using h1
              unfold Oper.wp
              simp [go_sem, Act.eval, u0, u1]
              refine (impl_told (v := v2) (b := b) s HOK.out HSm.out (Nat.le_refl _) hG.k.read hG.hh).mono ?_
              rintro e w' ⟨rfl, hb'⟩
              exact ⟨hG.below kp hb', fun j v _ h => LnS.below hb' j v h, .inl ⟨rfl, _, rfl, rfl⟩⟩
            · have h0 := hd ⟨0, .data⟩ (by simp) rfl
              have u0 : a.tmps[42]?.getD undef = bval v2 b := by simpa [LnS] using h0
              obtain ⟨hg1, hg2⟩ := hG.stored HH.out (fun U v b h => own_sets h (by omega)) (by omega) (by omega) v2 b
              obtain ⟨a0, a1, a2, a3, a4, a5, a6, a7, a8, a9, a10, hy⟩ := hG.x1
              have c := hy.cells
              have fz := hy.free
              unfold bval bcells at u0
              unfold Oper.wp
              simp [go_sem, Act.eval, t4, u0, c, fz]
              exact ⟨hg1, fun j v hj h => LnS.stored v2 b j v hj h, .inr ⟨rfl, hg2⟩⟩
            · have h0 := hd ⟨3, .data⟩ (by simp) rfl
              generalize htx : ByteArray.mk (toldL b s).toArray = tx at *
              have u0 : a.tmps[45]?.getD undef = .string tx := by simpa [LnS] using h0
              unfold Oper.wp
              simp [go_sem, Act.eval, u0]
              exact ⟨hG, fun j v _ h => h, .inl ⟨rfl, _, rfl, rfl⟩⟩
        · -- a line with a space
          have HTW := Lib.hid (told_what (b := b) hco)
          have HCL : Hid (callLine s = (decide (0 ≤ kindOf (cutW s)) && wordOk (cutR s))) := Lib.hid (by simp [callLine, hco])
          clear hco
          have HKN := Lib.hid (impl_kind (cutW s))
          have HRN := Lib.hid (fun W => impl_readNumber (cutR s) (by omega) W)
          have HCW : Hid (∀ W, ReadB W W.heap.size v2 b → Calls Tryz.prog 51 #[bval v2 b, .int .i64 (kindOf (cutW s)), .int .i64 (wordN (cutR s))] W (CallPost b (kindOf (cutW s)) (wordN (cutR s)) W)) := Lib.hid (fun W h => impl_BuildCall (v := v2) (b := b) (kindOf (cutW s)) (wordN (cutR s)) HSm.out (Nat.le_refl _) h)
          have hwn : 0 ≤ wordN (cutR s) ∧ wordN (cutR s) ≤ 999 := wordN_range _
          clear hcs
          generalize kindOf (cutW s) = kd at *
          generalize wordN (cutR s) = fn at *
          generalize cutW s = cw at *
          go_wp2_with fail
          refine (HKN.out _).mono ?_
          rintro e w5 ⟨rfl, rfl⟩
          go_wp2_with fail
          refine (HRN.out _).mono ?_
          rintro e w5 ⟨rfl, hw5⟩
          subst hw5
          cases hwk : wordOk (cutR s)
          · have HL : Hid (b.line s = b ∧ b.reply s = rWhat) := Lib.hid (by
              have := HNW.out
              rw [HCL.out, hwk, HTW.out] at this
              simpa using this)
            clear hwk HNW HCL HTW
            generalize hbe : b.line s = b' at *
            have HBE := Lib.hid hbe
            clear hbe
            have c0 := HX4.out.cells
            have c1 := HY4.out.cells
            have z1 := HY4.out.free
            unfold bcells at c0
            by_cases hk0 : kd < 0
            all_goals
              go_wp2
              refine bodyPost_ret (v := .tuple #[bval v2 b, .string ⟨#[119, 104, 97, 116]⟩]) (by simp [bval, bcells, results, Tryz.results15, go_sem, c0, c1]) rfl ⟨v2, by rw [HBE.out, HL.out.1, HL.out.2]; rfl, ?_, ?_⟩
              · rw [HBE.out, HL.out.1]
                refine OwnB.mono (base := w.heap.size + 2) ?_ (by omega)
                repeat (refine ownB_set (by simp <;> omega) ?_)
                exact HO4.out
              · repeat (refine below_set (by simp <;> omega) ?_)
                exact HB4.out
          · by_cases hk0 : kd < 0
            · have HL : Hid (b.line s = b ∧ b.reply s = rWhat) := Lib.hid (by
                have := HNW.out
                rw [HCL.out, hwk, HTW.out] at this
                have h0 : ¬ 0 ≤ kd := by omega
                simpa [h0] using this)
              clear hwk HNW HCL HTW
              generalize hbe : b.line s = b' at *
              have HBE := Lib.hid hbe
              clear hbe
              have c0 := HX4.out.cells
              have c1 := HY4.out.cells
              have z1 := HY4.out.free
              unfold bcells at c0
              go_wp2
              refine bodyPost_ret (v := .tuple #[bval v2 b, .string ⟨#[119, 104, 97, 116]⟩]) (by simp [bval, bcells, results, Tryz.results15, go_sem, c0, c1]) rfl ⟨v2, by rw [HBE.out, HL.out.1, HL.out.2]; rfl, ?_, ?_⟩
              · rw [HBE.out, HL.out.1]
                refine OwnB.mono (base := w.heap.size + 2) ?_ (by omega)
                repeat (refine ownB_set (by simp <;> omega) ?_)
                exact HO4.out
              · repeat (refine below_set (by simp <;> omega) ?_)
                exact HB4.out
            · have HL : Hid (b.line s = b.ask kd fn ∧ b.reply s = (if b.askOk kd fn = true then rOk else rNo)) := Lib.hid (by
                have := HNW.out
                rw [HCL.out, hwk] at this
                have h0 : 0 ≤ kd := by omega
                simpa [h0] using this)
              have HE := Lib.hid (called_yes (kind := kd) (fl := fn) HV.out)
              unfold CallPost at HCW
              rw [HE.out.1, HE.out.2, ← HL.out.1] at HCW
              have HNo : Hid (b.askOk kd fn = false → b.line s = b) := Lib.hid (fun h => by rw [HL.out.1, ask_not h])
              clear hwk HNW HCL HTW HE
              generalize hbe : b.line s = b' at *
              have HBE := Lib.hid hbe
              clear hbe
              have c0 := HX4.out.cells
              unfold bcells at c0
              go_wp2_with fail
              refine (HCW.out _ HO4.out.read).mono ?_
              rintro e w5 ⟨v5, rfl, ho5, hb5⟩
              simp only [bval, bcells]
              have HX5 := Lib.hid ((HX4.out.below hb5 HX4.out.lt).alloc (.cells (bcells v5 b') 36))
              have HY5 := Lib.hid ((HY4.out.below hb5 HY4.out.lt).alloc (.cells (bcells v5 b') 36))
              have HB5 := Lib.hid ((HB4.out.trans (hb5.mono HB4.out.size)).alloc (Nat.le_trans HB4.out.size hb5.size) (.cells (bcells v5 b') 36))
              have HO5 := Lib.hid ((ho5.mono (base' := w.heap.size + 2) hs4).below ((Below.refl _ _).alloc (Nat.le_refl _) (.cells (bcells v5 b') 36)) (Nat.le_refl _))
              have HQ5 := Lib.hid ((ownB_below HO4.out hb5).below ((Below.refl _ _).alloc (Nat.le_refl _) (.cells (bcells v5 b') 36)) (Nat.le_refl _))
              have HN5 := Lib.hid (Bx.new w5 (bcells v5 b') 36)
              clear hb5 ho5 c0 HX4 HY4 HB4 HO4 HH4
              unfold bcells at HX5 HY5 HB5 HO5 HQ5 HN5
              have c0 := HX5.out.cells
              have c1 := HY5.out.cells
              have z1 := HY5.out.free
              have c5 := HN5.out.cells
              cases hao : b.askOk kd fn
              · have HR2 : Hid (b.reply s = rNo) := Lib.hid (by rw [HL.out.2, hao]; simp)
                have HBB : Hid (b' = b) := Lib.hid (HNo.out hao)
                clear hao HL HNo
                go_wp2
                refine bodyPost_ret (v := .tuple #[bval v2 b, .string ⟨#[110, 111]⟩]) (by simp [bval, bcells, results, Tryz.results15, go_sem, c0, c1]) rfl ⟨v2, by rw [HBE.out, HBB.out, HR2.out]; rfl, ?_, ?_⟩
                · rw [HBE.out, HBB.out]
                  refine OwnB.mono (base := w.heap.size + 2) ?_ (by omega)
                  repeat (refine ownB_set (by simp <;> omega) ?_)
                  have hq := HQ5.out
                  rw [HBB.out] at hq
                  exact hq
                · repeat (refine below_set (by simp <;> omega) ?_)
                  exact HB5.out
              · have HR2 : Hid (b.reply s = rOk) := Lib.hid (by rw [HL.out.2, hao]; simp)
                clear hao HL HNo
                go_wp2
                refine bodyPost_ret (v := .tuple #[bval v5 b', .string ⟨#[111, 107]⟩]) (by simp [bval, bcells, results, Tryz.results15, go_sem, c5, c1]) rfl ⟨v5, by rw [HBE.out, HR2.out]; rfl, ?_, ?_⟩
                · rw [HBE.out]
                  refine OwnB.mono (base := w.heap.size + 2) ?_ (by omega)
                  repeat (refine ownB_set (by simp <;> omega) ?_)
                  exact HO5.out
                · repeat (refine below_set (by simp <;> omega) ?_)
                  exact HB5.out
      · have g3 : (s.toList == [114, 101, 115, 116]) = true := h3
        have HL : Hid (b.after b.rest = b.line s ∧ b.reply s = Lib.itoa (b.rest : Int) ∧ b.restTicks = (b.rest : Int) ∧ b.rested = b.after b.rest) := Lib.hid ⟨by simp [Bld.line, h1, h2, h3], by simp [Bld.reply, h1, h2, h3], restTicks_yes HV.out, rested_yes HV.out⟩
        have hrb := (rest_bound HOK.out).2
        clear h1 h2 h3
        go_wp2_with fail
        rename_i hK
        refine code_at HW.out ?_
        have HG : Hid (LnG w w.heap.size (w.heap.size + 1) (bcells v2 b) (fun W => OwnB W (w.heap.size + 2) v2 b) W3) := Lib.hid ⟨HX3.out, ⟨_, _, _, _, _, _, _, _, _, _, _, HY3.out⟩, HO3.out, HB3.out, HH3.out⟩
        clear HX3 HY3 HB3 HO3 HW z2 c2
        generalize hrt : b.rest = rt at *
        generalize hbe : b.line s = b' at *
        have HBE := Lib.hid hbe
        clear hbe
        refine wp_region_any (by kernel_rfl) ?_
        refine wpAny_typed 7 (fun i => (#[29, 30, 31, 32, 33, 1000, 5] : Array Nat).getD i 0) (fun i => i == 5) (LnR (w.heap.size + 2) (w.heap.size + 1) (bval v2 b) b' (.int .i64 (rt : Int)) ⟨(Lib.itoa (rt : Int)).toArray⟩) (fun _ W => LnG w w.heap.size (w.heap.size + 1) (bcells v2 b) (fun W => OwnB W (w.heap.size + 2) v2 b) W) rfl 71 rfl (by kernel_rfl) (HG.out.drewN (fun U U' hb h => ownB_below h hb) 1) ?_ ?_
        · intro a W U hR hG
          obtain ⟨F, hf, ha⟩ := U.form [false, false, false, false, false, true, false, false, false, false, false, false, false, false, false, false, false, false, false, false, false, false, false, false, false, false, false, false, false, true, true, true, true, true, false, false, false, false, false, false, false, false, false, false, false, false, false, false, false, false, false, false, false, false, false, false, false, false, false, false, false, false, false, false, false, false, false, false, false, false, false] rfl (by decide)
          obtain ⟨v4, hy, ho4⟩ : ∃ v', Bx W (w.heap.size + 1) (bcells v' b') ∧ OwnB W (w.heap.size + 2) v' b' := hR 5 (by omega)
          have e2 : a.tmps.getD 5 undef = F 5 := hf 6 (by omega)
          have h6 : a.tmps.getD 5 undef = .string ⟨(Lib.itoa (rt : Int)).toArray⟩ := hR 6 (by omega)
          have h2 : F 5 = .string ⟨(Lib.itoa (rt : Int)).toArray⟩ := e2.symm.trans h6
          simp only [letters, cond_true, cond_false, Nat.reduceAdd, h2] at ha
          obtain ⟨kk, hkk, hg⟩ := hG
          have HY := Lib.hid hy
          have HO := Lib.hid ho4
          have HB := Lib.hid hg.b
          clear hR hf U hg hy ho4 e2 h6 h2 HG
          subst ha
          refine hK _ _ ?_
          generalize htx : ByteArray.mk (Lib.itoa (rt : Int)).toArray = tx
          have HTX := Lib.hid htx
          clear htx
          have c1 := HY.out.cells
          unfold bcells at c1
          go_wp2
          refine bodyPost_ret (v := .tuple #[bval v4 b', .string tx]) (by simp [bval, bcells, results, Tryz.results15, go_sem, c1]) rfl ⟨v4, by rw [HL.out.2.1, HBE.out, HTX.out]; rfl, ?_, HB.out⟩
          rw [HBE.out]
          exact HO.out.mono (by omega)
        · intro i' o ho a W k' U hG hk' hd
          have hlt : i' < 7 := (Array.getElem?_eq_some_iff.1 ho).1
          have hu2 := U.other 2 (by decide)
          have hu4 := U.other 4 (by decide)
          have t2 : a.tmps[2]?.getD undef = .pointer (some ⟨w.heap.size, 0, none⟩) := by simpa using hu2
          have t4 : a.tmps[4]?.getD undef = .pointer (some ⟨w.heap.size + 1, 0, none⟩) := by simpa using hu4
          have hsz : w.heap.size + 2 ≤ W.heap.size := by
            have := hG.x0.lt
            obtain ⟨_, _, _, _, _, _, _, _, _, _, _, h⟩ := hG.x1
            have := h.lt
            omega
          have kp : ∀ U U' : World, Below U.heap.size U U' → OwnB U (w.heap.size + 2) v2 b → OwnB U' (w.heap.size + 2) v2 b := fun U U' hb h => ownB_below h hb
          rcases (by omega : i' = 0 ∨ i' = 1 ∨ i' = 2 ∨ i' = 3 ∨ i' = 4 ∨ i' = 5 ∨ i' = 6) with rfl | rfl | rfl | rfl | rfl | rfl | rfl
          all_goals (refine wpOp_of ho (by cases ho; rfl) ?_; cases ho)
          · have c := hG.x0.cells
            unfold bcells at c
            unfold Oper.wp
            simp [go_sem, Act.eval, t2, c]
            exact ⟨hG, fun j v _ h => h, .inl ⟨rfl, _, rfl, rfl⟩⟩
          · have h0 := hd ⟨0, .data⟩ (by simp) rfl
            have u0 : a.tmps[29]?.getD undef = bval v2 b := by simpa [LnR] using h0
            unfold Oper.wp
            simp [go_sem, Act.eval, u0]
            refine (impl_RestEnd (v := v2) (b := b) HSm.out (Nat.le_refl _) hG.k.read).mono ?_
            unfold EndPost
            rw [HL.out.2.2.2, HL.out.1]
            rintro e w' ⟨v', rfl, ho', hb'⟩
            exact ⟨hG.below kp hb', fun j v _ h => LnR.below hb' j v h, .inl ⟨rfl, _, rfl, ⟨v', rfl, ho'.mono hsz⟩⟩⟩
          · have c := hG.x0.cells
            unfold bcells at c
            unfold Oper.wp
            simp [go_sem, Act.eval, t2, c]
            exact ⟨hG, fun j v _ h => h, .inl ⟨rfl, _, rfl, rfl⟩⟩
          · have h0 := hd ⟨2, .data⟩ (by simp) rfl
            have u0 : a.tmps[31]?.getD undef = bval v2 b := by simpa [LnR] using h0
            unfold Oper.wp
            simp [go_sem, Act.eval, u0]
            refine (impl_RestTicks (v := v2) (b := b) HSm.out (Nat.le_refl _) hG.k.read).mono ?_
            rw [HL.out.2.2.1]
            rintro e w' ⟨rfl, hb'⟩
            exact ⟨hG.below kp hb', fun j v _ h => LnR.below hb' j v h, .inl ⟨rfl, _, rfl, rfl⟩⟩
          · have h0 := hd ⟨3, .data⟩ (by simp) rfl
            have u0 : a.tmps[32]?.getD undef = .int .i64 (rt : Int) := by simpa [LnR] using h0
            unfold Oper.wp
            simp [go_sem, Act.eval, u0]
            refine (Itoa_any (rt : Int) (by omega) (by omega) hG.hh).mono ?_
            rintro e w' ⟨rfl, hb'⟩
            exact ⟨hG.below kp hb', fun j v _ h => LnR.below hb' j v h, .inl ⟨rfl, _, rfl, rfl⟩⟩
          · obtain ⟨v', h0, ho'⟩ := hd ⟨1, .data⟩ (by simp) rfl
            have u0 : a.tmps[30]?.getD undef = bval v' b' := by simpa using h0
            obtain ⟨hg1, hg2⟩ := hG.stored HH.out (fun U v b h => own_sets h (by omega)) (by omega) (by omega) v' b'
            obtain ⟨a0, a1, a2, a3, a4, a5, a6, a7, a8, a9, a10, hy⟩ := hG.x1
            have c := hy.cells
            have fz := hy.free
            unfold bval bcells at u0
            unfold Oper.wp
            simp [go_sem, Act.eval, t4, u0, c, fz]
            exact ⟨hg1, fun j v hj h => LnR.stored (by omega) v' b' j v hj h, .inr ⟨rfl, ⟨v', hg2, own_sets ho' (by omega)⟩⟩⟩
          · have h0 := hd ⟨4, .data⟩ (by simp) rfl
            generalize htx : ByteArray.mk (Lib.itoa (rt : Int)).toArray = tx at *
            have u0 : a.tmps[33]?.getD undef = .string tx := by simpa [LnR] using h0
            unfold Oper.wp
            simp [go_sem, Act.eval, u0]
            exact ⟨hG, fun j v _ h => h, .inl ⟨rfl, _, rfl, rfl⟩⟩
    · have g2 : (s.toList == [98, 108, 111, 99, 107]) = true := h2
      have HL : Hid (b.ticked true = b.line s ∧ b.reply s = rOk) := Lib.hid ⟨by rw [ticked_yes HV.out]; simp [Bld.line, h1, h2], by simp [Bld.reply, h1, h2]⟩
      clear h1 h2
      go_wp2_with fail
      refine calls_at HW.out ?_
      refine (impl_BuildTick (v := v2) (b := b) true HSm.out (Nat.le_refl _) HO3.out.read).mono ?_
      unfold TickPost
      rw [HL.out.1]
      rintro e w4 ⟨v4, rfl, ho4, hb4⟩
      have HY4 := Lib.hid (HY3.out.below hb4 HY3.out.lt)
      have HB4 := Lib.hid (HB3.out.trans (hb4.mono HB3.out.size))
      have HO4 := Lib.hid (ho4.mono (base' := w.heap.size + 2) hs3)
      clear ho4 hb4 HX3 HY3 HB3 HO3 HW z2 c2
      generalize hbe : b.line s = b' at *
      have HBE := Lib.hid hbe
      clear hbe
      have c1 := HY4.out.cells
      have z1 := HY4.out.free
      simp only [bval, bcells]
      go_wp2
      refine bodyPost_ret (v := .tuple #[bval v4 b', .string ⟨#[111, 107]⟩]) (by simp [bval, bcells, results, Tryz.results15, go_sem, c1]) rfl ⟨v4, by rw [HL.out.2, HBE.out]; rfl, ?_, ?_⟩
      · rw [HBE.out]
        refine OwnB.mono (base := w.heap.size + 2) ?_ (by omega)
        repeat (refine ownB_set (by simp <;> omega) ?_)
        exact HO4.out
      · repeat (refine below_set (by simp <;> omega) ?_)
        exact HB4.out
  · have g1 : (s.toList == [116, 105, 99, 107]) = true := h1
    have HL : Hid (b.ticked false = b.line s ∧ b.reply s = rOk) := Lib.hid ⟨by rw [ticked_yes HV.out]; simp [Bld.line, h1], by simp [Bld.reply, h1]⟩
    clear h1
    go_wp2_with fail
    refine calls_at HW.out ?_
    refine (impl_BuildTick (v := v2) (b := b) false HSm.out (Nat.le_refl _) HO3.out.read).mono ?_
    unfold TickPost
    rw [HL.out.1]
    rintro e w4 ⟨v4, rfl, ho4, hb4⟩
    have HY4 := Lib.hid (HY3.out.below hb4 HY3.out.lt)
    have HB4 := Lib.hid (HB3.out.trans (hb4.mono HB3.out.size))
    have HO4 := Lib.hid (ho4.mono (base' := w.heap.size + 2) hs3)
    clear ho4 hb4 HX3 HY3 HB3 HO3 HW z2 c2
    generalize hbe : b.line s = b' at *
    have HBE := Lib.hid hbe
    clear hbe
    have c1 := HY4.out.cells
    have z1 := HY4.out.free
    simp only [bval, bcells]
    go_wp2
    refine bodyPost_ret (v := .tuple #[bval v4 b', .string ⟨#[111, 107]⟩]) (by simp [bval, bcells, results, Tryz.results15, go_sem, c1]) rfl ⟨v4, by rw [HL.out.2, HBE.out]; rfl, ?_, ?_⟩
    · rw [HBE.out]
      refine OwnB.mono (base := w.heap.size + 2) ?_ (by omega)
      repeat (refine ownB_set (by simp <;> omega) ?_)
      exact HO4.out
    · repeat (refine below_set (by simp <;> omega) ?_)
      exact HB4.out
end Go.Proofs.YthkpikkjgggimaaGreatDoor

namespace Go.Proofs.YthkpikkjgggimaaGreatDoor
open Go.RowKit
set_option linter.unusedVariables false
set_option linter.unusedSimpArgs false

theorem Strs.wordZ {w : World} {B b : Nat} {s : ByteArray} (h : Strs w B (some ⟨b, 0, none⟩) (wordsB s)) {i : Nat} (hi : i < readN s) : w.cell? ⟨b, i, none⟩ = some (.string (wordAt s i)) := by
  obtain ⟨b', e, _, hc⟩ := h (by unfold readN at hi; omega)
  obtain rfl : b = b' := by simpa using e
  have := hc i hi
  rwa [Nat.zero_add] at this

theorem cutL_small : ∀ (l : List UInt8), ∀ x ∈ cutL l, x.length ≤ l.length
  | [] => by simp [cutL]
  | b :: l => by
    intro x hx
    rw [cutL] at hx
    have ih := cutL_small l
    split at hx
    · rcases List.mem_cons.1 hx with rfl | h
      · simp
      · have := ih x h; simp; omega
    · cases hc : cutL l with
      | nil => exact absurd hc (cutL_ne l)
      | cons y r =>
        rw [hc] at hx ih
        rcases List.mem_cons.1 hx with rfl | h
        · have := ih y (by simp); simp; omega
        · have := ih x (by simp [h]); simp; omega
theorem wordAt_smallZ (s : ByteArray) (i : Nat) : (wordAt s i).size ≤ s.size := by
  unfold wordAt
  rw [List.getD_eq_getElem?_getD]
  cases h : (wordsB s)[i]? with
  | none => simp
  | some x =>
    have hm := List.mem_of_getElem? h
    obtain ⟨y, hy, rfl⟩ := List.mem_map.1 hm
    have := cutL_small _ y hy
    simp at this
    show y.toArray.size ≤ s.data.size
    simpa using this
/-- Block g is a box of a building. -/
def KBx (W : World) (b : Nat) (xs : Array Value) : Prop := W.heap[b]? = some (.cells xs 36 (0, 0))
theorem KBx.bx {W : World} {b : Nat} {xs : Array Value} (h : KBx W b xs) : Bx W b xs := ⟨_, h⟩
theorem KBx.below {W W' : World} {b : Nat} {xs : Array Value} (h : KBx W b xs) (hb : Below W.heap.size W W') : KBx W' b xs := (hb.block b h.bx.lt).trans h
theorem KBx.far {W : World} {b : Nat} {xs : Array Value} (h : KBx W b xs) (p : Addr) (v : Value) (hp : p.block ≠ b) : KBx (W.setCell p v) b xs :=
  (Below.heap_setCell _ _ _ _ (by intro e; exact hp e.symm)).trans h
theorem KBx.set {W : World} {b : Nat} {xs : Array Value} (h : KBx W b xs) (i : Nat) (v : Value) : KBx (W.setCell ⟨b, i, none⟩ v) b (xs.setIfInBounds i v) := by
  unfold KBx at h ⊢
  simp [World.setCell, Array.getElem?_modify, h]
theorem KBx.setsFar {W : World} {b : Nat} {xs : Array Value} (l : List (Addr × Value)) (h : KBx W b xs) (hl : ∀ q ∈ l, q.1.block ≠ b) : KBx (sets W l) b xs := by
  induction l generalizing W with
  | nil => exact h
  | cons q l ih => exact ih (h.far q.1 q.2 (hl q (by simp))) (fun x hx => hl x (by simp [hx]))
theorem KBx.put {W : World} {g : Nat} {a0 a1 a2 a3 a4 a5 a6 a7 a8 a9 a10 : Value} (h : KBx W g #[a0, a1, a2, a3, a4, a5, a6, a7, a8, a9, a10]) (v : Bv) (b : Bld) : KBx (sets W (putL g v b)) g (bcells v b) := by
  have h' := ((((((((((h.set 0 (.slice v.A b.n v.c)).set 1 (.int .i64 b.pos)).set 2 (.int .i64 b.sp)).set 3 (.int .i64 b.gap)).set 4 (.int .i64 b.hold)).set 5 (.slice v.U b.nu v.cu)).set 6 (.slice v.D b.nd v.cd)).set 7 (.slice v.C b.nc v.cc)).set 8 (.int .i64 b.fl)).set 9 (.int .i64 b.dir)).set 10 (.bool b.op)
  simp only [List.setIfInBounds_toArray, List.set_cons_zero, List.set_cons_succ] at h'
  simpa only [sets, putL, List.foldl_cons, List.foldl_nil, bcells] using h'
theorem koffI {W : World} {g base n c : Nat} {xs : Array Value} {A : Option Addr} {f : Nat → Int} (h : KBx W g xs) (r : Row W base A n c f) : ∀ x, A = some x → g ≠ x.block := by
  intro x hx e
  rcases r.2 with ⟨hv, _⟩ | ⟨k, cap, cur, hv, _, hh, _⟩
  · simp only [Value.slice.injEq] at hv; rw [hx] at hv; cases hv.1
  · simp only [Value.slice.injEq] at hv
    rw [hx] at hv
    have hk : x = ⟨k, 0, none⟩ := Option.some.inj hv.1
    subst hk
    simp only at e
    rw [← e, h] at hh
    simp at hh
theorem koffB {W : World} {g base n c : Nat} {xs : Array Value} {A : Option Addr} {f : Nat → Bool} (h : KBx W g xs) (r : RowB W base A n c f) : ∀ x, A = some x → g ≠ x.block := by
  intro x hx e
  rcases r.2 with ⟨hv, _⟩ | ⟨k, cap, cur, hv, _, hh, _⟩
  · simp only [Value.slice.injEq] at hv; rw [hx] at hv; cases hv.1
  · simp only [Value.slice.injEq] at hv
    rw [hx] at hv
    have hk : x = ⟨k, 0, none⟩ := Option.some.inj hv.1
    subst hk
    simp only at e
    rw [← e, h] at hh
    simp at hh
theorem koff {W : World} {g base : Nat} {xs : Array Value} {v : Bv} {b : Bld} (h : KBx W g xs) (o : OwnB W base v b) : Off g v := ⟨koffI h o.h, koffB h o.k.u, koffB h o.k.d, koffB h o.k.c⟩
theorem own_offs {W : World} {base g : Nat} {v : Bv} {b : Bld} (l : List (Addr × Value)) (ho : OwnB W base v b) (h : Off g v) (hl : ∀ q ∈ l, q.1.block = g) : OwnB (sets W l) base v b := by
  induction l generalizing W with
  | nil => exact ho
  | cons q l ih => exact ih (ownB_off (by rw [hl q (by simp)]; exact h) ho) (fun x hx => hl x (by simp [hx]))

/-- What the operations of the call's region leave. -/
def LnC (base lo bw c : Nat) (vb : Value) (kd fn : Int) (x : ByteArray) (b' : Bld) (ok : Bool) : Nat → Value → World → Prop
  | 0, v, _ => v = vb
  | 1, v, _ => v = .int .i64 kd
  | 2, v, _ => v = .slice (some ⟨bw, 0, none⟩) 2 c
  | 3, v, _ => v = .pointer (some ⟨bw, 1, none⟩)
  | 4, v, _ => v = .string x
  | 5, v, _ => v = .int .i64 fn
  | 6, v, W => ∃ v', v = .tuple #[bval v' b', .bool ok] ∧ OwnB W base v' b'
  | 7, v, W => ∃ v', v = .tuple #[bval v' b', .bool ok] ∧ OwnB W base v' b'
  | 8, v, W => ∃ v', v = bval v' b' ∧ OwnB W base v' b'
  | 9, v, _ => v = .bool ok
  | 10, v, W => ∃ g, v = .pointer (some ⟨g, 0, none⟩) ∧ lo ≤ g ∧ ∃ a0 a1 a2 a3 a4 a5 a6 a7 a8 a9 a10 : Value, KBx W g #[a0, a1, a2, a3, a4, a5, a6, a7, a8, a9, a10]
  | 11, v, W => ∃ g v', v = .pointer (some ⟨g, 0, none⟩) ∧ lo ≤ g ∧ KBx W g (bcells v' b') ∧ OwnB W base v' b'
  | 12, v, _ => v = .bool ok
  | _, _, _ => True
theorem LnC.below {base lo bw c : Nat} {vb : Value} {kd fn : Int} {x : ByteArray} {b' : Bld} {ok : Bool} {W W' : World} (hb : Below W.heap.size W W') : ∀ j v, LnC base lo bw c vb kd fn x b' ok j v W → LnC base lo bw c vb kd fn x b' ok j v W' := by
  intro j v h
  unfold LnC at h ⊢
  split at h
  all_goals first
    | with_reducible exact h
    | (obtain ⟨v', h1, h2⟩ := h; with_reducible exact ⟨v', h1, ownB_below h2 hb⟩)
    | (obtain ⟨g, h1, h2, a0, a1, a2, a3, a4, a5, a6, a7, a8, a9, a10, h3⟩ := h; with_reducible exact ⟨g, h1, h2, _, _, _, _, _, _, _, _, _, _, _, h3.below hb⟩)
    | (obtain ⟨g, v', h1, h2, h3, h4⟩ := h; with_reducible exact ⟨g, v', h1, h2, h3.below hb, ownB_below h4 hb⟩)
theorem LnC.stored {base lo bw c : Nat} {vb : Value} {kd fn : Int} {x : ByteArray} {b' : Bld} {ok : Bool} {W : World} {g8 : Nat} {a0 a1 a2 a3 a4 a5 a6 a7 a8 a9 a10 : Value} (hk : KBx W g8 #[a0, a1, a2, a3, a4, a5, a6, a7, a8, a9, a10]) (v0 : Bv) (b0 : Bld) :
    ∀ j v, j ≠ 11 → LnC base lo bw c vb kd fn x b' ok j v W → LnC base lo bw c vb kd fn x b' ok j v (sets W (putL g8 v0 b0)) := by
  intro j v hj h
  unfold LnC at h ⊢
  split at h
  all_goals first
    | with_reducible exact h
    | (obtain ⟨v', h1, h2⟩ := h; with_reducible exact ⟨v', h1, own_offs _ h2 (koff hk h2) (fun q hq => putL_block q hq)⟩)
    | (obtain ⟨g, h1, h2, a0, a1, a2, a3, a4, a5, a6, a7, a8, a9, a10, h3⟩ := h
       by_cases e : g = g8
       · subst e; exact ⟨g, h1, h2, _, _, _, _, _, _, _, _, _, _, _, h3.put v0 b0⟩
       · exact ⟨g, h1, h2, _, _, _, _, _, _, _, _, _, _, _, h3.setsFar _ (fun q hq => by rw [putL_block q hq]; exact fun e' => e e'.symm)⟩)
    | exact absurd rfl hj

set_option maxRecDepth 100000 in
set_option maxHeartbeats 12800000 in
theorem spec_BuildLine_yes {w : World} {B : Nat} {v : Bv} {b : Bld} (s : ByteArray) (hs : s.size ≤ 1048576) (hn : b.Small) (hB : B ≤ w.heap.size) (hr : ReadB w B v b) (hv : b.valid = true) (hh : Here w) :
    Calls Tryz.prog 17 #[bval v b, .string s] w (LinePost b s w) := by
  have hok := valid_iff.1 hv
  have HSZ := Lib.hid hok.sizes
  have HOK := Lib.hid hok
  have HR := Lib.hid hr
  have HSm := Lib.hid hn
  have HV := Lib.hid hv
  have HH := Lib.hid hh
  have HE := Lib.hid (lined_yes (s := s) hv)
  clear hr hn hv hok hh
  unfold LinePost
  rw [HE.out.1, HE.out.2]
  clear HE
  unfold bval bcells
  go_enter Tryz.func17, Tryz.ntmps17
  go_wp2_with fail
  refine (spec_BuildValid (v := v) (b := b) HSm.out (Nat.le_trans hB (by simp <;> omega)) ((HR.out.alloc hB _).alloc (Nat.le_trans hB (by simp <;> omega)) _)).mono ?_
  rintro e w1 ⟨rfl, hb1⟩
  obtain ⟨x, y, hbb, hs1⟩ := boxes2' hb1
  have HX1 := Lib.hid x
  have HY1 := Lib.hid y
  have HB1 := Lib.hid hbb
  clear hb1 x y hbb
  rw [HV.out]
  go_wp2_with fail
  refine (l1Cut_any s (by omega) _).mono ?_
  rintro e w2 ⟨A2, cw, rfl, hr2, hb2⟩
  have hpos : 0 < readN s := (words_cut s).2.1
  obtain ⟨bw, rfl, hbl, hwc⟩ : ∃ b, A2 = some ⟨b, 0, none⟩ ∧ b < w2.heap.size ∧ ∀ i, i < readN s → w2.cell? ⟨b, i, none⟩ = some (.string (wordAt s i)) := by
    obtain ⟨b, cap, hv, hb, hlt⟩ := World.ownsRow.form hr2 hpos
    obtain ⟨rfl, -⟩ : A2 = some ⟨b, 0, none⟩ ∧ readN s = (wordsB s).length ∧ cw = cap := by simpa using hv
    exact ⟨b, rfl, hlt, fun i hi => hr2.strs.wordZ hi⟩
  have HX2 := Lib.hid (HX1.out.below hb2 HX1.out.lt)
  have HY2 := Lib.hid (HY1.out.below hb2 HY1.out.lt)
  have HB2 := Lib.hid (HB1.out.trans (hb2.mono HB1.out.size))
  have HR2 := Lib.hid (HR.out.below (HB2.out.mono hB))
  have HH2 := Lib.hid (HH.out.below HB2.out)
  have hs2 : w.heap.size + 2 ≤ w2.heap.size := Nat.le_trans hs1 hb2.size
  have cw0 := hwc 0 hpos
  have HWC := Lib.hid hwc
  have HWD := Lib.hid (words_cut s)
  clear hb2 hr2 hwc HX1 HY1 HB1
  go_wp2_with fail
  refine (spec_kind (wordAt s 0) _).mono ?_
  rintro e w3 ⟨rfl, rfl⟩
  clear cw0
  have kp : ∀ U U' : World, Below U.heap.size U U' → ReadB U B v b ∧ B ≤ U.heap.size → ReadB U' B v b ∧ B ≤ U'.heap.size := fun U U' hb h => ⟨h.1.below (hb.mono h.2), Nat.le_trans h.2 hb.size⟩
  have ks : ∀ (U : World) (g : Nat), B ≤ g → ∀ v' b', ReadB U B v b ∧ B ≤ U.heap.size → ReadB (sets U (putL g v' b')) B v b ∧ B ≤ (sets U (putL g v' b')).heap.size := fun U g hg v' b' h => ⟨h.1.below (sets_below _ (Below.refl _ _) (fun q hq => by rw [putL_block q hq]; exact hg)), by rw [sets_size]; exact h.2⟩
  have KP := Lib.hid kp
  have KS := Lib.hid ks
  clear kp ks
  have hBw : B ≤ w2.heap.size := by omega
  have c0 := HX2.out.cells
  cases h1 : isT s wTick
  · have g1 : (s.toList == [116, 105, 99, 107]) = false := h1
    cases h2 : isT s wBlock
    · have g2 : (s.toList == [98, 108, 111, 99, 107]) = false := h2
      cases h3 : isT s wRest
      · have g3 : (s.toList == [114, 101, 115, 116]) = false := h3
        have HNW : Hid (b.line s = (if callLine s = true then b.ask (kindOf (cutW s)) (wordN (cutR s)) else b) ∧ b.reply s = (if callLine s = true then (if b.askOk (kindOf (cutW s)) (wordN (cutR s)) = true then rOk else rNo) else toldL b s)) := Lib.hid ⟨by simp [Bld.line, h1, h2, h3], by simp [Bld.reply, h1, h2, h3]⟩
        clear h1 h2 h3
        have HW4 := Lib.hid HWD.out.2.2.1
        have HW5 := Lib.hid HWD.out.2.2.2
        have HW1 := Lib.hid HWD.out.1
        have HSP := Lib.hid (fun W => spec_l1Read (wordAt s 1) (by have := wordAt_smallZ s 1; omega) W)
        have HCW : Hid (∀ W, ReadB W B v b ∧ B ≤ W.heap.size → Calls Tryz.prog 61 #[bval v b, .int .i64 (kindOf (wordAt s 0)), .int .i64 (wordNo (wordAt s 1))] W (CallPost b (kindOf (wordAt s 0)) (wordNo (wordAt s 1)) W)) := Lib.hid (fun W h => spec_BuildCall (v := v) (b := b) (kindOf (wordAt s 0)) (wordNo (wordAt s 1)) HSm.out h.2 h.1)
        clear HWD
        have key : (callLine s = false ∧ (kindOf (wordAt s 0) < 0 ∨ (0 ≤ kindOf (wordAt s 0) ∧ readN s ≠ 2) ∨ (0 ≤ kindOf (wordAt s 0) ∧ readN s = 2 ∧ wordNo (wordAt s 1) = -1))) ∨ (callLine s = true ∧ 0 ≤ kindOf (wordAt s 0) ∧ readN s = 2 ∧ 0 ≤ wordNo (wordAt s 1) ∧ wordN (cutR s) = wordNo (wordAt s 1) ∧ kindOf (cutW s) = kindOf (wordAt s 0)) := by
          rw [HW4.out]
          by_cases k0 : kindOf (wordAt s 0) < 0
          · left
            have : ¬ 0 ≤ kindOf (wordAt s 0) := by omega
            exact ⟨by simp [this], .inl k0⟩
          · have k1 : 0 ≤ kindOf (wordAt s 0) := by omega
            by_cases k2 : readN s = 2
            · cases k3 : wordOk (wordAt s 1)
              · left
                exact ⟨by simp, .inr (.inr ⟨k1, k2, wordNo_no k3⟩)⟩
              · right
                refine ⟨by simp [k1, k2], k1, k2, by rw [wordNo_yes k3]; omega, by rw [HW5.out k2, wordNo_yes k3, wordN_yes k3], by rw [HW1.out]⟩
            · left
              exact ⟨by simp [k2], .inr (.inl ⟨k1, k2⟩)⟩
        clear HW4 HW5 HW1
        generalize hkd : kindOf (wordAt s 0) = kd at *
        generalize hfn : wordNo (wordAt s 1) = fn at *
        generalize hx1 : wordAt s 1 = x1 at *
        clear hkd
        rcases key with ⟨hcl, hways⟩ | ⟨hcl, k1, k2, k3, k4, k5⟩
        · have HL : Hid (b.line s = b ∧ b.reply s = toldL b s) := Lib.hid (by
            have := HNW.out
            simpa [hcl] using this)
          clear hcl HNW HCW hfn
          generalize hbe : b.line s = b' at *
          have HBE := Lib.hid hbe
          clear hbe
          have HG : Hid (LnG w w.heap.size (w.heap.size + 1) (bcells v b) (fun W => ReadB W B v b ∧ B ≤ W.heap.size) w2) := Lib.hid ⟨HX2.out, ⟨_, _, _, _, _, _, _, _, _, _, _, HY2.out⟩, ⟨HR2.out, hBw⟩, HB2.out, HH2.out⟩
          clear HX2 HY2 HB2 HR2 HH2 c0
          rcases hways with k0 | ⟨k1, k2⟩ | ⟨k1, k2, k3⟩
          case' inl =>
            go_wp2_with fail
            rename_i hK _
          case' inr.inl =>
            have hn2 : ((readN s : Int) == 2) = false := by simp; omega
            go_wp2_with fail
            rename_i hK
          case' inr.inr =>
            have cw1 := HWC.out 1 (by omega)
            rw [hx1] at cw1
            subst k3
            rw [k2]
            clear k2
            go_wp2_with fail
            refine (HSP.out _).mono ?_
            rintro e w3 ⟨rfl, hw3⟩
            subst hw3
            clear cw1
            go_wp2_with fail
            rename_i hK
          all_goals
            refine wp_region_any (by kernel_rfl) ?_
            refine wpAny_typed 7 (fun i => (#[67, 68, 69, 70, 71, 1000, 5] : Array Nat).getD i 0) (fun i => i == 5) (LnR (w.heap.size + 2) (w.heap.size + 1) (bval v b) b (.string s) ⟨(toldL b s).toArray⟩) (fun _ W => LnG w w.heap.size (w.heap.size + 1) (bcells v b) (fun W => ReadB W B v b ∧ B ≤ W.heap.size) W) rfl 72 rfl (by kernel_rfl) (HG.out.drewN KP.out 1) ?_ ?_
            · intro a W U hR hG
              obtain ⟨F, hf, ha⟩ := U.form [false, false, false, false, false, true, false, false, false, false, false, false, false, false, false, false, false, false, false, false, false, false, false, false, false, false, false, false, false, false, false, false, false, false, false, false, false, false, false, false, false, false, false, false, false, false, false, false, false, false, false, false, false, false, false, false, false, false, false, false, false, false, false, false, false, false, false, true, true, true, true, true] rfl (by decide)
              obtain ⟨v4, hy, ho4⟩ : ∃ v', Bx W (w.heap.size + 1) (bcells v' b) ∧ OwnB W (w.heap.size + 2) v' b := hR 5 (by omega)
              have e2 : a.tmps.getD 5 undef = F 5 := hf 6 (by omega)
              have h6 : a.tmps.getD 5 undef = .string ⟨(toldL b s).toArray⟩ := hR 6 (by omega)
              have h2 : F 5 = .string ⟨(toldL b s).toArray⟩ := e2.symm.trans h6
              simp only [letters, cond_true, cond_false, Nat.reduceAdd, h2] at ha
              obtain ⟨kk, hkk, hg⟩ := hG
              have HY := Lib.hid hy
              have HO := Lib.hid ho4
              have HB := Lib.hid hg.b
              clear hR hf U hg hy ho4 e2 h6 h2 HG
              subst ha
              refine hK _ _ ?_
              generalize htx : ByteArray.mk (toldL b s).toArray = tx
              have HTX := Lib.hid htx
              clear htx
              have c1 := HY.out.cells
              unfold bcells at c1
              go_wp2
              refine bodyPost_ret (v := .tuple #[bval v4 b, .string tx]) (by simp [bval, bcells, results, Tryz.results17, go_sem, c1]) rfl ⟨v4, by rw [HBE.out, HL.out.1, HL.out.2, HTX.out]; rfl, ?_, HB.out⟩
              rw [HBE.out, HL.out.1]
              exact HO.out.mono (by omega)
            · intro i' o ho a W k' U hG hk' hd
              have hlt : i' < 7 := (Array.getElem?_eq_some_iff.1 ho).1
              have hu1 := U.other 1 (by decide)
              have hu2 := U.other 2 (by decide)
              have hu4 := U.other 4 (by decide)
              have t1 : a.tmps[1]?.getD undef = .string s := by simpa using hu1
              have t2 : a.tmps[2]?.getD undef = .pointer (some ⟨w.heap.size, 0, none⟩) := by simpa using hu2
              have t4 : a.tmps[4]?.getD undef = .pointer (some ⟨w.heap.size + 1, 0, none⟩) := by simpa using hu4
              have hsz : w.heap.size + 2 ≤ W.heap.size := by
                have := hG.x0.lt
                obtain ⟨_, _, _, _, _, _, _, _, _, _, _, h⟩ := hG.x1
                have := h.lt
                omega
              rcases (by omega : i' = 0 ∨ i' = 1 ∨ i' = 2 ∨ i' = 3 ∨ i' = 4 ∨ i' = 5 ∨ i' = 6) with rfl | rfl | rfl | rfl | rfl | rfl | rfl
              all_goals (refine wpOp_of ho (by cases ho; rfl) ?_; cases ho)
              · have c := hG.x0.cells
                unfold bcells at c
                unfold Oper.wp
                simp [go_sem, Act.eval, t2, c]
                exact ⟨hG, fun j v _ h => h, .inl ⟨rfl, _, rfl, rfl⟩⟩
              · have h0 := hd ⟨0, .data⟩ (by simp) rfl
                have u0 : a.tmps[67]?.getD undef = bval v b := by simpa [LnR] using h0
                unfold Oper.wp
                simp [go_sem, Act.eval, u0]
                refine (l27Copy_any (v := v) (b := b) (by have := HSZ.out; omega) (by have := HSZ.out; omega) (by have := HSZ.out; omega) (by have := HSZ.out; omega) (by have := HSZ.out; omega) (by have := HSZ.out; omega) (by have := HSZ.out; omega) (by have := HSZ.out; omega) hG.k.2 hG.k.1).mono ?_
                rintro e w' ⟨v', rfl, ho', hb'⟩
                exact ⟨hG.below KP.out hb', fun j v _ h => LnR.below hb' j v h, .inl ⟨rfl, _, rfl, ⟨v', rfl, ho'.mono hsz⟩⟩⟩
              · have c := hG.x0.cells
                unfold bcells at c
                unfold Oper.wp
                simp [go_sem, Act.eval, t2, c]
                exact ⟨hG, fun j v _ h => h, .inl ⟨rfl, _, rfl, rfl⟩⟩
              · unfold Oper.wp
                simp [go_sem, Act.eval, t1]
                exact ⟨hG, fun j v _ h => h, .inl ⟨rfl, _, rfl, rfl⟩⟩
              · have h0 := hd ⟨2, .data⟩ (by simp) rfl
                have h1 := hd ⟨3, .data⟩ (by simp) rfl
                have u0 : a.tmps[69]?.getD undef = bval v b := by simpa [LnR] using h0
                have u1 : a.tmps[70]?.getD undef = .string s := by simpa [LnR] using h1
                unfold Oper.wp
                simp [go_sem, Act.eval, u0, u1]
                refine (spec_told (v := v) (b := b) s HOK.out HSm.out hG.k.2 hG.k.1).mono ?_
                rintro e w' ⟨rfl, hb'⟩
                exact ⟨hG.below KP.out hb', fun j v _ h => LnR.below hb' j v h, .inl ⟨rfl, _, rfl, rfl⟩⟩
              · obtain ⟨v', h0, ho'⟩ := hd ⟨1, .data⟩ (by simp) rfl
                have u0 : a.tmps[68]?.getD undef = bval v' b := by simpa using h0
                obtain ⟨hg1, hg2⟩ := hG.stored HH.out (fun U v b h => KS.out U _ (by omega) v b h) (by omega) (by omega) v' b
                obtain ⟨a0, a1, a2, a3, a4, a5, a6, a7, a8, a9, a10, hy⟩ := hG.x1
                have c := hy.cells
                have fz := hy.free
                unfold bval bcells at u0
                unfold Oper.wp
                simp [go_sem, Act.eval, t4, u0, c, fz]
                exact ⟨hg1, fun j v hj h => LnR.stored (by omega) v' b j v hj h, .inr ⟨rfl, ⟨v', hg2, own_sets ho' (by omega)⟩⟩⟩
              · have h0 := hd ⟨4, .data⟩ (by simp) rfl
                generalize htx : ByteArray.mk (toldL b s).toArray = tx at *
                have u0 : a.tmps[71]?.getD undef = .string tx := by simpa [LnR] using h0
                unfold Oper.wp
                simp [go_sem, Act.eval, u0]
                exact ⟨hG, fun j v _ h => h, .inl ⟨rfl, _, rfl, rfl⟩⟩
        · have HL : Hid (b.line s = b.ask kd fn ∧ b.reply s = (if b.askOk kd fn = true then rOk else rNo)) := Lib.hid (by
            have := HNW.out
            rw [k4, k5] at this
            simpa [hcl] using this)
          have HE := Lib.hid (called_yes (kind := kd) (fl := fn) HV.out)
          unfold CallPost at HCW
          rw [HE.out.1, HE.out.2, ← HL.out.1] at HCW
          have cw1 := HWC.out 1 (by omega)
          rw [hx1] at cw1
          have cwlt := World.block_lt_of_cell? w2 _ cw1
          have HFN : Hid (wordNo x1 = fn) := Lib.hid hfn
          clear HE HNW hcl k4 k5 hfn
          generalize hbe : b.line s = b' at *
          have HBE := Lib.hid hbe
          clear hbe
          generalize hok2 : b.askOk kd fn = ok at *
          clear hok2
          rw [k2]
          clear k2
          go_wp2_with fail
          refine (HSP.out _).mono ?_
          rintro e w3 ⟨rfl, hw3⟩
          obtain rfl : w2 = w3 := hw3.symm
          go_wp2_with fail
          rename_i hK
          have HG : Hid (LnG w w.heap.size (w.heap.size + 1) (bcells v b) (fun W => (ReadB W B v b ∧ B ≤ W.heap.size) ∧ (bw < W.heap.size ∧ W.cell? ⟨bw, 1, none⟩ = some (.string x1) ∧ w2.heap.size ≤ W.heap.size)) w2) := Lib.hid ⟨HX2.out, ⟨_, _, _, _, _, _, _, _, _, _, _, HY2.out⟩, ⟨⟨HR2.out, hBw⟩, ⟨cwlt, cw1, Nat.le_refl _⟩⟩, HB2.out, HH2.out⟩
          clear HX2 HY2 HB2 HR2 HH2 c0 cw1
          have KP2 : Hid (∀ U U' : World, Below U.heap.size U U' → (ReadB U B v b ∧ B ≤ U.heap.size) ∧ (bw < U.heap.size ∧ U.cell? ⟨bw, 1, none⟩ = some (.string x1) ∧ w2.heap.size ≤ U.heap.size) → (ReadB U' B v b ∧ B ≤ U'.heap.size) ∧ (bw < U'.heap.size ∧ U'.cell? ⟨bw, 1, none⟩ = some (.string x1) ∧ w2.heap.size ≤ U'.heap.size)) :=
            Lib.hid (fun U U' hb h => ⟨KP.out U U' hb h.1, by have := hb.size; have := h.2.1; omega, (hb.cell (p := ⟨bw, 1, none⟩) h.2.1).trans h.2.2.1, Nat.le_trans h.2.2.2 hb.size⟩)
          refine wp_region_any (by kernel_rfl) ?_
          refine wpAny_typed 13 (fun i => (#[54, 55, 56, 57, 58, 59, 60, 53, 61, 62, 8, 8, 9] : Array Nat).getD i 0) (fun i => i == 11) (LnC (w.heap.size + 2) w2.heap.size bw cw (bval v b) kd fn x1 b' ok) (fun _ W => LnG w w.heap.size (w.heap.size + 1) (bcells v b) (fun W => (ReadB W B v b ∧ B ≤ W.heap.size) ∧ (bw < W.heap.size ∧ W.cell? ⟨bw, 1, none⟩ = some (.string x1) ∧ w2.heap.size ≤ W.heap.size)) W) rfl 72 rfl (by kernel_rfl) (HG.out.drewN KP2.out 1) ?_ ?_
          · intro a W U hR hG
            obtain ⟨F, hf, ha⟩ := U.form [false, false, false, false, false, false, false, false, true, true, false, false, false, false, false, false, false, false, false, false, false, false, false, false, false, false, false, false, false, false, false, false, false, false, false, false, false, false, false, false, false, false, false, false, false, false, false, false, false, false, false, false, false, true, true, true, true, true, true, true, true, true, true, false, false, false, false, false, false, false, false, false] rfl (by decide)
            obtain ⟨g8, v4, e8, hlo, hy, ho4⟩ : ∃ g v', a.tmps.getD 8 undef = .pointer (some ⟨g, 0, none⟩) ∧ w2.heap.size ≤ g ∧ KBx W g (bcells v' b') ∧ OwnB W (w.heap.size + 2) v' b' := hR 11 (by omega)
            have f8 : a.tmps.getD 8 undef = F 8 := hf 10 (by omega)
            have f9 : a.tmps.getD 9 undef = F 9 := hf 12 (by omega)
            have h9 : a.tmps.getD 9 undef = .bool ok := hR 12 (by omega)
            have q8 : F 8 = .pointer (some ⟨g8, 0, none⟩) := f8.symm.trans e8
            have q9 : F 9 = .bool ok := f9.symm.trans h9
            simp only [letters, cond_true, cond_false, Nat.reduceAdd, q8, q9] at ha
            obtain ⟨kk, hkk, hg⟩ := hG
            have HY := Lib.hid hy
            have HO := Lib.hid ho4
            have HB := Lib.hid hg.b
            obtain ⟨a0, a1, a2, a3, a4, a5, a6, a7, a8, a9, a10, hx⟩ := hg.x1
            have HX := Lib.hid hx
            clear hR hf U hg hy ho4 e8 f8 f9 h9 q8 q9 HG hx
            subst ha
            refine hK _ _ ?_
            have c8 := HY.out.bx.cells
            have c1 := HX.out.cells
            have z1 := HX.out.free
            unfold bcells at c8
            cases ok
            · go_wp2
              refine bodyPost_ret (v := .tuple #[bval v4 b', .string ⟨#[110, 111]⟩]) (by simp [bval, bcells, results, Tryz.results17, go_sem, c1, c8]) rfl ⟨v4, by rw [HL.out.2, HBE.out]; rfl, ?_, ?_⟩
              · rw [HBE.out]
                refine OwnB.mono (base := w.heap.size + 2) ?_ (by omega)
                repeat (refine ownB_set (by simp <;> omega) ?_)
                exact HO.out
              · repeat (refine below_set (by simp <;> omega) ?_)
                exact HB.out
            · go_wp2
              refine bodyPost_ret (v := .tuple #[bval v4 b', .string ⟨#[111, 107]⟩]) (by simp [bval, bcells, results, Tryz.results17, go_sem, c1, c8]) rfl ⟨v4, by rw [HL.out.2, HBE.out]; rfl, ?_, ?_⟩
              · rw [HBE.out]
                refine OwnB.mono (base := w.heap.size + 2) ?_ (by omega)
                repeat (refine ownB_set (by simp <;> omega) ?_)
                exact HO.out
              · repeat (refine below_set (by simp <;> omega) ?_)
                exact HB.out
          · intro i' o ho a W k' U hG hk' hd
            have hlt : i' < 13 := (Array.getElem?_eq_some_iff.1 ho).1
            have hu2 := U.other 2 (by decide)
            have hu6 := U.other 6 (by decide)
            have hu7 := U.other 7 (by decide)
            have t2 : a.tmps[2]?.getD undef = .pointer (some ⟨w.heap.size, 0, none⟩) := by simpa using hu2
            have t6 : a.tmps[6]?.getD undef = .slice (some ⟨bw, 0, none⟩) 2 cw := by simpa using hu6
            have t7 : a.tmps[7]?.getD undef = .int .i64 kd := by simpa using hu7
            rcases (by omega : i' = 0 ∨ i' = 1 ∨ i' = 2 ∨ i' = 3 ∨ i' = 4 ∨ i' = 5 ∨ i' = 6 ∨ i' = 7 ∨ i' = 8 ∨ i' = 9 ∨ i' = 10 ∨ i' = 11 ∨ i' = 12) with rfl | rfl | rfl | rfl | rfl | rfl | rfl | rfl | rfl | rfl | rfl | rfl | rfl
            all_goals (refine wpOp_of ho (by cases ho; rfl) ?_; cases ho)
            · have c := hG.x0.cells
              unfold bcells at c
              unfold Oper.wp
              simp [go_sem, Act.eval, t2, c]
              exact ⟨hG, fun j v _ h => h, .inl ⟨rfl, _, rfl, rfl⟩⟩
            · unfold Oper.wp
              simp [go_sem, Act.eval, t7]
              exact ⟨hG, fun j v _ h => h, .inl ⟨rfl, _, rfl, rfl⟩⟩
            · unfold Oper.wp
              simp [go_sem, Act.eval, t6]
              exact ⟨hG, fun j v _ h => h, .inl ⟨rfl, _, rfl, rfl⟩⟩
            · have h0 := hd ⟨2, .data⟩ (by simp) rfl
              have u0 : a.tmps[56]?.getD undef = .slice (some ⟨bw, 0, none⟩) 2 cw := by simpa [LnC] using h0
              unfold Oper.wp
              simp [go_sem, Act.eval, u0]
              exact ⟨hG, fun j v _ h => h, .inl ⟨rfl, _, rfl, rfl⟩⟩
            · have h0 := hd ⟨3, .data⟩ (by simp) rfl
              have u0 : a.tmps[57]?.getD undef = .pointer (some ⟨bw, 1, none⟩) := by simpa [LnC] using h0
              have cc := hG.k.2.2.1
              unfold Oper.wp
              simp [go_sem, Act.eval, u0, cc]
              exact ⟨hG, fun j v _ h => h, .inl ⟨rfl, _, rfl, rfl⟩⟩
            · have h0 := hd ⟨4, .data⟩ (by simp) rfl
              have u0 : a.tmps[58]?.getD undef = .string x1 := by simpa [LnC] using h0
              unfold Oper.wp
              simp [go_sem, Act.eval, u0]
              refine (HSP.out W).mono ?_
              rintro e w' ⟨rfl, hw⟩
              rw [hw]
              exact ⟨hG, fun j v _ h => h, .inl ⟨rfl, _, rfl, rfl⟩⟩
            · have h0 := hd ⟨0, .data⟩ (by simp) rfl
              have h1 := hd ⟨1, .data⟩ (by simp) rfl
              have h2 := hd ⟨5, .data⟩ (by simp) rfl
              have u0 : a.tmps[54]?.getD undef = bval v b := by simpa [LnC] using h0
              have u1 : a.tmps[55]?.getD undef = .int .i64 kd := by simpa [LnC] using h1
              have u2 : a.tmps[59]?.getD undef = .int .i64 fn := by simpa [LnC] using h2
              have hsz : w.heap.size + 2 ≤ W.heap.size := Nat.le_trans hs2 hG.k.2.2.2
              unfold Oper.wp
              simp [go_sem, Act.eval, u0, u1, u2]
              refine (HCW.out W hG.k.1).mono ?_
              rintro e w' ⟨v', rfl, ho', hb'⟩
              exact ⟨hG.below KP2.out hb', fun j v _ h => LnC.below hb' j v h, .inl ⟨rfl, _, rfl, ⟨v', rfl, ho'.mono hsz⟩⟩⟩
            · obtain ⟨v', h0, ho'⟩ := hd ⟨6, .data⟩ (by simp) rfl
              have u0 : a.tmps[60]?.getD undef = .tuple #[bval v' b', .bool ok] := by simpa using h0
              unfold Oper.wp
              simp [go_sem, Act.eval, u0]
              exact ⟨hG, fun j v _ h => h, .inl ⟨rfl, _, rfl, ⟨v', rfl, ho'⟩⟩⟩
            · obtain ⟨v', h0, ho'⟩ := hd ⟨7, .data⟩ (by simp) rfl
              have u0 : a.tmps[53]?.getD undef = .tuple #[bval v' b', .bool ok] := by simpa using h0
              unfold Oper.wp
              simp [go_sem, Act.eval, u0]
              exact ⟨hG, fun j v _ h => h, .inl ⟨rfl, _, rfl, ⟨v', rfl, ho'⟩⟩⟩
            · obtain ⟨v', h0, ho'⟩ := hd ⟨7, .data⟩ (by simp) rfl
              have u0 : a.tmps[53]?.getD undef = .tuple #[bval v' b', .bool ok] := by simpa using h0
              unfold Oper.wp
              simp [go_sem, Act.eval, u0]
              exact ⟨hG, fun j v _ h => h, .inl ⟨rfl, _, rfl, rfl⟩⟩
            · have hba := (Below.refl W.heap.size W).alloc (Nat.le_refl _) (.cells (bcells Bv.none Bld.none) 36)
              unfold bcells at hba
              simp only [Bv.none, Bld.none] at hba
              unfold Oper.wp
              simp [go_sem, Act.eval]
              refine ⟨hG.below KP2.out hba, fun j v _ h => LnC.below hba j v h, .inl ⟨rfl, _, rfl, ⟨W.heap.size, rfl, hG.k.2.2.2, .slice none 0 0, .int .i64 0, .int .i64 0, .int .i64 0, .int .i64 0, .slice none 0 0, .slice none 0 0, .slice none 0 0, .int .i64 0, .int .i64 0, .bool false, ?_⟩⟩⟩
              show (W.heap.push _)[W.heap.size]? = _
              simp
            · obtain ⟨v', h0, ho'⟩ := hd ⟨8, .data⟩ (by simp) rfl
              obtain ⟨g8, h1, hlo, a0, a1, a2, a3, a4, a5, a6, a7, a8, a9, a10, hy⟩ := hd ⟨10, .data⟩ (by simp) rfl
              have u0 : a.tmps[61]?.getD undef = bval v' b' := by simpa using h0
              have u1 : a.tmps[8]?.getD undef = .pointer (some ⟨g8, 0, none⟩) := by simpa using h1
              have c := hy.bx.cells
              have fz := hy.bx.free
              unfold bval bcells at u0
              unfold Oper.wp
              simp [go_sem, Act.eval, u1, u0, c, fz]
              have hbl8 : Below g8 W (sets W (putL g8 v' b')) := sets_below _ (Below.refl _ _) (fun q hq => by rw [putL_block q hq]; exact Nat.le_refl _)
              obtain ⟨y0, y1, y2, y3, y4, y5, y6, y7, y8, y9, y10, hx⟩ := hG.x1
              have cwl : bw < w2.heap.size := cwlt
              have hG' : LnG w w.heap.size (w.heap.size + 1) (bcells v b) (fun W => (ReadB W B v b ∧ B ≤ W.heap.size) ∧ (bw < W.heap.size ∧ W.cell? ⟨bw, 1, none⟩ = some (.string x1) ∧ w2.heap.size ≤ W.heap.size)) (sets W (putL g8 v' b')) :=
                ⟨hG.x0.below hbl8 (by omega), ⟨_, _, _, _, _, _, _, _, _, _, _, hx.below hbl8 (by omega)⟩, ⟨⟨hG.k.1.1.below (hbl8.mono (by omega)), by rw [sets_size]; exact hG.k.1.2⟩, by rw [sets_size]; exact hG.k.2.1, (hbl8.cell (p := ⟨bw, 1, none⟩) (by show bw < g8; omega)).trans hG.k.2.2.1, by rw [sets_size]; exact hG.k.2.2.2⟩,
                  hG.b.trans (hbl8.mono (by omega)), HH.out.below (hG.b.trans (hbl8.mono (by omega)))⟩
              exact ⟨hG', fun j v hj h => LnC.stored hy v' b' j v hj h, .inr ⟨rfl, ⟨g8, v', h1, hlo, hy.put v' b', own_offs (putL g8 v' b') ho' (koff hy ho') (fun q hq => putL_block q hq)⟩⟩⟩
            · have h0 := hd ⟨9, .data⟩ (by simp) rfl
              have u0 : a.tmps[62]?.getD undef = .bool ok := by simpa [LnC] using h0
              unfold Oper.wp
              simp [go_sem, Act.eval, u0]
              exact ⟨hG, fun j v _ h => h, .inl ⟨rfl, _, rfl, rfl⟩⟩
      · have g3 : (s.toList == [114, 101, 115, 116]) = true := h3
        have HL : Hid (b.after b.rest = b.line s ∧ b.reply s = Lib.itoa (b.rest : Int) ∧ b.restTicks = (b.rest : Int) ∧ b.rested = b.after b.rest) := Lib.hid ⟨by simp [Bld.line, h1, h2, h3], by simp [Bld.reply, h1, h2, h3], restTicks_yes HV.out, rested_yes HV.out⟩
        have hrb := (rest_bound HOK.out).2
        clear h1 h2 h3
        go_wp2_with fail
        rename_i hK
        have HG : Hid (LnG w w.heap.size (w.heap.size + 1) (bcells v b) (fun W => ReadB W B v b ∧ B ≤ W.heap.size) w2) := Lib.hid ⟨HX2.out, ⟨_, _, _, _, _, _, _, _, _, _, _, HY2.out⟩, ⟨HR2.out, hBw⟩, HB2.out, HH2.out⟩
        clear HX2 HY2 HB2 HR2 HH2 HWC HWD c0
        generalize hrt : b.rest = rt at *
        generalize hbe : b.line s = b' at *
        have HBE := Lib.hid hbe
        clear hbe
        refine wp_region_any (by kernel_rfl) ?_
        refine wpAny_typed 7 (fun i => (#[33, 34, 35, 36, 37, 1000, 5] : Array Nat).getD i 0) (fun i => i == 5) (LnR (w.heap.size + 2) (w.heap.size + 1) (bval v b) b' (.int .i64 (rt : Int)) ⟨(Lib.itoa (rt : Int)).toArray⟩) (fun _ W => LnG w w.heap.size (w.heap.size + 1) (bcells v b) (fun W => ReadB W B v b ∧ B ≤ W.heap.size) W) rfl 72 rfl (by kernel_rfl) (HG.out.drewN KP.out 1) ?_ ?_
        · intro a W U hR hG
          obtain ⟨F, hf, ha⟩ := U.form [false, false, false, false, false, true, false, false, false, false, false, false, false, false, false, false, false, false, false, false, false, false, false, false, false, false, false, false, false, false, false, false, false, true, true, true, true, true, false, false, false, false, false, false, false, false, false, false, false, false, false, false, false, false, false, false, false, false, false, false, false, false, false, false, false, false, false, false, false, false, false, false] rfl (by decide)
          obtain ⟨v4, hy, ho4⟩ : ∃ v', Bx W (w.heap.size + 1) (bcells v' b') ∧ OwnB W (w.heap.size + 2) v' b' := hR 5 (by omega)
          have e2 : a.tmps.getD 5 undef = F 5 := hf 6 (by omega)
          have h6 : a.tmps.getD 5 undef = .string ⟨(Lib.itoa (rt : Int)).toArray⟩ := hR 6 (by omega)
          have h2 : F 5 = .string ⟨(Lib.itoa (rt : Int)).toArray⟩ := e2.symm.trans h6
          simp only [letters, cond_true, cond_false, Nat.reduceAdd, h2] at ha
          obtain ⟨kk, hkk, hg⟩ := hG
          have HY := Lib.hid hy
          have HO := Lib.hid ho4
          have HB := Lib.hid hg.b
          clear hR hf U hg hy ho4 e2 h6 h2 HG
          subst ha
          refine hK _ _ ?_
          generalize htx : ByteArray.mk (Lib.itoa (rt : Int)).toArray = tx
          have HTX := Lib.hid htx
          clear htx
          have c1 := HY.out.cells
          unfold bcells at c1
          go_wp2
          refine bodyPost_ret (v := .tuple #[bval v4 b', .string tx]) (by simp [bval, bcells, results, Tryz.results17, go_sem, c1]) rfl ⟨v4, by rw [HL.out.2.1, HBE.out, HTX.out]; rfl, ?_, HB.out⟩
          rw [HBE.out]
          exact HO.out.mono (by omega)
        · intro i' o ho a W k' U hG hk' hd
          have hlt : i' < 7 := (Array.getElem?_eq_some_iff.1 ho).1
          have hu2 := U.other 2 (by decide)
          have hu4 := U.other 4 (by decide)
          have t2 : a.tmps[2]?.getD undef = .pointer (some ⟨w.heap.size, 0, none⟩) := by simpa using hu2
          have t4 : a.tmps[4]?.getD undef = .pointer (some ⟨w.heap.size + 1, 0, none⟩) := by simpa using hu4
          have hsz : w.heap.size + 2 ≤ W.heap.size := by
            have := hG.x0.lt
            obtain ⟨_, _, _, _, _, _, _, _, _, _, _, h⟩ := hG.x1
            have := h.lt
            omega
          rcases (by omega : i' = 0 ∨ i' = 1 ∨ i' = 2 ∨ i' = 3 ∨ i' = 4 ∨ i' = 5 ∨ i' = 6) with rfl | rfl | rfl | rfl | rfl | rfl | rfl
          all_goals (refine wpOp_of ho (by cases ho; rfl) ?_; cases ho)
          · have c := hG.x0.cells
            unfold bcells at c
            unfold Oper.wp
            simp [go_sem, Act.eval, t2, c]
            exact ⟨hG, fun j v _ h => h, .inl ⟨rfl, _, rfl, rfl⟩⟩
          · have h0 := hd ⟨0, .data⟩ (by simp) rfl
            have u0 : a.tmps[33]?.getD undef = bval v b := by simpa [LnR] using h0
            unfold Oper.wp
            simp [go_sem, Act.eval, u0]
            refine (spec_RestEnd (v := v) (b := b) HSm.out hG.k.2 hG.k.1).mono ?_
            unfold EndPost
            rw [HL.out.2.2.2, HL.out.1]
            rintro e w' ⟨v', rfl, ho', hb'⟩
            exact ⟨hG.below KP.out hb', fun j v _ h => LnR.below hb' j v h, .inl ⟨rfl, _, rfl, ⟨v', rfl, ho'.mono hsz⟩⟩⟩
          · have c := hG.x0.cells
            unfold bcells at c
            unfold Oper.wp
            simp [go_sem, Act.eval, t2, c]
            exact ⟨hG, fun j v _ h => h, .inl ⟨rfl, _, rfl, rfl⟩⟩
          · have h0 := hd ⟨2, .data⟩ (by simp) rfl
            have u0 : a.tmps[35]?.getD undef = bval v b := by simpa [LnR] using h0
            unfold Oper.wp
            simp [go_sem, Act.eval, u0]
            refine (spec_RestTicks (v := v) (b := b) HSm.out hG.k.2 hG.k.1).mono ?_
            rw [HL.out.2.2.1]
            rintro e w' ⟨rfl, hb'⟩
            exact ⟨hG.below KP.out hb', fun j v _ h => LnR.below hb' j v h, .inl ⟨rfl, _, rfl, rfl⟩⟩
          · have h0 := hd ⟨3, .data⟩ (by simp) rfl
            have u0 : a.tmps[36]?.getD undef = .int .i64 (rt : Int) := by simpa [LnR] using h0
            unfold Oper.wp
            simp [go_sem, Act.eval, u0]
            refine (l1Number_int (rt : Int) (by omega) (by omega) _).mono ?_
            rintro e w' ⟨rfl, hb'⟩
            exact ⟨hG.below KP.out hb', fun j v _ h => LnR.below hb' j v h, .inl ⟨rfl, _, rfl, rfl⟩⟩
          · obtain ⟨v', h0, ho'⟩ := hd ⟨1, .data⟩ (by simp) rfl
            have u0 : a.tmps[34]?.getD undef = bval v' b' := by simpa using h0
            obtain ⟨hg1, hg2⟩ := hG.stored HH.out (fun U v b h => KS.out U _ (by omega) v b h) (by omega) (by omega) v' b'
            obtain ⟨a0, a1, a2, a3, a4, a5, a6, a7, a8, a9, a10, hy⟩ := hG.x1
            have c := hy.cells
            have fz := hy.free
            unfold bval bcells at u0
            unfold Oper.wp
            simp [go_sem, Act.eval, t4, u0, c, fz]
            exact ⟨hg1, fun j v hj h => LnR.stored (by omega) v' b' j v hj h, .inr ⟨rfl, ⟨v', hg2, own_sets ho' (by omega)⟩⟩⟩
          · have h0 := hd ⟨4, .data⟩ (by simp) rfl
            generalize htx : ByteArray.mk (Lib.itoa (rt : Int)).toArray = tx at *
            have u0 : a.tmps[37]?.getD undef = .string tx := by simpa [LnR] using h0
            unfold Oper.wp
            simp [go_sem, Act.eval, u0]
            exact ⟨hG, fun j v _ h => h, .inl ⟨rfl, _, rfl, rfl⟩⟩
    · have g2 : (s.toList == [98, 108, 111, 99, 107]) = true := h2
      have HL : Hid (b.ticked true = b.line s ∧ b.reply s = rOk) := Lib.hid ⟨by rw [ticked_yes HV.out]; simp [Bld.line, h1, h2], by simp [Bld.reply, h1, h2]⟩
      clear h1 h2
      go_wp2_with fail
      refine (spec_BuildTick (v := v) (b := b) true HSm.out hBw HR2.out).mono ?_
      unfold TickPost
      rw [HL.out.1]
      rintro e w4 ⟨v4, rfl, ho4, hb4⟩
      have HY4 := Lib.hid (HY2.out.below hb4 HY2.out.lt)
      have HB4 := Lib.hid (HB2.out.trans (hb4.mono HB2.out.size))
      have HO4 := Lib.hid (ho4.mono (base' := w.heap.size + 2) hs2)
      clear ho4 hb4 HX2 HY2 HB2 c0
      generalize hbe : b.line s = b' at *
      have HBE := Lib.hid hbe
      clear hbe
      have c1 := HY4.out.cells
      have z1 := HY4.out.free
      simp only [bval, bcells]
      go_wp2
      refine bodyPost_ret (v := .tuple #[bval v4 b', .string ⟨#[111, 107]⟩]) (by simp [bval, bcells, results, Tryz.results17, go_sem, c1]) rfl ⟨v4, by rw [HL.out.2, HBE.out]; rfl, ?_, ?_⟩
      · rw [HBE.out]
        refine OwnB.mono (base := w.heap.size + 2) ?_ (by omega)
        repeat (refine ownB_set (by simp <;> omega) ?_)
        exact HO4.out
      · repeat (refine below_set (by simp <;> omega) ?_)
        exact HB4.out
  · have g1 : (s.toList == [116, 105, 99, 107]) = true := h1
    have HL : Hid (b.ticked false = b.line s ∧ b.reply s = rOk) := Lib.hid ⟨by rw [ticked_yes HV.out]; simp [Bld.line, h1], by simp [Bld.reply, h1]⟩
    clear h1
    go_wp2_with fail
    refine (spec_BuildTick (v := v) (b := b) false HSm.out hBw HR2.out).mono ?_
    unfold TickPost
    rw [HL.out.1]
    rintro e w4 ⟨v4, rfl, ho4, hb4⟩
    have HY4 := Lib.hid (HY2.out.below hb4 HY2.out.lt)
    have HB4 := Lib.hid (HB2.out.trans (hb4.mono HB2.out.size))
    have HO4 := Lib.hid (ho4.mono (base' := w.heap.size + 2) hs2)
    clear ho4 hb4 HX2 HY2 HB2 c0
    generalize hbe : b.line s = b' at *
    have HBE := Lib.hid hbe
    clear hbe
    have c1 := HY4.out.cells
    have z1 := HY4.out.free
    simp only [bval, bcells]
    go_wp2
    refine bodyPost_ret (v := .tuple #[bval v4 b', .string ⟨#[111, 107]⟩]) (by simp [bval, bcells, results, Tryz.results17, go_sem, c1]) rfl ⟨v4, by rw [HL.out.2, HBE.out]; rfl, ?_, ?_⟩
    · rw [HBE.out]
      refine OwnB.mono (base := w.heap.size + 2) ?_ (by omega)
      repeat (refine ownB_set (by simp <;> omega) ?_)
      exact HO4.out
    · repeat (refine below_set (by simp <;> omega) ?_)
      exact HB4.out

theorem impl_BuildLine {w : World} {B : Nat} {v : Bv} {b : Bld} (s : ByteArray) (hs : s.size ≤ 1048576) (hn : b.Small) (hB : B ≤ w.heap.size) (hr : ReadB w B v b) (hh : Here w) :
    Calls Tryz.prog 15 #[bval v b, .string s] w (LinePost b s w) := by
  cases hv : b.valid
  · exact impl_BuildLine_no s hn hB hr hv
  · exact impl_BuildLine_yes s hs hn hB hr hv hh
theorem spec_BuildLine {w : World} {B : Nat} {v : Bv} {b : Bld} (s : ByteArray) (hs : s.size ≤ 1048576) (hn : b.Small) (hB : B ≤ w.heap.size) (hr : ReadB w B v b) (hh : Here w) :
    Calls Tryz.prog 17 #[bval v b, .string s] w (LinePost b s w) := by
  cases hv : b.valid
  · exact spec_BuildLine_no s hn hB hr hv
  · exact spec_BuildLine_yes s hs hn hB hr hv hh
theorem lined_small {b : Bld} (h : b.Small) (s : ByteArray) : (b.lined s).Small := by
  cases hv : b.valid
  · rw [(lined_no hv).1]; exact none_small
  · rw [(lined_yes hv).1]
    have hz := (line_ok (valid_iff.1 hv) s).sizes
    refine ⟨?_, ?_, ?_, ?_⟩ <;> omega
end Go.Proofs.YthkpikkjgggimaaGreatDoor
