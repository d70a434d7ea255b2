/-
  The contracts of CallsText, the program's and the reference's. No claim stands here.
-/
import Derived.Test.YthkpikkjgggimaaGreatDoorBitT
import Derived.Test.YthkpikkjgggimaaGreatDoorBT
namespace Go.Proofs.YthkpikkjgggimaaGreatDoor
open Go.RowKit
set_option linter.unusedVariables false
set_option linter.unusedSimpArgs false

theorem impl_bits {w : World} {B : Nat} {A : Option Addr} {n c : Nat} {p : Nat → Bool} (hn : n ≤ 1000) (hB : B ≤ w.heap.size) (hs : Bools w B A n p) :
    Calls Tryz.prog 133 #[.slice A n c] w fun e w' => e = .returned (.string ⟨(bitsOf p n).toArray⟩) ∧ Below w.heap.size w w' := truthText_any hn hB hs
theorem spec_bits {w : World} {B : Nat} {A : Option Addr} {n c : Nat} {p : Nat → Bool} (hn : n ≤ 1000) (hB : B ≤ w.heap.size) (hs : Bools w B A n p) :
    Calls Tryz.prog 140 #[.slice A n c] w fun e w' => e = .returned (.string ⟨(bitsOf p n).toArray⟩) ∧ Below w.heap.size w w' :=
  (l8Bits_any hn hs).mono fun e w' h => ⟨h.1, by rw [← h.2]; exact Below.refl _ _⟩

/-- The text of calls. -/
def callsL (nu nd nc : Nat) (up dn car : Nat → Bool) : List UInt8 := bitsOf up nu ++ [47] ++ bitsOf dn nd ++ [47] ++ bitsOf car nc
def callsT (nu nd nc : Nat) (up dn car : Nat → Bool) : List UInt8 := if callsB nu nd nc up dn = true then callsL nu nd nc up dn car else []
theorem callsT_no {nu nd nc : Nat} {up dn car : Nat → Bool} (h : callsB nu nd nc up dn = false) : callsT nu nd nc up dn car = [] := by simp [callsT, h]
theorem callsT_yes {nu nd nc : Nat} {up dn car : Nat → Bool} (h : callsB nu nd nc up dn = true) : callsT nu nd nc up dn car = callsL nu nd nc up dn car := by simp [callsT, h]
/-- What the operations of the region leave. -/
def CtV (g : Nat) (U D C : Value) (tu td tc : List UInt8) : Nat → Value → Prop
  | 0, v => v = .pointer (some ⟨g, 0, none⟩)
  | 1, v => v = U
  | 2, v => v = .string ⟨tu.toArray⟩
  | 3, v => v = .string ⟨(tu ++ [47]).toArray⟩
  | 4, v => v = .pointer (some ⟨g, 1, none⟩)
  | 5, v => v = D
  | 6, v => v = .string ⟨td.toArray⟩
  | 7, v => v = .string ⟨(tu ++ [47] ++ td).toArray⟩
  | 8, v => v = .string ⟨(tu ++ [47] ++ td ++ [47]).toArray⟩
  | 9, v => v = .pointer (some ⟨g, 2, none⟩)
  | 10, v => v = C
  | 11, v => v = .string ⟨tc.toArray⟩
  | 12, v => v = .string ⟨(tu ++ [47] ++ td ++ [47] ++ tc).toArray⟩
  | 13, v => v = .string ⟨(tu ++ [47] ++ td ++ [47] ++ tc).toArray⟩
  | _, _ => True
def CtR (g : Nat) (U D C : Value) (tu td tc : List UInt8) (i : Nat) (v : Value) (_ : World) : Prop := CtV g U D C tu td tc i v
theorem sizes_add {a b : List UInt8} {x y : ByteArray} (ha : x = ⟨a.toArray⟩) (hb : y = ⟨b.toArray⟩) : x ++ y = ⟨(a ++ b).toArray⟩ := by
  subst ha hb; exact ByteArray.mk_append_mk ..
theorem size_mk (l : List UInt8) : (ByteArray.mk l.toArray).size = l.length := by show l.toArray.size = _; simp

set_option maxRecDepth 100000 in
set_option maxHeartbeats 3200000 in
theorem impl_CallsText {w : World} {B : Nat} {U D C : Option Addr} {nu cu nd cd nc cc : Nat} {up dn car : Nat → Bool} (n1 : nu ≤ 9223372036854775806) (n2 : nd ≤ 9223372036854775806) (n3 : nc ≤ 9223372036854775806) (hB : B ≤ w.heap.size)
    (hu : Bools w B U nu up) (hd : Bools w B D nd dn) (hc : Bools w B C nc car) :
    Calls Tryz.prog 100 #[.agg #[.slice U nu cu, .slice D nd cd, .slice C nc cc]] w fun e w' => e = .returned (.string ⟨(callsT nu nd nc up dn car).toArray⟩) ∧ Below w.heap.size w w' := by
  have HX0 := Lib.hid (Bx.new w #[.slice U nu cu, .slice D nd cd, .slice C nc cc] 32)
  have HB0 := Lib.hid ((Below.refl w.heap.size w).alloc (Nat.le_refl _) (.cells #[.slice U nu cu, .slice D nd cd, .slice C nc cc] 32))
  have HU := Lib.hid (hu.below ((Below.refl B w).alloc hB (.cells #[.slice U nu cu, .slice D nd cd, .slice C nc cc] 32)))
  have HD := Lib.hid (hd.below ((Below.refl B w).alloc hB (.cells #[.slice U nu cu, .slice D nd cd, .slice C nc cc] 32)))
  have HC := Lib.hid (hc.below ((Below.refl B w).alloc hB (.cells #[.slice U nu cu, .slice D nd cd, .slice C nc cc] 32)))
  clear hu hd hc
  go_enter Tryz.func100, Tryz.ntmps100
  go_wp2_with fail
  refine (impl_CallsValid n1 n2 n3 (by simp; omega) HU.out HD.out).mono ?_
  rintro e w1 ⟨rfl, hb1⟩
  have HX1 := Lib.hid (HX0.out.below hb1 HX0.out.lt)
  have HB1 := Lib.hid (HB0.out.trans (hb1.mono HB0.out.size))
  have HU1 := Lib.hid (HU.out.below (hb1.mono (by simp; omega)))
  have HD1 := Lib.hid (HD.out.below (hb1.mono (by simp; omega)))
  have HC1 := Lib.hid (HC.out.below (hb1.mono (by simp; omega)))
  have hs1 : w.heap.size + 1 ≤ w1.heap.size := by have := hb1.size; simpa using this
  clear hb1 HX0 HB0 HU HD HC
  cases hv : callsB nu nd nc up dn
  · have HT := Lib.hid (callsT_no (car := car) hv)
    clear hv
    go_wp2
    go_ret
    exact ⟨by rw [HT.out]; rfl, HB1.out⟩
  · have HT := Lib.hid (callsT_yes (car := car) hv)
    obtain ⟨h1, h2, h3, h4, -, -⟩ := callsB_iff.1 hv
    have l1 := bitsOf_length up nu
    have l2 := bitsOf_length dn nd
    have l3 := bitsOf_length car nc
    have HL : Hid ((bitsOf up nu).length ≤ 8 ∧ (bitsOf dn nd).length ≤ 8 ∧ (bitsOf car nc).length ≤ 8) := Lib.hid ⟨by omega, by omega, by omega⟩
    have HN : Hid (nu ≤ 1000 ∧ nd ≤ 1000 ∧ nc ≤ 1000) := Lib.hid ⟨by omega, by omega, by omega⟩
    unfold callsL at HT
    clear hv h1 h2 h3 h4 n1 n2 n3 l1 l2 l3
    go_wp2_with fail
    rename_i hK
    refine wp_region_any (by kernel_rfl) ?_
    refine wpAny_typed 14 (fun i => (#[6, 7, 8, 9, 10, 11, 12, 13, 14, 15, 16, 17, 18, 2] : Array Nat).getD i 0) (fun _ => false) (CtR w.heap.size (.slice U nu cu) (.slice D nd cd) (.slice C nc cc) (bitsOf up nu) (bitsOf dn nd) (bitsOf car nc)) (fun _ W => Below w1.heap.size w1 W) rfl 19 rfl (by kernel_rfl) (below_drewN (Below.refl _ _) 1) ?_ ?_
    · intro a W Un hR hG
      obtain ⟨F, hf, ha⟩ := Un.form [false, false, true, false, false, false, true, true, true, true, true, true, true, true, true, true, true, true, true] rfl (by decide)
      have h13 := hR 13 (by omega)
      have e2 : a.tmps.getD 2 undef = F 2 := hf 13 (by omega)
      have h2 : F 2 = .string ⟨(bitsOf up nu ++ [47] ++ bitsOf dn nd ++ [47] ++ bitsOf car nc).toArray⟩ := e2.symm.trans h13
      rw [← HT.out] at h2
      simp only [letters, cond_true, cond_false, Nat.reduceAdd, h2] at ha
      obtain ⟨kk, hkk, hg2⟩ := hG
      have HB := Lib.hid (HB1.out.trans (hg2.mono (by omega)))
      clear hR hf Un h13 e2 h2 hg2
      subst ha
      refine hK _ _ ?_
      generalize htx : ByteArray.mk (callsT nu nd nc up dn car).toArray = tx
      have HTX := Lib.hid htx
      clear htx
      go_wp2
      go_ret
      exact ⟨by rw [HTX.out]; rfl, HB.out⟩
    · intro i' o ho a W k' Un hG hk' hd
      have hlt : i' < 14 := (Array.getElem?_eq_some_iff.1 ho).1
      have hu1 := Un.other 1 (by decide)
      have t1 : a.tmps[1]?.getD undef = .pointer (some ⟨w.heap.size, 0, none⟩) := by simpa using hu1
      have c0 := (HX1.out.below hG HX1.out.lt).cells
      have hl1 := HL.out
      rcases (by omega : i' = 0 ∨ i' = 1 ∨ i' = 2 ∨ i' = 3 ∨ i' = 4 ∨ i' = 5 ∨ i' = 6 ∨ i' = 7 ∨ i' = 8 ∨ i' = 9 ∨ i' = 10 ∨ i' = 11 ∨ i' = 12 ∨ i' = 13) with rfl | rfl | rfl | rfl | rfl | rfl | rfl | rfl | rfl | rfl | rfl | rfl | rfl | rfl
      all_goals (refine wpOp_of ho (by cases ho; rfl) ?_; cases ho)
      · unfold Oper.wp
        simp [go_sem, Act.eval, t1]
        exact ⟨hG, fun j v _ h => h, .inl ⟨rfl, _, rfl, rfl⟩⟩
      · have h0 := hd ⟨0, .data⟩ (by simp) rfl
        have u0 : a.tmps[6]?.getD undef = .pointer (some ⟨w.heap.size, 0, none⟩) := by simpa [CtR, CtV] using h0
        unfold Oper.wp
        simp [go_sem, Act.eval, u0, c0]
        exact ⟨hG, fun j v _ h => h, .inl ⟨rfl, _, rfl, rfl⟩⟩
      · have h0 := hd ⟨1, .data⟩ (by simp) rfl
        have u0 : a.tmps[7]?.getD undef = .slice U nu cu := by simpa [CtR, CtV] using h0
        unfold Oper.wp
        simp [go_sem, Act.eval, u0]
        refine (impl_bits HN.out.1 (by have := hG.size; omega) (HU1.out.below (hG.mono (by omega)))).mono ?_
        rintro e w' ⟨rfl, hb⟩
        exact ⟨hG.trans (hb.mono hG.size), fun j v _ h => h, .inl ⟨rfl, _, rfl, rfl⟩⟩
      · have h0 := hd ⟨2, .data⟩ (by simp) rfl
        have hz := size_mk (bitsOf up nu)
        have hy := sizes_add (a := bitsOf up nu) (b := [47]) rfl rfl
        generalize hx : ByteArray.mk (bitsOf up nu).toArray = x at *
        have u0 : a.tmps[8]?.getD undef = .string x := by
          have h : a.tmps.getD 8 undef = _ := h0
          simpa [← hx] using h
        have hl : ¬ 9223372036854775807 < x.size + 1 := by rw [hz]; simp; omega
        unfold Oper.wp
        simp [go_sem, Act.eval, u0, hl]
        exact ⟨hG, fun j v _ h => h, .inl ⟨rfl, _, rfl, by show Value.string _ = _; rw [hy]⟩⟩
      · unfold Oper.wp
        simp [go_sem, Act.eval, t1]
        exact ⟨hG, fun j v _ h => h, .inl ⟨rfl, _, rfl, rfl⟩⟩
      · have h0 := hd ⟨4, .data⟩ (by simp) rfl
        have u0 : a.tmps[10]?.getD undef = .pointer (some ⟨w.heap.size, 1, none⟩) := by simpa [CtR, CtV] using h0
        unfold Oper.wp
        simp [go_sem, Act.eval, u0, c0]
        exact ⟨hG, fun j v _ h => h, .inl ⟨rfl, _, rfl, rfl⟩⟩
      · have h0 := hd ⟨5, .data⟩ (by simp) rfl
        have u0 : a.tmps[11]?.getD undef = .slice D nd cd := by simpa [CtR, CtV] using h0
        unfold Oper.wp
        simp [go_sem, Act.eval, u0]
        refine (impl_bits HN.out.2.1 (by have := hG.size; omega) (HD1.out.below (hG.mono (by omega)))).mono ?_
        rintro e w' ⟨rfl, hb⟩
        exact ⟨hG.trans (hb.mono hG.size), fun j v _ h => h, .inl ⟨rfl, _, rfl, rfl⟩⟩
      · have h0 := hd ⟨3, .data⟩ (by simp) rfl
        have h1 := hd ⟨6, .data⟩ (by simp) rfl
        have hz := size_mk (bitsOf up nu ++ [47])
        have hz2 := size_mk (bitsOf dn nd)
        have hy := sizes_add (a := bitsOf up nu ++ [47]) (b := bitsOf dn nd) rfl rfl
        generalize hx : ByteArray.mk (bitsOf up nu ++ [47]).toArray = x at *
        generalize hx2 : ByteArray.mk (bitsOf dn nd).toArray = x2 at *
        have u0 : a.tmps[9]?.getD undef = .string x := by
          have h : a.tmps.getD 9 undef = _ := h0
          simpa [← hx] using h
        have u1 : a.tmps[12]?.getD undef = .string x2 := by
          have h : a.tmps.getD 12 undef = _ := h1
          simpa [← hx2] using h
        have hl : ¬ 9223372036854775807 < x.size + x2.size := by rw [hz, hz2]; simp; omega
        unfold Oper.wp
        simp [go_sem, Act.eval, u0, u1, hl]
        exact ⟨hG, fun j v _ h => h, .inl ⟨rfl, _, rfl, by show Value.string _ = _; rw [hy]⟩⟩
      · have h0 := hd ⟨7, .data⟩ (by simp) rfl
        have hz := size_mk (bitsOf up nu ++ [47] ++ bitsOf dn nd)
        have hy := sizes_add (a := bitsOf up nu ++ [47] ++ bitsOf dn nd) (b := [47]) rfl rfl
        generalize hx : ByteArray.mk (bitsOf up nu ++ [47] ++ bitsOf dn nd).toArray = x at *
        have u0 : a.tmps[13]?.getD undef = .string x := by
          have h : a.tmps.getD 13 undef = _ := h0
          simpa [← hx] using h
        have hl : ¬ 9223372036854775807 < x.size + 1 := by rw [hz]; simp; omega
        unfold Oper.wp
        simp [go_sem, Act.eval, u0, hl]
        exact ⟨hG, fun j v _ h => h, .inl ⟨rfl, _, rfl, by show Value.string _ = _; rw [hy]⟩⟩
      · unfold Oper.wp
        simp [go_sem, Act.eval, t1]
        exact ⟨hG, fun j v _ h => h, .inl ⟨rfl, _, rfl, rfl⟩⟩
      · have h0 := hd ⟨9, .data⟩ (by simp) rfl
        have u0 : a.tmps[15]?.getD undef = .pointer (some ⟨w.heap.size, 2, none⟩) := by simpa [CtR, CtV] using h0
        unfold Oper.wp
        simp [go_sem, Act.eval, u0, c0]
        exact ⟨hG, fun j v _ h => h, .inl ⟨rfl, _, rfl, rfl⟩⟩
      · have h0 := hd ⟨10, .data⟩ (by simp) rfl
        have u0 : a.tmps[16]?.getD undef = .slice C nc cc := by simpa [CtR, CtV] using h0
        unfold Oper.wp
        simp [go_sem, Act.eval, u0]
        refine (impl_bits HN.out.2.2 (by have := hG.size; omega) (HC1.out.below (hG.mono (by omega)))).mono ?_
        rintro e w' ⟨rfl, hb⟩
        exact ⟨hG.trans (hb.mono hG.size), fun j v _ h => h, .inl ⟨rfl, _, rfl, rfl⟩⟩
      · have h0 := hd ⟨8, .data⟩ (by simp) rfl
        have h1 := hd ⟨11, .data⟩ (by simp) rfl
        have hz := size_mk (bitsOf up nu ++ [47] ++ bitsOf dn nd ++ [47])
        have hz2 := size_mk (bitsOf car nc)
        have hy := sizes_add (a := bitsOf up nu ++ [47] ++ bitsOf dn nd ++ [47]) (b := bitsOf car nc) rfl rfl
        generalize hx : ByteArray.mk (bitsOf up nu ++ [47] ++ bitsOf dn nd ++ [47]).toArray = x at *
        generalize hx2 : ByteArray.mk (bitsOf car nc).toArray = x2 at *
        have u0 : a.tmps[14]?.getD undef = .string x := by
          have h : a.tmps.getD 14 undef = _ := h0
          simpa [← hx] using h
        have u1 : a.tmps[17]?.getD undef = .string x2 := by
          have h : a.tmps.getD 17 undef = _ := h1
          simpa [← hx2] using h
        have hl : ¬ 9223372036854775807 < x.size + x2.size := by rw [hz, hz2]; simp; omega
        unfold Oper.wp
        simp [go_sem, Act.eval, u0, u1, hl]
        exact ⟨hG, fun j v _ h => h, .inl ⟨rfl, _, rfl, by show Value.string _ = _; rw [hy]⟩⟩
      · have h0 := hd ⟨12, .data⟩ (by simp) rfl
        generalize hx : ByteArray.mk (bitsOf up nu ++ [47] ++ bitsOf dn nd ++ [47] ++ bitsOf car nc).toArray = x at *
        have u0 : a.tmps[18]?.getD undef = .string x := by
          have h : a.tmps.getD 18 undef = _ := h0
          simpa [← hx] using h
        unfold Oper.wp
        simp [go_sem, Act.eval, u0]
        exact ⟨hG, fun j v _ h => h, .inl ⟨rfl, _, rfl, by show Value.string _ = _; rw [← hx]⟩⟩
set_option maxRecDepth 100000 in
set_option maxHeartbeats 3200000 in
theorem spec_CallsText {w : World} {B : Nat} {U D C : Option Addr} {nu cu nd cd nc cc : Nat} {up dn car : Nat → Bool} (n1 : nu ≤ 9223372036854775806) (n2 : nd ≤ 9223372036854775806) (n3 : nc ≤ 9223372036854775806) (hB : B ≤ w.heap.size)
    (hu : Bools w B U nu up) (hd : Bools w B D nd dn) (hc : Bools w B C nc car) :
    Calls Tryz.prog 110 #[.agg #[.slice U nu cu, .slice D nd cd, .slice C nc cc]] w fun e w' => e = .returned (.string ⟨(callsT nu nd nc up dn car).toArray⟩) ∧ Below w.heap.size w w' := by
  have HX0 := Lib.hid (Bx.new w #[.slice U nu cu, .slice D nd cd, .slice C nc cc] 32)
  have HB0 := Lib.hid ((Below.refl w.heap.size w).alloc (Nat.le_refl _) (.cells #[.slice U nu cu, .slice D nd cd, .slice C nc cc] 32))
  have HU := Lib.hid (hu.below ((Below.refl B w).alloc hB (.cells #[.slice U nu cu, .slice D nd cd, .slice C nc cc] 32)))
  have HD := Lib.hid (hd.below ((Below.refl B w).alloc hB (.cells #[.slice U nu cu, .slice D nd cd, .slice C nc cc] 32)))
  have HC := Lib.hid (hc.below ((Below.refl B w).alloc hB (.cells #[.slice U nu cu, .slice D nd cd, .slice C nc cc] 32)))
  clear hu hd hc
  go_enter Tryz.func110, Tryz.ntmps110
  go_wp2_with fail
  refine (spec_CallsValid n1 n2 n3 (by simp; omega) HU.out HD.out).mono ?_
  rintro e w1 ⟨rfl, hb1⟩
  have HX1 := Lib.hid (HX0.out.below hb1 HX0.out.lt)
  have HB1 := Lib.hid (HB0.out.trans (hb1.mono HB0.out.size))
  have HU1 := Lib.hid (HU.out.below (hb1.mono (by simp; omega)))
  have HD1 := Lib.hid (HD.out.below (hb1.mono (by simp; omega)))
  have HC1 := Lib.hid (HC.out.below (hb1.mono (by simp; omega)))
  have hs1 : w.heap.size + 1 ≤ w1.heap.size := by have := hb1.size; simpa using this
  clear hb1 HX0 HB0 HU HD HC
  cases hv : callsB nu nd nc up dn
  · have HT := Lib.hid (callsT_no (car := car) hv)
    clear hv
    go_wp2
    go_ret
    exact ⟨by rw [HT.out]; rfl, HB1.out⟩
  · have HT := Lib.hid (callsT_yes (car := car) hv)
    obtain ⟨h1, h2, h3, h4, -, -⟩ := callsB_iff.1 hv
    have l1 := bitsOf_length up nu
    have l2 := bitsOf_length dn nd
    have l3 := bitsOf_length car nc
    have HL : Hid ((bitsOf up nu).length ≤ 8 ∧ (bitsOf dn nd).length ≤ 8 ∧ (bitsOf car nc).length ≤ 8) := Lib.hid ⟨by omega, by omega, by omega⟩
    have HN : Hid (nu ≤ 1000 ∧ nd ≤ 1000 ∧ nc ≤ 1000) := Lib.hid ⟨by omega, by omega, by omega⟩
    unfold callsL at HT
    clear hv h1 h2 h3 h4 n1 n2 n3 l1 l2 l3
    go_wp2_with fail
    rename_i hK
    refine wp_region_any (by kernel_rfl) ?_
    refine wpAny_typed 14 (fun i => (#[6, 7, 8, 9, 10, 11, 12, 13, 14, 15, 16, 17, 18, 2] : Array Nat).getD i 0) (fun _ => false) (CtR w.heap.size (.slice U nu cu) (.slice D nd cd) (.slice C nc cc) (bitsOf up nu) (bitsOf dn nd) (bitsOf car nc)) (fun _ W => Below w1.heap.size w1 W) rfl 19 rfl (by kernel_rfl) (below_drewN (Below.refl _ _) 1) ?_ ?_
    · intro a W Un hR hG
      obtain ⟨F, hf, ha⟩ := Un.form [false, false, true, false, false, false, true, true, true, true, true, true, true, true, true, true, true, true, true] rfl (by decide)
      have h13 := hR 13 (by omega)
      have e2 : a.tmps.getD 2 undef = F 2 := hf 13 (by omega)
      have h2 : F 2 = .string ⟨(bitsOf up nu ++ [47] ++ bitsOf dn nd ++ [47] ++ bitsOf car nc).toArray⟩ := e2.symm.trans h13
      rw [← HT.out] at h2
      simp only [letters, cond_true, cond_false, Nat.reduceAdd, h2] at ha
      obtain ⟨kk, hkk, hg2⟩ := hG
      have HB := Lib.hid (HB1.out.trans (hg2.mono (by omega)))
      clear hR hf Un h13 e2 h2 hg2
      subst ha
      refine hK _ _ ?_
      generalize htx : ByteArray.mk (callsT nu nd nc up dn car).toArray = tx
      have HTX := Lib.hid htx
      clear htx
      go_wp2
      go_ret
      exact ⟨by rw [HTX.out]; rfl, HB.out⟩
    · intro i' o ho a W k' Un hG hk' hd
      have hlt : i' < 14 := (Array.getElem?_eq_some_iff.1 ho).1
      have hu1 := Un.other 1 (by decide)
      have t1 : a.tmps[1]?.getD undef = .pointer (some ⟨w.heap.size, 0, none⟩) := by simpa using hu1
      have c0 := (HX1.out.below hG HX1.out.lt).cells
      have hl1 := HL.out
      rcases (by omega : i' = 0 ∨ i' = 1 ∨ i' = 2 ∨ i' = 3 ∨ i' = 4 ∨ i' = 5 ∨ i' = 6 ∨ i' = 7 ∨ i' = 8 ∨ i' = 9 ∨ i' = 10 ∨ i' = 11 ∨ i' = 12 ∨ i' = 13) with rfl | rfl | rfl | rfl | rfl | rfl | rfl | rfl | rfl | rfl | rfl | rfl | rfl | rfl
      all_goals (refine wpOp_of ho (by cases ho; rfl) ?_; cases ho)
      · unfold Oper.wp
        simp [go_sem, Act.eval, t1]
        exact ⟨hG, fun j v _ h => h, .inl ⟨rfl, _, rfl, rfl⟩⟩
      · have h0 := hd ⟨0, .data⟩ (by simp) rfl
        have u0 : a.tmps[6]?.getD undef = .pointer (some ⟨w.heap.size, 0, none⟩) := by simpa [CtR, CtV] using h0
        unfold Oper.wp
        simp [go_sem, Act.eval, u0, c0]
        exact ⟨hG, fun j v _ h => h, .inl ⟨rfl, _, rfl, rfl⟩⟩
      · have h0 := hd ⟨1, .data⟩ (by simp) rfl
        have u0 : a.tmps[7]?.getD undef = .slice U nu cu := by simpa [CtR, CtV] using h0
        unfold Oper.wp
        simp [go_sem, Act.eval, u0]
        refine (spec_bits HN.out.1 (by have := hG.size; omega) (HU1.out.below (hG.mono (by omega)))).mono ?_
        rintro e w' ⟨rfl, hb⟩
        exact ⟨hG.trans (hb.mono hG.size), fun j v _ h => h, .inl ⟨rfl, _, rfl, rfl⟩⟩
      · have h0 := hd ⟨2, .data⟩ (by simp) rfl
        have hz := size_mk (bitsOf up nu)
        have hy := sizes_add (a := bitsOf up nu) (b := [47]) rfl rfl
        generalize hx : ByteArray.mk (bitsOf up nu).toArray = x at *
        have u0 : a.tmps[8]?.getD undef = .string x := by
          have h : a.tmps.getD 8 undef = _ := h0
          simpa [← hx] using h
        have hl : ¬ 9223372036854775807 < x.size + 1 := by rw [hz]; simp; omega
        unfold Oper.wp
        simp [go_sem, Act.eval, u0, hl]
        exact ⟨hG, fun j v _ h => h, .inl ⟨rfl, _, rfl, by show Value.string _ = _; rw [hy]⟩⟩
      · unfold Oper.wp
        simp [go_sem, Act.eval, t1]
        exact ⟨hG, fun j v _ h => h, .inl ⟨rfl, _, rfl, rfl⟩⟩
      · have h0 := hd ⟨4, .data⟩ (by simp) rfl
        have u0 : a.tmps[10]?.getD undef = .pointer (some ⟨w.heap.size, 1, none⟩) := by simpa [CtR, CtV] using h0
        unfold Oper.wp
        simp [go_sem, Act.eval, u0, c0]
        exact ⟨hG, fun j v _ h => h, .inl ⟨rfl, _, rfl, rfl⟩⟩
      · have h0 := hd ⟨5, .data⟩ (by simp) rfl
        have u0 : a.tmps[11]?.getD undef = .slice D nd cd := by simpa [CtR, CtV] using h0
        unfold Oper.wp
        simp [go_sem, Act.eval, u0]
        refine (spec_bits HN.out.2.1 (by have := hG.size; omega) (HD1.out.below (hG.mono (by omega)))).mono ?_
        rintro e w' ⟨rfl, hb⟩
        exact ⟨hG.trans (hb.mono hG.size), fun j v _ h => h, .inl ⟨rfl, _, rfl, rfl⟩⟩
      · have h0 := hd ⟨3, .data⟩ (by simp) rfl
        have h1 := hd ⟨6, .data⟩ (by simp) rfl
        have hz := size_mk (bitsOf up nu ++ [47])
        have hz2 := size_mk (bitsOf dn nd)
        have hy := sizes_add (a := bitsOf up nu ++ [47]) (b := bitsOf dn nd) rfl rfl
        generalize hx : ByteArray.mk (bitsOf up nu ++ [47]).toArray = x at *
        generalize hx2 : ByteArray.mk (bitsOf dn nd).toArray = x2 at *
        have u0 : a.tmps[9]?.getD undef = .string x := by
          have h : a.tmps.getD 9 undef = _ := h0
          simpa [← hx] using h
        have u1 : a.tmps[12]?.getD undef = .string x2 := by
          have h : a.tmps.getD 12 undef = _ := h1
          simpa [← hx2] using h
        have hl : ¬ 9223372036854775807 < x.size + x2.size := by rw [hz, hz2]; simp; omega
        unfold Oper.wp
        simp [go_sem, Act.eval, u0, u1, hl]
        exact ⟨hG, fun j v _ h => h, .inl ⟨rfl, _, rfl, by show Value.string _ = _; rw [hy]⟩⟩
      · have h0 := hd ⟨7, .data⟩ (by simp) rfl
        have hz := size_mk (bitsOf up nu ++ [47] ++ bitsOf dn nd)
        have hy := sizes_add (a := bitsOf up nu ++ [47] ++ bitsOf dn nd) (b := [47]) rfl rfl
        generalize hx : ByteArray.mk (bitsOf up nu ++ [47] ++ bitsOf dn nd).toArray = x at *
        have u0 : a.tmps[13]?.getD undef = .string x := by
          have h : a.tmps.getD 13 undef = _ := h0
          simpa [← hx] using h
        have hl : ¬ 9223372036854775807 < x.size + 1 := by rw [hz]; simp; omega
        unfold Oper.wp
        simp [go_sem, Act.eval, u0, hl]
        exact ⟨hG, fun j v _ h => h, .inl ⟨rfl, _, rfl, by show Value.string _ = _; rw [hy]⟩⟩
      · unfold Oper.wp
        simp [go_sem, Act.eval, t1]
        exact ⟨hG, fun j v _ h => h, .inl ⟨rfl, _, rfl, rfl⟩⟩
      · have h0 := hd ⟨9, .data⟩ (by simp) rfl
        have u0 : a.tmps[15]?.getD undef = .pointer (some ⟨w.heap.size, 2, none⟩) := by simpa [CtR, CtV] using h0
        unfold Oper.wp
        simp [go_sem, Act.eval, u0, c0]
        exact ⟨hG, fun j v _ h => h, .inl ⟨rfl, _, rfl, rfl⟩⟩
      · have h0 := hd ⟨10, .data⟩ (by simp) rfl
        have u0 : a.tmps[16]?.getD undef = .slice C nc cc := by simpa [CtR, CtV] using h0
        unfold Oper.wp
        simp [go_sem, Act.eval, u0]
        refine (spec_bits HN.out.2.2 (by have := hG.size; omega) (HC1.out.below (hG.mono (by omega)))).mono ?_
        rintro e w' ⟨rfl, hb⟩
        exact ⟨hG.trans (hb.mono hG.size), fun j v _ h => h, .inl ⟨rfl, _, rfl, rfl⟩⟩
      · have h0 := hd ⟨8, .data⟩ (by simp) rfl
        have h1 := hd ⟨11, .data⟩ (by simp) rfl
        have hz := size_mk (bitsOf up nu ++ [47] ++ bitsOf dn nd ++ [47])
        have hz2 := size_mk (bitsOf car nc)
        have hy := sizes_add (a := bitsOf up nu ++ [47] ++ bitsOf dn nd ++ [47]) (b := bitsOf car nc) rfl rfl
        generalize hx : ByteArray.mk (bitsOf up nu ++ [47] ++ bitsOf dn nd ++ [47]).toArray = x at *
        generalize hx2 : ByteArray.mk (bitsOf car nc).toArray = x2 at *
        have u0 : a.tmps[14]?.getD undef = .string x := by
          have h : a.tmps.getD 14 undef = _ := h0
          simpa [← hx] using h
        have u1 : a.tmps[17]?.getD undef = .string x2 := by
          have h : a.tmps.getD 17 undef = _ := h1
          simpa [← hx2] using h
        have hl : ¬ 9223372036854775807 < x.size + x2.size := by rw [hz, hz2]; simp; omega
        unfold Oper.wp
        simp [go_sem, Act.eval, u0, u1, hl]
        exact ⟨hG, fun j v _ h => h, .inl ⟨rfl, _, rfl, by show Value.string _ = _; rw [hy]⟩⟩
      · have h0 := hd ⟨12, .data⟩ (by simp) rfl
        generalize hx : ByteArray.mk (bitsOf up nu ++ [47] ++ bitsOf dn nd ++ [47] ++ bitsOf car nc).toArray = x at *
        have u0 : a.tmps[18]?.getD undef = .string x := by
          have h : a.tmps.getD 18 undef = _ := h0
          simpa [← hx] using h
        unfold Oper.wp
        simp [go_sem, Act.eval, u0]
        exact ⟨hG, fun j v _ h => h, .inl ⟨rfl, _, rfl, by show Value.string _ = _; rw [← hx]⟩⟩
end Go.Proofs.YthkpikkjgggimaaGreatDoor
