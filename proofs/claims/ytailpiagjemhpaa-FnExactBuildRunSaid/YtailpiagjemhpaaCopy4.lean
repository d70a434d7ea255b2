/-
  The contracts of l8Copy, l27Copy. No claim stands here.
-/
import Derived.Test.YtailpiagjemhpaaCopy3
namespace Go.Proofs.Ytailpiagjemhpaa
open Go.RowKit
set_option linter.unusedVariables false
set_option linter.unusedSimpArgs false

set_option maxRecDepth 4000 in
set_option maxHeartbeats 3200000 in
theorem l8Copy_any {w : World} {B : Nat} {U D C : Option Addr} {nu cu nd cd nc cc : Nat} {up dn car : Nat → Bool} (p1 : 0 < nu) (p2 : 0 < nd) (p3 : 0 < nc) (n1 : nu ≤ 1000000000) (n2 : nd ≤ 1000000000) (n3 : nc ≤ 1000000000) (hB : B ≤ w.heap.size)
    (hu : Bools w B U nu up) (hd : Bools w B D nd dn) (hc : Bools w B C nc car) :
    Calls Try.prog 113 #[.agg #[.slice U nu cu, .slice D nd cd, .slice C nc cc]] w fun e w' =>
      ∃ U' cu' D' cd' C' cc', e = .returned (.agg #[.slice U' nu cu', .slice D' nd cd', .slice C' nc cc']) ∧ OwnC w' w.heap.size U' nu cu' up D' nd cd' dn C' nc cc' car ∧ Below w.heap.size w w' := by
  have HU := Lib.hid hu
  have HD := Lib.hid hd
  have HC := Lib.hid hc
  clear hu hd hc
  go_enter Try.func113, Try.ntmps113
  have X := (Bx.new w #[.slice U nu cu, .slice D nd cd, .slice C nc cc] 32).alloc (.cells #[.slice none 0 0, .slice none 0 0, .slice none 0 0] 32)
  have Y := Bx.new (w.alloc (.cells #[.slice U nu cu, .slice D nd cd, .slice C nc cc] 32)) #[.slice none 0 0, .slice none 0 0, .slice none 0 0] 32
  rw [show (w.alloc (.cells #[.slice U nu cu, .slice D nd cd, .slice C nc cc] 32)).heap.size = w.heap.size + 1 by simp] at Y
  have hb := ((Below.refl w.heap.size w).alloc (Nat.le_refl _) (.cells #[.slice U nu cu, .slice D nd cd, .slice C nc cc] 32)).alloc (by simp) (.cells #[.slice none 0 0, .slice none 0 0, .slice none 0 0] 32)
  have hz0 : w.heap.size + 2 = ((w.alloc (.cells #[.slice U nu cu, .slice D nd cd, .slice C nc cc] 32)).alloc (.cells #[.slice none 0 0, .slice none 0 0, .slice none 0 0] 32)).heap.size := by simp
  have HX := Lib.hid X
  have HY := Lib.hid Y
  have HZ := Lib.hid hb.drew
  have HZ0 := Lib.hid hz0
  clear X Y hb hz0
  go_wp2_with fail
  generalize (w.alloc (.cells #[.slice U nu cu, .slice D nd cd, .slice C nc cc] 32)).alloc (.cells #[.slice none 0 0, .slice none 0 0, .slice none 0 0] 32) = W at *
  rename_i Q' K hK
  refine wp_region_any (by kernel_rfl) ?_
  refine wpAny_inv (CI w U D C nu cu nd cd nc cc up dn car) ?_ ?_ _ _ _ _ (by decide) ?_
  · intro L a w' hr I
    have hsz : L.size = 14 := I.sz
    have hnr := fun (i : Nat) (o : Oper) ho hall => not_ready hr (i := i) (o := o) ho hsz hall
    have l0 := hnr 0 _ rfl (by simp)
    have l1 := hnr 1 _ rfl (by simp)
    have l2 := hnr 2 _ rfl (by intro e he _; simp at he; rcases he with rfl <;> (dsimp only; assumption))
    have l3 := hnr 3 _ rfl (by intro e he _; simp at he; rcases he with rfl | rfl <;> (dsimp only; assumption))
    have l4 := hnr 4 _ rfl (by simp)
    have l5 := hnr 5 _ rfl (by simp)
    have l6 := hnr 6 _ rfl (by intro e he _; simp at he; rcases he with rfl <;> (dsimp only; assumption))
    have l7 := hnr 7 _ rfl (by intro e he _; simp at he; rcases he with rfl | rfl | rfl <;> (dsimp only; assumption))
    have l8 := hnr 8 _ rfl (by simp)
    have l9 := hnr 9 _ rfl (by simp)
    have l10 := hnr 10 _ rfl (by intro e he _; simp at he; rcases he with rfl <;> (dsimp only; assumption))
    have l11 := hnr 11 _ rfl (by intro e he _; simp at he; rcases he with rfl | rfl | rfl <;> (dsimp only; assumption))
    have l12 := hnr 12 _ rfl (by intro e he _; simp at he; rcases he with rfl | rfl | rfl <;> (dsimp only; assumption))
    have l13 := hnr 13 _ rfl (by intro e he _; simp at he; rcases he with rfl | rfl | rfl | rfl | rfl | rfl | rfl | rfl | rfl | rfl | rfl | rfl | rfl | rfl | rfl <;> (dsimp only; assumption))
    obtain ⟨U', cu', D', cd', C', cc', hx, hown⟩ := I.f13 l13
    have c1 := hx.cells
    have t2 : a.tmps[2]?.getD undef = .pointer (some ⟨w.heap.size + 1, 0, none⟩) := by simpa using I.t2
    have hdf := I.df
    have HOWN := Lib.hid hown
    have HBL := Lib.hid I.bl
    clear hr hnr l0 l1 l2 l3 l4 l5 l6 l7 l8 l9 l10 l11 l12 l13 hown hx I
    refine hK _ _ ?_
    go_wp2
    refine bodyPost_ret (v := .agg #[.slice U' nu cu', .slice D' nd cd', .slice C' nc cc']) (by simp [results, Try.results113, go_sem, Act.eval, t2, c1]) (by first | rfl | exact hdf) ⟨U', cu', D', cd', C', cc', rfl, HOWN.out.mono (by omega), HBL.out⟩
  · intro L a w' i hi I
    obtain ⟨hun, o, ho, hall⟩ := mem_ready.1 hi
    have hlt : i < 14 := (Array.getElem?_eq_some_iff.1 ho).1
    have hun' : L.getD i false = false := by
      have h := I.sz
      simp [h, hlt] at hun ⊢
      exact hun
    have h13 : i ≠ 13 → L.getD 13 false = false := by
      intro hne
      cases h : L.getD 13 false
      · rfl
      · have := I.o13 h i (by omega)
        rw [hun'] at this
        cases this
    rcases (by omega : i = 0 ∨ i = 1 ∨ i = 2 ∨ i = 3 ∨ i = 4 ∨ i = 5 ∨ i = 6 ∨ i = 7 ∨ i = 8 ∨ i = 9 ∨ i = 10 ∨ i = 11 ∨ i = 12 ∨ i = 13) with rfl | rfl | rfl | rfl | rfl | rfl | rfl | rfl | rfl | rfl | rfl | rfl | rfl | rfl
    all_goals (refine wpOp_of ho (by cases ho; rfl) ?_; cases ho)
    · unfold Oper.wp
      simp [go_sem, Act.eval]
      exact I.carry (i := 0) (d := 3) (by omega) rfl hun' ⟨by omega, by omega, by omega⟩ (h13 (by omega)) ((Below.refl _ _).alloc (Nat.le_refl _) _) (.slice (some ⟨w'.heap.size, 0, none⟩) 0 0) (n0 := fun _ => ⟨_, rfl⟩)
    · have t1 := I.t1
      unfold Oper.wp
      simp [go_sem, Act.eval, t1]
      exact I.carry (i := 1) (d := 4) (by omega) rfl hun' ⟨by omega, by omega, by omega⟩ (h13 (by omega)) (Below.refl _ _) _ (n1 := fun _ => rfl)
    · have l1 : L.getD 1 false = true := hall ⟨1, .data⟩ (by simp) rfl
      have t := I.f1 (h13 (by omega)) l1
      have c := I.x.cells
      unfold Oper.wp
      simp [go_sem, Act.eval, t, c]
      exact I.carry (i := 2) (d := 5) (by omega) rfl hun' ⟨by omega, by omega, by omega⟩ (h13 (by omega)) (Below.refl _ _) _ (n2 := fun _ => rfl)
    · have l0 : L.getD 0 false = true := hall ⟨0, .data⟩ (by simp) rfl
      have l2 : L.getD 2 false = true := hall ⟨2, .data⟩ (by simp) rfl
      obtain ⟨g, hs⟩ := I.f0 (h13 (by omega)) l0
      refine wp_append_bools0 w' rfl (.tmp 3) (.tmp 5) rfl hs (I.f2 (h13 (by omega)) l2) (HU.out.below (I.bl.mono hB)) p1 n1 ?_
      intro U' cu' w1 hr hb
      exact I.carry (i := 3) (d := 6) (by omega) rfl hun' ⟨by omega, by omega, by omega⟩ (h13 (by omega)) hb (.slice U' nu cu') (n3 := fun _ => ⟨U', cu', rfl, hr.mono I.hs⟩)
    · unfold Oper.wp
      simp [go_sem, Act.eval]
      exact I.carry (i := 4) (d := 7) (by omega) rfl hun' ⟨by omega, by omega, by omega⟩ (h13 (by omega)) ((Below.refl _ _).alloc (Nat.le_refl _) _) (.slice (some ⟨w'.heap.size, 0, none⟩) 0 0) (n0 := fun _ => ⟨_, rfl⟩)
    · have t1 := I.t1
      unfold Oper.wp
      simp [go_sem, Act.eval, t1]
      exact I.carry (i := 5) (d := 8) (by omega) rfl hun' ⟨by omega, by omega, by omega⟩ (h13 (by omega)) (Below.refl _ _) _ (n5 := fun _ => rfl)
    · have l5 : L.getD 5 false = true := hall ⟨5, .data⟩ (by simp) rfl
      have t := I.f5 (h13 (by omega)) l5
      have c := I.x.cells
      unfold Oper.wp
      simp [go_sem, Act.eval, t, c]
      exact I.carry (i := 6) (d := 9) (by omega) rfl hun' ⟨by omega, by omega, by omega⟩ (h13 (by omega)) (Below.refl _ _) _ (n6 := fun _ => rfl)
    · have l4 : L.getD 4 false = true := hall ⟨4, .data⟩ (by simp) rfl
      have l6 : L.getD 6 false = true := hall ⟨6, .data⟩ (by simp) rfl
      have l3 : L.getD 3 false = true := hall ⟨3, .chain⟩ (by simp) rfl
      obtain ⟨g, hs⟩ := I.f4 (h13 (by omega)) l4
      obtain ⟨U', cu', h6, hu⟩ := I.f3 (h13 (by omega)) l3
      refine wp_append_bools0 w' rfl (.tmp 7) (.tmp 9) rfl hs (I.f6 (h13 (by omega)) l6) (HD.out.below (I.bl.mono hB)) p2 n2 ?_
      intro D' cd' w1 hr hb
      exact I.carry (i := 7) (d := 10) (by omega) rfl hun' ⟨fun _ => l3, by omega, by omega⟩ (h13 (by omega)) hb (.slice D' nd cd') (n7 := fun _ => ⟨U', cu', D', cd', h6, rfl, hu.below hb (Nat.le_refl _), hr.mono I.hs, hu.place.apart hr.place (Nat.le_refl _)⟩)
    · unfold Oper.wp
      simp [go_sem, Act.eval]
      exact I.carry (i := 8) (d := 11) (by omega) rfl hun' ⟨by omega, by omega, by omega⟩ (h13 (by omega)) ((Below.refl _ _).alloc (Nat.le_refl _) _) (.slice (some ⟨w'.heap.size, 0, none⟩) 0 0) (n0 := fun _ => ⟨_, rfl⟩)
    · have t1 := I.t1
      unfold Oper.wp
      simp [go_sem, Act.eval, t1]
      exact I.carry (i := 9) (d := 12) (by omega) rfl hun' ⟨by omega, by omega, by omega⟩ (h13 (by omega)) (Below.refl _ _) _ (n9 := fun _ => rfl)
    · have l9 : L.getD 9 false = true := hall ⟨9, .data⟩ (by simp) rfl
      have t := I.f9 (h13 (by omega)) l9
      have c := I.x.cells
      unfold Oper.wp
      simp [go_sem, Act.eval, t, c]
      exact I.carry (i := 10) (d := 13) (by omega) rfl hun' ⟨by omega, by omega, by omega⟩ (h13 (by omega)) (Below.refl _ _) _ (n10 := fun _ => rfl)
    · have l8 : L.getD 8 false = true := hall ⟨8, .data⟩ (by simp) rfl
      have l10 : L.getD 10 false = true := hall ⟨10, .data⟩ (by simp) rfl
      have l7 : L.getD 7 false = true := hall ⟨7, .chain⟩ (by simp) rfl
      obtain ⟨g, hs⟩ := I.f8 (h13 (by omega)) l8
      obtain ⟨U', cu', D', cd', h6, h10, hu, hd, hud⟩ := I.f7 (h13 (by omega)) l7
      refine wp_append_bools0 w' rfl (.tmp 11) (.tmp 13) rfl hs (I.f10 (h13 (by omega)) l10) (HC.out.below (I.bl.mono hB)) p3 n3 ?_
      intro C' cc' w1 hr hb
      exact I.carry (i := 11) (d := 14) (by omega) rfl hun' ⟨by omega, fun _ => l7, by omega⟩ (h13 (by omega)) hb (.slice C' nc cc') (n11 := fun _ => ⟨U', cu', D', cd', C', cc', h6, h10, rfl, ⟨hu.below hb (Nat.le_refl _), hd.below hb (Nat.le_refl _), hr.mono I.hs, hud, hu.place.apart hr.place (Nat.le_refl _), hd.place.apart hr.place (Nat.le_refl _)⟩⟩)
    · have l3 : L.getD 3 false = true := hall ⟨3, .data⟩ (by simp) rfl
      have l7 : L.getD 7 false = true := hall ⟨7, .data⟩ (by simp) rfl
      have l11 : L.getD 11 false = true := hall ⟨11, .data⟩ (by simp) rfl
      have h11 := I.f11 (h13 (by omega)) l11
      obtain ⟨U', cu', D', cd', r⟩ := h11
      obtain ⟨C', cc', h6, h10, r⟩ := r
      obtain ⟨h14, hown⟩ := r
      have k6 : a.tmps[6]?.getD undef = .slice U' nu cu' := by simpa using h6
      have k10 : a.tmps[10]?.getD undef = .slice D' nd cd' := by simpa using h10
      have k14 : a.tmps[14]?.getD undef = .slice C' nc cc' := by simpa using h14
      unfold Oper.wp
      simp [go_sem, Act.eval, k6, k10, k14]
      exact I.carry (i := 12) (d := 15) (by omega) rfl hun' ⟨by omega, by omega, fun _ => l11⟩ (h13 (by omega)) (Below.refl _ _) _ (n12 := fun _ => ⟨U', cu', D', cd', C', cc', rfl, hown⟩)
    · have l12 : L.getD 12 false = true := hall ⟨12, .data⟩ (by simp) rfl
      obtain ⟨U', cu', D', cd', C', cc', h15, hown⟩ := I.f12 hun' l12
      have t2 := I.t2
      have c1 := (I.y hun').cells
      have z1 := (I.y hun').free
      unfold Oper.wp
      simp [go_sem, Act.eval, t2, h15, c1, z1]
      have hw : ∀ j, 13 ≠ j → (L.setIfInBounds 13 true).getD j false = L.getD j false := fun j h => getD_set_ne false h
      have hself : (L.setIfInBounds 13 true).getD 13 false = true := getD_set_self false (by rw [I.sz]; omega)
      have no : ∀ (p : Prop), (L.setIfInBounds 13 true).getD 13 false = false → p := fun p h => by rw [hself] at h; cases h
      have hb3 := ((I.bl.setCell (p := ⟨w.heap.size + 1, 0, none⟩) (by simp) (.slice U' nu cu')).setCell (p := ⟨w.heap.size + 1, 1, none⟩) (by simp) (.slice D' nd cd')).setCell (p := ⟨w.heap.size + 1, 2, none⟩) (by simp) (.slice C' nc cc')
      have hx3 := ((I.x.far ⟨w.heap.size + 1, 0, none⟩ (.slice U' nu cu') (by simp)).far ⟨w.heap.size + 1, 1, none⟩ (.slice D' nd cd') (by simp)).far ⟨w.heap.size + 1, 2, none⟩ (.slice C' nc cc') (by simp)
      have hy3 := (((I.y hun').set 0 (.slice U' nu cu')).set 1 (.slice D' nd cd')).set 2 (.slice C' nc cc')
      have hall' : ∀ k, k < 13 → L.getD k false = true := by
        intro k hk
        rcases (by omega : k = 0 ∨ k = 1 ∨ k = 2 ∨ k = 3 ∨ k = 4 ∨ k = 5 ∨ k = 6 ∨ k = 7 ∨ k = 8 ∨ k = 9 ∨ k = 10 ∨ k = 11 ∨ k = 12) with rfl | rfl | rfl | rfl | rfl | rfl | rfl | rfl | rfl | rfl | rfl | rfl | rfl
        · exact hall ⟨0, .phase⟩ (by simp) rfl
        · exact hall ⟨1, .phase⟩ (by simp) rfl
        · exact hall ⟨2, .phase⟩ (by simp) rfl
        · exact hall ⟨3, .phase⟩ (by simp) rfl
        · exact hall ⟨4, .phase⟩ (by simp) rfl
        · exact hall ⟨5, .phase⟩ (by simp) rfl
        · exact hall ⟨6, .phase⟩ (by simp) rfl
        · exact hall ⟨7, .phase⟩ (by simp) rfl
        · exact hall ⟨8, .phase⟩ (by simp) rfl
        · exact hall ⟨9, .phase⟩ (by simp) rfl
        · exact hall ⟨10, .phase⟩ (by simp) rfl
        · exact hall ⟨11, .phase⟩ (by simp) rfl
        · exact hall ⟨12, .phase⟩ (by simp) rfl
      have hall3 : ∀ k, k < 13 → (L.setIfInBounds 13 true).getD k false = true := fun k hk => by rw [hw k (by omega)]; exact hall' k hk
      exact ⟨by simp [I.sz], I.ts, I.t1, I.t2, I.df, hb3, by simpa using I.hs, hx3, no _, fun _ => hall3 3 (by omega), fun _ => hall3 7 (by omega), fun _ => hall3 11 (by omega), fun _ => hall3,
        no _, no _, no _, no _, no _, no _, no _, no _, no _, no _, no _, no _, no _, fun _ => ⟨U', cu', D', cd', C', cc', hy3,
          ⟨((hown.u.far _ _ (by simp)).far _ _ (by simp)).far _ _ (by simp), ((hown.d.far _ _ (by simp)).far _ _ (by simp)).far _ _ (by simp), ((hown.c.far _ _ (by simp)).far _ _ (by simp)).far _ _ (by simp), hown.ud, hown.uc, hown.dc⟩⟩⟩
  · have z : ∀ k, (Array.replicate 14 false).getD k false = false := by
      intro k
      rcases Nat.lt_or_ge k 14 with h | h
      · simp [h]
      · simp [h]
    have n : ∀ (k : Nat) (p : Prop), (Array.replicate 14 false).getD k false = true → p := fun k p h => by rw [z k] at h; cases h
    exact ⟨rfl, rfl, rfl, rfl, rfl, HZ.out, by rw [HZ0.out]; exact Nat.le_refl _, HX.out, fun _ => HY.out, n _ _, n _ _, n _ _, n _ _, fun _ => n _ _, fun _ => n _ _, fun _ => n _ _, fun _ => n _ _, fun _ => n _ _, fun _ => n _ _, fun _ => n _ _, fun _ => n _ _, fun _ => n _ _, fun _ => n _ _, fun _ => n _ _, fun _ => n _ _, fun _ => n _ _, n _ _⟩
end Go.Proofs.Ytailpiagjemhpaa
