/-
  The contract of l1Number. No claim stands here.
-/
import Derived.Test.YthkpikkjgggimaaGreatDoorBT
import Derived.Test.YthkpikkjgggimaaGreatDoorBB
import Derived.Lib.ItoaNum
import Derived.Laws.BytesString
import Derived.Laws.Concat
namespace Go.Proofs.YthkpikkjgggimaaGreatDoor
open Go.RowKit
set_option linter.unusedVariables false
set_option linter.unusedSimpArgs false

theorem one_byte (W : World) (b : Nat) (x : Int) (h : W.cell? ⟨b, 0, none⟩ = some (.int .u8 x)) :
    (convert 22 9 (.slice (some ⟨b, 0, none⟩) 1 1)).run Tryz.prog W = .ok (.string ⟨#[UInt8.ofNat x.toNat]⟩) W := by
  rw [run_convert_bytes_string W _ _ 5 _ _ _ Tryz.underlying22 Tryz.underlying5 Tryz.underlying9]
  rw [run_bytesToString W ⟨b, 0, none⟩ 1 1 [x] (by simp [loadCells, go_sem, h, Addr.add])]
  rfl
set_option maxRecDepth 100000 in
theorem l1Number_low {i : Nat} (hi : i < 10) (w : World) :
    Calls Tryz.prog 58 #[.int .i64 i] w fun e w' => e = .returned (.string ⟨(Lib.decDigits i).toArray⟩) ∧ Below w.heap.size w w' := by
  have HD := Lib.hid (Lib.decDigits_one hi)
  have HB := Lib.hid ((Below.refl w.heap.size w).alloc (Nat.le_refl _) (.cells #[.int .u8 (48 + (i : Int))] 5))
  have hcv := one_byte (w.alloc (.cells #[.int .u8 (48 + (i : Int))] 5)) w.heap.size (48 + (i : Int)) ((cell_of_row _ w.heap.size 0 #[.int .u8 (48 + (i : Int))] 5 (0, 0) (by show (w.heap.push _)[w.heap.size]? = _; simp)).trans rfl)
  rw [show ((48 + (i : Int)).toNat) = 48 + i by omega] at hcv
  generalize UInt8.ofNat (48 + i) = ub at *
  go_enter Tryz.func58, Tryz.ntmps58
  go_wp2
  go_ret
  exact ⟨by rw [HD.out]; rfl, HB.out⟩

/-- What the operations of l1Number's region leave. -/
def NumR (base i : Nat) : Nat → Value → World → Prop
  | 0, v, _ => v = .int .i64 i
  | 1, v, _ => v = .int .i64 ((i / 10 : Nat) : Int)
  | 2, v, _ => v = .string ⟨(Lib.decDigits (i / 10)).toArray⟩
  | 3, v, _ => v = .int .i64 i
  | 4, v, _ => v = .int .i64 ((i % 10 : Nat) : Int)
  | 5, v, _ => v = .int .i64 ((48 + i % 10 : Nat) : Int)
  | 6, v, _ => v = .int .u8 ((48 + i % 10 : Nat) : Int)
  | 7, v, W => ∃ b, v = .slice (some ⟨b, 0, none⟩) 1 1 ∧ W.heap[b]? = some (.cells #[.int .u8 ((48 + i % 10 : Nat) : Int)] 5 (0, 0))
  | 8, v, _ => v = .string ⟨#[UInt8.ofNat (48 + i % 10)]⟩
  | 9, v, _ => v = .string ⟨(Lib.decDigits i).toArray⟩
  | 10, v, _ => v = .string ⟨(Lib.decDigits i).toArray⟩
  | _, _, _ => True
theorem NumR.below {base i : Nat} {W W' : World} (hb : Below W.heap.size W W') : ∀ j v, NumR base i j v W → NumR base i j v W' := by
  intro j v h
  unfold NumR at h ⊢
  split at h
  all_goals first
    | exact h
    | (obtain ⟨b, h1, h2⟩ := h; refine ⟨b, h1, (hb.block b ?_).trans h2⟩; rcases Nat.lt_or_ge b W.heap.size with hlt | hge; exact hlt; rw [Array.getElem?_eq_none hge] at h2; cases h2)
theorem decDigits_more {i : Nat} (h : ¬ i < 10) : Lib.decDigits i = Lib.decDigits (i / 10) ++ [UInt8.ofNat (48 + i % 10)] := by
  rw [Lib.decDigits, dif_neg h]
theorem decDigits_short (i : Nat) : i < 1000000000 → (Lib.decDigits i).length ≤ i + 1 := by
  induction i using Nat.strongRecOn with
  | ind i ih =>
    intro hi
    by_cases h : i < 10
    · rw [Lib.decDigits_one h]; simp
    · rw [decDigits_more h, List.length_append, List.length_singleton]
      have := ih (i / 10) (by omega) (by omega)
      omega
set_option maxRecDepth 100000 in
set_option maxHeartbeats 3200000 in
theorem l1Number_any {i : Nat} (hi : i < 1000000000) : ∀ w : World,
    Calls Tryz.prog 58 #[.int .i64 i] w fun e w' => e = .returned (.string ⟨(Lib.decDigits i).toArray⟩) ∧ Below w.heap.size w w' := by
  induction i using Nat.strongRecOn with
  | ind i ih =>
    intro w
    by_cases hlow : i < 10
    · exact l1Number_low hlow w
    have IH := Lib.hid (ih (i / 10) (by omega) (by omega))
    clear ih
    have HDM := Lib.hid (decDigits_more hlow)
    have HDS := Lib.hid (decDigits_short i hi)
    have q0 : ¬ (i : Int) < 0 := by omega
    have q1 : ¬ (i : Int) < 10 := by omega
    go_enter Tryz.func58, Tryz.ntmps58
    go_wp2_with fail
    rename_i hK
    refine wp_region_any (by kernel_rfl) ?_
    refine wpAny_typed 11 (fun i => (#[24, 25, 26, 27, 28, 29, 30, 31, 32, 33, 2] : Array Nat).getD i 0) (fun _ => false) (NumR w.heap.size i) (fun _ W => Below w.heap.size w W) rfl 34 rfl (by kernel_rfl) (below_drewN (Below.refl _ _) 1) ?_ ?_
    · intro a W U hR hG
      obtain ⟨f, hf, ha⟩ := U.form [false, false, true, false, false, false, false, false, false, false, false, false, false, false, false, false, false, false, false, false, false, false, false, false, true, true, true, true, true, true, true, true, true, true] rfl (by decide)
      have h10 := hR 10 (by omega)
      have e2 : a.tmps.getD 2 undef = f 2 := hf 10 (by omega)
      have h2 : f 2 = .string ⟨(Lib.decDigits i).toArray⟩ := e2.symm.trans h10
      simp only [letters, cond_true, cond_false, Nat.reduceAdd, h2] at ha
      obtain ⟨kk, hkk, hg⟩ := hG
      have HB := Lib.hid hg
      clear hR hf U h10 e2 h2 hg
      subst ha
      refine hK _ _ ?_
      generalize hl : Lib.decDigits i = l
      go_wp2
      go_ret
      exact ⟨by rw [hl]; rfl, HB.out⟩
    · intro i' o ho a W k' U hG hk' hd
      have hlt : i' < 11 := (Array.getElem?_eq_some_iff.1 ho).1
      have hu0 := U.other 0 (by decide)
      have t0 : a.tmps[0]?.getD undef = .int .i64 i := by simpa using hu0
      rcases (by omega : i' = 0 ∨ i' = 1 ∨ i' = 2 ∨ i' = 3 ∨ i' = 4 ∨ i' = 5 ∨ i' = 6 ∨ i' = 7 ∨ i' = 8 ∨ i' = 9 ∨ i' = 10) with rfl | rfl | rfl | rfl | rfl | rfl | rfl | rfl | rfl | rfl | rfl
      all_goals (refine wpOp_of ho (by cases ho; rfl) ?_; cases ho)
      · unfold Oper.wp
        simp [go_sem, Act.eval, t0]
        exact ⟨hG, fun j v _ h => h, .inl ⟨rfl, _, rfl, rfl⟩⟩
      · have h0 := hd ⟨0, .data⟩ (by simp) rfl
        have t24 : a.tmps[24]?.getD undef = .int .i64 i := by simpa [NumR] using h0
        have hw : IntKind.i64.wrap ((i : Int) / 10) = (i : Int) / 10 := IntWalk.i64_in _ (by omega)
        unfold Oper.wp
        simp [go_sem, Act.eval, t24, hw]
        exact ⟨hG, fun j v _ h => h, .inl ⟨rfl, _, rfl, by show _ = _; simp⟩⟩
      · have h1 := hd ⟨1, .data⟩ (by simp) rfl
        have t25 : a.tmps[25]?.getD undef = .int .i64 ((i / 10 : Nat) : Int) := by simpa [NumR] using h1
        unfold Oper.wp
        simp [go_sem, Act.eval, t25]
        have ih2 := IH.out W
        rw [show ((i / 10 : Nat) : Int) = (i : Int) / 10 by omega] at ih2
        refine ih2.mono ?_
        rintro e w' ⟨rfl, hb⟩
        exact ⟨hG.trans (hb.mono hG.size), fun j v _ h => h.below hb, .inl ⟨rfl, _, rfl, rfl⟩⟩
      · unfold Oper.wp
        simp [go_sem, Act.eval, t0]
        exact ⟨hG, fun j v _ h => h, .inl ⟨rfl, _, rfl, rfl⟩⟩
      · have h0 := hd ⟨3, .data⟩ (by simp) rfl
        have t27 : a.tmps[27]?.getD undef = .int .i64 i := by simpa [NumR] using h0
        have hw : IntKind.i64.wrap ((i : Int) % 10) = (i : Int) % 10 := IntWalk.i64_in _ (by omega)
        have hm : (i : Int).tmod 10 = (i : Int) % 10 := IntWalk.rem_in _ _ (by omega)
        unfold Oper.wp
        simp [go_sem, Act.eval, t27, hw, hm]
        exact ⟨hG, fun j v _ h => h, .inl ⟨rfl, _, rfl, by show _ = _; simp⟩⟩
      · have h0 := hd ⟨4, .data⟩ (by simp) rfl
        have t28 : a.tmps[28]?.getD undef = .int .i64 ((i % 10 : Nat) : Int) := by simpa [NumR] using h0
        have hw : IntKind.i64.wrap (48 + ((i % 10 : Nat) : Int)) = ((48 + i % 10 : Nat) : Int) := (IntWalk.i64_in _ (by omega)).trans (by omega)
        generalize hz : ((48 + i % 10 : Nat) : Int) = z at *
        generalize ((i % 10 : Nat) : Int) = y at *
        unfold Oper.wp
        simp [go_sem, Act.eval, t28, hw]
        exact ⟨hG, fun j v _ h => h, .inl ⟨rfl, _, rfl, by show _ = _; rw [hz]⟩⟩
      · have h0 := hd ⟨5, .data⟩ (by simp) rfl
        have t29 : a.tmps[29]?.getD undef = .int .i64 ((48 + i % 10 : Nat) : Int) := by simpa [NumR] using h0
        have hw : IntKind.u8.wrap ((48 + i % 10 : Nat) : Int) = ((48 + i % 10 : Nat) : Int) := by
          exact IntWalk.u8_in _ (by omega)
        generalize hz : ((48 + i % 10 : Nat) : Int) = z at *
        unfold Oper.wp
        simp [go_sem, Act.eval, t29, hw]
        exact ⟨hG, fun j v _ h => h, .inl ⟨rfl, _, rfl, by show _ = _; rw [hz]⟩⟩
      · have h0 := hd ⟨6, .data⟩ (by simp) rfl
        have t30 : a.tmps[30]?.getD undef = .int .u8 ((48 + i % 10 : Nat) : Int) := by simpa [NumR] using h0
        have hba := (Below.refl W.heap.size W).alloc (Nat.le_refl _) (.cells #[.int .u8 ((48 + i % 10 : Nat) : Int)] 5)
        generalize hz : ((48 + i % 10 : Nat) : Int) = z at *
        unfold Oper.wp
        simp [go_sem, Act.eval, t30]
        refine ⟨hG.trans (hba.mono hG.size), fun j v _ h => h.below hba, .inl ⟨rfl, _, rfl, ⟨W.heap.size, rfl, ?_⟩⟩⟩
        rw [hz]
        show (W.heap.push _)[W.heap.size]? = _
        simp
      · obtain ⟨b, h0, hc⟩ := hd ⟨7, .data⟩ (by simp) rfl
        have t31 : a.tmps[31]?.getD undef = .slice (some ⟨b, 0, none⟩) 1 1 := by simpa using h0
        have hcv := one_byte W b _ ((cell_of_row _ b 0 #[.int .u8 ((48 + i % 10 : Nat) : Int)] 5 (0, 0) hc).trans rfl)
        rw [show ((((48 + i % 10 : Nat) : Int)).toNat) = 48 + i % 10 by omega] at hcv
        generalize hz : UInt8.ofNat (48 + i % 10) = z at *
        unfold Oper.wp
        simp [go_sem, Act.eval, t31, hcv]
        exact ⟨hG, fun j v _ h => h, .inl ⟨rfl, _, rfl, by show _ = _; rw [hz]⟩⟩
      · have h0 := hd ⟨2, .data⟩ (by simp) rfl
        have h8 := hd ⟨8, .data⟩ (by simp) rfl
        have t26 : a.tmps[26]?.getD undef = .string ⟨(Lib.decDigits (i / 10)).toArray⟩ := by simpa [NumR] using h0
        have t32 : a.tmps[32]?.getD undef = .string ⟨#[UInt8.ofNat (48 + i % 10)]⟩ := by
          have h : a.tmps.getD 32 undef = .string ⟨#[UInt8.ofNat (48 + i % 10)]⟩ := h8
          generalize UInt8.ofNat (48 + i % 10) = z at *
          simpa using h
        have hl := decDigits_short (i / 10) (by omega)
        have hdm := HDM.out
        have hlen : ¬ 9223372036854775807 < (Lib.decDigits (i / 10)).length + 1 := by omega
        generalize UInt8.ofNat (48 + i % 10) = z at *
        unfold Oper.wp
        simp [go_sem, Act.eval, t26, t32, hlen]
        refine ⟨hG, fun j v _ h => h, .inl ⟨rfl, _, rfl, ?_⟩⟩
        show Value.string _ = .string _
        rw [hdm, ByteArray.mk_append_mk]
      · have h0 := hd ⟨9, .data⟩ (by simp) rfl
        have t33 : a.tmps[33]?.getD undef = .string ⟨(Lib.decDigits i).toArray⟩ := by simpa [NumR] using h0
        unfold Oper.wp
        simp [go_sem, Act.eval, t33]
        exact ⟨hG, fun j v _ h => h, .inl ⟨rfl, _, rfl, rfl⟩⟩
end Go.Proofs.YthkpikkjgggimaaGreatDoor
