/-
  The contract of the drawing of calls. No claim stands here.
-/
import Derived.Test.YtnbjibkbjdbadaaDrawB
import Derived.Test.YtnbjibkbjdbadaaDrawD
import Derived.Test.YtnbjibkbjdbadaaSetK
namespace Go.Proofs.Ytnbjibkbjdbadaa
open Go.RowKit
set_option linter.unusedVariables false
set_option linter.unusedSimpArgs false

/-- Block b is a box of calls. -/
def CBox (W : World) (b : Nat) (x y z : Value) : Prop := W.heap[b]? = some (.cells #[x, y, z] 32 (0, 0))
theorem CBox.bx {W : World} {b : Nat} {x y z : Value} (h : CBox W b x y z) : Bx W b #[x, y, z] := ⟨_, h⟩
theorem CBox.kept {W W' : World} {b g : Nat} {x y z : Value} (h : CBox W b x y z) (hg : W.grownBy W' (some g)) (hne : b ≠ g) : CBox W' b x y z :=
  (hg.block b h.bx.lt (by intro e; cases e; exact hne rfl)).trans h
theorem CBox.below {W W' : World} {b : Nat} {x y z : Value} (h : CBox W b x y z) (hb : Below W.heap.size W W') : CBox W' b x y z := (hb.block b h.bx.lt).trans h
theorem CBox.far {W : World} {b : Nat} {x y z : Value} (h : CBox W b x y z) (p : Addr) (v : Value) (hp : p.block ≠ b) : CBox (W.setCell p v) b x y z :=
  (Below.heap_setCell _ _ _ _ (by intro e; exact hp e.symm)).trans h
theorem CBox.put {W : World} {b : Nat} {x y z : Value} (h : CBox W b x y z) (x' y' z' : Value) : CBox (((W.setCell ⟨b, 0, none⟩ x').setCell ⟨b, 1, none⟩ y').setCell ⟨b, 2, none⟩ z') b x' y' z' := by
  unfold CBox at h ⊢
  simp [World.setCell, Array.getElem?_modify, h]
/-- Lists of truths from base on stay as they are. -/
def Stay (base : Nat) (W W' : World) : Prop := W.heap.size ≤ W'.heap.size ∧ ∀ b, base ≤ b → ∀ cur fz, W.heap[b]? = some (.cells cur 4 fz) → W'.heap[b]? = W.heap[b]?
theorem some_lt {W : World} {b : Nat} {o : Obj} (h : W.heap[b]? = some o) : b < W.heap.size := by
  rcases Nat.lt_or_ge b W.heap.size with hlt | hge
  · exact hlt
  · rw [Array.getElem?_eq_none hge] at h; cases h
theorem Stay.refl (base : Nat) (W : World) : Stay base W W := ⟨Nat.le_refl _, fun _ _ _ _ _ => rfl⟩
theorem Stay.below {base : Nat} {W W' : World} (hb : Below W.heap.size W W') : Stay base W W' := ⟨hb.size, fun b _ cur fz h => hb.block b (some_lt h)⟩
theorem Stay.picked {base g : Nat} {W W' : World} (hg : W.grownBy W' (some g)) (h : g < base) : Stay base W W' :=
  ⟨hg.size, fun b hb cur fz hc => hg.block b (some_lt hc) (by intro e; cases e; omega)⟩
theorem Stay.far {base b : Nat} {W : World} {x y z : Value} (h : CBox W b x y z) (o : Nat) (v : Value) : Stay base W (W.setCell ⟨b, o, none⟩ v) :=
  ⟨by simp, fun b' _ cur fz hc => Below.heap_setCell _ _ _ _ (by intro e; simp at e; subst e; rw [h] at hc; cases hc)⟩
theorem Stay.put {base b : Nat} {W : World} {x y z : Value} (h : CBox W b x y z) (x' y' z' : Value) : Stay base W (((W.setCell ⟨b, 0, none⟩ x').setCell ⟨b, 1, none⟩ y').setCell ⟨b, 2, none⟩ z') := by
  refine ⟨by simp, fun b' _ cur fz hc => ?_⟩
  have hne : b' ≠ b := by intro e; subst e; rw [h] at hc; cases hc
  exact ((Below.heap_setCell _ _ _ _ (by intro e; exact hne e)).trans (Below.heap_setCell _ _ _ _ (by intro e; exact hne e))).trans (Below.heap_setCell _ _ _ _ (by intro e; exact hne e))
theorem RowB.stay {W W' : World} {base n c : Nat} {A : Option Addr} {f : Nat → Bool} (h : RowB W base A n c f) (s : Stay base W W') : RowB W' base A n c f := by
  refine ⟨h.1, ?_⟩
  rcases h.2 with h' | ⟨b, cap, cur, hv, hbb, hh, r⟩
  · exact .inl h'
  · exact .inr ⟨b, cap, cur, hv, hbb, (s.2 b hbb _ _ hh).trans hh, r⟩
/-- x, y, z are valid calls of the call's own. -/
def OwnCs (W : World) (base n : Nat) (x y z : Value) : Prop :=
  ∃ U cu D cd C cc up dn car, x = .slice U n cu ∧ y = .slice D n cd ∧ z = .slice C n cc ∧ callsB n n n up dn = true ∧ OwnC W base U n cu up D n cd dn C n cc car
theorem OwnCs.stay {W W' : World} {base n : Nat} {x y z : Value} (h : OwnCs W base n x y z) (s : Stay base W W') : OwnCs W' base n x y z := by
  obtain ⟨U, cu, D, cd, C, cc, up, dn, car, h1, h2, h3, hv, ho⟩ := h
  exact ⟨U, cu, D, cd, C, cc, up, dn, car, h1, h2, h3, hv, ⟨ho.u.stay s, ho.d.stay s, ho.c.stay s, ho.ud, ho.uc, ho.dc⟩⟩
/-- What the operations of l20Calls's region leave. -/
def CallR (base g g7 n : Nat) (x y z : Value) : Nat → Value → World → Prop
  | 0, v, _ => v = .agg #[x, y, z]
  | 1, v, _ => v = .pointer (some ⟨g, 0, none⟩)
  | 3, v, _ => v = .pointer (some ⟨g, 0, none⟩)
  | 4, v, _ => v = .int .i64 n
  | 5, v, _ => v = .int .i64 n
  | 7, v, W => ∃ x' y' z' ok, v = .tuple #[.agg #[x', y', z'], .bool ok] ∧ OwnCs W base n x' y' z'
  | 8, v, W => ∃ x' y' z' ok, v = .tuple #[.agg #[x', y', z'], .bool ok] ∧ OwnCs W base n x' y' z'
  | 9, v, W => ∃ x' y' z', v = .agg #[x', y', z'] ∧ OwnCs W base n x' y' z'
  | 10, v, _ => ∃ ok, v = .bool ok
  | 11, v, W => ∃ b x' y' z', v = .pointer (some ⟨b, 0, none⟩) ∧ g7 < b ∧ CBox W b x' y' z'
  | 12, v, W => ∃ b x' y' z', v = .pointer (some ⟨b, 0, none⟩) ∧ g7 < b ∧ CBox W b x' y' z' ∧ OwnCs W base n x' y' z'
  | 13, v, _ => ∃ ok, v = .bool ok
  | _, v, _ => AnInt v
/-- Boxes of calls behind block g7 stay as they are. -/
def StayC (g7 : Nat) (W W' : World) : Prop := ∀ b x y z, g7 < b → CBox W b x y z → CBox W' b x y z
theorem CallR.keep {base g g7 n : Nat} {x y z : Value} {W W' : World} (s : Stay base W W') (c : StayC g7 W W') : ∀ j v, CallR base g g7 n x y z j v W → CallR base g g7 n x y z j v W' := by
  intro j v hj
  unfold CallR at hj ⊢
  split at hj
  all_goals first
    | exact hj
    | (obtain ⟨a, b, d, e, h1, h2⟩ := hj; exact ⟨a, b, d, e, h1, h2.stay s⟩)
    | (obtain ⟨a, b, d, h1, h2⟩ := hj; exact ⟨a, b, d, h1, h2.stay s⟩)
    | (obtain ⟨b, x', y', z', h1, h2, h3⟩ := hj; exact ⟨b, x', y', z', h1, h2, c _ _ _ _ h2 h3⟩)
    | (obtain ⟨b, x', y', z', h1, h2, h3, h4⟩ := hj; exact ⟨b, x', y', z', h1, h2, c _ _ _ _ h2 h3, h4.stay s⟩)
theorem CallR.put {base g g7 n b : Nat} {x y z a0 a1 a2 : Value} {W : World} (h : CBox W b a0 a1 a2) (x' y' z' : Value) : ∀ j v, j ≠ 12 → CallR base g g7 n x y z j v W → CallR base g g7 n x y z j v (((W.setCell ⟨b, 0, none⟩ x').setCell ⟨b, 1, none⟩ y').setCell ⟨b, 2, none⟩ z') := by
  intro j v hne hj
  have s := Stay.put (base := base) h x' y' z'
  unfold CallR at hj ⊢
  split at hj
  all_goals first
    | exact hj
    | exact absurd rfl hne
    | (obtain ⟨a, b, d, e, h1, h2⟩ := hj; exact ⟨a, b, d, e, h1, h2.stay s⟩)
    | (obtain ⟨a, b, d, h1, h2⟩ := hj; exact ⟨a, b, d, h1, h2.stay s⟩)
    | skip
  obtain ⟨b', c0, c1, c2, h1, h2, h3⟩ := hj
  by_cases e : b' = b
  · subst e
    exact ⟨_, _, _, _, h1, h2, h.put _ _ _⟩
  · exact ⟨b', c0, c1, c2, h1, h2, ((h3.far _ _ (by simp; omega)).far _ _ (by simp; omega)).far _ _ (by simp; omega)⟩
/-- What holds of the world in l20Calls's region. -/
structure CallG (w : World) (base g g7 Q n : Nat) (x y z : Value) (k : Nat) (W : World) : Prop where
  r : Reads W g (Q + k)
  o : Only w.heap.size g w W
  h : w.heap.size < W.heap.size
  c6 : CBox W w.heap.size (.slice none 0 0) (.slice none 0 0) (.slice none 0 0)
  c7 : CBox W g7 x y z
  own : OwnCs W base n x y z
section
variable {w W W' : World} {base g g7 Q k n : Nat} {x y z : Value}
theorem CallG.step (h : CallG w base g g7 Q n x y z k W) : CallG w base g g7 Q n x y z (k + 1) W := ⟨h.r.mono (by omega), h.o, h.h, h.c6, h.c7, h.own⟩
theorem CallG.below (h : CallG w base g g7 Q n x y z k W) (hb : Below W.heap.size W W') : CallG w base g g7 Q n x y z (k + 1) W' :=
  ⟨(h.r.mono (by omega)).below hb h.r.lt, h.o.trans ⟨hb.os, hb.tape, hb.output, hb.size, fun k hk _ => hb.block k (by have := h.o.size; omega)⟩, Nat.lt_of_lt_of_le h.h hb.size, h.c6.below hb, h.c7.below hb, h.own.stay (Stay.below hb)⟩
theorem CallG.picked (h : CallG w base g g7 Q n x y z k W) (hg : W.grownBy W' (some g)) (hr : Reads W' g (Q + k + 1)) (hgl : g < w.heap.size) (hb : w.heap.size < base) (h7 : w.heap.size < g7) : CallG w base g g7 Q n x y z (k + 1) W' :=
  ⟨hr, h.o.picked hg (Nat.le_of_lt h.h), Nat.lt_of_lt_of_le h.h hg.size, h.c6.kept hg (by omega), h.c7.kept hg (by omega), h.own.stay (Stay.picked hg (by omega))⟩
theorem CallG.stored (h : CallG w base g g7 Q n x y z k W) (hgl : g < w.heap.size) (h7 : w.heap.size < g7) {b : Nat} {a0 a1 a2 : Value} (hb : CBox W b a0 a1 a2) (hlt : g7 < b) (x' y' z' : Value) :
    CallG w base g g7 Q n x y z (k + 1) (((W.setCell ⟨b, 0, none⟩ x').setCell ⟨b, 1, none⟩ y').setCell ⟨b, 2, none⟩ z') := by
  have hbl : Below b W (((W.setCell ⟨b, 0, none⟩ x').setCell ⟨b, 1, none⟩ y').setCell ⟨b, 2, none⟩ z') := (((Below.refl b W).setCell (p := ⟨b, 0, none⟩) (Nat.le_refl b) x').setCell (p := ⟨b, 1, none⟩) (Nat.le_refl b) y').setCell (p := ⟨b, 2, none⟩) (Nat.le_refl b) z'
  exact ⟨(h.r.mono (by omega)).below hbl (by omega), h.o.trans ⟨hbl.os, hbl.tape, hbl.output, hbl.size, fun k hk _ => hbl.block k (by omega)⟩, by simpa using h.h, ((h.c6.far _ _ (by simp; omega)).far _ _ (by simp; omega)).far _ _ (by simp; omega), ((h.c7.far _ _ (by simp; omega)).far _ _ (by simp; omega)).far _ _ (by simp; omega), h.own.stay (Stay.put hb _ _ _)⟩
theorem CallG.swap (h : CallG w base g g7 Q n x y z k W) (hgl : g < w.heap.size) (h7 : w.heap.size < g7) {x' y' z' : Value} (ho : OwnCs W base n x' y' z') :
    CallG w base g g7 Q n x' y' z' k (((W.setCell ⟨g7, 0, none⟩ x').setCell ⟨g7, 1, none⟩ y').setCell ⟨g7, 2, none⟩ z') := by
  have hbl : Below g7 W (((W.setCell ⟨g7, 0, none⟩ x').setCell ⟨g7, 1, none⟩ y').setCell ⟨g7, 2, none⟩ z') := (((Below.refl g7 W).setCell (p := ⟨g7, 0, none⟩) (Nat.le_refl g7) x').setCell (p := ⟨g7, 1, none⟩) (Nat.le_refl g7) y').setCell (p := ⟨g7, 2, none⟩) (Nat.le_refl g7) z'
  exact ⟨h.r.below hbl (by omega), h.o.trans ⟨hbl.os, hbl.tape, hbl.output, hbl.size, fun k hk _ => hbl.block k (by omega)⟩, by simpa using h.h, ((h.c6.far _ _ (by simp; omega)).far _ _ (by simp; omega)).far _ _ (by simp; omega), h.c7.put _ _ _, ho.stay (Stay.put h.c7 _ _ _)⟩
theorem CallG.weak {Q' k' : Nat} (h : CallG w base g g7 Q n x y z k W) (hq : Q + k ≤ Q' + k') : CallG w base g g7 Q' n x y z k' W := ⟨h.r.mono hq, h.o, h.h, h.c6, h.c7, h.own⟩
theorem StayC.below (hb : Below W.heap.size W W') : StayC g7 W W' := fun b x y z _ h => h.below hb
theorem StayC.picked (hg : W.grownBy W' (some g)) (h : g < g7) : StayC g7 W W' := fun b x y z hlt h => h.kept hg (by omega)
end
/-- What a drawing of calls leaves. -/
def DrawnC (Q n : Nat) (w : World) (g : Nat) (e : Ending) (w' : World) : Prop :=
  ∃ U cu D cd C cc up dn car, e = .returned (.agg #[.slice U n cu, .slice D n cd, .slice C n cc]) ∧ callsB n n n up dn = true ∧ OwnC w' w.heap.size U n cu up D n cd dn C n cc car ∧ Reads w' g Q ∧ w.grownBy w' (some g)
theorem callsB_none {n : Nat} (h1 : 1 ≤ n) (h8 : n ≤ 8) : callsB n n n (fun _ => false) (fun _ => false) = true := callsB_iff.2 ⟨h1, h8, rfl, rfl, rfl, rfl⟩

set_option maxRecDepth 8000 in
set_option maxHeartbeats 12800000 in
theorem l20Calls_any {w : World} {g Q n : Nat} (hn1 : 1 ≤ n) (hn8 : n ≤ 8) (hQ : Q + 200 ≤ 1000000) (r : Reads w g Q) :
    Calls Try.prog 75 #[.pointer (some ⟨g, 0, none⟩), .int .i64 n, .int .i64 0] w (DrawnC (Q + 200) n w g) := by
  have hgl := r.lt
  have H := Lib.hid r
  clear r
  unfold DrawnC
  go_enter Try.func75, Try.ntmps75
  go_wp2_with fail
  refine (CallsNone_any hn1 hn8 _).mono ?_
  rintro e w1 ⟨U, cu, D, cd, C, cc, rfl, hk, hb1⟩
  have hs1 : w.heap.size + 1 ≤ w1.heap.size := by have := hb1.size; simpa using this
  have hG : CallG w (w.heap.size + 1) g w1.heap.size Q n (.slice U n cu) (.slice D n cd) (.slice C n cc) 0 (w1.alloc (.cells #[.slice U n cu, .slice D n cd, .slice C n cc] 32)) := by
    have hr0 := H.out.alloc (.cells #[.slice none 0 0, .slice none 0 0, .slice none 0 0] 32)
    have c6 : CBox (w.alloc (.cells #[.slice none 0 0, .slice none 0 0, .slice none 0 0] 32)) w.heap.size (.slice none 0 0) (.slice none 0 0) (.slice none 0 0) := by
      show (w.heap.push _)[w.heap.size]? = _; simp
    have c7 : CBox (w1.alloc (.cells #[.slice U n cu, .slice D n cd, .slice C n cc] 32)) w1.heap.size (.slice U n cu) (.slice D n cd) (.slice C n cc) := by
      show (w1.heap.push _)[w1.heap.size]? = _; simp
    have hba := (Below.refl w1.heap.size w1).alloc (Nat.le_refl _) (.cells #[.slice U n cu, .slice D n cd, .slice C n cc] 32)
    have ho1 := (Only.refl w.heap.size g w).alloc (Nat.le_refl _) (.cells #[.slice none 0 0, .slice none 0 0, .slice none 0 0] 32)
    refine ⟨(hr0.below hb1 hr0.lt).alloc _, ?_, by simp; omega, (c6.below hb1).below hba, c7, ?_⟩
    · refine (ho1.trans ⟨hb1.os, hb1.tape, hb1.output, hb1.size, fun k hk _ => hb1.block k (by simp; omega)⟩).alloc (by omega) _
    · exact ⟨U, cu, D, cd, C, cc, _, _, _, rfl, rfl, rfl, callsB_none hn1 hn8, (hk.mono (by simp)).below hba (Nat.le_refl _)⟩
  have HG := Lib.hid hG
  clear hG hk hb1 H
  go_wp2_with fail
  refine (HG.out.r.pick 8 (by omega) (by omega)).mono ?_
  rintro e w2 ⟨k0, rfl, hp2, hr2, hg2⟩
  obtain ⟨p1, p2⟩ := picked_lit0 hp2 (by omega)
  have HG2 := Lib.hid (HG.out.picked hg2 hr2 hgl (by omega) (by omega))
  clear hp2 hr2 hg2 HG
  obtain ⟨k1, rfl⟩ := Int.eq_ofNat_of_zero_le p1
  generalize hg7 : w1.heap.size = g7 at *
  clear hg7
  go_wp2
  go_loopw [8] (fun s8 wr => ∃ (k i : Nat) (x y z : Value), s8 = .int .i64 k ∧ i + k ≤ 7 ∧ CallG w (w.heap.size + 1) g g7 (Q + 1 + 15 * i) n x y z 0 wr) (fun s8 _ => (intOf s8).toNat)
  case atStart => exact ⟨k1, 0, _, _, _, rfl, by omega, ⟨HG2.out.r, HG2.out.o, HG2.out.h, HG2.out.c6, HG2.out.c7, HG2.out.own⟩⟩
  case round =>
    obtain ⟨k, i, x, y, z, rfl, hik, hG⟩ := hrel
    clear HG2
    have HG := Lib.hid hG
    clear hG
    by_cases hk : 0 < k
    · go_wp2_with fail
      rename_i hK
      refine wp_region_any (by kernel_rfl) ?_
      refine wpAny_typed 14 (fun i => (#[20, 21, 22, 23, 24, 25, 26, 27, 19, 28, 29, 9, 9, 10] : Array Nat).getD i 0) (fun i => i == 12) (CallR (w.heap.size + 1) g g7 n x y z) (CallG w (w.heap.size + 1) g g7 (Q + 1 + 15 * i) n x y z) rfl 66 rfl (by kernel_rfl) ⟨HG.out.r.drewN 1, HG.out.o.drewN 1, HG.out.h, HG.out.c6, HG.out.c7, HG.out.own.stay ⟨Nat.le_refl _, fun _ _ _ _ _ => rfl⟩⟩ ?_ ?_
      · intro a W U hR hG
        obtain ⟨f, hf, ha⟩ := U.form [false, false, false, false, false, false, false, false, false, true, true, false, false, false, false, false, false, false, false, true, true, true, true, true, true, true, true, true, true, true, false, false, false, false, false, false, false, false, false, false, false, false, false, false, false, false, false, false, false, false, false, false, false, false, false, false, false, false, false, false, false, false, false, false, false, false] rfl (by decide)
        obtain ⟨b9, x', y', z', h9, hlt9, hb9, ho9⟩ := hR 12 (by omega)
        obtain ⟨ok, h10⟩ := hR 13 (by omega)
        have e9 : a.tmps.getD 9 undef = f 9 := hf 12 (by omega)
        have e10 : a.tmps.getD 10 undef = f 10 := hf 13 (by omega)
        have h9' : f 9 = .pointer (some ⟨b9, 0, none⟩) := e9.symm.trans h9
        have h10' : f 10 = .bool ok := e10.symm.trans h10
        simp only [letters, cond_true, cond_false, Nat.reduceAdd, h9', h10'] at ha
        obtain ⟨kk, hkk, hg⟩ := hG
        obtain ⟨U', cu', D', cd', C', cc', up', dn', car', rfl, rfl, rfl, hv', ho'⟩ := ho9
        have HG1 := Lib.hid hg
        have ho9 : OwnCs W (w.heap.size + 1) n (.slice U' n cu') (.slice D' n cd') (.slice C' n cc') := ⟨U', cu', D', cd', C', cc', up', dn', car', rfl, rfl, rfl, hv', ho'⟩
        have HB9 := Lib.hid hb9
        have HO9 := Lib.hid ho9
        clear hR hf U h9 e9 e10 h9' h10' h10 hg hb9 ho9 HG ho' hv'
        subst ha
        refine hK _ _ ?_
        have c9 := HB9.out.bx.cells
        have c7 := HG1.out.c7.bx.cells
        have f7 := HG1.out.c7.bx.free
        cases ok
        · go_wp2
          go_roundw
          case rel => exact ⟨k - 1, i + 1, x, y, z, by go_num, by omega, ⟨HG1.out.r.mono (by omega), HG1.out.o, HG1.out.h, HG1.out.c6, HG1.out.c7, HG1.out.own⟩⟩
          case measure => simp [intOf]; omega
        · go_wp2
          go_roundw
          case rel => exact ⟨k - 1, i + 1, _, _, _, by go_num, by omega, (HG1.out.swap hgl (by omega) HO9.out).weak (by omega)⟩
          case measure => simp [intOf]; omega
      · intro i' o ho a W k' U hG hk' hd
        have hlt : i' < 14 := (Array.getElem?_eq_some_iff.1 ho).1
        have h7 : w.heap.size < g7 := by omega
        rcases (by omega : i' = 0 ∨ i' = 1 ∨ i' = 2 ∨ i' = 3 ∨ i' = 4 ∨ i' = 5 ∨ i' = 6 ∨ i' = 7 ∨ i' = 8 ∨ i' = 9 ∨ i' = 10 ∨ i' = 11 ∨ i' = 12 ∨ i' = 13) with rfl | rfl | rfl | rfl | rfl | rfl | rfl | rfl | rfl | rfl | rfl | rfl | rfl | rfl
        all_goals (refine wpOp_of ho (by cases ho; rfl) ?_; cases ho)
        · have h7 := U.other 7 (by decide)
          have t7 : a.tmps[7]?.getD undef = .pointer (some ⟨g7, 0, none⟩) := by simpa using h7
          obtain ⟨U', cu', D', cd', C', cc', up', dn', car', rfl, rfl, rfl, hv', ho'⟩ := hG.own
          have c := hG.c7.bx.cells
          unfold Oper.wp
          simp [go_sem, Act.eval, t7, c]
          exact ⟨hG.step, fun j v _ h => h, .inl ⟨rfl, _, rfl, rfl⟩⟩
        · have h0 := U.other 0 (by decide)
          have t0 : a.tmps[0]?.getD undef = .pointer (some ⟨g, 0, none⟩) := by simpa using h0
          unfold Oper.wp
          simp [go_sem, Act.eval, t0]
          exact ⟨hG.step, fun j v _ h => h, .inl ⟨rfl, _, rfl, rfl⟩⟩
        · have h1 := hd ⟨1, .data⟩ (by simp) rfl
          have t21 : a.tmps[21]?.getD undef = .pointer (some ⟨g, 0, none⟩) := by simpa [CallR] using h1
          unfold Oper.wp
          simp [go_sem, Act.eval, t21]
          refine (hG.r.pick 3 (by omega) (by omega)).mono ?_
          rintro e w' ⟨xx, rfl, hp, hr, hg⟩
          exact ⟨hG.picked hg hr hgl (by omega) (by omega), fun j v _ h => CallR.keep (Stay.picked hg (by omega)) (StayC.picked hg (by omega)) j v h, .inl ⟨rfl, _, rfl, ⟨_, rfl⟩⟩⟩
        · have h0 := U.other 0 (by decide)
          have t0 : a.tmps[0]?.getD undef = .pointer (some ⟨g, 0, none⟩) := by simpa using h0
          unfold Oper.wp
          simp [go_sem, Act.eval, t0]
          exact ⟨hG.step, fun j v _ h => h, .inl ⟨rfl, _, rfl, rfl⟩⟩
        · have h1 := U.other 1 (by decide)
          have t1 : a.tmps[1]?.getD undef = .int .i64 n := by simpa using h1
          unfold Oper.wp
          simp [go_sem, Act.eval, t1]
          exact ⟨hG.step, fun j v _ h => h, .inl ⟨rfl, _, rfl, rfl⟩⟩
        · have h4 := hd ⟨4, .data⟩ (by simp) rfl
          have t24 : a.tmps[24]?.getD undef = .int .i64 n := by simpa [CallR] using h4
          have hmx : ¬ (n : Int) < 1 := by omega
          unfold Oper.wp
          simp [go_sem, Act.eval, t24, hmx]
          exact ⟨hG.step, fun j v _ h => h, .inl ⟨rfl, _, rfl, rfl⟩⟩
        · have h3 := hd ⟨3, .data⟩ (by simp) rfl
          have t23 : a.tmps[23]?.getD undef = .pointer (some ⟨g, 0, none⟩) := by simpa [CallR] using h3
          have h5 := hd ⟨5, .data⟩ (by simp) rfl
          have t25 : a.tmps[25]?.getD undef = .int .i64 n := by simpa [CallR] using h5
          unfold Oper.wp
          simp [go_sem, Act.eval, t23, t25]
          refine (hG.r.pick (n : Int) (by omega) (by omega)).mono ?_
          rintro e w' ⟨xx, rfl, hp, hr, hg⟩
          exact ⟨hG.picked hg hr hgl (by omega) (by omega), fun j v _ h => CallR.keep (Stay.picked hg (by omega)) (StayC.picked hg (by omega)) j v h, .inl ⟨rfl, _, rfl, ⟨_, rfl⟩⟩⟩
        · have h0 := hd ⟨0, .data⟩ (by simp) rfl
          obtain ⟨c2, h2⟩ := hd ⟨2, .data⟩ (by simp) rfl
          obtain ⟨c6, h6⟩ := hd ⟨6, .data⟩ (by simp) rfl
          have t20 : a.tmps[20]?.getD undef = .agg #[x, y, z] := by simpa [CallR] using h0
          have t22 : a.tmps[22]?.getD undef = .int .i64 c2 := by simpa using h2
          have t26 : a.tmps[26]?.getD undef = .int .i64 c6 := by simpa using h6
          obtain ⟨U', cu', D', cd', C', cc', up', dn', car', rfl, rfl, rfl, hv', ho'⟩ := hG.own
          unfold Oper.wp
          simp [go_sem, Act.eval, t20, t22, t26]
          refine (spec_CallSet c2 c6 true hv' (Nat.le_refl _) ho'.u.bools ho'.d.bools ho'.c.bools).mono ?_
          unfold SetPost
          rintro e w' ⟨U2, cu2, D2, cd2, C2, cc2, rfl, hk2, hb2⟩
          exact ⟨hG.below hb2, fun j v _ h => CallR.keep (Stay.below hb2) (StayC.below hb2) j v h, .inl ⟨rfl, _, rfl, ⟨_, _, _, _, rfl, ⟨U2, cu2, D2, cd2, C2, cc2, _, _, _, rfl, rfl, rfl, ask_calls hv' c2 c6 true, hk2.mono hG.h⟩⟩⟩⟩
        · obtain ⟨x', y', z', ok, h7, ho7⟩ := hd ⟨7, .data⟩ (by simp) rfl
          have t27 : a.tmps[27]?.getD undef = .tuple #[.agg #[x', y', z'], .bool ok] := by simpa using h7
          unfold Oper.wp
          simp [go_sem, Act.eval, t27]
          exact ⟨hG.step, fun j v _ h => h, .inl ⟨rfl, _, rfl, ⟨x', y', z', ok, rfl, ho7⟩⟩⟩
        · obtain ⟨x', y', z', ok, h8, ho8⟩ := hd ⟨8, .data⟩ (by simp) rfl
          have t19 : a.tmps[19]?.getD undef = .tuple #[.agg #[x', y', z'], .bool ok] := by simpa using h8
          unfold Oper.wp
          simp [go_sem, Act.eval, t19]
          exact ⟨hG.step, fun j v _ h => h, .inl ⟨rfl, _, rfl, ⟨x', y', z', rfl, ho8⟩⟩⟩
        · obtain ⟨x', y', z', ok, h8, ho8⟩ := hd ⟨8, .data⟩ (by simp) rfl
          have t19 : a.tmps[19]?.getD undef = .tuple #[.agg #[x', y', z'], .bool ok] := by simpa using h8
          unfold Oper.wp
          simp [go_sem, Act.eval, t19]
          exact ⟨hG.step, fun j v _ h => h, .inl ⟨rfl, _, rfl, ⟨ok, rfl⟩⟩⟩
        · have hba := (Below.refl W.heap.size W).alloc (Nat.le_refl _) (.cells #[.slice none 0 0, .slice none 0 0, .slice none 0 0] 32)
          unfold Oper.wp
          simp [go_sem, Act.eval]
          refine ⟨hG.below hba, fun j v _ h => CallR.keep (Stay.below hba) (StayC.below hba) j v h, .inl ⟨rfl, _, rfl, ⟨W.heap.size, .slice none 0 0, .slice none 0 0, .slice none 0 0, rfl, hG.c7.bx.lt, ?_⟩⟩⟩
          show (W.heap.push _)[W.heap.size]? = _
          simp
        · obtain ⟨b, x0, y0, z0, h11, hltb, hb⟩ := hd ⟨11, .data⟩ (by simp) rfl
          obtain ⟨x', y', z', h9, ho9⟩ := hd ⟨9, .data⟩ (by simp) rfl
          have t9 : a.tmps[9]?.getD undef = .pointer (some ⟨b, 0, none⟩) := by simpa using h11
          have t28 : a.tmps[28]?.getD undef = .agg #[x', y', z'] := by simpa using h9
          obtain ⟨U', cu', D', cd', C', cc', up', dn', car', rfl, rfl, rfl, hv', ho'⟩ := ho9
          have ho9 : OwnCs W (w.heap.size + 1) n (.slice U' n cu') (.slice D' n cd') (.slice C' n cc') := ⟨U', cu', D', cd', C', cc', up', dn', car', rfl, rfl, rfl, hv', ho'⟩
          have c := hb.bx.cells
          have fz := hb.bx.free
          unfold Oper.wp
          simp [go_sem, Act.eval, t9, t28, c, fz]
          exact ⟨hG.stored hgl h7 hb hltb _ _ _, fun j v hne h => CallR.put hb _ _ _ j v hne h, .inr ⟨rfl, ⟨b, _, _, _, h11, hltb, hb.put _ _ _, ho9.stay (Stay.put hb _ _ _)⟩⟩⟩
        · obtain ⟨ok, h10⟩ := hd ⟨10, .data⟩ (by simp) rfl
          have t29 : a.tmps[29]?.getD undef = .bool ok := by simpa using h10
          unfold Oper.wp
          simp [go_sem, Act.eval, t29]
          exact ⟨hG.step, fun j v _ h => h, .inl ⟨rfl, _, rfl, ⟨ok, rfl⟩⟩⟩
    · obtain rfl : k = 0 := by omega
      go_wp2_with fail
      refine (HG.out.r.odd0 (by omega)).mono ?_
      rintro e w3 ⟨rfl, hr3, hg3⟩
      obtain ⟨U', cu', D', cd', C', cc', up', dn', car', rfl, rfl, rfl, hv', ho'⟩ := HG.out.own
      have HK3 := Lib.hid (ho'.kept hg3 (.inr (by intro b e; cases e; left; omega)))
      have HX6 := Lib.hid (HG.out.c6.kept hg3 (by omega))
      have HX7 := Lib.hid (HG.out.c7.kept hg3 (by omega))
      have HV := Lib.hid hv'
      have HR3 := Lib.hid hr3
      have HO3 := Lib.hid (HG.out.o.picked hg3 (Nat.le_of_lt HG.out.h))
      clear hv' ho' hr3 hg3 HG
      have c6 := HX6.out.bx.cells
      have f6 := HX6.out.bx.free
      have c7 := HX7.out.bx.cells
      go_wp2
      refine bodyPost_ret (v := .agg #[.slice U' n cu', .slice D' n cd', .slice C' n cc']) (by simp [results, Try.results75, go_sem, c6, c7]) rfl ⟨U', cu', D', cd', C', cc', up', dn', car', rfl, HV.out, ?_, ?_, ?_⟩
      · refine OwnC.mono (base := w.heap.size + 1) ?_ (by omega)
        repeat (refine own_set (by simp <;> omega) ?_)
        exact HK3.out
      · have hbl := (((Below.refl w.heap.size w3).setCell (p := ⟨w.heap.size, 0, none⟩) (by simp) (.slice U' n cu')).setCell (p := ⟨w.heap.size, 1, none⟩) (by simp) (.slice D' n cd')).setCell (p := ⟨w.heap.size, 2, none⟩) (by simp) (.slice C' n cc')
        exact (HR3.out.mono (by omega)).below hbl hgl
      · have hbl := (((Below.refl w.heap.size w3).setCell (p := ⟨w.heap.size, 0, none⟩) (by simp) (.slice U' n cu')).setCell (p := ⟨w.heap.size, 1, none⟩) (by simp) (.slice D' n cd')).setCell (p := ⟨w.heap.size, 2, none⟩) (by simp) (.slice C' n cc')
        exact (HO3.out.trans ⟨hbl.os, hbl.tape, hbl.output, hbl.size, fun k hk _ => hbl.block k hk⟩).grow
end Go.Proofs.Ytnbjibkbjdbadaa
