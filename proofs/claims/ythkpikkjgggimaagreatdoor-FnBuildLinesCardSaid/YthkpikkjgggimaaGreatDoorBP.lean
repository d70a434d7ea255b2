/-
  Texts DrawLs, LawLsM, LawLsR in one. No claim stands here.
-/
import Derived.Test.YthkpikkjgggimaaGreatDoorBN
import Derived.Test.YthkpikkjgggimaaGreatDoorTexts
import Derived.Test.YthkpikkjgggimaaGreatDoorLinesM
import Derived.Test.YthkpikkjgggimaaGreatDoorLB
import Derived.Test.YthkpikkjgggimaaGreatDoorLinesS
namespace Go.Proofs.YthkpikkjgggimaaGreatDoor
open Go.RowKit
set_option linter.unusedVariables false
set_option linter.unusedSimpArgs false

/-- What DrawBuildLines leaves. -/
def DrawnLs (w : World) (e : Ending) (w' : World) : Prop := ∃ v b a n c t, e = .returned (.tuple #[bval v b, .slice (some ⟨a, 0, none⟩) (n : Nat) c]) ∧ ReadB w' w'.heap.size v b ∧ b.Upto 9 ∧ n ≤ 41 ∧ RowT w' w.heap.size (some ⟨a, 0, none⟩) n c t ∧ (∀ i, i < n → (t i).size ≤ 30) ∧ Below w.heap.size w w'

/-- What holds in the loop. -/
structure JLs (w : World) (g B Q : Nat) (v : Bv) (b : Bld) (a n c : Nat) (t : Nat → ByteArray) (W : World) : Prop where
  o : Below w.heap.size w W
  x5 : Bx W B (bcells v b)
  x2 : Bx W w.heap.size (bcells Bv.none Bld.none)
  r : ReadB W B v b
  rd : Reads W g Q
  row : RowT W (B + 1) (some ⟨a, 0, none⟩) n c t
  sm : ∀ i, i < n → (t i).size ≤ 30
  sz : B + 1 ≤ W.heap.size
section
variable {w W W' : World} {g B Q Q' : Nat} {v : Bv} {b : Bld} {a n c : Nat} {t : Nat → ByteArray}
theorem JLs.picked (h : JLs w g B Q v b a n c t W) (hg : W.grownBy W' (some g)) (hr : Reads W' g Q') (hwg : w.heap.size < g) (hgB : g < B) (hoff : Off g v) : JLs w g B Q' v b a n c t W' :=
  ⟨h.o.grown hg h.o.size (by intro b e; cases e; omega), h.x5.kept hg (by omega), h.x2.kept hg (by omega), h.r.picked (by have := h.sz; omega) hg hoff, hr, h.row.kept hg (.inr (by intro k e; cases e; left; omega)), h.sm, Nat.le_trans h.sz hg.size⟩
theorem JLs.alloc (h : JLs w g B Q v b a n c t W) (hwB : w.heap.size < B) (o : Obj) : JLs w g B Q v b a n c t (W.alloc o) := by
  have hb := (Below.refl W.heap.size W).alloc (Nat.le_refl _) o
  exact ⟨h.o.alloc (by have := h.sz; omega) o, h.x5.below hb h.x5.lt, h.x2.below hb h.x2.lt, h.r.below (hb.mono (by have := h.sz; omega)), h.rd.alloc o, h.row.alloc o, h.sm, Nat.le_trans h.sz hb.size⟩
theorem JLs.snoc (h : JLs w g B Q v b a n c t W) (hwB : w.heap.size < B) (hgB : g < B) {X : ByteArray} (hX : X.size ≤ 30) {a' c' : Nat} (hr : RowT W' (B + 1) (some ⟨a', 0, none⟩) (n + 1) c' (snocT t n X)) (hg : W.grownBy W' (Value.slice (some ⟨a, 0, none⟩) n c).ownBlock) : JLs w g B Q v b a' (n + 1) c' (snocT t n X) W' := by
  have hb : Below (B + 1) W W' := (Below.refl (B + 1) W).grown hg h.sz (fun b e => h.row.own b e)
  refine ⟨h.o.trans (hb.mono (by omega)), h.x5.below hb (by omega), h.x2.below hb (by omega), h.r.below (hb.mono (by omega)), h.rd.below hb (by omega), hr, ?_, Nat.le_trans h.sz hb.size⟩
  intro i hi
  unfold snocT
  split
  · exact h.sm i (by assumption)
  · exact hX
end

set_option maxRecDepth 100000 in
set_option maxHeartbeats 6400000 in
theorem DrawBuildLines_any {w : World} {B : Nat} {A : Option Addr} {n c : Nat} {h : Nat → Int} (hB : B ≤ w.heap.size) (hc : n ≤ c) (hs : Bytes w B A n h) :
    Calls Tryz.prog 7 #[.slice A n c] w (DrawnLs w) := by
  obtain ⟨i0, hi, hz0, hz1, hz2⟩ := info_parts Tryz.infoTxt
  have HX0 := Lib.hid (Bx.new w (bcells Bv.none Bld.none) 36)
  have HB0 := Lib.hid ((Below.refl w.heap.size w).alloc (Nat.le_refl _) (.cells (bcells Bv.none Bld.none) 36))
  have HS := Lib.hid (hs.below (HB0.out.mono hB))
  clear hs
  unfold DrawnLs
  go_enter Tryz.func7, Tryz.ntmps7
  go_wp2_with fail
  refine (l20Open_any (Nat.le_trans hB (by simp)) hc HS.out).mono ?_
  rintro e w1 ⟨g, rfl, hgl, hr1, hb1⟩
  have hgl' : w.heap.size < g := by simp at hgl; omega
  have HX1 := Lib.hid (HX0.out.below hb1 HX0.out.lt)
  have HB1 := Lib.hid (HB0.out.trans (hb1.mono HB0.out.size))
  have HR1 := Lib.hid hr1
  have hs1 : w.heap.size + 1 ≤ w1.heap.size := by have := hb1.size; simpa using this
  clear hgl hb1 hr1 HX0 HB0 HS
  go_wp2_with fail
  refine (l20Building_any (by omega) (by omega) (by omega) HR1.out).mono ?_
  rintro e w2 ⟨v, b, rfl, hrb, hu, hr2, hg2, hoff⟩
  have hg1l := HR1.out.lt
  have hsz2 := hg2.size
  have HOg := Lib.hid (hoff g hg1l)
  have HOw := Lib.hid (hoff w.heap.size (by omega))
  have HU := Lib.hid hu
  have hgw2 : g < w2.heap.size := by omega
  have HG : Hid (JLs w g w2.heap.size 10000 v b (w2.heap.size + 1) 0 0 (fun _ => ByteArray.empty) ((w2.alloc (.cells (bcells v b) 36)).alloc (.cells #[] 9))) := by
    have hx2 := (HX1.out.kept hg2 (by omega)).alloc (.cells (bcells v b) 36)
    have hal := (Below.refl w2.heap.size w2).alloc (Nat.le_refl _) (.cells (bcells v b) 36)
    have hx5 := Bx.new w2 (bcells v b) 36
    refine Lib.hid ⟨((below_grown HB1.out hg2 (by omega)).alloc (by omega) _).alloc (by simp; omega) _, hx5.alloc _, hx2.alloc _, (hrb.below hal).alloc (by simp) _, ((hr2.alloc _).alloc _).mono (by omega), RowT.emptyAt _ (by simp) (by simp), by intro i hi; omega, by simp⟩
  clear hrb hu hr2 hg2 hoff HX1 HB1 HR1
  simp only [bval, bcells] at HG ⊢
  go_wp2_with fail
  refine (HG.out.rd.pick 14 (by omega) (by omega)).mono ?_
  rintro e w3 ⟨x1, rfl, hp1, hr1, hg1⟩
  obtain ⟨p1, p2⟩ := picked_lit0 hp1 (by omega)
  obtain ⟨k1, rfl⟩ := Int.eq_ofNat_of_zero_le p1
  have HG3 := Lib.hid (HG.out.picked hg1 hr1 hgl' hgw2 HOg.out)
  clear hp1 hr1 hg1 HG
  generalize w2.heap.size = B0 at *
  go_wp2
  go_loopw [6, 7] (fun s6 s7 wr => ∃ (k i a c : Nat) (t : Nat → ByteArray), s7 = .int .i64 k ∧ i + k ≤ 13 ∧ s6 = .slice (some ⟨a, 0, none⟩) i c ∧ Hid (JLs w g B0 (10001 + 100 * i) v b a i c t wr)) (fun _ s7 _ => (intOf s7).toNat)
  case atStart => exact ⟨k1, 0, _, _, _, rfl, by omega, rfl, HG3⟩
  case round =>
    obtain ⟨k, i, a, c, t, rfl, hik, rfl, HG⟩ := hrel
    clear HG3
    by_cases hk : 0 < k
    · have c0 := HG.out.x5.cells
      unfold bcells at c0
      go_wp2_with fail
      refine (l20Line_any (v := v) (b := b) (by omega) HU.out.1 HG.out.rd).mono ?_
      rintro e w4 ⟨s, rfl, hs30, hr4, hg4⟩
      have HG4 := Lib.hid ((HG.out.picked hg4 hr4 hgl' hgw2 HOg.out).alloc (by omega) (.cells #[.string s] 9))
      have hcell : (w4.alloc (.cells #[.string s] 9)).cell? ⟨w4.heap.size, 0, none⟩ = some (.string s) := by
        rw [cell_of_row _ w4.heap.size 0 #[.string s] 9 (0, 0) (by show (w4.heap.push _)[w4.heap.size]? = _; simp)]
        rfl
      have HCE := Lib.hid hcell
      clear hr4 hg4 HG c0 hcell
      go_wp2_with (at_builtin; refine append_text2 _ rfl _ _ rfl rfl HG4.out.row w4.heap.size s rfl HCE.out (by omega) HG4.out.sz ?_; intro A3 c3 w5 hr5 hg5)
      obtain ⟨a3, rfl, -, -⟩ := hr5.form (by omega)
      have HG5 := Lib.hid (HG4.out.snoc (by omega) hgw2 hs30 hr5 hg5)
      clear hr5 hg5 HG4 HCE
      go_wp2
      go_roundw
      case rel => exact ⟨k - 1, i + 1, a3, c3, _, by go_num, by omega, by go_num, HG5⟩
      case measure => simp [intOf]; omega
    · obtain rfl : k = 0 := by omega
      go_wp2_with fail
      refine (HG.out.rd.odd 30 (by omega) (by omega) (by omega)).mono ?_
      rintro e w4 ⟨bo, rfl, hr4, hg4⟩
      have HG4 := Lib.hid (HG.out.picked hg4 hr4 hgl' hgw2 HOg.out)
      clear hr4 hg4 HG
      have c5 := HG4.out.x5.cells
      have c2 := HG4.out.x2.cells
      have z2 := HG4.out.x2.free
      have hsz := HG4.out.sz
      unfold bcells at c5
      simp only [bcells, Bv.none, Bld.none] at c2
      cases bo
      · have F := drawn_last HG4.out.o (HG4.out.r.more (by omega)) HOw.out
        have HR := Lib.hid (((HG4.out.row.kept (sets_grown (w := w4) (g := w.heap.size) (putL w.heap.size v b) putL_block) (.inr (by intro k e; cases e; left; omega))).mono (base' := w.heap.size) (by omega)))
        have HSM := Lib.hid HG4.out.sm
        have F1 := Lib.hid F.1
        have F2 := Lib.hid F.2
        clear F HG4
        simp only [sets, putL, List.foldl_cons, List.foldl_nil] at F1 F2 HR
        go_wp2
        refine bodyPost_ret (v := .tuple #[bval v b, .slice (some ⟨a, 0, none⟩) i c]) (by simp [bval, bcells, results, Tryz.results7, go_sem, c5, c2]) rfl ⟨v, b, a, i, c, t, rfl, F1.out, HU.out, by omega, HR.out, HSM.out, F2.out⟩
      · clear c5 c2 z2
        go_wp2_with (
          at_make
          refine wpList_make_full _ rfl _ _ 37 rfl (B0 + 1) 9 i0 (.string ByteArray.empty) 1 Tryz.underlying37 hi hz0 hz1 _ _ _ _ 41 rfl rfl rfl rfl (by rw [hz2]; omega) (by unfold maxLen; omega) hsz ?_
          intro w5 hown hgrow
          have hrow0 : RowT w5 (B0 + 1) (some ⟨w4.heap.size, 0, none⟩) 41 41 (fun _ => ByteArray.empty) := by
            unfold RowT
            rw [← tvals_made]
            exact hown
          have hbl : Below w4.heap.size w4 w5 := (Below.refl w4.heap.size w4).grown hgrow (Nat.le_refl _) (by intro k hk; cases hk)
          have hx5 := HG4.out.x5.below hbl HG4.out.x5.lt
          have hx2 := HG4.out.x2.below hbl HG4.out.x2.lt
          have c5 := hx5.cells
          have c2 := hx2.cells
          have z2 := hx2.free
          unfold bcells at c5
          simp only [bcells, Bv.none, Bld.none] at c2
          have hsz5 := hbl.size
          have F := drawn_last (HG4.out.o.trans (hbl.mono (by omega))) ((HG4.out.r.below (hbl.mono (by omega))).more (by omega)) HOw.out
          have HR := Lib.hid (((hrow0.kept (sets_grown (w := w5) (g := w.heap.size) (putL w.heap.size v b) putL_block) (.inr (by intro k e; cases e; left; omega))).mono (base' := w.heap.size) (by omega)))
          have F1 := Lib.hid F.1
          have F2 := Lib.hid F.2
          generalize w4.heap.size = g4 at *
          clear F HG4 hown hgrow hi hz0 hz1 hz2 hrow0 hbl hx5 hx2
          simp only [sets, putL, List.foldl_cons, List.foldl_nil] at F1 F2 HR)
        refine bodyPost_ret (v := .tuple #[bval v b, .slice (some ⟨g4, 0, none⟩) 41 41]) (by simp [bval, bcells, results, Tryz.results7, go_sem, c5, c2]) rfl ⟨v, b, g4, 41, 41, _, rfl, F1.out, HU.out, by omega, HR.out, by intro i hi; decide, F2.out⟩
end Go.Proofs.YthkpikkjgggimaaGreatDoor

namespace Go.Proofs.YthkpikkjgggimaaGreatDoor
open Go.RowKit
set_option linter.unusedVariables false
set_option linter.unusedSimpArgs false

theorem runL_part (b : Bld) (t : Nat → ByteArray) (h : Nat) : ∀ k, (b.runL t h).runL (fun i => t (h + i)) k = b.runL t (h + k)
  | 0 => rfl
  | k + 1 => by
    show ((b.runL t h).runL (fun i => t (h + i)) k).line (t (h + k)) = (b.runL t (h + k)).line (t (h + k))
    rw [runL_part b t h k]
theorem ansL_part (b : Bld) (t : Nat → ByteArray) (h k : Nat) : (b.runL t h).ansL (fun i => t (h + i)) k = b.ansL t (h + k) := by
  unfold Bld.ansL
  rw [runL_part b t h k]
/-- The two parts' answers, one behind the other. -/
theorem ansL_cat (b : Bld) (t : Nat → ByteArray) (h n : Nat) (hh : h ≤ n) (m : Nat) (f : Nat → ByteArray) (hf : ∀ i, i < m → f i = b.ansL t (h + i)) (hm : h + m = n) : ∀ i, i < n → catT (b.ansL t) h f i = b.ansL t i := by
  intro i hi
  unfold catT
  split
  · rfl
  · rw [hf _ (by omega)]
    rw [show h + (i - h) = i by omega]

theorem decDigits_ne (i : Nat) : Lib.decDigits i ≠ [] := by
  by_cases h : i < 10
  · rw [Lib.decDigits_one h]; simp
  · rw [decDigits_more h]; simp
theorem itoa_ne (i : Int) : Lib.itoa i ≠ [] := by
  rcases Int.lt_or_le i 0 with h | h
  · obtain ⟨k, hk⟩ : ∃ k : Nat, i = -(k : Int) := ⟨i.natAbs, by omega⟩
    subst hk
    rw [itoa_neg (by omega)]; simp
  · obtain ⟨k, rfl⟩ := Int.eq_ofNat_of_zero_le h
    rw [itoa_nat]; exact decDigits_ne k
theorem ite_ne {p : Prop} [Decidable p] {a b : List UInt8} (ha : a ≠ []) (hb : b ≠ []) : (if p then a else b) ≠ [] := by
  split
  · exact ha
  · exact hb
theorem reply_ne {b : Bld} (h : b.Ok) (s : ByteArray) : b.reply s ≠ [] := by
  have hz := h.sizes
  unfold Bld.reply toldL
  have hc : callsT b.nu b.nd b.nc b.up b.dn b.car ≠ [] := by
    rw [callsT_yes h.calls]; simp [callsL]
  have ht : textOf b.f b.n ≠ [] := by
    rw [textOf_yes h.floors]
    obtain ⟨k, hk⟩ : ∃ k, b.n = k + 1 := ⟨b.n - 1, by omega⟩
    rw [hk]
    simp [hTo, decDigits_ne]
  repeat (first | (refine ite_ne (by decide) ?_) | (refine ite_ne (itoa_ne _) ?_) | (refine ite_ne (ite_ne (by decide) (by decide)) ?_) | (refine ite_ne hc ?_) | (refine ite_ne ht ?_) | (refine ite_ne (ite_ne (by decide) (itoa_ne _)) ?_))
  decide
theorem ansL_ne {b : Bld} (h : b.Ok) (t : Nat → ByteArray) (k : Nat) : ((b.ansL t k).toList == []) = false := by
  rw [beq_eq_false_iff_ne, ByteArray.toList_eq]
  show ((b.runL t k).reply (t k)).toArray.toList ≠ []
  simpa using reply_ne (runL_ok h t k) (t k)

def sRest : ByteArray := ⟨#[114, 101, 115, 116]⟩
def sQuiet : ByteArray := ⟨#[113, 117, 105, 101, 116]⟩
theorem line_rest (b : Bld) : b.line sRest = b.after b.rest := by
  have k1 : isT sRest wTick = false := by rw [← Bool.not_eq_true, isT_iff]; decide
  have k2 : isT sRest wBlock = false := by rw [← Bool.not_eq_true, isT_iff]; decide
  have k3 : isT sRest wRest = true := isT_iff.2 rfl
  simp [Bld.line, k1, k2, k3]
theorem callLine_quiet : callLine sQuiet = false := by
  have h : cutOk sQuiet = false := isT_cut (l := wQuiet) (isT_iff.2 rfl) (by decide)
  simp [callLine, h]
theorem says_quiet {b : Bld} (h : b.quiet = true) : b.reply sQuiet = rYes := by
  have kq : isT sQuiet wQuiet = true := isT_iff.2 rfl
  have key : ∀ l, l ≠ wQuiet → isT sQuiet l = false := by
    intro l hl
    rw [← Bool.not_eq_true, isT_iff]
    intro e
    apply hl
    have := congrArg (fun x : ByteArray => x.data.toList) e
    simpa [sQuiet, wQuiet] using this.symm
  simp [Bld.reply, key wTick (by decide), key wBlock (by decide), key wRest (by decide), callLine_quiet, toldL, key wWhere (by decide), key wAt (by decide), key wSpeed (by decide), key wDoor (by decide), key wCalls (by decide), key wFloors (by decide), kq, h]
/-- After a rest a building is quiet, and says so. -/
theorem rest_quiet {b : Bld} (h : b.Ok) : (b.lined sRest) = b.line sRest ∧ (b.line sRest).Ok ∧ ByteArray.mk ((b.line sRest).says sQuiet).toArray = ⟨#[121, 101, 115]⟩ := by
  have h1 := line_ok h sRest
  refine ⟨(lined_yes (valid_iff.2 h)).1, h1, ?_⟩
  rw [(lined_yes (valid_iff.2 h1)).2, says_quiet (by rw [line_rest]; exact (rest_spec h).2.1)]
  rfl
end Go.Proofs.YthkpikkjgggimaaGreatDoor

namespace Go.Proofs.YthkpikkjgggimaaGreatDoor
open Go.RowKit
set_option linter.unusedVariables false
set_option linter.unusedSimpArgs false

/-- append of a slice of texts, in a region with guards. -/
theorem want_append_texts (W : World) {ops : Array Oper} {rest : List Oper} {o : Oper} {a : Act} {Q : Exit → Act → World → Prop} (hw : Region.wanted o (yielded ops a.tmps) = true) (s x : Operand)
    (hop : o.op = Op.call { callee := Callee.builtin Builtin.append, args := #[s, x], argTypes := #[37, 37] }) {base B : Nat} {A A2 : Option Addr} {n c m c2 : Nat} {f f2 : Nat → ByteArray}
    (hs : a.eval s = .slice A n c) (hr : RowT W base A n c f) (hx : a.eval x = .slice A2 m c2) (hr2 : Texts W B A2 m f2) (hc2 : A2 = none → c2 = 0)
    (hn : n + m ≤ 1000000000) (hb : base ≤ W.heap.size)
    (hK : ∀ A' c' w', RowT w' base A' (n + m) c' (catT f n f2) → W.grownBy w' (Value.slice A n c).ownBlock → wpList Tryz.prog ops Q rest (a.put o.dst (.slice A' (n + m : Nat) c')) w') : wpList Tryz.prog ops Q (o :: rest) a W := by
  refine wpList_step fun K hK' => ?_
  rw [if_pos hw]
  obtain ⟨i0, hi, hz0, hz1, hz2⟩ := info_parts Tryz.infoTxt
  cases A2 with
  | none =>
    have hm : m = 0 := by
      rcases Nat.eq_zero_or_pos m with h0 | h0
      · exact h0
      · obtain ⟨b, off, h, _⟩ := hr2 h0
        cases h
    subst hm
    rw [hc2 rfl] at hx
    have hrun := run_append_owned_none (P := Tryz.prog) W base 37 o.type 9 i0 1 Tryz.underlying37 hi _ _ _ hr
    unfold Oper.wp
    simp [execOp, hop, resolve, invoke, builtin, hs, hx, hrun, Result.andThen]
    exact hK' _ _ (hK A c W (hr.congr fun i hi => (catT_lo hi).symm) (World.grownBy.refl _ _))
  | some ad =>
    refine wp_append_own W s x 37 hop base 9 i0 (.string ByteArray.empty) 1 16 Tryz.underlying37 hi hz0 hz1 hz2 rfl (by decide) _ _ _ hs hr ad m c2 (tvals f2 m) hx (by rw [tvals_length, Nat.mul_one]) ?_ tvals_one (by unfold maxLen; omega) (by omega) hb ?_
    · intro j u hj
      have hjm : j < m := by
        rcases Nat.lt_or_ge j m with h | h
        · exact h
        · rw [List.getElem?_eq_none (by rw [tvals_length]; omega)] at hj; cases hj
      obtain ⟨b, off, h, _, hc⟩ := hr2 (by omega)
      rw [tvals_get hjm] at hj
      cases h
      rw [← hj, Addr.add_lit]
      exact hc j hjm
    · intro v' w' hown hgrow _
      obtain ⟨A', c', rfl⟩ := row_shapeT hown
      exact hK' _ _ (hK A' c' w' (by unfold RowT; rw [tvals_cat]; exact hown) hgrow)
theorem rowT_none {w : World} {base n c : Nat} {A : Option Addr} {f : Nat → ByteArray} (h : RowT w base A n c f) : A = none → c = 0 := by
  intro e
  rcases h.2 with ⟨hv, _⟩ | ⟨b, cap, cur, hv, _⟩
  · simp only [Value.slice.injEq] at hv
    omega
  · simp only [Value.slice.injEq] at hv
    rw [e] at hv
    cases hv.1

theorem Texts.less {w : World} {B n m : Nat} {A : Option Addr} {f : Nat → ByteArray} (h : Texts w B A n f) (hm : m ≤ n) : Texts w B A m f := by
  intro h0
  obtain ⟨b, off, e, hb, hc⟩ := h (by omega)
  exact ⟨b, off, e, hb, fun i hi => hc i (by omega)⟩
theorem Texts.tail {w : World} {B n k m a : Nat} {f : Nat → ByteArray} (h : Texts w B (some ⟨a, 0, none⟩) n f) (hm : k + m = n) : Texts w B (some ⟨a, k, none⟩) m (fun i => f (k + i)) := by
  intro h0
  obtain ⟨b, off, e, hb, hc⟩ := h (by omega)
  cases e
  exact ⟨a, k, rfl, hb, fun i hi => by have := hc (k + i) (by omega); simpa using this⟩

/-- What the operations of a part's region leave. -/
def PaR (m0 m : Nat) (vb sv hv pv : Value) (b' : Bld) (f : Nat → ByteArray) : Nat → Value → World → Prop
  | 0, v, _ => v = vb
  | 1, v, _ => v = sv
  | 2, v, _ => v = hv
  | 3, v, _ => v = pv
  | 4, v, W => ∃ v' A c, v = .tuple #[bval v' b', .slice A (m : Nat) c] ∧ OwnB W m0 v' b' ∧ RowT W m0 A m c f
  | 5, v, W => ∃ v' A c, v = .tuple #[bval v' b', .slice A (m : Nat) c] ∧ OwnB W m0 v' b' ∧ RowT W m0 A m c f
  | 6, v, W => ∃ v', v = bval v' b' ∧ OwnB W m0 v' b'
  | 7, v, W => ∃ A c, v = .slice A (m : Nat) c ∧ RowT W m0 A m c f
  | 8, v, W => ∃ g, v = .pointer (some ⟨g, 0, none⟩) ∧ m0 ≤ g ∧ ∃ a0 a1 a2 a3 a4 a5 a6 a7 a8 a9 a10 : Value, KBx W g #[a0, a1, a2, a3, a4, a5, a6, a7, a8, a9, a10]
  | 9, v, W => ∃ g v', v = .pointer (some ⟨g, 0, none⟩) ∧ m0 ≤ g ∧ KBx W g (bcells v' b') ∧ OwnB W m0 v' b'
  | 10, v, W => ∃ A c, v = .slice A (m : Nat) c ∧ RowT W m0 A m c f
  | _, _, _ => True
theorem PaR.below {m0 m : Nat} {vb sv hv pv : Value} {b' : Bld} {f : Nat → ByteArray} {W W' : World} (hb : Below W.heap.size W W') : ∀ j v, PaR m0 m vb sv hv pv b' f j v W → PaR m0 m vb sv hv pv b' f j v W' := by
  intro j v h
  unfold PaR at h ⊢
  split at h
  all_goals first
    | with_reducible exact h
    | (obtain ⟨v', A, c, h1, h2, h3⟩ := h; with_reducible exact ⟨v', A, c, h1, ownB_below h2 hb, h3.below hb (Nat.le_refl _)⟩)
    | (obtain ⟨v', h1, h2⟩ := h; with_reducible exact ⟨v', h1, ownB_below h2 hb⟩)
    | (obtain ⟨A, c, h1, h2⟩ := h; with_reducible exact ⟨A, c, h1, h2.below hb (Nat.le_refl _)⟩)
    | (obtain ⟨g, h1, h2, a0, a1, a2, a3, a4, a5, a6, a7, a8, a9, a10, h3⟩ := h; with_reducible exact ⟨g, h1, h2, _, _, _, _, _, _, _, _, _, _, _, h3.below hb⟩)
    | (obtain ⟨g, v', h1, h2, h3, h4⟩ := h; with_reducible exact ⟨g, v', h1, h2, h3.below hb, ownB_below h4 hb⟩)
theorem PaR.stored {m0 m : Nat} {vb sv hv pv : Value} {b' : Bld} {f : Nat → ByteArray} {W : World} {g8 : Nat} {a0 a1 a2 a3 a4 a5 a6 a7 a8 a9 a10 : Value} (hk : KBx W g8 #[a0, a1, a2, a3, a4, a5, a6, a7, a8, a9, a10]) (v0 : Bv) (b0 : Bld) :
    ∀ j v, j ≠ 9 → PaR m0 m vb sv hv pv b' f j v W → PaR m0 m vb sv hv pv b' f j v (sets W (putL g8 v0 b0)) := by
  intro j v hj h
  unfold PaR at h ⊢
  split at h
  all_goals first
    | with_reducible exact h
    | (obtain ⟨v', A, c, h1, h2, h3⟩ := h; with_reducible exact ⟨v', A, c, h1, own_offs (putL g8 v0 b0) h2 (koff hk h2) (fun q hq => putL_block q hq), rowT_sets (putL g8 v0 b0) h3 (koffT hk h3) (fun q hq => putL_block q hq)⟩)
    | (obtain ⟨v', h1, h2⟩ := h; with_reducible exact ⟨v', h1, own_offs (putL g8 v0 b0) h2 (koff hk h2) (fun q hq => putL_block q hq)⟩)
    | (obtain ⟨A, c, h1, h2⟩ := h; with_reducible exact ⟨A, c, h1, rowT_sets (putL g8 v0 b0) h2 (koffT hk h2) (fun q hq => putL_block q hq)⟩)
    | (obtain ⟨g, h1, h2, a0, a1, a2, a3, a4, a5, a6, a7, a8, a9, a10, h3⟩ := h
       by_cases e : g = g8
       · subst e; exact ⟨g, h1, h2, _, _, _, _, _, _, _, _, _, _, _, h3.put v0 b0⟩
       · exact ⟨g, h1, h2, _, _, _, _, _, _, _, _, _, _, _, h3.setsFar _ (fun q hq => by rw [putL_block q hq]; exact fun e' => e e'.symm)⟩)
    | exact absurd rfl hj
/-- A box in a law whose building lies somewhere below. -/
structure LP (w W : World) (g : Nat) (v : Bv) (b : Bld) : Prop where
  x : Bx W g (bcells v b)
  r : ReadB W W.heap.size v b
  o : Below w.heap.size w W
section
variable {w W W' : World} {g : Nat} {v : Bv} {b : Bld}
theorem LP.call (L : LP w W g v b) (hb : Below W.heap.size W W') : LP w W' g v b := ⟨L.x.below hb L.x.lt, (L.r.below hb).more hb.size, L.o.trans (hb.mono L.o.size)⟩
theorem LP.drewed (L : LP w W g v b) (hd : Drew W W') : LP w W' g v b := L.call hd.below
theorem LP.read (L : LP w W g v b) : ReadB W W.heap.size v b := L.r
theorem LP.cells (L : LP w W g v b) : ∀ o, W.cell? ⟨g, o, none⟩ = (#[.slice v.A b.n v.c, .int .i64 b.pos, .int .i64 b.sp, .int .i64 b.gap, .int .i64 b.hold, .slice v.U b.nu v.cu, .slice v.D b.nd v.cd, .slice v.C b.nc v.cc, .int .i64 b.fl, .int .i64 b.dir, .bool b.op] : Array Value)[o]? := L.x.cells
end
end Go.Proofs.YthkpikkjgggimaaGreatDoor
