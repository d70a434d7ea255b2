/-
  Texts cut at spaces, and rows of texts; the contract of l1Cut at a space. No claim stands here.
-/
import Derived.Test.YthkpikkjgggimaaGreatDoorWord
import Derived.Test.YthkpikkjgggimaaGreatDoorBB
import Derived.Lib.CutLaws
import Derived.Lib.IndexLaws
import Derived.Lib.IndexBytes
namespace Go.Proofs.YthkpikkjgggimaaGreatDoor
open Go.RowKit
set_option linter.unusedVariables false
set_option linter.unusedSimpArgs false

/-- A text cut at its spaces. -/
def cutL : List UInt8 → List (List UInt8)
  | [] => [[]]
  | b :: l => if b = 32 then [] :: cutL l else match cutL l with | [] => [[b]] | x :: r => (b :: x) :: r
theorem cutL_none : ∀ l : List UInt8, (∀ b ∈ l, b ≠ 32) → cutL l = [l]
  | [], _ => rfl
  | b :: l, h => by
    rw [cutL, if_neg (h b (by simp)), cutL_none l fun c hc => h c (by simp [hc])]
theorem cutL_at : ∀ (p r : List UInt8), (∀ b ∈ p, b ≠ 32) → cutL (p ++ 32 :: r) = p :: cutL r
  | [], r, _ => by rw [List.nil_append, cutL, if_pos rfl]
  | b :: p, r, h => by
    rw [List.cons_append, cutL, if_neg (h b (by simp)), cutL_at p r fun c hc => h c (by simp [hc])]
theorem cutL_ne (l : List UInt8) : cutL l ≠ [] := by
  cases l with
  | nil => simp [cutL]
  | cons b l =>
    rw [cutL]
    split
    · simp
    · split <;> simp
/-- The words of a text. -/
def wordsB (s : ByteArray) : List ByteArray := (cutL s.data.toList).map fun x => ⟨x.toArray⟩
def wordAt (s : ByteArray) (i : Nat) : ByteArray := (wordsB s).getD i ByteArray.empty
def readN (s : ByteArray) : Nat := (wordsB s).length
theorem wordsB_cut (s : ByteArray) : (wordsB s).map (·.data.toList) = cutL s.data.toList := by
  rw [wordsB, List.map_map]
  conv => rhs; rw [← List.map_id (cutL s.data.toList)]
  exact List.map_congr_left fun x _ => by simp
theorem ba_ext {a b : ByteArray} (h : a.data.toList = b.data.toList) : a = b := by
  cases a; cases b
  simp only [ByteArray.mk.injEq]
  exact Array.toList_inj.1 h
theorem wordsB_of {s : ByteArray} {l : List ByteArray} (h : l.map (·.data.toList) = cutL s.data.toList) : l = wordsB s := by
  rw [← wordsB_cut] at h
  have : ∀ (a b : List ByteArray), a.map (·.data.toList) = b.map (·.data.toList) → a = b := by
    intro a
    induction a with
    | nil => intro b hb; cases b with | nil => rfl | cons => cases hb
    | cons x a ih => intro b hb; cases b with | nil => cases hb | cons y b => simp only [List.map_cons, List.cons.injEq] at hb; rw [ba_ext hb.1, ih b hb.2]
  exact this _ _ h

theorem byteAt_list (s : ByteArray) (k : Nat) (h : k < s.size) : s.data.toList[k]? = some (UInt8.ofNat (byteAt s k)) := by
  have h' : k < s.data.size := h
  have e : s[k] = s.data[k] := rfl
  rw [Array.getElem?_toList, Array.getElem?_eq_getElem h', ← byteAt_of h, e]
  simp
theorem Tryz.infoStr : (Tryz.prog.info? 9).map (fun i => (i.zero, i.size, i.bytes)) = some (some (.string ByteArray.empty), 1, 16) := by kernel_rfl
def svals (l : List ByteArray) : List Value := l.map Value.string
theorem svals_one {l : List ByteArray} : ∀ u ∈ svals l, u.oneCell' = true := by
  intro u hu
  obtain ⟨_, _, rfl⟩ := List.mem_map.1 hu
  rfl
/-- The slice v is a row of the call's own: it holds the texts l, in a block from base on. -/
def SRow (w : World) (base : Nat) (v : Value) (l : List ByteArray) : Prop := w.ownsRow base 9 1 v l.length (svals l)
/-- A slice of texts reads as l, and lies below block B. -/
def Strs (w : World) (B : Nat) (A : Option Addr) (l : List ByteArray) : Prop :=
  0 < l.length → ∃ b, A = some ⟨b, 0, none⟩ ∧ b < B ∧ ∀ i, i < l.length → w.cell? ⟨b, 0 + i, none⟩ = some (.string (l.getD i ByteArray.empty))
theorem svals_get {l : List ByteArray} {i : Nat} (h : i < l.length) : (svals l)[i]? = some (.string (l.getD i ByteArray.empty)) := by
  simp [svals, h]
theorem Strs.keep {w w' : World} {B : Nat} {A : Option Addr} {l : List ByteArray} (h : Strs w B A l) (hk : ∀ p : Addr, p.block < B → w'.cell? p = w.cell? p) : Strs w' B A l := by
  intro hn
  obtain ⟨b, hA, hb, hc⟩ := h hn
  exact ⟨b, hA, hb, fun i hi => (hk _ hb).trans (hc i hi)⟩
theorem Strs.below {w w' : World} {B : Nat} {A : Option Addr} {l : List ByteArray} (h : Strs w B A l) (hb : Below B w w') : Strs w' B A l := h.keep fun _ hp => hb.cell hp
section
variable {w w' : World} {base : Nat} {A : Option Addr} {n c : Nat} {l : List ByteArray} {v : Value}
theorem SRow.shape (h : SRow w base v l) : ∃ A c, v = .slice A l.length c := by
  rcases h.2 with ⟨rfl, h0⟩ | ⟨b, cap, cur, rfl, _⟩
  · exact ⟨none, 0, by rw [h0]⟩
  · exact ⟨_, _, rfl⟩
theorem SRow.strs (h : SRow w base (.slice A n c) l) : Strs w w.heap.size A l := by
  intro hn
  obtain ⟨b, cap, hv, _, hlt⟩ := World.ownsRow.form h hn
  obtain ⟨rfl, -, rfl⟩ : A = some ⟨b, 0, none⟩ ∧ n = l.length ∧ c = cap := by simpa using hv
  refine ⟨b, rfl, hlt, fun i hi => ?_⟩
  obtain rfl : n = l.length := by have := hv; simp at this; exact this
  rw [Nat.zero_add, World.ownsRow.cellAt h i (by omega), svals_get hi]
theorem SRow.kept {row : Option Nat} (h : SRow w base v l) (hg : w.grownBy w' row) (hne : row = none ∨ ∀ b, row = some b → b < base ∨ w.heap.size ≤ b) : SRow w' base v l := by
  refine World.ownsRow.kept h hg ?_
  cases hb : v.ownBlock with
  | none => exact .inl rfl
  | some b =>
    right
    have := World.ownsRow.lt h b hb
    rcases hne with rfl | hne
    · simp
    · intro e
      have := hne b e.symm
      omega
theorem SRow.below {B : Nat} (h : SRow w base v l) (hb : Below B w w') (hB : w.heap.size ≤ B) : SRow w' base v l :=
  h.kept (row := none) ⟨hb.os, hb.tape, hb.output, hb.size, fun k hk _ => hb.block k (by omega)⟩ (.inl rfl)
theorem SRow.drewN (h : SRow w base v l) (k : Nat) : SRow (w.drewN k) base v l := h
theorem SRow.drew (h : SRow w base v l) : SRow w.drew base v l := h
theorem SRow.alloc (h : SRow w base v l) (o : Obj) : SRow (w.alloc o) base v l := h.kept (World.grownBy_alloc w o none) (.inl rfl)
theorem SRow.own (h : SRow w base v l) : ∀ b, v.ownBlock = some b → base ≤ b := fun b hb => (World.ownsRow.lt h b hb).1
end
theorem SRow.empty {w : World} {base : Nat} (hb : base ≤ w.heap.size) : SRow (w.alloc (.cells #[] 9)) base (.slice (some ⟨w.heap.size, 0, none⟩) 0 0) [] := by
  have h := World.ownsRow_lit (e := 9) (size := 1) (base := base) w #[] 0 hb (Nat.zero_le _) (by simp)
  simpa [SRow, svals] using h

theorem srow_shape {w : World} {base : Nat} {v : Value} {n : Nat} {xs : List Value} (h : w.ownsRow base 9 1 v n xs) : ∃ A c, v = .slice A n c := by
  rcases h.2 with ⟨rfl, rfl⟩ | ⟨b, cap, cur, rfl, _⟩
  · exact ⟨_, _, rfl⟩
  · exact ⟨_, _, rfl⟩
/-- append of one text onto a row of the call's own. -/
theorem append_str (W : World) {ops : Array Oper} {rest : List Oper} {o : Oper} {a : Act} {Q : Exit → Act → World → Prop} (hg : o.guard = none) (s x : Operand)
    (hop : o.op = Op.call { callee := Callee.builtin Builtin.append, args := #[s, x], argTypes := #[37, 37] }) {base : Nat} {A : Option Addr} {n c : Nat} {l : List ByteArray}
    (hs : a.eval s = .slice A n c) (hr : SRow W base (.slice A n c) l) (g : Nat) (X : ByteArray) (hx : a.eval x = .slice (some ⟨g, 0, none⟩) 1 1) (hcell : W.cell? ⟨g, 0, none⟩ = some (.string X))
    (hn : l.length ≤ 1000000000) (hb : base ≤ W.heap.size)
    (hK : ∀ A' c' w', SRow w' base (.slice A' (l.length + 1) c') (l ++ [X]) → W.grownBy w' (Value.slice A n c).ownBlock → wpList Tryz.prog ops Q rest (a.put o.dst (.slice A' (l.length + 1 : Nat) c')) w') : wpList Tryz.prog ops Q (o :: rest) a W := by
  obtain ⟨i0, hi, hz0, hz1, hz2⟩ := info_parts Tryz.infoStr
  refine wpList_append_own W hg s x 37 hop base 9 i0 (.string ByteArray.empty) 1 16 Tryz.underlying37 hi hz0 hz1 hz2 rfl (by decide) _ _ _ hs hr ⟨g, 0, none⟩ 1 1 [.string X] hx rfl ?_ ?_ (by unfold maxLen; omega) (by omega) hb ?_
  · intro j u hj
    match j, hj with
    | 0, hj => simp at hj; subst hj; simpa [Addr.add] using hcell
  · intro u hu; simp at hu; subst hu; rfl
  · intro v' w' hown hgrow _
    obtain ⟨A', c', rfl⟩ := srow_shape hown
    refine hK A' c' w' ?_ hgrow
    unfold SRow
    rw [List.length_append, svals, List.map_append]
    exact hown

/-- No space at the places from a to b. -/
def NoC (s : ByteArray) (a b : Nat) : Prop := ∀ i, a ≤ i → i < b → byteAt s i ≠ 32
theorem piece_list (s : ByteArray) (a b : Nat) : (s.extract a b).data.toList = (s.data.toList.drop a).take (b - a) := by
  obtain ⟨⟨l⟩⟩ := s
  have := ByteArray.extract_mk l a b
  simp only at this ⊢
  rw [this]
theorem piece_noC {s : ByteArray} {a b : Nat} (hb : b ≤ s.size) (h : NoC s a b) : ∀ x ∈ (s.extract a b).data.toList, x ≠ 32 := by
  intro x hx e
  subst e
  rw [piece_list] at hx
  obtain ⟨i, hi, he⟩ := List.getElem_of_mem hx
  rw [List.length_take, List.length_drop] at hi
  rw [List.getElem_take, List.getElem_drop] at he
  have h1 : a + i < s.size := by omega
  have h2 := byteAt_list s (a + i) h1
  rw [List.getElem?_eq_getElem (by simpa using h1), he] at h2
  have h3 := h (a + i) (by omega) (by omega)
  have h4 := byteAt_lt s (a + i)
  have h5 : (32 : UInt8) = UInt8.ofNat (byteAt s (a + i)) := by simpa using h2
  have h6 := congrArg UInt8.toNat h5
  rw [UInt8.toNat_ofNat'] at h6
  simp at h6
  omega
theorem cut_step {s : ByteArray} {l : List ByteArray} {a k : Nat} (ha : a ≤ k) (hk : k < s.size) (hb : byteAt s k = 32) (hn : NoC s a k) (h : l.map (·.data.toList) ++ cutL (s.data.toList.drop a) = cutL s.data.toList) :
    (l ++ [s.extract a k]).map (·.data.toList) ++ cutL (s.data.toList.drop (k + 1)) = cutL s.data.toList := by
  have hl : s.data.toList.length = s.size := by simp
  have e : s.data.toList.drop a = (s.extract a k).data.toList ++ 32 :: s.data.toList.drop (k + 1) := by
    rw [piece_list]
    have h1 := byteAt_list s k hk
    rw [hb] at h1
    have h2 : s.data.toList.drop k = 32 :: s.data.toList.drop (k + 1) := by
      rw [List.drop_eq_getElem_cons (by omega)]
      have := (List.getElem?_eq_some_iff.1 h1).2
      rw [this]
      rfl
    rw [← h2]
    conv => lhs; rw [← List.take_append_drop (k - a) (s.data.toList.drop a), List.drop_drop, show a + (k - a) = k by omega]
  rw [e, cutL_at _ _ (piece_noC (by omega) hn)] at h
  rw [List.map_append, List.map_singleton, List.append_assoc]
  exact h
theorem cut_end {s : ByteArray} {l : List ByteArray} {a : Nat} (hn : NoC s a s.size) (h : l.map (·.data.toList) ++ cutL (s.data.toList.drop a) = cutL s.data.toList) :
    l ++ [s.extract a s.size] = wordsB s := by
  apply wordsB_of
  have hp := piece_noC (Nat.le_refl _) hn
  have e : (s.extract a s.size).data.toList = s.data.toList.drop a := by
    rw [piece_list]
    exact List.take_of_length_le (by rw [List.length_drop]; show s.data.toList.length - a ≤ s.data.size - a; simp)
  rw [e] at hp
  rw [cutL_none _ hp] at h
  rw [List.map_append, List.map_singleton, e]
  exact h

set_option maxRecDepth 100000 in
set_option maxHeartbeats 1600000 in
theorem l1Cut_any (s : ByteArray) (hs : s.size ≤ 1048577) (w : World) :
    Calls Tryz.prog 54 #[.string s, .int .u8 32] w fun e w' => ∃ A c, e = .returned (.slice A (readN s) c) ∧ SRow w' w.heap.size (.slice A (readN s) c) (wordsB s) ∧ Below w.heap.size w w' := by
  have HR0 := Lib.hid (SRow.empty (w := w) (Nat.le_refl _))
  have HB0 := Lib.hid ((Below.refl w.heap.size w).alloc (Nat.le_refl _) (.cells #[] 9))
  go_enter Tryz.func54, Tryz.ntmps54
  go_wp2
  go_loopw [5, 6, 7] (fun s5 s6 s7 wr => ∃ (l : List ByteArray) (A : Option Addr) (c fr k : Nat), fr ≤ k ∧ k ≤ s.size ∧ l.length ≤ k ∧ s5 = .slice A l.length c ∧ s6 = .int .i64 fr ∧ s7 = .int .i64 k ∧ Hid (NoC s fr k) ∧ Hid (l.map (·.data.toList) ++ cutL (s.data.toList.drop fr) = cutL s.data.toList) ∧ Hid (SRow wr w.heap.size (.slice A l.length c) l) ∧ Hid (Below w.heap.size w wr)) (fun _ _ s7 _ => s.size - (intOf s7).toNat)
  case atStart => exact ⟨[], _, _, 0, 0, Nat.le_refl _, Nat.zero_le _, Nat.le_refl _, rfl, rfl, rfl, fun i h1 h2 => absurd h2 (by omega), by simp [Hid], HR0, HB0⟩
  case round =>
    obtain ⟨l, A, c, fr, k, hfr, hk, hln, rfl, rfl, rfl, HNC, HC, HR, HB⟩ := hrel
    have hwz := HB.out.size
    by_cases hlt : k < s.size
    · have hb := byteAt_of hlt
      by_cases hc : byteAt s k = 32
      · have HC2 := Lib.hid (cut_step hfr hlt hc HNC.out HC.out)
        have hx : ((s[k].toNat : Int) == 32) = true := by simp; omega
        clear hb
        go_wp2_with (at_builtin; refine append_str _ rfl _ _ rfl rfl (HR.out.alloc _) wr.heap.size (s.extract fr k) rfl (by simp) (by omega) (by simp; omega) ?_; intro A3 c3 w3 hr3 hg3; have HR3 := Lib.hid hr3; have HG3 := Lib.hid hg3; clear hr3 hg3)
        have hb3 : Below w.heap.size w w3 := (HB.out.alloc hwz _).grown HG3.out (by simp; omega) HR.out.own
        refine ⟨⟨l ++ [s.extract fr k], A3, c3, k + 1, k + 1, Nat.le_refl _, by omega, by simp; omega, by rw [List.length_append]; rfl, by go_num, by go_num, fun i h1 h2 => absurd h1 (by omega), HC2, ?_, hb3⟩, by simp [intOf]; omega⟩
        show SRow _ _ _ _
        rw [List.length_append]
        exact HR3.out
      · have hx : ((s[k].toNat : Int) == 32) = false := by simp; omega
        have HN2 : Hid (NoC s fr (k + 1)) := fun i h1 h2 => by
          by_cases e : i = k
          · subst e; exact hc
          · exact HNC.out i h1 (by omega)
        clear hb
        go_wp2
        go_roundw
        case rel => exact ⟨l, A, c, fr, k + 1, by omega, by omega, by omega, rfl, rfl, by go_num, HN2, HC, HR, HB⟩
        case measure => simp [intOf]; omega
    · obtain rfl : k = s.size := by omega
      have HE := Lib.hid (cut_end HNC.out HC.out)
      go_wp2_with (at_builtin; refine append_str _ rfl _ _ rfl rfl (HR.out.alloc _) wr.heap.size (s.extract fr s.size) rfl (by simp) (by omega) (by simp; omega) ?_; intro A3 c3 w3 hr3 hg3; have HR3 := Lib.hid hr3; have HG3 := Lib.hid hg3; clear hr3 hg3)
      have hb3 : Below w.heap.size w w3 := (HB.out.alloc hwz _).grown HG3.out (by simp; omega) HR.out.own
      have hlen : readN s = l.length + 1 := by rw [readN, ← HE.out]; simp
      have HR4 := HR3.out
      rw [HE.out, ← hlen] at HR4
      go_ret
      exact ⟨A3, c3, by rw [hlen]; rfl, HR4, hb3⟩
end Go.Proofs.YthkpikkjgggimaaGreatDoor
