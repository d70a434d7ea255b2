/-
  The contracts of szStringS, markText, markStringS, heldStringS. No claim stands here.
-/
import Derived.Test.YthkpikkjgggimaaGreatDoorTexts
import Derived.Test.YthkpikkjgggimaaGreatDoorNum
import Derived.Test.YthkpikkjgggimaaGreatDoorBK
import Derived.Test.YthkpikkjgggimaaGreatDoorBT
namespace Go.Proofs.YthkpikkjgggimaaGreatDoor
open Go.RowKit
set_option linter.unusedVariables false
set_option linter.unusedSimpArgs false

/-- What szStringS says of the slice. -/
def SzT (left : Int) (n : Nat) (t : Nat → ByteArray) (x : Int) : Prop := x < 0 ∨ (0 ≤ x ∧ x ≤ left ∧ (n : Int) ≤ left ∧ ∀ i, i < n → ((t i).size : Int) ≤ left)
def SzTPost (left : Int) (n : Nat) (t : Nat → ByteArray) (w : World) (e : Ending) (w' : World) : Prop := ∃ x : Int, e = .returned (.int .i64 x) ∧ SzT left n t x ∧ w = w'
theorem szStringS_any {w : World} {B : Nat} {A : Option Addr} {n c : Nat} {t : Nat → ByteArray} (left : Int) (h0 : 0 ≤ left) (h1 : left ≤ 1048576) (hn : n ≤ 9223372036854775807) (hl : ∀ i, i < n → (t i).size ≤ 9223372036854775807) (hs : Texts w B A n t) :
    Calls Tryz.prog 22 #[.slice A n c, .int .i64 left] w (SzTPost left n t w) := by
  have HS := Lib.hid hs
  have HL := Lib.hid hl
  clear hs hl
  by_cases hneg : left - (n : Int) < 0
  · go_enter Tryz.func22, Tryz.ntmps22
    go_wp2
    go_ret
    exact ⟨-1, rfl, .inl (by omega), rfl⟩
  · go_enter Tryz.func22, Tryz.ntmps22
    go_wp2
    go_loop [1, 5] (fun s1 s5 => ∃ (k : Nat) (x : Int), k ≤ n ∧ s1 = .int .i64 x ∧ s5 = .int .i64 k ∧ 0 ≤ x ∧ x ≤ left - n ∧ Hid (∀ i, i < k → ((t i).size : Int) ≤ left)) (fun _ s5 => n - (intOf s5).toNat)
    case atStart => exact ⟨0, _, Nat.zero_le _, rfl, rfl, by omega, Int.le_refl _, fun i hi => absurd hi (Nat.not_lt_zero _)⟩
    case round =>
      obtain ⟨k, x, hk, rfl, rfl, hx0, hx1, HK⟩ := hrel
      by_cases hlt : k < n
      · obtain ⟨b, off, rfl, _, hc⟩ := HS.out (by omega)
        have c0 := hc k hlt
        have hz := HL.out k hlt
        clear hc
        by_cases hng : x - ((t k).size : Int) < 0
        · generalize t k = tk at *
          go_wp2
          go_ret
          exact ⟨-1, rfl, .inl (by omega), rfl⟩
        · have HK2 : Hid (∀ i, i < k + 1 → ((t i).size : Int) ≤ left) := Lib.hid (fun i hi => by
            by_cases e : i = k
            · subst e; omega
            · exact HK.out i (by omega))
          generalize t k = tk at *
          go_wp2
          go_round
          case rel => exact ⟨k + 1, x - (tk.size : Int), by omega, rfl, by go_num, by omega, by omega, HK2⟩
          case measure => simp [intOf]; omega
      · obtain rfl : k = n := by omega
        go_wp2
        go_ret
        exact ⟨x, rfl, .inr ⟨hx0, by omega, by omega, HK.out⟩, rfl⟩

/-- A mark. -/
def mkL (k : Nat) : List UInt8 := 109 :: Lib.decDigits k
def mkT (k : Nat) : ByteArray := ⟨(mkL k).toArray⟩
theorem byte_front (x : UInt8) (l : List UInt8) : ByteArray.mk #[x] ++ ByteArray.mk l.toArray = ByteArray.mk (x :: l).toArray := by
  rw [ByteArray.mk_append_mk]; rfl
theorem byte_len (l : List UInt8) : (ByteArray.mk l.toArray).size = l.length := by show l.toArray.size = _; simp
/-- What is left to write of a mark's digits. -/
def MkRel (k0 m : Nat) (l : List UInt8) : Prop := (0 < m → Lib.decDigits k0 = Lib.decDigits m ++ l) ∧ (m = 0 → Lib.decDigits k0 = l)
theorem MkRel.len {k0 m : Nat} {l : List UInt8} (h : MkRel k0 m l) : l.length ≤ (Lib.decDigits k0).length := by
  by_cases hm : 0 < m
  · rw [h.1 hm]; simp
  · rw [h.2 (by omega)]; exact Nat.le_refl _
theorem MkRel.step {k0 m : Nat} {l : List UInt8} (h : MkRel k0 m l) (hm : 0 < m) : MkRel k0 (m / 10) (UInt8.ofNat (48 + m % 10) :: l) := by
  have h1 := h.1 hm
  by_cases h10 : m < 10
  · have e : m / 10 = 0 := by omega
    refine ⟨fun h => by omega, fun _ => ?_⟩
    rw [h1, Lib.decDigits_one h10, show m % 10 = m by omega]; rfl
  · refine ⟨fun _ => ?_, fun h => by omega⟩
    rw [h1, decDigits_more h10, List.append_assoc]; rfl

set_option maxRecDepth 100000 in
set_option maxHeartbeats 1600000 in
theorem markText_any (k0 : Nat) (hk : 0 < k0) (hk2 : k0 ≤ 100000000) (w : World) :
    Calls Tryz.prog 75 #[.int .i64 k0] w fun e w' => e = .returned (.string (mkT k0)) ∧ Below w.heap.size w w' := by
  have HLEN := Lib.hid (decDigits_short k0 (by omega))
  go_enter Tryz.func75, Tryz.ntmps75
  go_wp2
  go_loopw [0, 3] (fun s0 s3 wr => ∃ (m : Nat) (l : List UInt8), m ≤ k0 ∧ s0 = .int .i64 m ∧ s3 = .string ⟨l.toArray⟩ ∧ Hid (MkRel k0 m l) ∧ Below w.heap.size w wr) (fun s0 _ _ => (intOf s0).toNat)
  case atStart => exact ⟨k0, [], Nat.le_refl _, rfl, rfl, Lib.hid ⟨fun _ => by simp, fun h => by omega⟩, Below.refl _ _⟩
  case round =>
    obtain ⟨m, l, hm, rfl, rfl, HM, hb⟩ := hrel
    have hlen := HM.out.len
    have hlen2 := HLEN.out
    have hsz := byte_len l
    by_cases hpos : 0 < m
    · have HS := Lib.hid (HM.out.step hpos)
      have hf := byte_front (UInt8.ofNat (48 + m % 10)) l
      obtain ⟨y, hy, hy9⟩ : ∃ y : Nat, m % 10 = y ∧ y < 10 := ⟨_, rfl, by omega⟩
      obtain ⟨q, hq, hqm⟩ : ∃ q : Nat, m / 10 = q ∧ q < m := ⟨_, rfl, by omega⟩
      have e1 : (m : Int) % 10 = (y : Int) := by omega
      have e2 : (m : Int) / 10 = (q : Int) := by omega
      have e1' : (m : Int).tmod 10 = (y : Int) := by rw [Int.tmod_eq_emod_of_nonneg (by omega)]; exact e1
      have e2' : (m : Int).tdiv 10 = (q : Int) := by rw [Int.tdiv_eq_ediv_of_nonneg (by omega)]; exact e2
      rw [hy, hq] at HS
      rw [hy] at hf
      have HSZ := Lib.hid hb.size
      have HB2 := Lib.hid (hb.alloc hb.size (.cells #[.int .u8 (48 + (y : Int))] 5))
      have hcv := one_byte (wr.alloc (.cells #[.int .u8 (48 + (y : Int))] 5)) wr.heap.size (48 + (y : Int)) ((cell_of_row _ wr.heap.size 0 #[.int .u8 (48 + (y : Int))] 5 (0, 0) (by show (wr.heap.push _)[wr.heap.size]? = _; simp)).trans rfl)
      rw [show ((48 + (y : Int)).toNat) = 48 + y by omega] at hcv
      have hb0 : (ByteArray.mk l.toArray).size ≤ 200000000 := by omega
      clear hy hq hlen hlen2 hsz hb HM
      generalize UInt8.ofNat (48 + y) = ub at *
      generalize hbl : ByteArray.mk l.toArray = bl at *
      have HF := Lib.hid hf
      clear hf hbl
      go_wp2
      go_roundw
      case rel => exact ⟨q, ub :: l, by omega, rfl, by rw [← HF.out], HS, HB2.out⟩
      case measure => simp [intOf]; omega
    · obtain rfl : m = 0 := by omega
      have HE := Lib.hid (HM.out.2 rfl)
      have hf := byte_front 109 l
      have hb0 : (ByteArray.mk l.toArray).size ≤ 200000000 := by omega
      have HB := Lib.hid hb
      clear hlen hlen2 hsz hb HM
      generalize hbl : ByteArray.mk l.toArray = bl at *
      have HF := Lib.hid hf
      clear hf hbl
      go_wp2
      go_ret
      exact ⟨by unfold mkT mkL; rw [HE.out, ← HF.out]; rfl, HB.out⟩

/-- The marks from k on. -/
def markedT (k : Int) (i : Nat) : ByteArray := mkT (k + i).toNat
theorem markText_int (k : Int) (hk : 0 < k) (hk2 : k ≤ 100000000) (w : World) :
    Calls Tryz.prog 75 #[.int .i64 k] w fun e w' => e = .returned (.string (mkT k.toNat)) ∧ Below w.heap.size w w' := by
  obtain ⟨n, rfl⟩ := Int.eq_ofNat_of_zero_le (Int.le_of_lt hk)
  exact markText_any n (by omega) (by omega) w
theorem wrote_call {w w1 w2 : World} {A : Option Addr} {n : Nat} (h : Wrote w w1 A n) (hb : Below w1.heap.size w1 w2) : Wrote w w2 A n := by
  obtain ⟨row, hg, hr⟩ := h
  exact ⟨row, hg.trans ⟨hb.os, hb.tape, hb.output, hb.size, fun k hk _ => hb.block k hk⟩, hr⟩

set_option maxHeartbeats 1600000 in
theorem markStringS_any {w : World} {base : Nat} {A : Option Addr} {n c : Nat} {t : Nat → ByteArray} (k0 : Int) (h0 : 0 < k0) (h1 : k0 + n ≤ 100000000) (hs : RowT w base A n c t) :
    Calls Tryz.prog 25 #[.slice A n c, .int .i64 k0] w fun e w' => e = .returned (.int .i64 (k0 + n)) ∧ RowT w' base A n c (markedT k0) ∧ Wrote w w' A n := by
  go_enter Tryz.func25, Tryz.ntmps25
  go_wp2
  go_loopw [1, 5] (fun s1 s5 wr => ∃ k : Nat, k ≤ n ∧ s5 = .int .i64 k ∧ s1 = .int .i64 (k0 + k) ∧ RowT wr base A n c (fun i => if i < k then markedT k0 i else t i) ∧ Wrote w wr A n) (fun _ s5 _ => n - (intOf s5).toNat)
  case atStart => exact ⟨0, Nat.zero_le _, rfl, by simp, hs.congr fun i hi => by simp, Wrote.refl _ _ _⟩
  case round =>
    obtain ⟨k, hk, rfl, rfl, hr, hg⟩ := hrel
    by_cases hlt : k < n
    · obtain ⟨b, rfl, _, _⟩ := hr.form (by omega)
      have HR0 := Lib.hid hr
      have HG0 := Lib.hid hg
      have HM : Hid (mkT (k0 + k).toNat = markedT k0 k) := Lib.hid rfl
      clear hr hg
      go_wp2_with fail
      refine (markText_int (k0 + k) (by omega) (by omega) _).mono ?_
      rintro e w2 ⟨rfl, hb2⟩
      rw [HM.out]
      have hr := HR0.out.below hb2 (Nat.le_refl _)
      have c0 := hr.cell hlt
      have c1 := hr.frozen k
      have hnext := hr.set (k := k) (markedT k0 k)
      have hr2 := hnext.1.congr (g := fun i => if i < k + 1 then markedT k0 i else t i) (fun i hi => by
        unfold updT
        by_cases e : i = k
        · subst e; simp
        · have : (i < k + 1) = (i < k) := by simp; omega
          simp [e, this])
      have hg2 := (wrote_call HG0.out hb2).step hnext.2 (by omega)
      have HR := Lib.hid hr2
      have HG := Lib.hid hg2
      clear hr hnext hr2 hg2 hs hb2 HR0 HG0 HM
      generalize markedT k0 k = mk at *
      go_wp2
      go_roundw
      case rel => exact ⟨k + 1, by omega, by go_num, by go_num, HR.out, HG.out⟩
      case measure => simp [intOf]; omega
    · obtain rfl : k = n := by omega
      have hr2 := hr.congr (g := markedT k0) (fun i hi => by simp [hi])
      clear hr
      go_wp2
      go_ret
      exact ⟨rfl, hr2, hg⟩

/-- What the operations of heldStringS's region leave. -/
def HtV (b off n c k : Nat) (x : ByteArray) (m : Int) : Nat → Value → Prop
  | 0, v => v = .slice (some ⟨b, off, none⟩) n c
  | 1, v => v = .int .i64 k
  | 2, v => v = .pointer (some ⟨b, off + k, none⟩)
  | 3, v => v = .string x
  | 4, v => v = .int .i64 m
  | 5, v => v = .string x
  | 6, v => v = .bool false
  | _, _ => True
def HtR (b off n c k : Nat) (x : ByteArray) (m : Int) (i : Nat) (v : Value) (_ : World) : Prop := HtV b off n c k x m i v

set_option maxHeartbeats 3200000 in
theorem heldStringS_same {w : World} {B : Nat} {A : Option Addr} {n c : Nat} (k0 : Int) (h0 : 0 < k0) (h1 : k0 + n ≤ 100000000) (hB : B ≤ w.heap.size) (hs : Texts w B A n (markedT k0)) :
    Calls Tryz.prog 26 #[.slice A n c, .int .i64 k0] w fun e w' => e = .returned (.int .i64 (k0 + n)) ∧ Below w.heap.size w w' := by
  have HS := Lib.hid hs
  clear hs
  go_enter Tryz.func26, Tryz.ntmps26
  go_wp2
  go_loopw [1, 5] (fun s1 s5 wr => ∃ k : Nat, k ≤ n ∧ s5 = .int .i64 k ∧ s1 = .int .i64 (k0 + k) ∧ Below w.heap.size w wr) (fun _ s5 _ => n - (intOf s5).toNat)
  case atStart => exact ⟨0, Nat.zero_le _, rfl, by simp, Below.refl _ _⟩
  case round =>
    obtain ⟨k, hk, rfl, rfl, hb⟩ := hrel
    by_cases hlt : k < n
    · obtain ⟨b, off, rfl, hbB, hc⟩ := HS.out (by omega)
      have HC := Lib.hid (hc k hlt)
      have HB := Lib.hid hb
      have hsz := hb.size
      have HM : Hid (mkT (k0 + k).toNat = markedT k0 k) := Lib.hid rfl
      have m0 : 0 < k0 + k := by omega
      have m1 : k0 + k ≤ 100000000 := by omega
      generalize hmk : k0 + (k : Int) = mi at *
      have HMK := Lib.hid hmk
      clear hc hb hmk
      go_wp2_with fail
      rename_i hK
      generalize markedT k0 k = mk at *
      refine wp_region_any (by kernel_rfl) ?_
      refine wpAny_typed 7 (fun i => (#[12, 13, 14, 15, 16, 17, 18] : Array Nat).getD i 0) (fun _ => false) (HtR b off n c k mk mi) (fun _ W => Below w.heap.size w W) rfl 22 rfl (by kernel_rfl) (below_drewN HB.out 1) ?_ ?_
      · intro a W U hR hG
        obtain ⟨F, hf, ha⟩ := U.form [false, false, false, false, false, false, false, false, false, false, false, false, true, true, true, true, true, true, true, false, false, false] rfl (by decide)
        have e6 : a.tmps.getD 18 undef = F 18 := hf 6 (by omega)
        have h6 : a.tmps.getD 18 undef = .bool false := hR 6 (by omega)
        have h2 : F 18 = .bool false := e6.symm.trans h6
        simp only [letters, cond_true, cond_false, Nat.reduceAdd, h2] at ha
        obtain ⟨kk, hkk, hg⟩ := hG
        have HB2 := Lib.hid hg
        clear hR hf U e6 h6 h2 hg
        subst ha
        refine hK _ _ ?_
        go_wp2
        go_roundw
        case rel => exact ⟨k + 1, by omega, by go_num, by rw [← HMK.out]; go_num, HB2.out⟩
        case measure => simp [intOf]; omega
      · intro i' o ho a W k' U hG hk' hd
        have hlt' : i' < 7 := (Array.getElem?_eq_some_iff.1 ho).1
        have hu0 := U.other 0 (by decide)
        have hu1 := U.other 1 (by decide)
        have hu5 := U.other 5 (by decide)
        have t0 : a.tmps[0]?.getD undef = .slice (some ⟨b, off, none⟩) n c := by simpa using hu0
        have t1 : a.tmps[1]?.getD undef = .int .i64 mi := by simpa using hu1
        have t5 : a.tmps[5]?.getD undef = .int .i64 k := by simpa using hu5
        rcases (by omega : i' = 0 ∨ i' = 1 ∨ i' = 2 ∨ i' = 3 ∨ i' = 4 ∨ i' = 5 ∨ i' = 6) with rfl | rfl | rfl | rfl | rfl | rfl | rfl
        all_goals (refine wpOp_of ho (by cases ho; rfl) ?_; cases ho)
        · unfold Oper.wp
          simp [go_sem, Act.eval, t0]
          exact ⟨hG, fun j v _ h => h, .inl ⟨rfl, _, rfl, rfl⟩⟩
        · unfold Oper.wp
          simp [go_sem, Act.eval, t5]
          exact ⟨hG, fun j v _ h => h, .inl ⟨rfl, _, rfl, rfl⟩⟩
        · have q0 := hd ⟨0, .data⟩ (by simp) rfl
          have q1 := hd ⟨1, .data⟩ (by simp) rfl
          have u0 : a.tmps[12]?.getD undef = .slice (some ⟨b, off, none⟩) n c := by simpa [HtR, HtV] using q0
          have u1 : a.tmps[13]?.getD undef = .int .i64 k := by simpa [HtR, HtV] using q1
          have hlti : (k : Int) < (n : Int) := by omega
          unfold Oper.wp
          simp [go_sem, Act.eval, u0, u1, hlt]
          exact ⟨hG, fun j v _ h => h, .inl ⟨rfl, _, rfl, rfl⟩⟩
        · have q0 := hd ⟨2, .data⟩ (by simp) rfl
          have u0 : a.tmps[14]?.getD undef = .pointer (some ⟨b, off + k, none⟩) := by simpa [HtR, HtV] using q0
          have cc := (hG.cell (p := ⟨b, off + k, none⟩) (by show b < _; omega)).trans HC.out
          unfold Oper.wp
          simp [go_sem, Act.eval, u0, cc]
          exact ⟨hG, fun j v _ h => h, .inl ⟨rfl, _, rfl, rfl⟩⟩
        · unfold Oper.wp
          simp [go_sem, Act.eval, t1]
          exact ⟨hG, fun j v _ h => h, .inl ⟨rfl, _, rfl, rfl⟩⟩
        · have q0 := hd ⟨4, .data⟩ (by simp) rfl
          have u0 : a.tmps[16]?.getD undef = .int .i64 mi := by simpa [HtR, HtV] using q0
          unfold Oper.wp
          simp [go_sem, Act.eval, u0]
          refine (markText_int mi m0 m1 W).mono ?_
          rw [HM.out]
          rintro e w' ⟨rfl, hb2⟩
          exact ⟨hG.trans (hb2.mono hG.size), fun j v _ h => h, .inl ⟨rfl, _, rfl, rfl⟩⟩
        · have q0 := hd ⟨3, .data⟩ (by simp) rfl
          have q1 := hd ⟨5, .data⟩ (by simp) rfl
          have u0 : a.tmps[15]?.getD undef = .string mk := by simpa [HtR, HtV] using q0
          have u1 : a.tmps[17]?.getD undef = .string mk := by simpa [HtR, HtV] using q1
          unfold Oper.wp
          simp [go_sem, Act.eval, u0, u1]
          exact ⟨hG, fun j v _ h => h, .inl ⟨rfl, _, rfl, rfl⟩⟩
    · obtain rfl : k = n := by omega
      have HB := Lib.hid hb
      go_wp2
      go_ret
      exact ⟨rfl, HB.out⟩
end Go.Proofs.YthkpikkjgggimaaGreatDoor
