/-
  The texts of truths: truthText, the program's, and l8Bits, the reference's; CallsText of both. No claim stands here.
-/
import Derived.Test.YthkpikkjgggimaaGreatDoorText
import Derived.Test.YthkpikkjgggimaaGreatDoorBC
import Derived.Test.YthkpikkjgggimaaGreatDoorBD
import Derived.Laws.Cells
namespace Go.Proofs.YthkpikkjgggimaaGreatDoor
open Go.RowKit
set_option linter.unusedVariables false
set_option linter.unusedSimpArgs false

theorem Tryz.infoU8 : (Tryz.prog.info? 5).map (fun i => (i.zero, i.size, i.bytes)) = some (some (.int .u8 0), 1, 1) := by kernel_rfl

/-- The bytes f 0 .. f (n - 1) as cells. -/
def uvals (f : Nat → Nat) (n : Nat) : List Value := (List.range n).map fun i => .int .u8 (f i)
theorem uvals_length (f : Nat → Nat) (n : Nat) : (uvals f n).length = n := by simp [uvals]
theorem uvals_get {f : Nat → Nat} {n i : Nat} (h : i < n) : (uvals f n)[i]? = some (.int .u8 (f i)) := by simp [uvals, h]
theorem uvals_congr {f g : Nat → Nat} {n : Nat} (h : ∀ i, i < n → f i = g i) : uvals f n = uvals g n :=
  List.map_congr_left fun i hi => by rw [h i (List.mem_range.1 hi)]
def updU (h : Nat → Nat) (k v : Nat) (i : Nat) : Nat := if i = k then v else h i
theorem uvals_set (h : Nat → Nat) (n k v : Nat) : (uvals h n).set k (.int .u8 v) = uvals (updU h k v) n := by
  apply List.ext_getElem?
  intro i
  rw [List.getElem?_set]
  by_cases hi : i < n
  · rw [uvals_get hi, uvals_get hi]
    by_cases hk : k = i
    · subst hk; simp [uvals_length, hi, updU]
    · simp [hk, updU, Ne.symm hk]
  · rw [List.getElem?_eq_none (by rw [uvals_length]; omega), List.getElem?_eq_none (by rw [uvals_length]; omega)]
    by_cases hk : k = i
    · simp [hk, uvals_length, hi]
    · simp [hk]
theorem uvals_made (n : Nat) : (madeCells (Value.int .u8 0).cells (n * 1)).toList = uvals (fun _ => 0) n := by
  rw [Nat.mul_one]
  show (madeCells #[Value.int .u8 0] n).toList = _
  rw [toList_madeCells_one]
  apply List.ext_getElem?
  intro i
  by_cases hi : i < n
  · rw [uvals_get hi]; simp [hi]
  · rw [List.getElem?_eq_none (by simp; omega), List.getElem?_eq_none (by rw [uvals_length]; omega)]
/-- The slice (A, n, c) is a row of bytes of the call's own. -/
def RowU (w : World) (base : Nat) (A : Option Addr) (n c : Nat) (f : Nat → Nat) : Prop := w.ownsRow base 5 1 (.slice A n c) n (uvals f n)
section
variable {w w' : World} {base : Nat} {A : Option Addr} {n c : Nat} {f g : Nat → Nat}
theorem RowU.congr (h : RowU w base A n c f) (e : ∀ i, i < n → f i = g i) : RowU w base A n c g := by
  unfold RowU at h ⊢
  rw [← uvals_congr e]
  exact h
theorem RowU.set {b k : Nat} (h : RowU w base (some ⟨b, 0, none⟩) n c f) (v : Nat) :
    RowU (w.setCell ⟨b, k, none⟩ (.int .u8 v)) base (some ⟨b, 0, none⟩) n c (updU f k v) := by
  have := (World.ownsRow.stored h k (.int .u8 v)).1
  rw [uvals_set] at this
  exact this
theorem RowU.frozen {b : Nat} (h : RowU w base (some ⟨b, 0, none⟩) n c f) (k : Nat) : w.frozen? ⟨b, k, none⟩ = false := World.ownsRow.frozenAt h k
theorem RowU.cell {b k : Nat} (h : RowU w base (some ⟨b, 0, none⟩) n c f) (hk : k < n) : w.cell? ⟨b, k, none⟩ = some (.int .u8 (f k)) := by
  rw [World.ownsRow.cellAt h k (by omega), uvals_get hk]
end

/-- The byte of a truth. -/
def bitN (p : Bool) : Nat := if p = true then 49 else 48
/-- The text of truths. -/
def bitsOf (p : Nat → Bool) : Nat → List UInt8
  | 0 => []
  | k + 1 => bitsOf p k ++ [UInt8.ofNat (bitN (p k))]
theorem bitsOf_length (p : Nat → Bool) : ∀ n, (bitsOf p n).length = n
  | 0 => rfl
  | n + 1 => by rw [bitsOf, List.length_append, bitsOf_length p n]; rfl
theorem push_mk (l : List UInt8) (b : UInt8) : (ByteArray.mk l.toArray).push b = ByteArray.mk (l ++ [b]).toArray := by
  simp [ByteArray.push]
theorem fold_push : ∀ (l : List Int) (a : List UInt8), l.foldl (fun r n => r.push (UInt8.ofNat n.toNat)) (ByteArray.mk a.toArray) = ByteArray.mk (a ++ l.map fun n => UInt8.ofNat n.toNat).toArray
  | [], a => by simp
  | x :: l, a => by
    rw [List.foldl_cons, push_mk, fold_push l]
    simp
theorem bitsOf_map (p : Nat → Bool) : ∀ n, bitsOf p n = (List.range n).map fun i => UInt8.ofNat (bitN (p i))
  | 0 => rfl
  | n + 1 => by rw [bitsOf, bitsOf_map p n, List.range_succ, List.map_append]; rfl
theorem bytes_text {w : World} {base b n c : Nat} {p : Nat → Bool} (h : RowU w base (some ⟨b, 0, none⟩) n c (fun i => bitN (p i))) :
    (convert 22 9 (.slice (some ⟨b, 0, none⟩) n c)).run Tryz.prog w = .ok (.string ⟨(bitsOf p n).toArray⟩) w := by
  rw [run_convert_bytes_string w _ _ 5 _ _ _ Tryz.underlying22 Tryz.underlying5 Tryz.underlying9]
  have hl : (loadCells ⟨b, 0, none⟩ n).run Tryz.prog w = .ok (((List.range n).map fun i => (bitN (p i) : Int)).map (Value.int .u8)).toArray w := by
    have := run_loadCells_list (P := Tryz.prog) (w := w) ⟨b, 0, none⟩ (uvals (fun i => bitN (p i)) n) (fun j v hj => by
      have hjn : j < n := by
        rcases Nat.lt_or_ge j n with h' | h'
        · exact h'
        · rw [List.getElem?_eq_none (by rw [uvals_length]; omega)] at hj; cases hj
      rw [uvals_get hjn] at hj
      rw [← hj, Addr.add_lit, Nat.zero_add]
      exact h.cell hjn)
    rw [uvals_length] at this
    rw [this]
    congr 2
    simp [uvals]
  rw [run_bytesToString w ⟨b, 0, none⟩ n c _ hl]
  rw [show ByteArray.empty = ByteArray.mk ([] : List UInt8).toArray from rfl, fold_push, bitsOf_map]
  congr 4
  simp

theorem l8Bits_any {w : World} {B : Nat} {A : Option Addr} {n c : Nat} {p : Nat → Bool} (hn : n ≤ 1000) (hs : Bools w B A n p) :
    Calls Tryz.prog 140 #[.slice A n c] w fun e w' => e = .returned (.string ⟨(bitsOf p n).toArray⟩) ∧ w = w' := by
  have HS := Lib.hid hs
  clear hs
  go_enter Tryz.func140, Tryz.ntmps140
  go_wp2
  go_loop [3, 4] (fun s3 s4 => ∃ k : Nat, k ≤ n ∧ s3 = .string ⟨(bitsOf p k).toArray⟩ ∧ s4 = .int .i64 k) (fun _ s4 => n - (intOf s4).toNat)
  case atStart => exact ⟨0, Nat.zero_le _, rfl, rfl⟩
  case round =>
    obtain ⟨k, hk, rfl, rfl⟩ := hrel
    by_cases hlt : k < n
    · obtain ⟨b, off, rfl, hbB, hc⟩ := HS.out (by omega)
      have c0 := hc k hlt
      have hl := bitsOf_length p k
      have hb0 : (ByteArray.mk (bitsOf p k).toArray).size ≤ 1000 := by
        show (bitsOf p k).toArray.size ≤ 1000
        simp; omega
      have HN : Hid (∀ x, UInt8.ofNat (bitN (p k)) = x → ByteArray.mk (bitsOf p (k + 1)).toArray = ByteArray.mk (bitsOf p k).toArray ++ ByteArray.mk #[x]) := Lib.hid (by
        rintro x rfl
        rw [bitsOf, ← ByteArray.mk_append_mk])
      clear hc hl HS
      generalize ByteArray.mk (bitsOf p k).toArray = b0 at *
      cases hp : p k
      all_goals
        first | have HX := Lib.hid (HN.out 48 (by rw [hp]; rfl)) | have HX := Lib.hid (HN.out 49 (by rw [hp]; rfl))
        rw [hp] at c0
        clear HN hp
        go_wp2
        go_round
        case rel => exact ⟨k + 1, by omega, by rw [HX.out], by go_num⟩
        case measure => simp [intOf]; omega
    · obtain rfl : k = n := by omega
      go_wp2
      go_ret
      exact ⟨rfl, rfl⟩

theorem truthText_any {w : World} {B : Nat} {A : Option Addr} {n c : Nat} {p : Nat → Bool} (hn : n ≤ 1000) (hB : B ≤ w.heap.size) (hs : Bools w B A n p) :
    Calls Tryz.prog 133 #[.slice A n c] w fun e w' => e = .returned (.string ⟨(bitsOf p n).toArray⟩) ∧ Below w.heap.size w w' := by
  obtain ⟨i0, hi, hz0, hz1, hz2⟩ := info_parts Tryz.infoU8
  go_enter Tryz.func133, Tryz.ntmps133
  go_wp2_with (at_make; refine wpList_make_full _ rfl _ _ 22 rfl w.heap.size 5 i0 (.int .u8 0) 1 Tryz.underlying22 hi hz0 hz1 _ _ _ _ n rfl rfl rfl rfl (by rw [hz2]; omega) (by unfold maxLen; omega) (Nat.le_refl _) ?_; intro w1 hown hgrow)
  have hrow0 : RowU w1 w.heap.size (some ⟨w.heap.size, 0, none⟩) n n (fun _ => 0) := by
    unfold RowU
    rw [← uvals_made]
    exact hown
  have hb0 := (Below.refl w.heap.size w).grown hgrow (Nat.le_refl _) (by intro k hk; cases hk)
  clear hown hgrow hi hz0 hz1 hz2
  have HS := Lib.hid hs
  clear hs
  go_wp2
  go_loopw [11] (fun s11 wr => ∃ k : Nat, k ≤ n ∧ s11 = .int .i64 k ∧ RowU wr w.heap.size (some ⟨w.heap.size, 0, none⟩) n n (fun i => if i < k then bitN (p i) else 0) ∧ Below w.heap.size w wr) (fun s11 _ => n - (intOf s11).toNat)
  case atStart => exact ⟨0, Nat.zero_le _, rfl, hrow0.congr fun i hi => by simp, hb0⟩
  case round =>
    obtain ⟨k, hk, rfl, hr, hb⟩ := hrel
    clear hrow0 hb0
    by_cases hlt : k < n
    · obtain ⟨b, off, rfl, hbB, hc⟩ := HS.out (by omega)
      have c0 := (hb.cell (p := ⟨b, off + k, none⟩) (by simp; omega)).trans (hc k hlt)
      have c2 := hr.frozen k
      have c1 := hr.cell hlt
      have HK : Hid (∀ f : Nat → Nat, (∀ i, i < n → f i = if i < k + 1 then bitN (p i) else 0) → ∀ W, RowU W w.heap.size (some ⟨w.heap.size, 0, none⟩) n n f → RowU W w.heap.size (some ⟨w.heap.size, 0, none⟩) n n (fun i => if i < k + 1 then bitN (p i) else 0)) := Lib.hid (fun f hf W h => h.congr hf)
      have HR := Lib.hid hr
      have HB := Lib.hid hb
      clear hr hb HS hc
      cases hp : p k
      all_goals
        rw [hp] at c0
        have HP := Lib.hid hp
        clear hp
        go_wp2
        go_roundw
        case rel =>
          refine ⟨k + 1, by omega, by go_num, ?_, ?_⟩
          · first
              | refine HK.out _ ?_ _ (HR.out.set 48)
              | refine HK.out _ ?_ _ ((HR.out.set 48).set 49)
            intro i hi
            unfold updU
            by_cases e : i = k
            · subst e; simp [HP.out, bitN]
            · have : (i < k + 1) = (i < k) := by simp; omega
              simp [e, this]
          · first
              | exact HB.out.setCell (p := ⟨w.heap.size, k, none⟩) (Nat.le_refl _) _
              | exact (HB.out.setCell (p := ⟨w.heap.size, k, none⟩) (Nat.le_refl _) _).setCell (p := ⟨w.heap.size, k, none⟩) (Nat.le_refl _) _
        case measure => simp [intOf]; omega
    · obtain rfl : k = n := by omega
      have hcv := bytes_text (hr.congr (g := fun i => bitN (p i)) (fun i hi => by simp [hi]))
      have HB := Lib.hid hb
      clear hr hb
      go_wp2
      go_ret
      exact ⟨rfl, HB.out⟩
end Go.Proofs.YthkpikkjgggimaaGreatDoor
