/-
  Texts Base, Trips, Read, Row, Mark, Floors in one. No claim stands here.
-/
import Derived.Test.YthkpikkjgggimaaGreatDoorRows
import Derived.Test.YthkpikkjgggimaaGreatDoorBA
import Derived.WalkKit
import Derived.WalkSpells
import Derived.WalkLawsBesides
import Derived.BigQuiet
import Derived.Deep.LoopGhost
import Derived.Deep.Draws
import Derived.Lib.Hide
import Derived.Laws.OwnMore
import Derived.Laws.AppendOwnNone
import Derived.Deep.AppendLies
import Derived.Maps.AppendAt
namespace Go.Proofs.YthkpikkjgggimaaGreatDoor
open Go.RowKit

/-- A slice of ints reads as the numbers f 0 .. f (n - 1), and lies below block B. -/
def Ints (w : World) (B : Nat) (A : Option Addr) (n : Nat) (f : Nat → Int) : Prop :=
  0 < n → ∃ b off, A = some ⟨b, off, none⟩ ∧ b < B ∧ ∀ i, i < n → w.cell? ⟨b, off + i, none⟩ = some (.int .i64 (f i))

section
variable {w w' : World} {B B' : Nat} {A : Option Addr} {n : Nat} {f g : Nat → Int}
theorem Ints.keep (h : Ints w B A n f) (hk : ∀ p : Addr, p.block < B → w'.cell? p = w.cell? p) : Ints w' B A n f := by
  intro hn
  obtain ⟨b, off, hA, hb, hc⟩ := h hn
  exact ⟨b, off, hA, hb, fun i hi => (hk _ hb).trans (hc i hi)⟩
theorem Ints.more (h : Ints w B A n f) (hB : B ≤ B') : Ints w B' A n f := by
  intro hn
  obtain ⟨b, off, hA, hb, hc⟩ := h hn
  exact ⟨b, off, hA, Nat.lt_of_lt_of_le hb hB, hc⟩
theorem Ints.below (h : Ints w B A n f) (hb : Below B w w') : Ints w' B A n f := h.keep fun _ hp => hb.cell hp
theorem Ints.drewN (h : Ints w B A n f) (k : Nat) : Ints (w.drewN k) B A n f := h
theorem Ints.drew (h : Ints w B A n f) : Ints w.drew B A n f := h
theorem Ints.alloc (h : Ints w B A n f) (hB : B ≤ w.heap.size) (o : Obj) : Ints (w.alloc o) B A n f := h.keep fun p hp => World.cell?_alloc_lt w o p (by omega)
theorem Ints.zero : Ints w B A 0 f := fun h => absurd h (by omega)
theorem Ints.congr (h : Ints w B A n f) (e : ∀ i, i < n → f i = g i) : Ints w B A n g := by
  intro hn
  obtain ⟨b, off, hA, hb, hc⟩ := h hn
  exact ⟨b, off, hA, hb, fun i hi => by rw [hc i hi, e i hi]⟩
end

/-- An argument that is a slice of ints, as a row's proof opens it. -/
theorem ints_of {w : World} {a : Option Addr} {len cap : Nat} {zs : List Int}
    (h : (a = none ∧ len = 0 ∧ cap = 0 ∧ zs = []) ∨ ∃ x, a = some x ∧ len ≤ cap ∧ cap ≤ maxLen ∧ zs.length = cap ∧ (∀ i, i < zs.length → w.cell? (x.add i) = some (.int .i64 (zs.getD i 0))) ∧ ∀ n ∈ zs, (Lit.int .i64 n).wf = true) :
    Ints w w.heap.size a len (fun i => zs.getD i 0) := by
  rcases h with ⟨rfl, rfl, rfl, rfl⟩ | ⟨⟨b, off, spot⟩, rfl, hl, hm, hz, hc, _⟩
  · exact Ints.zero
  · intro hn
    have h0 := hc 0 (by omega)
    have hs : spot = none := by simpa [Addr.add] using World.cell?_spot h0
    subst hs
    refine ⟨b, off, rfl, ?_, fun i hi => ?_⟩
    · have := World.block_lt_of_cell? w _ h0
      simpa [Addr.add] using this
    · have := hc i (by omega)
      rwa [Addr.add_lit] at this

theorem ret_int {k : IntKind} {a b : Int} (h : a = b) : Ending.returned (.int k a) = .returned (.int k b) := by rw [h]
theorem ret_bool {a b : Bool} (h : a = b) : Ending.returned (.bool a) = .returned (.bool b) := by rw [h]

/-- A contract that leaves the world alone, met in a quiet region. -/
theorem quiet_left {P : Program} {f : FuncId} {args : Array Value} {w : World} {n : Nat} {v : Value}
    (h : Calls P f args (w.drewN n) fun e w' => e = .returned v ∧ w.drewN n = w') : Calls P f args (w.drewN n) fun e w'' => e = .returned v ∧ ∃ m, w'' = w.drewN m :=
  h.mono fun _ _ ⟨he, hm⟩ => ⟨he, n, hm.symm⟩
theorem quiet_add_left {P : Program} {f : FuncId} {args : Array Value} {w : World} {a n : Nat} {v : Value}
    (h : Calls P f args (w.drewN (a + n)) fun e w' => e = .returned v ∧ w.drewN (a + n) = w') :
    Calls P f args (w.drewN (a + n)) fun e w'' => e = .returned v ∧ ∃ m, w'' = w.drewN (a + m) :=
  h.mono fun _ _ ⟨he, hm⟩ => ⟨he, n, hm.symm⟩
theorem quiet_add {P : Program} {f : FuncId} {args : Array Value} {w : World} {a n : Nat} {v : Value}
    (h : Calls P f args (w.drewN (a + n)) fun e w' => e = .returned v ∧ ∃ m, w' = (w.drewN (a + n)).drewN m) :
    Calls P f args (w.drewN (a + n)) fun e w'' => e = .returned v ∧ ∃ m, w'' = w.drewN (a + m) :=
  h.mono fun _ _ ⟨he, m, hm⟩ => ⟨he, n + m, by rw [hm, World.drewN_drewN, Nat.add_assoc]⟩
/-- The world has drawn some times; nothing else has turned. -/
def Drew (w w' : World) : Prop := ∃ m, w' = w.drewN m
theorem Drew.refl (w : World) : Drew w w := ⟨0, rfl⟩
theorem Drew.n {w w' : World} (h : Drew w w') (k : Nat) : Drew w (w'.drewN k) := by
  obtain ⟨m, rfl⟩ := h
  exact ⟨m + k, World.drewN_drewN _ _ _⟩
theorem Drew.one {w w' : World} (h : Drew w w') : Drew w w'.drew := h.n 1
theorem Drew.trans {a b c : World} (h : Drew a b) (h' : Drew b c) : Drew a c := by
  obtain ⟨m, rfl⟩ := h'
  exact h.n m
theorem below_drewN {B : Nat} {a w : World} (h : Below B a w) (n : Nat) : Below B a (w.drewN n) := ⟨h.os, h.tape, h.output, h.size, h.block⟩
theorem Drew.below {B : Nat} {w w' : World} (h : Drew w w') : Below B w w' := by
  obtain ⟨m, rfl⟩ := h
  exact below_drewN (Below.refl _ _) m
end Go.Proofs.YthkpikkjgggimaaGreatDoor

namespace Go.Proofs.YthkpikkjgggimaaGreatDoor
open Go.RowKit
set_option linter.unusedVariables false

/-- spec.l1In. -/
theorem l1In_any (n lo hi : Int) (w : World) : Calls Tryz.prog 40 #[.int .i64 n, .int .i64 lo, .int .i64 hi] w fun e w' => e = .returned (.bool (inB n lo hi)) ∧ w = w' := by
  by_cases h1 : lo ≤ n
  · by_cases h2 : n ≤ hi
    all_goals
      go_enter Tryz.func40, Tryz.ntmps40
      go_wp2
      go_ret
      exact ⟨ret_bool (by rw [Bool.eq_iff_iff, inB_iff]; simp; omega), rfl⟩
  · go_enter Tryz.func40, Tryz.ntmps40
    go_wp2
    go_ret
    exact ⟨ret_bool (by rw [Bool.eq_iff_iff, inB_iff]; simp; omega), rfl⟩

/-- What TripsFor returns. -/
def tripsFor (p r : Int) : Int := if (inB p 0 30 && inB r 1 8) = true then roundUp p r else -1
theorem tripsFor_yes {p r : Int} (h : inB p 0 30 = true) (h' : inB r 1 8 = true) : tripsFor p r = roundUp p r := by simp [tripsFor, h, h']
theorem tripsFor_no {p r : Int} (h : inB p 0 30 = false ∨ inB r 1 8 = false) : tripsFor p r = -1 := by
  rcases h with h | h <;> simp [tripsFor, h]

end Go.Proofs.YthkpikkjgggimaaGreatDoor

namespace Go.Proofs.YthkpikkjgggimaaGreatDoor
open Go.RowKit
set_option linter.unusedVariables false
set_option linter.unusedSimpArgs false

/-- The numbers of two slices are the same. -/
def eqP (f g : Nat → Int) (i : Nat) : Bool := f i == g i
def eqB (f : Nat → Int) (n : Nat) (g : Nat → Int) (m : Nat) : Bool := n == m && allB (eqP f g) n
theorem eqB_iff {f : Nat → Int} {n : Nat} {g : Nat → Int} {m : Nat} : eqB f n g m = true ↔ n = m ∧ ∀ i, i < n → f i = g i := by
  simp [eqB, allB_iff, eqP]
theorem eqB_refl (f : Nat → Int) (n : Nat) : eqB f n f n = true := eqB_iff.2 ⟨rfl, fun _ _ => rfl⟩

theorem eqIntS_any {w : World} {B B' : Nat} {A A' : Option Addr} {n m c c' : Nat} {f g : Nat → Int} (hn : n ≤ 9223372036854775806) (hs : Ints w B A n f) (hs' : Ints w B' A' m g) :
    Calls Tryz.prog 67 #[.slice A n c, .slice A' m c'] w fun e w' => e = .returned (.bool (eqB f n g m)) ∧ Drew w w' := by
  by_cases hnm : n = m
  · subst hnm
    go_enter Tryz.func67, Tryz.ntmps67
    go_wp2
    go_loopw [5] (fun s5 wr => ∃ k : Nat, k ≤ n ∧ s5 = .int .i64 k ∧ Hid (allB (eqP f g) k = true) ∧ Drew w wr) (fun s5 _ => n - (intOf s5).toNat)
    case atStart => exact ⟨0, Nat.zero_le _, rfl, rfl, Drew.refl _⟩
    case round =>
      obtain ⟨k, hk, rfl, HK, m, rfl⟩ := hrel
      by_cases hlt : k < n
      · obtain ⟨b, off, rfl, _, hc⟩ := hs (by omega)
        obtain ⟨b', off', rfl, _, hc'⟩ := hs' (by omega)
        have c0 := hc k hlt
        have c1 := hc' k hlt
        clear hc hs hc' hs'
        by_cases h1 : f k = g k
        · have HN := Lib.hid (show eqP f g k = true by simp [eqP, h1])
          have he : (f k == g k) = true := by simp [h1]
          clear h1
          go_wp2
          go_quiet (fail)
          go_wp2
          go_roundw
          case rel => exact ⟨k + 1, by omega, by go_num, allB_succ HK.out HN.out, by first | exact ⟨_, rfl⟩ | exact ⟨_, World.drewN_drewN _ _ _⟩⟩
          case measure => simp [intOf]; omega
        · have HN := Lib.hid (show eqP f g k = false by simp [eqP, h1])
          have he : (f k == g k) = false := by simp [h1]
          clear h1
          go_wp2
          go_quiet (fail)
          go_wp2
          go_ret
          exact ⟨ret_bool (by simp [eqB, allB_no hlt HN.out]), (Drew.refl _).n _ |>.n _⟩
      · obtain rfl : k = n := by omega
        go_wp2
        go_ret
        exact ⟨ret_bool (by simp [eqB, HK.out]), (Drew.refl _).n _⟩
  · have he : ((n : Int) == (m : Int)) = false := by simp; omega
    have HN := Lib.hid (show eqB f n g m = false by simp [eqB, hnm])
    clear hnm
    go_enter Tryz.func67, Tryz.ntmps67
    go_wp2
    go_ret
    exact ⟨ret_bool HN.out.symm, Drew.refl _⟩
theorem sameInts_any {w : World} {B B' : Nat} {A A' : Option Addr} {n m c c' : Nat} {f g : Nat → Int} (hn : n ≤ 9223372036854775806) (hs : Ints w B A n f) (hs' : Ints w B' A' m g) :
    Calls Tryz.prog 36 #[.slice A n c, .slice A' m c'] w fun e w' => e = .returned (.bool (eqB f n g m)) ∧ Drew w w' := by
  by_cases hnm : n = m
  · subst hnm
    go_enter Tryz.func36, Tryz.ntmps36
    go_wp2
    go_loopw [5] (fun s5 wr => ∃ k : Nat, k ≤ n ∧ s5 = .int .i64 k ∧ Hid (allB (eqP f g) k = true) ∧ Drew w wr) (fun s5 _ => n - (intOf s5).toNat)
    case atStart => exact ⟨0, Nat.zero_le _, rfl, rfl, Drew.refl _⟩
    case round =>
      obtain ⟨k, hk, rfl, HK, m, rfl⟩ := hrel
      by_cases hlt : k < n
      · obtain ⟨b, off, rfl, _, hc⟩ := hs (by omega)
        obtain ⟨b', off', rfl, _, hc'⟩ := hs' (by omega)
        have c0 := hc k hlt
        have c1 := hc' k hlt
        clear hc hs hc' hs'
        by_cases h1 : f k = g k
        · have HN := Lib.hid (show eqP f g k = true by simp [eqP, h1])
          have he : (f k == g k) = true := by simp [h1]
          clear h1
          go_wp2
          go_quiet (fail)
          go_wp2
          go_roundw
          case rel => exact ⟨k + 1, by omega, by go_num, allB_succ HK.out HN.out, by first | exact ⟨_, rfl⟩ | exact ⟨_, World.drewN_drewN _ _ _⟩⟩
          case measure => simp [intOf]; omega
        · have HN := Lib.hid (show eqP f g k = false by simp [eqP, h1])
          have he : (f k == g k) = false := by simp [h1]
          clear h1
          go_wp2
          go_quiet (fail)
          go_wp2
          go_ret
          exact ⟨ret_bool (by simp [eqB, allB_no hlt HN.out]), (Drew.refl _).n _ |>.n _⟩
      · obtain rfl : k = n := by omega
        go_wp2
        go_ret
        exact ⟨ret_bool (by simp [eqB, HK.out]), (Drew.refl _).n _⟩
  · have he : ((n : Int) == (m : Int)) = false := by simp; omega
    have HN := Lib.hid (show eqB f n g m = false by simp [eqB, hnm])
    clear hnm
    go_enter Tryz.func36, Tryz.ntmps36
    go_wp2
    go_ret
    exact ⟨ret_bool HN.out.symm, Drew.refl _⟩
end Go.Proofs.YthkpikkjgggimaaGreatDoor

namespace Go.Proofs.YthkpikkjgggimaaGreatDoor
open Go.RowKit

theorem Tryz.infoInt : (Tryz.prog.info? 3).map (fun i => (i.zero, i.size, i.bytes)) = some (some (.int .i64 0), 1, 8) := by kernel_rfl

/-- The numbers f 0 .. f (n - 1) as cells. -/
def ivals (f : Nat → Int) (n : Nat) : List Value := (List.range n).map fun i => .int .i64 (f i)
theorem ivals_length (f : Nat → Int) (n : Nat) : (ivals f n).length = n := by simp [ivals]
theorem ivals_get {f : Nat → Int} {n i : Nat} (h : i < n) : (ivals f n)[i]? = some (.int .i64 (f i)) := by simp [ivals, h]
theorem ivals_succ (f : Nat → Int) (n : Nat) : ivals f (n + 1) = ivals f n ++ [.int .i64 (f n)] := by simp [ivals, List.range_succ]
theorem ivals_one {f : Nat → Int} {n : Nat} : ∀ u ∈ ivals f n, u.oneCell' = true := by
  intro u hu
  obtain ⟨_, _, rfl⟩ := List.mem_map.1 hu
  rfl
theorem ivals_congr {f g : Nat → Int} {n : Nat} (h : ∀ i, i < n → f i = g i) : ivals f n = ivals g n :=
  List.map_congr_left fun i hi => by rw [h i (List.mem_range.1 hi)]
/-- h, but v at k. -/
def upd (h : Nat → Int) (k : Nat) (v : Int) (i : Nat) : Int := if i = k then v else h i
theorem ivals_set (h : Nat → Int) (n k : Nat) (v : Int) : (ivals h n).set k (.int .i64 v) = ivals (upd h k v) n := by
  apply List.ext_getElem?
  intro i
  rw [List.getElem?_set]
  by_cases hi : i < n
  · rw [ivals_get hi, ivals_get hi]
    by_cases hk : k = i
    · subst hk; simp [ivals_length, hi, upd]
    · simp [hk, upd, Ne.symm hk]
  · rw [List.getElem?_eq_none (by rw [ivals_length]; omega), List.getElem?_eq_none (by rw [ivals_length]; omega)]
    by_cases hk : k = i
    · simp [hk, ivals_length, hi]
    · simp [hk]
theorem ivals_made (n : Nat) : (madeCells (Value.int .i64 0).cells (n * 1)).toList = ivals (fun _ => 0) n := by
  rw [Nat.mul_one]
  show (madeCells #[Value.int .i64 0] n).toList = _
  rw [toList_madeCells_one]
  apply List.ext_getElem?
  intro i
  by_cases hi : i < n
  · rw [ivals_get hi]; simp [hi]
  · rw [List.getElem?_eq_none (by simp; omega), List.getElem?_eq_none (by rw [ivals_length]; omega)]

/-- The slice (A, n, c) is a row of the call's own: it holds f 0 .. f (n - 1), in a block from base on. -/
def Row (w : World) (base : Nat) (A : Option Addr) (n c : Nat) (f : Nat → Int) : Prop := w.ownsRow base 3 1 (.slice A n c) n (ivals f n)

section
variable {w w' : World} {base : Nat} {A : Option Addr} {n c : Nat} {f g : Nat → Int}
theorem Row.ints (h : Row w base A n c f) : Ints w w.heap.size A n f := by
  intro hn
  obtain ⟨b, cap, hv, _, hlt⟩ := World.ownsRow.form h hn
  obtain ⟨rfl, -, rfl⟩ : A = some ⟨b, 0, none⟩ ∧ n = n ∧ c = cap := by simpa using hv
  refine ⟨b, 0, rfl, hlt, fun i hi => ?_⟩
  rw [Nat.zero_add, World.ownsRow.cellAt h i (by omega), ivals_get hi]
theorem Row.form (h : Row w base A n c f) (hn : 0 < n) : ∃ b, A = some ⟨b, 0, none⟩ ∧ base ≤ b ∧ b < w.heap.size := by
  obtain ⟨b, cap, hv, hb, hlt⟩ := World.ownsRow.form h hn
  obtain ⟨rfl, -⟩ : A = some ⟨b, 0, none⟩ ∧ c = cap := by simpa using hv
  exact ⟨b, rfl, hb, hlt⟩
theorem Row.cap (h : Row w base A n c f) : n ≤ c ∧ c ≤ maxLen := by
  rcases h.2 with ⟨hv, h0⟩ | ⟨b, cap, cur, hv, _, _, hc, hm, _⟩
  · simp only [Value.slice.injEq] at hv; obtain ⟨_, rfl, rfl⟩ := hv; exact ⟨Nat.le_refl _, Nat.zero_le _⟩
  · simp only [Value.slice.injEq] at hv; obtain ⟨_, _, rfl⟩ := hv; exact ⟨hc, hm⟩
theorem Row.kept {row : Option Nat} (h : Row w base A n c f) (hg : w.grownBy w' row) (hne : row = none ∨ ∀ b, row = some b → b < base ∨ w.heap.size ≤ b) : Row w' base A n c f := by
  refine World.ownsRow.kept h hg ?_
  cases hb : (Value.slice A n c).ownBlock with
  | none => exact .inl rfl
  | some b =>
    right
    have := World.ownsRow.lt h b hb
    rcases hne with rfl | hne
    · simp
    · intro e
      have := hne b e.symm
      omega
theorem Row.below {B : Nat} (h : Row w base A n c f) (hb : Below B w w') (hB : w.heap.size ≤ B) : Row w' base A n c f :=
  h.kept (row := none) ⟨hb.os, hb.tape, hb.output, hb.size, fun k hk _ => hb.block k (by omega)⟩ (.inl rfl)
theorem Row.drewN (h : Row w base A n c f) (k : Nat) : Row (w.drewN k) base A n c f := h
theorem Row.drew (h : Row w base A n c f) : Row w.drew base A n c f := h
theorem Row.alloc (h : Row w base A n c f) (o : Obj) : Row (w.alloc o) base A n c f := h.kept (World.grownBy_alloc w o none) (.inl rfl)
theorem Row.congr (h : Row w base A n c f) (e : ∀ i, i < n → f i = g i) : Row w base A n c g := by
  unfold Row at h ⊢
  rw [← ivals_congr e]
  exact h
theorem Row.mono {base' : Nat} (h : Row w base A n c f) (hb : base' ≤ base) : Row w base' A n c f := by
  refine ⟨h.1, ?_⟩
  rcases h.2 with h' | ⟨b, cap, cur, hv, hbb, r⟩
  · exact .inl h'
  · exact .inr ⟨b, cap, cur, hv, Nat.le_trans hb hbb, r⟩
theorem Row.set {b k : Nat} (h : Row w base (some ⟨b, 0, none⟩) n c f) (v : Int) :
    Row (w.setCell ⟨b, k, none⟩ (.int .i64 v)) base (some ⟨b, 0, none⟩) n c (upd f k v) ∧ w.grownBy (w.setCell ⟨b, k, none⟩ (.int .i64 v)) (some b) := by
  have := World.ownsRow.stored h k (.int .i64 v)
  rw [ivals_set] at this
  exact this
theorem Row.frozen {b : Nat} (h : Row w base (some ⟨b, 0, none⟩) n c f) (k : Nat) : w.frozen? ⟨b, k, none⟩ = false := World.ownsRow.frozenAt h k
theorem Row.cell {b k : Nat} (h : Row w base (some ⟨b, 0, none⟩) n c f) (hk : k < n) : w.cell? ⟨b, k, none⟩ = some (.int .i64 (f k)) := by
  rw [World.ownsRow.cellAt h k (by omega), ivals_get hk]
theorem Row.lt {b : Nat} (h : Row w base (some ⟨b, 0, none⟩) n c f) : base ≤ b ∧ b < w.heap.size := World.ownsRow.lt h b rfl
theorem Row.own (h : Row w base A n c f) : ∀ b, (Value.slice A n c).ownBlock = some b → base ≤ b := fun b hb => (World.ownsRow.lt h b hb).1
theorem Row.nil (w : World) (base : Nat) (f : Nat → Int) : Row w base none 0 0 f := by
  unfold Row
  simpa [ivals] using World.ownsRow_nil w base 3 1
end

/-- '[]int' written out without an element. -/
theorem Row.empty {w : World} {base : Nat} (f : Nat → Int) (hb : base ≤ w.heap.size) : Row (w.alloc (.cells #[] 3)) base (some ⟨w.heap.size, 0, none⟩) 0 0 f := by
  have h := World.ownsRow_lit (e := 3) (size := 1) (base := base) w #[] 0 hb (Nat.zero_le _) (by simp)
  simpa [Row, ivals] using h
theorem Row.emptyAt {w : World} {base g : Nat} (f : Nat → Int) (hg : g = w.heap.size) (hb : base ≤ w.heap.size) : Row (w.alloc (.cells #[] 3)) base (some ⟨g, 0, none⟩) 0 0 f := by
  subst hg; exact Row.empty f hb
/-- f, and X behind its first n numbers. -/
def snoc (f : Nat → Int) (n : Nat) (X : Int) (i : Nat) : Int := if i < n then f i else X
theorem snoc_lo {f : Nat → Int} {n i : Nat} {X : Int} (h : i < n) : snoc f n X i = f i := by simp [snoc, h]
theorem snoc_at (f : Nat → Int) (n : Nat) (X : Int) : snoc f n X n = X := by simp [snoc]
theorem ivals_snoc (f : Nat → Int) (n : Nat) (X : Int) : ivals (snoc f n X) (n + 1) = ivals f n ++ [.int .i64 X] := by
  rw [ivals_succ, snoc_at, ivals_congr (g := f) fun i hi => snoc_lo hi]
/-- f, and g behind its first n numbers. -/
def catF (f : Nat → Int) (n : Nat) (g : Nat → Int) (i : Nat) : Int := if i < n then f i else g (i - n)
theorem catF_lo {f g : Nat → Int} {n i : Nat} (h : i < n) : catF f n g i = f i := by simp [catF, h]
theorem catF_hi {f g : Nat → Int} {n i : Nat} (h : n ≤ i) : catF f n g i = g (i - n) := by simp [catF, Nat.not_lt.2 h]
theorem ivals_cat (f : Nat → Int) (n : Nat) (g : Nat → Int) (m : Nat) : ivals (catF f n g) (n + m) = ivals f n ++ ivals g m := by
  apply List.ext_getElem?
  intro i
  by_cases h : i < n
  · rw [ivals_get (by omega), catF_lo h, List.getElem?_append_left (by rw [ivals_length]; exact h), ivals_get h]
  · rw [List.getElem?_append_right (by rw [ivals_length]; omega), ivals_length]
    by_cases h' : i < n + m
    · rw [ivals_get h', catF_hi (by omega), ivals_get (by omega)]
    · rw [List.getElem?_eq_none (by rw [ivals_length]; omega), List.getElem?_eq_none (by rw [ivals_length]; omega)]
theorem row_shape {w : World} {base : Nat} {v : Value} {n : Nat} {xs : List Value} (h : w.ownsRow base 3 1 v n xs) : ∃ A c, v = .slice A n c := by
  rcases h.2 with ⟨rfl, rfl⟩ | ⟨b, cap, cur, rfl, _⟩
  · exact ⟨_, _, rfl⟩
  · exact ⟨_, _, rfl⟩

theorem snoc_self (f : Nat → Int) (n : Nat) : ∀ i, i < n + 1 → snoc f n (f n) i = f i := by
  intro i hi
  unfold snoc
  split
  · rfl
  · rw [show n = i by omega]

/-- append of one int onto a row of the call's own. -/
theorem append_int (W : World) {ops : Array Oper} {rest : List Oper} {o : Oper} {a : Act} {Q : Exit → Act → World → Prop} (hg : o.guard = none) (s x : Operand)
    (hop : o.op = Op.call { callee := Callee.builtin Builtin.append, args := #[s, x], argTypes := #[23, 23] }) {base : Nat} {A : Option Addr} {n c : Nat} {f : Nat → Int}
    (hs : a.eval s = .slice A n c) (hr : Row W base A n c f) (g : Nat) (X : Int) (hx : a.eval x = .slice (some ⟨g, 0, none⟩) 1 1) (hcell : W.cell? ⟨g, 0, none⟩ = some (.int .i64 X))
    (hn : n ≤ 1000000000) (hb : base ≤ W.heap.size)
    (hK : ∀ A' c' w', Row w' base A' (n + 1) c' (snoc f n X) → W.grownBy w' (Value.slice A n c).ownBlock → wpList Tryz.prog ops Q rest (a.put o.dst (.slice A' (n + 1 : Nat) c')) w') : wpList Tryz.prog ops Q (o :: rest) a W := by
  obtain ⟨i0, hi, hz0, hz1, hz2⟩ := info_parts Tryz.infoInt
  refine wpList_append_own W hg s x 23 hop base 3 i0 (.int .i64 0) 1 8 Tryz.underlying23 hi hz0 hz1 hz2 rfl (by decide) _ _ _ hs hr ⟨g, 0, none⟩ 1 1 [.int .i64 X] hx rfl ?_ ?_ (by unfold maxLen; omega) (by omega) hb ?_
  · intro j u hj
    match j, hj with
    | 0, hj => simp at hj; subst hj; simpa [Addr.add] using hcell
  · intro u hu; simp at hu; subst hu; rfl
  · intro v' w' hown hgrow _
    obtain ⟨A', c', rfl⟩ := row_shape hown
    exact hK A' c' w' (by unfold Row; rw [ivals_snoc]; exact hown) hgrow

/-- append of one int, as a step of a region that draws its order. -/
theorem step_append_int (W : World) {ops : Array Oper} {o : Oper} {a : Act} {K : Act → World → Prop} {Q : Exit → Act → World → Prop} {E : Prop} (hg : o.guard = none) (s x : Operand)
    (hop : o.op = Op.call { callee := Callee.builtin Builtin.append, args := #[s, x], argTypes := #[23, 23] }) {base : Nat} {A : Option Addr} {n c : Nat} {f : Nat → Int}
    (hs : a.eval s = .slice A n c) (hr : Row W base A n c f) (g : Nat) (X : Int) (hx : a.eval x = .slice (some ⟨g, 0, none⟩) 1 1) (hcell : W.cell? ⟨g, 0, none⟩ = some (.int .i64 X))
    (hn : n ≤ 1000000000) (hb : base ≤ W.heap.size)
    (hK : ∀ A' c' w', Row w' base A' (n + 1) c' (snoc f n X) → W.grownBy w' (Value.slice A n c).ownBlock → K (a.put o.dst (.slice A' (n + 1 : Nat) c')) w') : if Region.wanted o (yielded ops a.tmps) = true then Oper.wp Tryz.prog o a W K Q else E := by
  obtain ⟨i0, hi, hz0, hz1, hz2⟩ := info_parts Tryz.infoInt
  rw [if_pos (show Region.wanted o (yielded ops a.tmps) = true by simp [Region.wanted, hg])]
  refine wp_append_own W s x 23 hop base 3 i0 (.int .i64 0) 1 8 Tryz.underlying23 hi hz0 hz1 hz2 rfl (by decide) _ _ _ hs hr ⟨g, 0, none⟩ 1 1 [.int .i64 X] hx rfl ?_ ?_ (by unfold maxLen; omega) (by omega) hb ?_
  · intro j u hj
    match j, hj with
    | 0, hj => simp at hj; subst hj; simpa [Addr.add] using hcell
  · intro u hu; simp at hu; subst hu; rfl
  · intro v' w' hown hgrow _
    obtain ⟨A', c', rfl⟩ := row_shape hown
    exact hK A' c' w' (by unfold Row; rw [ivals_snoc]; exact hown) hgrow

/-- append of a slice of ints onto a row of the call's own. -/
theorem append_ints (W : World) {ops : Array Oper} {rest : List Oper} {o : Oper} {a : Act} {Q : Exit → Act → World → Prop} (hg : o.guard = none) (s x : Operand)
    (hop : o.op = Op.call { callee := Callee.builtin Builtin.append, args := #[s, x], argTypes := #[23, 23] }) {base B : Nat} {A A2 : Option Addr} {n c m c2 : Nat} {f f2 : Nat → Int}
    (hs : a.eval s = .slice A n c) (hr : Row W base A n c f) (hx : a.eval x = .slice A2 m c2) (hr2 : Ints W B A2 m f2) (hc2 : A2 = none → c2 = 0)
    (hn : n + m ≤ 1000000000) (hb : base ≤ W.heap.size)
    (hK : ∀ A' c' w', Row w' base A' (n + m) c' (catF f n f2) → W.grownBy w' (Value.slice A n c).ownBlock → wpList Tryz.prog ops Q rest (a.put o.dst (.slice A' (n + m : Nat) c')) w') : wpList Tryz.prog ops Q (o :: rest) a W := by
  obtain ⟨i0, hi, hz0, hz1, hz2⟩ := info_parts Tryz.infoInt
  cases A2 with
  | none =>
    have hm : m = 0 := by
      rcases Nat.eq_zero_or_pos m with h0 | h0
      · exact h0
      · obtain ⟨b, off, h, _⟩ := hr2 h0
        cases h
    subst hm
    rw [hc2 rfl] at hx
    refine wpList_append_own_none hg s x 23 hop base 3 i0 1 Tryz.underlying23 hi _ _ _ hs hr hx ?_
    exact hK A c W (hr.congr fun i hi => (catF_lo hi).symm) (World.grownBy.refl _ _)
  | some ad =>
    refine wpList_append_own W hg s x 23 hop base 3 i0 (.int .i64 0) 1 8 Tryz.underlying23 hi hz0 hz1 hz2 rfl (by decide) _ _ _ hs hr ad m c2 (ivals f2 m) hx (by rw [ivals_length, Nat.mul_one]) ?_ ivals_one (by unfold maxLen; omega) (by omega) hb ?_
    · intro j u hj
      have hjm : j < m := by
        rcases Nat.lt_or_ge j m with h | h
        · exact h
        · rw [List.getElem?_eq_none (by rw [ivals_length]; omega)] at hj; cases hj
      obtain ⟨b, off, h, _, hc⟩ := hr2 (by omega)
      rw [ivals_get hjm] at hj
      cases h
      rw [← hj, Addr.add_lit]
      exact hc j hjm
    · intro v' w' hown hgrow _
      obtain ⟨A', c', rfl⟩ := row_shape hown
      exact hK A' c' w' (by unfold Row; rw [ivals_cat]; exact hown) hgrow

/-- append of a slice of ints, as a step of a region that draws its order. -/
theorem step_append_ints (W : World) {ops : Array Oper} {o : Oper} {a : Act} {K : Act → World → Prop} {Q : Exit → Act → World → Prop} {E : Prop} (hg : o.guard = none) (s x : Operand)
    (hop : o.op = Op.call { callee := Callee.builtin Builtin.append, args := #[s, x], argTypes := #[23, 23] }) {base B : Nat} {A A2 : Option Addr} {n c m c2 : Nat} {f f2 : Nat → Int}
    (hs : a.eval s = .slice A n c) (hr : Row W base A n c f) (hx : a.eval x = .slice A2 m c2) (hr2 : Ints W B A2 m f2) (hc2 : A2 = none → c2 = 0)
    (hn : n + m ≤ 1000000000) (hb : base ≤ W.heap.size)
    (hK : ∀ A' c' w', Row w' base A' (n + m) c' (catF f n f2) → W.grownBy w' (Value.slice A n c).ownBlock → K (a.put o.dst (.slice A' (n + m : Nat) c')) w') : if Region.wanted o (yielded ops a.tmps) = true then Oper.wp Tryz.prog o a W K Q else E := by
  rw [if_pos (show Region.wanted o (yielded ops a.tmps) = true by simp [Region.wanted, hg])]
  obtain ⟨i0, hi, hz0, hz1, hz2⟩ := info_parts Tryz.infoInt
  cases A2 with
  | none =>
    have hm : m = 0 := by
      rcases Nat.eq_zero_or_pos m with h0 | h0
      · exact h0
      · obtain ⟨b, off, h, _⟩ := hr2 h0
        cases h
    subst hm
    rw [hc2 rfl] at hx
    have hrun := run_append_owned_none (P := Tryz.prog) W base 23 o.type 3 i0 1 Tryz.underlying23 hi _ _ _ hr
    unfold Oper.wp
    simp [execOp, hop, resolve, invoke, builtin, hs, hx, hrun, Result.andThen]
    exact hK A c W (hr.congr fun i hi => (catF_lo hi).symm) (World.grownBy.refl _ _)
  | some ad =>
    refine wp_append_own W s x 23 hop base 3 i0 (.int .i64 0) 1 8 Tryz.underlying23 hi hz0 hz1 hz2 rfl (by decide) _ _ _ hs hr ad m c2 (ivals f2 m) hx (by rw [ivals_length, Nat.mul_one]) ?_ ivals_one (by unfold maxLen; omega) (by omega) hb ?_
    · intro j u hj
      have hjm : j < m := by
        rcases Nat.lt_or_ge j m with h | h
        · exact h
        · rw [List.getElem?_eq_none (by rw [ivals_length]; omega)] at hj; cases hj
      obtain ⟨b, off, h, _, hc⟩ := hr2 (by omega)
      rw [ivals_get hjm] at hj
      cases h
      rw [← hj, Addr.add_lit]
      exact hc j hjm
    · intro v' w' hown hgrow _
      obtain ⟨A', c', rfl⟩ := row_shape hown
      exact hK A' c' w' (by unfold Row; rw [ivals_cat]; exact hown) hgrow

theorem Ints.grown {w w' : World} {B : Nat} {A : Option Addr} {n : Nat} {f : Nat → Int} {row : Option Nat} (h : Ints w B A n f) (hg : w.grownBy w' row) (hB : B ≤ w.heap.size) (hr : ∀ b, row = some b → B ≤ b) : Ints w' B A n f :=
  h.keep fun p hp => World.cell?_of_block (hg.block p.block (by omega) (fun e => by have := hr _ e.symm; omega))
/-- Only the block of the slice (A, n) may have been written, and only if it is not empty; there may be new blocks. -/
def Wrote (w w' : World) (A : Option Addr) (n : Nat) : Prop := ∃ row, w.grownBy w' row ∧ ∀ b, row = some b → 0 < n ∧ A = some ⟨b, 0, none⟩
theorem Wrote.refl (w : World) (A : Option Addr) (n : Nat) : Wrote w w A n := ⟨none, World.grownBy.refl _ _, fun b h => by cases h⟩
theorem grownBy_weaken {w w' : World} (h : w.grownBy w' none) (row : Option Nat) : w.grownBy w' row := ⟨h.os, h.tape, h.output, h.size, fun k hk _ => h.block k hk (by simp)⟩
theorem Wrote.step {w w1 w2 : World} {b n : Nat} (h : Wrote w w1 (some ⟨b, 0, none⟩) n) (h' : w1.grownBy w2 (some b)) (hn : 0 < n) : Wrote w w2 (some ⟨b, 0, none⟩) n := by
  obtain ⟨row, hg, hr⟩ := h
  refine ⟨some b, ?_, fun b' e => ⟨hn, by cases e; rfl⟩⟩
  cases row with
  | none => exact (grownBy_weaken hg _).trans h'
  | some b0 =>
    have e := (hr b0 rfl).2
    have e2 : b = b0 := by simpa using e
    subst e2
    exact hg.trans h'
theorem Wrote.below {B : Nat} {a w w' : World} {A : Option Addr} {n : Nat} (h : Below B a w) (hw : Wrote w w' A n) (hB : B ≤ w.heap.size) (hA : 0 < n → ∀ b, A = some ⟨b, 0, none⟩ → B ≤ b) : Below B a w' := by
  obtain ⟨row, hg, hr⟩ := hw
  exact h.grown hg hB fun b e => hA (hr b e).1 b (hr b e).2
theorem Wrote.size {w w' : World} {A : Option Addr} {n : Nat} (hw : Wrote w w' A n) : w.heap.size ≤ w'.heap.size := by
  obtain ⟨row, hg, hr⟩ := hw
  exact hg.size
theorem Row.wrote {w w' : World} {base : Nat} {A A' : Option Addr} {n c n' : Nat} {f : Nat → Int} (h : Row w base A n c f) (hw : Wrote w w' A' n') (hA : 0 < n' → ∀ b, A' = some ⟨b, 0, none⟩ → b < base) : Row w' base A n c f := by
  obtain ⟨row, hg, hr⟩ := hw
  exact h.kept hg (.inr fun b e => .inl (hA (hr b e).1 b (hr b e).2))
theorem Ints.wrote {w w' : World} {B : Nat} {A A' : Option Addr} {n n' : Nat} {f : Nat → Int} (h : Ints w B A n f) (hw : Wrote w w' A' n') (hB : B ≤ w.heap.size) (hA : 0 < n' → ∀ b, A' = some ⟨b, 0, none⟩ → B ≤ b) : Ints w' B A n f := by
  obtain ⟨row, hg, hr⟩ := hw
  exact h.grown hg hB fun b e => hA (hr b e).1 b (hr b e).2
/-- Where a row lies. -/
theorem Row.lies {w : World} {base : Nat} {A : Option Addr} {n c : Nat} {f : Nat → Int} (h : Row w base A n c f) : 0 < n → ∀ b, A = some ⟨b, 0, none⟩ → base ≤ b ∧ b < w.heap.size := by
  intro hn b e
  obtain ⟨b', e', h1, h2⟩ := h.form hn
  rw [e] at e'
  have : b = b' := by simpa using e'
  subst this
  exact ⟨h1, h2⟩

/-- laws.markIntS: what it writes. -/
def markedI (k : Int) (i : Nat) : Int := k + i
/-- laws.heldIntS: what it returns. -/
def heldP (f : Nat → Int) (k : Int) (i : Nat) : Bool := f i == k + i
def heldI (f : Nat → Int) (n : Nat) (k : Int) : Int := if allB (heldP f k) n = true then k + n else -1
theorem heldI_marked (n : Nat) (k : Int) : heldI (markedI k) n k = k + n := by
  simp [heldI, allB_iff, heldP, markedI]
end Go.Proofs.YthkpikkjgggimaaGreatDoor

namespace Go.Proofs.YthkpikkjgggimaaGreatDoor
open Go.RowKit
set_option linter.unusedVariables false
set_option linter.unusedSimpArgs false

theorem heldIntS_any {w : World} {B : Nat} {A : Option Addr} {n c : Nat} {f : Nat → Int} (k0 : Int) (hn : n ≤ 9223372036854775806) (h0 : 0 ≤ k0) (h1 : k0 + n ≤ 9223372036854775806) (hs : Ints w B A n f) :
    Calls Tryz.prog 73 #[.slice A n c, .int .i64 k0] w fun e w' => e = .returned (.int .i64 (heldI f n k0)) ∧ w = w' := by
  go_enter Tryz.func73, Tryz.ntmps73
  go_wp2
  go_loop [1, 5] (fun s1 s5 => ∃ k : Nat, k ≤ n ∧ s5 = .int .i64 k ∧ s1 = .int .i64 (k0 + k) ∧ Hid (allB (heldP f k0) k = true)) (fun _ s5 => n - (intOf s5).toNat)
  case atStart => exact ⟨0, Nat.zero_le _, rfl, by simp, rfl⟩
  case round =>
    obtain ⟨k, hk, rfl, rfl, HK⟩ := hrel
    by_cases hlt : k < n
    · obtain ⟨b, off, rfl, _, hc⟩ := hs (by omega)
      have c0 := hc k hlt
      clear hc hs
      by_cases h2 : f k = k0 + k
      · have HN := Lib.hid (show heldP f k0 k = true by simp [heldP, h2])
        have he : (f k == k0 + k) = true := by simp [h2]
        clear h2
        go_wp2
        go_round
        case rel => exact ⟨k + 1, by omega, by go_num, by go_num, allB_succ HK.out HN.out⟩
        case measure => simp [intOf]; omega
      · have HN := Lib.hid (show heldP f k0 k = false by simp [heldP, h2])
        have he : (f k == k0 + k) = false := by simp [h2]
        clear h2
        go_wp2
        go_ret
        exact ⟨ret_int (by simp [heldI, allB_no hlt HN.out]), rfl⟩
    · obtain rfl : k = n := by omega
      go_wp2
      go_ret
      exact ⟨ret_int (by simp [heldI, HK.out]), rfl⟩

theorem markIntS_any {w : World} {base : Nat} {A : Option Addr} {n c : Nat} {f : Nat → Int} (k0 : Int) (h0 : 0 ≤ k0) (h1 : k0 + n ≤ 9223372036854775806) (hs : Row w base A n c f) :
    Calls Tryz.prog 71 #[.slice A n c, .int .i64 k0] w fun e w' => e = .returned (.int .i64 (k0 + n)) ∧ Row w' base A n c (markedI k0) ∧ Wrote w w' A n := by
  go_enter Tryz.func71, Tryz.ntmps71
  go_wp2
  go_loopw [1, 5] (fun s1 s5 wr => ∃ k : Nat, k ≤ n ∧ s5 = .int .i64 k ∧ s1 = .int .i64 (k0 + k) ∧ Row wr base A n c (fun i => if i < k then markedI k0 i else f i) ∧ Wrote w wr A n) (fun _ s5 _ => n - (intOf s5).toNat)
  case atStart => exact ⟨0, Nat.zero_le _, rfl, by simp, hs.congr fun i hi => by simp, Wrote.refl _ _ _⟩
  case round =>
    obtain ⟨k, hk, rfl, rfl, hr, hg⟩ := hrel
    by_cases hlt : k < n
    · obtain ⟨b, rfl, _, _⟩ := hr.form (by omega)
      have c0 := hr.cell hlt
      have c1 := hr.frozen k
      have hnext := hr.set (k := k) (k0 + k)
      have hr2 := hnext.1.congr (g := fun i => if i < k + 1 then markedI k0 i else f i) (fun i hi => by
        unfold upd markedI
        by_cases e : i = k
        · subst e; simp
        · have : (i < k + 1) = (i < k) := by simp; omega
          simp [e, this])
      have hg2 := hg.step hnext.2 (by omega)
      have HR := Lib.hid hr2
      have HG := Lib.hid hg2
      clear hr hg hnext hr2 hg2 hs
      go_wp2
      go_roundw
      case rel => exact ⟨k + 1, by omega, by go_num, by go_num, HR.out, HG.out⟩
      case measure => simp [intOf]; omega
    · obtain rfl : k = n := by omega
      have hr2 := hr.congr (g := markedI k0) (fun i hi => by simp [hi])
      clear hr
      go_wp2
      go_ret
      exact ⟨rfl, hr2, hg⟩

theorem toIntS_any {w : World} {B : Nat} {A : Option Addr} {n c : Nat} {f : Nat → Int} (hn : n ≤ 17592186044415) (hB : B ≤ w.heap.size) (hs : Ints w B A n f) :
    Calls Tryz.prog 63 #[.slice A n c] w fun e w' => ∃ A' c', e = .returned (.slice A' n c') ∧ Row w' w.heap.size A' n c' f ∧ Below w.heap.size w w' := by
  obtain ⟨i0, hi, hz0, hz1, hz2⟩ := info_parts Tryz.infoInt
  go_enter Tryz.func63, Tryz.ntmps63
  go_wp2_with (at_make; refine wpList_make_full _ rfl _ _ 23 rfl w.heap.size 3 i0 (.int .i64 0) 1 Tryz.underlying23 hi hz0 hz1 _ _ _ _ n rfl rfl rfl rfl (by rw [hz2]; omega) (by unfold maxLen; omega) (Nat.le_refl _) ?_; intro w1 hown hgrow)
  have hrow0 : Row w1 w.heap.size (some ⟨w.heap.size, 0, none⟩) n n (fun _ => 0) := by
    unfold Row
    rw [← ivals_made]
    exact hown
  have hb0 := (Below.refl w.heap.size w).grown hgrow (Nat.le_refl _) (by intro k hk; cases hk)
  clear hown hgrow hi hz0 hz1 hz2
  have HS := Lib.hid hs
  clear hs
  go_wp2
  go_loopw [4] (fun s4 wr => ∃ k : Nat, k ≤ n ∧ s4 = .int .i64 k ∧ Row wr w.heap.size (some ⟨w.heap.size, 0, none⟩) n n (fun i => if i < k then f i else 0) ∧ Below w.heap.size w wr) (fun s4 _ => n - (intOf s4).toNat)
  case atStart => exact ⟨0, Nat.zero_le _, rfl, hrow0.congr fun i hi => by simp, hb0⟩
  case round =>
    obtain ⟨k, hk, rfl, hr, hb⟩ := hrel
    clear hrow0 hb0
    by_cases hlt : k < n
    · obtain ⟨b, off, rfl, hbB, hc⟩ := HS.out (by omega)
      have c0 := (hb.cell (p := ⟨b, off + k, none⟩) (by simp; omega)).trans (hc k hlt)
      have c1 := hr.cell hlt
      have c2 := hr.frozen k
      have hnext := hr.set (k := k) (f k)
      have hr2 := hnext.1.congr (g := fun i => if i < k + 1 then f i else 0) (fun i hi => by
        unfold upd
        by_cases e : i = k
        · subst e; simp
        · have : (i < k + 1) = (i < k) := by simp; omega
          simp [e, this])
      have HR := Lib.hid hr2
      have HB := Lib.hid (hb.setCell (p := ⟨w.heap.size, k, none⟩) (Nat.le_refl _) (.int .i64 (f k)))
      clear hr hb hnext hr2 HS hc
      go_wp2
      go_roundw
      case rel => exact ⟨k + 1, by omega, by go_num, HR.out, HB.out⟩
      case measure => simp [intOf]; omega
    · obtain rfl : k = n := by omega
      have HR := Lib.hid (hr.congr (g := f) (fun i hi => by simp [hi]))
      clear hr
      go_wp2
      go_ret
      exact ⟨_, _, rfl, HR.out, hb⟩
end Go.Proofs.YthkpikkjgggimaaGreatDoor

namespace Go.Proofs.YthkpikkjgggimaaGreatDoor
open Go.RowKit
set_option linter.unusedVariables false
set_option linter.unusedSimpArgs false

theorem floors_no {f : Nat → Int} {n : Nat} (h : ¬ (1 ≤ n ∧ n ≤ 8 ∧ f 0 = 0)) : floorsB f n = false := by
  rw [Bool.eq_false_iff]; intro h'
  obtain ⟨a, b, c, _⟩ := floorsB_iff.1 h'
  exact h ⟨a, b, c⟩
theorem floors_no2 {f : Nat → Int} {n k : Nat} (h0 : 0 < k) (hk : k < n) (h : f k ≤ f (k - 1)) : floorsB f n = false := by
  rw [Bool.eq_false_iff]; intro h'
  have := (floorsB_iff.1 h').2.2.2.1 k h0 hk
  omega
theorem floors_end {f : Nat → Int} {n : Nat} (h1 : 1 ≤ n) (h2 : n ≤ 8) (h3 : f 0 = 0) (h4 : allB (floorP f) n = true) : floorsB f n = decide (f (n - 1) ≤ 60) := by
  simp [floorsB, h1, h2, h3, h4]

set_option maxHeartbeats 400000 in
theorem impl_FloorsValid {w : World} {B : Nat} {A : Option Addr} {n c : Nat} {f : Nat → Int} (hn : n ≤ 9223372036854775806) (hs : Ints w B A n f) :
    Calls Tryz.prog 92 #[.slice A n c] w fun e w' => e = .returned (.bool (floorsB f n)) ∧ Drew w w' := by
  by_cases h1 : 1 ≤ n
  · by_cases h2 : n ≤ 8
    · obtain ⟨b, off, rfl, _, hc⟩ := hs (by omega)
      have cz : w.cell? ⟨b, off, none⟩ = some (.int .i64 (f 0)) := hc 0 (by omega)
      by_cases h3 : f 0 = 0
      · have hz : (f 0 == 0) = true := by simp [h3]
        have H3 := Lib.hid h3
        have H1 := Lib.hid h1
        have k0 : ¬ ((n : Int) < 1) := by omega
        have k1 : ¬ (8 < (n : Int)) := by omega
        clear h3
        go_enter Tryz.func92, Tryz.ntmps92
        go_wp2
        go_loopw [3] (fun s3 wr => ∃ k : Nat, 1 ≤ k ∧ k ≤ n ∧ s3 = .int .i64 k ∧ Hid (allB (floorP f) k = true) ∧ Drew w wr) (fun s3 _ => n - (intOf s3).toNat)
        case atStart => exact ⟨1, Nat.le_refl _, h1, rfl, by simp [Hid, allB, floorP], Drew.refl _⟩
        case round =>
          obtain ⟨k, hk0, hk, rfl, HK, m, rfl⟩ := hrel
          by_cases hlt : k < n
          · have c0 := hc k hlt
            have c1 := hc (k - 1) (by omega)
            clear hc cz
            have j0 : (0 : Int) ≤ (k : Int) - 1 := by omega
            have j1 : (k : Int) < n := by omega
            by_cases h4 : f k ≤ f (k - 1)
            · have HN := Lib.hid (floors_no2 (by omega) hlt h4)
              go_wp2
              go_quiet (fail)
              go_wp2
              go_ret
              exact ⟨ret_bool HN.out.symm, by first | exact ⟨_, rfl⟩ | exact ⟨_, World.drewN_drewN _ _ _⟩⟩
            · have HN : Hid (floorP f k = true) := by simp [Hid, floorP]; omega
              go_wp2
              go_quiet (fail)
              go_wp2
              go_roundw
              case rel => exact ⟨k + 1, by omega, by omega, by go_num, allB_succ HK.out HN.out, by first | exact ⟨_, rfl⟩ | exact ⟨_, World.drewN_drewN _ _ _⟩⟩
              case measure => simp [intOf]; omega
          · obtain rfl : k = n := by omega
            have c0 := hc (k - 1) (by omega)
            have HN := Lib.hid (floors_end H1.out h2 H3.out HK.out)
            clear hc cz
            go_wp2
            go_ret
            exact ⟨ret_bool HN.out.symm, _, rfl⟩
      · have hz : (f 0 == 0) = false := by simp [h3]
        have HN := Lib.hid (floors_no (f := f) (n := n) (fun h => h3 h.2.2))
        have k0 : ¬ ((n : Int) < 1) := by omega
        have k1 : ¬ (8 < (n : Int)) := by omega
        clear h3 hc
        go_enter Tryz.func92, Tryz.ntmps92
        go_wp2
        go_ret
        exact ⟨ret_bool HN.out.symm, Drew.refl _⟩
    · have HN := Lib.hid (floors_no (f := f) (n := n) (fun h => h2 h.2.1))
      have k0 : ¬ ((n : Int) < 1) := by omega
      have k1 : 8 < (n : Int) := by omega
      clear h2
      go_enter Tryz.func92, Tryz.ntmps92
      go_wp2
      go_ret
      exact ⟨ret_bool HN.out.symm, Drew.refl _⟩
  · have HN := Lib.hid (floors_no (f := f) (n := n) (fun h => h1 h.1))
    have k0 : (n : Int) < 1 := by omega
    clear h1
    go_enter Tryz.func92, Tryz.ntmps92
    go_wp2
    go_ret
    exact ⟨ret_bool HN.out.symm, Drew.refl _⟩

theorem floorQ_no1 {f : Nat → Int} {k : Nat} (h : inB (f k) 0 60 = false) : floorQ f k = false := by simp [floorQ, h]
theorem floorQ_yes {f : Nat → Int} {k : Nat} (h : inB (f k) 0 60 = true) (h' : k = 0 ∨ f (k - 1) < f k) : floorQ f k = true := by simp [floorQ, h, h']
theorem floorQ_no2 {f : Nat → Int} {k : Nat} (h0 : 0 < k) (h' : f k ≤ f (k - 1)) : floorQ f k = false := by
  simp only [floorQ, Bool.and_eq_false_iff, Bool.or_eq_false_iff, decide_eq_false_iff_not]
  exact .inr ⟨by omega, by omega⟩
theorem floorsQ_no {f : Nat → Int} {n k : Nat} (hk : k < n) (h : floorQ f k = false) : floorsB f n = false := by rw [floorsB_spec, allB_no hk h]; simp
theorem floorsQ_end {f : Nat → Int} {n : Nat} (h1 : 1 ≤ n) (h2 : n ≤ 8) (h4 : allB (floorQ f) n = true) : floorsB f n = decide (f 0 = 0) := by rw [floorsB_spec]; simp [h1, h2, h4]

set_option maxHeartbeats 800000 in
theorem spec_FloorsValid {w : World} {B : Nat} {A : Option Addr} {n c : Nat} {f : Nat → Int} (hn : n ≤ 9223372036854775806) (hs : Ints w B A n f) :
    Calls Tryz.prog 89 #[.slice A n c] w fun e w' => e = .returned (.bool (floorsB f n)) ∧ Drew w w' := by
  go_enter Tryz.func89, Tryz.ntmps89
  go_wp2
  go_loopw [3] (fun s3 wr => ∃ k : Nat, k ≤ n ∧ s3 = .int .i64 k ∧ Hid (allB (floorQ f) k = true) ∧ Drew w wr) (fun s3 _ => n - (intOf s3).toNat)
  case atStart => exact ⟨0, Nat.zero_le _, rfl, rfl, Drew.refl _⟩
  case round =>
    obtain ⟨k, hk, rfl, HK, m, rfl⟩ := hrel
    by_cases hlt : k < n
    · obtain ⟨b, off, rfl, _, hc⟩ := hs (by omega)
      have c0 := hc k hlt
      have c1 := hc (k - 1) (by omega)
      clear hc hs
      cases hp : inB (f k) 0 60
      · have HN := Lib.hid (floorsQ_no (f := f) hlt (floorQ_no1 hp))
        go_wp2
        go_quiet ((go_at_call 40; exact quiet_add_left (l1In_any _ _ _ _)))
        go_wp2
        go_ret
        exact ⟨ret_bool HN.out.symm, by first | exact ⟨_, rfl⟩ | exact ⟨_, World.drewN_drewN _ _ _⟩⟩
      · by_cases h0 : 0 < k
        · have hd : decide ((0 : Int) < (k : Int)) = true := by simp; omega
          by_cases h1 : f (k - 1) < f k
          · have HN := Lib.hid (floorQ_yes hp (.inr h1))
            go_wp2
            go_quiet ((go_at_call 40; exact quiet_add_left (l1In_any _ _ _ _)))
            go_wp2
            go_roundw
            case rel => exact ⟨k + 1, by omega, by go_num, allB_succ HK.out HN.out, by first | exact ⟨_, rfl⟩ | exact ⟨_, World.drewN_drewN _ _ _⟩⟩
            case measure => simp [intOf]; omega
          · have HN := Lib.hid (floorsQ_no (f := f) hlt (floorQ_no2 h0 (by omega)))
            go_wp2
            go_quiet ((go_at_call 40; exact quiet_add_left (l1In_any _ _ _ _)))
            go_wp2
            go_ret
            exact ⟨ret_bool HN.out.symm, by first | exact ⟨_, rfl⟩ | exact ⟨_, World.drewN_drewN _ _ _⟩⟩
        · have hd : decide ((0 : Int) < (k : Int)) = false := by simp; omega
          have HN := Lib.hid (floorQ_yes hp (.inl (by omega)))
          go_wp2
          go_quiet ((go_at_call 40; exact quiet_add_left (l1In_any _ _ _ _)))
          go_wp2
          go_roundw
          case rel => exact ⟨k + 1, by omega, by go_num, allB_succ HK.out HN.out, by first | exact ⟨_, rfl⟩ | exact ⟨_, World.drewN_drewN _ _ _⟩⟩
          case measure => simp [intOf]; omega
    · obtain rfl : k = n := by omega
      cases hl : inB (k : Int) 1 8
      · have HN : Hid (floorsB f k = false) := floors_no (by have := inB_no.1 hl; omega)
        go_wp2_with (go_at_call 40; refine (l1In_any _ _ _ _).mono ?_; rintro e w' ⟨rfl, rfl⟩)
        go_ret
        exact ⟨ret_bool HN.out.symm, _, rfl⟩
      · obtain ⟨q1, q2⟩ := inB_iff.1 hl
        obtain ⟨b, off, rfl, _, hc⟩ := hs (by omega)
        have cz : w.cell? ⟨b, off, none⟩ = some (.int .i64 (f 0)) := hc 0 (by omega)
        have HN := Lib.hid (floorsQ_end (f := f) (n := k) (by omega) (by omega) HK.out)
        clear hc
        go_wp2_with (go_at_call 40; refine (l1In_any _ _ _ _).mono ?_; rintro e w' ⟨rfl, rfl⟩)
        go_ret
        exact ⟨ret_bool (by rw [HN.out, Bool.eq_iff_iff]; simp), _, rfl⟩

theorem impl_FloorAt {w : World} {B : Nat} {A : Option Addr} {n c : Nat} {f : Nat → Int} (a : Int) (hn : n ≤ 9223372036854775806) (hs : Ints w B A n f) :
    Calls Tryz.prog 42 #[.slice A n c, .int .i64 a] w fun e w' => e = .returned (.int .i64 (floorAtOf f n a)) ∧ Drew w w' := by
  cases hv : floorsB f n
  · have HN := Lib.hid (floorAt_no (a := a) hv)
    go_enter Tryz.func42, Tryz.ntmps42
    go_wp2_with (go_at_call 92; refine (impl_FloorsValid hn hs).mono ?_; rintro e w' ⟨rfl, m, rfl⟩)
    go_ret
    exact ⟨ret_int HN.out.symm, _, rfl⟩
  · have HV := Lib.hid hv
    go_enter Tryz.func42, Tryz.ntmps42
    go_wp2_with (go_at_call 92; refine (impl_FloorsValid hn hs).mono ?_; rintro e w' ⟨rfl, m, rfl⟩)
    clear hv
    go_loop [12] (fun s12 => ∃ k : Nat, k ≤ n ∧ s12 = .int .i64 k ∧ Hid (∀ i, i < k → heightP f a i = false)) (fun s12 => n - (intOf s12).toNat)
    case atStart => exact ⟨0, Nat.zero_le _, rfl, fun i hi => absurd hi (by omega)⟩
    case round =>
      obtain ⟨k, hk, rfl, HK⟩ := hrel
      by_cases hlt : k < n
      · obtain ⟨b, off, rfl, _, hc⟩ := hs (by omega)
        have c0 := hc k hlt
        clear hc hs
        cases he : (f k == a)
        · have HN : Hid (∀ i, i < k + 1 → heightP f a i = false) := fun i hi => by
            by_cases e : i = k
            · subst e; exact he
            · exact HK.out i (by omega)
          go_wp2
          go_round
          case rel => exact ⟨k + 1, by omega, by go_num, HN.out⟩
          case measure => simp [intOf]; omega
        · have HN := Lib.hid (floorAt_hit HV.out hlt he HK.out)
          go_wp2
          go_ret
          exact ⟨ret_int HN.out.symm, _, rfl⟩
      · obtain rfl : k = n := by omega
        have HN := Lib.hid (floorAt_none HK.out)
        go_wp2
        go_ret
        exact ⟨ret_int HN.out.symm, _, rfl⟩
end Go.Proofs.YthkpikkjgggimaaGreatDoor
