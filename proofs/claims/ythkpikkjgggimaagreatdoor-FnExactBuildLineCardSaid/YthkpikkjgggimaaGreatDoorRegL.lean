/-
  What the lines' answers need: strings.Cut, a region in which a building is made and stored and a text is asked. No claim stands here.
-/
import Derived.Test.YthkpikkjgggimaaGreatDoorLineM
import Derived.Test.YthkpikkjgggimaaGreatDoorRest2
import Derived.Test.YthkpikkjgggimaaGreatDoorAsk2
import Derived.Test.YthkpikkjgggimaaGreatDoorTick3
namespace Go.Proofs.YthkpikkjgggimaaGreatDoor
open Go.RowKit
set_option linter.unusedVariables false
set_option linter.unusedSimpArgs false

theorem code_at {P : Program} {c : Code} {Q : Exit → Act → World → Prop} {a : Act} {W W' : World} (h : W = W') (hc : Code.wp P c Q a W) : Code.wp P c Q a W' := by
  subst h; exact hc
theorem cut_small (s : ByteArray) : (cutW s).size ≤ s.size ∧ (cutR s).size ≤ s.size := by
  have hl : s.data.toList.length = s.size := by simp
  unfold cutW cutR
  rcases cut_cases s.data.toList with ⟨_, h2⟩ | ⟨p, r, h1, _, h3⟩
  · rw [h2, size_mk, size_mk]
    exact ⟨by omega, Nat.zero_le _⟩
  · rw [h3, size_mk, size_mk]
    have hl2 := congrArg List.length h1
    rw [hl, List.length_append, List.length_cons] at hl2
    show p.length ≤ s.size ∧ r.length ≤ s.size
    omega
theorem Cut_any (s : ByteArray) (hs : s.size ≤ 1048576) {w : World} (h : Here w) :
    Calls Tryz.prog 47 #[.string s, .string ⟨#[32]⟩] w fun e w' => e = .returned (.tuple #[.string (cutW s), .string (cutR s), .bool (cutOk s)]) ∧ Below w.heap.size w w' := by
  refine (Tryz.strings_Cut_shaped s ⟨#[32]⟩ w h.s (by omega)).mono ?_
  rintro e w' ⟨rfl, n, rfl⟩
  exact ⟨rfl, below_drewN (Below.refl _ _) n⟩

theorem wordN_range (s : ByteArray) : 0 ≤ wordN s ∧ wordN s ≤ 999 := by
  unfold wordN
  split
  · rename_i h
    simp only [wordOk, Bool.and_eq_true, decide_eq_true_eq] at h
    have := numTo_1000 (k := s.size) h.1.1.2 h.2
    omega
  · omega
/-- What a line leaves. -/
def LinePost (b : Bld) (s : ByteArray) (w : World) (e : Ending) (w' : World) : Prop :=
  ∃ v', e = .returned (.tuple #[bval v' (b.lined s), .string ⟨(b.says s).toArray⟩]) ∧ OwnB w' w.heap.size v' (b.lined s) ∧ Below w.heap.size w w'

/-- The frame of the region: the building's box, the result's box. -/
structure LnG (w : World) (g0 g1 : Nat) (xs : Array Value) (K : World → Prop) (W : World) : Prop where
  x0 : Bx W g0 xs
  x1 : ∃ a0 a1 a2 a3 a4 a5 a6 a7 a8 a9 a10 : Value, Bx W g1 #[a0, a1, a2, a3, a4, a5, a6, a7, a8, a9, a10]
  k : K W
  b : Below w.heap.size w W
  hh : Here W
section
variable {w W W' : World} {g0 g1 base : Nat} {xs : Array Value} {K : World → Prop}
theorem LnG.below (h : LnG w g0 g1 xs K W) (hK : ∀ U U', Below U.heap.size U U' → K U → K U') (hb : Below W.heap.size W W') : LnG w g0 g1 xs K W' := by
  obtain ⟨a0, a1, a2, a3, a4, a5, a6, a7, a8, a9, a10, h1⟩ := h.x1
  exact ⟨h.x0.below hb h.x0.lt, ⟨_, _, _, _, _, _, _, _, _, _, _, h1.below hb h1.lt⟩, hK _ _ hb h.k, h.b.trans (hb.mono h.b.size), h.hh.below hb⟩
theorem LnG.drewN (h : LnG w g0 g1 xs K W) (hK : ∀ U U', Below U.heap.size U U' → K U → K U') (n : Nat) : LnG w g0 g1 xs K (W.drewN n) := h.below hK (below_drewN (Below.refl _ _) n)
theorem Here.sets (h : Here w) (hb : Below w.heap.size w W) (g : Nat) (hg : w.heap.size ≤ g) (v : Bv) (b : Bld) : Here (sets W (putL g v b)) :=
  h.below (sets_below _ hb (fun q hq => by rw [putL_block q hq]; exact hg))
theorem LnG.stored (h0 : Here w) (h : LnG w g0 g1 xs K W) (hK : ∀ U v b, K U → K (sets U (putL g1 v b))) (hne : g0 ≠ g1) (hg : w.heap.size ≤ g1) (v : Bv) (b : Bld) :
    LnG w g0 g1 xs K (sets W (putL g1 v b)) ∧ Bx (sets W (putL g1 v b)) g1 (bcells v b) := by
  obtain ⟨a0, a1, a2, a3, a4, a5, a6, a7, a8, a9, a10, h1⟩ := h.x1
  have hb := sets_below (putL g1 v b) h.b (fun q hq => by rw [putL_block q hq]; exact hg)
  have hx := h1.put v b
  exact ⟨⟨sets_bx _ h.x0 (fun q hq => by rw [putL_block q hq]; exact Ne.symm hne), ⟨_, _, _, _, _, _, _, _, _, _, _, hx⟩, hK _ v b h.k, hb, h0.below hb⟩, hx⟩
theorem own_sets {v v' : Bv} {b b' : Bld} (h : OwnB W base v b) (hg : g1 < base) : OwnB (sets W (putL g1 v' b')) base v b := sets_own _ h (fun q hq => by rw [putL_block q hq]; exact hg)
end

/-- What the operations of the region leave: a building is made from the one in the box (m tells whether), a number or a text is asked, a text is made. -/
def LnR (base g1 : Nat) (vb : Value) (b' : Bld) (x : Value) (tx : ByteArray) : Nat → Value → World → Prop
  | 0, v, _ => v = vb
  | 1, v, W => ∃ v', v = bval v' b' ∧ OwnB W base v' b'
  | 2, v, _ => v = vb
  | 3, v, _ => v = x
  | 4, v, _ => v = .string tx
  | 5, _, W => ∃ v', Bx W g1 (bcells v' b') ∧ OwnB W base v' b'
  | 6, v, _ => v = .string tx
  | _, _, _ => True
theorem LnR.below {base g1 : Nat} {vb x : Value} {b' : Bld} {tx : ByteArray} {W W' : World} (hb : Below W.heap.size W W') : ∀ j v, LnR base g1 vb b' x tx j v W → LnR base g1 vb b' x tx j v W' := by
  intro j v h
  unfold LnR at h ⊢
  split at h
  all_goals first
    | with_reducible exact h
    | (obtain ⟨v', h1, h2⟩ := h; with_reducible exact ⟨v', Bx.below h1 hb (Bx.lt h1), ownB_below h2 hb⟩)
    | (obtain ⟨v', h1, h2⟩ := h; with_reducible exact ⟨v', h1, ownB_below h2 hb⟩)
theorem LnR.stored {base g1 : Nat} {vb x : Value} {b' : Bld} {tx : ByteArray} {W : World} (hg : g1 < base) (v0 : Bv) (b0 : Bld) : ∀ j v, j ≠ 5 → LnR base g1 vb b' x tx j v W → LnR base g1 vb b' x tx j v (sets W (putL g1 v0 b0)) := by
  intro j v hj h
  unfold LnR at h ⊢
  split at h
  all_goals first
    | with_reducible exact h
    | (obtain ⟨v', h1, h2⟩ := h; with_reducible exact ⟨v', h1, own_sets h2 hg⟩)
    | exact absurd rfl hj

/-- The same for a region in which the building stays. -/
def LnS (g1 : Nat) (vb : Value) (cs : Array Value) (s tx : ByteArray) : Nat → Value → World → Prop
  | 0, v, _ => v = vb
  | 1, v, _ => v = vb
  | 2, v, _ => v = .string s
  | 3, v, _ => v = .string tx
  | 4, _, W => Bx W g1 cs
  | 5, v, _ => v = .string tx
  | _, _, _ => True
theorem LnS.below {g1 : Nat} {vb : Value} {cs : Array Value} {s tx : ByteArray} {W W' : World} (hb : Below W.heap.size W W') : ∀ j v, LnS g1 vb cs s tx j v W → LnS g1 vb cs s tx j v W' := by
  intro j v h
  unfold LnS at h ⊢
  split at h
  all_goals first
    | with_reducible exact h
    | with_reducible exact Bx.below h hb (Bx.lt h)
theorem LnS.stored {g1 : Nat} {vb : Value} {cs : Array Value} {s tx : ByteArray} {W : World} (v0 : Bv) (b0 : Bld) : ∀ j v, j ≠ 4 → LnS g1 vb cs s tx j v W → LnS g1 vb cs s tx j v (sets W (putL g1 v0 b0)) := by
  intro j v hj h
  unfold LnS at h ⊢
  split at h
  all_goals first
    | with_reducible exact h
    | exact absurd rfl hj
end Go.Proofs.YthkpikkjgggimaaGreatDoor
