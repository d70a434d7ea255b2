/-
  The law FnBuildRun: the walk. No claim stands here.
-/
import Derived.Test.YtnbjibkbjdbadaaLB
import Derived.Test.YtnbjibkbjdbadaaDrawJ
import Derived.Test.YtnbjibkbjdbadaaVisM
import Derived.Test.YtnbjibkbjdbadaaRun2
import Derived.Deep.RegionHeld3
namespace Go.Proofs.Ytnbjibkbjdbadaa
open Go.RowKit
set_option linter.unusedVariables false
set_option linter.unusedSimpArgs false

/-! ### in plain Lean -/
theorem runN_add (b : Bld) (d : Nat → Int × Int × Int) (h : Nat) : ∀ m, (b.runN d h).runN (fun i => d (h + i)) m = b.runN d (h + m) := by
  intro m
  induction m with
  | zero => rfl
  | succ m ih => show ((b.runN d h).runN (fun i => d (h + i)) m).deed (d (h + m)) = _; rw [ih]; rfl
theorem tick_frame (b : Bld) (bl : Bool) (h : b.Ok) : (b.tick bl).f = b.f ∧ (b.tick bl).n = b.n ∧ (((b.tick bl).pos = b.pos ∧ (b.tick bl).sp = b.sp) ∨ ((b.tick bl).gap = 0 ∧ b.gap = 0)) := by
  obtain ⟨f1, f2⟩ := tick_floors b bl
  refine ⟨f1, f2, ?_⟩
  have hd := doorB_iff.1 h.door
  by_cases hg : 0 < b.gap ∨ b.op = true
  · rw [tick_open hg]; exact .inl ⟨rfl, rfl⟩
  · by_cases h1 : 0 ≤ b.fl
    · by_cases h2 : b.stand = b.fl
      · rw [tick_serve hg h1 h2]; exact .inl ⟨rfl, rfl⟩
      · rw [tick_move hg h1 h2]
        right
        exact ⟨show b.gap = 0 by omega, by omega⟩
    · rw [tick_look hg h1]; unfold Bld.look; split <;> exact .inl ⟨rfl, rfl⟩
theorem deed_frame {b : Bld} (h : b.Ok) (x : Int × Int × Int) : (b.deed x).f = b.f ∧ (b.deed x).n = b.n ∧ (((b.deed x).pos = b.pos ∧ (b.deed x).sp = b.sp) ∨ ((b.deed x).gap = 0 ∧ b.gap = 0)) := by
  have hv := valid_iff.2 h
  unfold Bld.deed Bld.ticked Bld.called
  rw [if_pos hv, if_pos hv, if_pos hv]
  split
  · exact tick_frame b _ h
  · split
    · exact tick_frame b _ h
    · split
      · exact ⟨rfl, rfl, .inl ⟨rfl, rfl⟩⟩
      · exact ⟨rfl, rfl, .inl ⟨rfl, rfl⟩⟩
theorem runN_frame {b : Bld} (h : b.Ok) (d : Nat → Int × Int × Int) : ∀ k, (b.runN d k).f = b.f ∧ (b.runN d k).n = b.n := by
  intro k
  induction k with
  | zero => exact ⟨rfl, rfl⟩
  | succ k ih => obtain ⟨a1, a2, _⟩ := deed_frame (runN_ok h d k) (d k); exact ⟨a1.trans ih.1, a2.trans ih.2⟩
/-- What the law FnBuildRun asks of one deed. -/
theorem run_says {b : Bld} (h : b.Ok) (d : Nat → Int × Int × Int) (k : Nat) :
    (((b.runN d (k + 1)).pos = (b.runN d k).pos ∧ (b.runN d (k + 1)).sp = (b.runN d k).sp) ∨ ((b.runN d (k + 1)).gap = 0 ∧ (b.runN d k).gap = 0)) ∧ (0 < (b.runN d (k + 1)).gap → 0 ≤ floorAtOf b.f b.n (b.runN d (k + 1)).pos) := by
  obtain ⟨a1, a2, a3⟩ := deed_frame (runN_ok h d k) (d k)
  refine ⟨a3, fun hg => ?_⟩
  have hok := runN_ok h d (k + 1)
  obtain ⟨f1, f2⟩ := runN_frame h d (k + 1)
  have hst : 0 ≤ (b.runN d (k + 1)).stand := by rcases hok.shut with h1 | h1 <;> omega
  have hs := (stand_at hst).1
  unfold Bld.stand standF at hst
  rw [if_pos hs, f1, f2] at hst
  exact hst
theorem ran_one {b : Bld} (h : b.Ok) (d : Nat → Int × Int × Int) (k : Nat) (d' : Nat → Int × Int × Int) (hd : d' 0 = d k) : (b.runN d k).ran d' 1 = b.runN d (k + 1) := by
  rw [ran_yes (valid_iff.2 (runN_ok h d k))]
  show (b.runN d k).deed (d' 0) = _
  rw [hd]; rfl

/-! ### one deed in the law's loop -/
theorem Deeds.part {w : World} {B a n k m : Nat} {d : Nat → Int × Int × Int} (h : Deeds w B (some ⟨a, 0, none⟩) n d) (hk : k + m ≤ n) : Deeds w B (some ⟨a, k * 3, none⟩) m (fun i => d (k + i)) := by
  intro hm
  obtain ⟨b, off, hA, hb, hc⟩ := h (by omega)
  cases hA
  refine ⟨a, k * 3, rfl, hb, fun i hi => ?_⟩
  have := hc (k + i) (by omega)
  rw [show k * 3 + i * 3 = 0 + (k + i) * 3 by omega]
  exact this
def DeedLR (base a n c k : Nat) (v : Bv) (b bn : Bld) : Nat → Value → World → Prop
  | 0, u, _ => u = bval v b
  | 1, u, _ => u = .slice (some ⟨a, 0, none⟩) n c
  | 2, u, _ => u = .int .i64 k
  | 3, u, _ => u = .int .i64 k
  | 4, u, _ => u = .int .i64 ((k : Int) + 1)
  | 5, u, _ => u = .slice (some ⟨a, k * 3, none⟩) 1 (c - k)
  | 6, u, W => ∃ v2, u = bval v2 bn ∧ OwnB W base v2 bn
  | 7, u, W => ∃ g8 v0 b0, u = .pointer (some ⟨g8, 0, none⟩) ∧ base ≤ g8 ∧ BBox W g8 (bcells v0 b0)
  | 8, u, W => ∃ g8 v2, u = .pointer (some ⟨g8, 0, none⟩) ∧ base ≤ g8 ∧ BBox W g8 (bcells v2 bn) ∧ OwnB W base v2 bn
  | _, _, _ => True
theorem DeedLR.below {base a n c k : Nat} {v : Bv} {b bn : Bld} {W W' : World} (hb : Below W.heap.size W W') : ∀ j u, DeedLR base a n c k v b bn j u W → DeedLR base a n c k v b bn j u W' := by
  intro j u h
  unfold DeedLR at h ⊢
  split at h
  all_goals first
    | exact h
    | (obtain ⟨v2, h1, h2⟩ := h; exact ⟨v2, h1, ownB_below h2 hb⟩)
    | (obtain ⟨g8, v0, b0, h1, h2, h3⟩ := h; exact ⟨g8, v0, b0, h1, h2, h3.below hb⟩)
    | (obtain ⟨g8, v2, h1, h2, h3, h4⟩ := h; exact ⟨g8, v2, h1, h2, h3.below hb, ownB_below h4 hb⟩)
theorem DeedLR.stored {base a n c k g8 : Nat} {v v2 : Bv} {b bn : Bld} {W : World} {xs : Array Value} (hx : BBox W g8 xs) {v0 : Bv} {b0 : Bld} (hx0 : BBox W g8 (bcells v0 b0)) : ∀ j u, j ≠ 8 → DeedLR base a n c k v b bn j u W → DeedLR base a n c k v b bn j u (sets W (putL g8 v2 bn)) := by
  intro j u hj h
  have hg := sets_grown (w := W) (putL g8 v2 bn) putL_block
  have hso : ∀ v3, OwnB W base v3 bn → OwnB (sets W (putL g8 v2 bn)) base v3 bn := fun v3 h2 => sets_off _ h2 (fun q hq => by rw [putL_block q hq]; exact off_box hx h2)
  have hp := hx0.put v2 bn
  generalize sets W (putL g8 v2 bn) = W' at *
  unfold DeedLR at h ⊢
  split at h
  all_goals first
    | (with_reducible exact h)
    | exact absurd rfl hj
    | exact trivial
    | skip
  · obtain ⟨v3, h1, h2⟩ := h; exact ⟨v3, h1, hso v3 h2⟩
  · obtain ⟨g', v', b', h1, h2, h3⟩ := h
    by_cases e : g' = g8
    · subst e
      exact ⟨g', v2, bn, h1, h2, hp⟩
    · exact ⟨g', v', b', h1, h2, h3.kept hg e⟩
end Go.Proofs.Ytnbjibkbjdbadaa
