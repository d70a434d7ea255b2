/-
  Words and small lemmas for the walks of this seat: slices that read as functions, rows of the call's own. No claim stands here.
-/
import Derived.Test.YtailpiagjemhpaaRows
import Derived.Test.YtailpiagjemhpaaPlain
import Derived.WalkKit
import Derived.WalkSpells
import Derived.WalkLawsBesides
import Derived.BigQuiet
import Derived.Deep.LoopGhost
import Derived.Deep.Draws
import Derived.Lib.Hide
namespace Go.Proofs.Ytailpiagjemhpaa
open Go.RowKit

/-- A slice of ints reads as the numbers f 0 .. f (n - 1), and lies below block B. -/
def Ints (w : World) (B : Nat) (A : Option Addr) (n : Nat) (f : Nat → Int) : Prop :=
  0 < n → ∃ b off, A = some ⟨b, off, none⟩ ∧ b < B ∧ ∀ i, i < n → w.cell? ⟨b, off + i, none⟩ = some (.int .i64 (f i))

section
variable {w w' : World} {B B' : Nat} {A : Option Addr} {n : Nat} {f g : Nat → Int}
theorem Ints.keep (h : Ints w B A n f) (hk : ∀ p : Addr, p.block < B → w'.cell? p = w.cell? p) : Ints w' B A n f := by
  intro hn
  obtain ⟨b, off, hA, hb, hc⟩ := h hn
  exact ⟨b, off, hA, hb, fun i hi => (hk _ hb).trans (hc i hi)⟩
theorem Ints.more (h : Ints w B A n f) (hB : B ≤ B') : Ints w B' A n f := by
  intro hn
  obtain ⟨b, off, hA, hb, hc⟩ := h hn
  exact ⟨b, off, hA, Nat.lt_of_lt_of_le hb hB, hc⟩
theorem Ints.below (h : Ints w B A n f) (hb : Below B w w') : Ints w' B A n f := h.keep fun _ hp => hb.cell hp
theorem Ints.drewN (h : Ints w B A n f) (k : Nat) : Ints (w.drewN k) B A n f := h
theorem Ints.drew (h : Ints w B A n f) : Ints w.drew B A n f := h
theorem Ints.alloc (h : Ints w B A n f) (hB : B ≤ w.heap.size) (o : Obj) : Ints (w.alloc o) B A n f := h.keep fun p hp => World.cell?_alloc_lt w o p (by omega)
theorem Ints.zero : Ints w B A 0 f := fun h => absurd h (by omega)
theorem Ints.congr (h : Ints w B A n f) (e : ∀ i, i < n → f i = g i) : Ints w B A n g := by
  intro hn
  obtain ⟨b, off, hA, hb, hc⟩ := h hn
  exact ⟨b, off, hA, hb, fun i hi => by rw [hc i hi, e i hi]⟩
end

/-- An argument that is a slice of ints, as a row's proof opens it. -/
theorem ints_of {w : World} {a : Option Addr} {len cap : Nat} {zs : List Int}
    (h : (a = none ∧ len = 0 ∧ cap = 0 ∧ zs = []) ∨ ∃ x, a = some x ∧ len ≤ cap ∧ cap ≤ maxLen ∧ zs.length = cap ∧ (∀ i, i < zs.length → w.cell? (x.add i) = some (.int .i64 (zs.getD i 0))) ∧ ∀ n ∈ zs, (Lit.int .i64 n).wf = true) :
    Ints w w.heap.size a len (fun i => zs.getD i 0) := by
  rcases h with ⟨rfl, rfl, rfl, rfl⟩ | ⟨⟨b, off, spot⟩, rfl, hl, hm, hz, hc, _⟩
  · exact Ints.zero
  · intro hn
    have h0 := hc 0 (by omega)
    have hs : spot = none := by simpa [Addr.add] using World.cell?_spot h0
    subst hs
    refine ⟨b, off, rfl, ?_, fun i hi => ?_⟩
    · have := World.block_lt_of_cell? w _ h0
      simpa [Addr.add] using this
    · have := hc i (by omega)
      rwa [Addr.add_lit] at this

theorem ret_int {k : IntKind} {a b : Int} (h : a = b) : Ending.returned (.int k a) = .returned (.int k b) := by rw [h]
theorem ret_bool {a b : Bool} (h : a = b) : Ending.returned (.bool a) = .returned (.bool b) := by rw [h]

/-- A contract that leaves the world alone, met in a quiet region. -/
theorem quiet_left {P : Program} {f : FuncId} {args : Array Value} {w : World} {n : Nat} {v : Value}
    (h : Calls P f args (w.drewN n) fun e w' => e = .returned v ∧ w.drewN n = w') : Calls P f args (w.drewN n) fun e w'' => e = .returned v ∧ ∃ m, w'' = w.drewN m :=
  h.mono fun _ _ ⟨he, hm⟩ => ⟨he, n, hm.symm⟩
theorem quiet_add_left {P : Program} {f : FuncId} {args : Array Value} {w : World} {a n : Nat} {v : Value}
    (h : Calls P f args (w.drewN (a + n)) fun e w' => e = .returned v ∧ w.drewN (a + n) = w') :
    Calls P f args (w.drewN (a + n)) fun e w'' => e = .returned v ∧ ∃ m, w'' = w.drewN (a + m) :=
  h.mono fun _ _ ⟨he, hm⟩ => ⟨he, n, hm.symm⟩
theorem quiet_add {P : Program} {f : FuncId} {args : Array Value} {w : World} {a n : Nat} {v : Value}
    (h : Calls P f args (w.drewN (a + n)) fun e w' => e = .returned v ∧ ∃ m, w' = (w.drewN (a + n)).drewN m) :
    Calls P f args (w.drewN (a + n)) fun e w'' => e = .returned v ∧ ∃ m, w'' = w.drewN (a + m) :=
  h.mono fun _ _ ⟨he, m, hm⟩ => ⟨he, n + m, by rw [hm, World.drewN_drewN, Nat.add_assoc]⟩
/-- The world has drawn some times; nothing else has turned. -/
def Drew (w w' : World) : Prop := ∃ m, w' = w.drewN m
theorem Drew.refl (w : World) : Drew w w := ⟨0, rfl⟩
theorem Drew.n {w w' : World} (h : Drew w w') (k : Nat) : Drew w (w'.drewN k) := by
  obtain ⟨m, rfl⟩ := h
  exact ⟨m + k, World.drewN_drewN _ _ _⟩
theorem Drew.one {w w' : World} (h : Drew w w') : Drew w w'.drew := h.n 1
theorem Drew.trans {a b c : World} (h : Drew a b) (h' : Drew b c) : Drew a c := by
  obtain ⟨m, rfl⟩ := h'
  exact h.n m
theorem below_drewN {B : Nat} {a w : World} (h : Below B a w) (n : Nat) : Below B a (w.drewN n) := ⟨h.os, h.tape, h.output, h.size, h.block⟩
theorem Drew.below {B : Nat} {w w' : World} (h : Drew w w') : Below B w w' := by
  obtain ⟨m, rfl⟩ := h
  exact below_drewN (Below.refl _ _) m
end Go.Proofs.Ytailpiagjemhpaa
