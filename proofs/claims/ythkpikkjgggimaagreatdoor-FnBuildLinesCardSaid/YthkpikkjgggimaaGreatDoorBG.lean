/-
  Texts Rd, Open in one. No claim stands here.
-/
import Derived.Test.YthkpikkjgggimaaGreatDoorBB
namespace Go.Proofs.YthkpikkjgggimaaGreatDoor
open Go.RowKit
set_option linter.unusedVariables false
set_option linter.unusedSimpArgs false

/-- A slice of bytes reads as h 0 .. h (n - 1), and lies below block B. -/
def Bytes (w : World) (B : Nat) (A : Option Addr) (n : Nat) (h : Nat → Int) : Prop :=
  0 < n → ∃ b off, A = some ⟨b, off, none⟩ ∧ b < B ∧ ∀ i, i < n → w.cell? ⟨b, off + i, none⟩ = some (.int .u8 (h i)) ∧ 0 ≤ h i ∧ h i ≤ 255
theorem Bytes.keep {w w' : World} {B : Nat} {A : Option Addr} {n : Nat} {h : Nat → Int} (hs : Bytes w B A n h) (hk : ∀ p : Addr, p.block < B → w'.cell? p = w.cell? p) : Bytes w' B A n h := by
  intro hn
  obtain ⟨b, off, hA, hb, hc⟩ := hs hn
  exact ⟨b, off, hA, hb, fun i hi => ⟨(hk _ hb).trans (hc i hi).1, (hc i hi).2⟩⟩
theorem Bytes.more {w : World} {B B' : Nat} {A : Option Addr} {n : Nat} {h : Nat → Int} (hs : Bytes w B A n h) (hB : B ≤ B') : Bytes w B' A n h := by
  intro hn
  obtain ⟨b, off, hA, hb, hc⟩ := hs hn
  exact ⟨b, off, hA, Nat.lt_of_lt_of_le hb hB, hc⟩
theorem Bytes.below {w w' : World} {B : Nat} {A : Option Addr} {n : Nat} {h : Nat → Int} (hs : Bytes w B A n h) (hb : Below B w w') : Bytes w' B A n h := hs.keep fun _ hp => hb.cell hp

/-- An argument that is a slice of bytes, as a row's proof opens it. -/
theorem bytes_of {w : World} {a : Option Addr} {len cap : Nat} {zs : List Int}
    (h : (a = none ∧ len = 0 ∧ cap = 0 ∧ zs = []) ∨ ∃ x, a = some x ∧ len ≤ cap ∧ cap ≤ maxLen ∧ zs.length = cap ∧ (∀ i, i < zs.length → w.cell? (x.add i) = some (.int .u8 (zs.getD i 0))) ∧ ∀ n ∈ zs, (Lit.int .u8 n).wf = true) :
    Bytes w w.heap.size a len (fun i => zs.getD i 0) ∧ len ≤ cap := by
  rcases h with ⟨rfl, rfl, rfl, rfl⟩ | ⟨⟨b, off, spot⟩, rfl, hl, hm, hz, hc, hw⟩
  · exact ⟨fun h => absurd h (by omega), Nat.le_refl _⟩
  · refine ⟨fun hn => ?_, hl⟩
    have h0 := hc 0 (by omega)
    have hs : spot = none := by simpa [Addr.add] using World.cell?_spot h0
    subst hs
    refine ⟨b, off, rfl, ?_, fun i hi => ⟨?_, ?_⟩⟩
    · have := World.block_lt_of_cell? w _ h0
      simpa [Addr.add] using this
    · have := hc i (by omega)
      rwa [Addr.add_lit] at this
    · have hi' : i < zs.length := by omega
      have := hw (zs.getD i 0) (by simp [List.getD, hi'])
      simpa [Lit.wf, IntKind.min, IntKind.max, IntKind.signed, IntKind.bits] using this

/-- The reader: its block g holds the bytes' slice and the place q. -/
structure Rd (w : World) (g : Nat) (A : Option Addr) (n c : Nat) (h : Nat → Int) (q : Nat) : Prop where
  blk : w.heap[g]? = some (.cells #[.slice A n c, .int .i64 q] 100 (0, 0))
  bytes : Bytes w g A n h
  len : n ≤ 2000
  far : q ≤ 1000000
theorem Rd.cell0 {w : World} {g : Nat} {A : Option Addr} {n c : Nat} {h : Nat → Int} {q : Nat} (r : Rd w g A n c h q) : w.cell? ⟨g, 0, none⟩ = some (.slice A n c) := by
  rw [cell_of_row w g 0 _ _ (0, 0) r.blk]; rfl
theorem Rd.cell1 {w : World} {g : Nat} {A : Option Addr} {n c : Nat} {h : Nat → Int} {q : Nat} (r : Rd w g A n c h q) : w.cell? ⟨g, 1, none⟩ = some (.int .i64 q) := by
  rw [cell_of_row w g 1 _ _ (0, 0) r.blk]; rfl
theorem Rd.free {w : World} {g : Nat} {A : Option Addr} {n c : Nat} {h : Nat → Int} {q : Nat} (r : Rd w g A n c h q) (i : Nat) : w.frozen? ⟨g, i, none⟩ = false := by
  have := r.blk
  simp [World.frozen?, this]
theorem Rd.lt {w : World} {g : Nat} {A : Option Addr} {n c : Nat} {h : Nat → Int} {q : Nat} (r : Rd w g A n c h q) : g < w.heap.size := by
  rcases Nat.lt_or_ge g w.heap.size with hlt | hge
  · exact hlt
  · have := r.blk; rw [Array.getElem?_eq_none hge] at this; cases this
theorem Rd.step {w : World} {g : Nat} {A : Option Addr} {n c : Nat} {h : Nat → Int} {q : Nat} (r : Rd w g A n c h q) (hq : q + 1 ≤ 1000000) :
    Rd (w.setCell ⟨g, 1, none⟩ (.int .i64 (q + 1 : Nat))) g A n c h (q + 1) ∧ w.grownBy (w.setCell ⟨g, 1, none⟩ (.int .i64 (q + 1 : Nat))) (some g) := by
  refine ⟨⟨?_, r.bytes.keep fun p hp => World.cell?_setCell_other w ⟨g, 1, none⟩ p _ (fun e => by subst e; simp at hp), r.len, hq⟩, ⟨rfl, rfl, rfl, by simp, fun k hk hne => Below.heap_setCell _ _ _ _ (by intro e; exact hne (by simp [e]))⟩⟩
  have := r.blk
  simp [World.setCell, Array.getElem?_modify, this]
theorem Rd.drewN {w : World} {g : Nat} {A : Option Addr} {n c : Nat} {h : Nat → Int} {q : Nat} (r : Rd w g A n c h q) (k : Nat) : Rd (w.drewN k) g A n c h q := ⟨r.blk, r.bytes, r.len, r.far⟩
/-- Where blocks above g alone are written, or none. -/
theorem Rd.below {w w' : World} {B g : Nat} {A : Option Addr} {n c : Nat} {h : Nat → Int} {q : Nat} (r : Rd w g A n c h q) (hb : Below B w w') (hB : g < B) : Rd w' g A n c h q :=
  ⟨(hb.block g hB).trans r.blk, r.bytes.below (hb.mono (by omega)), r.len, r.far⟩
theorem grown_drewN {w w' : World} {row : Option Nat} (h : w.grownBy w' row) (k : Nat) : w.grownBy (w'.drewN k) row := ⟨h.os, h.tape, h.output, h.size, h.block⟩

theorem ofInt_64 (a : Nat) (ha : a < 18446744073709551616) : (BitVec.ofInt 64 (a : Int)).toNat = a := by
  rw [BitVec.ofInt_natCast, BitVec.toNat_ofNat]; exact Nat.mod_eq_of_lt (by omega)
theorem i64_xor_nat (a b : Nat) (ha : a < 1099511627776) (hb : b < 1099511627776) : bits .xor .i64 (a : Int) (b : Int) = ((a ^^^ b : Nat) : Int) := by
  have hx : a ^^^ b < 2 ^ 40 := Nat.xor_lt_two_pow (by omega) (by omega)
  show IntKind.i64.wrap ((BitVec.ofInt 64 (a : Int) ^^^ BitVec.ofInt 64 (b : Int)).toNat : Int) = _
  rw [BitVec.toNat_xor, ofInt_64 a (by omega), ofInt_64 b (by omega)]
  exact IntWalk.i64_in _ (by omega)
theorem bitsXor_small {x y : Int} (hx : 0 ≤ x) (hx2 : x < 1099511627776) (hy : 0 ≤ y) (hy2 : y < 1099511627776) : 0 ≤ bits .xor .i64 x y ∧ bits .xor .i64 x y < 1099511627776 := by
  obtain ⟨a, rfl⟩ := Int.eq_ofNat_of_zero_le hx
  obtain ⟨b, rfl⟩ := Int.eq_ofNat_of_zero_le hy
  have h : a ^^^ b < 2 ^ 40 := Nat.xor_lt_two_pow (by omega) (by omega)
  rw [i64_xor_nat a b (by omega) (by omega)]
  omega

/-- A number that pick may return for N. -/
def Picked (N x : Int) : Prop := 0 ≤ x ∧ (1 ≤ N → x < N) ∧ (N < 1 → x = 0)
theorem picked_mod {N x : Int} (hN : 1 ≤ N) (hx : 0 ≤ x) : Picked N (x % N) := ⟨Int.emod_nonneg _ (by omega), fun _ => Int.emod_lt_of_pos _ (by omega), fun h => by omega⟩

/-- What a pick leaves. -/
def PickPost (N : Int) (w : World) (g : Nat) (A : Option Addr) (n c : Nat) (h : Nat → Int) (q : Nat) (e : Ending) (w' : World) : Prop :=
  ∃ x, e = .returned (.int .i64 x) ∧ Picked N x ∧ Rd w' g A n c h (q + 1) ∧ w.grownBy w' (some g)

set_option maxHeartbeats 1600000 in
theorem pick_any {w : World} {g n c q : Nat} {A : Option Addr} {h : Nat → Int} (N : Int) (hN : N ≤ 1000000000) (hq : q + 1 ≤ 1000000) (hr : Rd w g A n c h q) :
    Calls Tryz.prog 31 #[.pointer (some ⟨g, 0, none⟩), .int .i64 N] w (PickPost N w g A n c h q) := by
  have c0 := hr.cell0
  have c1 := hr.cell1
  have f1 := hr.free 1
  have hst := hr.step hq
  have eq1 : ((q + 1 : Nat) : Int) = (q : Int) + 1 := by omega
  rw [eq1] at hst
  clear eq1
  have HR := Lib.hid hst.1
  have HG := Lib.hid hst.2
  have hlen := hr.len
  have HB := Lib.hid hr.bytes
  clear hr hst
  by_cases h1 : N < 1
  · have HN : Hid (Picked N 0) := ⟨Int.le_refl _, fun h => by omega, fun _ => rfl⟩
    go_enter Tryz.func31, Tryz.ntmps31
    go_wp2
    go_ret
    exact ⟨0, rfl, HN.out, HR.out, HG.out⟩
  · by_cases h0 : n = 0
    · have he : ((n : Int) == 0) = true := by simp; omega
      have HN : Hid (Picked N 0) := ⟨Int.le_refl _, fun h => by omega, fun _ => rfl⟩
      clear h0
      go_enter Tryz.func31, Tryz.ntmps31
      go_wp2
      go_ret
      exact ⟨0, rfl, HN.out, HR.out, HG.out⟩
    · have he : ((n : Int) == 0) = false := by simp; omega
      have hNz : (N == 0) = false := by simp; omega
      obtain ⟨b, off, rfl, hbg, hc⟩ := HB.out (by omega)
      have hcs : ∀ i, i < n → (w.setCell ⟨g, 1, none⟩ (.int .i64 ((q : Int) + 1))).cell? ⟨b, off + i, none⟩ = some (.int .u8 (h i)) := fun i hi => (World.cell?_setCell_other w ⟨g, 1, none⟩ ⟨b, off + i, none⟩ _ (fun e => by simp at e <;> omega)).trans (hc i hi).1
      by_cases hlt : q < n
      · have cb := hcs q hlt
        obtain ⟨v0, v1⟩ := (hc q hlt).2
        have HN := Lib.hid (picked_mod (N := N) (by omega) v0)
        clear hc hcs
        go_enter Tryz.func31, Tryz.ntmps31
        go_wp2
        go_ret
        exact ⟨_, rfl, HN.out, HR.out, HG.out⟩
      · have n0 : (n : Int) ≠ 0 := by omega
        have lt1 : q % n < n := Nat.mod_lt _ (by omega)
        have lt2 : (q * 7 + 3) % n < n := Nat.mod_lt _ (by omega)
        have ca := hcs (q % n) lt1
        have cb := hcs ((q * 7 + 3) % n) lt2
        obtain ⟨a0, a1⟩ := (hc (q % n) lt1).2
        obtain ⟨b0, b1⟩ := (hc ((q * 7 + 3) % n) lt2).2
        generalize h (q % n) = xa at *
        generalize h ((q * 7 + 3) % n) = xb at *
        clear hc hcs
        have e1 : (q : Int).tmod (n : Int) = ((q % n : Nat) : Int) := by rw [Int.tmod_eq_emod_of_nonneg (by omega)]; omega
        have e2 : (q : Int) * 7 + 3 = ((q * 7 + 3 : Nat) : Int) := by omega
        have e3 : ((q : Int) * 7 + 3).tmod (n : Int) = (((q * 7 + 3) % n : Nat) : Int) := by rw [e2, Int.tmod_eq_emod_of_nonneg (by omega)]; omega
        clear e2
        have c0' := HR.out.cell0
        have c1' := HR.out.cell1
        have eq1 : ((q + 1 : Nat) : Int) = (q : Int) + 1 := by omega
        rw [eq1] at c1'
        clear eq1
        generalize hw1 : w.setCell ⟨g, 1, none⟩ (.int .i64 ((q : Int) + 1)) = w1 at *
        generalize q % n = i1 at *
        generalize (q * 7 + 3) % n = i2 at *
        obtain ⟨d, e5, hd⟩ : ∃ d : Nat, (q : Int) / (n : Int) = (d : Int) ∧ d ≤ 1000000 := ⟨q / n, by omega, Nat.le_trans (Nat.div_le_self _ _) (by omega)⟩
        have W5 : IntKind.i64.wrap (d : Int) = (d : Int) := IntWalk.i64_in _ (by omega)
        have W6 : IntKind.i64.wrap ((d : Int) * 53) = (d : Int) * 53 := IntWalk.i64_in _ (by omega)
        have W7 : IntKind.i64.wrap (xa * 131 + xb * 1117 + (q : Int) * 29 + (d : Int) * 53) = xa * 131 + xb * 1117 + (q : Int) * 29 + (d : Int) * 53 := IntWalk.i64_in _ (by omega)
        have X0 : 0 ≤ xa * 131 + xb * 1117 + (q : Int) * 29 + (d : Int) * 53 := by omega
        have X1 : xa * 131 + xb * 1117 + (q : Int) * 29 + (d : Int) * 53 < 1099511627776 := by omega
        have hNz : (N == 0) = false := by simp; omega
        have bi1 : (i1 : Int) < (n : Int) := by omega
        have bi2 : (i2 : Int) < (n : Int) := by omega
        have bz1 : (0 : Int) ≤ (i1 : Int) := by omega
        have bz2 : (0 : Int) ≤ (i2 : Int) := by omega
        have W1 : IntKind.i64.wrap (i1 : Int) = (i1 : Int) := IntWalk.i64_in _ (by omega)
        have W2 : IntKind.i64.wrap (i2 : Int) = (i2 : Int) := IntWalk.i64_in _ (by omega)
        have W3 : IntKind.i64.wrap ((q : Int) * 7) = (q : Int) * 7 := IntWalk.i64_in _ (by omega)
        have W4 : IntKind.i64.wrap ((q : Int) * 7 + 3) = (q : Int) * 7 + 3 := IntWalk.i64_in _ (by omega)
        go_enter Tryz.func31, Tryz.ntmps31
        go_wp2_with fail
        go_quiet (fail)
        generalize xa * 131 + xb * 1117 + (q : Int) * 29 + (d : Int) * 53 = X at *
        have HX := bitsXor_small (x := X) (y := X / 64) X0 X1 (by omega) (by omega)
        go_wp2
        go_ret
        refine ⟨_, rfl, picked_mod (by omega) HX.1, ?_, ?_⟩
        · exact HR.out.drewN _
        · exact grown_drewN HG.out _
end Go.Proofs.YthkpikkjgggimaaGreatDoor

namespace Go.Proofs.YthkpikkjgggimaaGreatDoor
open Go.RowKit
set_option linter.unusedVariables false
set_option linter.unusedSimpArgs false

/-- Block g is a reader that has read at most Q numbers. -/
def Reads (w : World) (g Q : Nat) : Prop := ∃ A n c h q, Rd w g A n c h q ∧ q ≤ Q
theorem Reads.mono {w : World} {g Q Q' : Nat} (r : Reads w g Q) (hQ : Q ≤ Q') : Reads w g Q' := by
  obtain ⟨A, n, c, h, q, hr, hq⟩ := r
  exact ⟨A, n, c, h, q, hr, Nat.le_trans hq hQ⟩
theorem Reads.lt {w : World} {g Q : Nat} (r : Reads w g Q) : g < w.heap.size := by
  obtain ⟨A, n, c, h, q, hr, hq⟩ := r
  exact hr.lt
theorem Reads.drewN {w : World} {g Q : Nat} (r : Reads w g Q) (k : Nat) : Reads (w.drewN k) g Q := by
  obtain ⟨A, n, c, h, q, hr, hq⟩ := r
  exact ⟨A, n, c, h, q, hr.drewN k, hq⟩
theorem Reads.below {w w' : World} {B g Q : Nat} (r : Reads w g Q) (hb : Below B w w') (hB : g < B) : Reads w' g Q := by
  obtain ⟨A, n, c, h, q, hr, hq⟩ := r
  exact ⟨A, n, c, h, q, hr.below hb hB, hq⟩
theorem Reads.grown {w w' : World} {g Q base : Nat} {row : Option Nat} (r : Reads w g Q) (hg : w.grownBy w' row) (hb : g < base) (hrow : ∀ b, row = some b → base ≤ b) : Reads w' g Q :=
  r.below (B := g + 1) ⟨hg.os, hg.tape, hg.output, hg.size, fun k hk => hg.block k (by have := r.lt; omega) (by intro e; have := hrow k e.symm; omega)⟩ (by omega)
theorem Reads.alloc {w : World} {g Q : Nat} (r : Reads w g Q) (o : Obj) : Reads (w.alloc o) g Q :=
  r.grown (base := g + 1) (World.grownBy_alloc w o none) (by omega) (by intro b h; cases h)

theorem Reads.pick {w : World} {g Q : Nat} (N : Int) (hN : N ≤ 1000000000) (hQ : Q + 1 ≤ 1000000) (r : Reads w g Q) :
    Calls Tryz.prog 31 #[.pointer (some ⟨g, 0, none⟩), .int .i64 N] w
      fun e w' => ∃ x, e = .returned (.int .i64 x) ∧ Picked N x ∧ Reads w' g (Q + 1) ∧ w.grownBy w' (some g) := by
  obtain ⟨A, n, c, h, q, hr, hq⟩ := r
  refine (pick_any N hN (by omega) hr).mono ?_
  rintro e w' ⟨x, rfl, hp, hr', hg⟩
  exact ⟨x, rfl, hp, ⟨A, n, c, h, q + 1, hr', by omega⟩, hg⟩

theorem Reads.odd {w : World} {g Q : Nat} (N : Int) (h0 : 0 ≤ N) (hN : N ≤ 1000000000) (hQ : Q + 1 ≤ 1000000) (r : Reads w g Q) :
    Calls Tryz.prog 33 #[.pointer (some ⟨g, 0, none⟩), .int .i64 N] w
      fun e w' => ∃ b, e = .returned (.bool b) ∧ Reads w' g (Q + 1) ∧ w.grownBy w' (some g) := by
  by_cases h1 : 0 < N
  · have H := Lib.hid r
    have hd : decide (0 < N) = true := by simpa using h1
    clear r
    go_enter Tryz.func33, Tryz.ntmps33
    go_wp2_with (go_at_call 31; refine (H.out.pick _ hN hQ).mono ?_; rintro e w' ⟨x, rfl, hp, hr, hg⟩; have HR := Lib.hid hr; have HG := Lib.hid hg; clear hr hg hp)
    go_ret
    exact ⟨_, rfl, HR.out, HG.out⟩
  · have hd : decide (0 < N) = false := by simpa using h1
    have H := Lib.hid (r.mono (Nat.le_succ Q))
    clear r
    go_enter Tryz.func33, Tryz.ntmps33
    go_wp2
    go_ret
    exact ⟨.inl rfl, H.out, World.grownBy.refl _ _⟩

/-- Blocks below base are as they were, but block g. -/
structure Only (base g : Nat) (w w' : World) : Prop where
  os : w'.os = w.os
  tape : w'.tape = w.tape
  output : w'.output = w.output
  size : w.heap.size ≤ w'.heap.size
  block : ∀ k, k < base → k ≠ g → w'.heap[k]? = w.heap[k]?
theorem Only.refl (base g : Nat) (w : World) : Only base g w w := ⟨rfl, rfl, rfl, Nat.le_refl _, fun _ _ _ => rfl⟩
theorem Only.trans {base g : Nat} {a b c : World} (h : Only base g a b) (h' : Only base g b c) : Only base g a c :=
  ⟨h'.os.trans h.os, h'.tape.trans h.tape, h'.output.trans h.output, Nat.le_trans h.size h'.size, fun k hk hne => (h'.block k hk hne).trans (h.block k hk hne)⟩
theorem Only.mono {base base' g : Nat} {a b : World} (h : Only base g a b) (hb : base' ≤ base) : Only base' g a b :=
  ⟨h.os, h.tape, h.output, h.size, fun k hk hne => h.block k (by omega) hne⟩
theorem Only.grown {base g : Nat} {a w w' : World} {row : Option Nat} (h : Only base g a w) (hg : w.grownBy w' row) (hb : base ≤ w.heap.size) (hrow : ∀ b, row = some b → base ≤ b ∨ b = g) : Only base g a w' :=
  h.trans ⟨hg.os, hg.tape, hg.output, hg.size, fun k hk hne => hg.block k (by omega) (by intro e; rcases hrow k e.symm with h | h <;> omega)⟩
theorem Only.picked {base g : Nat} {a w w' : World} (h : Only base g a w) (hg : w.grownBy w' (some g)) (hb : base ≤ w.heap.size) : Only base g a w' :=
  h.grown hg hb (by intro b e; right; cases e; rfl)
theorem Only.alloc {base g : Nat} {a w : World} (h : Only base g a w) (hb : base ≤ w.heap.size) (o : Obj) : Only base g a (w.alloc o) :=
  h.grown (World.grownBy_alloc w o none) hb (by intro b e; cases e)
/-- What is behind the reader only: as nothing was. -/
theorem Only.below {base g B : Nat} {a w : World} (h : Only base g a w) (hB : B ≤ base) (hg : B ≤ g) : Below B a w :=
  ⟨h.os, h.tape, h.output, h.size, fun k hk => h.block k (by omega) (by omega)⟩
theorem Only.grow {g : Nat} {a w : World} (h : Only a.heap.size g a w) : a.grownBy w (some g) :=
  ⟨h.os, h.tape, h.output, h.size, fun k hk hne => h.block k hk (by intro e; exact hne (by rw [e]))⟩

theorem Rd.fresh {w : World} {B n c : Nat} {A : Option Addr} {h : Nat → Int} (hB : B ≤ w.heap.size) (hs : Bytes w B A n h) (hn : n ≤ 2000) :
    Reads (w.alloc (.cells #[.slice A n c, .int .i64 0] 100)) w.heap.size 0 ∧ Below w.heap.size w (w.alloc (.cells #[.slice A n c, .int .i64 0] 100)) := by
  have hb := (Below.refl w.heap.size w).alloc (Nat.le_refl _) (.cells #[.slice A n c, .int .i64 0] 100)
  refine ⟨⟨A, n, c, h, 0, ⟨?_, (hs.below (hb.mono hB)).more hB, hn, by omega⟩, Nat.le_refl _⟩, hb⟩
  show (w.heap.push _)[w.heap.size]? = _
  simp

set_option maxHeartbeats 1600000 in
theorem l20Open_any {w : World} {B : Nat} {A : Option Addr} {n c : Nat} {h : Nat → Int} (hB : B ≤ w.heap.size) (hc : n ≤ c) (hs : Bytes w B A n h) :
    Calls Tryz.prog 29 #[.slice A n c] w fun e w' => ∃ g, e = .returned (.pointer (some ⟨g, 0, none⟩)) ∧ w.heap.size ≤ g ∧ Reads w' g 0 ∧ Below w.heap.size w w' := by
  by_cases h2 : 2000 < n
  · obtain ⟨b, off, rfl, hb, hcell⟩ := hs (by omega)
    have hs2 : Bytes w B (some ⟨b, off, none⟩) 2000 h := fun _ => ⟨b, off, rfl, hb, fun i hi => hcell i (by omega)⟩
    have HF := Lib.hid (Rd.fresh (c := c) hB hs2 (by omega))
    have HH := Lib.hid hcell
    clear hcell hs hs2
    go_enter Tryz.func29, Tryz.ntmps29
    go_wp2
    go_ret
    exact ⟨_, rfl, Nat.le_refl _, HF.out.1, HF.out.2⟩
  · have HF := Lib.hid (Rd.fresh (c := c) hB hs (by omega))
    clear hs
    go_enter Tryz.func29, Tryz.ntmps29
    go_wp2
    go_ret
    exact ⟨_, rfl, Nat.le_refl _, HF.out.1, HF.out.2⟩

/-- A number written out in a list, read behind a pick. -/
theorem lit_cell {w w' : World} {g z : Nat} {xs : Array Value} {v : Value} (hg : (w.alloc (.cells xs 3)).grownBy w' (some g)) (hgl : g < w.heap.size) (hv : xs[z]? = some v) : w'.cell? ⟨w.heap.size, z, none⟩ = some v := by
  refine hg.cell ?_ (by simp; omega)
  rw [cell_of_row _ w.heap.size z xs 3 (0, 0) (by show (w.heap.push _)[w.heap.size]? = _; simp)]
  exact hv
theorem lit_two {w w' : World} {g z : Nat} {a b : Int} (hg : (w.alloc (.cells #[.int .i64 a, .int .i64 b] 3)).grownBy w' (some g)) (hgl : g < w.heap.size) (hz : (z : Int) < 2) :
    ∃ X, (X = a ∨ X = b) ∧ w'.cell? ⟨w.heap.size, z, none⟩ = some (.int .i64 X) := by
  match z, hz with
  | 0, _ => exact ⟨a, .inl rfl, lit_cell hg hgl rfl⟩
  | 1, _ => exact ⟨b, .inr rfl, lit_cell hg hgl rfl⟩
  | z + 2, h => omega

theorem Row.one {w : World} {base : Nat} (X : Int) (hb : base ≤ w.heap.size) : Row (w.alloc (.cells #[.int .i64 X] 3)) base (some ⟨w.heap.size, 0, none⟩) 1 1 (fun _ => X) := by
  have h := World.ownsRow_lit (e := 3) (size := 1) (base := base) w #[.int .i64 X] 1 hb (by unfold maxLen; omega) (by simp)
  simpa [Row, ivals] using h
theorem Row.none_cap {w : World} {base n c : Nat} {A : Option Addr} {f : Nat → Int} (h : Row w base A n c f) (hA : A = none) : c = 0 := by
  subst hA
  rcases h.2 with ⟨hv, h0⟩ | ⟨b, cap, cur, hv, _⟩
  · simp only [Value.slice.injEq] at hv; exact hv.2.2
  · simp at hv
end Go.Proofs.YthkpikkjgggimaaGreatDoor
