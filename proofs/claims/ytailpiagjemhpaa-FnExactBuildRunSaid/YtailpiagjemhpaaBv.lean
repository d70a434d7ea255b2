/-
  A building in memory; toBuilding. No claim stands here.
-/
import Derived.Test.YtailpiagjemhpaaTo
import Derived.Test.YtailpiagjemhpaaMark
namespace Go.Proofs.Ytailpiagjemhpaa
open Go.RowKit
set_option linter.unusedVariables false
set_option linter.unusedSimpArgs false

/-- Where the slices of a building lie. -/
structure Bv where
  A : Option Addr
  c : Nat
  U : Option Addr
  cu : Nat
  D : Option Addr
  cd : Nat
  C : Option Addr
  cc : Nat
def bcells (v : Bv) (b : Bld) : Array Value :=
  #[.slice v.A b.n v.c, .int .i64 b.pos, .int .i64 b.sp, .int .i64 b.gap, .int .i64 b.hold, .slice v.U b.nu v.cu, .slice v.D b.nd v.cd, .slice v.C b.nc v.cc, .int .i64 b.fl, .int .i64 b.dir, .bool b.op]
def bval (v : Bv) (b : Bld) : Value := .agg (bcells v b)
/-- The slices of a building read as it says, and lie below B. -/
structure ReadB (w : World) (B : Nat) (v : Bv) (b : Bld) : Prop where
  h : Ints w B v.A b.n b.f
  u : Bools w B v.U b.nu b.up
  d : Bools w B v.D b.nd b.dn
  c : Bools w B v.C b.nc b.car
  hn : v.A = none → v.c = 0
  un : v.U = none → v.cu = 0
  dn : v.D = none → v.cd = 0
  cn : v.C = none → v.cc = 0
theorem ReadB.below {w w' : World} {B : Nat} {v : Bv} {b : Bld} (r : ReadB w B v b) (hb : Below B w w') : ReadB w' B v b :=
  ⟨r.h.below hb, r.u.below hb, r.d.below hb, r.c.below hb, r.hn, r.un, r.dn, r.cn⟩
theorem ReadB.more {w : World} {B B' : Nat} {v : Bv} {b : Bld} (r : ReadB w B v b) (hB : B ≤ B') : ReadB w B' v b :=
  ⟨r.h.more hB, r.u.more hB, r.d.more hB, r.c.more hB, r.hn, r.un, r.dn, r.cn⟩
theorem ReadB.alloc {w : World} {B : Nat} {v : Bv} {b : Bld} (r : ReadB w B v b) (hB : B ≤ w.heap.size) (o : Obj) : ReadB (w.alloc o) B v b :=
  r.below ((Below.refl B w).alloc hB o)
theorem ReadB.drewN {w : World} {B : Nat} {v : Bv} {b : Bld} (r : ReadB w B v b) (k : Nat) : ReadB (w.drewN k) B v b := r.below (below_drewN (Below.refl _ _) k)
theorem ReadB.far {w : World} {B : Nat} {v : Bv} {b : Bld} (r : ReadB w B v b) (p : Addr) (x : Value) (hp : B ≤ p.block) : ReadB (w.setCell p x) B v b :=
  r.below ((Below.refl B w).setCell hp x)
/-- A building of the call's own: its slices lie in four blocks from base on. -/
structure OwnB (w : World) (base : Nat) (v : Bv) (b : Bld) : Prop where
  h : Row w base v.A b.n v.c b.f
  k : OwnC w base v.U b.nu v.cu b.up v.D b.nd v.cd b.dn v.C b.nc v.cc b.car
  hu : Apart v.A v.U
  hd : Apart v.A v.D
  hc : Apart v.A v.C
theorem RowB.none_cap' {w : World} {base n c : Nat} {A : Option Addr} {f : Nat → Bool} (h : RowB w base A n c f) (hA : A = none) : c = 0 := by
  subst hA
  rcases h.2 with ⟨hv, h0⟩ | ⟨b, cap, cur, hv, _⟩
  · simp only [Value.slice.injEq] at hv; exact hv.2.2
  · simp at hv
theorem Row.none_cap' {w : World} {base n c : Nat} {A : Option Addr} {f : Nat → Int} (h : Row w base A n c f) (hA : A = none) : c = 0 := by
  subst hA
  rcases h.2 with ⟨hv, h0⟩ | ⟨b, cap, cur, hv, _⟩
  · simp only [Value.slice.injEq] at hv; exact hv.2.2
  · simp at hv
theorem OwnB.read {w : World} {base : Nat} {v : Bv} {b : Bld} (o : OwnB w base v b) : ReadB w w.heap.size v b :=
  ⟨o.h.ints, o.k.u.bools, o.k.d.bools, o.k.c.bools, o.h.none_cap', o.k.u.none_cap', o.k.d.none_cap', o.k.c.none_cap'⟩
theorem OwnB.below {w w' : World} {B base : Nat} {v : Bv} {b : Bld} (o : OwnB w base v b) (hb : Below B w w') (hB : w.heap.size ≤ B) : OwnB w' base v b :=
  ⟨o.h.below hb hB, o.k.below hb hB, o.hu, o.hd, o.hc⟩
theorem OwnB.mono {w : World} {base base' : Nat} {v : Bv} {b : Bld} (o : OwnB w base v b) (hb : base' ≤ base) : OwnB w base' v b :=
  ⟨o.h.mono hb, o.k.mono hb, o.hu, o.hd, o.hc⟩
theorem OwnB.kept {w w' : World} {base : Nat} {row : Option Nat} {v : Bv} {b : Bld} (o : OwnB w base v b) (hg : w.grownBy w' row) (hne : row = none ∨ ∀ b, row = some b → b < base ∨ w.heap.size ≤ b) : OwnB w' base v b :=
  ⟨o.h.kept hg hne, o.k.kept hg hne, o.hu, o.hd, o.hc⟩

/-- Cells written one after the other. -/
def sets (w : World) (l : List (Addr × Value)) : World := l.foldl (fun w q => w.setCell q.1 q.2) w
theorem sets_below {B : Nat} {w0 w : World} (l : List (Addr × Value)) (h : Below B w0 w) (hl : ∀ q ∈ l, B ≤ q.1.block) : Below B w0 (sets w l) := by
  induction l generalizing w with
  | nil => exact h
  | cons q l ih => exact ih (h.setCell (hl q (by simp)) q.2) (fun x hx => hl x (by simp [hx]))
theorem sets_row {w : World} {base : Nat} {A : Option Addr} {n c : Nat} {f : Nat → Int} (l : List (Addr × Value)) (h : Row w base A n c f) (hl : ∀ q ∈ l, q.1.block < base) : Row (sets w l) base A n c f := by
  induction l generalizing w with
  | nil => exact h
  | cons q l ih => exact ih (h.far q.1 q.2 (hl q (by simp))) (fun x hx => hl x (by simp [hx]))
theorem sets_rowB {w : World} {base : Nat} {A : Option Addr} {n c : Nat} {f : Nat → Bool} (l : List (Addr × Value)) (h : RowB w base A n c f) (hl : ∀ q ∈ l, q.1.block < base) : RowB (sets w l) base A n c f := by
  induction l generalizing w with
  | nil => exact h
  | cons q l ih => exact ih (h.far q.1 q.2 (hl q (by simp))) (fun x hx => hl x (by simp [hx]))
theorem sets_own {w : World} {base : Nat} {v : Bv} {b : Bld} (l : List (Addr × Value)) (o : OwnB w base v b) (hl : ∀ q ∈ l, q.1.block < base) : OwnB (sets w l) base v b :=
  ⟨sets_row l o.h hl, ⟨sets_rowB l o.k.u hl, sets_rowB l o.k.d hl, sets_rowB l o.k.c hl, o.k.ud, o.k.uc, o.k.dc⟩, o.hu, o.hd, o.hc⟩
/-- A whole building stored into block g. -/
def putL (g : Nat) (v : Bv) (b : Bld) : List (Addr × Value) :=
  [(⟨g, 0, none⟩, .slice v.A b.n v.c), (⟨g, 1, none⟩, .int .i64 b.pos), (⟨g, 2, none⟩, .int .i64 b.sp), (⟨g, 3, none⟩, .int .i64 b.gap), (⟨g, 4, none⟩, .int .i64 b.hold), (⟨g, 5, none⟩, .slice v.U b.nu v.cu),
   (⟨g, 6, none⟩, .slice v.D b.nd v.cd), (⟨g, 7, none⟩, .slice v.C b.nc v.cc), (⟨g, 8, none⟩, .int .i64 b.fl), (⟨g, 9, none⟩, .int .i64 b.dir), (⟨g, 10, none⟩, .bool b.op)]
theorem putL_block {g : Nat} {v : Bv} {b : Bld} : ∀ q ∈ putL g v b, q.1.block = g := by
  intro q hq
  simp only [putL, List.mem_cons, List.not_mem_nil, or_false] at hq
  rcases hq with rfl | rfl | rfl | rfl | rfl | rfl | rfl | rfl | rfl | rfl | rfl <;> rfl

/-- A frame of three boxes: the parameter's, the result's, a variable's; the third is written. -/
structure Fr (w W : World) (B g0 g1 g : Nat) (P R O : Array Value) : Prop where
  x0 : Bx W g0 P
  x1 : Bx W g1 R
  x2 : Bx W g O
  b : Below B w W
  n0 : g0 ≠ g
  n1 : g1 ≠ g
  hB : B ≤ g
section
variable {w W W' : World} {B g0 g1 g : Nat} {P R O : Array Value}
theorem Fr.set (F : Fr w W B g0 g1 g P R O) (o : Nat) (v : Value) : Fr w (W.setCell ⟨g, o, none⟩ v) B g0 g1 g P R (O.setIfInBounds o v) :=
  ⟨F.x0.far _ _ (Ne.symm F.n0), F.x1.far _ _ (Ne.symm F.n1), F.x2.set o v, F.b.setCell F.hB v, F.n0, F.n1, F.hB⟩
theorem Fr.call (F : Fr w W B g0 g1 g P R O) (hb : Below W.heap.size W W') : Fr w W' B g0 g1 g P R O :=
  ⟨F.x0.below hb F.x0.lt, F.x1.below hb F.x1.lt, F.x2.below hb F.x2.lt, F.b.trans (hb.mono (Nat.le_trans F.hB (Nat.le_of_lt F.x2.lt))), F.n0, F.n1, F.hB⟩
theorem Fr.start {P R O : Array Value} {T T' T2 : TypeId} (h : Below (((w.alloc (.cells P T)).alloc (.cells R T')).alloc (.cells O T2)).heap.size (((w.alloc (.cells P T)).alloc (.cells R T')).alloc (.cells O T2)) W) :
    Fr w W w.heap.size w.heap.size (w.heap.size + 1) (w.heap.size + 1 + 1) P R O := by
  obtain ⟨a, b, c, d, _⟩ := boxes3 h
  exact ⟨a, b, c, d, by omega, by omega, by omega⟩
end
theorem grown_call {W W' : World} (g : Nat) (hb : Below W.heap.size W W') : W.grownBy W' (some g) := ⟨hb.os, hb.tape, hb.output, hb.size, fun k hk _ => hb.block k hk⟩

set_option maxHeartbeats 3200000 in
theorem toBuilding_any {w : World} {B : Nat} {v : Bv} {b : Bld} (n0 : b.n ≤ 17592186044415) (n1 : b.nu ≤ 17592186044415) (n2 : b.nd ≤ 17592186044415) (n3 : b.nc ≤ 17592186044415) (hB : B ≤ w.heap.size) (hr : ReadB w B v b) :
    Calls Try.prog 41 #[bval v b] w fun e w' => ∃ v', e = .returned (bval v' b) ∧ OwnB w' w.heap.size v' b ∧ Below w.heap.size w w' := by
  have HR := Lib.hid hr
  clear hr
  unfold bval bcells
  go_enter Try.func41, Try.ntmps41
  go_wp2_with fail
  refine (toIntS_any n0 (Nat.le_trans hB (by simp <;> omega)) (((HR.out.alloc hB _).alloc (Nat.le_trans hB (by simp <;> omega)) _).alloc (Nat.le_trans hB (by simp <;> omega)) _).h).mono ?_
  rintro e w1 ⟨A', c', rfl, hr1, hb1⟩
  have F1 := Fr.start hb1
  have hs1 : w.heap.size + 3 ≤ w1.heap.size := by have := hb1.size; simp at this; omega
  have H1 := hr1.mono (base' := w.heap.size + 3) (by simp <;> omega)
  have HP1 := Lib.hid H1.place
  have HH1 := Lib.hid H1
  have HF1 := Lib.hid F1
  have c0 := F1.x0.cells
  have c2 := F1.x2.cells
  have z2 := F1.x2.free
  clear hb1 hr1 F1 H1
  go_wp2_with fail
  refine (toLift_any b.pos b.sp b.gap b.hold _).mono ?_
  rintro e w2 ⟨rfl, hb2⟩
  have F2 := (HF1.out.set 0 _).call hb2
  have hg2 := (grown_set _ _ _).trans (grown_call _ hb2)
  have HH2 := Lib.hid (HH1.out.kept hg2 (.inr (by intro k e; cases e; left; simp <;> omega)))
  have HF2 := Lib.hid F2
  have hs2 : w1.heap.size ≤ w2.heap.size := by have := hg2.size; simpa using this
  clear c0 c2 z2
  have c0 := F2.x0.cells
  have c2 := F2.x2.cells
  have z2 := F2.x2.free
  clear hb2 hg2 F2 HF1 HH1
  have F2s := (((HF2.out.set 1 (.int .i64 b.pos)).set 2 (.int .i64 b.sp)).set 3 (.int .i64 b.gap)).set 4 (.int .i64 b.hold)
  have HF2s := Lib.hid F2s
  have HRs := Lib.hid (HR.out.below (F2s.b.mono hB))
  clear F2s HF2
  go_wp2_with fail
  refine (toCalls_any n1 n2 n3 (Nat.le_trans hB HF2s.out.b.size) HRs.out.u HRs.out.d HRs.out.c).mono ?_
  rintro e w3 ⟨U', cu', D', cd', C', cc', rfl, hk3, hb3⟩
  have F3 := HF2s.out.call hb3
  have hg3 := ((((grown_set w2 ⟨w.heap.size + 1 + 1, 1, none⟩ (.int .i64 b.pos)).trans (grown_set _ ⟨w.heap.size + 1 + 1, 2, none⟩ (.int .i64 b.sp))).trans (grown_set _ ⟨w.heap.size + 1 + 1, 3, none⟩ (.int .i64 b.gap))).trans (grown_set _ ⟨w.heap.size + 1 + 1, 4, none⟩ (.int .i64 b.hold))).trans (grown_call _ hb3)
  have HH3 := Lib.hid (HH2.out.kept hg3 (.inr (by intro k e; cases e; left; simp <;> omega)))
  have hk3' := hk3.mono (base' := w2.heap.size) (by simp)
  have HK3 := Lib.hid hk3'
  have HF3 := Lib.hid F3
  have hs3 : w2.heap.size ≤ w3.heap.size := by have := hg3.size; simpa using this
  have HAU := Lib.hid ((HP1.out.mono (Nat.le_refl _) hs2).apart hk3'.u.place (Nat.le_refl _))
  have HAD := Lib.hid ((HP1.out.mono (Nat.le_refl _) hs2).apart hk3'.d.place (Nat.le_refl _))
  have HAC := Lib.hid ((HP1.out.mono (Nat.le_refl _) hs2).apart hk3'.c.place (Nat.le_refl _))
  clear c0 c2 z2
  have c0 := F3.x0.cells
  have c2 := F3.x2.cells
  have z2 := F3.x2.free
  clear hb3 hg3 F3 HF2s HH2 HRs hk3 hk3'
  go_wp2_with fail
  refine (toStop_any b.fl b.dir _).mono ?_
  rintro e w4 ⟨rfl, hb4⟩
  have F4 := (((HF3.out.set 5 (.slice U' b.nu cu')).set 6 (.slice D' b.nd cd')).set 7 (.slice C' b.nc cc')).call hb4
  have hg4 := (((grown_set w3 ⟨w.heap.size + 1 + 1, 5, none⟩ (.slice U' b.nu cu')).trans (grown_set _ ⟨w.heap.size + 1 + 1, 6, none⟩ (.slice D' b.nd cd'))).trans (grown_set _ ⟨w.heap.size + 1 + 1, 7, none⟩ (.slice C' b.nc cc'))).trans (grown_call _ hb4)
  have HH4 := Lib.hid (HH3.out.kept hg4 (.inr (by intro k e; cases e; left; simp <;> omega)))
  have HK4 := Lib.hid (HK3.out.kept hg4 (.inr (by intro k e; cases e; left; simp <;> omega)))
  have HF4 := Lib.hid F4
  have hs4 : w3.heap.size ≤ w4.heap.size := by have := hg4.size; simpa using this
  clear c0 c2 z2
  have c0 := F4.x0.cells
  have c1 := F4.x1.cells
  have z1 := F4.x1.free
  have c2 := F4.x2.cells
  have z2 := F4.x2.free
  clear hb4 hg4 F4 HF3 HH3 HK3
  have HOWN : Hid (OwnB w4 (w.heap.size + 3) ⟨A', c', U', cu', D', cd', C', cc'⟩ b) := Lib.hid ⟨HH4.out, HK4.out.mono (by omega), HAU.out, HAD.out, HAC.out⟩
  clear HH4 HK4 HAU HAD HAC
  go_wp2
  refine bodyPost_ret (v := bval ⟨A', c', U', cu', D', cd', C', cc'⟩ b) (by simp [bval, bcells, results, Try.results41, go_sem, c1, c2]) rfl ⟨⟨A', c', U', cu', D', cd', C', cc'⟩, rfl, ?_, ?_⟩
  · exact (sets_own (putL (w.heap.size + 1) ⟨A', c', U', cu', D', cd', C', cc'⟩ b) (sets_own [(⟨w.heap.size + 1 + 1, 8, none⟩, .int .i64 b.fl), (⟨w.heap.size + 1 + 1, 9, none⟩, .int .i64 b.dir), (⟨w.heap.size + 1 + 1, 10, none⟩, .bool b.op)] HOWN.out (by simp <;> omega)) (fun q hq => by rw [putL_block q hq]; omega)).mono (by omega)
  · exact sets_below (putL (w.heap.size + 1) ⟨A', c', U', cu', D', cd', C', cc'⟩ b) (sets_below [(⟨w.heap.size + 1 + 1, 8, none⟩, .int .i64 b.fl), (⟨w.heap.size + 1 + 1, 9, none⟩, .int .i64 b.dir), (⟨w.heap.size + 1 + 1, 10, none⟩, .bool b.op)] HF4.out.b (by simp <;> omega)) (fun q hq => by rw [putL_block q hq]; omega)
end Go.Proofs.Ytailpiagjemhpaa
