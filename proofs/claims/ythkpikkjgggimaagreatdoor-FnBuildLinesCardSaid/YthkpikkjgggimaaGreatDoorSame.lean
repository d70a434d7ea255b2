/-
  Equality of structs; the contracts of sameCalls, sameBuild, noBuild, hasInt. No claim stands here.
-/
import Derived.Test.YthkpikkjgggimaaGreatDoorEq
import Derived.Test.YthkpikkjgggimaaGreatDoorAsk
import Derived.Laws.StructEq
import Derived.ChangeKeysEq
namespace Go.Proofs.YthkpikkjgggimaaGreatDoor
open Go.RowKit
set_option linter.unusedVariables false
set_option linter.unusedSimpArgs false

theorem part_int (w : World) (cs : Array Value) (o : Nat) (v : Value) (h : cs[o]? = some v) : (part 3 cs o).run Tryz.prog w = .ok v w := by
  have ui : Tryz.prog.underlying 3 = some (.int .i64) := Tryz.underlying3
  simp [part, go_sem, h]
theorem equalIn_ints (w : World) (d : Nat) (a b : Int) : (Op.equalIn (d + 1) 3 (.int .i64 a) (.int .i64 b)).run Tryz.prog w = .ok (a == b) w := run_equalIn_int w d _ _ _ _ _ Tryz.underlying3
theorem equalIn_motion (w : World) (d : Nat) (a b a' b' : Int) : (Op.equalIn (d + 2) 25 (.agg #[.int .i64 a, .int .i64 b]) (.agg #[.int .i64 a', .int .i64 b'])).run Tryz.prog w = .ok (a == a' && b == b') w := by
  have u0 : Tryz.prog.underlying 25 = some (.struct (Tryz.prog.fieldsOf 25)) := by kernel_rfl
  have s0 : Tryz.prog.stoodInHeld 25 = false := by kernel_rfl
  have fs : (Tryz.prog.fieldsOf 25).toList.map (fun f => (f.type, f.offset, f.name == "_")) = [(3, 0, false), (3, 1, false)] := by kernel_rfl
  rw [run_equalIn_agg w _ _ _ _ u0 s0]
  generalize (Tryz.prog.fieldsOf 25).toList = l at fs
  rcases l with _ | ⟨x, _ | ⟨y, _ | ⟨z, l⟩⟩⟩
  · simp at fs
  · simp at fs
  · simp only [List.map_cons, List.map_nil, List.cons.injEq, Prod.mk.injEq, and_true] at fs
    obtain ⟨⟨x1, x2, x3⟩, y1, y2, y3⟩ := fs
    have nx : x.name ≠ "_" := by simpa using x3
    have ny : y.name ≠ "_" := by simpa using y3
    have q1 := part_int w #[.int .i64 a, .int .i64 b] 0 _ rfl
    have q2 := part_int w #[.int .i64 a', .int .i64 b'] 0 _ rfl
    have q3 := part_int w #[.int .i64 a, .int .i64 b] 1 _ rfl
    have q4 := part_int w #[.int .i64 a', .int .i64 b'] 1 _ rfl
    have e1 := equalIn_ints w d a a'
    have e2 := equalIn_ints w d b b'
    cases h1 : (a == a') <;> cases h2 : (b == b') <;> simp [Op.eqFields, nx, ny, x1, x2, y1, y2, q1, q2, q3, q4, e1, e2, h1, h2]
  · simp at fs
theorem eql_motion (w : World) (a b a' b' : Int) : (binOp .eql 25 (.agg #[.int .i64 a, .int .i64 b]) (.agg #[.int .i64 a', .int .i64 b'])).run Tryz.prog w = .ok (.bool (a == a' && b == b')) w := by
  rw [run_eql_struct, show (10000 : Nat) = 9998 + 2 from rfl, equalIn_motion w 9998 a b a' b']
  rfl
theorem neq_motion (w : World) (a b a' b' : Int) : (binOp .neq 25 (.agg #[.int .i64 a, .int .i64 b]) (.agg #[.int .i64 a', .int .i64 b'])).run Tryz.prog w = .ok (.bool (!(a == a' && b == b'))) w := by
  rw [run_neq_struct, show (10000 : Nat) = 9998 + 2 from rfl, equalIn_motion w 9998 a b a' b']
  rfl
theorem part_motion (w : World) (cs : Array Value) (o : Nat) : (part 25 cs o).run Tryz.prog w = .ok (.agg (cs.extract o (o + 2))) w := by
  have u0 : Tryz.prog.underlying 25 = some (.struct (Tryz.prog.fieldsOf 25)) := by kernel_rfl
  obtain ⟨i, hi, hz⟩ : ∃ i, Tryz.prog.info? 25 = some i ∧ Tryz.prog.cellsOf 25 = 2 := by
    have h : (Tryz.prog.info? 25).isSome = true := by kernel_rfl
    have h2 : Tryz.prog.cellsOf 25 = 2 := by kernel_rfl
    obtain ⟨i, hi⟩ := Option.isSome_iff_exists.1 h
    exact ⟨i, hi, h2⟩
  simp [part, isAgg, run_underlying u0, run_sizeOf w hi, hz]
theorem equalIn_stop (w : World) (d : Nat) (a b a' b' : Int) : (Op.equalIn (d + 2) 34 (.agg #[.int .i64 a, .int .i64 b]) (.agg #[.int .i64 a', .int .i64 b'])).run Tryz.prog w = .ok (a == a' && b == b') w := by
  have u0 : Tryz.prog.underlying 34 = some (.struct (Tryz.prog.fieldsOf 34)) := by kernel_rfl
  have s0 : Tryz.prog.stoodInHeld 34 = false := by kernel_rfl
  have fs : (Tryz.prog.fieldsOf 34).toList.map (fun f => (f.type, f.offset, f.name == "_")) = [(3, 0, false), (3, 1, false)] := by kernel_rfl
  rw [run_equalIn_agg w _ _ _ _ u0 s0]
  generalize (Tryz.prog.fieldsOf 34).toList = l at fs
  rcases l with _ | ⟨x, _ | ⟨y, _ | ⟨z, l⟩⟩⟩
  · simp at fs
  · simp at fs
  · simp only [List.map_cons, List.map_nil, List.cons.injEq, Prod.mk.injEq, and_true] at fs
    obtain ⟨⟨x1, x2, x3⟩, y1, y2, y3⟩ := fs
    have nx : x.name ≠ "_" := by simpa using x3
    have ny : y.name ≠ "_" := by simpa using y3
    have q1 := part_int w #[.int .i64 a, .int .i64 b] 0 _ rfl
    have q2 := part_int w #[.int .i64 a', .int .i64 b'] 0 _ rfl
    have q3 := part_int w #[.int .i64 a, .int .i64 b] 1 _ rfl
    have q4 := part_int w #[.int .i64 a', .int .i64 b'] 1 _ rfl
    have e1 := equalIn_ints w d a a'
    have e2 := equalIn_ints w d b b'
    cases h1 : (a == a') <;> cases h2 : (b == b') <;> simp [Op.eqFields, nx, ny, x1, x2, y1, y2, q1, q2, q3, q4, e1, e2, h1, h2]
  · simp at fs
theorem eql_stop (w : World) (a b a' b' : Int) : (binOp .eql 34 (.agg #[.int .i64 a, .int .i64 b]) (.agg #[.int .i64 a', .int .i64 b'])).run Tryz.prog w = .ok (.bool (a == a' && b == b')) w := by
  rw [run_eql_struct, show (10000 : Nat) = 9998 + 2 from rfl, equalIn_stop w 9998 a b a' b']
  rfl
theorem neq_stop (w : World) (a b a' b' : Int) : (binOp .neq 34 (.agg #[.int .i64 a, .int .i64 b]) (.agg #[.int .i64 a', .int .i64 b'])).run Tryz.prog w = .ok (.bool (!(a == a' && b == b'))) w := by
  rw [run_neq_struct, show (10000 : Nat) = 9998 + 2 from rfl, equalIn_stop w 9998 a b a' b']
  rfl
theorem part_stop (w : World) (cs : Array Value) (o : Nat) : (part 34 cs o).run Tryz.prog w = .ok (.agg (cs.extract o (o + 2))) w := by
  have u0 : Tryz.prog.underlying 34 = some (.struct (Tryz.prog.fieldsOf 34)) := by kernel_rfl
  obtain ⟨i, hi, hz⟩ : ∃ i, Tryz.prog.info? 34 = some i ∧ Tryz.prog.cellsOf 34 = 2 := by
    have h : (Tryz.prog.info? 34).isSome = true := by kernel_rfl
    have h2 : Tryz.prog.cellsOf 34 = 2 := by kernel_rfl
    obtain ⟨i, hi⟩ := Option.isSome_iff_exists.1 h
    exact ⟨i, hi, h2⟩
  simp [part, isAgg, run_underlying u0, run_sizeOf w hi, hz]
theorem equalIn_door (w : World) (d : Nat) (a b a' b' : Int) : (Op.equalIn (d + 2) 27 (.agg #[.int .i64 a, .int .i64 b]) (.agg #[.int .i64 a', .int .i64 b'])).run Tryz.prog w = .ok (a == a' && b == b') w := by
  have u0 : Tryz.prog.underlying 27 = some (.struct (Tryz.prog.fieldsOf 27)) := by kernel_rfl
  have s0 : Tryz.prog.stoodInHeld 27 = false := by kernel_rfl
  have fs : (Tryz.prog.fieldsOf 27).toList.map (fun f => (f.type, f.offset, f.name == "_")) = [(3, 0, false), (3, 1, false)] := by kernel_rfl
  rw [run_equalIn_agg w _ _ _ _ u0 s0]
  generalize (Tryz.prog.fieldsOf 27).toList = l at fs
  rcases l with _ | ⟨x, _ | ⟨y, _ | ⟨z, l⟩⟩⟩
  · simp at fs
  · simp at fs
  · simp only [List.map_cons, List.map_nil, List.cons.injEq, Prod.mk.injEq, and_true] at fs
    obtain ⟨⟨x1, x2, x3⟩, y1, y2, y3⟩ := fs
    have nx : x.name ≠ "_" := by simpa using x3
    have ny : y.name ≠ "_" := by simpa using y3
    have q1 := part_int w #[.int .i64 a, .int .i64 b] 0 _ rfl
    have q2 := part_int w #[.int .i64 a', .int .i64 b'] 0 _ rfl
    have q3 := part_int w #[.int .i64 a, .int .i64 b] 1 _ rfl
    have q4 := part_int w #[.int .i64 a', .int .i64 b'] 1 _ rfl
    have e1 := equalIn_ints w d a a'
    have e2 := equalIn_ints w d b b'
    cases h1 : (a == a') <;> cases h2 : (b == b') <;> simp [Op.eqFields, nx, ny, x1, x2, y1, y2, q1, q2, q3, q4, e1, e2, h1, h2]
  · simp at fs
theorem eql_door (w : World) (a b a' b' : Int) : (binOp .eql 27 (.agg #[.int .i64 a, .int .i64 b]) (.agg #[.int .i64 a', .int .i64 b'])).run Tryz.prog w = .ok (.bool (a == a' && b == b')) w := by
  rw [run_eql_struct, show (10000 : Nat) = 9998 + 2 from rfl, equalIn_door w 9998 a b a' b']
  rfl
theorem neq_door (w : World) (a b a' b' : Int) : (binOp .neq 27 (.agg #[.int .i64 a, .int .i64 b]) (.agg #[.int .i64 a', .int .i64 b'])).run Tryz.prog w = .ok (.bool (!(a == a' && b == b'))) w := by
  rw [run_neq_struct, show (10000 : Nat) = 9998 + 2 from rfl, equalIn_door w 9998 a b a' b']
  rfl
theorem part_door (w : World) (cs : Array Value) (o : Nat) : (part 27 cs o).run Tryz.prog w = .ok (.agg (cs.extract o (o + 2))) w := by
  have u0 : Tryz.prog.underlying 27 = some (.struct (Tryz.prog.fieldsOf 27)) := by kernel_rfl
  obtain ⟨i, hi, hz⟩ : ∃ i, Tryz.prog.info? 27 = some i ∧ Tryz.prog.cellsOf 27 = 2 := by
    have h : (Tryz.prog.info? 27).isSome = true := by kernel_rfl
    have h2 : Tryz.prog.cellsOf 27 = 2 := by kernel_rfl
    obtain ⟨i, hi⟩ := Option.isSome_iff_exists.1 h
    exact ⟨i, hi, h2⟩
  simp [part, isAgg, run_underlying u0, run_sizeOf w hi, hz]
theorem eql_lift (w : World) (a b c d a' b' c' d' : Int) : (binOp .eql 29 (.agg #[.int .i64 a, .int .i64 b, .int .i64 c, .int .i64 d]) (.agg #[.int .i64 a', .int .i64 b', .int .i64 c', .int .i64 d'])).run Tryz.prog w = .ok (.bool ((a == a' && b == b') && (c == c' && d == d'))) w := by
  have u0 : Tryz.prog.underlying 29 = some (.struct (Tryz.prog.fieldsOf 29)) := by kernel_rfl
  have s0 : Tryz.prog.stoodInHeld 29 = false := by kernel_rfl
  have fs : (Tryz.prog.fieldsOf 29).toList.map (fun f => (f.type, f.offset, f.name == "_")) = [(25, 0, false), (27, 2, false)] := by kernel_rfl
  rw [run_eql_struct, show (10000 : Nat) = 9999 + 1 from rfl, run_equalIn_agg w _ _ _ _ u0 s0]
  generalize (Tryz.prog.fieldsOf 29).toList = l at fs
  rcases l with _ | ⟨x, _ | ⟨y, _ | ⟨z, l⟩⟩⟩
  · simp at fs
  · simp at fs
  · simp only [List.map_cons, List.map_nil, List.cons.injEq, Prod.mk.injEq, and_true] at fs
    obtain ⟨⟨x1, x2, x3⟩, y1, y2, y3⟩ := fs
    have nx : x.name ≠ "_" := by simpa using x3
    have ny : y.name ≠ "_" := by simpa using y3
    have q1 := part_motion w #[.int .i64 a, .int .i64 b, .int .i64 c, .int .i64 d] 0
    have q2 := part_motion w #[.int .i64 a', .int .i64 b', .int .i64 c', .int .i64 d'] 0
    have q3 := part_door w #[.int .i64 a, .int .i64 b, .int .i64 c, .int .i64 d] 2
    have q4 := part_door w #[.int .i64 a', .int .i64 b', .int .i64 c', .int .i64 d'] 2
    have e1 := equalIn_motion w 9997 a b a' b'
    have e2 := equalIn_door w 9997 c d c' d'
    cases h1 : (a == a' && b == b') <;> cases h2 : (c == c' && d == d') <;> simp [Op.eqFields, nx, ny, x1, x2, y1, y2, q1, q2, q3, q4, e1, e2, h1, h2]
  · simp at fs

/-- Calls are the same. -/
def sameCb (nu nd nc : Nat) (up dn car : Nat → Bool) (nu' nd' nc' : Nat) (up' dn' car' : Nat → Bool) : Bool := eqBb up nu up' nu' && eqBb dn nd dn' nd' && eqBb car nc car' nc'
theorem sameCb_refl (nu nd nc : Nat) (up dn car : Nat → Bool) : sameCb nu nd nc up dn car nu nd nc up dn car = true := by simp [sameCb, eqBb_refl']
set_option maxHeartbeats 1600000 in
theorem sameCalls_any {w : World} {B B' : Nat} {U D C U' D' C' : Option Addr} {nu cu nd cd nc cc nu' cu' nd' cd' nc' cc' : Nat} {up dn car up' dn' car' : Nat → Bool} (n1 : nu ≤ 9223372036854775806) (n2 : nd ≤ 9223372036854775806) (n3 : nc ≤ 9223372036854775806) (hB : B ≤ w.heap.size) (hB' : B' ≤ w.heap.size)
    (hu : Bools w B U nu up) (hd : Bools w B D nd dn) (hc : Bools w B C nc car) (hu' : Bools w B' U' nu' up') (hd' : Bools w B' D' nd' dn') (hc' : Bools w B' C' nc' car') :
    Calls Tryz.prog 37 #[.agg #[.slice U nu cu, .slice D nd cd, .slice C nc cc], .agg #[.slice U' nu' cu', .slice D' nd' cd', .slice C' nc' cc']] w fun e w' => e = .returned (.bool (sameCb nu nd nc up dn car nu' nd' nc' up' dn' car')) ∧ Below w.heap.size w w' := by
  have HF0 := Lib.hid (Fr2.start (w := w) (P := #[.slice U nu cu, .slice D nd cd, .slice C nc cc]) (R := #[.slice U' nu' cu', .slice D' nd' cd', .slice C' nc' cc']) (T := 32) (T' := 32))
  have HE : Hid (∀ r1 r2 r3, eqBb up nu up' nu' = r1 → eqBb dn nd dn' nd' = r2 → eqBb car nc car' nc' = r3 → sameCb nu nd nc up dn car nu' nd' nc' up' dn' car' = (r1 && r2 && r3)) := Lib.hid (by intro r1 r2 r3 h1 h2 h3; rw [← h1, ← h2, ← h3]; rfl)
  have HU := Lib.hid hu
  have HD := Lib.hid hd
  have HC := Lib.hid hc
  have HU' := Lib.hid hu'
  have HD' := Lib.hid hd'
  have HC' := Lib.hid hc'
  clear hu hd hc hu' hd' hc'
  go_enter Tryz.func37, Tryz.ntmps37
  go_wp2_with fail
  refine (sameBools_any n1 (HU.out.below (HF0.out.b.mono hB)) (HU'.out.below (HF0.out.b.mono hB'))).mono ?_
  rintro e w1 ⟨rfl, hd1⟩
  have HF1 := Lib.hid (HF0.out.drewed hd1)
  clear hd1 HF0
  generalize h1 : eqBb up nu up' nu' = r1
  have H1 := Lib.hid h1
  clear h1
  have c0 := HF1.out.x0.cells
  have c1 := HF1.out.x1.cells
  cases r1
  · go_wp2
    go_ret
    exact ⟨ret_bool (by rw [HE.out _ _ _ H1.out rfl rfl]; rfl), HF1.out.b⟩
  go_wp2_with fail
  refine (sameBools_any n2 (HD.out.below (HF1.out.b.mono hB)) (HD'.out.below (HF1.out.b.mono hB'))).mono ?_
  rintro e w2 ⟨rfl, hd2⟩
  have HF2 := Lib.hid (HF1.out.drewed hd2)
  clear hd2 HF1 c0 c1
  generalize h2 : eqBb dn nd dn' nd' = r2
  have H2 := Lib.hid h2
  clear h2
  have c0 := HF2.out.x0.cells
  have c1 := HF2.out.x1.cells
  cases r2
  · go_wp2
    go_ret
    exact ⟨ret_bool (by rw [HE.out _ _ _ H1.out H2.out rfl]; rfl), HF2.out.b⟩
  go_wp2_with fail
  refine (sameBools_any n3 (HC.out.below (HF2.out.b.mono hB)) (HC'.out.below (HF2.out.b.mono hB'))).mono ?_
  rintro e w3 ⟨rfl, hd3⟩
  have HF3 := Lib.hid (HF2.out.drewed hd3)
  clear hd3 HF2 c0 c1
  generalize h3 : eqBb car nc car' nc' = r3
  have H3 := Lib.hid h3
  clear h3
  go_wp2
  go_ret
  exact ⟨ret_bool (by rw [HE.out _ _ _ H1.out H2.out H3.out]; rfl), HF3.out.b⟩

/-- Buildings are the same. -/
def sameP (a b : Bld) : Bool :=
  eqB a.f a.n b.f b.n && ((a.pos == b.pos && a.sp == b.sp) && (a.gap == b.gap && a.hold == b.hold)) && sameCb a.nu a.nd a.nc a.up a.dn a.car b.nu b.nd b.nc b.up b.dn b.car && (a.fl == b.fl && a.dir == b.dir) && (a.op == b.op)
theorem sameP_refl (b : Bld) : sameP b b = true := by simp [sameP, eqB_refl, sameCb_refl]
set_option maxHeartbeats 6400000 in
theorem sameBuild_any {w : World} {B B' : Nat} {v v' : Bv} {a b : Bld} (hn : a.Small) (hB : B ≤ w.heap.size) (hB' : B' ≤ w.heap.size) (hr : ReadB w B v a) (hr' : ReadB w B' v' b) :
    Calls Tryz.prog 10 #[bval v a, bval v' b] w fun e w' => e = .returned (.bool (sameP a b)) ∧ Below w.heap.size w w' := by
  have HF0 := Lib.hid (Fr2.start (w := w) (P := bcells v a) (R := bcells v' b) (T := 36) (T' := 36))
  have HE : Hid (∀ r1 r2 r3 r4, eqB a.f a.n b.f b.n = r1 → ((a.pos == b.pos && a.sp == b.sp) && (a.gap == b.gap && a.hold == b.hold)) = r2 → sameCb a.nu a.nd a.nc a.up a.dn a.car b.nu b.nd b.nc b.up b.dn b.car = r3 → (a.fl == b.fl && a.dir == b.dir) = r4 → sameP a b = (r1 && r2 && r3 && r4 && (a.op == b.op))) :=
    Lib.hid (by intro r1 r2 r3 r4 h1 h2 h3 h4; rw [← h1, ← h2, ← h3, ← h4]; rfl)
  have HR := Lib.hid hr
  have HR' := Lib.hid hr'
  obtain ⟨m0, m1, m2, m3⟩ := hn
  clear hr hr'
  have hL : ∀ W : World, (binOp .eql 29 (.agg #[.int .i64 a.pos, .int .i64 a.sp, .int .i64 a.gap, .int .i64 a.hold]) (.agg #[.int .i64 b.pos, .int .i64 b.sp, .int .i64 b.gap, .int .i64 b.hold])).run Tryz.prog W = .ok (.bool ((a.pos == b.pos && a.sp == b.sp) && (a.gap == b.gap && a.hold == b.hold))) W := fun W => eql_lift W _ _ _ _ _ _ _ _
  have hS : ∀ W : World, (binOp .eql 34 (.agg #[.int .i64 a.fl, .int .i64 a.dir]) (.agg #[.int .i64 b.fl, .int .i64 b.dir])).run Tryz.prog W = .ok (.bool (a.fl == b.fl && a.dir == b.dir)) W := fun W => eql_stop W _ _ _ _
  generalize h2 : ((a.pos == b.pos && a.sp == b.sp) && (a.gap == b.gap && a.hold == b.hold)) = r2 at hL
  generalize h4 : (a.fl == b.fl && a.dir == b.dir) = r4 at hS
  have H2 := Lib.hid h2
  have H4 := Lib.hid h4
  clear h2 h4
  unfold bval bcells at *
  go_enter Tryz.func10, Tryz.ntmps10
  go_wp2_with fail
  refine (sameInts_any (by omega) (HR.out.below (HF0.out.b.mono hB)).h (HR'.out.below (HF0.out.b.mono hB')).h).mono ?_
  rintro e w1 ⟨rfl, hd1⟩
  have HF1 := Lib.hid (HF0.out.drewed hd1)
  clear hd1 HF0
  generalize h1 : eqB a.f a.n b.f b.n = r1
  have H1 := Lib.hid h1
  clear h1
  have c0 := HF1.out.x0.cells
  have c1 := HF1.out.x1.cells
  cases r1
  · go_wp2
    go_ret
    exact ⟨ret_bool (by rw [HE.out _ _ _ _ H1.out H2.out rfl H4.out]; simp), HF1.out.b⟩
  cases r2
  · go_wp2
    go_ret
    exact ⟨ret_bool (by rw [HE.out _ _ _ _ H1.out H2.out rfl H4.out]; simp), HF1.out.b⟩
  have HR1 := Lib.hid (HR.out.below (HF1.out.b.mono hB))
  have HR1' := Lib.hid (HR'.out.below (HF1.out.b.mono hB'))
  go_wp2_with fail
  refine (sameCalls_any (by omega) (by omega) (by omega) (Nat.le_trans hB HF1.out.b.size) (Nat.le_trans hB' HF1.out.b.size) HR1.out.u HR1.out.d HR1.out.c HR1'.out.u HR1'.out.d HR1'.out.c).mono ?_
  rintro e w3 ⟨rfl, hb3⟩
  have HF3 := Lib.hid (HF1.out.call hb3)
  clear hb3 HF1 c0 c1 HR1 HR1'
  generalize h3 : sameCb a.nu a.nd a.nc a.up a.dn a.car b.nu b.nd b.nc b.up b.dn b.car = r3
  have H3 := Lib.hid h3
  clear h3
  have c0 := HF3.out.x0.cells
  have c1 := HF3.out.x1.cells
  cases r3
  · go_wp2
    go_ret
    exact ⟨ret_bool (by rw [HE.out _ _ _ _ H1.out H2.out H3.out H4.out]; simp), HF3.out.b⟩
  cases r4
  · go_wp2
    go_ret
    exact ⟨ret_bool (by rw [HE.out _ _ _ _ H1.out H2.out H3.out H4.out]; simp), HF3.out.b⟩
  · go_wp2
    go_ret
    exact ⟨ret_bool (by rw [HE.out _ _ _ _ H1.out H2.out H3.out H4.out]; simp), HF3.out.b⟩
theorem read_none (w : World) (B : Nat) : ReadB w B Bv.none Bld.none :=
  ⟨Ints.zero, fun h => absurd h (by simp [Bld.none]), fun h => absurd h (by simp [Bld.none]), fun h => absurd h (by simp [Bld.none]), fun _ => rfl, fun _ => rfl, fun _ => rfl, fun _ => rfl⟩
theorem noBuild_any {w : World} {B : Nat} {v : Bv} {b : Bld} (hn : b.Small) (hB : B ≤ w.heap.size) (hr : ReadB w B v b) :
    Calls Tryz.prog 13 #[bval v b] w fun e w' => e = .returned (.bool (sameP b Bld.none)) ∧ Below w.heap.size w w' := by
  have HR := Lib.hid hr
  have HN := Lib.hid hn
  clear hr hn
  unfold bval bcells
  go_enter Tryz.func13, Tryz.ntmps13
  go_wp2_with fail
  refine (sameBuild_any (v := v) (v' := Bv.none) (b := Bld.none) HN.out (Nat.le_trans hB (by simp)) (Nat.le_trans hB (by simp)) (HR.out.alloc hB _) (read_none _ B)).mono ?_
  rintro e w1 ⟨rfl, hb1⟩
  have HB1 := Lib.hid (boxed hb1)
  clear hb1
  go_wp2
  go_ret
  exact ⟨rfl, HB1.out⟩
/-- A number is among others. -/
def hasB (f : Nat → Int) (n : Nat) (x : Int) : Bool := !allB (fun i => !(f i == x)) n
theorem hasB_iff {f : Nat → Int} {n : Nat} {x : Int} : hasB f n x = true ↔ ∃ i, i < n ∧ f i = x := by
  unfold hasB
  constructor
  · intro h
    rw [Bool.not_eq_true', Bool.eq_false_iff] at h
    simp only [ne_eq, allB_iff] at h
    apply Classical.byContradiction
    intro hno
    apply h
    intro i hi
    simp only [Bool.not_eq_true', beq_eq_false_iff_ne]
    exact fun e => hno ⟨i, hi, e⟩
  · rintro ⟨i, hi, h⟩
    rw [Bool.not_eq_true', Bool.eq_false_iff]
    intro h'
    have := allB_iff.1 h' i hi
    simp [h] at this
end Go.Proofs.YthkpikkjgggimaaGreatDoor
