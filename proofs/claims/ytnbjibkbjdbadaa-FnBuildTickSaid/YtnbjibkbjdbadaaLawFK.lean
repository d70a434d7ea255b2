/-
  The law FnBuildTick: the walk. No claim stands here.
-/
import Derived.Test.YtnbjibkbjdbadaaLB
import Derived.Test.YtnbjibkbjdbadaaDrawH
import Derived.Test.YtnbjibkbjdbadaaVisM
import Derived.Deep.RegionHeld3
namespace Go.Proofs.Ytnbjibkbjdbadaa
open Go.RowKit
set_option linter.unusedVariables false
set_option linter.unusedSimpArgs false

/-- What kinds of ticks there are, whatever is in the way. -/
theorem tick_parts {b : Bld} (h : b.Ok) (bl : Bool) :
    ((b.tick bl).up = b.up ∧ (b.tick bl).dn = b.dn ∧ (b.tick bl).car = b.car) ∨ (0 ≤ b.fl ∧ b.stand = b.fl ∧ b.tick bl = b.serve) := by
  by_cases hg : 0 < b.gap ∨ b.op = true
  · rw [tick_open hg]; exact .inl ⟨rfl, rfl, rfl⟩
  · by_cases h1 : 0 ≤ b.fl
    · by_cases h2 : b.stand = b.fl
      · exact .inr ⟨h1, h2, tick_serve hg h1 h2⟩
      · rw [tick_move hg h1 h2]; exact .inl ⟨rfl, rfl, rfl⟩
    · rw [tick_look hg h1]; unfold Bld.look; split <;> exact .inl ⟨rfl, rfl, rfl⟩
/-- What the law FnBuildTick asks of one floor. -/
theorem tick_says {b : Bld} (h : b.Ok) (bl : Bool) (k : Nat) :
    ((b.tick bl).up k = b.up k ∨ (b.up k = true ∧ (b.tick bl).up k = false)) ∧ ((b.tick bl).dn k = b.dn k ∨ (b.dn k = true ∧ (b.tick bl).dn k = false)) ∧ ((b.tick bl).car k = b.car k ∨ (b.car k = true ∧ (b.tick bl).car k = false)) ∧
    (((b.tick bl).up k = b.up k ∧ (b.tick bl).dn k = b.dn k ∧ (b.tick bl).car k = b.car k) ∨ (b.pos = b.f k ∧ b.sp = 0 ∧ (b.tick bl).op = true)) := by
  rcases tick_parts h bl with ⟨h1, h2, h3⟩ | ⟨h1, h2, h3⟩
  · rw [h1, h2, h3]; exact ⟨.inl rfl, .inl rfl, .inl rfl, .inl ⟨rfl, rfl, rfl⟩⟩
  · rw [h3]
    obtain ⟨s1, s2, s3, s4⟩ := serve_call b k
    have key : ∀ x y : Bool, (x = true → y = true) → x = y ∨ (y = true ∧ x = false) := by intro x y h; cases x <;> cases y <;> simp_all
    refine ⟨key _ _ s1, key _ _ s2, key _ _ s3, ?_⟩
    by_cases hk : k = b.fl.toNat
    · right
      have hs := stand_at (f := b.f) (n := b.n) (pos := b.pos) (sp := b.sp) (by show 0 ≤ b.stand; omega)
      have hf : standF b.f b.n b.pos b.sp = b.fl := h2
      rw [hf] at hs
      rw [hk]
      exact ⟨hs.2.symm, hs.1, rfl⟩
    · obtain ⟨a1, a2, a3⟩ := s4 hk
      exact .inl ⟨a1, a2, a3⟩
theorem tick_still {b : Bld} (h : b.Ok) (bl : Bool) : (b.gap = 0 ∨ (0 < b.gap ∧ (b.tick bl).pos = b.pos ∧ (b.tick bl).sp = b.sp)) ∧ (bl = true → b.gap ≤ (b.tick bl).gap) := by
  have hd := doorB_iff.1 h.door
  refine ⟨?_, fun hbl => ?_⟩
  · by_cases h0 : b.gap = 0
    · exact .inl h0
    · right
      have hg : 0 < b.gap := by omega
      rw [tick_open (.inl hg)]
      exact ⟨hg, rfl, rfl⟩
  · subst hbl
    by_cases hg : 0 < b.gap ∨ b.op = true
    · rw [tick_open hg]
      show b.gap ≤ doorG b.gap b.hold b.op true
      unfold doorG wide
      by_cases h0 : 0 < b.gap
      · simp [h0]
        split <;> omega
      · have : b.op = true := by rcases hg with hg | hg
                                 · exact absurd hg h0
                                 · exact hg
        simp [this]
        split <;> omega
    · by_cases h1 : 0 ≤ b.fl
      · by_cases h2 : b.stand = b.fl
        · rw [tick_serve hg h1 h2]; exact Int.le_refl _
        · rw [tick_move hg h1 h2]; exact Int.le_refl _
      · rw [tick_look hg h1]; unfold Bld.look; split <;> exact Int.le_refl _
set_option maxRecDepth 8000 in
set_option maxHeartbeats 102400000 in
theorem law_BuildTick {w : World} {A : Option Addr} {n c : Nat} {h : Nat → Int} (hc : n ≤ c) (hs : Bytes w w.heap.size A n h) :
    Calls Try.prog 5 #[.slice A n c] w fun e w' => e = .returned (.bool true) ∧ Below w.heap.size w w' := by
  by_cases h20 : n ≤ 1048576
  · go_enter Try.func5, Try.ntmps5
    go_wp2_with fail
    refine (DrawBuildTick_any (Nat.le_refl _) hc hs).mono ?_
    rintro e w1 ⟨v, b, bl, rfl, hr1, hu, hb1⟩
    have HSm := Lib.hid (hu.small (by omega))
    have HL := Lib.hid (LB.new 36 hr1 hb1)
    clear hr1 hu hb1 hs
    unfold bcells at HL
    simp only [bval, bcells]
    have c0 := HL.out.cells
    have HXS := Lib.hid (ticked_small HSm.out bl)
    have HSP : Hid (∀ (W : World), ReadB W W.heap.size v b → Calls Try.prog 24 #[bval v b, .bool bl] W (TickPost b bl W)) := Lib.hid (fun W h => spec_BuildTick bl HSm.out (Nat.le_refl _) h)
    have HIM : Hid (∀ (W : World), ReadB W W.heap.size v b → Calls Try.prog 23 #[bval v b, .bool bl] W (TickPost b bl W)) := Lib.hid (fun W h => impl_BuildTick bl HSm.out (Nat.le_refl _) h)
    have HFA : Hid (b.valid = false → b.ticked bl = Bld.none) := Lib.hid (fun hv => by simp [Bld.ticked, hv])
    have HFB : Hid (b.valid = true → b.ticked bl = b.tick bl) := Lib.hid (fun hv => ticked_yes hv)
    unfold TickPost at HSP HIM
    generalize b.ticked bl = x at *
    go_wp2_with fail
    refine (HIM.out _ HL.out.read).mono ?_
    rintro e w2 ⟨vx, rfl, ho2, hb2⟩
    simp only [bval, bcells]
    have HL2 := Lib.hid ((HL.out.call hb2).alloc (.cells (bcells vx x) 36))
    have HX2 := Lib.hid (LB.new 36 ho2.read (HL.out.call hb2).o)
    clear hb2 HL c0 ho2
    unfold bcells at HL2 HX2
    have c0 := HL2.out.cells
    have c1 := HX2.out.cells
    have HLd := Lib.hid HL2.out.drew
    have HXd := Lib.hid HX2.out.drew
    go_wp2
    go_region_held3 (fun w' => (∀ o, w'.cell? ⟨w1.heap.size, o, none⟩ = (#[.slice v.A b.n v.c, .int .i64 b.pos, .int .i64 b.sp, .int .i64 b.gap, .int .i64 b.hold, .slice v.U b.nu v.cu, .slice v.D b.nd v.cd, .slice v.C b.nc v.cc, .int .i64 b.fl, .int .i64 b.dir, .bool b.op] : Array Value)[o]?) ∧ (∀ o, w'.cell? ⟨w2.heap.size, o, none⟩ = (#[.slice vx.A x.n vx.c, .int .i64 x.pos, .int .i64 x.sp, .int .i64 x.gap, .int .i64 x.hold, .slice vx.U x.nu vx.cu, .slice vx.D x.nd vx.cd, .slice vx.C x.nc vx.cc, .int .i64 x.fl, .int .i64 x.dir, .bool x.op] : Array Value)[o]?)) (first | exact ⟨HLd.out.cells, HXd.out.cells⟩ | exact ⟨HL3.out.cells, HX3.out.cells⟩ | exact ⟨HL4.out.cells, HX4.out.cells⟩) (first
      | (go_at_call 24; refine (HSP.out _ HLd.out.read).mono ?_; rintro e w3 ⟨vy, rfl, ho3, hb3⟩; simp only [bval, bcells]; have HL3 := Lib.hid (HLd.out.call hb3); have HX3 := Lib.hid (HXd.out.call hb3); have HY3 := Lib.hid ho3.read; clear hb3 ho3)
      | (go_at_call 20; refine (sameBuild_any (v := vx) (v' := vy) (a := x) (b := x) HXS.out (Nat.le_refl _) (Nat.le_refl _) HX3.out.read HY3.out).mono ?_; rintro e w4 ⟨rfl, hb4⟩; rw [sameP_refl]; have HL4 := Lib.hid (HL3.out.call hb4); have HX4 := Lib.hid (HX3.out.call hb4); clear hb4))
    clear HLd HXd HL3 HX3 HY3 HL2 HX2 c0 c1
    have c0 := HL4.out.cells
    have c1 := HX4.out.cells
    go_wp2_with fail
    refine (spec_BuildValid (v := v) (b := b) HSm.out (Nat.le_refl _) HL4.out.read).mono ?_
    rintro e w5 ⟨rfl, hb5⟩
    have HL5 := Lib.hid (HL4.out.call hb5)
    have HX5 := Lib.hid (HX4.out.call hb5)
    clear hb5 HL4 HX4 c0 c1
    have c0 := HL5.out.cells
    have c1 := HX5.out.cells
    cases hv : b.valid
    · have he := HFA.out hv
      have HP := Lib.hid (show sameP x Bld.none = true by rw [he]; exact sameP_refl _)
      clear hv he HFA HFB
      go_wp2_with fail
      refine (noBuild_any (v := vx) (b := x) HXS.out (Nat.le_refl _) HX5.out.read).mono ?_
      rintro e w6 ⟨rfl, hb6⟩
      rw [HP.out]
      have HL6 := Lib.hid (HL5.out.call hb6)
      clear hb6 HL5 HX5 c0 c1
      go_wp2_with fail
      refine alive_any.mono ?_
      rintro e w7 ⟨rfl, hb7⟩
      have HL7 := Lib.hid (HL6.out.call hb7)
      clear hb7 HL6
      go_wp2
      go_ret
      exact ⟨rfl, HL7.out.o⟩
    · have hx := HFB.out hv
      have hok := valid_iff.1 hv
      have hokx : x.Ok := by rw [hx]; exact tick_ok hok bl
      obtain ⟨z1, z2, z3, z4, z5⟩ := hok.sizes
      obtain ⟨y1, y2, y3, y4, y5⟩ := hokx.sizes
      have hxn : x.n = b.n := by rw [hx]; exact (tick_floors b bl).2
      have HS := Lib.hid (show ∀ k, (x.up k = b.up k ∨ (b.up k = true ∧ x.up k = false)) ∧ (x.dn k = b.dn k ∨ (b.dn k = true ∧ x.dn k = false)) ∧ (x.car k = b.car k ∨ (b.car k = true ∧ x.car k = false)) ∧ ((x.up k = b.up k ∧ x.dn k = b.dn k ∧ x.car k = b.car k) ∨ (b.pos = b.f k ∧ b.sp = 0 ∧ x.op = true)) by rw [hx]; exact fun k => tick_says hok bl k)
      have HST := Lib.hid (show (b.gap = 0 ∨ (0 < b.gap ∧ x.pos = b.pos ∧ x.sp = b.sp)) ∧ (bl = true → b.gap ≤ x.gap) by rw [hx]; exact tick_still hok bl)
      have HXV := Lib.hid (valid_iff.2 hokx)
      clear hv hx hok hokx HFA HFB HSP HIM
      obtain ⟨A', cA', U', cu', D', cd', C', cc'⟩ := v
      obtain ⟨nn, f', pos', sp', gap', hold', nu', up', nd', dn', nc', car', fl', dir', op'⟩ := b
      obtain ⟨xA, xcA, xU, xcu, xD, xcd, xC, xcc⟩ := vx
      obtain ⟨xn, xf, xpos, xsp, xgap, xhold, xnu, xup, xnd, xdn, xnc, xcar, xfl, xdir, xop⟩ := x
      simp only at z1 z2 z3 z4 z5 y1 y2 y3 y4 y5 hxn c0 c1
      replace z1 := z1.symm
      replace z2 := z2.symm
      replace z3 := z3.symm
      subst z1
      subst z2
      subst z3
      replace hxn := hxn.symm
      subst hxn
      replace y1 := y1.symm
      replace y2 := y2.symm
      replace y3 := y3.symm
      subst y1
      subst y2
      subst y3
      obtain ⟨bA, oA, hA, _, gA⟩ := HL5.out.r.h z4
      obtain ⟨bU, oU, hU, _, gU⟩ := HL5.out.r.u z4
      obtain ⟨bD, oD, hD, _, gD⟩ := HL5.out.r.d z4
      obtain ⟨bC, oC, hC, _, gC⟩ := HL5.out.r.c z4
      obtain ⟨dU, pU, hxU, _, gxU⟩ := HX5.out.r.u z4
      obtain ⟨dD, pD, hxD, _, gxD⟩ := HX5.out.r.d z4
      obtain ⟨dC, pC, hxC, _, gxC⟩ := HX5.out.r.c z4
      simp only at hA hU hD hC hxU hxD hxC gA gU gD gC gxU gxD gxC
      subst hA hU hD hC hxU hxD hxC
      have GA := Lib.hid gA
      have GU := Lib.hid gU
      have GD := Lib.hid gD
      have GC := Lib.hid gC
      have KU := Lib.hid gxU
      have KD := Lib.hid gxD
      have KC := Lib.hid gxC
      clear gA gU gD gC gxU gxD gxC
      have HLD : Hid (∀ m, LB w (w5.drewN m) w1.heap.size ⟨some ⟨bA, oA, none⟩, cA', some ⟨bU, oU, none⟩, cu', some ⟨bD, oD, none⟩, cd', some ⟨bC, oC, none⟩, cc'⟩ ⟨nn, f', pos', sp', gap', hold', nn, up', nn, dn', nn, car', fl', dir', op'⟩) := Lib.hid (fun m => HL5.out.call (below_drewN (Below.refl _ _) m))
      have HXD : Hid (∀ m, LB w (w5.drewN m) w2.heap.size ⟨xA, xcA, some ⟨dU, pU, none⟩, xcu, some ⟨dD, pD, none⟩, xcd, some ⟨dC, pC, none⟩, xcc⟩ ⟨nn, xf, xpos, xsp, xgap, xhold, nn, xup, nn, xdn, nn, xcar, xfl, xdir, xop⟩) := Lib.hid (fun m => HX5.out.call (below_drewN (Below.refl _ _) m))
      clear HL5 HX5
      go_wp2
      go_loopw [6] (fun s6 wr => ∃ k : Nat, s6 = .int .i64 k ∧ k ≤ nn ∧ Drew w5 wr) (fun s6 _ => nn - (intOf s6).toNat)
      case atStart => exact ⟨0, rfl, by omega, Drew.refl _⟩
      case round =>
        obtain ⟨k, rfl, hk, m, rfl⟩ := hrel
        by_cases hlt : k < nn
        · have e0 := GA.out k hlt
          have e1 := GC.out k hlt
          have e2 := GU.out k hlt
          have e3 := GD.out k hlt
          have i1 := KC.out k hlt
          have i2 := KU.out k hlt
          have i3 := KD.out k hlt
          obtain ⟨s2, s3, s1, sg⟩ := HS.out k
          try simp only at s1 s2 s3 sg
          have HST' := Lib.hid HST.out
          clear HST HS HXV GA GU GD GC KU KD KC HLD HXD
          generalize f' k = z at *
          generalize car' k = p1 at *
          generalize up' k = p2 at *
          generalize dn' k = p3 at *
          generalize xcar k = q1 at *
          generalize xup k = q2 at *
          generalize xdn k = q3 at *
          rcases s1 with rfl | ⟨rfl, rfl⟩ <;> rcases s2 with rfl | ⟨rfl, rfl⟩ <;> rcases s3 with rfl | ⟨rfl, rfl⟩
          · clear sg
            cases q1 <;> cases q2 <;> cases q3
            all_goals as_aux_lemma =>
              go_wp2
              go_quiet (fail)
              go_wp2
              go_roundw
              case rel => exact ⟨k + 1, by go_num, by omega, by first | exact ⟨_, rfl⟩ | exact ⟨_, World.drewN_drewN _ _ _⟩⟩
              case measure => simp [intOf]; omega
          all_goals
            rcases sg with ⟨g1, g2, g3⟩ | ⟨g1, g2, g3⟩
            · exfalso
              revert g1 g2 g3
              simp
            · subst g1
              subst g2
              subst g3
              (try cases q1) <;> (try cases q2) <;> (try cases q3)
              all_goals as_aux_lemma =>
                go_wp2
                go_quiet (fail)
                go_wp2
                go_roundw
                case rel => exact ⟨k + 1, by go_num, by omega, by first | exact ⟨_, rfl⟩ | exact ⟨_, World.drewN_drewN _ _ _⟩⟩
                case measure => simp [intOf]; omega
        · obtain rfl : k = nn := by omega
          obtain ⟨st1, st2⟩ := HST.out
          try simp only at st1 st2
          have HLm := Lib.hid (HLD.out m)
          have HXm := Lib.hid (HXD.out m)
          clear HLD HXD HST HS c0 c1
          generalize w5.drewN m = w6 at *
          have c0 := HLm.out.cells
          have c1 := HXm.out.cells
          try simp only at c0 c1
          go_wp2_with fail
          refine (impl_BuildValid HXS.out (Nat.le_refl _) HXm.out.read).mono ?_
          rintro e w7 ⟨rfl, hb7⟩
          rw [HXV.out]
          have HLn := Lib.hid (HLm.out.call hb7)
          have HXn := Lib.hid (HXm.out.call hb7)
          clear hb7 HLm HXm c0 c1
          have c0 := HLn.out.cells
          have c1 := HXn.out.cells
          try simp only at c0 c1
          rcases st1 with h0 | ⟨h0, hp, hsp⟩
          · subst h0
            cases bl
            · clear st2
              go_wp2
              go_ret
              exact ⟨rfl, HLn.out.o⟩
            · have st3 := st2 rfl
              clear st2
              go_wp2
              go_ret
              exact ⟨rfl, HLn.out.o⟩
          · subst hp hsp
            have q0 : (gap' == 0) = false := by simp; omega
            have hrun : ∀ W : World, (binOp .eql 25 (.agg #[.int .i64 xpos, .int .i64 xsp]) (.agg #[.int .i64 xpos, .int .i64 xsp])).run Try.prog W = .ok (.bool true) W := fun W => by rw [eql_motion]; simp
            cases bl
            · clear st2
              go_wp2
              go_ret
              exact ⟨rfl, HLn.out.o⟩
            · have st3 := st2 rfl
              clear st2
              go_wp2
              go_ret
              exact ⟨rfl, HLn.out.o⟩
  · go_enter Try.func5, Try.ntmps5
    go_wp2
    go_ret
    exact ⟨rfl, Below.refl _ _⟩
end Go.Proofs.Ytnbjibkbjdbadaa
