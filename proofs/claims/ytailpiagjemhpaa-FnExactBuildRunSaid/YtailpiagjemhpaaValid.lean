/-
  The contracts of CallsValid and BuildValid, in the program and in the reference. No claim stands here.
-/
import Derived.Test.YtailpiagjemhpaaBv
namespace Go.Proofs.Ytailpiagjemhpaa
open Go.RowKit
set_option linter.unusedVariables false
set_option linter.unusedSimpArgs false

theorem calls_no {nu nd nc : Nat} {up dn : Nat → Bool} (h : ¬ (1 ≤ nu ∧ nu ≤ 8 ∧ nd = nu ∧ nc = nu)) : callsB nu nd nc up dn = false := by
  rw [Bool.eq_false_iff]; intro h'
  obtain ⟨a, b, c, d, _⟩ := callsB_iff.1 h'
  exact h ⟨a, b, c, d⟩
theorem calls_end {nu : Nat} {up dn : Nat → Bool} (h1 : 1 ≤ nu) (h2 : nu ≤ 8) : callsB nu nu nu up dn = (!(up (nu - 1)) && !(dn 0)) := by simp [callsB, h1, h2]

set_option maxHeartbeats 1600000 in
theorem impl_CallsValid {w : World} {B : Nat} {U D C : Option Addr} {nu cu nd cd nc cc : Nat} {up dn : Nat → Bool} (n1 : nu ≤ 9223372036854775806) (n2 : nd ≤ 9223372036854775806) (n3 : nc ≤ 9223372036854775806) (hB : B ≤ w.heap.size)
    (hu : Bools w B U nu up) (hd : Bools w B D nd dn) :
    Calls Try.prog 62 #[.agg #[.slice U nu cu, .slice D nd cd, .slice C nc cc]] w fun e w' => e = .returned (.bool (callsB nu nd nc up dn)) ∧ Below w.heap.size w w' := by
  have HB := Lib.hid ((Below.refl w.heap.size w).alloc (Nat.le_refl _) (.cells #[.slice U nu cu, .slice D nd cd, .slice C nc cc] 32))
  have hu1 := hu.alloc hB (.cells #[.slice U nu cu, .slice D nd cd, .slice C nc cc] 32)
  have hd1 := hd.alloc hB (.cells #[.slice U nu cu, .slice D nd cd, .slice C nc cc] 32)
  clear hu hd
  by_cases h1 : 1 ≤ nu
  · by_cases h2 : nu ≤ 8
    · have k0 : ¬ ((nu : Int) < 1) := by omega
      have k1 : ¬ (8 < (nu : Int)) := by omega
      by_cases h3 : nd = nu
      · subst h3
        have e3 : ((nd : Int) != (nd : Int)) = false := by simp
        by_cases h4 : nc = nd
        · subst h4
          obtain ⟨b, off, rfl, _, hc⟩ := hu1 (by omega)
          obtain ⟨b', off', rfl, _, hc'⟩ := hd1 (by omega)
          have c0 := hc (nc - 1) (by omega)
          have c1 : (w.alloc (.cells #[.slice (some ⟨b, off, none⟩) nc cu, .slice (some ⟨b', off', none⟩) nc cd, .slice C nc cc] 32)).cell? ⟨b', off', none⟩ = some (.bool (dn 0)) := hc' 0 (by omega)
          have HN := Lib.hid (calls_end (up := up) (dn := dn) h1 h2)
          obtain ⟨m, rfl⟩ : ∃ m, nc = m + 1 := ⟨nc - 1, by omega⟩
          rw [Nat.add_sub_cancel] at c0
          rw [Nat.add_sub_cancel] at HN
          have q6 : IntKind.i64.wrap ((m : Int) + 1 - 1) = (m : Int) := by rw [show (m : Int) + 1 - 1 = (m : Int) by omega]; exact IntWalk.i64_in _ (by omega)
          clear hc hc'
          cases hup : up m
          · go_enter Try.func62, Try.ntmps62
            go_wp2
            go_ret
            exact ⟨ret_bool (by rw [HN.out, hup]; simp), HB.out⟩
          · go_enter Try.func62, Try.ntmps62
            go_wp2
            go_ret
            exact ⟨ret_bool (by rw [HN.out, hup]; simp), HB.out⟩
        · have e4 : ((nc : Int) != (nd : Int)) = true := by simp; omega
          have HN := Lib.hid (calls_no (nu := nd) (nd := nd) (nc := nc) (up := up) (dn := dn) (fun h => h4 h.2.2.2))
          clear h4
          go_enter Try.func62, Try.ntmps62
          go_wp2
          go_ret
          exact ⟨ret_bool HN.out.symm, HB.out⟩
      · have e3 : ((nd : Int) != (nu : Int)) = true := by simp; omega
        have HN := Lib.hid (calls_no (nu := nu) (nd := nd) (nc := nc) (up := up) (dn := dn) (fun h => h3 h.2.2.1))
        clear h3
        go_enter Try.func62, Try.ntmps62
        go_wp2
        go_ret
        exact ⟨ret_bool HN.out.symm, HB.out⟩
    · have k0 : ¬ ((nu : Int) < 1) := by omega
      have k1 : 8 < (nu : Int) := by omega
      have HN := Lib.hid (calls_no (nu := nu) (nd := nd) (nc := nc) (up := up) (dn := dn) (fun h => h2 h.2.1))
      clear h2
      go_enter Try.func62, Try.ntmps62
      go_wp2
      go_ret
      exact ⟨ret_bool HN.out.symm, HB.out⟩
  · have k0 : (nu : Int) < 1 := by omega
    have HN := Lib.hid (calls_no (nu := nu) (nd := nd) (nc := nc) (up := up) (dn := dn) (fun h => h1 h.1))
    clear h1
    go_enter Try.func62, Try.ntmps62
    go_wp2
    go_ret
    exact ⟨ret_bool HN.out.symm, HB.out⟩

set_option maxHeartbeats 1600000 in
theorem spec_CallsValid {w : World} {B : Nat} {U D C : Option Addr} {nu cu nd cd nc cc : Nat} {up dn : Nat → Bool} (n1 : nu ≤ 9223372036854775806) (n2 : nd ≤ 9223372036854775806) (n3 : nc ≤ 9223372036854775806) (hB : B ≤ w.heap.size)
    (hu : Bools w B U nu up) (hd : Bools w B D nd dn) :
    Calls Try.prog 66 #[.agg #[.slice U nu cu, .slice D nd cd, .slice C nc cc]] w fun e w' => e = .returned (.bool (callsB nu nd nc up dn)) ∧ Below w.heap.size w w' := by
  have HB := Lib.hid ((Below.refl w.heap.size w).alloc (Nat.le_refl _) (.cells #[.slice U nu cu, .slice D nd cd, .slice C nc cc] 32))
  have hu1 := hu.alloc hB (.cells #[.slice U nu cu, .slice D nd cd, .slice C nc cc] 32)
  have hd1 := hd.alloc hB (.cells #[.slice U nu cu, .slice D nd cd, .slice C nc cc] 32)
  clear hu hd
  cases hin : inB (nc : Int) 1 8
  · have HN := Lib.hid (calls_no (nu := nu) (nd := nd) (nc := nc) (up := up) (dn := dn) (fun h => by have := inB_no.1 hin; omega))
    go_enter Try.func66, Try.ntmps66
    go_wp2_with (go_at_call 67; refine (l1In_any _ _ _ _).mono ?_; rintro e w1 ⟨rfl, rfl⟩)
    go_ret
    exact ⟨ret_bool HN.out.symm, HB.out⟩
  · obtain ⟨h1, h2⟩ := inB_iff.1 hin
    by_cases h3 : nu = nc
    · subst h3
      have e3 : ((nu : Int) == (nu : Int)) = true := by simp
      by_cases h4 : nd = nu
      · subst h4
        obtain ⟨b, off, rfl, _, hc⟩ := hu1 (by omega)
        obtain ⟨b', off', rfl, _, hc'⟩ := hd1 (by omega)
        have c0 := hc (nd - 1) (by omega)
        have c1 : (w.alloc (.cells #[.slice (some ⟨b, off, none⟩) nd cu, .slice (some ⟨b', off', none⟩) nd cd, .slice C nd cc] 32)).cell? ⟨b', off', none⟩ = some (.bool (dn 0)) := hc' 0 (by omega)
        have HN := Lib.hid (calls_end (nu := nd) (up := up) (dn := dn) (by omega) (by omega))
        obtain ⟨m, rfl⟩ : ∃ m, nd = m + 1 := ⟨nd - 1, by omega⟩
        rw [Nat.add_sub_cancel] at c0
        rw [Nat.add_sub_cancel] at HN
        have q6 : IntKind.i64.wrap ((m : Int) + 1 - 1) = (m : Int) := by rw [show (m : Int) + 1 - 1 = (m : Int) by omega]; exact IntWalk.i64_in _ (by omega)
        clear hc hc'
        cases hup : up m
        all_goals
          go_enter Try.func66, Try.ntmps66
          go_wp2_with (go_at_call 67; refine (l1In_any _ _ _ _).mono ?_; rintro e w1 ⟨rfl, rfl⟩)
          go_ret
          exact ⟨ret_bool (by rw [HN.out, hup]; simp), HB.out⟩
      · have e4 : ((nd : Int) == (nu : Int)) = false := by simp; omega
        have HN := Lib.hid (calls_no (nu := nu) (nd := nd) (nc := nu) (up := up) (dn := dn) (fun h => h4 h.2.2.1))
        clear h4
        go_enter Try.func66, Try.ntmps66
        go_wp2_with (go_at_call 67; refine (l1In_any _ _ _ _).mono ?_; rintro e w1 ⟨rfl, rfl⟩)
        go_ret
        exact ⟨ret_bool HN.out.symm, HB.out⟩
    · have e3 : ((nu : Int) == (nc : Int)) = false := by simp; omega
      have HN := Lib.hid (calls_no (nu := nu) (nd := nd) (nc := nc) (up := up) (dn := dn) (fun h => h3 h.2.2.2.symm))
      clear h3
      go_enter Try.func66, Try.ntmps66
      go_wp2_with (go_at_call 67; refine (l1In_any _ _ _ _).mono ?_; rintro e w1 ⟨rfl, rfl⟩)
      go_ret
      exact ⟨ret_bool HN.out.symm, HB.out⟩
end Go.Proofs.Ytailpiagjemhpaa
