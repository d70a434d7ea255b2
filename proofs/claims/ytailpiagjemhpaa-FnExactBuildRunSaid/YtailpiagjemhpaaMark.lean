/-
  The contracts of toIntS, markIntS and heldIntS. No claim stands here.
-/
import Derived.Test.YtailpiagjemhpaaRow
namespace Go.Proofs.Ytailpiagjemhpaa
open Go.RowKit
set_option linter.unusedVariables false
set_option linter.unusedSimpArgs false

theorem heldIntS_any {w : World} {B : Nat} {A : Option Addr} {n c : Nat} {f : Nat → Int} (k0 : Int) (hn : n ≤ 9223372036854775806) (h0 : 0 ≤ k0) (h1 : k0 + n ≤ 9223372036854775806) (hs : Ints w B A n f) :
    Calls Try.prog 54 #[.slice A n c, .int .i64 k0] w fun e w' => e = .returned (.int .i64 (heldI f n k0)) ∧ w = w' := by
  go_enter Try.func54, Try.ntmps54
  go_wp2
  go_loop [1, 5] (fun s1 s5 => ∃ k : Nat, k ≤ n ∧ s5 = .int .i64 k ∧ s1 = .int .i64 (k0 + k) ∧ Hid (allB (heldP f k0) k = true)) (fun _ s5 => n - (intOf s5).toNat)
  case atStart => exact ⟨0, Nat.zero_le _, rfl, by simp, rfl⟩
  case round =>
    obtain ⟨k, hk, rfl, rfl, HK⟩ := hrel
    by_cases hlt : k < n
    · obtain ⟨b, off, rfl, _, hc⟩ := hs (by omega)
      have c0 := hc k hlt
      clear hc hs
      by_cases h2 : f k = k0 + k
      · have HN := Lib.hid (show heldP f k0 k = true by simp [heldP, h2])
        have he : (f k == k0 + k) = true := by simp [h2]
        clear h2
        go_wp2
        go_round
        case rel => exact ⟨k + 1, by omega, by go_num, by go_num, allB_succ HK.out HN.out⟩
        case measure => simp [intOf]; omega
      · have HN := Lib.hid (show heldP f k0 k = false by simp [heldP, h2])
        have he : (f k == k0 + k) = false := by simp [h2]
        clear h2
        go_wp2
        go_ret
        exact ⟨ret_int (by simp [heldI, allB_no hlt HN.out]), rfl⟩
    · obtain rfl : k = n := by omega
      go_wp2
      go_ret
      exact ⟨ret_int (by simp [heldI, HK.out]), rfl⟩

theorem markIntS_any {w : World} {base : Nat} {A : Option Addr} {n c : Nat} {f : Nat → Int} (k0 : Int) (h0 : 0 ≤ k0) (h1 : k0 + n ≤ 9223372036854775806) (hs : Row w base A n c f) :
    Calls Try.prog 53 #[.slice A n c, .int .i64 k0] w fun e w' => e = .returned (.int .i64 (k0 + n)) ∧ Row w' base A n c (markedI k0) ∧ Wrote w w' A n := by
  go_enter Try.func53, Try.ntmps53
  go_wp2
  go_loopw [1, 5] (fun s1 s5 wr => ∃ k : Nat, k ≤ n ∧ s5 = .int .i64 k ∧ s1 = .int .i64 (k0 + k) ∧ Row wr base A n c (fun i => if i < k then markedI k0 i else f i) ∧ Wrote w wr A n) (fun _ s5 _ => n - (intOf s5).toNat)
  case atStart => exact ⟨0, Nat.zero_le _, rfl, by simp, hs.congr fun i hi => by simp, Wrote.refl _ _ _⟩
  case round =>
    obtain ⟨k, hk, rfl, rfl, hr, hg⟩ := hrel
    by_cases hlt : k < n
    · obtain ⟨b, rfl, _, _⟩ := hr.form (by omega)
      have c0 := hr.cell hlt
      have c1 := hr.frozen k
      have hnext := hr.set (k := k) (k0 + k)
      have hr2 := hnext.1.congr (g := fun i => if i < k + 1 then markedI k0 i else f i) (fun i hi => by
        unfold upd markedI
        by_cases e : i = k
        · subst e; simp
        · have : (i < k + 1) = (i < k) := by simp; omega
          simp [e, this])
      have hg2 := hg.step hnext.2 (by omega)
      have HR := Lib.hid hr2
      have HG := Lib.hid hg2
      clear hr hg hnext hr2 hg2 hs
      go_wp2
      go_roundw
      case rel => exact ⟨k + 1, by omega, by go_num, by go_num, HR.out, HG.out⟩
      case measure => simp [intOf]; omega
    · obtain rfl : k = n := by omega
      have hr2 := hr.congr (g := markedI k0) (fun i hi => by simp [hi])
      clear hr
      go_wp2
      go_ret
      exact ⟨rfl, hr2, hg⟩

theorem toIntS_any {w : World} {B : Nat} {A : Option Addr} {n c : Nat} {f : Nat → Int} (hn : n ≤ 17592186044415) (hB : B ≤ w.heap.size) (hs : Ints w B A n f) :
    Calls Try.prog 93 #[.slice A n c] w fun e w' => ∃ A' c', e = .returned (.slice A' n c') ∧ Row w' w.heap.size A' n c' f ∧ Below w.heap.size w w' := by
  obtain ⟨i0, hi, hz0, hz1, hz2⟩ := info_parts Try.infoInt
  go_enter Try.func93, Try.ntmps93
  go_wp2_with (at_make; refine wpList_make_full _ rfl _ _ 23 rfl w.heap.size 3 i0 (.int .i64 0) 1 Try.underlying23 hi hz0 hz1 _ _ _ _ n rfl rfl rfl rfl (by rw [hz2]; omega) (by unfold maxLen; omega) (Nat.le_refl _) ?_; intro w1 hown hgrow)
  have hrow0 : Row w1 w.heap.size (some ⟨w.heap.size, 0, none⟩) n n (fun _ => 0) := by
    unfold Row
    rw [← ivals_made]
    exact hown
  have hb0 := (Below.refl w.heap.size w).grown hgrow (Nat.le_refl _) (by intro k hk; cases hk)
  clear hown hgrow hi hz0 hz1 hz2
  have HS := Lib.hid hs
  clear hs
  go_wp2
  go_loopw [4] (fun s4 wr => ∃ k : Nat, k ≤ n ∧ s4 = .int .i64 k ∧ Row wr w.heap.size (some ⟨w.heap.size, 0, none⟩) n n (fun i => if i < k then f i else 0) ∧ Below w.heap.size w wr) (fun s4 _ => n - (intOf s4).toNat)
  case atStart => exact ⟨0, Nat.zero_le _, rfl, hrow0.congr fun i hi => by simp, hb0⟩
  case round =>
    obtain ⟨k, hk, rfl, hr, hb⟩ := hrel
    clear hrow0 hb0
    by_cases hlt : k < n
    · obtain ⟨b, off, rfl, hbB, hc⟩ := HS.out (by omega)
      have c0 := (hb.cell (p := ⟨b, off + k, none⟩) (by simp; omega)).trans (hc k hlt)
      have c1 := hr.cell hlt
      have c2 := hr.frozen k
      have hnext := hr.set (k := k) (f k)
      have hr2 := hnext.1.congr (g := fun i => if i < k + 1 then f i else 0) (fun i hi => by
        unfold upd
        by_cases e : i = k
        · subst e; simp
        · have : (i < k + 1) = (i < k) := by simp; omega
          simp [e, this])
      have HR := Lib.hid hr2
      have HB := Lib.hid (hb.setCell (p := ⟨w.heap.size, k, none⟩) (Nat.le_refl _) (.int .i64 (f k)))
      clear hr hb hnext hr2 HS hc
      go_wp2
      go_roundw
      case rel => exact ⟨k + 1, by omega, by go_num, HR.out, HB.out⟩
      case measure => simp [intOf]; omega
    · obtain rfl : k = n := by omega
      have HR := Lib.hid (hr.congr (g := f) (fun i hi => by simp [hi]))
      clear hr
      go_wp2
      go_ret
      exact ⟨_, _, rfl, HR.out, hb⟩
end Go.Proofs.Ytailpiagjemhpaa
