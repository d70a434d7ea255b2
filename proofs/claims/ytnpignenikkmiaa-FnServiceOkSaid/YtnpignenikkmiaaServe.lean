/-
  The contracts of ServiceOk, slices.Min and FewestStops, in the reference and in the program. No claim stands here.
-/
import Derived.Test.YtnpignenikkmiaaGap
import Derived.Test.YtnpignenikkmiaaMark
namespace Go.Proofs.Ytnpignenikkmiaa
open Go.RowKit
set_option linter.unusedVariables false
set_option linter.unusedSimpArgs false

theorem serveB_no1 {t : Int} {l : Nat → Int} {m : Nat} {f : Nat → Int} {n : Nat} (h : gapOk t f n = false) : serveB t l m f n = false := by
  rw [Bool.eq_false_iff]; intro h'; rw [(serveB_iff.1 h').1] at h; cases h
theorem serveB_no2 {t : Int} {l : Nat → Int} {m : Nat} {f : Nat → Int} {n : Nat} (h : partsB l m = false) : serveB t l m f n = false := by
  rw [Bool.eq_false_iff]; intro h'; rw [(serveB_iff.1 h').2.1] at h; cases h
theorem serveB_no3 {t : Int} {l : Nat → Int} {m : Nat} {f : Nat → Int} {n k : Nat} (hk : k < m) (h : l k < gapOf t f n) : serveB t l m f n = false := by
  rw [Bool.eq_false_iff]; intro h'; have := (serveB_iff.1 h').2.2 k hk; omega
theorem serveB_yes {t : Int} {l : Nat → Int} {m : Nat} {f : Nat → Int} {n : Nat} (h : gapOk t f n = true) (h' : partsB l m = true) (h2 : allB (serveP (gapOf t f n) l) m = true) : serveB t l m f n = true := by
  simp [serveB, h', h2, gapOf_nonneg h]

theorem impl_ServiceOk {w : World} {B B' : Nat} {A A' : Option Addr} {n c m c' : Nat} {f l : Nat → Int} (t : Int) (hm : m ≤ 9223372036854775806) (hl : Ints w B A m l) (hn : n ≤ 9223372036854775806) (hs : Ints w B' A' n f) :
    Calls Try.prog 29 #[.int .i64 t, .slice A m c, .slice A' n c'] w fun e w' => e = .returned (.bool (serveB t l m f n)) ∧ w = w' := by
  cases hg : gapOk t f n
  · have hneg : gapOf t f n < 0 := by rw [gapOf_no hg]; decide
    have HN := Lib.hid (serveB_no1 (l := l) (m := m) hg)
    clear hg
    go_enter Try.func29, Try.ntmps29
    go_wp2_with (go_at_call 20; refine (impl_LongestGap t hn hs).mono ?_; rintro e w' ⟨rfl, rfl⟩)
    go_ret
    exact ⟨ret_bool HN.out.symm, rfl⟩
  · have hpos := gapOf_nonneg hg
    have HG := Lib.hid hg
    clear hg
    cases hp : partsB l m
    · have HN := Lib.hid (serveB_no2 (t := t) (f := f) (n := n) hp)
      go_enter Try.func29, Try.ntmps29
      go_wp2_with (first
        | (go_at_call 20; refine (impl_LongestGap t hn hs).mono ?_; rintro e w' ⟨rfl, rfl⟩)
        | (go_at_call 18; refine (impl_PartsValid hm hl).mono ?_; rintro e w' ⟨rfl, rfl⟩))
      go_ret
      exact ⟨ret_bool HN.out.symm, rfl⟩
    · have HP := Lib.hid hp
      go_enter Try.func29, Try.ntmps29
      go_wp2_with (first
        | (go_at_call 20; refine (impl_LongestGap t hn hs).mono ?_; rintro e w' ⟨rfl, rfl⟩)
        | (go_at_call 18; refine (impl_PartsValid hm hl).mono ?_; rintro e w' ⟨rfl, rfl⟩))
      clear hp
      go_loop [22] (fun s => ∃ k : Nat, k ≤ m ∧ s = .int .i64 k ∧ Hid (allB (serveP (gapOf t f n) l) k = true)) (fun s => m - (intOf s).toNat)
      case atStart => exact ⟨0, Nat.zero_le _, rfl, rfl⟩
      case round =>
        obtain ⟨k, hk, rfl, HK⟩ := hrel
        by_cases hlt : k < m
        · obtain ⟨b, off, rfl, _, hc⟩ := hl (by omega)
          have c0 := hc k hlt
          clear hc hs hl
          by_cases h1 : l k < gapOf t f n
          · have HN := Lib.hid (serveB_no3 hlt h1)
            go_wp2
            go_ret
            exact ⟨ret_bool HN.out.symm, rfl⟩
          · have HN := Lib.hid (show serveP (gapOf t f n) l k = true by simp [serveP]; omega)
            go_wp2
            go_round
            case rel => exact ⟨k + 1, by omega, by go_num, allB_succ HK.out HN.out⟩
            case measure => simp [intOf]; omega
        · obtain rfl : k = m := by omega
          go_wp2
          go_ret
          exact ⟨ret_bool (serveB_yes HG.out HP.out HK.out).symm, rfl⟩

theorem spec_ServiceOk {w : World} {B B' : Nat} {A A' : Option Addr} {n c m c' : Nat} {f l : Nat → Int} (t : Int) (hm : m ≤ 9223372036854775806) (hl : Ints w B A m l) (hn : n ≤ 9223372036854775806) (hs : Ints w B' A' n f) :
    Calls Try.prog 28 #[.int .i64 t, .slice A m c, .slice A' n c'] w fun e w' => e = .returned (.bool (serveB t l m f n)) ∧ Drew w w' := by
  cases hg : gapOk t f n
  · have hneg : gapOf t f n < 0 := by rw [gapOf_no hg]; decide
    have HN := Lib.hid (serveB_no1 (l := l) (m := m) hg)
    clear hg
    go_enter Try.func28, Try.ntmps28
    go_wp2_with (go_at_call 19; refine (spec_LongestGap t hn hs).mono ?_; rintro e w' ⟨rfl, m1, rfl⟩)
    go_ret
    exact ⟨ret_bool HN.out.symm, _, rfl⟩
  · have hpos := gapOf_nonneg hg
    have HG := Lib.hid hg
    clear hg
    cases hp : partsB l m
    · have HN := Lib.hid (serveB_no2 (t := t) (f := f) (n := n) hp)
      go_enter Try.func28, Try.ntmps28
      go_wp2_with (first
        | (go_at_call 19; refine (spec_LongestGap t hn hs).mono ?_; rintro e w' ⟨rfl, m1, rfl⟩)
        | (go_at_call 17; refine (spec_PartsValid hm (hl.drewN _)).mono ?_; rintro e w' ⟨rfl, m2, rfl⟩))
      go_ret
      exact ⟨ret_bool HN.out.symm, by first | exact ⟨_, rfl⟩ | exact ⟨_, World.drewN_drewN _ _ _⟩⟩
    · have HP := Lib.hid hp
      go_enter Try.func28, Try.ntmps28
      go_wp2_with (first
        | (go_at_call 19; refine (spec_LongestGap t hn hs).mono ?_; rintro e w' ⟨rfl, m1, rfl⟩)
        | (go_at_call 17; refine (spec_PartsValid hm (hl.drewN _)).mono ?_; rintro e w' ⟨rfl, m2, rfl⟩))
      clear hp
      go_loopw [8] (fun s wr => ∃ k : Nat, k ≤ m ∧ s = .int .i64 k ∧ Hid (allB (serveP (gapOf t f n) l) k = true) ∧ Drew w wr) (fun s _ => m - (intOf s).toNat)
      case atStart => exact ⟨0, Nat.zero_le _, rfl, rfl, by first | exact ⟨_, rfl⟩ | exact ⟨_, World.drewN_drewN _ _ _⟩⟩
      case round =>
        obtain ⟨k, hk, rfl, HK, j, rfl⟩ := hrel
        by_cases hlt : k < m
        · obtain ⟨b, off, rfl, _, hc⟩ := hl (by omega)
          have c0 := hc k hlt
          clear hc hs hl
          by_cases h1 : l k < gapOf t f n
          · have HN := Lib.hid (serveB_no3 hlt h1)
            go_wp2
            go_ret
            exact ⟨ret_bool HN.out.symm, _, rfl⟩
          · have HN := Lib.hid (show serveP (gapOf t f n) l k = true by simp [serveP]; omega)
            go_wp2
            go_roundw
            case rel => exact ⟨k + 1, by omega, by go_num, allB_succ HK.out HN.out, _, rfl⟩
            case measure => simp [intOf]; omega
        · obtain rfl : k = m := by omega
          go_wp2
          go_ret
          exact ⟨ret_bool (serveB_yes HG.out HP.out HK.out).symm, _, rfl⟩

theorem Min_any {w : World} {B : Nat} {A : Option Addr} {n c : Nat} {f : Nat → Int} (h0 : 0 < n) (hn : n ≤ 9223372036854775806) (hs : Ints w B A n f) :
    Calls Try.prog 40 #[.slice A n c] w fun e w' => e = .returned (.int .i64 (minTo f (n - 1))) ∧ w = w' := by
  obtain ⟨b, off, rfl, _, hc⟩ := hs h0
  have cz : w.cell? ⟨b, off, none⟩ = some (.int .i64 (f 0)) := hc 0 h0
  go_enter Try.func40, Try.ntmps40
  go_wp2
  go_loop [3, 4] (fun s3 s4 => ∃ k : Nat, k + 1 ≤ n ∧ s4 = .int .i64 (k + 1 : Nat) ∧ s3 = .int .i64 (minTo f k)) (fun _ s4 => n - (intOf s4).toNat)
  case atStart => exact ⟨0, h0, rfl, rfl⟩
  case round =>
    obtain ⟨k, hk, rfl, rfl⟩ := hrel
    by_cases hlt : k + 1 < n
    · have c0 := hc (k + 1) hlt
      clear hc cz
      go_wp2
      go_round
      case rel => exact ⟨k + 1, by omega, by go_num, congrArg (Value.int .i64) (show _ = min (minTo f k) (f (k + 1)) by split <;> omega)⟩
      case measure => simp [intOf]; omega
    · have e : n - 1 = k := by omega
      have HE := Lib.hid (show minTo f k = minTo f (n - 1) by rw [e])
      clear hc cz e
      go_wp2
      go_ret
      exact ⟨ret_int HE.out, rfl⟩

set_option maxHeartbeats 400000 in
theorem impl_FewestStops {w : World} {B : Nat} {A : Option Addr} {m c : Nat} {l : Nat → Int} (t : Int) (hm : m ≤ 9223372036854775806) (hB : B ≤ w.heap.size) (hl : Ints w B A m l) :
    Calls Try.prog 25 #[.int .i64 t, .slice A m c] w fun e w' => ∃ A' c', e = .returned (.slice A' (fewN t l m : Nat) c') ∧ Row w' w.heap.size A' (fewN t l m) c' (mulM (fewM l m)) ∧ Below w.heap.size w w' := by
  cases hf : fewOk t l m
  · have HN := Lib.hid (fewN_no hf)
    have done : ∃ A' c', Ending.returned (.slice none 0 0) = .returned (.slice A' (fewN t l m : Nat) c') ∧ Row w w.heap.size A' (fewN t l m) c' (mulM (fewM l m)) ∧ Below w.heap.size w w :=
      ⟨none, 0, by rw [HN.out], by rw [HN.out]; exact Row.nil _ _ _, Below.refl _ _⟩
    have HD := Lib.hid done
    clear done
    cases ht : inB t 1 40
    · clear hf
      go_enter Try.func25, Try.ntmps25
      go_wp2_with (go_at_call 35; refine (tripsValid_any _ _).mono ?_; rintro e w' ⟨rfl, rfl⟩)
      go_ret
      exact HD.out
    · cases hp : partsB l m
      · clear hf
        go_enter Try.func25, Try.ntmps25
        go_wp2_with (first
          | (go_at_call 35; refine (tripsValid_any _ _).mono ?_; rintro e w' ⟨rfl, rfl⟩)
          | (go_at_call 18; refine (impl_PartsValid hm hl).mono ?_; rintro e w' ⟨rfl, rfl⟩))
        go_ret
        exact HD.out
      · have h0 : m = 0 := by simpa [fewOk, ht, hp] using hf
        subst h0
        clear hf
        go_enter Try.func25, Try.ntmps25
        go_wp2_with (first
          | (go_at_call 35; refine (tripsValid_any _ _).mono ?_; rintro e w' ⟨rfl, rfl⟩)
          | (go_at_call 18; refine (impl_PartsValid hm hl).mono ?_; rintro e w' ⟨rfl, rfl⟩))
        go_ret
        exact HD.out
  · obtain ⟨⟨t1, t2⟩, hp, h0⟩ := fewOk_iff.1 hf
    obtain ⟨m1, m2⟩ := fewM_bound hp h0
    have HT := Lib.hid (inB_iff.2 ⟨t1, t2⟩ : inB t 1 40 = true)
    have HP := Lib.hid hp
    have HN := Lib.hid (fewN_yes hf)
    have hmz : ((m : Int) == 0) = false := by simp; omega
    clear hf hp
    go_enter Try.func25, Try.ntmps25
    go_wp2_with (first
      | (go_at_call 35; refine (tripsValid_any _ _).mono ?_; rintro e w' ⟨rfl, rfl⟩; rw [HT.out])
      | (go_at_call 18; refine (impl_PartsValid hm hl).mono ?_; rintro e w' ⟨rfl, rfl⟩; rw [HP.out])
      | (go_at_call 40; refine (Min_any h0 hm hl).mono ?_; rintro e w' ⟨rfl, rfl⟩; rw [show minTo l (m - 1) = fewM l m from rfl]))
    generalize hM : fewM l m = M at *
    have HM := Lib.hid hM
    clear hM
    go_loopw [6, 7] (fun s6 s7 wr => ∃ (k : Nat) (A' : Option Addr) (c' : Nat), k ≤ cntM t M ∧ s7 = .int .i64 (mulM M k) ∧ s6 = .slice A' k c' ∧ Row wr w.heap.size A' k c' (mulM M) ∧ Below w.heap.size w wr) (fun s6 s7 _ => (t + 100 - intOf s7).toNat)
    case atStart => exact ⟨0, none, 0, Nat.zero_le _, by simp [mulM], rfl, Row.nil _ _ _, Below.refl _ _⟩
    case round =>
      obtain ⟨k, A', c', hk, rfl, rfl, hr, hb⟩ := hrel
      have hcl := cntM_le t2 m1
      by_cases hlt : k < cntM t M
      · have h1 := (cntM_lt t1 m1 k).1 hlt
        have h2 := mulM_pos m1 k
        have HS := Lib.hid (mulM_succ M k)
        have HR := Lib.hid hr
        have HBl := Lib.hid hb
        have hsz := hb.size
        clear hr hb
        go_wp2_with (at_builtin; refine append_int _ rfl _ _ rfl rfl (HR.out.alloc _) wr.heap.size (mulM M k) rfl (by simp) (by omega) (by simp; omega) ?_; intro A2 c2 w2 hr2 hg2)
        have HR2 := Lib.hid (hr2.congr (snoc_self _ _))
        have HB2 := Lib.hid ((HBl.out.alloc (B := w.heap.size) hsz _).grown hg2 (by simp; omega) HR.out.own)
        clear hr2 hg2
        go_wp2
        go_roundw
        case rel => exact ⟨k + 1, A2, c2, by omega, congrArg (Value.int .i64) HS.out.symm, rfl, HR2.out, HB2.out⟩
        case measure => simp [intOf]; omega
      · have h1 := mt (cntM_lt t1 m1 k).2 hlt
        obtain rfl : k = cntM t M := by omega
        have HR := Lib.hid hr
        have HB2 := Lib.hid hb
        clear hr hb
        go_wp2
        go_ret
        rw [HN.out, HM.out]
        exact ⟨A', c', rfl, HR.out, HB2.out⟩

set_option maxHeartbeats 800000 in
theorem spec_FewestStops {w : World} {B : Nat} {A : Option Addr} {m c : Nat} {l : Nat → Int} (t : Int) (hm : m ≤ 9223372036854775806) (hB : B ≤ w.heap.size) (hl : Ints w B A m l) :
    Calls Try.prog 24 #[.int .i64 t, .slice A m c] w fun e w' => ∃ A' c', e = .returned (.slice A' (fewN t l m : Nat) c') ∧ Row w' w.heap.size A' (fewN t l m) c' (mulM (fewM l m)) ∧ Below w.heap.size w w' := by
  have hl1 : Ints (w.alloc (.cells #[] 3)) B A m l := hl.alloc hB _
  have HL := Lib.hid hl1
  have hr0 := Row.empty (w := w) (mulM (fewM l m)) (Nat.le_refl _)
  have hb0 := (Below.refl w.heap.size w).alloc (Nat.le_refl _) (.cells #[] 3)
  have HR0 := Lib.hid hr0
  have HB0 := Lib.hid hb0
  clear hr0 hb0 hl hl1
  cases hf : fewOk t l m
  · have HN := Lib.hid (fewN_no hf)
    have HD : Hid (∀ j, ∃ A' c', Ending.returned (.slice (some ⟨w.heap.size, 0, none⟩) 0 0) = .returned (.slice A' (fewN t l m : Nat) c') ∧ Row ((w.alloc (.cells #[] 3)).drewN j) w.heap.size A' (fewN t l m) c' (mulM (fewM l m)) ∧ Below w.heap.size w ((w.alloc (.cells #[] 3)).drewN j)) := by
      intro j
      rw [HN.out]
      exact ⟨_, _, rfl, HR0.out.drewN j, below_drewN HB0.out j⟩
    cases ht : inB t 1 40
    · clear hf
      go_enter Try.func24, Try.ntmps24
      go_wp2_with (go_at_call 34; refine (l1In_any _ _ _ _).mono ?_; rintro e w' ⟨rfl, rfl⟩)
      go_ret
      exact HD.out 0
    · cases hp : partsB l m
      · clear hf
        go_enter Try.func24, Try.ntmps24
        go_wp2_with (first
          | (go_at_call 34; refine (l1In_any _ _ _ _).mono ?_; rintro e w' ⟨rfl, rfl⟩)
          | (go_at_call 17; refine (spec_PartsValid hm HL.out).mono ?_; rintro e w' ⟨rfl, j, rfl⟩))
        go_ret
        exact HD.out _
      · have h0 : m = 0 := by simpa [fewOk, ht, hp] using hf
        subst h0
        clear hf
        go_enter Try.func24, Try.ntmps24
        go_wp2_with (first
          | (go_at_call 34; refine (l1In_any _ _ _ _).mono ?_; rintro e w' ⟨rfl, rfl⟩)
          | (go_at_call 17; refine (spec_PartsValid hm HL.out).mono ?_; rintro e w' ⟨rfl, j, rfl⟩))
        go_ret
        exact HD.out _
  · obtain ⟨⟨t1, t2⟩, hp, h0⟩ := fewOk_iff.1 hf
    obtain ⟨m1, m2⟩ := fewM_bound hp h0
    have HT := Lib.hid (inB_iff.2 ⟨t1, t2⟩ : inB t 1 40 = true)
    have HP := Lib.hid hp
    have HN := Lib.hid (fewN_yes hf)
    have HMS := Lib.hid (show minS l m = fewM l m by
      have := minS_eq (f := l) (k := m - 1) (fun i hi => ((partsB_iff.1 hp).2 i (by omega)).2)
      rw [show m - 1 + 1 = m by omega] at this
      exact this)
    have hmz : ((m : Int) == 0) = false := by simp; omega
    clear hf hp
    go_enter Try.func24, Try.ntmps24
    go_wp2_with (first
      | (go_at_call 34; refine (l1In_any _ _ _ _).mono ?_; rintro e w' ⟨rfl, rfl⟩; rw [HT.out])
      | (go_at_call 17; refine (spec_PartsValid hm HL.out).mono ?_; rintro e w' ⟨rfl, j, rfl⟩; rw [HP.out]))
    go_loop [6, 7] (fun s6 s7 => ∃ k : Nat, k ≤ m ∧ s7 = .int .i64 k ∧ s6 = .int .i64 (minS l k)) (fun _ s7 => m - (intOf s7).toNat)
    case atStart => exact ⟨0, Nat.zero_le _, rfl, rfl⟩
    case round =>
      obtain ⟨k, hk, rfl, rfl⟩ := hrel
      by_cases hlt : k < m
      · obtain ⟨b, off, rfl, _, hc⟩ := HL.out h0
        have c0 := hc k hlt
        clear hc
        go_wp2
        go_round
        case rel => exact ⟨k + 1, by omega, by go_num, congrArg (Value.int .i64) (show _ = min (minS l k) (l k) by split <;> omega)⟩
        case measure => simp [intOf]; omega
      · obtain rfl : k = m := by omega
        rw [HMS.out]
        generalize hM : fewM l k = M at *
        have HM := Lib.hid hM
        clear hM
        go_wp2
        go_loopw [5, 8] (fun s5 s8 wr => ∃ (i : Nat) (A' : Option Addr) (c' : Nat), i ≤ cntM t M ∧ s8 = .int .i64 (mulM M i) ∧ s5 = .slice A' i c' ∧ Row wr w.heap.size A' i c' (mulM M) ∧ Below w.heap.size w wr) (fun _ s8 _ => (t + 100 - intOf s8).toNat)
        case atStart => exact ⟨0, _, _, Nat.zero_le _, by simp [mulM], rfl, HR0.out.drewN _, below_drewN HB0.out _⟩
        case round =>
          obtain ⟨i, A', c', hi, rfl, rfl, hr, hb⟩ := hrel
          have hcl := cntM_le t2 m1
          by_cases hlt : i < cntM t M
          · have h1 := (cntM_lt t1 m1 i).1 hlt
            have h2 := mulM_pos m1 i
            have HS := Lib.hid (mulM_succ M i)
            have HR := Lib.hid hr
            have HBl := Lib.hid hb
            have hsz := hb.size
            clear hr hb
            go_wp2_with (at_builtin; refine append_int _ rfl _ _ rfl rfl (HR.out.alloc _) wr.heap.size (mulM M i) rfl (by simp) (by omega) (by simp; omega) ?_; intro A2 c2 w2 hr2 hg2)
            have HR2 := Lib.hid (hr2.congr (snoc_self _ _))
            have HB2 := Lib.hid ((HBl.out.alloc (B := w.heap.size) hsz _).grown hg2 (by simp; omega) HR.out.own)
            clear hr2 hg2
            go_wp2
            go_roundw
            case rel => exact ⟨i + 1, A2, c2, by omega, congrArg (Value.int .i64) HS.out.symm, rfl, HR2.out, HB2.out⟩
            case measure => simp [intOf]; omega
          · have h1 := mt (cntM_lt t1 m1 i).2 hlt
            obtain rfl : i = cntM t M := by omega
            have HR := Lib.hid hr
            have HB2 := Lib.hid hb
            clear hr hb
            go_wp2
            go_ret
            rw [HN.out, HM.out]
            exact ⟨A', c', rfl, HR.out, HB2.out⟩
end Go.Proofs.Ytnpignenikkmiaa
