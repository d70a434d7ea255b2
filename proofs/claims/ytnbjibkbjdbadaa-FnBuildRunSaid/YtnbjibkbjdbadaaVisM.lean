/-
  What a building visits until it rests, in plain Lean. No claim stands here.
-/
import Derived.Test.YtnbjibkbjdbadaaBF
namespace Go.Proofs.Ytnbjibkbjdbadaa
set_option linter.unusedVariables false
set_option linter.unusedSimpArgs false

/-- What kinds of ticks there are. -/
theorem tick_kinds {b : Bld} (h : b.Ok) :
    (b.fl = -1 ∧ b.tick false = b.open false) ∨ (0 ≤ b.fl ∧ b.fl < b.n ∧ b.op = false ∧ b.gap = 0 ∧ b.stand = b.fl ∧ b.tick false = b.serve) ∨ (0 ≤ b.fl ∧ b.fl < b.n ∧ b.op = false ∧ b.tick false = b.move) ∨ (b.fl = -1 ∧ b.op = false ∧ b.tick false = b.look) := by
  by_cases hg : 0 < b.gap ∨ b.op = true
  · left
    refine ⟨?_, tick_open hg⟩
    rcases h.halt with h1 | ⟨h1, h2, h3⟩
    · exact h1.1
    · rw [h3] at hg; rcases hg with hg | hg
      · omega
      · cases hg
  · right
    have hop : b.op = false := by cases hq : b.op <;> simp [hq] at hg ⊢
    by_cases h1 : 0 ≤ b.fl
    · have hd := doorB_iff.1 h.door
      have hlt : b.fl < b.n := by rcases h.halt with h | h <;> omega
      by_cases h2 : b.stand = b.fl
      · exact .inl ⟨h1, hlt, hop, by omega, h2, tick_serve hg h1 h2⟩
      · exact .inr (.inl ⟨h1, hlt, hop, tick_move hg h1 h2⟩)
    · exact .inr (.inr ⟨by rcases h.halt with h | h <;> omega, hop, tick_look hg h1⟩)
theorem look_kinds {b : Bld} (h : b.Ok) (hf : b.fl = -1) : (b.look = b) ∨ (0 ≤ b.nextF ∧ b.look = { b with fl := b.nextF, dir := b.nextD } ∧ b.nextF < b.n ∧ servedB b.up b.dn b.car b.nextF b.nextD) := by
  unfold Bld.look
  split
  · rename_i hn
    right
    obtain ⟨_, _, _, hn1, _⟩ := h.sizes
    have hst : 0 ≤ b.stand := by rcases h.halt with ⟨_, h2⟩ | ⟨h2, _⟩ <;> omega
    have hb := stand_bd (f := b.f) (n := b.n) (pos := b.pos) (sp := b.sp) hn1
    obtain ⟨a1, a2, a3⟩ := next_yes (n := b.n) (up := b.up) (dn := b.dn) (car := b.car) hst hb.2 h.way hn
    exact ⟨hn, rfl, a1, a3⟩
  · exact .inl rfl
theorem tick_floors (b : Bld) (bl : Bool) : (b.tick bl).f = b.f ∧ (b.tick bl).n = b.n := by
  unfold Bld.tick
  split
  · exact ⟨rfl, rfl⟩
  · split
    · split <;> exact ⟨rfl, rfl⟩
    · unfold Bld.look; split <;> exact ⟨rfl, rfl⟩
theorem after_floors (b : Bld) : ∀ k, (b.after k).f = b.f ∧ (b.after k).n = b.n := by
  intro k
  induction k with
  | zero => exact ⟨rfl, rfl⟩
  | succ k ih => obtain ⟨h1, h2⟩ := tick_floors (b.after k) false; exact ⟨h1.trans ih.1, h2.trans ih.2⟩
/-- Whether the door begins to be opened in a tick. -/
def Bld.opens (b : Bld) : Bool := (b.tick false).op && !b.op
theorem visL_succ (b : Bld) (k : Nat) : b.visL (k + 1) = b.visL k ++ (if (b.after k).opens = true then [(b.after (k + 1)).stand] else []) := rfl
theorem opens_open (b : Bld) (h : b.tick false = b.open false) : b.opens = false := by
  unfold Bld.opens; rw [h]; unfold Bld.open; simp only
  cases b.op <;> simp
theorem opens_serve {b : Bld} (h : b.tick false = b.serve) (ho : b.op = false) : b.opens = true := by
  unfold Bld.opens; rw [h, ho]; rfl
theorem opens_move {b : Bld} (h : b.tick false = b.move) (ho : b.op = false) : b.opens = false := by
  unfold Bld.opens; rw [h, ho]; unfold Bld.move; simp [ho]
theorem opens_look {b : Bld} (h : b.tick false = b.look) (ho : b.op = false) : b.opens = false := by
  unfold Bld.opens; rw [h, ho]; unfold Bld.look; split <;> simp [ho]

/-! ### where the car stands at last -/
theorem last_visit {b : Bld} (h : b.Ok) : ∀ m, (b.after m).fl = -1 →
    (b.visL m = [] → (b.after m).pos = b.pos ∧ (b.after m).sp = b.sp) ∧ (∀ (hne : b.visL m ≠ []), (b.visL m).getLast hne = (b.after m).stand) := by
  intro m
  induction m with
  | zero => exact fun _ => ⟨fun _ => ⟨rfl, rfl⟩, fun hne => absurd rfl hne⟩
  | succ m ih =>
    intro hf
    have hok := after_ok h m
    have e : b.after (m + 1) = (b.after m).tick false := rfl
    rw [visL_succ]
    rw [e] at hf ⊢
    generalize hbm : b.after m = c at *
    rcases tick_kinds hok with ⟨k1, k2⟩ | ⟨k1, k0, k2, k3, k4, k5⟩ | ⟨k1, k0, k2, k3⟩ | ⟨k1, k2, k3⟩
    · rw [opens_open c k2, k2]
      obtain ⟨i1, i2⟩ := ih k1
      simp only [Bool.false_eq_true, if_false, List.append_nil]
      exact ⟨i1, i2⟩
    · rw [opens_serve k5 k2]
      simp only [if_true]
      refine ⟨fun hn => by simp at hn, fun hne => ?_⟩
      simp
    · rw [k3] at hf
      exact absurd (show c.fl = -1 from hf) (by omega)
    · rw [opens_look k3 k2, k3]
      rw [k3] at hf
      obtain ⟨i1, i2⟩ := ih k1
      rcases look_kinds hok k1 with hl | ⟨q1, q2, _⟩
      · rw [hl]
        simp only [Bool.false_eq_true, if_false, List.append_nil]
        exact ⟨i1, i2⟩
      · rw [q2] at hf
        exact absurd (show c.nextF = -1 from hf) (by omega)
theorem rest_stands {b : Bld} (h : b.Ok) : (b.visL b.rest = [] ∧ (b.after b.rest).pos = b.pos ∧ (b.after b.rest).sp = b.sp) ∨ ∃ hne : b.visL b.rest ≠ [], floorAtOf b.f b.n (b.after b.rest).pos = (b.visL b.rest).getLast hne := by
  have hq := (quiet_iff (after_ok h b.rest)).1 (rest_spec h).2.1
  obtain ⟨i1, i2⟩ := last_visit h b.rest hq.2.1
  by_cases hne : b.visL b.rest = []
  · exact .inl ⟨hne, i1 hne⟩
  · refine .inr ⟨hne, ?_⟩
    rw [i2 hne]
    have hok := after_ok h b.rest
    have hst : 0 ≤ (b.after b.rest).stand := by rcases hok.halt with ⟨_, h2⟩ | ⟨h2, _⟩ <;> omega
    have hs := (stand_at hst).1
    obtain ⟨f1, f2⟩ := after_floors b b.rest
    unfold Bld.stand standF
    rw [if_pos hs, f1, f2]
theorem rest_quiet {b : Bld} (hq : b.quiet = true) : b.rest = 0 := by
  unfold Bld.rest
  exact firstP_eq (by omega) hq (fun i hi => absurd hi (Nat.not_lt_zero _))

/-! ### which floors are visited -/
def Bld.callAt (b : Bld) (k : Nat) : Bool := b.car k || b.up k || b.dn k
theorem serve_call (b : Bld) (k : Nat) : (b.serve.up k = true → b.up k = true) ∧ (b.serve.dn k = true → b.dn k = true) ∧ (b.serve.car k = true → b.car k = true) ∧ (k ≠ b.fl.toNat → b.serve.up k = b.up k ∧ b.serve.dn k = b.dn k ∧ b.serve.car k = b.car k) := by
  unfold Bld.serve serveUp serveDn serveCar
  simp only [updB]
  refine ⟨?_, ?_, ?_, ?_⟩
  · split
    · simp only [updB]; split <;> simp
    · simp
  · split
    · simp
    · simp only [updB]; split <;> simp
  · split <;> simp
  · intro hk
    rw [if_neg hk]
    refine ⟨?_, ?_, rfl⟩
    · split
      · simp [updB, hk]
      · rfl
    · split
      · rfl
      · simp [updB, hk]
/-- Calls do not become more. -/
theorem tick_calls {b : Bld} (h : b.Ok) (k : Nat) : ((b.tick false).up k = true → b.up k = true) ∧ ((b.tick false).dn k = true → b.dn k = true) ∧ ((b.tick false).car k = true → b.car k = true) := by
  rcases tick_kinds h with ⟨k1, k2⟩ | ⟨k1, k0, k2, k3, k4, k5⟩ | ⟨k1, k0, k2, k3⟩ | ⟨k1, k2, k3⟩
  · rw [k2]; exact ⟨id, id, id⟩
  · rw [k5]; obtain ⟨a, b, c, _⟩ := serve_call b k; exact ⟨a, b, c⟩
  · rw [k3]; exact ⟨id, id, id⟩
  · rw [k3]; rcases look_kinds h k1 with hl | ⟨_, hl, _⟩
    · rw [hl]; exact ⟨id, id, id⟩
    · rw [hl]; exact ⟨id, id, id⟩
theorem after_calls {b : Bld} (h : b.Ok) (k : Nat) : ∀ m, ((b.after m).up k = true → b.up k = true) ∧ ((b.after m).dn k = true → b.dn k = true) ∧ ((b.after m).car k = true → b.car k = true) := by
  intro m
  induction m with
  | zero => exact ⟨id, id, id⟩
  | succ m ih =>
    obtain ⟨a1, a2, a3⟩ := tick_calls (after_ok h m) k
    exact ⟨fun x => ih.1 (a1 x), fun x => ih.2.1 (a2 x), fun x => ih.2.2 (a3 x)⟩
theorem served_call {b : Bld} {fl dir : Int} (h : servedB b.up b.dn b.car fl dir) : b.callAt fl.toNat = true := by
  unfold servedB callGo at h
  unfold Bld.callAt
  rcases h with h | h
  · simp [h]
  · split at h <;> simp [h]
/-- What is visited was asked for, or was the stop to which the car drove. -/
theorem visits_asked {b : Bld} (h : b.Ok) : ∀ m, (0 ≤ (b.after m).fl → (b.after m).fl = b.fl ∨ b.callAt (b.after m).fl.toNat = true) ∧ (∀ x ∈ b.visL m, 0 ≤ x ∧ (x = b.fl ∨ b.callAt x.toNat = true)) := by
  intro m
  induction m with
  | zero => exact ⟨fun _ => .inl rfl, fun x hx => by cases hx⟩
  | succ m ih =>
    have hok := after_ok h m
    have hmono := fun k => after_calls h k m
    have e : b.after (m + 1) = (b.after m).tick false := rfl
    rw [visL_succ, e]
    generalize hbm : b.after m = c at *
    obtain ⟨i1, i2⟩ := ih
    rcases tick_kinds hok with ⟨k1, k2⟩ | ⟨k1, k0, k2, k3, k4, k5⟩ | ⟨k1, k0, k2, k3⟩ | ⟨k1, k2, k3⟩
    · rw [opens_open c k2, k2]
      simp only [Bool.false_eq_true, if_false, List.append_nil]
      exact ⟨i1, i2⟩
    · rw [opens_serve k5 k2, k5]
      simp only [if_true]
      refine ⟨fun hf => absurd hf (by show ¬ (0 : Int) ≤ -1; omega), fun x hx => ?_⟩
      rcases List.mem_append.1 hx with hx | hx
      · exact i2 x hx
      · rw [List.mem_singleton] at hx
        have : x = c.fl := by rw [hx]; exact k4
        rw [this]
        exact ⟨k1, i1 k1⟩
    · rw [opens_move k3 k2, k3]
      simp only [Bool.false_eq_true, if_false, List.append_nil]
      exact ⟨i1, i2⟩
    · rw [opens_look k3 k2, k3]
      simp only [Bool.false_eq_true, if_false, List.append_nil]
      refine ⟨fun hf => ?_, i2⟩
      rcases look_kinds hok k1 with hl | ⟨q1, hl, q3, q4⟩
      · rw [hl] at hf ⊢; exact i1 hf
      · rw [hl]
        right
        have hc := served_call (b := c) q4
        show b.callAt c.nextF.toNat = true
        unfold Bld.callAt at hc ⊢
        obtain ⟨m1, m2, m3⟩ := hmono c.nextF.toNat
        simp only [Bool.or_eq_true] at hc ⊢
        rcases hc with (hc | hc) | hc
        · exact .inl (.inl (m3 hc))
        · exact .inl (.inr (m1 hc))
        · exact .inr (m2 hc)
/-- A call that is gone was visited. -/
theorem gone_visited {b : Bld} (h : b.Ok) (k : Nat) : ∀ m, (b.callAt k = true → (b.after m).callAt k = false → (k : Int) ∈ b.visL m) ∧ (((k : Int) ∈ b.visL m) ∨ ((b.after m).up k = b.up k ∧ (b.after m).dn k = b.dn k ∧ (b.after m).car k = b.car k)) := by
  intro m
  induction m with
  | zero => exact ⟨(fun h1 h2 => by rw [show b.after 0 = b from rfl, h1] at h2; cases h2), .inr ⟨rfl, rfl, rfl⟩⟩
  | succ m ih =>
    have key : ((k : Int) ∈ b.visL (m + 1)) ∨ ((b.after (m + 1)).up k = b.up k ∧ (b.after (m + 1)).dn k = b.dn k ∧ (b.after (m + 1)).car k = b.car k) := by
      have hok := after_ok h m
      have e : b.after (m + 1) = (b.after m).tick false := rfl
      rw [visL_succ]
      rcases ih.2 with hv | ⟨u1, u2, u3⟩
      · exact .inl (List.mem_append_left _ hv)
      · rw [e]
        generalize hbm : b.after m = c at *
        rcases tick_kinds hok with ⟨k1, k2⟩ | ⟨k1, k0, k2, k3, k4, k5⟩ | ⟨k1, k0, k2, k3⟩ | ⟨k1, k2, k3⟩
        · rw [k2]; exact .inr ⟨u1, u2, u3⟩
        · by_cases hk : k = c.fl.toNat
          · left
            rw [opens_serve k5 k2, k5]
            simp only [if_true]
            refine List.mem_append_right _ (List.mem_singleton.2 ?_)
            show (k : Int) = c.stand
            omega
          · right
            rw [k5]
            obtain ⟨_, _, _, s4⟩ := serve_call c k
            obtain ⟨s1, s2, s3⟩ := s4 hk
            exact ⟨s1.trans u1, s2.trans u2, s3.trans u3⟩
        · rw [k3]; exact .inr ⟨u1, u2, u3⟩
        · rw [k3]; rcases look_kinds hok k1 with hl | ⟨_, hl, _⟩
          · rw [hl]; exact .inr ⟨u1, u2, u3⟩
          · rw [hl]; exact .inr ⟨u1, u2, u3⟩
    refine ⟨fun h1 h2 => ?_, key⟩
    rcases key with h3 | ⟨u1, u2, u3⟩
    · exact h3
    · exfalso
      unfold Bld.callAt at h1 h2
      rw [u1, u2, u3, h1] at h2
      cases h2
/-- There are no more visits than calls, and one. -/
theorem visits_few {b : Bld} (h : b.Ok) : ∀ m, (b.visL m = [] ∧ 0 ≤ (b.after m).fl ∧ (b.after m).cnt ≤ b.cnt) ∨
    ((b.visL m).length + (b.after m).cnt ≤ b.cnt + 1 ∧ (0 ≤ (b.after m).fl → servedB (b.after m).up (b.after m).dn (b.after m).car (b.after m).fl (b.after m).dir)) := by
  intro m
  induction m with
  | zero =>
    by_cases hf : 0 ≤ b.fl
    · exact .inl ⟨rfl, hf, Nat.le_refl _⟩
    · exact .inr ⟨by simp [Bld.visL, Bld.after], fun hf' => absurd hf' hf⟩
  | succ m ih =>
    have hok := after_ok h m
    have e : b.after (m + 1) = (b.after m).tick false := rfl
    rw [visL_succ, e]
    generalize hbm : b.after m = c at *
    rcases tick_kinds hok with ⟨k1, k2⟩ | ⟨k1, k0, k2, k3, k4, k5⟩ | ⟨k1, k0, k2, k3⟩ | ⟨k1, k2, k3⟩
    · rw [opens_open c k2, k2]
      simp only [Bool.false_eq_true, if_false, List.append_nil]
      exact ih
    · rw [opens_serve k5 k2, k5]
      simp only [if_true]
      right
      have hlt : c.fl.toNat < c.n := by omega
      refine ⟨?_, fun hf => absurd hf (by show ¬ (0 : Int) ≤ -1; omega)⟩
      rw [List.length_append, List.length_singleton]
      rcases ih with ⟨j1, j2, j3⟩ | ⟨j1, j2⟩
      · rw [j1]
        have := serve_cnt c
        simp only [List.length_nil]
        omega
      · have := serve_cnt_less (b := c) hlt (j2 k1)
        omega
    · rw [opens_move k3 k2, k3]
      simp only [Bool.false_eq_true, if_false, List.append_nil]
      exact ih
    · rw [opens_look k3 k2, k3]
      simp only [Bool.false_eq_true, if_false, List.append_nil]
      rcases look_kinds hok k1 with hl | ⟨q1, hl, q3, q4⟩
      · rw [hl]; exact ih
      · rw [hl]
        right
        rcases ih with ⟨j1, j2, j3⟩ | ⟨j1, j2⟩
        · omega
        · exact ⟨j1, fun _ => q4⟩
/-- What the law FnRestVisits asks. -/
theorem visits_say {b : Bld} (h : b.Ok) : (∀ k, k < b.n → b.callAt k = true → (k : Int) ∈ b.visL b.rest) ∧ (∀ k : Nat, b.callAt k = false → (k : Int) ∈ b.visL b.rest → b.fl = k) ∧ (b.visL b.rest).length ≤ b.cnt + 1 := by
  have hq := (quiet_iff (after_ok h b.rest)).1 (rest_spec h).2.1
  obtain ⟨f1, f2⟩ := after_floors b b.rest
  refine ⟨fun k hk hc => ?_, fun k hc hm => ?_, ?_⟩
  · refine (gone_visited h k b.rest).1 hc ?_
    have h0 := hq.1
    unfold Bld.cnt at h0
    rw [f2] at h0
    have c1 := cntB_zero.1 (show cntB (b.after b.rest).up b.n = 0 by omega) k hk
    have c2 := cntB_zero.1 (show cntB (b.after b.rest).dn b.n = 0 by omega) k hk
    have c3 := cntB_zero.1 (show cntB (b.after b.rest).car b.n = 0 by omega) k hk
    unfold Bld.callAt
    rw [c1, c2, c3]; rfl
  · obtain ⟨_, hx⟩ := (visits_asked h b.rest).2 _ hm
    rcases hx with hx | hx
    · exact hx.symm
    · rw [Int.toNat_natCast, hc] at hx; cases hx
  · rcases visits_few h b.rest with ⟨j1, j2, j3⟩ | ⟨j1, j2⟩
    · rw [j1]; simp
    · omega
end Go.Proofs.Ytnbjibkbjdbadaa
