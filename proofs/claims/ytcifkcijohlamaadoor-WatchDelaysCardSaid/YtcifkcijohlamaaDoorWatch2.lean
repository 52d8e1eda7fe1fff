import Derived.Test.YtcifkcijohlamaaDoorWatch1
/-! The Watcher: Right. -/
set_option linter.unusedVariables false
set_option maxHeartbeats 1000000
namespace Go.Proofs.YtcifkcijohlamaaDoor
open Go.RowKit Go.LB

theorem right_any (x : Wat) (w : World) :
    Calls Tryd.prog 34 #[x.v] w fun e w' => e = .returned (.bool x.right) ∧ New w w' := by
  have hr := Row.alloc w 45 [.int .i64 x.st, .int .i64 x.ver, .int .i64 x.fails, .int .i64 x.til]
  have k0 : New w (w.alloc (.cells #[.int .i64 x.st, .int .i64 x.ver, .int .i64 x.fails, .int .i64 x.til] 45)) := (Keep.refl _ _).alloc _
  have h0 : (x.st = 0 ∧ (x.st == 0) = true) ∨ (x.st ≠ 0 ∧ (x.st == 0) = false ∧ x.st = 1 ∧ (x.st == 1) = true) ∨ (x.st ≠ 0 ∧ (x.st == 0) = false ∧ x.st ≠ 1 ∧ (x.st == 1) = false ∧ x.st = 2 ∧ (x.st == 2) = true) ∨ (x.st ≠ 0 ∧ (x.st == 0) = false ∧ x.st ≠ 1 ∧ (x.st == 1) = false ∧ x.st ≠ 2 ∧ (x.st == 2) = false) := by
    simp only [beq_iff_eq, beq_eq_false_iff_ne]
    omega
  have hcases : (inB x.st 3 = false) ∨ (inB x.st 3 = true ∧ inB x.ver 1099511627776 = false) ∨ (inB x.st 3 = true ∧ inB x.ver 1099511627776 = true ∧ inB x.fails 30 = false) ∨
      (inB x.st 3 = true ∧ inB x.ver 1099511627776 = true ∧ inB x.fails 30 = true ∧ inB x.til 1099511627840 = false) ∨ (inB x.st 3 = true ∧ inB x.ver 1099511627776 = true ∧ inB x.fails 30 = true ∧ inB x.til 1099511627840 = true) := by
    cases inB x.st 3 <;> cases inB x.ver 1099511627776 <;> cases inB x.fails 30 <;> cases inB x.til 1099511627840 <;> simp
  refine calls_hide fun R hR => ?_
  obtain ⟨st, ver, fails, til⟩ := x
  simp only at *
  rcases hcases with h1 | ⟨h1, h2⟩ | ⟨h1, h2, h3⟩ | ⟨h1, h2, h3, h4⟩ | ⟨h1, h2, h3, h4⟩
  · have hx : Wat.right ⟨st, ver, fails, til⟩ = false := by simp [Wat.right, h1]
    rw [hx] at hR
    clear hx
    rcases h0 with ⟨e0, b0⟩ | ⟨e0, b0, e1, b1⟩ | ⟨e0, b0, e1, b1, e2, b2⟩ | ⟨e0, b0, e1, b1, e2, b2⟩
    all_goals (clear e0; try clear e1; try clear e2)
    all_goals go_enter Tryd.func34, Tryd.ntmps34
    all_goals go_wp2_with (go_at_call 35; refine (within_any _ _ _).mono ?_; rintro e _ ⟨rfl, rfl⟩)
    all_goals exact hR.out _ _ ⟨rfl, k0⟩
  · have hx : Wat.right ⟨st, ver, fails, til⟩ = false := by simp [Wat.right, h1, h2]
    rw [hx] at hR
    clear hx
    rcases h0 with ⟨e0, b0⟩ | ⟨e0, b0, e1, b1⟩ | ⟨e0, b0, e1, b1, e2, b2⟩ | ⟨e0, b0, e1, b1, e2, b2⟩
    all_goals (clear e0; try clear e1; try clear e2)
    all_goals go_enter Tryd.func34, Tryd.ntmps34
    all_goals go_wp2_with (go_at_call 35; refine (within_any _ _ _).mono ?_; rintro e _ ⟨rfl, rfl⟩)
    all_goals exact hR.out _ _ ⟨rfl, k0⟩
  · have hx : Wat.right ⟨st, ver, fails, til⟩ = false := by simp [Wat.right, h1, h2, h3]
    rw [hx] at hR
    clear hx
    rcases h0 with ⟨e0, b0⟩ | ⟨e0, b0, e1, b1⟩ | ⟨e0, b0, e1, b1, e2, b2⟩ | ⟨e0, b0, e1, b1, e2, b2⟩
    all_goals (clear e0; try clear e1; try clear e2)
    all_goals go_enter Tryd.func34, Tryd.ntmps34
    all_goals go_wp2_with (go_at_call 35; refine (within_any _ _ _).mono ?_; rintro e _ ⟨rfl, rfl⟩)
    all_goals exact hR.out _ _ ⟨rfl, k0⟩
  · have hx : Wat.right ⟨st, ver, fails, til⟩ = false := by simp [Wat.right, h1, h2, h3, h4]
    rw [hx] at hR
    clear hx
    rcases h0 with ⟨e0, b0⟩ | ⟨e0, b0, e1, b1⟩ | ⟨e0, b0, e1, b1, e2, b2⟩ | ⟨e0, b0, e1, b1, e2, b2⟩
    all_goals (clear e0; try clear e1; try clear e2)
    all_goals go_enter Tryd.func34, Tryd.ntmps34
    all_goals go_wp2_with (go_at_call 35; refine (within_any _ _ _).mono ?_; rintro e _ ⟨rfl, rfl⟩)
    all_goals exact hR.out _ _ ⟨rfl, k0⟩
  · rcases h0 with ⟨e0, b0⟩ | ⟨e0, b0, e1, b1⟩ | ⟨e0, b0, e1, b1, e2, b2⟩ | ⟨e0, b0, e1, b1, e2, b2⟩
    · subst e0
      have hx : Wat.right ⟨0, ver, fails, til⟩ = (decide (ver = 0) && (decide (fails = 0) && decide (til = 0))) := by simp [Wat.right, h1, h2, h3, h4, Wat.zero]
      have HX := Lib.hid hx
      clear hx
      go_enter Tryd.func34, Tryd.ntmps34
      go_wp2_with (go_at_call 35; refine (within_any _ _ _).mono ?_; rintro e _ ⟨rfl, rfl⟩)
      all_goals exact hR.out _ _ ⟨ret_bool (by rw [HX.out]; simp [*]), (Keep.refl _ _).alloc _⟩
    · subst e1
      have hx : Wat.right ⟨1, ver, fails, til⟩ = decide (til = 0) := by simp [Wat.right, h1, h2, h3, h4]
      have HX := Lib.hid hx
      clear hx e0
      go_enter Tryd.func34, Tryd.ntmps34
      go_wp2_with (go_at_call 35; refine (within_any _ _ _).mono ?_; rintro e _ ⟨rfl, rfl⟩)
      all_goals exact hR.out _ _ ⟨ret_bool (by rw [HX.out]; first | rfl | (simp; done)), (Keep.refl _ _).alloc _⟩
    · subst e2
      have hx : Wat.right ⟨2, ver, fails, til⟩ = (decide (til = 0) && decide (0 < ver)) := by simp [Wat.right, h1, h2, h3, h4]
      have HX := Lib.hid hx
      clear hx e0 e1
      go_enter Tryd.func34, Tryd.ntmps34
      go_wp2_with (go_at_call 35; refine (within_any _ _ _).mono ?_; rintro e _ ⟨rfl, rfl⟩)
      all_goals exact hR.out _ _ ⟨ret_bool (by rw [HX.out]; simp [*]), (Keep.refl _ _).alloc _⟩
    · have hx : Wat.right ⟨st, ver, fails, til⟩ = decide (0 < fails) := by simp [Wat.right, h1, h2, h3, h4, e0, e1, e2]
      have HX := Lib.hid hx
      clear hx e0 e1 e2
      go_enter Tryd.func34, Tryd.ntmps34
      go_wp2_with (go_at_call 35; refine (within_any _ _ _).mono ?_; rintro e _ ⟨rfl, rfl⟩)
      exact hR.out _ _ ⟨ret_bool (by rw [HX.out]), (Keep.refl _ _).alloc _⟩
end Go.Proofs.YtcifkcijohlamaaDoor
