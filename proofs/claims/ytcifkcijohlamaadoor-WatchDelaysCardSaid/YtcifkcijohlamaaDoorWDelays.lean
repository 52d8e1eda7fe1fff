import Derived.Test.YtcifkcijohlamaaDoorWatch4
/-! The law WatchDelays. -/
set_option linter.unusedVariables false
set_option maxHeartbeats 1000000
namespace Go.Proofs.YtcifkcijohlamaaDoor
open Go.RowKit Go.LB

theorem walive_any (ad : Nat → Addr) (w : World) (hE : WErr w ad) (hW : Words w) :
    Calls Tryd.prog 5 #[] w fun e w' => e = .returned (.bool true) ∧ New w w' := by
  refine calls_hide fun R hR => ?_
  go_enter Tryd.func5, Tryd.ntmps5
  go_wp2_with fail
  refine (start_any ad Wat.zero 0 w hE).mono ?_
  rintro e w1 ⟨rfl, k1⟩
  rw [show startE Wat.zero 0 = 0 by decide, show toW Wat.zero 1 0 = ⟨1, 0, 0, 0⟩ from rfl, errC_zero]
  have k2 : New w (w1.alloc (.cells #[.int .i64 1, .int .i64 0, .int .i64 0, .int .i64 0] 45)) := k1.alloc _
  have r2 := Row.alloc w1 45 [.int .i64 1, .int .i64 0, .int .i64 0, .int .i64 0]
  have hE2 := hE.new k2
  go_wp2_with fail
  refine (fail_any ad ⟨1, 0, 0, 0⟩ 5 _ hE2).mono ?_
  rintro e w3 ⟨rfl, k3⟩
  rw [show failE ⟨1, 0, 0, 0⟩ 5 = 0 by decide, show failW ⟨1, 0, 0, 0⟩ 5 = ⟨3, 0, 1, 6⟩ by decide, errC_zero]
  have r3 := r2.new k3
  have hW3 := hW.new (k2.trans k3)
  have k03 := k2.trans k3
  have c0 := r3.cell 0 rfl
  have c1 := r3.cell 1 rfl
  have c2 := r3.cell 2 rfl
  have c3 := r3.cell 3 rfl
  have z := r3.frozen
  have hlt : w.heap.size ≤ w1.heap.size := k1.size
  generalize w1.heap.size = p at *
  clear r2 r3 k2 k3 hE2 k1
  have hW4 : Words ((((w3.setCell ⟨p, 0, none⟩ (.int .i64 3)).setCell ⟨p, 1, none⟩ (.int .i64 0)).setCell ⟨p, 2, none⟩ (.int .i64 1)).setCell ⟨p, 3, none⟩ (.int .i64 6)) := by
    have hk : New w ((((w3.setCell ⟨p, 0, none⟩ (.int .i64 3)).setCell ⟨p, 1, none⟩ (.int .i64 0)).setCell ⟨p, 2, none⟩ (.int .i64 1)).setCell ⟨p, 3, none⟩ (.int .i64 6)) :=
      (((k03.setCell (fun h => absurd h (Nat.not_lt.2 hlt)) _).setCell (fun h => absurd h (Nat.not_lt.2 hlt)) _).setCell (fun h => absurd h (Nat.not_lt.2 hlt)) _).setCell (fun h => absurd h (Nat.not_lt.2 hlt)) _
    exact hW.new hk
  have hw3 : (word 3).toList = [119, 97, 105, 116, 105, 110, 103] := by decide +kernel
  go_wp2_with (go_at_call 8; refine (word_any _ _ hW4).mono ?_; rintro e w2 ⟨rfl, rfl⟩)
  exact hR.out _ _ ⟨rfl, (((k03.setCell (fun h => absurd h (Nat.not_lt.2 hlt)) _).setCell (fun h => absurd h (Nat.not_lt.2 hlt)) _).setCell (fun h => absurd h (Nat.not_lt.2 hlt)) _).setCell (fun h => absurd h (Nat.not_lt.2 hlt)) _⟩

theorem wdelays_any (ad : Nat → Addr) (n : Int) (w : World) (h0 : -9223372036854775808 ≤ n) (h1 : n ≤ 9223372036854775807) (hE : WErr w ad) (hW : Words w) :
    Calls Tryd.prog 3 #[.int .i64 n] w fun e w' => e = .returned (.bool true) ∧ New w w' := by
  refine calls_hide fun R hR => ?_
  go_enter Tryd.func3, Tryd.ntmps3
  go_wp2_with fail
  refine (walive_any ad w hE hW).mono ?_
  rintro e w1 ⟨rfl, k1⟩
  have hW1 := hW.new k1
  have hn : n < 0 ∨ n = 0 ∨ n = 1 ∨ n = 2 ∨ n = 3 ∨ 3 < n := by omega
  rcases hn with hn | rfl | rfl | rfl | rfl | hn
  · have hw : (word n).toList = [] := by
      have : word n = bstr [] := by unfold word; rw [if_neg (by omega), if_neg (by omega), if_neg (by omega), if_neg (by omega)]
      rw [this]; decide +kernel
    go_wp2_with (first | (go_at_call 6; refine (delay_any _ _ h0 h1).mono ?_; rintro e w2 ⟨rfl, rfl⟩) | (go_at_call 7; refine (refdelay_any _ _).mono ?_; rintro e w2 ⟨rfl, rfl⟩) | (go_at_call 8; refine (word_any _ _ hW1).mono ?_; rintro e w2 ⟨rfl, rfl⟩))
    exact hR.out _ _ ⟨rfl, k1⟩
  · have hw : (word 0).toList = [105, 100, 108, 101] := by decide +kernel
    go_wp2_with (first | (go_at_call 6; refine (delay_any _ _ h0 h1).mono ?_; rintro e w2 ⟨rfl, rfl⟩) | (go_at_call 7; refine (refdelay_any _ _).mono ?_; rintro e w2 ⟨rfl, rfl⟩) | (go_at_call 8; refine (word_any _ _ (hW1.new ((Keep.refl _ _).alloc _))).mono ?_; rintro e w2 ⟨rfl, rfl⟩))
    exact hR.out _ _ ⟨rfl, k1.alloc _⟩
  · have hw : (word 1).toList = [108, 105, 115, 116, 105, 110, 103] := by decide +kernel
    go_wp2_with (first | (go_at_call 6; refine (delay_any _ _ h0 h1).mono ?_; rintro e w2 ⟨rfl, rfl⟩) | (go_at_call 7; refine (refdelay_any _ _).mono ?_; rintro e w2 ⟨rfl, rfl⟩) | (go_at_call 8; refine (word_any _ _ (hW1.new ((Keep.refl _ _).alloc _))).mono ?_; rintro e w2 ⟨rfl, rfl⟩))
    exact hR.out _ _ ⟨rfl, k1.alloc _⟩
  · have hw : (word 2).toList = [119, 97, 116, 99, 104, 105, 110, 103] := by decide +kernel
    go_wp2_with (first | (go_at_call 6; refine (delay_any _ _ h0 h1).mono ?_; rintro e w2 ⟨rfl, rfl⟩) | (go_at_call 7; refine (refdelay_any _ _).mono ?_; rintro e w2 ⟨rfl, rfl⟩) | (go_at_call 8; refine (word_any _ _ (hW1.new ((Keep.refl _ _).alloc _))).mono ?_; rintro e w2 ⟨rfl, rfl⟩))
    exact hR.out _ _ ⟨rfl, k1.alloc _⟩
  · have hw : (word 3).toList = [119, 97, 105, 116, 105, 110, 103] := by decide +kernel
    go_wp2_with (first | (go_at_call 6; refine (delay_any _ _ h0 h1).mono ?_; rintro e w2 ⟨rfl, rfl⟩) | (go_at_call 7; refine (refdelay_any _ _).mono ?_; rintro e w2 ⟨rfl, rfl⟩) | (go_at_call 8; refine (word_any _ _ (hW1.new ((Keep.refl _ _).alloc _))).mono ?_; rintro e w2 ⟨rfl, rfl⟩))
    exact hR.out _ _ ⟨rfl, k1.alloc _⟩
  · have hw : (word n).toList = [] := by
      have : word n = bstr [] := by unfold word; rw [if_neg (by omega), if_neg (by omega), if_neg (by omega), if_neg (by omega)]
      rw [this]; decide +kernel
    have hn0 : 0 ≤ n := by omega
    go_wp2_with (first | (go_at_call 6; refine (delay_any _ _ h0 h1).mono ?_; rintro e w2 ⟨rfl, rfl⟩) | (go_at_call 7; refine (refdelay_any _ _).mono ?_; rintro e w2 ⟨rfl, rfl⟩) | (go_at_call 8; refine (word_any _ _ hW1).mono ?_; rintro e w2 ⟨rfl, rfl⟩))
    exact hR.out _ _ ⟨rfl, k1⟩
end Go.Proofs.YtcifkcijohlamaaDoor
