import Derived.Test.YtcifkcijohlamaaDoorProg
import Derived.Test.YtcifkcijohlamaaDoorBase
import Derived.Deep.RegionHeld3
/-! The Watcher: Right, Delay, Word, and the small methods. -/
set_option linter.unusedVariables false
set_option maxHeartbeats 400000
namespace Go.Proofs.YtcifkcijohlamaaDoor
open Go.RowKit Go.LB

/-- A sentinel of package api. -/
abbrev errV (ad : Nat → Addr) (k : Nat) : Value := .iface 84 (.pointer (some (ad k)))

structure Wat where
  st : Int
  ver : Int
  fails : Int
  til : Int
deriving DecidableEq
abbrev Wat.v (x : Wat) : Value := .agg #[.int .i64 x.st, .int .i64 x.ver, .int .i64 x.fails, .int .i64 x.til]
def Wat.zero : Wat := ⟨0, 0, 0, 0⟩
def inB (n most : Int) : Bool := decide (0 ≤ n) && decide (n ≤ most)
def Wat.right (x : Wat) : Bool :=
  inB x.st 3 && inB x.ver 1099511627776 && inB x.fails 30 && inB x.til 1099511627840 &&
  (if x.st = 0 then decide (x = Wat.zero) else if x.st = 1 then decide (x.til = 0) else if x.st = 2 then decide (x.til = 0) && decide (0 < x.ver) else decide (0 < x.fails))

theorem within_any (n most : Int) (w : World) :
    Calls Tryd.prog 35 #[.int .i64 n, .int .i64 most] w fun e w' => e = .returned (.bool (inB n most)) ∧ w = w' := by
  refine calls_hide fun R hR => ?_
  go_enter Tryd.func35, Tryd.ntmps35
  by_cases h : 0 ≤ n
  · go_wp2
    exact hR.out _ _ ⟨ret_bool (by simp [inB, h]), rfl⟩
  · go_wp2
    exact hR.out _ _ ⟨ret_bool (by simp [inB]; omega), rfl⟩

def delay (n : Int) : Int := if n < 1 then 0 else if n ≤ 6 then (2 : Int) ^ (n - 1).toNat else 64

theorem two_pow_big (k : Nat) (h1 : 6 < k) : (64 : Int) < (2 : Int) ^ k := by
  obtain ⟨j, rfl⟩ : ∃ j, k = 7 + j := ⟨k - 7, by omega⟩
  have h := Nat.one_le_two_pow (n := j)
  have e : ((2 : Int) ^ (7 + j)) = ((2 ^ (7 + j) : Nat) : Int) := by simp
  rw [e, Nat.pow_add]
  omega
theorem two_pow_small (k : Nat) (h1 : k ≤ 6) : (2 : Int) ^ k ≤ 64 := by
  have h : k = 0 ∨ k = 1 ∨ k = 2 ∨ k = 3 ∨ k = 4 ∨ k = 5 ∨ k = 6 := by omega
  rcases h with rfl | rfl | rfl | rfl | rfl | rfl | rfl <;> decide

theorem two_pow_wrap (k : Nat) (h1 : k ≤ 30) : wrap64 ((2 : Int) ^ k) = (2 : Int) ^ k := by
  have h : (2 : Int) ^ k = ((2 ^ k : Nat) : Int) := by simp
  have h2 : 2 ^ k ≤ 2 ^ 30 := Nat.pow_le_pow_right (by omega) h1
  rw [h]
  generalize 2 ^ k = m at h2
  exact wrap64_in (by omega) (by omega)
theorem delay_k (k : Nat) (w : World) (hk : (k : Int) ≤ 30) :
    Calls Tryd.prog 6 #[.int .i64 ((k : Int) + 1)] w fun e w' => e = .returned (.int .i64 (delay ((k : Int) + 1))) ∧ w = w' := by
  have hd : delay ((k : Int) + 1) = min (wrap64 ((2 : Int) ^ k)) 64 := by
    rw [two_pow_wrap k (by omega)]
    unfold delay
    rw [if_neg (by omega), Int.add_sub_cancel, Int.toNat_natCast]
    by_cases h6 : k ≤ 5
    · rw [if_pos (by omega)]
      have := two_pow_small k (by omega)
      omega
    · rw [if_neg (by omega)]
      by_cases h7 : k = 6
      · subst h7; decide
      · have := two_pow_big k (by omega)
        omega
  have Hd := Lib.hid hd
  clear hd
  have hw : wrap64 (k : Int) = k := wrap64_in (by omega) (by omega)
  have h1 : decide ((k : Int) + 1 < 1) = false := by simp; omega
  have h2 : ¬ ((k : Int) + 1 < 1) := by omega
  refine calls_hide fun R hR => ?_
  go_enter Tryd.func6, Tryd.ntmps6
  go_wp2
  all_goals exact hR.out _ _ ⟨ret_int (by rw [Hd.out]; omega), rfl⟩
theorem delay_any (n : Int) (w : World) (h0 : -9223372036854775808 ≤ n) (h1 : n ≤ 9223372036854775807) :
    Calls Tryd.prog 6 #[.int .i64 n] w fun e w' => e = .returned (.int .i64 (delay n)) ∧ w = w' := by
  by_cases hn : n < 1
  · have hd : delay n = 0 := by unfold delay; rw [if_pos hn]
    have Hd := Lib.hid hd
    clear hd
    refine calls_hide fun R hR => ?_
    go_enter Tryd.func6, Tryd.ntmps6
    go_wp2
    exact hR.out _ _ ⟨ret_int Hd.out.symm, rfl⟩
  · by_cases hb : n ≤ 31
    · obtain ⟨k, rfl⟩ : ∃ k : Nat, n = (k : Int) + 1 := ⟨(n - 1).toNat, by omega⟩
      exact delay_k k w (by omega)
    · have hd : delay n = 64 := by unfold delay; rw [if_neg hn, if_neg (by omega)]
      have hw : wrap64 (n - 1) = n - 1 := wrap64_in (by omega) (by omega)
      have Hd := Lib.hid hd
      clear hd
      have h1 : decide (n < 1) = false := by simp; omega
      have h2 : 30 < n - 1 := by omega
      refine calls_hide fun R hR => ?_
      go_enter Tryd.func6, Tryd.ntmps6
      go_wp2
      all_goals exact hR.out _ _ ⟨ret_int Hd.out.symm, rfl⟩

theorem delay_le (n : Int) : 0 ≤ delay n ∧ delay n ≤ 64 := by
  unfold delay
  split
  · omega
  · split
    · rename_i h1 h2
      have h : (2 : Int) ^ (n - 1).toNat = ((2 ^ (n - 1).toNat : Nat) : Int) := by simp
      exact ⟨by rw [h]; exact Int.natCast_nonneg _, two_pow_small (n - 1).toNat (by omega)⟩
    · omega

/-- What the reference waits. -/
theorem refdelay_any (n : Int) (w : World) :
    Calls Tryd.prog 7 #[.int .i64 n] w fun e w' => e = .returned (.int .i64 (delay n)) ∧ w = w' := by
  by_cases hn : n < 1
  · have hd : delay n = 0 := by unfold delay; rw [if_pos hn]
    have Hd := Lib.hid hd
    clear hd
    refine calls_hide fun R hR => ?_
    go_enter Tryd.func7, Tryd.ntmps7
    go_wp2
    exact hR.out _ _ ⟨ret_int Hd.out.symm, rfl⟩
  · have h1 : decide (n < 1) = false := by simp; omega
    refine calls_hide fun R hR => ?_
    go_enter Tryd.func7, Tryd.ntmps7
    have hd6 : 7 ≤ n → delay n = 64 := fun h => by
      unfold delay
      rw [if_neg hn]
      split
      · omega
      · rfl
    have hdj : ∀ j : Nat, (j : Int) + 1 = n → j ≤ 5 → delay n = (2 : Int) ^ j := fun j hj h5 => by
      unfold delay
      rw [if_neg hn, if_pos (by omega), show (n - 1).toNat = j by omega]
    have Hd6 := Lib.hid hd6
    have Hdj := Lib.hid hdj
    clear hd6 hdj
    go_wp2_with fail
    go_loop [3, 4] (fun t i => ∃ (j : Nat) (p : Int), j ≤ 6 ∧ t = .int .i64 p ∧ i = .int .i64 ((j : Int) + 1) ∧ (j : Int) + 1 ≤ n ∧ Aside (p = (2 : Int) ^ j)) (fun _ i => 7 - (intOf i).toNat)
    case atStart => exact ⟨0, 1, by omega, rfl, rfl, by omega, by simp [Aside]⟩
    case round =>
      obtain ⟨j, p, hj, rfl, rfl, hle, hp⟩ := hrel
      by_cases h6 : j = 6
      · subst h6
        obtain rfl : p = 64 := hp.out
        go_wp2
        exact hR.out _ _ ⟨ret_int (Hd6.out (by omega)).symm, rfl⟩
      · have hp2 : p < 64 ∧ 0 < p := by
          have h : j = 0 ∨ j = 1 ∨ j = 2 ∨ j = 3 ∨ j = 4 ∨ j = 5 := by omega
          have := hp.out
          rcases h with rfl | rfl | rfl | rfl | rfl | rfl <;> simp at this <;> omega
        have hw : wrap64 (p * 2) = p * 2 := wrap64_in (by omega) (by omega)
        have hlt : decide (p < 64) = true := by simp; omega
        by_cases hjn : (j : Int) + 1 < n
        · have hpp : p * 2 = (2 : Int) ^ (j + 1) := by rw [Int.pow_succ, hp.out]
          have Hpp := Lib.hid hpp
          clear hpp hp
          go_wp2
          exact ⟨⟨j + 1, p * 2, by omega, rfl, by go_num, by omega, Hpp.out⟩, by simp [intOf]; omega⟩
        · have he : (j : Int) + 1 = n := by omega
          have hv := Hdj.out j he (by omega)
          rw [← hp.out] at hv
          have Hv := Lib.hid hv
          clear hv he hp
          go_wp2
          exact hR.out _ _ ⟨ret_int Hv.out.symm, rfl⟩

def word (n : Int) : ByteArray := if n = 0 then bstr [105, 100, 108, 101] else if n = 1 then bstr [108, 105, 115, 116, 105, 110, 103] else if n = 2 then bstr [119, 97, 116, 99, 104, 105, 110, 103] else if n = 3 then bstr [119, 97, 105, 116, 105, 110, 103] else bstr []

/-- The table of the states' names. -/
structure Words (w : World) : Prop where
  c0 : w.cell? ⟨0, 0, none⟩ = some (.string (bstr [105, 100, 108, 101]))
  c1 : w.cell? ⟨0, 1, none⟩ = some (.string (bstr [108, 105, 115, 116, 105, 110, 103]))
  c2 : w.cell? ⟨0, 2, none⟩ = some (.string (bstr [119, 97, 116, 99, 104, 105, 110, 103]))
  c3 : w.cell? ⟨0, 3, none⟩ = some (.string (bstr [119, 97, 105, 116, 105, 110, 103]))
theorem Words.new {w w' : World} (h : Words w) (k : New w w') : Words w' := by
  have hl := World.block_lt_of_cell? _ _ h.c0
  exact ⟨by rw [k.cell (p := ⟨_, 0, none⟩) hl id]; exact h.c0, by rw [k.cell (p := ⟨_, 1, none⟩) hl id]; exact h.c1, by rw [k.cell (p := ⟨_, 2, none⟩) hl id]; exact h.c2, by rw [k.cell (p := ⟨_, 3, none⟩) hl id]; exact h.c3⟩

theorem word_any (n : Int) (w : World) (h : Words w) :
    Calls Tryd.prog 8 #[.int .i64 n] w fun e w' => e = .returned (.string (word n)) ∧ w = w' := by
  obtain ⟨c0, c1, c2, c3⟩ := h
  have hn : n < 0 ∨ n = 0 ∨ n = 1 ∨ n = 2 ∨ n = 3 ∨ 3 < n := by omega
  refine calls_hide fun R hR => ?_
  rcases hn with hn | rfl | rfl | rfl | rfl | hn
  · have hw : word n = bstr [] := by unfold word; rw [if_neg (by omega), if_neg (by omega), if_neg (by omega), if_neg (by omega)]
    rw [hw] at hR
    clear hw
    go_enter Tryd.func8, Tryd.ntmps8
    go_wp2
    exact hR.out _ _ ⟨rfl, rfl⟩
  · go_enter Tryd.func8, Tryd.ntmps8
    go_wp2
    exact hR.out _ _ ⟨rfl, rfl⟩
  · go_enter Tryd.func8, Tryd.ntmps8
    go_wp2
    exact hR.out _ _ ⟨rfl, rfl⟩
  · go_enter Tryd.func8, Tryd.ntmps8
    go_wp2
    exact hR.out _ _ ⟨rfl, rfl⟩
  · go_enter Tryd.func8, Tryd.ntmps8
    go_wp2
    exact hR.out _ _ ⟨rfl, rfl⟩
  · have hw : word n = bstr [] := by unfold word; rw [if_neg (by omega), if_neg (by omega), if_neg (by omega), if_neg (by omega)]
    rw [hw] at hR
    clear hw
    have h0 : ¬ n < 0 := by omega
    go_enter Tryd.func8, Tryd.ntmps8
    go_wp2
    exact hR.out _ _ ⟨rfl, rfl⟩
end Go.Proofs.YtcifkcijohlamaaDoor
