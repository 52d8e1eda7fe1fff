import Derived.Test.YtcifkcijohlamaaFacts
import Derived.Deep.QuietTactic
import Derived.BigQuiet
namespace Go.Proofs.Ytcifkcijohlamaa
open Go.RowKit Go.LB
set_option linter.unusedVariables false
set_option maxHeartbeats 400000

theorem take_any (r : Nat) (F : Nat → Prop) (l : List UInt8) (v : Value) (n : Nat) (w : World) (hn : n ≤ 65535) (hl : l.length ≤ 3000)
   (hr : w.cell? ⟨r, 0, none⟩ = some v) (hf : w.frozen? ⟨r, 0, none⟩ = false) (hv : SlRep w F l v) (hF : ∀ k, F k → k ≠ r) :
   Calls Try.prog 14 #[.pointer (some ⟨r, 0, none⟩), .int .i64 n] w fun e w' => ∃ u v', e = .returned u ∧ SlRep w' F (l.take n) u ∧ SlRep w' F (l.drop n) v' ∧ w' = w.setCell ⟨r, 0, none⟩ v' := by
  have H := Lib.hid hv
  obtain ⟨a, c, rfl, hlc, hc⟩ := hv.shape
  clear hv
  unfold maxLen at hc
  have hk : ∀ u, Keep (fun k => k = r) w (w.setCell ⟨r, 0, none⟩ u) := fun u => (Keep.refl (fun k => k = r) _).setCell (fun _ => rfl) _
  refine calls_hide fun R hR => ?_
  go_enter Try.func14, Try.ntmps14
  go_wp2

  all_goals refine hR.out _ _ ⟨_, _, rfl, SlRep.keep ?_ (hk _) fun i _ h1 h2 => hF i h1 h2, SlRep.keep ?_ (hk _) fun i _ h1 h2 => hF i h1 h2, rfl⟩
  · rename_i h
    rw [List.take_of_length_le (by omega)]; have := H.out; rwa [h] at this
  · rw [List.drop_eq_nil_of_le (by omega)]; exact ⟨_, _, [], rfl, by simp, by simp [maxLen], rfl, .inl rfl⟩
  · rw [List.take_of_length_le (by omega)]; exact H.out
  · rw [List.drop_eq_nil_of_le (by omega)]; exact ⟨_, _, [], rfl, by simp, by simp [maxLen]; omega, rfl, .inl rfl⟩
  · exact H.out.take _ _ (by omega) (by omega) (by simp [maxLen]; omega)
  · have := H.out.cut n (l.length - n) 0 a (by omega) (by omega) (by simp [maxLen]) (fun h => by omega)
    rwa [List.take_of_length_le (by simp)] at this
  · exact H.out.take _ _ (by omega) (by omega) (by simp [maxLen]; omega)
  · have := H.out.cut n (l.length - n) (c - n) (a.map (·.add n)) (by omega) (by omega) (by simp [maxLen]; omega) (fun h => by simp [Enc.size])
    rwa [List.take_of_length_le (by simp)] at this

theorem clone_any (F G : Nat → Prop) (l : List UInt8) (v : Value) (w : World) (hl : l.length ≤ 65535) (hv : SlRep w F l v) :
   Calls Try.prog 15 #[v] w fun e w' => ∃ u b, e = .returned u ∧ Own w' G 5 b l u ∧ New w w' ∧ ∀ g, b = some g → w.heap.size ≤ g := by
  have H := Lib.hid hv
  obtain ⟨a, c, rfl, hlc, hc⟩ := hv.shape
  clear hv
  unfold maxLen at hc
  cases a with
  | none =>
    have hnil := Lib.hid (SlRep.none_nil H.out)
    go_enter Try.func15, Try.ntmps15
    go_wp2
    go_ret
    have := hnil.out
    subst this
    exact ⟨_, none, rfl, Own.nil _ _ _ _, Keep.refl _ _, by simp⟩
  | some a =>
    have hk : New w (w.alloc (.cells #[] 5)) := (Keep.refl _ _).alloc _
    have hs : Src (w.alloc (.cells #[] 5)) (fun k => G k ∧ none ≠ some k) l (Value.slice (some a) l.length c) := by
      obtain ⟨a', c', xs, e, h1, h2⟩ := (H.out.new hk).src
      exact ⟨a', c', xs, e, reps_bytes.2 (reps_bytes.1 h1), h2⟩
    go_enter Try.func15, Try.ntmps15
    go_wp2_with (at_builtin; refine wpList_app E22 rfl _ _ rfl rfl rfl (Own.nil (α := UInt8) _ G 5 _) hs ?_ ?_ ?_)
    · simp; omega
    · simp [maxLen]; omega
    · intro v' w' b' h1 h2 h3 h4
      have hk2 : New w w' := hk.then h2 (by simp)
      have hb : ∀ g, b' = some g → w.heap.size ≤ g := by
        rintro g rfl
        rcases h3 with h3 | h3
        · cases h3
        · cases h3; simp
      clear h2 h3 h4 hs hk
      go_wp2
      go_ret
      exact ⟨_, _, rfl, h1, hk2, hb⟩

/-- A script's reader at block r: what is left. -/
def Rd (w : World) (F : Nat → Prop) (r : Nat) (l : List UInt8) : Prop :=
  ∃ v, w.cell? ⟨r, 0, none⟩ = some v ∧ w.frozen? ⟨r, 0, none⟩ = false ∧ SlRep w F l v ∧ (∀ k, F k → k ≠ r) ∧ r < w.heap.size
theorem Rd.set {w : World} {F : Nat → Prop} {r : Nat} {l m : List UInt8} {v : Value} (h : Rd w F r l) (hv : SlRep (w.setCell ⟨r, 0, none⟩ v) F m v) : Rd (w.setCell ⟨r, 0, none⟩ v) F r m := by
  obtain ⟨u, h1, h2, h3, h4, h5⟩ := h
  exact ⟨v, by go_simp, by go_simp, hv, h4, by simpa [World.setCell] using h5⟩
theorem Rd.new {w w' : World} {F : Nat → Prop} {r : Nat} {l : List UInt8} (h : Rd w F r l) (k : New w w') : Rd w' F r l := by
  obtain ⟨u, h1, h2, h3, h4, h5⟩ := h
  exact ⟨u, by rw [k.cell (p := ⟨r, 0, none⟩) h5 id]; exact h1, by rw [k.frozen (p := ⟨r, 0, none⟩) h5 id]; exact h2, h3.new k, h4, Nat.lt_of_lt_of_le h5 k.size⟩

theorem take_rd (r : Nat) (F : Nat → Prop) (l : List UInt8) (n : Nat) (w : World) (hn : n ≤ 65535) (hl : l.length ≤ 3000) (h : Rd w F r l) :
   Calls Try.prog 14 #[.pointer (some ⟨r, 0, none⟩), .int .i64 n] w fun e w' => ∃ u, e = .returned u ∧ SlRep w' F (l.take n) u ∧ Rd w' F r (l.drop n) ∧ Keep (fun k => k = r) w w' := by
  have h' := h
  obtain ⟨v, h1, h2, h3, h4, h5⟩ := h
  refine (take_any r F l v n w hn hl h1 h2 h3 h4).mono ?_
  rintro e w' ⟨u, v', rfl, a1, a2, rfl⟩
  exact ⟨u, rfl, a1, h'.set a2, (Keep.refl (fun k => k = r) _).setCell (fun _ => rfl) _⟩

theorem number_rd (r : Nat) (F : Nat → Prop) (l : List UInt8) (w : World) (hl : l.length ≤ 3000) (h : Rd w F r l) :
   Calls Try.prog 16 #[.pointer (some ⟨r, 0, none⟩)] w fun e w' => ∃ n : Nat, e = .returned (.int .i64 n) ∧ n = (l.getD 0 0).toNat * 256 + (l.getD 1 0).toNat ∧ Rd w' F r (l.drop 2) ∧ Keep (fun k => k = r) w w' := by
  refine calls_hide fun R hR => ?_
  go_enter Try.func16, Try.ntmps16
  go_wp2_with fail
  refine (take_rd r F l 2 w (by omega) hl h).mono ?_
  rintro e w1 ⟨u, rfl, h1, h2, h3⟩
  go_wp2_with fail
  refine (clone_any F (fun _ => False) (l.take 2) u w1 (by simp; omega) h1).mono ?_
  rintro e w2 ⟨u2, b2, rfl, h4, h5, h6⟩
  go_wp2_with (at_builtin; refine wpList_app E22 rfl _ _ rfl rfl rfl (h4.new ((Keep.refl _ _).alloc _)) (Src.built (m := [0, 0]) (reps_bytes.2 rfl) _ _ rfl _ (by simp)) ?_ ?_ ?_)
  · simp; omega
  · simp [maxLen]; omega
  intro v' w3 b3 h7 h8 h9 h10
  have k13 : New w1 w3 := (h5.alloc _).then h8 (fun i hi hm => absurd (h6 i hm) (by omega))
  have hr3 := h2.new k13
  have k03 : Keep (fun k => k = r) w w3 := h3.trans k13.to
  have hlen : (l.take 2 ++ [0, 0]).length = (l.take 2).length + 2 := by simp
  obtain ⟨b, off, c, rfl, hb, _, hc⟩ := h7.any.byte_cells (by simp)
  have c0 := hc 0 (by omega)
  have c1 := hc 1 (by omega)
  have g0 : (l.take 2 ++ [0, 0]).getD 0 0 = l.getD 0 0 := by
    cases l with
    | nil => simp
    | cons a l => cases l <;> simp
  have g1 : (l.take 2 ++ [0, 0]).getD 1 0 = l.getD 1 0 := by
    cases l with
    | nil => simp
    | cons a l => cases l <;> simp
  rw [g0, Nat.add_zero] at c0; rw [g1] at c1; rw [hlen]
  clear g0 g1 hc h7 h8 h9 h10 h4 h5 h6 h1 h2 h3 hlen
  generalize hn : (l.take 2).length + 2 = n at *
  have p0 : 0 < n := by omega
  have p1 : (1 : Int) < n := by omega
  have p1' : 1 < n := by omega
  clear hn
  generalize l.getD 0 0 = x0 at *
  generalize l.getD 1 0 = x1 at *
  go_wp2
  go_quiet (fail)
  rw [or_bytes]
  go_wp2
  exact hR.out _ _ ⟨_, rfl, rfl, hr3.new ((Keep.refl _ _).drewN _), k03.drewN _⟩

theorem fail_rd (r : Nat) (F : Nat → Prop) (l : List UInt8) (w : World) (hl : l.length ≤ 3000) (h : Rd w F r l) :
   Calls Try.prog 17 #[.pointer (some ⟨r, 0, none⟩)] w fun e w' => ∃ n : Int, e = .returned (.int .i64 n) ∧ n = (if l.getD 0 255 = 255 then -1 else ((l.getD 0 255).toNat : Int)) ∧ Rd w' F r (l.drop 1) ∧ Keep (fun k => k = r) w w' := by
  refine calls_hide fun R hR => ?_
  go_enter Try.func17, Try.ntmps17
  go_wp2_with fail
  refine (take_rd r F l 1 w (by omega) hl h).mono ?_
  rintro e w1 ⟨u, rfl, h1, h2, h3⟩
  go_wp2_with fail
  refine (clone_any F (fun _ => False) (l.take 1) u w1 (by simp; omega) h1).mono ?_
  rintro e w2 ⟨u2, b2, rfl, h4, h5, h6⟩
  go_wp2_with (at_builtin; refine wpList_app E22 rfl _ _ rfl rfl rfl (h4.new ((Keep.refl _ _).alloc _)) (Src.built (m := [255]) (reps_bytes.2 rfl) _ _ rfl _ (by simp)) ?_ ?_ ?_)
  · simp; omega
  · simp [maxLen]; omega
  intro v' w3 b3 h7 h8 h9 h10
  have k13 : New w1 w3 := (h5.alloc _).then h8 (fun i hi hm => absurd (h6 i hm) (by omega))
  have hr3 := h2.new k13
  have k03 : Keep (fun k => k = r) w w3 := h3.trans k13.to
  have hlen : (l.take 1 ++ [255]).length = (l.take 1).length + 1 := by simp
  obtain ⟨b, off, c, rfl, hb, _, hc⟩ := h7.any.byte_cells (by simp)
  have c0 := hc 0 (by omega)
  have g0 : (l.take 1 ++ [255]).getD 0 0 = l.getD 0 255 := by
    cases l <;> simp
  rw [g0, Nat.add_zero] at c0; rw [hlen]
  clear g0 hc h7 h8 h9 h10 h4 h5 h6 h1 h2 h3 hlen
  generalize hn : (l.take 1).length + 1 = n at *
  have p0 : 0 < n := by omega
  clear hn
  generalize l.getD 0 255 = x0 at *
  have hx := x0.toNat_lt
  by_cases hx0 : x0 = 255
  · subst hx0
    go_wp2
    exact hR.out _ _ ⟨_, rfl, rfl, hr3, k03⟩
  · have hne : ((x0.toNat : Int) == 255) = false := by
      rw [beq_eq_false_iff_ne]
      intro h
      exact hx0 (UInt8.toNat_inj.1 (by simp; omega))
    have hw : wrap64 (x0.toNat : Int) = x0.toNat := wrap64_in (by omega) (by omega)
    have Hx := Lib.hid hx0
    clear hx0
    go_wp2
    exact hR.out _ _ ⟨_, rfl, by rw [if_neg Hx.out], hr3, k03⟩

end Go.Proofs.Ytcifkcijohlamaa
