import Derived.Test.YtcifkcijohlamaaDoorWatch2
/-! The Watcher: may, in, to, Start, Fail. -/
set_option linter.unusedVariables false
set_option maxHeartbeats 1000000
namespace Go.Proofs.YtcifkcijohlamaaDoor
open Go.RowKit Go.LB

/-- The sentinels that a Watcher returns. -/
structure WErr (w : World) (ad : Nat → Addr) : Prop where
  c1 : w.cell? ⟨1, 0, none⟩ = some (errV ad 1)
  c4 : w.cell? ⟨4, 0, none⟩ = some (errV ad 4)
  c15 : w.cell? ⟨15, 0, none⟩ = some (errV ad 15)
theorem WErr.new {w w' : World} {ad : Nat → Addr} (h : WErr w ad) (k : New w w') : WErr w' ad :=
  ⟨by rw [k.cell (p := ⟨_, 0, none⟩) (World.block_lt_of_cell? _ _ h.c1) id]; exact h.c1, by rw [k.cell (p := ⟨_, 0, none⟩) (World.block_lt_of_cell? _ _ h.c4) id]; exact h.c4, by rw [k.cell (p := ⟨_, 0, none⟩) (World.block_lt_of_cell? _ _ h.c15) id]; exact h.c15⟩

/-- An error by its number; 0: none. -/
def errC (ad : Nat → Addr) (k : Nat) : Value := if k = 0 then .nilIface else errV ad k
theorem errC_zero (ad : Nat → Addr) : errC ad 0 = .nilIface := rfl
theorem errC_pos (ad : Nat → Addr) {k : Nat} (h : k ≠ 0) : errC ad k = errV ad k := if_neg h
def mayC (x : Wat) (now : Int) : Nat := if x.right = false then 4 else if inB now 1099511627776 = false then 1 else 0
def inC (x : Wat) (k : Nat) (a b : Int) : Nat := if k = 0 ∧ x.st ≠ a ∧ x.st ≠ b then 15 else k
def toW (x : Wat) (st : Int) (k : Nat) : Wat := if k = 0 then ⟨st, x.ver, x.fails, 0⟩ else x

theorem inC_zero {x : Wat} {k : Nat} {a b : Int} : inC x k a b = 0 ↔ k = 0 ∧ (x.st = a ∨ x.st = b) := by
  unfold inC
  split
  · rename_i h
    constructor
    · intro h'; cases h'
    · rintro ⟨_, h' | h'⟩
      · exact absurd h' h.2.1
      · exact absurd h' h.2.2
  · rename_i h
    constructor
    · intro hk
      refine ⟨hk, ?_⟩
      by_cases h1 : x.st = a
      · exact .inl h1
      · by_cases h2 : x.st = b
        · exact .inr h2
        · exact absurd ⟨hk, h1, h2⟩ h
    · exact fun h' => h'.1
theorem mayC_zero {x : Wat} {now : Int} : mayC x now = 0 ↔ x.right = true ∧ 0 ≤ now ∧ now ≤ 1099511627776 := by
  unfold mayC
  cases hr : x.right
  · simp
  · cases hn : inB now 1099511627776
    · have : ¬ (0 ≤ now ∧ now ≤ 1099511627776) := by simpa [inB] using hn
      simp [this]
    · have : 0 ≤ now ∧ now ≤ 1099511627776 := by simpa [inB] using hn
      simp [this]
theorem Wat.bounds {x : Wat} (h : x.right = true) : 0 ≤ x.st ∧ x.st ≤ 3 ∧ 0 ≤ x.ver ∧ x.ver ≤ 1099511627776 ∧ 0 ≤ x.fails ∧ x.fails ≤ 30 ∧ 0 ≤ x.til ∧ x.til ≤ 1099511627840 := by
  simp only [Wat.right, Bool.and_eq_true, inB, decide_eq_true_eq] at h
  omega

theorem may_any (ad : Nat → Addr) (x : Wat) (now : Int) (w : World) (hE : WErr w ad) :
    Calls Tryd.prog 25 #[x.v, .int .i64 now] w fun e w' => e = .returned (errC ad (mayC x now)) ∧ New w w' := by
  refine calls_hide fun R hR => ?_
  have k0 : New w (w.alloc (.cells #[.int .i64 x.st, .int .i64 x.ver, .int .i64 x.fails, .int .i64 x.til] 45)) := (Keep.refl _ _).alloc _
  go_enter Tryd.func25, Tryd.ntmps25
  go_wp2_with fail
  refine (right_any ⟨x.st, x.ver, x.fails, x.til⟩ _).mono ?_
  rintro e w1 ⟨rfl, k1⟩
  have hE1 := hE.new (k0.trans k1)
  obtain ⟨c1, c4, c15⟩ := hE1
  have kk := k0.trans k1
  have hx : (⟨x.st, x.ver, x.fails, x.til⟩ : Wat) = x := rfl
  rw [hx]
  clear hx k1 k0 hE
  cases hr : x.right
  · have hm : mayC x now = 4 := by unfold mayC; rw [if_pos hr]
    rw [hm] at hR
    clear hm
    go_wp2
    exact hR.out _ _ ⟨rfl, kk⟩
  · go_wp2_with fail
    refine (within_any _ _ _).mono ?_
    rintro e _ ⟨rfl, rfl⟩
    cases hn : inB now 1099511627776
    · have hm : mayC x now = 1 := by unfold mayC; rw [if_neg (by simp [hr]), if_pos hn]
      rw [hm] at hR
      clear hm
      go_wp2
      exact hR.out _ _ ⟨rfl, kk⟩
    · have hm : mayC x now = 0 := by unfold mayC; rw [if_neg (by simp [hr]), if_neg (by simp [hn])]
      rw [hm] at hR
      clear hm
      go_wp2
      exact hR.out _ _ ⟨rfl, kk⟩

theorem in_any (ad : Nat → Addr) (x : Wat) (k : Nat) (a b : Int) (w : World) (hE : WErr w ad) :
    Calls Tryd.prog 24 #[x.v, errC ad k, .int .i64 a, .int .i64 b] w fun e w' => e = .returned (errC ad (inC x k a b)) ∧ New w w' := by
  refine calls_hide fun R hR => ?_
  obtain ⟨c1, c4, c15⟩ := hE
  have l15 := World.block_lt_of_cell? _ _ c15
  by_cases hk : k = 0
  · subst hk
    by_cases hs : x.st ≠ a ∧ x.st ≠ b
    · have hm : inC x 0 a b = 15 := by unfold inC; rw [if_pos ⟨rfl, hs⟩]
      rw [hm] at hR
      clear hm
      obtain ⟨h1, h2⟩ := hs
      rw [errC_zero]
      have b1 : (x.st != a) = true := bne_iff_ne.2 h1
      have b2 : (x.st != b) = true := bne_iff_ne.2 h2
      clear h1 h2
      go_enter Tryd.func24, Tryd.ntmps24
      go_wp2
      exact hR.out _ _ ⟨rfl, (Keep.refl _ _).alloc _⟩
    · have hm : inC x 0 a b = 0 := by unfold inC; rw [if_neg (fun h => hs h.2)]
      rw [hm] at hR
      clear hm
      rw [errC_zero]
      have b2 : (x.st != a) = false ∨ (x.st != a) = true ∧ (x.st != b) = false := by
        simp only [bne_eq_false_iff_eq, bne_iff_ne]
        by_cases h : x.st = a
        · exact .inl h
        · exact .inr ⟨h, by simpa [h] using hs⟩
      clear hs
      rcases b2 with b1 | ⟨b1, b2⟩
      all_goals
        go_enter Tryd.func24, Tryd.ntmps24
        go_wp2
        exact hR.out _ _ ⟨rfl, (Keep.refl _ _).alloc _⟩
  · have hm : inC x k a b = k := by unfold inC; rw [if_neg (fun h => hk h.1)]
    rw [hm, errC_pos ad hk] at hR
    rw [errC_pos ad hk]
    clear hm hk
    go_enter Tryd.func24, Tryd.ntmps24
    go_wp2
    exact hR.out _ _ ⟨rfl, (Keep.refl _ _).alloc _⟩

theorem to_any (ad : Nat → Addr) (x : Wat) (st : Int) (k : Nat) (w : World) :
    Calls Tryd.prog 23 #[x.v, .int .i64 st, errC ad k] w fun e w' => e = .returned (.tuple #[(toW x st k).v, errC ad k]) ∧ New w w' := by
  refine calls_hide fun R hR => ?_
  by_cases hk : k = 0
  · subst hk
    have hm : toW x st 0 = ⟨st, x.ver, x.fails, 0⟩ := rfl
    rw [hm, errC_zero] at hR
    rw [errC_zero]
    clear hm
    go_enter Tryd.func23, Tryd.ntmps23
    go_wp2
    refine bodyPost_ret (v := .tuple #[.agg #[.int .i64 st, .int .i64 x.ver, .int .i64 x.fails, .int .i64 0], .nilIface]) (by simp [results, Tryd.results23, go_sem]) rfl ?_
    exact hR.out _ _ ⟨rfl, ((Keep.refl _ _).alloc _).alloc _⟩
  · have hm : toW x st k = x := if_neg hk
    rw [hm, errC_pos ad hk] at hR
    rw [errC_pos ad hk]
    clear hm hk
    go_enter Tryd.func23, Tryd.ntmps23
    go_wp2
    refine bodyPost_ret (v := .tuple #[.agg #[.int .i64 x.st, .int .i64 x.ver, .int .i64 x.fails, .int .i64 x.til], errV ad k]) (by simp [results, Tryd.results23, go_sem]) rfl ?_
    exact hR.out _ _ ⟨rfl, ((Keep.refl _ _).alloc _).alloc _⟩

/-- What stands while a method's one region runs: the Watcher's own box, and the result's. -/
def Boxed (w : World) (x : Wat) (p q : Nat) (w' : World) : Prop := New w w' ∧ Row w' p 45 [.int .i64 x.st, .int .i64 x.ver, .int .i64 x.fails, .int .i64 x.til] ∧ Slab w' q 4 ∧ w.heap.size ≤ q ∧ p < q
def BoxedAt (w : World) (x : Wat) (p q : Nat) (w' : World) : Prop :=
  w'.cell? ⟨p, 0, none⟩ = some (.int .i64 x.st) ∧ w'.cell? ⟨p, 1, none⟩ = some (.int .i64 x.ver) ∧ w'.cell? ⟨p, 2, none⟩ = some (.int .i64 x.fails) ∧ w'.cell? ⟨p, 3, none⟩ = some (.int .i64 x.til) ∧
  w'.cell? ⟨q, 0, none⟩ = some (qc w' q 0) ∧ w'.cell? ⟨q, 1, none⟩ = some (qc w' q 1) ∧ w'.cell? ⟨q, 2, none⟩ = some (qc w' q 2) ∧ w'.cell? ⟨q, 3, none⟩ = some (qc w' q 3) ∧
  w'.frozen? ⟨q, 0, none⟩ = false ∧ w'.frozen? ⟨q, 1, none⟩ = false ∧ w'.frozen? ⟨q, 2, none⟩ = false ∧ w'.frozen? ⟨q, 3, none⟩ = false ∧ Boxed w x p q w'
theorem BoxedAt.of {w : World} {x : Wat} {p q : Nat} {w' : World} (h : Boxed w x p q w') : BoxedAt w x p q w' :=
  ⟨h.2.1.cell 0 rfl, h.2.1.cell 1 rfl, h.2.1.cell 2 rfl, h.2.1.cell 3 rfl, h.2.2.1.cell 0 (by decide), h.2.2.1.cell 1 (by decide), h.2.2.1.cell 2 (by decide), h.2.2.1.cell 3 (by decide),
    h.2.2.1.frozen 0, h.2.2.1.frozen 1, h.2.2.1.frozen 2, h.2.2.1.frozen 3, h⟩
theorem BoxedAt.boxed {w : World} {x : Wat} {p q : Nat} {w' : World} (h : BoxedAt w x p q w') : Boxed w x p q w' := h.2.2.2.2.2.2.2.2.2.2.2.2
theorem Boxed.new {w : World} {x : Wat} {p q : Nat} {w' w'' : World} (h : Boxed w x p q w') (k : New w' w'') : Boxed w x p q w'' := ⟨h.1.trans k, h.2.1.new k, h.2.2.1.new k, h.2.2.2⟩
theorem Boxed.set {w : World} {x : Wat} {p q : Nat} {w' : World} (h : Boxed w x p q w') (j : Nat) (v : Value) : Boxed w x p q (w'.setCell ⟨q, j, none⟩ v) :=
  ⟨h.1.setCell (fun e => absurd h.2.2.2.1 (Nat.not_le.2 e)) v, h.2.1.keep ((Keep.refl (fun k => k = q) w').setCell (fun _ => rfl) v) (fun e => absurd h.2.2.2.2 (by rw [e]; exact Nat.lt_irrefl _)), h.2.2.1.set j v, h.2.2.2⟩

def startE (x : Wat) (now : Int) : Nat := inC x (mayC x now) 0 0
theorem start_any (ad : Nat → Addr) (x : Wat) (now : Int) (w : World) (hE : WErr w ad) :
    Calls Tryd.prog 17 #[x.v, .int .i64 now] w fun e w' => e = .returned (.tuple #[(toW x 1 (startE x now)).v, errC ad (startE x now)]) ∧ New w w' := by
  have hB : Boxed w x w.heap.size (w.heap.size + 1) ((w.alloc (.cells #[.int .i64 x.st, .int .i64 x.ver, .int .i64 x.fails, .int .i64 x.til] 45)).alloc (.cells #[.int .i64 0, .int .i64 0, .int .i64 0, .int .i64 0] 45)) :=
    ⟨((Keep.refl _ _).alloc _).alloc _, (Row.alloc w 45 [.int .i64 x.st, .int .i64 x.ver, .int .i64 x.fails, .int .i64 x.til]).new ((Keep.refl _ _).alloc _), (Row.alloc' _ _ [.int .i64 0, .int .i64 0, .int .i64 0, .int .i64 0] _ (by simp)).slab 4 rfl, by omega, by omega⟩
  refine calls_hide fun R hR => ?_
  go_enter Tryd.func17, Tryd.ntmps17
  go_wp2_with fail
  generalize hp : w.heap.size = p at *
  generalize hq : p + 1 = q at *
  go_region_held3 (fun w' => w'.cell? ⟨p, 0, none⟩ = some (.int .i64 x.st) ∧ w'.cell? ⟨p, 1, none⟩ = some (.int .i64 x.ver) ∧ w'.cell? ⟨p, 2, none⟩ = some (.int .i64 x.fails) ∧ w'.cell? ⟨p, 3, none⟩ = some (.int .i64 x.til) ∧
      w'.cell? ⟨q, 0, none⟩ = some (qc w' q 0) ∧ w'.cell? ⟨q, 1, none⟩ = some (qc w' q 1) ∧ w'.cell? ⟨q, 2, none⟩ = some (qc w' q 2) ∧ w'.cell? ⟨q, 3, none⟩ = some (qc w' q 3) ∧
      w'.frozen? ⟨q, 0, none⟩ = false ∧ w'.frozen? ⟨q, 1, none⟩ = false ∧ w'.frozen? ⟨q, 2, none⟩ = false ∧ w'.frozen? ⟨q, 3, none⟩ = false ∧ Boxed w x p q w')
    (first | exact BoxedAt.of (hB.new ((Keep.refl _ _).drew)) | exact BoxedAt.of (Boxed.new (BoxedAt.boxed (by assumption)) (by assumption)) | exact BoxedAt.of (((((BoxedAt.boxed (by assumption)).set _ _).set _ _).set _ _).set _ _))
    (first
      | (go_at_call 25; refine (may_any ad ⟨x.st, x.ver, x.fails, x.til⟩ now _ (hE.new (And.left (BoxedAt.boxed (by assumption : BoxedAt w x _ _ _))))).mono ?_; rintro e w1 ⟨rfl, k1⟩)
      | (go_at_call 24; refine (in_any ad ⟨x.st, x.ver, x.fails, x.til⟩ _ 0 0 _ (hE.new (And.left (BoxedAt.boxed (by assumption : BoxedAt w x _ _ _))))).mono ?_; rintro e w2 ⟨rfl, k2⟩)
      | (go_at_call 23; refine (to_any ad ⟨x.st, x.ver, x.fails, x.til⟩ 1 _ _).mono ?_; rintro e w3 ⟨rfl, k3⟩))
  rename_i hHeld
  have hb := BoxedAt.boxed (show BoxedAt w x p q _ from hHeld)
  have hsl := hb.2.2.1.unset.unset.unset.unset
  have hk := hb.1
  have s0 := hsl.cell 0 (by decide)
  have s1 := hsl.cell 1 (by decide)
  have s2 := hsl.cell 2 (by decide)
  have s3 := hsl.cell 3 (by decide)
  clear hB k1 k2 k3 hHeld hb hsl
  go_wp2
  refine bodyPost_ret (v := .tuple #[(toW x 1 (startE x now)).v, errC ad (startE x now)]) (by simp [results, Tryd.results17, go_sem, s0, s1, s2, s3, startE]) rfl ?_
  exact hR.out _ _ ⟨rfl, hk⟩
end Go.Proofs.YtcifkcijohlamaaDoor
