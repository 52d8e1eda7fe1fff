import Derived.Test.YtcifkcijohlamaaDoorWatch3
import Derived.Test.YtcifkcijohlamaaDoorFlow
/-! The Watcher: Fail. -/
set_option linter.unusedVariables false
set_option linter.unusedSimpArgs false
set_option maxHeartbeats 2000000
namespace Go.Proofs.YtcifkcijohlamaaDoor
open Go.RowKit Go.LB

theorem Boxed.far {w : World} {x : Wat} {p q a : Nat} {w' : World} (h : Boxed w x p q w') (ha : q < a) (j : Nat) (v : Value) : Boxed w x p q (w'.setCell ⟨a, j, none⟩ v) := by
  have hk : Keep (fun k => k = a) w' (w'.setCell ⟨a, j, none⟩ v) := (Keep.refl (fun k => k = a) w').setCell (fun _ => rfl) v
  have h2 := h.2.2.2
  exact ⟨h.1.then hk (fun i hi e => absurd h2.1 (by omega)), h.2.1.keep hk (by omega), h.2.2.1.keep hk (by omega), h2⟩

theorem slab_set4 {w : World} {q : Nat} (h : Slab w q 4) (v0 v1 v2 v3 : Value) : ∃ e, Row ((((w.setCell ⟨q, 0, none⟩ v0).setCell ⟨q, 1, none⟩ v1).setCell ⟨q, 2, none⟩ v2).setCell ⟨q, 3, none⟩ v3) q e [v0, v1, v2, v3] := by
  obtain ⟨e, cs, hl, hr⟩ := h
  match cs, hl with
  | [a, b, c, d], _ => exact ⟨e, (((hr.set 0 v0).set 1 v1).set 2 v2).set 3 v3⟩

def failE (x : Wat) (now : Int) : Nat := inC x (mayC x now) 1 2
def failW (x : Wat) (now : Int) : Wat := if failE x now = 0 then ⟨3, x.ver, min (x.fails + 1) 30, now + delay (min (x.fails + 1) 30)⟩ else x

def ite' (b : Bool) (v : Value) : Value := if b then v else undef
@[simp, go_sem] theorem ite'_true (v : Value) : ite' true v = v := rfl
abbrev outF (w : World) (ad : Nat → Addr) (x : Wat) (now : Int) (st : Int) (k : Nat) (p q : Nat) (f : Lst) (b : Nat) : Array Value :=
  #[x.v, .int .i64 now, .pointer (some ⟨p, 0, none⟩), undef, .pointer (some ⟨q, 0, none⟩), .nilIface, ite' (f 10) (.pointer (some ⟨b, 0, none⟩)), ite' (f 12) (errC ad k), ite' (f 7) (.tuple #[(toW x st k).v, errC ad k]),
    ite' (f 0) x.v, ite' (f 1) x.v, ite' (f 2) x.v, ite' (f 3) (.int .i64 now), ite' (f 4) (errC ad (mayC x now)), ite' (f 5) (errC ad k), ite' (f 6) (.tuple #[(toW x st k).v, errC ad k]), ite' (f 8) (toW x st k).v, ite' (f 9) (errC ad k), undef, undef, undef, undef, undef, undef, undef, undef, undef, undef, undef, undef, undef, undef, undef]
/-- What holds while 'out, err := w.to(..)' runs. -/
def OutI (w : World) (ad : Nat → Addr) (x : Wat) (now st : Int) (k p q : Nat) (f : Lst) (a : Act) (w' : World) : Prop :=
  ∃ b : Nat, a = { tmps := outF w ad x now st k p q f b, defers := [] } ∧ Boxed w x p q w' ∧ (f 10 = true → Slab w' b 4 ∧ q < b) ∧ (f 11 = true → f 10 = true ∧ ∃ e, Row w' b e [.int .i64 (toW x st k).st, .int .i64 (toW x st k).ver, .int .i64 (toW x st k).fails, .int .i64 (toW x st k).til])

set_option maxRecDepth 100000 in
theorem fail_any (ad : Nat → Addr) (x : Wat) (now : Int) (w : World) (hE : WErr w ad) :
    Calls Tryd.prog 18 #[x.v, .int .i64 now] w fun e w' => e = .returned (.tuple #[(failW x now).v, errC ad (failE x now)]) ∧ New w w' := by
  have hB : Boxed w x w.heap.size (w.heap.size + 1) ((w.alloc (.cells #[.int .i64 x.st, .int .i64 x.ver, .int .i64 x.fails, .int .i64 x.til] 45)).alloc (.cells #[.int .i64 0, .int .i64 0, .int .i64 0, .int .i64 0] 45)) :=
    ⟨((Keep.refl _ _).alloc _).alloc _, (Row.alloc w 45 [.int .i64 x.st, .int .i64 x.ver, .int .i64 x.fails, .int .i64 x.til]).new ((Keep.refl _ _).alloc _), (Row.alloc' _ _ [.int .i64 0, .int .i64 0, .int .i64 0, .int .i64 0] _ (by simp)).slab 4 rfl, by omega, by omega⟩
  refine calls_hide fun R hR => ?_
  go_enter Tryd.func18, Tryd.ntmps18
  go_wp2_with fail
  generalize hp : w.heap.size = p at *
  generalize hq : p + 1 = q at *
  refine wp_region_flow (by kernel_rfl) (by kernel_rfl) (OutI w ad x now 3 (failE x now) p q) ?_ ?_ ?_
  · exact ⟨0, rfl, hB.new ((Keep.refl _ _).drew), by simp, by simp⟩
  · refine ⟨?_, ?_, ?_, ?_, ?_, ?_, ?_, ?_, ?_, ?_, ?_, ?_, ?_, trivial⟩
    all_goals
      rintro f a w' ⟨b, rfl, hBx, hS, hT⟩ hf hd K hK
      simp only [depsB, Region.binds, List.all_cons, List.all_nil, Bool.and_eq_true, Bool.not_true, Bool.false_or, Bool.and_true] at hd
    all_goals
      have HB := BoxedAt.of hBx
      unfold BoxedAt at HB
      rw [if_pos (by rfl)]
    · go_wp2
      exact ⟨b, by simp [Lst.up, hd], hBx, by simpa [Lst.up] using hS, by simpa [Lst.up] using hT⟩
    · go_wp2
      exact ⟨b, by simp [Lst.up, hd], hBx, by simpa [Lst.up] using hS, by simpa [Lst.up] using hT⟩
    · go_wp2
      exact ⟨b, by simp [Lst.up, hd], hBx, by simpa [Lst.up] using hS, by simpa [Lst.up] using hT⟩
    · go_wp2
      exact ⟨b, by simp [Lst.up, hd], hBx, by simpa [Lst.up] using hS, by simpa [Lst.up] using hT⟩
    · go_wp2_with (go_at_call 25; refine (may_any ad x now _ (hE.new hBx.1)).mono ?_; rintro e w1 ⟨rfl, k1⟩)
      exact ⟨b, by simp [Lst.up, hd], hBx.new k1, by simpa [Lst.up] using fun h => ⟨(hS h).1.new k1, (hS h).2⟩, by simpa [Lst.up] using fun h => ⟨(hT h).1, (hT h).2.imp fun e hr => hr.new k1⟩⟩
    · go_wp2_with (go_at_call 24; refine (in_any ad x _ 1 2 _ (hE.new hBx.1)).mono ?_; rintro e w1 ⟨rfl, k1⟩)
      exact ⟨b, by simp [Lst.up, hd, failE], hBx.new k1, by simpa [Lst.up] using fun h => ⟨(hS h).1.new k1, (hS h).2⟩, by simpa [Lst.up] using fun h => ⟨(hT h).1, (hT h).2.imp fun e hr => hr.new k1⟩⟩
    · go_wp2_with (go_at_call 23; refine (to_any ad x 3 _ _).mono ?_; rintro e w1 ⟨rfl, k1⟩)
      exact ⟨b, by simp [Lst.up, hd, failE], hBx.new k1, by simpa [Lst.up] using fun h => ⟨(hS h).1.new k1, (hS h).2⟩, by simpa [Lst.up] using fun h => ⟨(hT h).1, (hT h).2.imp fun e hr => hr.new k1⟩⟩
    · go_wp2
      exact ⟨b, by simp [Lst.up, hd], hBx, by simpa [Lst.up] using hS, by simpa [Lst.up] using hT⟩
    · go_wp2
      exact ⟨b, by simp [Lst.up, hd], hBx, by simpa [Lst.up] using hS, by simpa [Lst.up] using hT⟩
    · go_wp2
      exact ⟨b, by simp [Lst.up, hd], hBx, by simpa [Lst.up] using hS, by simpa [Lst.up] using hT⟩
    · go_wp2
      have hz := hBx.2.2.1.lt
      refine ⟨w'.heap.size, by simp [Lst.up, hd], hBx.new ((Keep.refl _ _).alloc _), by simpa [Lst.up] using ⟨(Row.alloc w' 45 [.int .i64 0, .int .i64 0, .int .i64 0, .int .i64 0]).slab 4 rfl, hz⟩, ?_⟩
      intro h11
      have h10 := (hT (by simpa [Lst.up] using h11)).1
      rw [h10] at hf
      cases hf
    · obtain ⟨h10, h8⟩ : f 10 = true ∧ f 8 = true := ⟨hd.1, hd.2.1⟩
      obtain ⟨hs, hqb⟩ := hS h10
      have s0 := hs.cell 0 (by decide)
      have s1 := hs.cell 1 (by decide)
      have s2 := hs.cell 2 (by decide)
      have s3 := hs.cell 3 (by decide)
      have z := hs.frozen
      go_wp2
      refine ⟨b, by simp [Lst.up], (((hBx.far hqb _ _).far hqb _ _).far hqb _ _).far hqb _ _, fun _ => ⟨(((hs.set 0 _).set 1 _).set 2 _).set 3 _, hqb⟩, fun _ => ⟨by simpa [Lst.up] using h10, ?_⟩⟩
      exact slab_set4 hs _ _ _ _
    · go_wp2
      exact ⟨b, by simp [Lst.up, hd], hBx, by simpa [Lst.up] using hS, by simpa [Lst.up] using hT⟩
  · intro f a w' hall ⟨b, ha, hBx, hS, hT⟩
    subst ha
    have h0 := hall 0 (by decide)
    have h1 := hall 1 (by decide)
    have h2 := hall 2 (by decide)
    have h3 := hall 3 (by decide)
    have h4 := hall 4 (by decide)
    have h5 := hall 5 (by decide)
    have h6 := hall 6 (by decide)
    have h7 := hall 7 (by decide)
    have h8 := hall 8 (by decide)
    have h9 := hall 9 (by decide)
    have h10 := hall 10 (by decide)
    have h11 := hall 11 (by decide)
    have h12 := hall 12 (by decide)
    obtain ⟨-, hqb⟩ := hS h10
    obtain ⟨-, e, hrow⟩ := hT h11
    simp only [outF, h0, h1, h2, h3, h4, h5, h6, h7, h8, h9, h10, h12, ite'_true]
    clear hall hS hT h0 h1 h2 h3 h4 h5 h6 h7 h8 h9 h10 h11 h12 hE
    have HB := BoxedAt.of hBx
    unfold BoxedAt at HB
    have hpb : p < b := Nat.lt_trans hBx.2.2.2.2 hqb
    have hpq := hBx.2.2.2.2
    have kN := hBx.1
    have hle : w.heap.size ≤ q := hBx.2.2.2.1
    by_cases hk : failE x now = 0
    · have hW : failW x now = ⟨3, x.ver, min (x.fails + 1) 30, now + delay (min (x.fails + 1) 30)⟩ := if_pos hk
      obtain ⟨hright, hn0, hn1⟩ := mayC_zero.1 (inC_zero.1 hk).1
      have hfb := (Wat.bounds hright).2.2.2.2
      rw [hW] at hR
      have hT : toW x 3 0 = ⟨3, x.ver, x.fails, 0⟩ := rfl
      rw [hk, hT] at hrow ⊢
      rw [hk, errC_zero] at hR
      rw [errC_zero]
      have c0 := hrow.cell 0 rfl
      have c1 := hrow.cell 1 rfl
      have c2 := hrow.cell 2 rfl
      have c3 := hrow.cell 3 rfl
      have z := hrow.frozen
      clear hW hk hT hright hrow hB
      obtain ⟨m, hm⟩ : ∃ m, min (x.fails + 1) 30 = m := ⟨_, rfl⟩
      have hmb : 1 ≤ m ∧ m ≤ 30 := by omega
      rw [hm] at hR
      have Hm := Lib.hid hm
      clear hm
      by_cases hf : x.fails + 1 ≤ 30
      · obtain rfl : m = x.fails + 1 := by have := Hm.out; omega
        have hd := delay_le (x.fails + 1)
        have hw : wrap64 (now + delay (x.fails + 1)) = now + delay (x.fails + 1) := wrap64_in (by omega) (by omega)
        clear Hm
        go_wp2_with (go_at_call 6; refine (delay_any _ _ (by omega) (by omega)).mono ?_; rintro e w2 ⟨rfl, rfl⟩)
        refine bodyPost_ret (v := .tuple #[.agg #[.int .i64 3, .int .i64 x.ver, .int .i64 (x.fails + 1), .int .i64 (now + delay (x.fails + 1))], .nilIface]) (by simp [results, Tryd.results18, go_sem, HB]) rfl ?_
        exact hR.out _ _ ⟨rfl, (((((kN.setCell (fun h => absurd h (by simp; omega)) _).setCell (fun h => absurd h (by simp; omega)) _).setCell (fun h => absurd h (Nat.not_lt.2 hle)) _).setCell (fun h => absurd h (Nat.not_lt.2 hle)) _).setCell (fun h => absurd h (Nat.not_lt.2 hle)) _).setCell (fun h => absurd h (Nat.not_lt.2 hle)) _⟩
      · obtain rfl : m = 30 := by have := Hm.out; omega
        have hf2 : 30 < x.fails + 1 := by omega
        have hd := delay_le (30)
        have hw : wrap64 (now + delay (30)) = now + delay (30) := wrap64_in (by omega) (by omega)
        clear Hm
        go_wp2_with (go_at_call 6; refine (delay_any _ _ (by omega) (by omega)).mono ?_; rintro e w2 ⟨rfl, rfl⟩)
        refine bodyPost_ret (v := .tuple #[.agg #[.int .i64 3, .int .i64 x.ver, .int .i64 (30), .int .i64 (now + delay (30))], .nilIface]) (by simp [results, Tryd.results18, go_sem, HB]) rfl ?_
        exact hR.out _ _ ⟨rfl, (((((kN.setCell (fun h => absurd h (by simp; omega)) _).setCell (fun h => absurd h (by simp; omega)) _).setCell (fun h => absurd h (Nat.not_lt.2 hle)) _).setCell (fun h => absurd h (Nat.not_lt.2 hle)) _).setCell (fun h => absurd h (Nat.not_lt.2 hle)) _).setCell (fun h => absurd h (Nat.not_lt.2 hle)) _⟩
    · have hW : failW x now = x := if_neg hk
      have hT : toW x 3 (failE x now) = x := if_neg hk
      rw [hW, errC_pos ad hk] at hR
      rw [hT] at hrow ⊢
      rw [errC_pos ad hk]
      have c0 := hrow.cell 0 rfl
      have c1 := hrow.cell 1 rfl
      have c2 := hrow.cell 2 rfl
      have c3 := hrow.cell 3 rfl
      have z := hrow.frozen
      clear hW hk hT hrow
      go_wp2
      refine bodyPost_ret (v := .tuple #[x.v, errV ad (failE x now)]) (by simp [results, Tryd.results18, go_sem, HB, Wat.v]) rfl ?_
      exact hR.out _ _ ⟨rfl, (((kN.setCell (fun h => absurd h (Nat.not_lt.2 hle)) _).setCell (fun h => absurd h (Nat.not_lt.2 hle)) _).setCell (fun h => absurd h (Nat.not_lt.2 hle)) _).setCell (fun h => absurd h (Nat.not_lt.2 hle)) _⟩
end Go.Proofs.YtcifkcijohlamaaDoor
