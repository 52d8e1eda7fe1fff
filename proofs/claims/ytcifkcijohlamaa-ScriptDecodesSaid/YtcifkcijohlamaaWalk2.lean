import Derived.Test.YtcifkcijohlamaaWalk1
namespace Go.Proofs.Ytcifkcijohlamaa
open Go.RowKit Go.LB
set_option linter.unusedVariables false
set_option maxHeartbeats 400000

structure Act where
  kind : Int
  n : Int
  bytes : List UInt8
instance : Enc Act := Enc.via fun a => (a.kind, a.n, a.bytes)

def num2 (l : List UInt8) : Nat := (l.getD 0 0).toNat * 256 + (l.getD 1 0).toNat
def fail1 (l : List UInt8) : Int := if l.getD 0 255 = 255 then -1 else ((l.getD 0 255).toNat : Int)
def actOf (k : UInt8) (l : List UInt8) : Act × List UInt8 :=
  if k = 1 ∨ k = 3 then (⟨k.toNat, 0, (l.drop 2).take (num2 l)⟩, (l.drop 2).drop (num2 l))
  else if k = 2 then (⟨2, fail1 l, []⟩, l.drop 1)
  else if k = 4 then (⟨4, num2 l, []⟩, l.drop 2)
  else (⟨k.toNat, 0, []⟩, l)

def PActs (w : World) (F : Nat → Prop) (r : Nat) (a : Act) (rest : List UInt8) : Ending → World → Prop := fun e w' =>
  ∃ v, e = .returned (.agg #[.int .i64 a.kind, .int .i64 a.n, v]) ∧ SlRep w' (fun k => w.heap.size ≤ k) a.bytes v ∧ Rd w' F r rest ∧ Keep (fun k => k = r) w w'


/-- The end of act: the local struct at q has been filled and copied to the result's block p. -/
theorem act_end {w w4 w5 : World} {F : Nat → Prop} {r p q : Nat} {a : Act} {rest : List UInt8} {v : Value} (hp : w.heap.size = p) (hpq : p < q) (hrp : r < p)
    (k14 : Keep (fun k => k = r) w w4) (hr4 : Rd w4 F r rest) (hF : ∀ k, F k → k ≠ p ∧ k ≠ q) (hv : SlRep w4 (fun k => q < k) a.bytes v) (k45 : Keep (fun k => k = p ∨ k = q) w4 w5) :
    PActs w F r a rest (.returned (.agg #[.int .i64 a.kind, .int .i64 a.n, v])) w5 := by
  refine ⟨v, rfl, (hv.keep k45 (fun i _ h h' => by omega)).sub (fun i _ h => by omega), ?_, k14.then k45 (fun i h h' => by omega)⟩
  obtain ⟨u, h1, h2, h3, h4, h5⟩ := hr4
  exact ⟨u, by rw [k45.cell (p := ⟨r, 0, none⟩) h5 (by simp; omega)]; exact h1, by rw [k45.frozen (p := ⟨r, 0, none⟩) h5 (by simp; omega)]; exact h2,
    h3.keep k45 (fun i _ h h' => by have := hF i h; omega), h4, Nat.lt_of_lt_of_le h5 k45.size⟩

theorem act_rd (r : Nat) (F : Nat → Prop) (k : UInt8) (l : List UInt8) (w : World) (hl : (k :: l).length ≤ 3000) (h : Rd w F r (k :: l)) (hF : ∀ i, F i → i < w.heap.size) :
   Calls Try.prog 11 #[.pointer (some ⟨r, 0, none⟩)] w (PActs w F r (actOf k l).1 (actOf k l).2) := by
  have k0 : New w (w.alloc (.cells #[.int .i64 0, .int .i64 0, .slice none 0 0] 34)) := (Keep.refl _ _).alloc _
  have h0 := h.new k0
  refine calls_hide fun R hR => ?_
  go_enter Try.func11, Try.ntmps11
  go_wp2_with fail
  refine (take_rd r F (k :: l) 1 _ (by omega) hl h0).mono ?_
  rintro e w1 ⟨u, rfl, h1, h2, h3⟩
  obtain ⟨b, off, c, rfl, hb, _, hc⟩ := h1.byte_cells (by simp)
  have c0 := hc 0 (by simp)
  rw [Nat.add_zero] at c0
  simp only [List.take_succ_cons, List.take_zero, List.getD_cons_zero] at c0
  clear hc h1
  have hx := k.toNat_lt
  have hw : wrap64 (k.toNat : Int) = k.toNat := wrap64_in (by omega) (by omega)
  have hrlt : r < w.heap.size := by obtain ⟨_, _, _, _, _, h⟩ := h; exact h
  have hres : Row w1 w.heap.size 34 [.int .i64 0, .int .i64 0, .slice none 0 0] := (Row.alloc w 34 _).keep h3 (by omega)
  have k1 : Keep (fun k => k = r) w w1 := k0.to.trans h3
  generalize hp : w.heap.size = p at *
  have hlt := hres.lt
  have kA : ∀ o, New w1 (w1.alloc o) := fun o => (Keep.refl _ _).alloc _
  have hloc : Row (w1.alloc (.cells #[.int .i64 k.toNat, .int .i64 0, .slice none 0 0] 34)) w1.heap.size 34 [.int .i64 k.toNat, .int .i64 0, .slice none 0 0] := Row.alloc _ _ _
  generalize hq : w1.heap.size = q at *
  have hr1 : r ≠ q := by omega
  have hpq : p ≠ q := by omega
  by_cases hk : k = 1 ∨ k = 3
  · have hk' : ((k.toNat : Int) == 1) = true ∨ ((k.toNat : Int) == 1) = false ∧ ((k.toNat : Int) == 3) = true := by
      rcases hk with rfl | rfl
      · left; rfl
      · right; exact ⟨rfl, rfl⟩
    have Hk := Lib.hid hk
    clear hk
    rcases hk' with hk' | ⟨hk', hk''⟩
    all_goals
      go_wp2_with fail
      refine (number_rd r F l _ (by simp at hl; omega) (h2.new (kA _))).mono ?_
      rintro e w2 ⟨n, rfl, hn, h4, h5⟩
      have hl2 := hloc.keep h5 (fun e => hr1 e.symm)
      have hres2 := (hres.new (kA _)).keep h5 (by omega)
      have hn' : n ≤ 65535 := by rw [hn]; have := (l.getD 0 0).toNat_lt; have := (l.getD 1 0).toNat_lt; omega
      have Hn := Lib.hid hn
      clear hn
      go_wp2_with fail
      refine (take_rd r F (l.drop 2) n _ hn' (by simp at hl ⊢; omega) h4).mono ?_
      rintro e w3 ⟨u, rfl, h6, h7, h8⟩
      go_wp2_with fail
      refine (clone_any F (fun _ => False) _ u w3 (by simp at hl ⊢; omega) h6).mono ?_
      rintro e w4 ⟨v, b4, rfl, h9, h10, h11⟩
      have hl4 := (hl2.keep h8 (fun e => hr1 e.symm)).new h10
      have hres4 := (hres2.keep h8 (by omega)).new h10
      have k14 : Keep (fun k => k = r) w w4 := ((((k1.trans (kA _).to).trans h5).trans h8).trans h10.to)
      have hr4 := h7.new h10
      have hv4 : SlRep w4 (fun k => q < k) _ v := h9.or.sub (fun k _ h => h.elim False.elim fun h => by have := h11 k h; have := h8.size; have := h5.size; simp at this; omega)
      obtain ⟨va, vc, rfl, _, _⟩ := hv4.shape
      have hF4 : ∀ k, F k → k ≠ p ∧ k ≠ q := fun k hk => by have := hF k hk; omega
      have hAct : (actOf k l).1 = ⟨k.toNat, 0, (l.drop 2).take n⟩ ∧ (actOf k l).2 = (l.drop 2).drop n := by
        unfold actOf; rw [if_pos Hk.out, Hn.out]; exact ⟨rfl, rfl⟩
      clear h2 h5 h4 h6 h7 h8 h9 h10 h11 hl2 hres2 hloc hres c0 k1 kA k0 h0 h3
      have f0 := hl4.cell 0 rfl
      have f1 := hl4.cell 1 rfl
      have f2 := hl4.cell 2 rfl
      have g0 := hres4.cell 0 rfl
      have g1 := hres4.cell 1 rfl
      have g2 := hres4.cell 2 rfl
      have z := hl4.frozen
      have z' := hres4.frozen
      have hq4 := hl4.lt
      clear hl4 hres4
      rw [hAct.1, hAct.2] at hR
      clear hAct
      have hlen : ((l.drop 2).take n).length = min n (l.length - 2) := by simp
      rw [hlen] at hv4 ⊢
      go_wp2
      refine bodyPost_ret (v := .agg #[.int .i64 k.toNat, .int .i64 0, .slice va (min n (l.length - 2)) vc]) (by simp [results, Try.results11, go_sem, *]) rfl ?_
      exact hR.out _ _ (act_end hp hlt hrlt k14 hr4 hF4 hv4 (((((Keep.refl _ _).setCell (fun _ => .inr rfl) _).setCell (fun _ => .inl rfl) _).setCell (fun _ => .inl rfl) _).setCell (fun _ => .inl rfl) _))
  · have hne : ((k.toNat : Int) == 1) = false ∧ ((k.toNat : Int) == 3) = false := by
      refine ⟨beq_eq_false_iff_ne.2 fun h => hk (.inl (UInt8.toNat_inj.1 ?_)), beq_eq_false_iff_ne.2 fun h => hk (.inr (UInt8.toNat_inj.1 ?_))⟩
      · show k.toNat = 1; omega
      · show k.toNat = 3; omega
    obtain ⟨n1, n3⟩ := hne
    have hF2 : ∀ k, F k → k ≠ p ∧ k ≠ q := fun k hk => by have := hF k hk; omega
    by_cases hk2 : k = 2
    · subst hk2
      go_wp2_with fail
      refine (fail_rd r F l _ (by simp at hl; omega) (h2.new (kA _))).mono ?_
      rintro e w2 ⟨n, rfl, hn, h4, h5⟩
      have hl4 := hloc.keep h5 (fun e => hr1 e.symm)
      have hres4 := (hres.new (kA _)).keep h5 (by omega)
      have k14 : Keep (fun k => k = r) w w2 := (k1.trans (kA _).to).trans h5
      have hAct : (actOf 2 l).1 = ⟨2, n, []⟩ ∧ (actOf 2 l).2 = l.drop 1 := by
        rw [hn]; exact ⟨rfl, rfl⟩
      clear h2 h5 hloc hres c0 k1 kA k0 h0 h3 hn
      have f0 := hl4.cell 0 rfl
      have f1 := hl4.cell 1 rfl
      have f2 := hl4.cell 2 rfl
      have g0 := hres4.cell 0 rfl
      have g1 := hres4.cell 1 rfl
      have g2 := hres4.cell 2 rfl
      have z := hl4.frozen
      have z' := hres4.frozen
      have hq4 := hl4.lt
      clear hl4 hres4
      rw [hAct.1, hAct.2] at hR
      clear hAct
      go_wp2
      refine bodyPost_ret (v := .agg #[.int .i64 2, .int .i64 n, .slice none 0 0]) (by simp [results, Try.results11, go_sem, *]) rfl ?_
      exact hR.out _ _ (act_end hp hlt hrlt k14 h4 hF2 (SlRep.nil _ _) (((((Keep.refl _ _).setCell (fun _ => .inr rfl) _).setCell (fun _ => .inl rfl) _).setCell (fun _ => .inl rfl) _).setCell (fun _ => .inl rfl) _))
    · have n2 : ((k.toNat : Int) == 2) = false := beq_eq_false_iff_ne.2 fun h => hk2 (UInt8.toNat_inj.1 (by show k.toNat = 2; omega))
      by_cases hk4 : k = 4
      · subst hk4
        go_wp2_with fail
        refine (number_rd r F l _ (by simp at hl; omega) (h2.new (kA _))).mono ?_
        rintro e w2 ⟨n, rfl, hn, h4, h5⟩
        have hl4 := hloc.keep h5 (fun e => hr1 e.symm)
        have hres4 := (hres.new (kA _)).keep h5 (by omega)
        have k14 : Keep (fun k => k = r) w w2 := (k1.trans (kA _).to).trans h5
        have hAct : (actOf 4 l).1 = ⟨4, n, []⟩ ∧ (actOf 4 l).2 = l.drop 2 := by
          rw [hn]; exact ⟨rfl, rfl⟩
        clear h2 h5 hloc hres c0 k1 kA k0 h0 h3 hn
        have f0 := hl4.cell 0 rfl
        have f1 := hl4.cell 1 rfl
        have f2 := hl4.cell 2 rfl
        have g0 := hres4.cell 0 rfl
        have g1 := hres4.cell 1 rfl
        have g2 := hres4.cell 2 rfl
        have z := hl4.frozen
        have z' := hres4.frozen
        have hq4 := hl4.lt
        clear hl4 hres4
        rw [hAct.1, hAct.2] at hR
        clear hAct
        go_wp2
        refine bodyPost_ret (v := .agg #[.int .i64 4, .int .i64 n, .slice none 0 0]) (by simp [results, Try.results11, go_sem, *]) rfl ?_
        exact hR.out _ _ (act_end hp hlt hrlt k14 h4 hF2 (SlRep.nil _ _) (((((Keep.refl _ _).setCell (fun _ => .inr rfl) _).setCell (fun _ => .inl rfl) _).setCell (fun _ => .inl rfl) _).setCell (fun _ => .inl rfl) _))
      · have n4 : ((k.toNat : Int) == 4) = false := beq_eq_false_iff_ne.2 fun h => hk4 (UInt8.toNat_inj.1 (by show k.toNat = 4; omega))
        have hAct : (actOf k l).1 = ⟨k.toNat, 0, []⟩ ∧ (actOf k l).2 = l := by
          unfold actOf; rw [if_neg hk, if_neg hk2, if_neg hk4]; exact ⟨rfl, rfl⟩
        have g0 := hres.cell 0 rfl
        have g1 := hres.cell 1 rfl
        have g2 := hres.cell 2 rfl
        have z' := hres.frozen
        clear hloc hres kA k0 h0 h3 hk hk2 hk4
        rw [hAct.1, hAct.2] at hR
        clear hAct
        go_wp2
        refine bodyPost_ret (v := .agg #[.int .i64 k.toNat, .int .i64 0, .slice none 0 0]) (by simp [results, Try.results11, go_sem, *]) rfl ?_
        exact hR.out _ _ (act_end hp hlt hrlt k1 h2 hF2 (SlRep.nil _ _) (((((Keep.refl _ _).setCell (fun _ => .inl rfl) _).setCell (fun _ => .inl rfl) _).setCell (fun _ => .inl rfl) _).alloc _))
end Go.Proofs.Ytcifkcijohlamaa
