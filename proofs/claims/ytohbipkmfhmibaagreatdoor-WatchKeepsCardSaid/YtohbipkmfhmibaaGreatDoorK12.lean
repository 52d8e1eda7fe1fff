import Derived.Test.YtohbipkmfhmibaaGreatDoorK8
import Derived.Test.YtohbipkmfhmibaaGreatDoorOpen
/-! K12: the law WatchKeeps: what an act keeps. -/
set_option linter.unusedVariables false
set_option linter.unusedSimpArgs false
set_option maxHeartbeats 1000000
set_option maxRecDepth 100000
namespace Go.AE.W
open Go.RowKit Go.LB
theorem word_w (nm : AE.Name) : evW C tab 66 nm [iT 3] [] = some (tx [119, 97, 105, 116, 105, 110, 103], []) := evW_iff.2 ⟨40, by kernel_rfl⟩
theorem alive_c (nm : AE.Name) : evW C tab 9 nm [] [] = some (bT true, []) := by
  have h1 : ∀ nm, evW C tab 64 nm [wT 0 0 0 0, iT 0] [] = some (.tup [wT 1 0 0 0, nilE], []) := fun nm => by
    rw [start_c, show startO 0 0 0 0 0 = ⟨1, 0, 0, 0, none⟩ by decide]; rfl
  have h2 : ∀ nm, evW C tab 65 nm [wT 1 0 0 0, iT 5] [] = some (.tup [wT 3 0 1 6, nilE], []) := fun nm => by
    rw [fail_c, show failO 1 0 0 0 5 = ⟨3, 0, 1, 6, none⟩ by decide]; rfl
  (rw [fn9]; sym => simp [b9.eq_1, call64, call65, call66, h1, h2, word_w, z0, z1, z2, z3, z5, z6, z8, z12, z26, z38, z44, z47, z48, z49, z50, z53, z58, z59, z60, z61, z62, z65, z66, z68, z70, z72, z74, z75, z76, z77, z79, z83, z84, z87, z89, z90, z91, z94, z95, z96, z97, z99, z101, z102, z130, z131, z135, z136, z137, z138, z140, z141, z142, z143, z144, z146, z147, z162, z173, z181, z289, z296, z309, z310, z314, z320, z321, z328, z329, z330, z332, z337, z339, z340, z360, z369, z370, z383, z384, z387, z389, z395, z396, z399, z403, z404, z405, z408, z409, z410, z411, z412, z413, z414, z415, z417, z418, z419, z420, z421, z430, z437, z438, z443, z445])
theorem wr_eq (s v f u : Int) : WRight s v f u = true ↔ 0 ≤ s ∧ s ≤ 3 ∧ 0 ≤ v ∧ v ≤ 1099511627776 ∧ 0 ≤ f ∧ f ≤ 30 ∧ 0 ≤ u ∧ u ≤ 1099511627840 ∧ (s = 0 → v = 0 ∧ f = 0) ∧ (s ≠ 3 → u = 0) ∧ (s = 2 → 0 < v) ∧ (s = 3 → 0 < f) := by
  unfold WRight within
  by_cases h0 : s = 0
  · subst h0; simp; omega
  · by_cases h1 : s = 1
    · subst h1; simp; omega
    · by_cases h2 : s = 2
      · subst h2; simp; omega
      · simp [h0, h1, h2]; omega
structure Keeps (s v f u : Int) (a : Act) (o : Out) : Prop where
  right : WRight o.s o.v o.f o.u = true
  same : ∀ k, o.e = some k → o.s = s ∧ o.v = v ∧ o.f = f ∧ o.u = u
  falls : o.v < v → a.kind = 3 ∨ a.kind < 0 ∨ 4 < a.kind ∨ (a.kind = 1 ∧ a.event.kind = 9)
  wait : a.kind = 2 → o.e = none → o.s = 3 ∧ o.u - a.now ≤ 64 ∧ a.now < o.u ∧ 0 ≤ a.now ∧ a.now ≤ 1099511627776
theorem keeps_err {s v f u : Int} {a : Act} (h : WRight s v f u = true) (k : Nat) : Keeps s v f u a ⟨s, v, f, u, some k⟩ :=
  ⟨h, fun _ _ => ⟨rfl, rfl, rfl, rfl⟩, fun h => absurd h (Int.lt_irrefl v), fun _ h => by cases h⟩
theorem keeps_ok {s v f u : Int} {a : Act} (s' v' f' u' : Int) (h : WRight s' v' f' u' = true) (hf : v' < v → a.kind = 3 ∨ a.kind < 0 ∨ 4 < a.kind ∨ (a.kind = 1 ∧ a.event.kind = 9)) (hk : a.kind ≠ 2) : Keeps s v f u a ⟨s', v', f', u', none⟩ :=
  ⟨h, fun _ h => (by cases h), hf, fun h => absurd h hk⟩
theorem gate_keeps {s v f u : Int} {a : Act} {o : Out} (h : WRight s v f u = true) (ho : within a.now 1099511627776 = true → Keeps s v f u a o) : Keeps s v f u a (gate s v f u a.now o) := by
  unfold gate
  rw [h]
  cases hw : within a.now 1099511627776
  · exact keeps_err h _
  · exact ho hw
theorem delay_pos (n : Int) (h : 1 ≤ n) : 1 ≤ delay n := by
  unfold delay
  rw [if_neg (by omega)]
  have : (0 : Int) < 2 ^ (min (n - 1) 30).toNat := Int.pow_pos (by omega)
  omega
theorem keeps_bif {s v f u : Int} {a : Act} {o p : Out} {b : Bool} (h1 : b = true → Keeps s v f u a o) (h2 : b = false → Keeps s v f u a p) : Keeps s v f u a (bif b then o else p) := by
  cases b
  · exact h2 rfl
  · exact h1 rfl
theorem versions_of {e : Event} (h : rightEvent e = true) : 1 ≤ e.version ∧ e.version ≤ 1099511627776 := by
  unfold rightEvent at h
  simp only [Bool.and_eq_true, decide_eq_true_eq] at h
  exact h.1.2
theorem act_keeps (s v f u : Int) (a : Act) (h : WRight s v f u = true) : Keeps s v f u a (actO s v f u a) := by
  have hw := (wr_eq s v f u).1 h
  unfold actO
  refine keeps_bif (fun k0 => ?_) fun k0 => keeps_bif (fun k1 => ?_) fun k1 => keeps_bif (fun k2 => ?_) fun k2 => keeps_bif (fun k3 => ?_) fun k3 => keeps_bif (fun k4 => ?_) fun k4 => ?_
  all_goals simp only [decide_eq_true_eq, decide_eq_false_iff_not] at k0
  all_goals (try simp only [decide_eq_true_eq, decide_eq_false_iff_not] at k1)
  all_goals (try simp only [decide_eq_true_eq, decide_eq_false_iff_not] at k2)
  all_goals (try simp only [decide_eq_true_eq, decide_eq_false_iff_not] at k3)
  all_goals (try simp only [decide_eq_true_eq, decide_eq_false_iff_not] at k4)
  · unfold startO
    refine gate_keeps h fun _ => keeps_bif (fun g => ?_) fun g => keeps_err h _
    simp only [decide_eq_true_eq] at g
    exact keeps_ok _ _ _ _ ((wr_eq _ _ _ _).2 (by omega)) (by omega) (by omega)
  · unfold eventO
    refine gate_keeps h fun _ => keeps_bif (fun hr => keeps_bif (fun g => ?_) fun g => keeps_bif (fun g2 => ?_) fun _ => keeps_err h _) fun _ => keeps_err h _
    · have hv := versions_of hr
      unfold listedO
      refine keeps_bif (fun _ => keeps_ok _ _ _ _ h (by omega) (by omega)) fun _ => keeps_bif (fun g9 => ?_) fun _ => keeps_err h _
      simp only [decide_eq_true_eq] at g9
      exact keeps_ok _ _ _ _ ((wr_eq _ _ _ _).2 (by omega)) (fun _ => .inr (.inr (.inr ⟨k1, g9⟩))) (by omega)
    · have hv := versions_of hr
      simp only [decide_eq_true_eq] at g2
      unfold watchedO
      refine keeps_bif (fun _ => keeps_ok _ _ _ _ ((wr_eq _ _ _ _).2 (by omega)) (by omega) (by omega)) fun _ => keeps_bif (fun _ => keeps_err h _) fun _ => keeps_bif (fun _ => keeps_err h _) fun g8 => ?_
      simp only [decide_eq_false_iff_not] at g8
      exact keeps_ok _ _ _ _ ((wr_eq _ _ _ _).2 (by omega)) (by omega) (by omega)
  · unfold failO
    refine gate_keeps h fun hn => keeps_bif (fun g => ?_) fun g => keeps_err h _
    have hm := mnI_min (f + 1) 30
    have hd := delay_le (mnI (f + 1) 30)
    have hp := delay_pos (mnI (f + 1) 30) (by omega)
    have hn' : 0 ≤ a.now ∧ a.now ≤ 1099511627776 := by unfold within at hn; simpa using hn
    simp only [Bool.or_eq_true, decide_eq_true_eq] at g
    refine ⟨(wr_eq _ _ _ _).2 ?_, fun _ h => (by cases h), fun h => absurd h (Int.lt_irrefl v), fun _ _ => ⟨rfl, ?_, ?_, hn'.1, hn'.2⟩⟩ <;> simp only <;> omega
  · unfold goneO
    refine gate_keeps h fun _ => keeps_bif (fun g => ?_) fun g => keeps_err h _
    simp only [decide_eq_true_eq] at g
    exact keeps_ok _ _ _ _ ((wr_eq _ _ _ _).2 (by omega)) (by omega) (by omega)
  · unfold tickO
    refine gate_keeps h fun _ => keeps_bif (fun _ => keeps_ok _ _ _ _ h (by omega) (by omega)) fun g => keeps_bif (fun gv => ?_) fun gv => ?_
    · simp only [decide_eq_true_eq] at gv
      exact keeps_ok _ _ _ _ ((wr_eq _ _ _ _).2 (by omega)) (by omega) (by omega)
    · simp only [decide_eq_false_iff_not] at gv
      exact keeps_ok _ _ _ _ ((wr_eq _ _ _ _).2 (by omega)) (by omega) (by omega)
  · unfold stopO
    refine gate_keeps h fun _ => keeps_ok _ _ _ _ ((wr_eq _ _ _ _).2 (by omega)) (by omega) (by omega)
theorem tick_stays {s v f u now : Int} (h : WRight s v f u = true) (h0 : 0 ≤ now) (h1 : now ≤ 1099511627776) (hu : now < u) : tickO s v f u now = ⟨s, v, f, u, none⟩ := by
  unfold tickO gate
  rw [h, show within now 1099511627776 = true by unfold within; simp; omega, show decide (now < u) = true by simpa using hu]
  simp
theorem tick_goes {s v f u : Int} (h : WRight s v f u = true) (h1 : u ≤ 1099511627776) (hs : s = 3) : ∃ s' v' f' u', tickO s v f u u = ⟨s', v', f', u', none⟩ ∧ decide (s' = s) = false := by
  have hw := (wr_eq s v f u).1 h
  unfold tickO gate
  rw [h, show within u 1099511627776 = true by unfold within; simp; omega, show decide (u < u) = false by simp]
  subst hs
  cases hv : decide (0 < v)
  · exact ⟨1, v, f, 0, by simp, by simp⟩
  · exact ⟨2, v, f, 0, by simp, by simp⟩
end Go.AE.W

/-! K13: the law WatchKeeps: its loop. -/
set_option linter.unusedVariables false
set_option linter.unusedSimpArgs false
set_option maxHeartbeats 1000000
set_option maxRecDepth 100000
namespace Go.AE.W
open Go.RowKit Go.LB
abbrev wB (nm : AE.Name) (s v f u : Int) : AE.Heap := [[(nm ++ [3, 1], .box [iT s, iT v, iT f, iT u])]]
theorem dfal {p : Prop} [Decidable p] (h : ¬ p) : decide p = false := by simpa using h
theorem dtru {p : Prop} [Decidable p] (h : p) : decide p = true := by simpa using h
theorem wk_loop (nm : AE.Name) (tg : AE.Tag) (l : List Act) (hl : l.length ≤ 9223372036854775807) (hL : ∀ a ∈ l, a.event.Lies) : ∀ (rest : List Act) (i : Nat) (s v f u : Int), l.drop i = rest → i ≤ l.length → WRight s v f u = true → ∀ r, ∃ s' v' f' u', evI C tab (nm ++ [5]) [3, 19, 20, 21] [2] l3_0 r ⟨[(3, .ptr (nm ++ [3, 1]) 0), (19, .sl (l.map Act.t) tg), (20, iT (l.length : Int)), (21, iT (i : Int))], wB nm s v f u, [], 0⟩ = some (.ret, ⟨[(2, bT true)], wB nm s' v' f' u', [], 0⟩) ∨ evI C tab (nm ++ [5]) [3, 19, 20, 21] [2] l3_0 r ⟨[(3, .ptr (nm ++ [3, 1]) 0), (19, .sl (l.map Act.t) tg), (20, iT (l.length : Int)), (21, iT (i : Int))], wB nm s v f u, [], 0⟩ = some (.exit 0, ⟨[], wB nm s' v' f' u', [], 0⟩) := by
  intro rest
  induction rest with
  | nil =>
    intro i s v f u hd hi hr r
    have hi' : i = l.length := by have := congrArg List.length hd; simp at this; omega
    have h1 : decide ((i : Int) < (l.length : Int)) = false := by simp; omega
    refine ⟨s, v, f, u, .inr ?_⟩
    (rw [ev_round]; sym => simp [u3_0, m3_0.eq_1, call9, call10, call11, call12, call13, h1, z0, z1, z2, z5, z6, z8, z10, z12, z14, z26, z29, z38, z44, z47, z48, z49, z50, z57, z58, z59, z60, z61, z62, z65, z66, z67, z68, z70, z72, z74, z75, z76, z83, z84, z85, z86, z95, z96, z97, z99, z100, z101, z102, z104, z130, z131, z133, z146, z147, z162, z173, z181, z309, z310, z311, z313, z314, z315, z316, z317, z318, z320, z321, z324, z325, z326, z328, z329, z330, z331, z332, z333, z334, z336, z340, z345, z346, z347, z348, z354, z355, z357, z358, z362, z363, z367, z368, z369, z370, z371, z374, z375, z376, z383, z384, z387, z388, z389, z390, z395, z396, z399, z402, z403, z404, z408, z409, z410, z411, z412, z413, z414, z415, z416, z417, z418, z419, z420, z421, z428, z429, z430, z437, z445, z458, z459, z460])
  | cons a rest ih =>
    intro i s v f u hd hi hr r
    obtain ⟨hget, hlt, hd'⟩ := drop_cons hd
    have h1 : decide ((i : Int) < (l.length : Int)) = true := by simp; omega
    have h2 : IntKind.i64.wrap ((i : Int) + 1) = ((i + 1 : Nat) : Int) := by rw [wrap_i64 (by omega) (by omega)]; omega
    have h3 : decide (0 ≤ (i : Int) ∧ (i : Int) < (l.length : Int)) = true := by simp; omega
    have hlg := fun nm => longEvent_c nm a.event (hL a (List.mem_of_getElem? hget))
    cases hlo : longEvent a.event
    rotate_left
    · refine ⟨s, v, f, u, .inl ?_⟩
      rw [hlo] at hlg
      (rw [ev_round]; sym => simp [u3_0, m3_0.eq_1, call9, call10, call11, call12, call13, h1, h2, h3, hget, hlg, s1_al, s1_rt, s1_pt, s1_spt, s1_set, z0, z1, z2, z5, z6, z8, z10, z12, z14, z26, z29, z38, z44, z47, z48, z49, z50, z57, z58, z59, z60, z61, z62, z65, z66, z67, z68, z70, z72, z74, z75, z76, z83, z84, z85, z86, z95, z96, z97, z99, z100, z101, z102, z104, z130, z131, z133, z146, z147, z162, z173, z181, z309, z310, z311, z313, z314, z315, z316, z317, z318, z320, z321, z324, z325, z326, z328, z329, z330, z331, z332, z333, z334, z336, z340, z345, z346, z347, z348, z354, z355, z357, z358, z362, z363, z367, z368, z369, z370, z371, z374, z375, z376, z383, z384, z387, z388, z389, z390, z395, z396, z399, z402, z403, z404, z408, z409, z410, z411, z412, z413, z414, z415, z416, z417, z418, z419, z420, z421, z428, z429, z430, z437, z445, z458, z459, z460])
    · rw [hlo] at hlg
      have hdo := fun nm => do_c nm s v f u a (Event.Lies.ok hlo)
      have hkp := act_keeps s v f u a hr
      generalize actO s v f u a = o at *
      obtain ⟨s1, v1, f1, u1, e⟩ := o
      have ih1 := ih (i + 1) s1 v1 f1 u1 hd' (by omega) hkp.right (r + 1)
      have hrt := fun nm => wright_c nm s1 v1 f1 u1
      have hright := hkp.right
      simp only at hright
      rw [hright] at hrt
      have hfalls := hkp.falls
      have hwait := hkp.wait
      have hsame := hkp.same
      simp only at hfalls hwait hsame
      clear ih hkp hL hl hd hd' hlo
      obtain ⟨q, hq, ih'⟩ : ∃ q : AE.X × F, (∃ s' v' f' u', q = (.ret, ⟨[(2, bT true)], wB nm s' v' f' u', [], 0⟩) ∨ q = (.exit 0, ⟨[], wB nm s' v' f' u', [], 0⟩)) ∧ evI C tab (nm ++ [5]) [3, 19, 20, 21] [2] l3_0 (r + 1) ⟨[(3, .ptr (nm ++ [3, 1]) 0), (19, .sl (l.map Act.t) tg), (20, iT (l.length : Int)), (21, iT ((i + 1 : Nat) : Int))], wB nm s1 v1 f1 u1, [], 0⟩ = some q := by
        obtain ⟨s', v', f', u', h | h⟩ := ih1
        · exact ⟨_, ⟨s', v', f', u', .inl rfl⟩, h⟩
        · exact ⟨_, ⟨s', v', f', u', .inr rfl⟩, h⟩
      clear ih1
      suffices hs : evI C tab (nm ++ [5]) [3, 19, 20, 21] [2] l3_0 r ⟨[(3, .ptr (nm ++ [3, 1]) 0), (19, .sl (l.map Act.t) tg), (20, iT (l.length : Int)), (21, iT (i : Int))], wB nm s v f u, [], 0⟩ = some q by
        obtain ⟨s', v', f', u', rfl | rfl⟩ := hq
        · exact ⟨s', v', f', u', .inl hs⟩
        · exact ⟨s', v', f', u', .inr hs⟩
      clear hq
      cases e with
      | some g =>
        obtain ⟨rfl, rfl, rfl, rfl⟩ := hsame g rfl
        simp only [Out.t, eT] at hdo
        have kv := dfal (Int.lt_irrefl v1)
        clear hfalls hwait hsame hright hr
        (rw [ev_round]; sym => simp [u3_0, m3_0.eq_1, call9, call10, call11, call12, call13, h1, h2, h3, hget, hlg, hdo, hrt, kv, ih', s1_al, s1_rt, s1_pt, s1_spt, s1_set, z0, z1, z2, z5, z6, z8, z10, z12, z14, z26, z29, z38, z44, z47, z48, z49, z50, z57, z58, z59, z60, z61, z62, z65, z66, z67, z68, z70, z72, z74, z75, z76, z83, z84, z85, z86, z95, z96, z97, z99, z100, z101, z102, z104, z130, z131, z133, z146, z147, z162, z173, z181, z309, z310, z311, z313, z314, z315, z316, z317, z318, z320, z321, z324, z325, z326, z328, z329, z330, z331, z332, z333, z334, z336, z340, z345, z346, z347, z348, z354, z355, z357, z358, z362, z363, z367, z368, z369, z370, z371, z374, z375, z376, z383, z384, z387, z388, z389, z390, z395, z396, z399, z402, z403, z404, z408, z409, z410, z411, z412, z413, z414, z415, z416, z417, z418, z419, z420, z421, z428, z429, z430, z437, z445, z458, z459, z460])
      | none =>
        simp only [Out.t, eT] at hdo
        clear hsame
        by_cases k2 : a.kind = 2
        · obtain ⟨e3, e64, elt, en0, en1⟩ := hwait k2 rfl
          have dk2 := dtru k2
          have dk3 : decide (a.kind = 3) = false := dfal (by omega)
          have dk0 : decide (a.kind < 0) = false := dfal (by omega)
          have dk4 : decide (4 < a.kind) = false := dfal (by omega)
          have dk1 : decide (a.kind = 1) = false := dfal (by omega)
          have kv : decide (v1 < v) = false := dfal (by omega)
          have hb := (wr_eq s1 v1 f1 u1).1 hright
          have w1 : IntKind.i64.wrap (u1 - a.now) = u1 - a.now := wrap_i64 (by omega) (by omega)
          have d64 : decide (64 < u1 - a.now) = false := dfal (by omega)
          have dle : decide (u1 ≤ a.now) = false := dfal (by omega)
          have ht : ∀ nm, evW C tab 13 nm [wT s1 v1 f1 u1, iT a.now] [] = some (.tup [wT s1 v1 f1 u1, nilE], []) := fun nm => by
            rw [tick_c, tick_stays hright en0 en1 elt]; rfl
          by_cases hm : a.now ≤ 1099511627712
          · obtain ⟨s2, v2, f2, u2, h2t, hne⟩ := tick_goes hright (by omega) e3
            have dm := dtru hm
            have ht2 : ∀ nm, evW C tab 13 nm [wT s1 v1 f1 u1, iT u1] [] = some (.tup [wT s2 v2 f2 u2, nilE], []) := fun nm => by
              rw [tick_c, h2t]; rfl
            clear hfalls hwait hright hr hb h2t e64 elt en0 en1 e3 hm k2
            (rw [ev_round]; sym => simp [u3_0, m3_0.eq_1, call9, call10, call11, call12, call13, h1, h2, h3, hget, hlg, hdo, hrt, dk2, dk3, dk0, dk4, dk1, kv, w1, d64, dle, ht, ht2, dm, hne, ih', s1_al, s1_rt, s1_pt, s1_spt, s1_set, z0, z1, z2, z5, z6, z8, z10, z12, z14, z26, z29, z38, z44, z47, z48, z49, z50, z57, z58, z59, z60, z61, z62, z65, z66, z67, z68, z70, z72, z74, z75, z76, z83, z84, z85, z86, z95, z96, z97, z99, z100, z101, z102, z104, z130, z131, z133, z146, z147, z162, z173, z181, z309, z310, z311, z313, z314, z315, z316, z317, z318, z320, z321, z324, z325, z326, z328, z329, z330, z331, z332, z333, z334, z336, z340, z345, z346, z347, z348, z354, z355, z357, z358, z362, z363, z367, z368, z369, z370, z371, z374, z375, z376, z383, z384, z387, z388, z389, z390, z395, z396, z399, z402, z403, z404, z408, z409, z410, z411, z412, z413, z414, z415, z416, z417, z418, z419, z420, z421, z428, z429, z430, z437, z445, z458, z459, z460])
          · have dm := dfal hm
            clear hfalls hwait hright hr hb e64 elt en0 en1 e3 hm k2
            (rw [ev_round]; sym => simp [u3_0, m3_0.eq_1, call9, call10, call11, call12, call13, h1, h2, h3, hget, hlg, hdo, hrt, dk2, dk3, dk0, dk4, dk1, kv, w1, d64, dle, ht, dm, ih', s1_al, s1_rt, s1_pt, s1_spt, s1_set, z0, z1, z2, z5, z6, z8, z10, z12, z14, z26, z29, z38, z44, z47, z48, z49, z50, z57, z58, z59, z60, z61, z62, z65, z66, z67, z68, z70, z72, z74, z75, z76, z83, z84, z85, z86, z95, z96, z97, z99, z100, z101, z102, z104, z130, z131, z133, z146, z147, z162, z173, z181, z309, z310, z311, z313, z314, z315, z316, z317, z318, z320, z321, z324, z325, z326, z328, z329, z330, z331, z332, z333, z334, z336, z340, z345, z346, z347, z348, z354, z355, z357, z358, z362, z363, z367, z368, z369, z370, z371, z374, z375, z376, z383, z384, z387, z388, z389, z390, z395, z396, z399, z402, z403, z404, z408, z409, z410, z411, z412, z413, z414, z415, z416, z417, z418, z419, z420, z421, z428, z429, z430, z437, z445, z458, z459, z460])
        · have dk2 := dfal k2
          by_cases hv : v1 < v
          · have kv := dtru hv
            rcases hfalls hv with k3 | k0 | k4 | ⟨k1, k9⟩
            · have dk3 := dtru k3
              clear hfalls hwait hright hr k2 hv k3
              (rw [ev_round]; sym => simp [u3_0, m3_0.eq_1, call9, call10, call11, call12, call13, h1, h2, h3, hget, hlg, hdo, hrt, dk2, dk3, kv, ih', s1_al, s1_rt, s1_pt, s1_spt, s1_set, z0, z1, z2, z5, z6, z8, z10, z12, z14, z26, z29, z38, z44, z47, z48, z49, z50, z57, z58, z59, z60, z61, z62, z65, z66, z67, z68, z70, z72, z74, z75, z76, z83, z84, z85, z86, z95, z96, z97, z99, z100, z101, z102, z104, z130, z131, z133, z146, z147, z162, z173, z181, z309, z310, z311, z313, z314, z315, z316, z317, z318, z320, z321, z324, z325, z326, z328, z329, z330, z331, z332, z333, z334, z336, z340, z345, z346, z347, z348, z354, z355, z357, z358, z362, z363, z367, z368, z369, z370, z371, z374, z375, z376, z383, z384, z387, z388, z389, z390, z395, z396, z399, z402, z403, z404, z408, z409, z410, z411, z412, z413, z414, z415, z416, z417, z418, z419, z420, z421, z428, z429, z430, z437, z445, z458, z459, z460])
            · have dk3 : decide (a.kind = 3) = false := dfal (by omega)
              have dk0 := dtru k0
              clear hfalls hwait hright hr k2 hv k0
              (rw [ev_round]; sym => simp [u3_0, m3_0.eq_1, call9, call10, call11, call12, call13, h1, h2, h3, hget, hlg, hdo, hrt, dk2, dk3, dk0, kv, ih', s1_al, s1_rt, s1_pt, s1_spt, s1_set, z0, z1, z2, z5, z6, z8, z10, z12, z14, z26, z29, z38, z44, z47, z48, z49, z50, z57, z58, z59, z60, z61, z62, z65, z66, z67, z68, z70, z72, z74, z75, z76, z83, z84, z85, z86, z95, z96, z97, z99, z100, z101, z102, z104, z130, z131, z133, z146, z147, z162, z173, z181, z309, z310, z311, z313, z314, z315, z316, z317, z318, z320, z321, z324, z325, z326, z328, z329, z330, z331, z332, z333, z334, z336, z340, z345, z346, z347, z348, z354, z355, z357, z358, z362, z363, z367, z368, z369, z370, z371, z374, z375, z376, z383, z384, z387, z388, z389, z390, z395, z396, z399, z402, z403, z404, z408, z409, z410, z411, z412, z413, z414, z415, z416, z417, z418, z419, z420, z421, z428, z429, z430, z437, z445, z458, z459, z460])
            · have dk3 : decide (a.kind = 3) = false := dfal (by omega)
              have dk0 : decide (a.kind < 0) = false := dfal (by omega)
              have dk4 := dtru k4
              clear hfalls hwait hright hr k2 hv k4
              (rw [ev_round]; sym => simp [u3_0, m3_0.eq_1, call9, call10, call11, call12, call13, h1, h2, h3, hget, hlg, hdo, hrt, dk2, dk3, dk0, dk4, kv, ih', s1_al, s1_rt, s1_pt, s1_spt, s1_set, z0, z1, z2, z5, z6, z8, z10, z12, z14, z26, z29, z38, z44, z47, z48, z49, z50, z57, z58, z59, z60, z61, z62, z65, z66, z67, z68, z70, z72, z74, z75, z76, z83, z84, z85, z86, z95, z96, z97, z99, z100, z101, z102, z104, z130, z131, z133, z146, z147, z162, z173, z181, z309, z310, z311, z313, z314, z315, z316, z317, z318, z320, z321, z324, z325, z326, z328, z329, z330, z331, z332, z333, z334, z336, z340, z345, z346, z347, z348, z354, z355, z357, z358, z362, z363, z367, z368, z369, z370, z371, z374, z375, z376, z383, z384, z387, z388, z389, z390, z395, z396, z399, z402, z403, z404, z408, z409, z410, z411, z412, z413, z414, z415, z416, z417, z418, z419, z420, z421, z428, z429, z430, z437, z445, z458, z459, z460])
            · have dk3 : decide (a.kind = 3) = false := dfal (by omega)
              have dk0 : decide (a.kind < 0) = false := dfal (by omega)
              have dk4 : decide (4 < a.kind) = false := dfal (by omega)
              have dk1 := dtru k1
              have dk9 := dtru k9
              clear hfalls hwait hright hr k2 hv k1 k9
              (rw [ev_round]; sym => simp [u3_0, m3_0.eq_1, call9, call10, call11, call12, call13, h1, h2, h3, hget, hlg, hdo, hrt, dk2, dk3, dk0, dk4, dk1, dk9, kv, ih', s1_al, s1_rt, s1_pt, s1_spt, s1_set, z0, z1, z2, z5, z6, z8, z10, z12, z14, z26, z29, z38, z44, z47, z48, z49, z50, z57, z58, z59, z60, z61, z62, z65, z66, z67, z68, z70, z72, z74, z75, z76, z83, z84, z85, z86, z95, z96, z97, z99, z100, z101, z102, z104, z130, z131, z133, z146, z147, z162, z173, z181, z309, z310, z311, z313, z314, z315, z316, z317, z318, z320, z321, z324, z325, z326, z328, z329, z330, z331, z332, z333, z334, z336, z340, z345, z346, z347, z348, z354, z355, z357, z358, z362, z363, z367, z368, z369, z370, z371, z374, z375, z376, z383, z384, z387, z388, z389, z390, z395, z396, z399, z402, z403, z404, z408, z409, z410, z411, z412, z413, z414, z415, z416, z417, z418, z419, z420, z421, z428, z429, z430, z437, z445, z458, z459, z460])
          · have kv := dfal hv
            clear hfalls hwait hright hr k2 hv
            (rw [ev_round]; sym => simp [u3_0, m3_0.eq_1, call9, call10, call11, call12, call13, h1, h2, h3, hget, hlg, hdo, hrt, dk2, kv, ih', s1_al, s1_rt, s1_pt, s1_spt, s1_set, z0, z1, z2, z5, z6, z8, z10, z12, z14, z26, z29, z38, z44, z47, z48, z49, z50, z57, z58, z59, z60, z61, z62, z65, z66, z67, z68, z70, z72, z74, z75, z76, z83, z84, z85, z86, z95, z96, z97, z99, z100, z101, z102, z104, z130, z131, z133, z146, z147, z162, z173, z181, z309, z310, z311, z313, z314, z315, z316, z317, z318, z320, z321, z324, z325, z326, z328, z329, z330, z331, z332, z333, z334, z336, z340, z345, z346, z347, z348, z354, z355, z357, z358, z362, z363, z367, z368, z369, z370, z371, z374, z375, z376, z383, z384, z387, z388, z389, z390, z395, z396, z399, z402, z403, z404, z408, z409, z410, z411, z412, z413, z414, z415, z416, z417, z418, z419, z420, z421, z428, z429, z430, z437, z445, z458, z459, z460])
theorem law_c (nm : AE.Name) (l : List Act) (tg : AE.Tag) (ht : ∀ n k, tg ≠ .own n k) (hl : l.length ≤ 9223372036854775807) (hL : ∀ a ∈ l, a.event.Lies) : ∃ h, evW C tab 3 nm [.sl (l.map Act.t) tg] [] = some (bT true, h) := by
  refine ⟨[], ?_⟩
  have hst : strip1 (.sl (l.map Act.t) tg) = .sl (l.map Act.t) tg := by cases tg <;> first | rfl | exact absurd rfl (ht _ _)
  obtain ⟨s', v', f', u', h | h⟩ := wk_loop nm tg l hl hL l 0 0 0 0 0 rfl (by omega) (by decide) 0
  · simp only [cast0] at h
    clear hL
    cases hb : decide (40 < (l.length : Int))
    · (rw [fn3]; sym => simp [b3.eq_1, call9, call10, call11, call12, call13, alive_c, h, hst, hb, z0, z2, z3, z6, z8, z14, z41, z44, z47, z48, z49, z53, z58, z59, z60, z61, z62, z65, z66, z68, z70, z72, z74, z77, z78, z79, z83, z84, z85, z86, z87, z89, z90, z91, z94, z96, z99, z100, z101, z102, z110, z135, z136, z137, z138, z140, z141, z142, z143, z144, z146, z147, z289, z296, z308, z309, z310, z311, z313, z314, z315, z318, z319, z320, z321, z327, z328, z329, z336, z337, z339, z340, z360, z367, z369, z370, z383, z384, z387, z389, z399, z402, z403, z404, z405, z410, z411, z412, z413, z415, z420, z421, z430, z437, z443, z459])
    · (rw [fn3]; sym => simp [b3.eq_1, call9, call10, call11, call12, call13, alive_c, hst, hb, z0, z2, z3, z6, z8, z14, z41, z44, z47, z48, z49, z53, z58, z59, z60, z61, z62, z65, z66, z68, z70, z72, z74, z77, z78, z79, z83, z84, z85, z86, z87, z89, z90, z91, z94, z96, z99, z100, z101, z102, z110, z135, z136, z137, z138, z140, z141, z142, z143, z144, z146, z147, z289, z296, z308, z309, z310, z311, z313, z314, z315, z318, z319, z320, z321, z327, z328, z329, z336, z337, z339, z340, z360, z367, z369, z370, z383, z384, z387, z389, z399, z402, z403, z404, z405, z410, z411, z412, z413, z415, z420, z421, z430, z437, z443, z459])
  · simp only [cast0] at h
    clear hL
    cases hb : decide (40 < (l.length : Int))
    · (rw [fn3]; sym => simp [b3.eq_1, call9, call10, call11, call12, call13, alive_c, h, hst, hb, z0, z2, z3, z6, z8, z14, z41, z44, z47, z48, z49, z53, z58, z59, z60, z61, z62, z65, z66, z68, z70, z72, z74, z77, z78, z79, z83, z84, z85, z86, z87, z89, z90, z91, z94, z96, z99, z100, z101, z102, z110, z135, z136, z137, z138, z140, z141, z142, z143, z144, z146, z147, z289, z296, z308, z309, z310, z311, z313, z314, z315, z318, z319, z320, z321, z327, z328, z329, z336, z337, z339, z340, z360, z367, z369, z370, z383, z384, z387, z389, z399, z402, z403, z404, z405, z410, z411, z412, z413, z415, z420, z421, z430, z437, z443, z459])
    · (rw [fn3]; sym => simp [b3.eq_1, call9, call10, call11, call12, call13, alive_c, hst, hb, z0, z2, z3, z6, z8, z14, z41, z44, z47, z48, z49, z53, z58, z59, z60, z61, z62, z65, z66, z68, z70, z72, z74, z77, z78, z79, z83, z84, z85, z86, z87, z89, z90, z91, z94, z96, z99, z100, z101, z102, z110, z135, z136, z137, z138, z140, z141, z142, z143, z144, z146, z147, z289, z296, z308, z309, z310, z311, z313, z314, z315, z318, z319, z320, z321, z327, z328, z329, z336, z337, z339, z340, z360, z367, z369, z370, z383, z384, z387, z389, z399, z402, z403, z404, z405, z410, z411, z412, z413, z415, z420, z421, z430, z437, z443, z459])
end Go.AE.W

/-! K14: acts in memory, as values that are reckoned with. -/
set_option linter.unusedVariables false
set_option linter.unusedSimpArgs false
set_option maxHeartbeats 1000000
set_option maxRecDepth 100000
namespace Go.AE.W
open Go.RowKit Go.LB
abbrev EA := Bool × Fix 16 UInt8
abbrev EC := EA × Int
abbrev EP := ByteArray × Int × Int × Int
abbrev EK := ByteArray × ByteArray
abbrev ES := EK × Int × List EA × List EA × List EA × List EC × List EP × Bool × Bool × Bool × Int × Bool
abbrev EE := EA × ByteArray × Bool × Bool × Bool × List ByteArray
abbrev EL := EK × ByteArray × Bool × List EP × List EE
abbrev EN := ByteArray × ByteArray × List EA
abbrev EV := Int × Int × ES × EL × EN × EK × ByteArray
abbrev ET := Int × Int × EV
abbrev bs (x : ByteArray) : List UInt8 := x.data.toList
def cA (x : EA) : Addr := ⟨x.1, x.2.1, x.2.2⟩
def cC (x : EC) : Cidr := ⟨cA x.1, x.2⟩
def cP (x : EP) : Port := ⟨bs x.1, x.2.1, x.2.2.1, x.2.2.2⟩
def cE (x : EE) : Endpoint := ⟨cA x.1, bs x.2.1, x.2.2.1, x.2.2.2.1, x.2.2.2.2.1, x.2.2.2.2.2.map bs, .no, by simp⟩
def cL (l : List EA) : AL := ⟨l.map cA, .no, by simp⟩
def cS (x : ES) : Service where
  space := bs x.1.1
  name := bs x.1.2
  kind := x.2.1
  cluster := cL x.2.2.1
  external := cL x.2.2.2.1
  balancers := cL x.2.2.2.2.1
  ranges := x.2.2.2.2.2.1.map cC
  rt := .no
  hrt := by simp
  ports := x.2.2.2.2.2.2.1.map cP
  pt := .no
  hpt := by simp
  il := x.2.2.2.2.2.2.2.1
  el := x.2.2.2.2.2.2.2.2.1
  sticky := x.2.2.2.2.2.2.2.2.2.1
  ticks := x.2.2.2.2.2.2.2.2.2.2.1
  hinted := x.2.2.2.2.2.2.2.2.2.2.2
def cSl (x : EL) : Slice where
  space := bs x.1.1
  name := bs x.1.2
  service := bs x.2.1
  six := x.2.2.1
  ports := x.2.2.2.1.map cP
  pt := .no
  hpt := by simp
  ends := x.2.2.2.2.map cE
  et := .no
  het := by simp
def cN (x : EN) : Node := ⟨bs x.1, bs x.2.1, cL x.2.2⟩
def cV (x : EV) : Event where
  kind := x.1
  version := x.2.1
  service := cS x.2.2.1
  slice := cSl x.2.2.2.1
  node := cN x.2.2.2.2.1
  space := bs x.2.2.2.2.2.1.1
  kname := bs x.2.2.2.2.2.1.2
  name := bs x.2.2.2.2.2.2
def cT (x : ET) : Act := ⟨x.1, x.2.1, cV x.2.2⟩
theorem fm1 {α β : Type} (f : α → β) (l : List α) : (l.flatMap fun b => [f b]) = l.map f := by
  induction l with
  | nil => rfl
  | cons a l ih => simp [ih]
theorem byT (l : List UInt8) : l.flatMap TEnc.toT = l.map encB := fm1 _ l
theorem sl_conv {α β : Type} [Enc α] [TEnc α] (c : α → β) (t : β → T) (h : ∀ x, elT x = t (c x)) (l : List α) : slT l = .sl ((l.map c).map t) .no := by
  unfold slT
  rw [List.map_map]
  congr 1
  exact List.map_congr_left fun x _ => h x
theorem elA (x : EA) : elT x = (cA x).t := by
  show T.agg ([.v (.bool x.1)] ++ x.2.1.flatMap TEnc.toT) = _
  rw [byT]; rfl
theorem elC (x : EC) : elT x = (cC x).t := by
  show T.agg (([.v (.bool x.1.1)] ++ x.1.2.1.flatMap TEnc.toT) ++ [.v (.int .i64 x.2)]) = _
  rw [byT]; rfl
theorem elP (x : EP) : elT x = (cP x).t := rfl
theorem elZ (x : ByteArray) : elT x = tx (bs x) := rfl
theorem elE (x : EE) : elT x = (cE x).t := by
  have h := sl_conv bs tx elZ x.2.2.2.2.2
  show T.agg (([.v (.bool x.1.1)] ++ x.1.2.1.flatMap TEnc.toT) ++ [.v (.string x.2.1), .v (.bool x.2.2.1), .v (.bool x.2.2.2.1), .v (.bool x.2.2.2.2.1), slT x.2.2.2.2.2]) = _
  rw [byT, h]; rfl
theorem elV (x : ET) : elT x = (cT x).t := by
  obtain ⟨k, n, ek, ev, ⟨⟨s1, s2⟩, sk, sc, se, sb, sr, sp, il, el, sticky, ticks, hinted⟩, ⟨⟨l1, l2⟩, ls, six, lp, le⟩, ⟨n1, n2, na⟩, ⟨k1, k2⟩, nm⟩ := x
  have a1 := sl_conv cA Addr.t elA sc
  have a2 := sl_conv cA Addr.t elA se
  have a3 := sl_conv cA Addr.t elA sb
  have a4 := sl_conv cC Cidr.t elC sr
  have a5 := sl_conv cP Port.t elP sp
  have a6 := sl_conv cP Port.t elP lp
  have a7 := sl_conv cE Endpoint.t elE le
  have a8 := sl_conv cA Addr.t elA na
  show T.agg [iT k, iT n, iT ek, iT ev, .v (.string s1), .v (.string s2), iT sk, slT sc, slT se, slT sb, slT sr, slT sp, bT il, bT el, bT sticky, iT ticks, bT hinted, .v (.string l1), .v (.string l2), .v (.string ls), bT six, slT lp, slT le, .v (.string n1), .v (.string n2), slT na, .v (.string k1), .v (.string k2), .v (.string nm)] = _
  rw [a1, a2, a3, a4, a5, a6, a7, a8]; rfl
theorem acts_sl (l : List ET) : slT l = .sl ((l.map cT).map Act.t) .no := sl_conv cT Act.t elV l
theorem lies_of (x : ET) (h : TEnc.ok x) : (cT x).event.Lies := by
  obtain ⟨k, n, ek, ev, ⟨⟨s1, s2⟩, sk, sc, se, sb, sr, sp, il, el, sticky, ticks, hinted⟩, ⟨⟨l1, l2⟩, ls, six, lp, le⟩, ⟨n1, n2, na⟩, ⟨k1, k2⟩, nm⟩ := x
  obtain ⟨_, _, _, _, ⟨_, _, _, _, _, _, h1, _⟩, ⟨_, _, _, h2, h3⟩, _⟩ := h
  refine ⟨?_, ?_, ?_, ?_⟩
  · show (sp.map cP).length ≤ _
    rw [List.length_map]; exact h1.1
  · show (lp.map cP).length ≤ _
    rw [List.length_map]; exact h2.1
  · show (le.map cE).length ≤ _
    rw [List.length_map]; exact h3.1
  · intro y hy
    obtain ⟨z, hz, rfl⟩ := List.mem_map.1 (show y ∈ le.map cE from hy)
    have := h3.2 z hz
    show (z.2.2.2.2.2.map bs).length ≤ _
    rw [List.length_map]; exact this.2.2.2.2.2.1
end Go.AE.W
