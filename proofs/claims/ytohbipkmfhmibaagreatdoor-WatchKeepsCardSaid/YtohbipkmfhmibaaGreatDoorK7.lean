import Derived.Test.YtohbipkmfhmibaaGreatDoorK3
/-! K7: services, slices, nodes, events. -/
set_option linter.unusedVariables false
set_option linter.unusedSimpArgs false
set_option maxHeartbeats 1000000
set_option maxRecDepth 100000
namespace Go.AE.W
open Go.RowKit Go.LB

theorem btl (l : List UInt8) : (ByteArray.mk (Array.mk l)).toList = l := by
  rw [ByteArray.toList_eq]
theorem less_c (nm : AE.Name) (a b : List UInt8) : evW C tab 242 nm [tx a, tx b] [] = some (bT (Op.bytesLess a b), []) := by
  have h : ∀ nm c, evW C tab 258 nm [tx c] [] = some (bT false, []) := fun nm c => by
    (rw [fn258]; sym => simp [b258.eq_1, z0, z1, z8, z44, z47, z48, z49, z50, z58, z59, z60, z62, z77, z78, z87, z89, z90, z91, z94, z99, z135, z136, z137, z138, z140, z141, z142, z143, z144, z146, z147, z173, z289, z296, z309, z310, z314, z320, z321, z328, z329, z330, z331, z332, z334, z337, z339, z340, z360, z369, z370, z383, z384, z399, z402, z403, z404, z412, z413, z414, z415, z438, z443, z445])
  (rw [fn242]; sym => simp [b242.eq_1, call258, h, btl, z0, z1, z8, z44, z47, z48, z49, z50, z58, z59, z60, z62, z77, z78, z87, z89, z90, z91, z94, z99, z135, z136, z137, z138, z140, z141, z142, z143, z144, z146, z147, z173, z289, z296, z309, z310, z314, z320, z321, z328, z329, z330, z331, z332, z334, z337, z339, z340, z360, z369, z370, z383, z384, z399, z402, z403, z404, z412, z413, z414, z415, z438, z443, z445])
/-- From the end on: none is less than the one ahead of it. -/
def sortedTo (l : List (List UInt8)) : Nat → Bool
  | 0 => true
  | n + 1 => !Op.bytesLess (l.getD (n + 1) []) (l.getD n []) && sortedTo l n
theorem sorted_loop (p : AE.Name) (l : List (List UInt8)) (tg : AE.Tag) (hl : l.length ≤ 1000000000000) : ∀ n, n < l.length → ∀ r, evI C tab p [0, 3] [2] l198_0 r ⟨[(0, .sl (l.map tx) tg), (3, iT (n : Int))], [[]], [], 0⟩ = (if sortedTo l n then some (.exit 0, ⟨[], [[]], [], 0⟩) else some (.ret, ⟨[(2, bT false)], [[]], [], 0⟩)) := by
  intro n
  induction n with
  | zero =>
    intro h r
    have e : sortedTo l 0 = true := rfl
    rw [e]
    simp only [if_true, cast0]
    (rw [ev_round]; sym => simp [u198_0, m198_0.eq_1, call242, z0, z5, z8, z29, z44, z47, z48, z49, z50, z57, z58, z59, z60, z62, z75, z85, z86, z95, z99, z101, z104, z146, z147, z173, z309, z310, z311, z313, z314, z315, z316, z317, z318, z320, z321, z324, z325, z326, z328, z329, z336, z340, z355, z367, z368, z369, z370, z383, z384, z395, z399, z404, z410, z411, z412, z413, z414, z415, z437, z446, z458, z459, z460])
  | succ n ih =>
    intro h r
    have ih' := ih (by omega)
    have e : sortedTo l (n + 1) = (!Op.bytesLess (l.getD (n + 1) []) (l.getD n []) && sortedTo l n) := rfl
    have g1 : l[n + 1]? = some (l.getD (n + 1) []) := by simp [List.getD, h]
    have g2 : l[n]? = some (l.getD n []) := by simp [List.getD, show n < l.length by omega]
    rw [e]
    generalize l.getD (n + 1) [] = a at *
    generalize l.getD n [] = b at *
    have h1 : decide ((0 : Int) < ((n + 1 : Nat) : Int)) = true := by simp; try omega
    have h2 : IntKind.i64.wrap (((n + 1 : Nat) : Int) - 1) = (n : Int) := by rw [wrap_i64 (by omega) (by omega)]; omega
    have h3 : decide (0 ≤ ((n + 1 : Nat) : Int) ∧ ((n + 1 : Nat) : Int) < (l.length : Int)) = true := by simp; omega
    have h4 : decide (0 ≤ (n : Int) ∧ (n : Int) < (l.length : Int)) = true := by simp; omega
    cases hb : Op.bytesLess a b
    · simp only [Bool.not_false, Bool.true_and]
      (rw [ev_round]; sym => simp [u198_0, m198_0.eq_1, call242, h1, h2, h3, h4, g1, g2, less_c, hb, ih', z0, z5, z8, z29, z44, z47, z48, z49, z50, z57, z58, z59, z60, z62, z75, z85, z86, z95, z99, z101, z104, z146, z147, z173, z309, z310, z311, z313, z314, z315, z316, z317, z318, z320, z321, z324, z325, z326, z328, z329, z336, z340, z355, z367, z368, z369, z370, z383, z384, z395, z399, z404, z410, z411, z412, z413, z414, z415, z437, z446, z458, z459, z460])
    · simp only [Bool.not_true, Bool.false_and, Bool.false_eq_true, if_false]
      (rw [ev_round]; sym => simp [u198_0, m198_0.eq_1, call242, h1, h2, h3, h4, g1, g2, less_c, hb, z0, z5, z8, z29, z44, z47, z48, z49, z50, z57, z58, z59, z60, z62, z75, z85, z86, z95, z99, z101, z104, z146, z147, z173, z309, z310, z311, z313, z314, z315, z316, z317, z318, z320, z321, z324, z325, z326, z328, z329, z336, z340, z355, z367, z368, z369, z370, z383, z384, z395, z399, z404, z410, z411, z412, z413, z414, z415, z437, z446, z458, z459, z460])
def sortedB (l : List (List UInt8)) : Bool := sortedTo l (l.length - 1)
theorem sorted_c (nm : AE.Name) (l : List (List UInt8)) (tg : AE.Tag) (hl : l.length ≤ 1000000000000) : evW C tab 198 nm [.sl (l.map tx) tg] [] = some (bT (sortedB l), []) := by
  cases hn : l.length with
  | zero =>
    obtain rfl := List.eq_nil_of_length_eq_zero hn
    have w : IntKind.i64.wrap (0 - 1) = -1 := by decide
    have w' : IntKind.i64.wrap (-1) = -1 := by decide
    have e : sortedB [] = true := rfl
    rw [e]
    (rw [fn198]; sym => simp [b198.eq_1, call242, w, w', ev_round, u198_0, m198_0.eq_1, z0, z8, z41, z47, z48, z57, z58, z59, z60, z62, z77, z78, z85, z86, z87, z89, z90, z91, z94, z99, z110, z135, z136, z137, z138, z140, z141, z142, z143, z144, z289, z296, z308, z309, z310, z311, z313, z314, z315, z316, z318, z319, z320, z321, z326, z327, z328, z329, z336, z337, z339, z360, z368, z369, z370, z383, z384, z399, z403, z404, z410, z412, z413, z415, z437, z443, z446, z459, z461])
  | succ n =>
    have h := fun p r => sorted_loop p l tg hl n (by omega) r
    have w : IntKind.i64.wrap ((l.length : Int) - 1) = (n : Int) := by rw [wrap_i64 (by omega) (by omega)]; omega
    have e : sortedB l = sortedTo l n := by simp [sortedB, hn]
    rw [e]
    cases hs : sortedTo l n
    · rw [hs] at h
      simp only [Bool.false_eq_true, if_false] at h
      (rw [fn198]; sym => simp [b198.eq_1, call242, w, h, z0, z8, z41, z47, z48, z57, z58, z59, z60, z62, z77, z78, z85, z86, z87, z89, z90, z91, z94, z99, z110, z135, z136, z137, z138, z140, z141, z142, z143, z144, z289, z296, z308, z309, z310, z311, z313, z314, z315, z316, z318, z319, z320, z321, z326, z327, z328, z329, z336, z337, z339, z360, z368, z369, z370, z383, z384, z399, z403, z404, z410, z412, z413, z415, z437, z443, z446, z459, z461])
    · rw [hs] at h
      simp only [if_true] at h
      (rw [fn198]; sym => simp [b198.eq_1, call242, w, h, z0, z8, z41, z47, z48, z57, z58, z59, z60, z62, z77, z78, z85, z86, z87, z89, z90, z91, z94, z99, z110, z135, z136, z137, z138, z140, z141, z142, z143, z144, z289, z296, z308, z309, z310, z311, z313, z314, z315, z316, z318, z319, z320, z321, z326, z327, z328, z329, z336, z337, z339, z360, z368, z369, z370, z383, z384, z399, z403, z404, z410, z412, z413, z415, z437, z443, z446, z459, z461])
theorem addrs_c (nm : AE.Name) (x : AL) (hl : x.l.length ≤ 1000000000000) : evW C tab 83 nm [AL.t' x] [] = some (bT (decide ((x.l.length : Int) ≤ 3) && x.l.all addrR), []) := by
  have h := fun nm => every0_Addr nm 114 x.t x.ht x.l addrR hl (fun nm xs h L => call114) (fun y _ nm => addrR_c nm y)
  (rw [fn83]; sym => (simp [b83.eq_1, call114, call184, h, s1_al, z0, z1, z8, z41, z44, z47, z48, z49, z50, z58, z59, z60, z62, z65, z66, z67, z77, z78, z87, z89, z90, z91, z94, z99, z110, z135, z136, z137, z138, z140, z141, z142, z143, z144, z146, z147, z152, z154, z156, z157, z172, z179, z289, z293, z296, z297, z301, z302, z306, z307, z309, z310, z314, z320, z321, z328, z329, z330, z332, z337, z339, z341, z342, z343, z345, z346, z350, z354, z360, z369, z370, z383, z384, z388, z390, z399, z403, z404, z408, z409, z412, z413, z414, z415, z422, z437, z443, z459]; try (tactic => ( (repeat' (first | (refine And.intro ?_ ?_) | (intro hq))); all_goals (first | rfl | (simp only [*, Bool.and_true, Bool.true_and, Bool.false_and, Bool.and_false, Bool.or_false, Bool.false_or, Bool.true_or, Bool.or_true, Bool.not_true, Bool.not_false]; done) | (simp_all; done) | (simp_all <;> omega) | (simp_all <;> intros <;> omega))))))
theorem named1_c (nm : AE.Name) (x : Port) : evW C tab 202 nm [x.t] [] = some (tx x.name, []) := by
  (rw [fn202]; sym => simp [b202.eq_1, z0, z2, z5, z26, z47, z48, z58, z59, z60, z62, z65, z66, z68, z70, z75, z77, z78, z87, z89, z90, z91, z94, z95, z97, z101, z102, z135, z136, z137, z138, z140, z141, z142, z143, z144, z289, z296, z309, z310, z314, z320, z321, z328, z329, z337, z339, z360, z369, z370, z383, z384, z387, z395, z399, z403, z404, z405, z412, z413, z443])
theorem named_c (nm : AE.Name) (l : List Port) (tg : AE.Tag) (ht : ∀ n k, tg ≠ .own n k) (hl : l.length ≤ 1000000000000) : evW C tab 117 nm [.sl (l.map Port.t) tg] [] = some (bT (decide ((l.length : Int) ≤ 4) && nodupB (l.map Port.name)), []) := by
  have h := fun nm => un_P nm 202 tg l hl (fun nm xs h L => call202) (fun y _ nm => named1_c nm y)
  have hst : strip1 (.sl (l.map Port.t) tg) = .sl (l.map Port.t) tg := by cases tg <;> first | rfl | exact absurd rfl (ht _ _)
  (rw [fn117]; sym => (simp [b117.eq_1, call201, call202, h, hst, z0, z1, z8, z41, z44, z47, z48, z49, z50, z58, z59, z60, z62, z65, z66, z67, z77, z78, z87, z89, z90, z91, z94, z99, z110, z135, z136, z137, z138, z140, z141, z142, z143, z144, z146, z147, z152, z154, z156, z157, z172, z179, z289, z293, z296, z297, z301, z302, z306, z307, z309, z310, z314, z320, z321, z328, z329, z330, z332, z337, z339, z341, z342, z343, z345, z346, z350, z354, z360, z369, z370, z383, z384, z388, z390, z399, z403, z404, z408, z409, z412, z413, z414, z415, z422, z437, z443, z459]; try (tactic => ( (repeat' (first | (refine And.intro ?_ ?_) | (intro hq))); all_goals (first | rfl | (simp only [*, Bool.and_true, Bool.true_and, Bool.false_and, Bool.and_false, Bool.or_false, Bool.false_or, Bool.true_or, Bool.or_true, Bool.not_true, Bool.not_false]; done) | (simp_all; done) | (simp_all <;> omega) | (simp_all <;> intros <;> omega))))))
theorem zoned1_c (nm : AE.Name) (x : List UInt8) : evW C tab 200 nm [tx x] [] = some (tx x, []) := by
  (rw [fn200]; sym => simp [b200.eq_1, z0, z47, z48, z58, z59, z60, z62, z77, z78, z87, z89, z90, z91, z94, z135, z136, z137, z138, z140, z141, z142, z143, z144, z289, z296, z309, z310, z314, z320, z321, z328, z329, z337, z339, z360, z369, z370, z383, z384, z403, z404, z412, z413, z443])
def zonedB (l : List (List UInt8)) : Bool := decide ((l.length : Int) ≤ 3) && l.all label && sortedB l && nodupB l
theorem zoned_c (nm : AE.Name) (l : List (List UInt8)) (tg : AE.Tag) (ht : ∀ n k, tg ≠ .own n k) (hl : l.length ≤ 1000000000000) (hs : ∀ s ∈ l, s.length ≤ 1000000000000) : evW C tab 115 nm [.sl (l.map tx) tg] [] = some (bT (zonedB l), []) := by
  have h1 := fun nm => every0_Str nm 81 tg ht l label hl (fun nm xs h L => call81) (fun y hy nm => label_c nm y (hs y hy))
  have h2 := fun nm => sorted_c nm l tg hl
  have h3 := fun nm => un_S nm 200 tg l hl (fun nm xs h L => call200) (fun y _ nm => zoned1_c nm y)
  have e : l.map (fun x => x) = l := by simp
  rw [e] at h3
  have hst : strip1 (.sl (l.map tx) tg) = .sl (l.map tx) tg := by cases tg <;> first | rfl | exact absurd rfl (ht _ _)
  clear hs e
  unfold zonedB
  (rw [fn115]; sym => (simp [b115.eq_1, call81, call197, call198, call199, call200, h1, h2, h3, hst, z0, z1, z8, z41, z44, z47, z48, z49, z50, z58, z59, z60, z62, z65, z66, z67, z77, z78, z87, z89, z90, z91, z94, z99, z110, z135, z136, z137, z138, z140, z141, z142, z143, z144, z146, z147, z152, z154, z156, z157, z172, z179, z289, z293, z296, z297, z301, z302, z306, z307, z309, z310, z314, z320, z321, z328, z329, z330, z332, z337, z339, z340, z341, z342, z343, z345, z346, z350, z354, z360, z369, z370, z383, z384, z388, z390, z399, z403, z404, z408, z409, z412, z413, z414, z415, z422, z437, z443, z459]; try (tactic => ( (repeat' (first | (refine And.intro ?_ ?_) | (intro hq))); all_goals (first | rfl | (simp only [*, Bool.and_true, Bool.true_and, Bool.false_and, Bool.and_false, Bool.or_false, Bool.false_or, Bool.true_or, Bool.or_true, Bool.not_true, Bool.not_false]; done) | (simp_all; done) | (simp_all <;> omega) | (simp_all <;> intros <;> omega))))))
structure Service where
  (space name : List UInt8)
  kind : Int
  (cluster external balancers : AL)
  ranges : List Cidr
  rt : AE.Tag
  hrt : ∀ n k, rt ≠ .own n k
  ports : List Port
  pt : AE.Tag
  hpt : ∀ n k, pt ≠ .own n k
  (il el sticky : Bool)
  ticks : Int
  hinted : Bool
abbrev Service.c (x : Service) : List T := [tx x.space, tx x.name, iT x.kind, .sl (x.cluster.l.map Addr.t) x.cluster.t, .sl (x.external.l.map Addr.t) x.external.t, .sl (x.balancers.l.map Addr.t) x.balancers.t, .sl (x.ranges.map Cidr.t) x.rt, .sl (x.ports.map Port.t) x.pt, bT x.il, bT x.el, bT x.sticky, iT x.ticks, bT x.hinted]
abbrev Service.t (x : Service) : T := .agg x.c
/-- All sizes within bounds. -/
structure Service.Ok (x : Service) : Prop where
  space : x.space.length ≤ 1000000000000
  name : x.name.length ≤ 1000000000000
  cluster : x.cluster.l.length ≤ 1000000000000
  external : x.external.l.length ≤ 1000000000000
  balancers : x.balancers.l.length ≤ 1000000000000
  ranges : x.ranges.length ≤ 1000000000000
  ports : x.ports.length ≤ 1000000000000
  names : ∀ p ∈ x.ports, p.name.length ≤ 1000000000000
theorem s1_rt (x : Service) (l : List T) : strip1 (.sl l x.rt) = .sl l x.rt := by have := x.hrt; cases h : x.rt <;> simp_all [strip1]
theorem s1_pt (x : Service) (l : List T) : strip1 (.sl l x.pt) = .sl l x.pt := by have := x.hpt; cases h : x.pt <;> simp_all [strip1]
theorem outer1_c (nm m : AE.Name) (hm : nm.isPrefixOf m = false) (s : Service) (p : Port) : evW C tab 246 nm [p.t, .ptr m 0] [[(m, .box s.c)]] = some (bT (decide (p.outer = 0) || (!decide (s.kind = 0) && (decide (1 ≤ p.outer) && decide (p.outer ≤ 65535)))), [[(m, .box s.c)]]) := by
  have m1 := npre_ne hm
  have m2 := npre_ne' hm
  (rw [fn246]; sym => (simp [b246.eq_1, call193, m1, m2, hm, pright_c, s1_rt, s1_pt, s1_al, z0, z1, z2, z5, z8, z26, z44, z47, z48, z49, z50, z58, z59, z60, z62, z65, z66, z67, z68, z70, z75, z77, z78, z87, z89, z90, z92, z94, z95, z97, z99, z101, z102, z135, z136, z137, z138, z140, z141, z142, z143, z144, z146, z147, z173, z289, z296, z309, z310, z314, z320, z321, z328, z329, z330, z331, z332, z333, z334, z337, z339, z340, z345, z346, z350, z354, z360, z369, z370, z383, z384, z387, z388, z395, z396, z399, z403, z404, z405, z412, z413, z414, z415, z437]; try (tactic => ( (repeat' (first | (refine And.intro ?_ ?_) | (intro hq))); all_goals (first | rfl | (simp only [*, Bool.and_true, Bool.true_and, Bool.false_and, Bool.and_false, Bool.or_false, Bool.false_or, Bool.true_or, Bool.or_true, Bool.not_true, Bool.not_false]; done) | (simp_all; done) | (simp_all <;> omega) | (simp_all <;> intros <;> omega))))))
theorem ptr1_svc (s : Service) : (Service.c s).flatMap ptr1 = [] := by simp [ptr1, ptr0]
def outerB (s : Service) : Bool := s.ports.all fun p => decide (p.outer = 0) || (!decide (s.kind = 0) && (decide (1 ≤ p.outer) && decide (p.outer ≤ 65535)))
theorem outer_c (nm : AE.Name) (s : Service) (ok : s.Ok) : evW C tab 214 nm [s.t] [] = some (bT (outerB s), []) := by
  have h := every1_Port (nm ++ [1, 3]) (nm ++ [0, 0]) s.c (ptr1_svc s) (by simp [nm_pre1, List.isPrefixOf]) 246 s.pt s.hpt s.ports _ ok.ports (fun nm xs h L => call246) (fun y _ nm' hm => outer1_c nm' _ hm s y)
  unfold outerB
  clear ok
  (rw [fn214]; sym => simp [b214.eq_1, call109, call246, h, s1_rt, s1_pt, s1_al, z0, z2, z5, z20, z26, z44, z47, z48, z49, z50, z58, z59, z60, z62, z65, z66, z68, z70, z72, z74, z75, z77, z78, z87, z89, z90, z91, z94, z95, z97, z101, z102, z135, z136, z137, z138, z140, z141, z142, z143, z144, z146, z147, z152, z153, z154, z155, z156, z157, z172, z179, z289, z293, z294, z295, z296, z297, z298, z300, z301, z302, z303, z304, z306, z307, z309, z310, z314, z320, z321, z328, z329, z337, z339, z341, z342, z343, z358, z360, z369, z370, z383, z384, z387, z389, z395, z396, z399, z403, z404, z405, z406, z407, z408, z409, z412, z413, z414, z415, z422, z423, z431, z441, z443])
theorem ported1_c (nm : AE.Name) (x : Port) : evW C tab 213 nm [x.t] [] = some (.agg [iT x.proto, iT x.port], []) := by
  (rw [fn213]; sym => simp [b213.eq_1, z2, z3, z5, z6, z26, z47, z48, z53, z54, z58, z59, z60, z61, z62, z65, z66, z68, z70, z72, z74, z75, z76, z77, z78, z79, z80, z83, z84, z88, z89, z90, z91, z94, z95, z96, z97, z101, z102, z135, z136, z137, z138, z139, z140, z141, z142, z143, z144, z162, z289, z296, z309, z310, z314, z320, z321, z328, z329, z337, z339, z360, z369, z370, z371, z374, z383, z384, z387, z389, z395, z396, z399, z403, z404, z405, z408, z409, z410, z411, z412, z413, z414, z415, z417, z418, z419, z420, z421, z428, z430, z443])
def portedB (s : Service) : Bool := decide ((0 : Int) < (s.ports.length : Int)) && s.ports.all plain && (decide ((s.ports.length : Int) ≤ 4) && nodupB (s.ports.map Port.name)) && nodupB (s.ports.map Port.pp) && outerB s
theorem ported_c (nm : AE.Name) (s : Service) (ok : s.Ok) : evW C tab 148 nm [s.t] [] = some (bT (portedB s), []) := by
  have h1 := fun nm => un_Q nm 213 s.pt s.ports ok.ports (fun nm xs h L => call213) (fun y _ nm => ported1_c nm y)
  have h2 := fun nm => every0_Port nm 111 s.pt s.hpt s.ports plain ok.ports (fun nm xs h L => call111) (fun y hy nm => plain_c nm y (ok.names y hy))
  have h3 := fun nm => named_c nm s.ports s.pt s.hpt ok.ports
  have h4 := fun nm => outer_c nm s ok
  unfold portedB
  clear ok
  generalize nodupB (s.ports.map Port.name) = b1 at *
  generalize nodupB (s.ports.map Port.pp) = b2 at *
  (rw [fn148]; sym => (simp [b148.eq_1, call109, call111, call117, call212, call213, call214, h1, h2, h3, h4, s1_rt, s1_pt, s1_al, z0, z1, z2, z5, z8, z26, z41, z44, z47, z48, z49, z50, z58, z59, z60, z62, z65, z66, z67, z68, z70, z75, z76, z77, z78, z87, z89, z90, z91, z94, z95, z97, z99, z101, z102, z110, z135, z136, z137, z138, z140, z141, z142, z143, z144, z146, z147, z152, z154, z156, z157, z162, z172, z179, z181, z289, z293, z296, z297, z301, z302, z306, z307, z309, z310, z314, z320, z321, z328, z329, z330, z332, z337, z339, z340, z341, z342, z343, z345, z346, z350, z354, z360, z369, z370, z383, z384, z387, z388, z390, z395, z396, z399, z403, z404, z405, z408, z409, z410, z411, z412, z413, z414, z415, z417, z418, z419, z422, z437, z443, z459]; try (tactic => ( (repeat' (first | (refine And.intro ?_ ?_) | (intro hq))); all_goals (first | rfl | (simp only [*, Bool.and_true, Bool.true_and, Bool.false_and, Bool.and_false, Bool.or_false, Bool.false_or, Bool.true_or, Bool.or_true, Bool.not_true, Bool.not_false]; done) | (simp_all; done) | (simp_all <;> omega) | (simp_all <;> intros <;> omega))))))
def sticksB (s : Service) : Bool := if s.sticky then decide (1 ≤ s.ticks) && decide (s.ticks ≤ 1099511627776) else decide (s.ticks = 0)
theorem sticks_c (nm : AE.Name) (s : Service) : evW C tab 149 nm [s.t] [] = some (bT (sticksB s), []) := by
  unfold sticksB
  (rw [fn149]; sym => (simp [b149.eq_1, s1_rt, s1_pt, s1_al, z0, z1, z2, z5, z8, z26, z47, z48, z58, z59, z60, z62, z65, z66, z68, z70, z75, z77, z78, z87, z89, z90, z91, z94, z95, z97, z99, z101, z102, z135, z136, z137, z138, z140, z141, z142, z143, z144, z289, z296, z309, z310, z311, z314, z315, z320, z321, z328, z329, z330, z332, z336, z337, z339, z345, z346, z350, z354, z360, z367, z369, z370, z383, z384, z387, z395, z396, z399, z403, z404, z405, z412, z413, z437, z443]; try (tactic => ( (repeat' (first | (refine And.intro ?_ ?_) | (intro hq))); all_goals (first | rfl | (simp only [*, Bool.and_true, Bool.true_and, Bool.false_and, Bool.and_false, Bool.or_false, Bool.false_or, Bool.true_or, Bool.or_true, Bool.not_true, Bool.not_false]; done) | (simp_all; done) | (simp_all <;> omega) | (simp_all <;> intros <;> omega))))))
def addrsB (x : AL) : Bool := decide ((x.l.length : Int) ≤ 3) && x.l.all addrR
def rightService (s : Service) : Bool :=
  (label s.space && label s.name) && (decide (0 ≤ s.kind) && decide (s.kind ≤ 2) && (decide (s.kind = 2) || decide ((s.balancers.l.length : Int) = 0))) && (addrsB s.cluster && addrsB s.external && addrsB s.balancers)
    && (decide ((s.ranges.length : Int) ≤ 4) && s.ranges.all cidrR) && portedB s && sticksB s
theorem rightService_c (nm : AE.Name) (s : Service) (ok : s.Ok) : evW C tab 47 nm [s.t] [] = some (bT (rightService s), []) := by
  have h1 := fun nm => key_c nm s.space s.name ok.space ok.name
  have h2 := fun nm => every0_AL nm 83 .no (by simp) [s.cluster, s.external, s.balancers] addrsB (by simp) (fun nm xs h L => call83) (fun y hy nm => addrs_c nm y (by
    simp only [List.mem_cons, List.not_mem_nil, or_false] at hy
    rcases hy with rfl | rfl | rfl
    · exact ok.cluster
    · exact ok.external
    · exact ok.balancers))
  have h3 := fun nm => every0_Cidr nm 147 s.rt s.hrt s.ranges cidrR ok.ranges (fun nm xs h L => call147) (fun y hy nm => cidrR_c nm y)
  have h4 := fun nm => ported_c nm s ok
  have h5 := fun nm => sticks_c nm s
  simp only [List.all_cons, List.all_nil, Bool.and_true, List.map_cons, List.map_nil] at h2
  unfold rightService
  clear ok
  generalize addrsB s.cluster = b1 at *
  generalize addrsB s.external = b2 at *
  generalize addrsB s.balancers = b3 at *
  generalize portedB s = b4 at *
  generalize sticksB s = b5 at *
  generalize s.ranges.all cidrR = b6 at *
  cases g1 : decide (0 ≤ s.kind) <;> cases g2 : decide (s.kind ≤ 2) <;> cases g3 : decide (s.kind = 2) <;> cases g4 : decide ((s.balancers.l.length : Int) = 0) <;> cases g5 : decide ((s.ranges.length : Int) ≤ 4)
  all_goals first
  | (exfalso; simp only [decide_eq_true_eq, decide_eq_false_iff_not] at g1 g2 g3 g4 g5; omega)
  | (rw [fn47]; sym => (simp [b47.eq_1, call83, call116, call145, call146, call147, call148, call149, h1, h2, h3, h4, h5, g1, g2, g3, g4, g5, s1_rt, s1_pt, s1_al, z0, z1, z2, z4, z5, z8, z26, z41, z44, z47, z48, z49, z50, z55, z56, z58, z59, z60, z62, z65, z66, z67, z68, z70, z75, z76, z77, z78, z81, z82, z87, z89, z90, z91, z94, z95, z97, z99, z101, z102, z110, z135, z136, z137, z138, z140, z141, z142, z143, z144, z146, z147, z152, z154, z156, z157, z158, z162, z172, z179, z181, z192, z193, z200, z201, z289, z293, z296, z297, z301, z302, z306, z307, z309, z310, z314, z320, z321, z328, z329, z330, z331, z332, z334, z335, z337, z339, z340, z341, z342, z343, z345, z346, z350, z354, z358, z359, z360, z369, z370, z383, z384, z387, z388, z390, z395, z396, z399, z403, z404, z405, z408, z409, z410, z411, z412, z413, z414, z415, z417, z418, z419, z420, z421, z422, z424, z425, z430, z437, z443, z459]; try (tactic => ( (repeat' (first | (refine And.intro ?_ ?_) | (intro hq))); all_goals (first | rfl | (simp only [*, Bool.and_true, Bool.true_and, Bool.false_and, Bool.and_false, Bool.or_false, Bool.false_or, Bool.true_or, Bool.or_true, Bool.not_true, Bool.not_false]; done) | (simp_all; done) | (simp_all <;> omega) | (simp_all <;> intros <;> omega))))))
end Go.AE.W
