import Derived.Test.YtohbipkmfhmibaaGreatDoorK7
/-! K8: slices, nodes, events. -/
set_option linter.unusedVariables false
set_option linter.unusedSimpArgs false
set_option maxHeartbeats 1000000
set_option maxRecDepth 100000
namespace Go.AE.W
open Go.RowKit Go.LB
structure Slice where
  (space name service : List UInt8)
  six : Bool
  ports : List Port
  pt : AE.Tag
  hpt : ∀ n k, pt ≠ .own n k
  ends : List Endpoint
  et : AE.Tag
  het : ∀ n k, et ≠ .own n k
abbrev Slice.c (x : Slice) : List T := [tx x.space, tx x.name, tx x.service, bT x.six, .sl (x.ports.map Port.t) x.pt, .sl (x.ends.map Endpoint.t) x.et]
abbrev Slice.t (x : Slice) : T := .agg x.c
structure Endpoint.Ok (x : Endpoint) : Prop where
  node : x.node.length ≤ 1000000000000
  zones : x.zones.length ≤ 1000000000000
  zone : ∀ z ∈ x.zones, z.length ≤ 1000000000000
structure Slice.Ok (x : Slice) : Prop where
  space : x.space.length ≤ 1000000000000
  name : x.name.length ≤ 1000000000000
  service : x.service.length ≤ 1000000000000
  ports : x.ports.length ≤ 1000000000000
  names : ∀ p ∈ x.ports, p.name.length ≤ 1000000000000
  ends : x.ends.length ≤ 1000000000000
  each : ∀ e ∈ x.ends, e.Ok
theorem s1_spt (x : Slice) (l : List T) : strip1 (.sl l x.pt) = .sl l x.pt := by have := x.hpt; cases h : x.pt <;> simp_all [strip1]
theorem s1_set (x : Slice) (l : List T) : strip1 (.sl l x.et) = .sl l x.et := by have := x.het; cases h : x.et <;> simp_all [strip1]
def endB (s : Slice) (e : Endpoint) : Bool := addrR e.a && (e.a.six == s.six) && (decide (e.node = []) || label e.node) && zonedB e.zones
theorem ptr1_sli (s : Slice) : (Slice.c s).flatMap ptr1 = [] := by simp [ptr1, ptr0]
theorem rs2_c (nm m : AE.Name) (hm : nm.isPrefixOf m = false) (s : Slice) (e : Endpoint) (ok : e.Ok) : evW C tab 113 nm [e.t, .ptr m 0] [[(m, .box s.c)]] = some (bT (endB s e), [[(m, .box s.c)]]) := by
  have m1 := npre_ne hm
  have m2 := npre_ne' hm
  have h1 := fun nm => addrR_c nm e.a
  have h2 := fun nm => maybe_c nm e.node ok.node
  have h3 := fun nm => zoned_c nm e.zones e.zt e.hz ok.zones ok.zone
  clear ok
  unfold endB
  have tk : ∀ a b c d f : T, (e.a.b.map encB ++ [a, b, c, d, f]).take 16 = e.a.b.map encB := fun a b c d f => by
    have := take17 e.a [a, b, c, d, f] 0
    simpa using this
  have g16 : ∀ a b c d f : T, (e.a.b.map encB ++ [a, b, c, d, f])[16]? = some a := fun a b c d f => by
    rw [List.getElem?_append_right (by simp [e.a.hb])]; simp [e.a.hb]
  have g20 : ∀ a b c d f : T, (e.a.b.map encB ++ [a, b, c, d, f])[20]? = some f := fun a b c d f => by
    rw [List.getElem?_append_right (by simp [e.a.hb])]; simp [e.a.hb]
  (rw [fn113]; sym => (simp [b113.eq_1, call82, call114, call115, m1, m2, hm, h1, h2, h3, tk, g16, g20, hb16, take17e, ptr0_encB, ptr1_encB, strip_encB, len_app, fm_app, map_app, s1_ez, s1_spt, s1_set, z0, z1, z2, z5, z9, z26, z44, z47, z48, z49, z50, z58, z59, z60, z62, z65, z66, z67, z68, z70, z75, z76, z77, z78, z87, z89, z90, z92, z94, z95, z97, z99, z101, z102, z135, z136, z137, z138, z140, z141, z142, z143, z144, z146, z147, z162, z172, z173, z181, z289, z296, z309, z310, z314, z320, z321, z328, z329, z330, z332, z337, z339, z340, z345, z346, z350, z354, z360, z369, z370, z383, z384, z387, z388, z395, z396, z399, z403, z404, z405, z410, z411, z412, z413, z414, z415, z417, z418, z459]; try (tactic => ( (repeat' (first | (refine And.intro ?_ ?_) | (intro hq))); all_goals (first | rfl | (simp only [*, Bool.and_true, Bool.true_and, Bool.false_and, Bool.and_false, Bool.or_false, Bool.false_or, Bool.true_or, Bool.or_true, Bool.not_true, Bool.not_false]; done) | (simp_all; done) | (simp_all <;> omega) | (simp_all <;> intros <;> omega))))))
def rightSlice (s : Slice) : Bool := (label s.space && label s.name) && label s.service && (s.ports.all fun p => plain p && decide (p.outer = 0)) && (decide ((s.ports.length : Int) ≤ 4) && nodupB (s.ports.map Port.name)) && decide ((s.ends.length : Int) ≤ 8) && s.ends.all (endB s)
theorem rightSlice_c (nm : AE.Name) (s : Slice) (ok : s.Ok) : evW C tab 37 nm [s.t] [] = some (bT (rightSlice s), []) := by
  have h1 := fun nm => key_c nm s.space s.name ok.space ok.name
  have h2 := fun nm => label_c nm s.service ok.service
  have h3 := fun nm => every0_Port nm 110 s.pt s.hpt s.ports _ ok.ports (fun nm xs h L => call110) (fun y hy nm => rs1_c nm y (ok.names y hy))
  have h4 := fun nm => named_c nm s.ports s.pt s.hpt ok.ports
  have h5 := every1_Endpoint (nm ++ [2, 3]) (nm ++ [0, 0]) s.c (ptr1_sli s) (by simp [nm_pre1, List.isPrefixOf]) 113 s.et s.het s.ends _ ok.ends (fun nm xs h L => call113) (fun y hy nm' hm => rs2_c nm' _ hm s y (ok.each y hy))
  unfold rightSlice
  clear ok
  generalize (s.ports.all fun p => plain p && decide (p.outer = 0)) = b1 at *
  generalize nodupB (s.ports.map Port.name) = b2 at *
  generalize s.ends.all (endB s) = b3 at *
  (rw [fn37]; sym => (simp [b37.eq_1, call81, call109, call110, call112, call113, call116, call117, h1, h2, h3, h4, h5, s1_spt, s1_set, z0, z1, z2, z5, z8, z20, z26, z41, z44, z47, z48, z49, z50, z58, z59, z60, z62, z65, z66, z67, z68, z70, z72, z74, z75, z76, z77, z78, z87, z89, z90, z91, z94, z95, z97, z99, z101, z102, z110, z135, z136, z137, z138, z140, z141, z142, z143, z144, z146, z147, z152, z153, z154, z155, z156, z157, z162, z172, z173, z179, z181, z289, z293, z294, z295, z296, z297, z298, z300, z301, z302, z303, z304, z306, z307, z309, z310, z314, z320, z321, z328, z329, z330, z332, z337, z339, z340, z341, z342, z343, z345, z346, z350, z354, z358, z360, z369, z370, z383, z384, z387, z388, z389, z390, z395, z396, z399, z403, z404, z405, z406, z407, z408, z409, z410, z411, z412, z413, z414, z415, z417, z418, z419, z422, z423, z431, z437, z441, z443, z459]; try (tactic => ( (repeat' (first | (refine And.intro ?_ ?_) | (intro hq))); all_goals (first | rfl | (simp only [*, Bool.and_true, Bool.true_and, Bool.false_and, Bool.and_false, Bool.or_false, Bool.false_or, Bool.true_or, Bool.or_true, Bool.not_true, Bool.not_false]; done) | (simp_all; done) | (simp_all <;> omega) | (simp_all <;> intros <;> omega))))))
structure Node where
  (name zone : List UInt8)
  addrs : AL
abbrev Node.c (x : Node) : List T := [tx x.name, tx x.zone, AL.t' x.addrs]
abbrev Node.t (x : Node) : T := .agg x.c
structure Node.Ok (x : Node) : Prop where
  name : x.name.length ≤ 1000000000000
  zone : x.zone.length ≤ 1000000000000
  addrs : x.addrs.l.length ≤ 1000000000000
def rightNode (n : Node) : Bool := label n.name && (decide (n.zone = []) || label n.zone) && addrsB n.addrs
theorem rightNode_c (nm : AE.Name) (n : Node) (ok : n.Ok) : evW C tab 23 nm [n.t] [] = some (bT (rightNode n), []) := by
  have h1 := fun nm => label_c nm n.name ok.name
  have h2 := fun nm => maybe_c nm n.zone ok.zone
  have h3 := fun nm => addrs_c nm n.addrs ok.addrs
  clear ok
  unfold rightNode addrsB
  (rw [fn23]; sym => (simp [b23.eq_1, call81, call82, call83, h1, h2, h3, s1_al, z0, z1, z2, z5, z26, z44, z47, z48, z49, z50, z58, z59, z60, z62, z65, z66, z68, z70, z75, z77, z78, z87, z89, z90, z91, z94, z95, z97, z101, z102, z135, z136, z137, z138, z140, z141, z142, z143, z144, z146, z147, z172, z173, z289, z296, z309, z310, z314, z320, z321, z328, z329, z330, z332, z337, z339, z340, z345, z346, z350, z354, z360, z369, z370, z383, z384, z387, z395, z396, z399, z403, z404, z405, z412, z413, z414, z415, z443]; try (tactic => ( (repeat' (first | (refine And.intro ?_ ?_) | (intro hq))); all_goals (first | rfl | (simp only [*, Bool.and_true, Bool.true_and, Bool.false_and, Bool.and_false, Bool.or_false, Bool.false_or, Bool.true_or, Bool.or_true, Bool.not_true, Bool.not_false]; done) | (simp_all; done) | (simp_all <;> omega) | (simp_all <;> intros <;> omega))))))
structure Event where
  (kind version : Int)
  service : Service
  slice : Slice
  node : Node
  (space kname name : List UInt8)
abbrev Event.c (x : Event) : List T := [iT x.kind, iT x.version, tx x.service.space, tx x.service.name, iT x.service.kind, .sl (x.service.cluster.l.map Addr.t) x.service.cluster.t, .sl (x.service.external.l.map Addr.t) x.service.external.t, .sl (x.service.balancers.l.map Addr.t) x.service.balancers.t, .sl (x.service.ranges.map Cidr.t) x.service.rt, .sl (x.service.ports.map Port.t) x.service.pt, bT x.service.il, bT x.service.el, bT x.service.sticky, iT x.service.ticks, bT x.service.hinted,
  tx x.slice.space, tx x.slice.name, tx x.slice.service, bT x.slice.six, .sl (x.slice.ports.map Port.t) x.slice.pt, .sl (x.slice.ends.map Endpoint.t) x.slice.et, tx x.node.name, tx x.node.zone, AL.t' x.node.addrs, tx x.space, tx x.kname, tx x.name]
abbrev Event.t (x : Event) : T := .agg x.c
structure Event.Ok (x : Event) : Prop where
  service : x.service.Ok
  slice : x.slice.Ok
  node : x.node.Ok
  space : x.space.length ≤ 1000000000000
  kname : x.kname.length ≤ 1000000000000
  name : x.name.length ≤ 1000000000000
def contentB (e : Event) : Bool :=
  if e.kind = 1 then rightService e.service else if e.kind = 2 then rightSlice e.slice else if e.kind = 3 then rightNode e.node
  else if e.kind = 4 ∨ e.kind = 5 then label e.space && label e.kname else if e.kind = 6 then label e.name else true
theorem content_c (nm : AE.Name) (e : Event) (ok : e.Ok) : evW C tab 162 nm [e.t] [] = some (bT (contentB e), []) := by
  have h1 := fun nm => rightService_c nm e.service ok.service
  have h2 := fun nm => rightSlice_c nm e.slice ok.slice
  have h3 := fun nm => rightNode_c nm e.node ok.node
  have h4 := fun nm => key_c nm e.space e.kname ok.space ok.kname
  have h5 := fun nm => label_c nm e.name ok.name
  clear ok
  unfold contentB
  generalize rightService e.service = b1 at *
  generalize rightSlice e.slice = b2 at *
  generalize rightNode e.node = b3 at *
  (rw [fn162]; sym => (simp [b162.eq_1, call23, call37, call47, call81, call116, h1, h2, h3, h4, h5, s1_al, s1_rt, s1_pt, s1_spt, s1_set, z0, z2, z5, z8, z26, z44, z47, z48, z49, z50, z58, z59, z60, z62, z65, z66, z68, z70, z75, z76, z77, z78, z87, z89, z90, z91, z94, z95, z97, z99, z101, z102, z135, z136, z137, z138, z140, z141, z142, z143, z144, z146, z147, z162, z173, z181, z289, z296, z309, z310, z311, z313, z314, z315, z317, z318, z320, z321, z328, z329, z336, z337, z339, z340, z346, z347, z350, z354, z360, z367, z369, z370, z383, z384, z387, z395, z396, z399, z403, z404, z405, z410, z411, z412, z413, z414, z415, z416, z417, z418, z419, z437, z443]; try (tactic => ( (repeat' (first | (refine And.intro ?_ ?_) | (intro hq))); all_goals (first | rfl | (simp only [*, Bool.and_true, Bool.true_and, Bool.false_and, Bool.and_false, Bool.or_false, Bool.false_or, Bool.true_or, Bool.or_true, Bool.not_true, Bool.not_false]; done) | (simp_all; done) | (simp_all <;> omega) | (simp_all <;> intros <;> omega))))))
def rightEvent (e : Event) : Bool := (decide (1 ≤ e.kind) && decide (e.kind ≤ 9)) && (decide (1 ≤ e.version) && decide (e.version ≤ 1099511627776)) && contentB e
theorem rightEvent_c (nm : AE.Name) (e : Event) (ok : e.Ok) : evW C tab 57 nm [e.t] [] = some (bT (rightEvent e), []) := by
  have h := fun nm => content_c nm e ok
  clear ok
  unfold rightEvent
  generalize contentB e = b at *
  (rw [fn57]; sym => (simp [b57.eq_1, call160, call161, call162, h, known_c, versions_c, s1_al, s1_rt, s1_pt, s1_spt, s1_set, z0, z1, z2, z5, z26, z44, z47, z48, z49, z50, z58, z59, z60, z62, z65, z66, z68, z70, z75, z76, z77, z78, z87, z89, z90, z91, z94, z95, z97, z101, z102, z135, z136, z137, z138, z140, z141, z142, z143, z144, z146, z147, z162, z173, z181, z289, z296, z309, z310, z314, z320, z321, z328, z329, z330, z332, z337, z339, z340, z345, z346, z350, z354, z360, z369, z370, z383, z384, z387, z395, z396, z399, z403, z404, z405, z410, z411, z412, z413, z414, z415, z417, z418, z419, z443]; try (tactic => ( (repeat' (first | (refine And.intro ?_ ?_) | (intro hq))); all_goals (first | rfl | (simp only [*, Bool.and_true, Bool.true_and, Bool.false_and, Bool.and_false, Bool.or_false, Bool.false_or, Bool.true_or, Bool.or_true, Bool.not_true, Bool.not_false]; done) | (simp_all; done) | (simp_all <;> omega) | (simp_all <;> intros <;> omega))))))
end Go.AE.W

/-! K9: the watcher's steps. -/
set_option linter.unusedVariables false
set_option linter.unusedSimpArgs false
set_option maxHeartbeats 1000000
set_option maxRecDepth 100000
namespace Go.AE.W
open Go.RowKit Go.LB
theorem freeK_cond {nm : AE.Name} {h : AE.Heap} {L : List AE.Name} {x : Bool} {A B : Option (T × AE.Heap)} : freeK nm h L (cond x A B) = cond x (freeK nm h L A) (freeK nm h L B) := by cases x <;> rfl
def within (n m : Int) : Bool := decide (0 ≤ n) && decide (n ≤ m)
theorem within_c (nm : AE.Name) (n m : Int) : evW C tab 70 nm [iT n, iT m] [] = some (bT (within n m), []) := by
  unfold within
  (rw [fn70]; sym => (simp [b70.eq_1, z0, z1, z8, z47, z48, z58, z59, z60, z62, z77, z78, z87, z89, z90, z91, z94, z99, z135, z136, z137, z138, z140, z141, z142, z143, z144, z289, z296, z309, z310, z314, z320, z321, z328, z329, z330, z332, z337, z339, z345, z346, z350, z354, z360, z369, z370, z383, z384, z399, z403, z404, z412, z413, z437, z443]; try (tactic => ((repeat' (first | (refine And.intro ?_ ?_) | (intro hq))); all_goals (first | rfl | (simp only [*, Bool.and_true, Bool.true_and, Bool.false_and, Bool.and_false, Bool.or_false, Bool.false_or, Bool.true_or, Bool.or_true, Bool.not_true, Bool.not_false]; done) | (simp_all; done) | (simp_all <;> omega) | (simp_all <;> intros <;> omega))))))
structure Watcher where
  (s v f u : Int)
  deriving DecidableEq
abbrev wT (s v f u : Int) : T := .agg [iT s, iT v, iT f, iT u]
def WRight (s v f u : Int) : Bool :=
  (within s 3 && within v 1099511627776 && within f 30 && within u 1099511627840) && (bif decide (s = 0) then decide (v = 0) && (decide (f = 0) && decide (u = 0)) else bif decide (s = 1) then decide (u = 0) else bif decide (s = 2) then decide (u = 0) && decide (0 < v) else decide (0 < f))
theorem wright_c (nm : AE.Name) (s v f u : Int) : evW C tab 12 nm [wT s v f u] [] = some (bT (WRight s v f u), []) := by
  (rw [fn12]; sym => (simp [b12.eq_1, call70, within_c, z0, z1, z2, z3, z5, z8, z10, z26, z44, z47, z48, z49, z50, z53, z58, z59, z60, z62, z65, z66, z68, z70, z75, z76, z77, z78, z79, z87, z89, z90, z91, z94, z95, z97, z99, z101, z102, z130, z133, z135, z136, z137, z138, z140, z141, z142, z143, z144, z146, z147, z173, z289, z296, z309, z310, z311, z313, z314, z315, z317, z318, z320, z321, z328, z329, z330, z332, z336, z337, z339, z340, z345, z346, z347, z350, z354, z357, z358, z360, z362, z363, z367, z369, z370, z383, z384, z387, z395, z396, z399, z403, z404, z405, z410, z411, z412, z413, z414, z415, z417, z418, z419, z430, z437, z443]; try (tactic => (unfold WRight; generalize within s 3 = a1; generalize within v 1099511627776 = a2; generalize within f 30 = a3; generalize within u 1099511627840 = a4; generalize decide (s = 0) = a5; generalize decide (s = 1) = a6; generalize decide (s = 2) = a7; generalize decide (u = 0) = a8; generalize decide (v = 0) = a9; generalize decide (f = 0) = b1; generalize decide (0 < v) = b2; generalize decide (0 < f) = b3; (repeat' (first | (refine And.intro ?_ ?_) | (intro hq))); all_goals (first | rfl | (simp_all; done))))))
abbrev er (k : Nat) : T := .ifc 295 (.gl k)
abbrev nilE : T := .v .nilIface
def mayT (r w : Bool) : T := bif r then (bif w then nilE else er 0) else er 3
theorem may_c0 (nm : AE.Name) (s v f u now : Int) : evW C tab 71 nm [wT s v f u, iT now] [] = some (mayT (WRight s v f u) (within now 1099511627776), []) := by
  unfold mayT
  generalize hr : WRight s v f u = r
  generalize hw : within now 1099511627776 = w
  (rw [fn71]; sym => (simp [b71.eq_1, call12, call70, wright_c, within_c, hr, hw, z0, z2, z5, z14, z44, z47, z48, z49, z50, z58, z59, z60, z62, z65, z66, z68, z70, z75, z76, z77, z78, z87, z89, z90, z91, z94, z95, z100, z101, z102, z135, z136, z137, z138, z140, z141, z142, z143, z144, z146, z147, z162, z173, z181, z289, z296, z309, z310, z311, z313, z314, z315, z317, z318, z320, z321, z328, z329, z336, z337, z339, z340, z346, z347, z350, z354, z360, z367, z369, z370, z383, z384, z387, z395, z399, z403, z404, z405, z410, z411, z412, z413, z414, z415, z417, z418, z419, z443]; try (tactic => ((repeat' (first | (refine And.intro ?_ ?_) | (intro hq))); all_goals (first | rfl | (simp only [*, Bool.and_true, Bool.true_and, Bool.false_and, Bool.and_false, Bool.or_false, Bool.false_or, Bool.true_or, Bool.or_true, Bool.not_true, Bool.not_false]; done) | (simp_all; done) | (simp_all <;> omega) | (simp_all <;> intros <;> omega))))))
theorem may_c (nm : AE.Name) (s v f u now : Int) : evW C tab 71 nm [wT s v f u, iT now] [] = bif WRight s v f u then (bif within now 1099511627776 then some (nilE, []) else some (er 0, [])) else some (er 3, []) := by
  rw [may_c0]
  cases WRight s v f u <;> cases within now 1099511627776 <;> rfl
theorem to_nil (nm : AE.Name) (s v f u st : Int) : evW C tab 72 nm [wT s v f u, iT st, nilE] [] = some (.tup [wT st v f 0, nilE], []) := by
  (rw [fn72]; sym => simp [b72.eq_1, z0, z2, z5, z6, z12, z26, z47, z48, z58, z59, z60, z61, z62, z65, z66, z68, z70, z72, z74, z76, z77, z78, z83, z84, z87, z88, z89, z90, z91, z94, z95, z96, z97, z101, z102, z130, z131, z135, z136, z137, z138, z139, z140, z141, z142, z143, z144, z162, z289, z296, z309, z310, z311, z314, z320, z321, z328, z329, z336, z337, z339, z360, z367, z369, z370, z371, z374, z383, z384, z387, z389, z399, z402, z403, z404, z405, z408, z409, z410, z411, z412, z413, z414, z415, z417, z418, z419, z420, z421, z428, z430, z443])
theorem to_err (nm : AE.Name) (s v f u st : Int) (k : Nat) : evW C tab 72 nm [wT s v f u, iT st, er k] [] = some (.tup [wT s v f u, er k], []) := by
  (rw [fn72]; sym => simp [b72.eq_1, z0, z2, z5, z6, z12, z47, z48, z58, z59, z60, z61, z62, z65, z66, z68, z70, z72, z74, z76, z77, z78, z83, z84, z87, z88, z89, z90, z91, z94, z95, z96, z101, z102, z130, z131, z135, z136, z137, z138, z139, z140, z141, z142, z143, z144, z162, z289, z296, z309, z310, z311, z314, z315, z320, z321, z328, z329, z336, z337, z339, z360, z369, z370, z371, z374, z383, z384, z387, z389, z399, z403, z404, z405, z408, z409, z410, z411, z412, z413, z414, z415, z417, z418, z419, z420, z421, z428, z430, z443])
theorem in_nil0 (nm : AE.Name) (s v f u a b : Int) : evW C tab 172 nm [wT s v f u, nilE, iT a, iT b] [] = some (bif decide (s = a) || decide (s = b) then nilE else er 14, []) := by
  (rw [fn172]; sym => (simp [b172.eq_1, z0, z1, z2, z5, z8, z12, z26, z47, z48, z58, z59, z60, z62, z65, z66, z68, z70, z75, z77, z78, z87, z89, z90, z91, z94, z95, z97, z99, z101, z102, z130, z131, z135, z136, z137, z138, z140, z141, z142, z143, z144, z289, z296, z309, z310, z311, z314, z315, z320, z321, z328, z329, z330, z332, z336, z337, z339, z345, z346, z350, z354, z360, z367, z369, z370, z383, z384, z387, z395, z399, z403, z404, z405, z412, z413, z437, z443]; try (tactic => ( (repeat' (first | (refine And.intro ?_ ?_) | (intro hq))); all_goals (first | rfl | (simp only [*, Bool.and_true, Bool.true_and, Bool.false_and, Bool.and_false, Bool.or_false, Bool.false_or, Bool.true_or, Bool.or_true, Bool.not_true, Bool.not_false]; done) | (simp_all; done) | (simp_all <;> omega) | (simp_all <;> intros <;> omega))))))
theorem in_nil (nm : AE.Name) (s v f u a b : Int) : evW C tab 172 nm [wT s v f u, nilE, iT a, iT b] [] = bif decide (s = a) || decide (s = b) then some (nilE, []) else some (er 14, []) := by
  rw [in_nil0]
  cases decide (s = a) <;> cases decide (s = b) <;> rfl
theorem in_err (nm : AE.Name) (s v f u a b : Int) (k : Nat) : evW C tab 172 nm [wT s v f u, er k, iT a, iT b] [] = some (er k, []) := by
  (rw [fn172]; sym => simp [b172.eq_1, z0, z1, z2, z12, z47, z48, z58, z59, z60, z62, z70, z77, z78, z87, z89, z90, z91, z94, z101, z102, z130, z131, z135, z136, z137, z138, z140, z141, z142, z143, z144, z289, z296, z309, z310, z311, z314, z320, z321, z328, z329, z330, z332, z336, z337, z339, z360, z367, z369, z370, z383, z384, z399, z403, z404, z405, z412, z413, z443])

/-- A Watcher behind a step, and the error. -/
structure Out where
  (s v f u : Int)
  e : Option Nat
  deriving DecidableEq
def eT : Option Nat → T
  | none => nilE
  | some k => er k
abbrev Out.t (o : Out) : T := .tup [wT o.s o.v o.f o.u, eT o.e]
def gate (s v f u now : Int) (o : Out) : Out := bif WRight s v f u then (bif within now 1099511627776 then o else ⟨s, v, f, u, some 0⟩) else ⟨s, v, f, u, some 3⟩
def startO (s v f u now : Int) : Out := gate s v f u now (bif decide (s = 0) then ⟨1, v, f, 0, none⟩ else ⟨s, v, f, u, some 14⟩)
def stopO (s v f u now : Int) : Out := gate s v f u now ⟨0, 0, 0, 0, none⟩
def goneO (s v f u now : Int) : Out := gate s v f u now (bif decide (s = 2) then ⟨1, 0, f, 0, none⟩ else ⟨s, v, f, u, some 14⟩)
theorem start_c (nm : AE.Name) (s v f u now : Int) : evW C tab 64 nm [wT s v f u, iT now] [] = some ((startO s v f u now).t, []) := by
  unfold startO gate
  generalize hr : WRight s v f u = r
  generalize hw : within now 1099511627776 = w
  (rw [fn64]; sym => (simp [b64.eq_1, call71, call72, call172, freeK_cond, hr, hw, may_c, in_nil, in_err, to_nil, to_err, z0, z2, z5, z6, z38, z44, z47, z48, z49, z50, z58, z59, z60, z61, z62, z65, z66, z68, z70, z72, z74, z76, z77, z78, z83, z84, z87, z88, z89, z90, z91, z94, z95, z96, z101, z102, z135, z136, z137, z138, z139, z140, z141, z142, z143, z144, z146, z147, z162, z173, z180, z181, z289, z296, z309, z310, z314, z320, z321, z328, z329, z337, z339, z340, z345, z346, z350, z351, z354, z360, z369, z370, z371, z374, z383, z384, z387, z389, z395, z396, z399, z403, z404, z405, z408, z409, z410, z411, z412, z413, z414, z415, z417, z418, z419, z420, z421, z428, z430, z443]; try (tactic => ( cases r <;> cases w <;> cases hs : decide (s = 0) <;> simp_all [Out.t, eT]))))
theorem stop_c (nm : AE.Name) (s v f u now : Int) : evW C tab 69 nm [wT s v f u, iT now] [] = some ((stopO s v f u now).t, []) := by
  unfold stopO gate
  generalize hr : WRight s v f u = r
  generalize hw : within now 1099511627776 = w
  (rw [fn69]; sym => (simp [b69.eq_1, call71, freeK_cond, hr, hw, may_c, in_nil, in_err, to_nil, to_err, z0, z2, z3, z5, z6, z12, z44, z47, z48, z49, z50, z53, z58, z59, z60, z61, z62, z65, z66, z68, z70, z72, z74, z76, z77, z78, z79, z83, z84, z87, z88, z89, z90, z91, z94, z95, z96, z101, z102, z130, z131, z135, z136, z137, z138, z139, z140, z141, z142, z143, z144, z146, z147, z162, z173, z181, z289, z296, z309, z310, z311, z314, z315, z320, z321, z328, z329, z336, z337, z339, z340, z345, z346, z350, z351, z354, z360, z367, z369, z370, z371, z374, z383, z384, z387, z389, z399, z402, z403, z404, z405, z408, z409, z410, z411, z412, z413, z414, z415, z417, z418, z419, z420, z421, z428, z430, z443]; try (tactic => ( cases r <;> cases w <;> simp_all [Out.t, eT]))))
theorem gone_c (nm : AE.Name) (s v f u now : Int) : evW C tab 68 nm [wT s v f u, iT now] [] = some ((goneO s v f u now).t, []) := by
  unfold goneO gate
  generalize hr : WRight s v f u = r
  generalize hw : within now 1099511627776 = w
  (rw [fn68]; sym => (simp [b68.eq_1, call71, call72, call172, freeK_cond, hr, hw, may_c, in_nil, in_err, to_nil, to_err, z0, z2, z5, z6, z12, z26, z38, z44, z47, z48, z49, z50, z58, z59, z60, z61, z62, z65, z66, z68, z70, z72, z74, z76, z77, z78, z83, z84, z87, z88, z89, z90, z91, z94, z95, z96, z97, z101, z102, z130, z131, z135, z136, z137, z138, z139, z140, z141, z142, z143, z144, z146, z147, z162, z173, z180, z181, z289, z296, z309, z310, z311, z314, z320, z321, z328, z329, z336, z337, z339, z340, z345, z346, z350, z351, z354, z360, z367, z369, z370, z371, z374, z383, z384, z387, z389, z395, z396, z399, z403, z404, z405, z408, z409, z410, z411, z412, z413, z414, z415, z417, z418, z419, z420, z421, z428, z429, z430, z443]; try (tactic => ( cases r <;> cases w <;> cases hs : decide (s = 2) <;> simp_all [Out.t, eT]))))

def delay (n : Int) : Int := if n < 1 then 0 else min (2 ^ (min (n - 1) 30).toNat) 64
theorem delay_c (nm : AE.Name) (n : Int) (h0 : 0 ≤ n) (h1 : n ≤ 30) : evW C tab 173 nm [iT n] [] = some (iT (delay n), []) := by
  have e : n = 0 ∨ n = 1 ∨ n = 2 ∨ n = 3 ∨ n = 4 ∨ n = 5 ∨ n = 6 ∨ n = 7 ∨ n = 8 ∨ n = 9 ∨ n = 10 ∨ n = 11 ∨ n = 12 ∨ n = 13 ∨ n = 14 ∨ n = 15 ∨ n = 16 ∨ n = 17 ∨ n = 18 ∨ n = 19 ∨ n = 20 ∨ n = 21 ∨ n = 22 ∨ n = 23 ∨ n = 24 ∨ n = 25 ∨ n = 26 ∨ n = 27 ∨ n = 28 ∨ n = 29 ∨ n = 30 := by omega
  rcases e with rfl|rfl|rfl|rfl|rfl|rfl|rfl|rfl|rfl|rfl|rfl|rfl|rfl|rfl|rfl|rfl|rfl|rfl|rfl|rfl|rfl|rfl|rfl|rfl|rfl|rfl|rfl|rfl|rfl|rfl|rfl <;> exact evW_iff.2 ⟨40, by kernel_rfl⟩

theorem delay_le (n : Int) : delay n ≤ 64 ∧ 0 ≤ delay n := by
  unfold delay
  split
  · omega
  · have : (0 : Int) < 2 ^ (min (n - 1) 30).toNat := Int.pow_pos (by omega)
    omega
theorem mnI_min (a b : Int) : mnI a b = min a b := by
  unfold mnI; first | rfl | (split <;> omega)
def failO (s v f u now : Int) : Out := gate s v f u now (bif decide (s = 1) || decide (s = 2) then ⟨3, v, mnI (f + 1) 30, now + delay (mnI (f + 1) 30), none⟩ else ⟨s, v, f, u, some 14⟩)
theorem fail_c (nm : AE.Name) (s v f u now : Int) : evW C tab 65 nm [wT s v f u, iT now] [] = some ((failO s v f u now).t, []) := by
  cases hr : WRight s v f u
  · unfold failO gate
    rw [hr]
    (rw [fn65]; sym => (simp [b65.eq_1, call71, call72, call172, call173, freeK_cond, hr, may_c, in_nil, in_err, to_nil, to_err, z0, z2, z5, z6, z8, z12, z26, z38, z43, z44, z47, z48, z49, z50, z58, z59, z60, z61, z62, z65, z66, z68, z70, z72, z74, z75, z76, z77, z78, z83, z84, z87, z88, z89, z90, z91, z94, z95, z96, z97, z99, z101, z102, z130, z131, z135, z136, z137, z138, z139, z140, z141, z142, z143, z144, z146, z147, z162, z173, z180, z181, z203, z204, z205, z289, z296, z309, z310, z311, z314, z320, z321, z328, z329, z336, z337, z339, z340, z345, z346, z350, z351, z354, z360, z367, z369, z370, z371, z374, z383, z384, z387, z389, z395, z396, z399, z403, z404, z405, z408, z409, z410, z411, z412, z413, z414, z415, z417, z418, z419, z420, z421, z428, z429, z430, z437, z443]; try (tactic => ( rfl))))
  · cases hw : within now 1099511627776
    · unfold failO gate
      rw [hr, hw]
      (rw [fn65]; sym => (simp [b65.eq_1, call71, call72, call172, call173, freeK_cond, hr, hw, may_c, in_nil, in_err, to_nil, to_err, z0, z2, z5, z6, z8, z12, z26, z38, z43, z44, z47, z48, z49, z50, z58, z59, z60, z61, z62, z65, z66, z68, z70, z72, z74, z75, z76, z77, z78, z83, z84, z87, z88, z89, z90, z91, z94, z95, z96, z97, z99, z101, z102, z130, z131, z135, z136, z137, z138, z139, z140, z141, z142, z143, z144, z146, z147, z162, z173, z180, z181, z203, z204, z205, z289, z296, z309, z310, z311, z314, z320, z321, z328, z329, z336, z337, z339, z340, z345, z346, z350, z351, z354, z360, z367, z369, z370, z371, z374, z383, z384, z387, z389, z395, z396, z399, z403, z404, z405, z408, z409, z410, z411, z412, z413, z414, z415, z417, z418, z419, z420, z421, z428, z429, z430, z437, z443]; try (tactic => ( rfl))))
    · have hf : 0 ≤ f ∧ f ≤ 30 := by
        unfold WRight within at hr; simp at hr; omega
      have hn : 0 ≤ now ∧ now ≤ 1099511627776 := by
        unfold within at hw; simpa using hw
      have w1 : IntKind.i64.wrap (f + 1) = f + 1 := wrap_i64 (by omega) (by omega)
      have hm := mnI_min (f + 1) 30
      have h1 := fun nm => delay_c nm (mnI (f + 1) 30) (by omega) (by omega)
      have hd := delay_le (mnI (f + 1) 30)
      have w2 : IntKind.i64.wrap (now + delay (mnI (f + 1) 30)) = now + delay (mnI (f + 1) 30) := wrap_i64 (by omega) (by omega)
      unfold failO gate
      rw [hr, hw]
      generalize delay (mnI (f + 1) 30) = d at *
      clear hm
      (rw [fn65]; sym => (simp [b65.eq_1, call71, call72, call172, call173, freeK_cond, hr, hw, may_c, in_nil, in_err, to_nil, to_err, w1, w2, h1, z0, z2, z5, z6, z8, z12, z26, z38, z43, z44, z47, z48, z49, z50, z58, z59, z60, z61, z62, z65, z66, z68, z70, z72, z74, z75, z76, z77, z78, z83, z84, z87, z88, z89, z90, z91, z94, z95, z96, z97, z99, z101, z102, z130, z131, z135, z136, z137, z138, z139, z140, z141, z142, z143, z144, z146, z147, z162, z173, z180, z181, z203, z204, z205, z289, z296, z309, z310, z311, z314, z320, z321, z328, z329, z336, z337, z339, z340, z345, z346, z350, z351, z354, z360, z367, z369, z370, z371, z374, z383, z384, z387, z389, z395, z396, z399, z403, z404, z405, z408, z409, z410, z411, z412, z413, z414, z415, z417, z418, z419, z420, z421, z428, z429, z430, z437, z443]; try (tactic => ( cases decide (s = 1) <;> cases decide (s = 2) <;> simp_all [eT] ))))
end Go.AE.W

/-! K10: the watcher's steps, second part; all acts. -/
set_option linter.unusedVariables false
set_option linter.unusedSimpArgs false
set_option maxHeartbeats 1000000
set_option maxRecDepth 100000
namespace Go.AE.W
open Go.RowKit Go.LB
def tickO (s v f u now : Int) : Out := gate s v f u now (bif !decide (s = 3) || decide (now < u) then ⟨s, v, f, u, none⟩ else bif decide (0 < v) then ⟨2, v, f, 0, none⟩ else ⟨1, v, f, 0, none⟩)
theorem tick_c (nm : AE.Name) (s v f u now : Int) : evW C tab 13 nm [wT s v f u, iT now] [] = some ((tickO s v f u now).t, []) := by
  unfold tickO gate
  generalize hr : WRight s v f u = r
  generalize hw : within now 1099511627776 = w
  (rw [fn13]; sym => (simp [b13.eq_1, call71, call72, freeK_cond, hr, hw, may_c, in_nil, in_err, to_nil, to_err, z0, z1, z2, z5, z6, z8, z12, z26, z38, z44, z47, z48, z49, z50, z58, z59, z60, z61, z62, z65, z66, z68, z70, z72, z74, z75, z76, z77, z78, z83, z84, z87, z88, z89, z90, z91, z94, z95, z96, z97, z99, z101, z102, z130, z131, z135, z136, z137, z138, z139, z140, z141, z142, z143, z144, z146, z147, z162, z173, z181, z289, z296, z309, z310, z311, z313, z314, z315, z317, z318, z320, z321, z328, z329, z331, z334, z336, z337, z339, z340, z345, z346, z347, z350, z351, z354, z360, z367, z369, z370, z371, z374, z383, z384, z387, z389, z395, z396, z399, z402, z403, z404, z405, z408, z409, z410, z411, z412, z413, z414, z415, z417, z418, z419, z420, z421, z428, z430, z437, z443]; try (tactic => ( cases r <;> cases w <;> cases hs : decide (s = 3) <;> cases hu : decide (now < u) <;> cases hv : decide (0 < v) <;> simp_all [Out.t, eT]))))
def listedO (s v f u k ver : Int) : Out := bif decide (k = 8) || (decide (k = 1) || (decide (k = 2) || decide (k = 3))) then ⟨s, v, f, u, none⟩ else bif decide (k = 9) then ⟨2, ver, 0, 0, none⟩ else ⟨s, v, f, u, some 14⟩
theorem listed_c (nm : AE.Name) (s v f u : Int) (e : Event) : evW C tab 174 nm [wT s v f u, e.t] [] = some ((listedO s v f u e.kind e.version).t, []) := by
  unfold listedO
  (rw [fn174]; sym => (simp [b174.eq_1, s1_al, s1_rt, s1_pt, s1_spt, s1_set, z0, z2, z3, z5, z6, z8, z26, z47, z48, z53, z54, z58, z59, z60, z61, z62, z65, z66, z68, z70, z72, z74, z75, z76, z77, z78, z79, z80, z83, z84, z87, z88, z89, z90, z91, z94, z95, z96, z97, z99, z101, z102, z135, z136, z137, z138, z139, z140, z141, z142, z143, z144, z162, z289, z296, z309, z310, z311, z313, z314, z315, z317, z318, z320, z321, z328, z329, z336, z337, z339, z346, z347, z350, z354, z360, z367, z369, z370, z371, z374, z383, z384, z387, z389, z395, z396, z399, z403, z404, z405, z408, z409, z410, z411, z412, z413, z414, z415, z417, z418, z419, z420, z421, z428, z430, z437, z443]; try (tactic => ( cases h1 : decide (e.kind = 8) <;> cases h2 : decide (e.kind = 1) <;> cases h3 : decide (e.kind = 2) <;> cases h4 : decide (e.kind = 3) <;> cases h5 : decide (e.kind = 9) <;> simp_all [Out.t, eT]))))
def watchedO (s v f u k ver : Int) : Out := bif decide (k = 8) then ⟨1, v, f, 0, none⟩ else bif decide (k = 9) then ⟨s, v, f, u, some 14⟩ else bif decide (ver ≤ v) then ⟨s, v, f, u, some 9⟩ else ⟨s, ver, f, u, none⟩
theorem watched_c (nm : AE.Name) (s v f u : Int) (e : Event) : evW C tab 175 nm [wT s v f u, e.t] [] = some ((watchedO s v f u e.kind e.version).t, []) := by
  unfold watchedO
  (rw [fn175]; sym => (simp [b175.eq_1, call72, to_nil, s1_al, s1_rt, s1_pt, s1_spt, s1_set, z0, z2, z5, z6, z8, z26, z38, z44, z47, z48, z49, z50, z58, z59, z60, z61, z62, z65, z66, z68, z70, z72, z74, z75, z76, z77, z78, z83, z84, z87, z88, z89, z90, z91, z94, z95, z96, z97, z99, z101, z102, z135, z136, z137, z138, z139, z140, z141, z142, z143, z144, z146, z147, z162, z173, z181, z289, z296, z309, z310, z311, z313, z314, z315, z317, z318, z320, z321, z328, z329, z336, z337, z339, z340, z346, z347, z350, z354, z360, z367, z369, z370, z371, z374, z383, z384, z387, z389, z395, z396, z399, z403, z404, z405, z408, z409, z410, z411, z412, z413, z414, z415, z417, z418, z419, z420, z421, z428, z430, z437, z443]; try (tactic => ( cases h1 : decide (e.kind = 8) <;> cases h2 : decide (e.kind = 9) <;> cases h3 : decide (e.version ≤ v) <;> simp_all [Out.t, eT]))))
def eventO (s v f u now : Int) (r : Bool) (k ver : Int) : Out := gate s v f u now (bif r then (bif decide (s = 1) then listedO s v f u k ver else bif decide (s = 2) then watchedO s v f u k ver else ⟨s, v, f, u, some 14⟩) else ⟨s, v, f, u, some 3⟩)
theorem event_c (nm : AE.Name) (s v f u now : Int) (e : Event) (ok : e.Ok) : evW C tab 67 nm [wT s v f u, e.t, iT now] [] = some ((eventO s v f u now (rightEvent e) e.kind e.version).t, []) := by
  have he := fun nm => rightEvent_c nm e ok
  have h1 := fun nm => listed_c nm s v f u e
  have h2 := fun nm => watched_c nm s v f u e
  clear ok
  unfold eventO gate
  generalize hr : WRight s v f u = r
  generalize hw : within now 1099511627776 = w
  generalize rightEvent e = b at *
  generalize listedO s v f u e.kind e.version = o1 at *
  generalize watchedO s v f u e.kind e.version = o2 at *
  cases r
  · (rw [fn67]; sym => (simp [b67.eq_1, call57, call71, call174, call175, freeK_cond, hr, hw, may_c, s1_al, s1_rt, s1_pt, s1_spt, s1_set, z0, z2, z5, z6, z8, z12, z14, z26, z38, z44, z47, z48, z49, z50, z58, z59, z60, z61, z62, z65, z66, z68, z70, z72, z74, z75, z76, z77, z78, z83, z84, z87, z88, z89, z90, z91, z94, z95, z96, z97, z99, z100, z101, z102, z130, z131, z135, z136, z137, z138, z139, z140, z141, z142, z143, z144, z146, z147, z162, z173, z181, z289, z296, z309, z310, z311, z313, z314, z315, z317, z318, z320, z321, z328, z329, z336, z337, z339, z340, z360, z367, z369, z370, z371, z374, z383, z384, z387, z389, z395, z396, z399, z402, z403, z404, z405, z408, z409, z410, z411, z412, z413, z414, z415, z417, z418, z419, z420, z421, z428, z430, z437, z443]; try (tactic => ( rfl))))
  cases w
  · (rw [fn67]; sym => (simp [b67.eq_1, call57, call71, call174, call175, freeK_cond, hr, hw, may_c, s1_al, s1_rt, s1_pt, s1_spt, s1_set, z0, z2, z5, z6, z8, z12, z14, z26, z38, z44, z47, z48, z49, z50, z58, z59, z60, z61, z62, z65, z66, z68, z70, z72, z74, z75, z76, z77, z78, z83, z84, z87, z88, z89, z90, z91, z94, z95, z96, z97, z99, z100, z101, z102, z130, z131, z135, z136, z137, z138, z139, z140, z141, z142, z143, z144, z146, z147, z162, z173, z181, z289, z296, z309, z310, z311, z313, z314, z315, z317, z318, z320, z321, z328, z329, z336, z337, z339, z340, z360, z367, z369, z370, z371, z374, z383, z384, z387, z389, z395, z396, z399, z402, z403, z404, z405, z408, z409, z410, z411, z412, z413, z414, z415, z417, z418, z419, z420, z421, z428, z430, z437, z443]; try (tactic => ( rfl))))
  cases b
  · (rw [fn67]; sym => (simp [b67.eq_1, call57, call71, call174, call175, freeK_cond, hr, hw, may_c, he, s1_al, s1_rt, s1_pt, s1_spt, s1_set, z0, z2, z5, z6, z8, z12, z14, z26, z38, z44, z47, z48, z49, z50, z58, z59, z60, z61, z62, z65, z66, z68, z70, z72, z74, z75, z76, z77, z78, z83, z84, z87, z88, z89, z90, z91, z94, z95, z96, z97, z99, z100, z101, z102, z130, z131, z135, z136, z137, z138, z139, z140, z141, z142, z143, z144, z146, z147, z162, z173, z181, z289, z296, z309, z310, z311, z313, z314, z315, z317, z318, z320, z321, z328, z329, z336, z337, z339, z340, z360, z367, z369, z370, z371, z374, z383, z384, z387, z389, z395, z396, z399, z402, z403, z404, z405, z408, z409, z410, z411, z412, z413, z414, z415, z417, z418, z419, z420, z421, z428, z430, z437, z443]; try (tactic => ( rfl))))
  cases k1 : decide (s = 1)
  · cases k2 : decide (s = 2)
    · (rw [fn67]; sym => (simp [b67.eq_1, call57, call71, call174, call175, freeK_cond, hr, hw, may_c, he, k1, k2, s1_al, s1_rt, s1_pt, s1_spt, s1_set, z0, z2, z5, z6, z8, z12, z14, z26, z38, z44, z47, z48, z49, z50, z58, z59, z60, z61, z62, z65, z66, z68, z70, z72, z74, z75, z76, z77, z78, z83, z84, z87, z88, z89, z90, z91, z94, z95, z96, z97, z99, z100, z101, z102, z130, z131, z135, z136, z137, z138, z139, z140, z141, z142, z143, z144, z146, z147, z162, z173, z181, z289, z296, z309, z310, z311, z313, z314, z315, z317, z318, z320, z321, z328, z329, z336, z337, z339, z340, z360, z367, z369, z370, z371, z374, z383, z384, z387, z389, z395, z396, z399, z402, z403, z404, z405, z408, z409, z410, z411, z412, z413, z414, z415, z417, z418, z419, z420, z421, z428, z430, z437, z443]; try (tactic => ( rfl))))
    · obtain ⟨s2, v2, f2, u2, _ | g2⟩ := o2 <;> simp only [Out.t, eT] at h2 <;> (rw [fn67]; sym => (simp [b67.eq_1, call57, call71, call174, call175, freeK_cond, hr, hw, may_c, he, k1, k2, h2, s1_al, s1_rt, s1_pt, s1_spt, s1_set, z0, z2, z5, z6, z8, z12, z14, z26, z38, z44, z47, z48, z49, z50, z58, z59, z60, z61, z62, z65, z66, z68, z70, z72, z74, z75, z76, z77, z78, z83, z84, z87, z88, z89, z90, z91, z94, z95, z96, z97, z99, z100, z101, z102, z130, z131, z135, z136, z137, z138, z139, z140, z141, z142, z143, z144, z146, z147, z162, z173, z181, z289, z296, z309, z310, z311, z313, z314, z315, z317, z318, z320, z321, z328, z329, z336, z337, z339, z340, z360, z367, z369, z370, z371, z374, z383, z384, z387, z389, z395, z396, z399, z402, z403, z404, z405, z408, z409, z410, z411, z412, z413, z414, z415, z417, z418, z419, z420, z421, z428, z430, z437, z443]; try (tactic => ( rfl))))
  · obtain ⟨s1, v1, f1, u1, _ | g1⟩ := o1 <;> simp only [Out.t, eT] at h1 <;> (rw [fn67]; sym => (simp [b67.eq_1, call57, call71, call174, call175, freeK_cond, hr, hw, may_c, he, k1, h1, s1_al, s1_rt, s1_pt, s1_spt, s1_set, z0, z2, z5, z6, z8, z12, z14, z26, z38, z44, z47, z48, z49, z50, z58, z59, z60, z61, z62, z65, z66, z68, z70, z72, z74, z75, z76, z77, z78, z83, z84, z87, z88, z89, z90, z91, z94, z95, z96, z97, z99, z100, z101, z102, z130, z131, z135, z136, z137, z138, z139, z140, z141, z142, z143, z144, z146, z147, z162, z173, z181, z289, z296, z309, z310, z311, z313, z314, z315, z317, z318, z320, z321, z328, z329, z336, z337, z339, z340, z360, z367, z369, z370, z371, z374, z383, z384, z387, z389, z395, z396, z399, z402, z403, z404, z405, z408, z409, z410, z411, z412, z413, z414, z415, z417, z418, z419, z420, z421, z428, z430, z437, z443]; try (tactic => ( rfl))))
structure Act where
  (kind now : Int)
  event : Event
abbrev Act.t (a : Act) : T := .agg (iT a.kind :: iT a.now :: a.event.c)
def actO (s v f u : Int) (a : Act) : Out := bif decide (a.kind = 0) then startO s v f u a.now else bif decide (a.kind = 1) then eventO s v f u a.now (rightEvent a.event) a.event.kind a.event.version else bif decide (a.kind = 2) then failO s v f u a.now else bif decide (a.kind = 3) then goneO s v f u a.now else bif decide (a.kind = 4) then tickO s v f u a.now else stopO s v f u a.now
theorem do_c (nm : AE.Name) (s v f u : Int) (a : Act) (ok : a.event.Ok) : evW C tab 11 nm [wT s v f u, a.t] [] = some ((actO s v f u a).t, []) := by
  have he := fun nm => event_c nm s v f u a.now a.event ok
  have h1 := fun nm => start_c nm s v f u a.now
  have h2 := fun nm => fail_c nm s v f u a.now
  have h3 := fun nm => gone_c nm s v f u a.now
  have h4 := fun nm => tick_c nm s v f u a.now
  have h5 := fun nm => stop_c nm s v f u a.now
  clear ok
  unfold actO
  generalize eventO s v f u a.now (rightEvent a.event) a.event.kind a.event.version = o1 at *
  generalize startO s v f u a.now = o2 at *
  generalize failO s v f u a.now = o3 at *
  generalize goneO s v f u a.now = o4 at *
  generalize tickO s v f u a.now = o5 at *
  generalize stopO s v f u a.now = o6 at *
  cases k0 : decide (a.kind = 0)
  rotate_left
  · obtain ⟨s1, v1, f1, u1, _ | g1⟩ := o2 <;> simp only [Out.t, eT] at h1 <;> (rw [fn11]; sym => (simp [b11.eq_1, call13, call64, call65, call67, call68, call69, k0, h1, s1_al, s1_rt, s1_pt, s1_spt, s1_set, z0, z2, z5, z6, z8, z26, z38, z44, z47, z48, z49, z50, z58, z59, z60, z61, z62, z65, z66, z68, z70, z72, z74, z75, z76, z77, z78, z83, z84, z87, z88, z89, z90, z91, z94, z95, z96, z97, z99, z101, z102, z135, z136, z137, z138, z139, z140, z141, z142, z143, z144, z146, z147, z162, z173, z181, z289, z296, z309, z310, z311, z313, z314, z315, z317, z318, z320, z321, z328, z329, z336, z337, z339, z340, z360, z367, z369, z370, z371, z374, z383, z384, z387, z389, z395, z396, z399, z403, z404, z405, z408, z409, z410, z411, z412, z413, z414, z415, z416, z417, z418, z419, z420, z421, z428, z430, z437, z443]; try (tactic => ( rfl))))
  cases k1 : decide (a.kind = 1)
  rotate_left
  · obtain ⟨s1, v1, f1, u1, _ | g1⟩ := o1 <;> simp only [Out.t, eT] at he <;> (rw [fn11]; sym => (simp [b11.eq_1, call13, call64, call65, call67, call68, call69, k0, k1, he, s1_al, s1_rt, s1_pt, s1_spt, s1_set, z0, z2, z5, z6, z8, z26, z38, z44, z47, z48, z49, z50, z58, z59, z60, z61, z62, z65, z66, z68, z70, z72, z74, z75, z76, z77, z78, z83, z84, z87, z88, z89, z90, z91, z94, z95, z96, z97, z99, z101, z102, z135, z136, z137, z138, z139, z140, z141, z142, z143, z144, z146, z147, z162, z173, z181, z289, z296, z309, z310, z311, z313, z314, z315, z317, z318, z320, z321, z328, z329, z336, z337, z339, z340, z360, z367, z369, z370, z371, z374, z383, z384, z387, z389, z395, z396, z399, z403, z404, z405, z408, z409, z410, z411, z412, z413, z414, z415, z416, z417, z418, z419, z420, z421, z428, z430, z437, z443]; try (tactic => ( rfl))))
  cases k2 : decide (a.kind = 2)
  rotate_left
  · obtain ⟨s1, v1, f1, u1, _ | g1⟩ := o3 <;> simp only [Out.t, eT] at h2 <;> (rw [fn11]; sym => (simp [b11.eq_1, call13, call64, call65, call67, call68, call69, k0, k1, k2, h2, s1_al, s1_rt, s1_pt, s1_spt, s1_set, z0, z2, z5, z6, z8, z26, z38, z44, z47, z48, z49, z50, z58, z59, z60, z61, z62, z65, z66, z68, z70, z72, z74, z75, z76, z77, z78, z83, z84, z87, z88, z89, z90, z91, z94, z95, z96, z97, z99, z101, z102, z135, z136, z137, z138, z139, z140, z141, z142, z143, z144, z146, z147, z162, z173, z181, z289, z296, z309, z310, z311, z313, z314, z315, z317, z318, z320, z321, z328, z329, z336, z337, z339, z340, z360, z367, z369, z370, z371, z374, z383, z384, z387, z389, z395, z396, z399, z403, z404, z405, z408, z409, z410, z411, z412, z413, z414, z415, z416, z417, z418, z419, z420, z421, z428, z430, z437, z443]; try (tactic => ( rfl))))
  cases k3 : decide (a.kind = 3)
  rotate_left
  · obtain ⟨s1, v1, f1, u1, _ | g1⟩ := o4 <;> simp only [Out.t, eT] at h3 <;> (rw [fn11]; sym => (simp [b11.eq_1, call13, call64, call65, call67, call68, call69, k0, k1, k2, k3, h3, s1_al, s1_rt, s1_pt, s1_spt, s1_set, z0, z2, z5, z6, z8, z26, z38, z44, z47, z48, z49, z50, z58, z59, z60, z61, z62, z65, z66, z68, z70, z72, z74, z75, z76, z77, z78, z83, z84, z87, z88, z89, z90, z91, z94, z95, z96, z97, z99, z101, z102, z135, z136, z137, z138, z139, z140, z141, z142, z143, z144, z146, z147, z162, z173, z181, z289, z296, z309, z310, z311, z313, z314, z315, z317, z318, z320, z321, z328, z329, z336, z337, z339, z340, z360, z367, z369, z370, z371, z374, z383, z384, z387, z389, z395, z396, z399, z403, z404, z405, z408, z409, z410, z411, z412, z413, z414, z415, z416, z417, z418, z419, z420, z421, z428, z430, z437, z443]; try (tactic => ( rfl))))
  cases k4 : decide (a.kind = 4)
  rotate_left
  · obtain ⟨s1, v1, f1, u1, _ | g1⟩ := o5 <;> simp only [Out.t, eT] at h4 <;> (rw [fn11]; sym => (simp [b11.eq_1, call13, call64, call65, call67, call68, call69, k0, k1, k2, k3, k4, h4, s1_al, s1_rt, s1_pt, s1_spt, s1_set, z0, z2, z5, z6, z8, z26, z38, z44, z47, z48, z49, z50, z58, z59, z60, z61, z62, z65, z66, z68, z70, z72, z74, z75, z76, z77, z78, z83, z84, z87, z88, z89, z90, z91, z94, z95, z96, z97, z99, z101, z102, z135, z136, z137, z138, z139, z140, z141, z142, z143, z144, z146, z147, z162, z173, z181, z289, z296, z309, z310, z311, z313, z314, z315, z317, z318, z320, z321, z328, z329, z336, z337, z339, z340, z360, z367, z369, z370, z371, z374, z383, z384, z387, z389, z395, z396, z399, z403, z404, z405, z408, z409, z410, z411, z412, z413, z414, z415, z416, z417, z418, z419, z420, z421, z428, z430, z437, z443]; try (tactic => ( rfl))))
  · obtain ⟨s1, v1, f1, u1, _ | g1⟩ := o6 <;> simp only [Out.t, eT] at h5 <;> (rw [fn11]; sym => (simp [b11.eq_1, call13, call64, call65, call67, call68, call69, k0, k1, k2, k3, k4, h5, s1_al, s1_rt, s1_pt, s1_spt, s1_set, z0, z2, z5, z6, z8, z26, z38, z44, z47, z48, z49, z50, z58, z59, z60, z61, z62, z65, z66, z68, z70, z72, z74, z75, z76, z77, z78, z83, z84, z87, z88, z89, z90, z91, z94, z95, z96, z97, z99, z101, z102, z135, z136, z137, z138, z139, z140, z141, z142, z143, z144, z146, z147, z162, z173, z181, z289, z296, z309, z310, z311, z313, z314, z315, z317, z318, z320, z321, z328, z329, z336, z337, z339, z340, z360, z367, z369, z370, z371, z374, z383, z384, z387, z389, z395, z396, z399, z403, z404, z405, z408, z409, z410, z411, z412, z413, z414, z415, z416, z417, z418, z419, z420, z421, z428, z430, z437, z443]; try (tactic => ( rfl))))
end Go.AE.W

/-! K11: what is asked of an event's size. -/
set_option linter.unusedVariables false
set_option linter.unusedSimpArgs false
set_option maxHeartbeats 1000000
set_option maxRecDepth 100000
namespace Go.AE.W
open Go.RowKit Go.LB
def longN : Int → List (List UInt8) → Bool
  | _, [] => false
  | n, s :: r => bif decide (400 < (s.length : Int)) then true else bif decide (400 < n + (1 + (s.length : Int))) then true else longN (n + (1 + (s.length : Int))) r
theorem longN_loop (p : AE.Name) (tg : AE.Tag) (l : List (List UInt8)) (hl : l.length ≤ 9223372036854775807) : ∀ (rest : List (List UInt8)) (i : Nat) (n : Int), l.drop i = rest → i ≤ l.length → 0 ≤ n → n ≤ 400 → ∀ r, evI C tab p [1, 5, 8, 9, 10] [4] l101_0 r ⟨[(1, iT 400), (5, iT n), (8, .sl (l.map tx) tg), (9, iT (l.length : Int)), (10, iT (i : Int))], [[]], [], 0⟩ = bif longN n rest then some (.ret, ⟨[(4, bT true)], [[]], [], 0⟩) else some (.exit 0, ⟨[], [[]], [], 0⟩) := by
  intro rest
  induction rest with
  | nil =>
    intro i n hd hi h0 h9 r
    have hi' : i = l.length := by have := congrArg List.length hd; simp at this; omega
    have h1 : decide ((i : Int) < (l.length : Int)) = false := by simp; omega
    have e : longN n [] = false := rfl
    rw [e]
    (rw [ev_round]; sym => simp [u101_0, m101_0.eq_1, h1, z0, z5, z8, z29, z41, z47, z48, z57, z58, z59, z60, z62, z75, z85, z86, z95, z99, z101, z104, z110, z309, z310, z311, z313, z314, z315, z316, z317, z318, z320, z321, z324, z325, z326, z328, z329, z336, z355, z367, z368, z369, z370, z383, z384, z395, z399, z410, z411, z412, z413, z437, z450, z458, z459, z460])
  | cons x rest ih =>
    intro i n hd hi h0 h9 r
    obtain ⟨hget, hlt, hd'⟩ := drop_cons hd
    have h1 : decide ((i : Int) < (l.length : Int)) = true := by simp; omega
    have h2 : IntKind.i64.wrap ((i : Int) + 1) = ((i + 1 : Nat) : Int) := by rw [wrap_i64 (by omega) (by omega)]; omega
    have h3 : decide (0 ≤ (i : Int) ∧ (i : Int) < (l.length : Int)) = true := by simp; omega
    have e : longN n (x :: rest) = (bif decide (400 < (x.length : Int)) then true else bif decide (400 < n + (1 + (x.length : Int))) then true else longN (n + (1 + (x.length : Int))) rest) := rfl
    rw [e]
    cases k1 : decide (400 < (x.length : Int))
    · have k1' : ¬ (400 < (x.length : Int)) := by simpa using k1
      have w1 : IntKind.i64.wrap (1 + (x.length : Int)) = 1 + (x.length : Int) := wrap_i64 (by omega) (by omega)
      have w2 : IntKind.i64.wrap (n + (1 + (x.length : Int))) = n + (1 + (x.length : Int)) := wrap_i64 (by omega) (by omega)
      cases k2 : decide (400 < n + (1 + (x.length : Int)))
      · have k2' : ¬ (400 < n + (1 + (x.length : Int))) := by simpa using k2
        have ih' := ih (i + 1) (n + (1 + (x.length : Int))) hd' (by omega) (by omega) (by omega)
        clear ih
        simp only [cond_false]
        (rw [ev_round]; sym => simp [u101_0, m101_0.eq_1, h1, h2, h3, hget, k1, w1, w2, k2, ih', z0, z5, z8, z29, z41, z47, z48, z57, z58, z59, z60, z62, z75, z85, z86, z95, z99, z101, z104, z110, z309, z310, z311, z313, z314, z315, z316, z317, z318, z320, z321, z324, z325, z326, z328, z329, z336, z355, z367, z368, z369, z370, z383, z384, z395, z399, z410, z411, z412, z413, z437, z450, z458, z459, z460])
      · (rw [ev_round]; sym => simp [u101_0, m101_0.eq_1, h1, h2, h3, hget, k1, w1, w2, k2, z0, z5, z8, z29, z41, z47, z48, z57, z58, z59, z60, z62, z75, z85, z86, z95, z99, z101, z104, z110, z309, z310, z311, z313, z314, z315, z316, z317, z318, z320, z321, z324, z325, z326, z328, z329, z336, z355, z367, z368, z369, z370, z383, z384, z395, z399, z410, z411, z412, z413, z437, z450, z458, z459, z460])
    · (rw [ev_round]; sym => simp [u101_0, m101_0.eq_1, h1, h2, h3, hget, k1, z0, z5, z8, z29, z41, z47, z48, z57, z58, z59, z60, z62, z75, z85, z86, z95, z99, z101, z104, z110, z309, z310, z311, z313, z314, z315, z316, z317, z318, z320, z321, z324, z325, z326, z328, z329, z336, z355, z367, z368, z369, z370, z383, z384, z395, z399, z410, z411, z412, z413, z437, z450, z458, z459, z460])
theorem longN_c (nm : AE.Name) (l : List (List UInt8)) (tg : AE.Tag) (ht : ∀ n k, tg ≠ .own n k) (hl : l.length ≤ 9223372036854775807) : evW C tab 101 nm [.sl (l.map tx) tg, iT 400] [] = some (bT (longN 0 l), []) := by
  have h := fun p r => longN_loop p tg l hl l 0 0 rfl (by omega) (by omega) (by omega) r
  have hst : strip1 (.sl (l.map tx) tg) = .sl (l.map tx) tg := by cases tg <;> first | rfl | exact absurd rfl (ht _ _)
  simp only [cast0] at h
  cases hb : longN 0 l
  · rw [hb] at h
    simp only [cond_false] at h
    (rw [fn101]; sym => simp [b101.eq_1, h, hst, z0, z41, z47, z48, z58, z59, z60, z62, z77, z78, z85, z86, z87, z89, z90, z91, z94, z110, z135, z136, z137, z138, z140, z141, z142, z143, z144, z289, z296, z308, z309, z310, z313, z314, z315, z318, z319, z320, z321, z327, z328, z329, z337, z339, z360, z369, z370, z383, z384, z403, z404, z412, z413, z443, z459])
  · rw [hb] at h
    simp only [cond_true] at h
    (rw [fn101]; sym => simp [b101.eq_1, h, hst, z0, z41, z47, z48, z58, z59, z60, z62, z77, z78, z85, z86, z87, z89, z90, z91, z94, z110, z135, z136, z137, z138, z140, z141, z142, z143, z144, z289, z296, z308, z309, z310, z313, z314, z315, z318, z319, z320, z321, z327, z328, z329, z337, z339, z360, z369, z370, z383, z384, z403, z404, z412, z413, z443, z459])
def longNode (n : Node) : Bool := decide (400 < (n.name.length : Int)) || (decide (400 < (n.zone.length : Int)) || decide (20 < (n.addrs.l.length : Int)))
theorem longNode_c (nm : AE.Name) (n : Node) : evW C tab 20 nm [n.t] [] = some (bT (longNode n), []) := by
  unfold longNode
  (rw [fn20]; sym => (simp [b20.eq_1, s1_al, z0, z1, z2, z5, z8, z26, z41, z47, z48, z58, z59, z60, z62, z65, z66, z68, z70, z75, z77, z78, z87, z89, z90, z91, z94, z95, z97, z99, z101, z102, z110, z135, z136, z137, z138, z140, z141, z142, z143, z144, z289, z296, z309, z310, z314, z320, z321, z328, z329, z331, z334, z337, z339, z345, z346, z350, z354, z360, z369, z370, z383, z384, z387, z395, z396, z399, z403, z404, z405, z412, z413, z437, z443, z450, z459]; try (tactic => ( (repeat' (first | (refine And.intro ?_ ?_) | (intro hq))); all_goals (first | rfl | (simp only [*, Bool.and_true, Bool.true_and, Bool.false_and, Bool.and_false, Bool.or_false, Bool.false_or, Bool.true_or, Bool.or_true, Bool.not_true, Bool.not_false]; done) | (simp_all; done) | (simp_all <;> omega) | (simp_all <;> intros <;> omega))))))
def lp4 (p : Port) : Bool := decide (400 < (p.name.length : Int))
def le4 (e : Endpoint) : Bool := decide (400 < (e.node.length : Int)) || longN 0 e.zones
theorem lsv_loop (nm : AE.Name) (bx : List T) (tg : AE.Tag) (l : List Port) (hl : l.length ≤ 9223372036854775807)  : ∀ (rest : List Port) (i : Nat), l.drop i = rest → i ≤ l.length → ∀ r, evI C tab (nm ++ [2]) [1, 6, 7, 8] [1, 2] l44_0 r ⟨[(1, .ptr (nm ++ [0, 0]) 0), (6, .sl (l.map Port.t) tg), (7, iT (l.length : Int)), (8, iT (i : Int))], [[(nm ++ [0, 0], .box bx)]], [], 0⟩ = if rest.any lp4 then some (.ret, ⟨[(1, .ptr (nm ++ [0, 0]) 0), (2, bT true)], [[(nm ++ [0, 0], .box bx)]], [], 0⟩) else some (.exit 0, ⟨[(1, .ptr (nm ++ [0, 0]) 0)], [[(nm ++ [0, 0], .box bx)]], [], 0⟩) := by
  intro rest
  induction rest with
  | nil =>
    intro i hd hi r
    have hi' : i = l.length := by have := congrArg List.length hd; simp at this; omega
    have h1 : decide ((i : Int) < (l.length : Int)) = false := by simp; omega
    have e : ([] : List Port).any lp4 = false := rfl
    rw [e]
    (rw [ev_round]; sym => simp [u44_0, m44_0.eq_1, h1, z0, z2, z5, z6, z8, z26, z29, z41, z47, z48, z57, z58, z59, z60, z61, z62, z65, z66, z67, z68, z70, z72, z74, z75, z76, z83, z84, z85, z86, z95, z96, z97, z99, z101, z102, z104, z110, z309, z310, z311, z313, z314, z315, z316, z317, z318, z320, z321, z324, z325, z326, z328, z329, z336, z355, z367, z368, z369, z370, z371, z374, z376, z383, z384, z387, z388, z389, z395, z399, z410, z411, z412, z413, z417, z418, z419, z420, z421, z429, z430, z437, z450, z458, z459, z460])
  | cons x rest ih =>
    intro i hd hi r
    obtain ⟨hget, hlt, hd'⟩ := drop_cons hd
    have h1 : decide ((i : Int) < (l.length : Int)) = true := by simp; omega
    have h2 : IntKind.i64.wrap ((i : Int) + 1) = ((i + 1 : Nat) : Int) := by rw [wrap_i64 (by omega) (by omega)]; omega
    have h3 : decide (0 ≤ (i : Int) ∧ (i : Int) < (l.length : Int)) = true := by simp; omega
    have ih' := ih (i + 1) hd' (by omega)
    have e : (x :: rest).any lp4 = (lp4 x || rest.any lp4) := rfl
    rw [e]
    clear ih
    cases kx : lp4 x
    · have k : decide (400 < (x.name.length : Int)) = false := kx
      simp only [Bool.false_or]
      (rw [ev_round]; sym => simp [u44_0, m44_0.eq_1, h1, h2, h3, hget, ih', k, z0, z2, z5, z6, z8, z26, z29, z41, z47, z48, z57, z58, z59, z60, z61, z62, z65, z66, z67, z68, z70, z72, z74, z75, z76, z83, z84, z85, z86, z95, z96, z97, z99, z101, z102, z104, z110, z309, z310, z311, z313, z314, z315, z316, z317, z318, z320, z321, z324, z325, z326, z328, z329, z336, z355, z367, z368, z369, z370, z371, z374, z376, z383, z384, z387, z388, z389, z395, z399, z410, z411, z412, z413, z417, z418, z419, z420, z421, z429, z430, z437, z450, z458, z459, z460])
    · have k : decide (400 < (x.name.length : Int)) = true := kx
      simp only [Bool.true_or, if_true]
      (rw [ev_round]; sym => simp [u44_0, m44_0.eq_1, h1, h2, h3, hget, k, z0, z2, z5, z6, z8, z26, z29, z41, z47, z48, z57, z58, z59, z60, z61, z62, z65, z66, z67, z68, z70, z72, z74, z75, z76, z83, z84, z85, z86, z95, z96, z97, z99, z101, z102, z104, z110, z309, z310, z311, z313, z314, z315, z316, z317, z318, z320, z321, z324, z325, z326, z328, z329, z336, z355, z367, z368, z369, z370, z371, z374, z376, z383, z384, z387, z388, z389, z395, z399, z410, z411, z412, z413, z417, z418, z419, z420, z421, z429, z430, z437, z450, z458, z459, z460])
def longService (s : Service) : Bool := s.ports.any lp4 || (decide (400 < (s.space.length : Int)) || (decide (400 < (s.name.length : Int)) || (decide (20 < (s.cluster.l.length : Int)) || (decide (20 < (s.external.l.length : Int)) || (decide (20 < (s.balancers.l.length : Int)) || (decide (20 < (s.ranges.length : Int)) || decide (20 < (s.ports.length : Int))))))))
theorem longService_c (nm : AE.Name) (s : Service) (hp : s.ports.length ≤ 9223372036854775807) : evW C tab 44 nm [s.t] [] = some (bT (longService s), []) := by
  have h := fun r => lsv_loop nm s.c s.pt s.ports hp s.ports 0 rfl (by omega) r
  simp only [cast0] at h
  unfold longService
  cases hb : s.ports.any lp4
  · rw [hb] at h
    simp only [Bool.false_eq_true, if_false] at h
    (rw [fn44, b44.eq_1]; try dsimp only; sym => (simp [b44.eq_1, h, s1_al, s1_rt, s1_pt, z0, z1, z2, z5, z8, z26, z41, z47, z48, z58, z59, z60, z62, z65, z66, z68, z70, z75, z77, z78, z85, z86, z87, z89, z90, z91, z94, z95, z97, z99, z101, z102, z110, z135, z136, z137, z138, z140, z141, z142, z143, z144, z289, z296, z308, z309, z310, z313, z314, z315, z318, z319, z320, z321, z327, z328, z329, z331, z334, z337, z339, z345, z346, z350, z354, z360, z369, z370, z383, z384, z387, z395, z396, z399, z403, z404, z405, z412, z413, z426, z427, z437, z443, z450, z459]; try (tactic => ( generalize decide (400 < (s.space.length : Int)) = b0; generalize decide (400 < (s.name.length : Int)) = b1; generalize decide (20 < (s.cluster.l.length : Int)) = b2; generalize decide (20 < (s.external.l.length : Int)) = b3; generalize decide (20 < (s.balancers.l.length : Int)) = b4; generalize decide (20 < (s.ranges.length : Int)) = b5; generalize decide (20 < (s.ports.length : Int)) = b6; (repeat' (first | (refine And.intro ?_ ?_) | (intro hq))); all_goals (first | rfl | (simp_all; done))))))
  · rw [hb] at h
    simp only [if_true] at h
    (rw [fn44, b44.eq_1]; try dsimp only; sym => (simp [b44.eq_1, h, s1_al, s1_rt, s1_pt, z0, z1, z2, z5, z8, z26, z41, z47, z48, z58, z59, z60, z62, z65, z66, z68, z70, z75, z77, z78, z85, z86, z87, z89, z90, z91, z94, z95, z97, z99, z101, z102, z110, z135, z136, z137, z138, z140, z141, z142, z143, z144, z289, z296, z308, z309, z310, z313, z314, z315, z318, z319, z320, z321, z327, z328, z329, z331, z334, z337, z339, z345, z346, z350, z354, z360, z369, z370, z383, z384, z387, z395, z396, z399, z403, z404, z405, z412, z413, z426, z427, z437, z443, z450, z459]; try (tactic => ( rfl))))
theorem lsl_loop (nm : AE.Name) (bx : List T) (tg : AE.Tag) (l : List Port) (hl : l.length ≤ 9223372036854775807)  : ∀ (rest : List Port) (i : Nat), l.drop i = rest → i ≤ l.length → ∀ r, evI C tab (nm ++ [2]) [1, 8, 9, 10] [1, 2] l34_1 r ⟨[(1, .ptr (nm ++ [0, 0]) 0), (8, .sl (l.map Port.t) tg), (9, iT (l.length : Int)), (10, iT (i : Int))], [[(nm ++ [0, 0], .box bx)]], [], 0⟩ = if rest.any lp4 then some (.ret, ⟨[(1, .ptr (nm ++ [0, 0]) 0), (2, bT true)], [[(nm ++ [0, 0], .box bx)]], [], 0⟩) else some (.exit 0, ⟨[(1, .ptr (nm ++ [0, 0]) 0)], [[(nm ++ [0, 0], .box bx)]], [], 0⟩) := by
  intro rest
  induction rest with
  | nil =>
    intro i hd hi r
    have hi' : i = l.length := by have := congrArg List.length hd; simp at this; omega
    have h1 : decide ((i : Int) < (l.length : Int)) = false := by simp; omega
    have e : ([] : List Port).any lp4 = false := rfl
    rw [e]
    (rw [ev_round]; sym => simp [u34_1, m34_1.eq_1, call101, h1, z0, z2, z5, z6, z8, z26, z29, z41, z47, z48, z57, z58, z59, z60, z61, z62, z65, z66, z67, z68, z70, z72, z74, z75, z76, z83, z84, z85, z86, z95, z96, z97, z99, z101, z102, z104, z110, z309, z310, z311, z313, z314, z315, z316, z317, z318, z320, z321, z324, z325, z326, z328, z329, z336, z355, z367, z368, z369, z370, z371, z374, z376, z383, z384, z387, z388, z389, z395, z399, z410, z411, z412, z413, z417, z418, z419, z420, z421, z429, z430, z437, z450, z458, z459, z460])
  | cons x rest ih =>
    intro i hd hi r
    obtain ⟨hget, hlt, hd'⟩ := drop_cons hd
    have h1 : decide ((i : Int) < (l.length : Int)) = true := by simp; omega
    have h2 : IntKind.i64.wrap ((i : Int) + 1) = ((i + 1 : Nat) : Int) := by rw [wrap_i64 (by omega) (by omega)]; omega
    have h3 : decide (0 ≤ (i : Int) ∧ (i : Int) < (l.length : Int)) = true := by simp; omega
    have ih' := ih (i + 1) hd' (by omega)
    have e : (x :: rest).any lp4 = (lp4 x || rest.any lp4) := rfl
    rw [e]
    clear ih
    cases kx : lp4 x
    · have k : decide (400 < (x.name.length : Int)) = false := kx
      simp only [Bool.false_or]
      (rw [ev_round]; sym => simp [u34_1, m34_1.eq_1, call101, h1, h2, h3, hget, ih', k, z0, z2, z5, z6, z8, z26, z29, z41, z47, z48, z57, z58, z59, z60, z61, z62, z65, z66, z67, z68, z70, z72, z74, z75, z76, z83, z84, z85, z86, z95, z96, z97, z99, z101, z102, z104, z110, z309, z310, z311, z313, z314, z315, z316, z317, z318, z320, z321, z324, z325, z326, z328, z329, z336, z355, z367, z368, z369, z370, z371, z374, z376, z383, z384, z387, z388, z389, z395, z399, z410, z411, z412, z413, z417, z418, z419, z420, z421, z429, z430, z437, z450, z458, z459, z460])
    · have k : decide (400 < (x.name.length : Int)) = true := kx
      simp only [Bool.true_or, if_true]
      (rw [ev_round]; sym => simp [u34_1, m34_1.eq_1, call101, h1, h2, h3, hget, k, z0, z2, z5, z6, z8, z26, z29, z41, z47, z48, z57, z58, z59, z60, z61, z62, z65, z66, z67, z68, z70, z72, z74, z75, z76, z83, z84, z85, z86, z95, z96, z97, z99, z101, z102, z104, z110, z309, z310, z311, z313, z314, z315, z316, z317, z318, z320, z321, z324, z325, z326, z328, z329, z336, z355, z367, z368, z369, z370, z371, z374, z376, z383, z384, z387, z388, z389, z395, z399, z410, z411, z412, z413, z417, z418, z419, z420, z421, z429, z430, z437, z450, z458, z459, z460])
theorem len16 {b : List UInt8} (h : b.length = 16) : ∃ a0 a1 a2 a3 a4 a5 a6 a7 a8 a9 c0 c1 c2 c3 c4 c5, b = [a0, a1, a2, a3, a4, a5, a6, a7, a8, a9, c0, c1, c2, c3, c4, c5] := by
  have g : ∀ (n : Nat) (b : List UInt8), b.length = n + 1 → ∃ x r, b = x :: r ∧ r.length = n := fun n b h => by
    cases b with
    | nil => simp at h
    | cons x r => exact ⟨x, r, rfl, by simpa using h⟩
  obtain ⟨a0, r0, rfl, g0⟩ := g 15 b h
  obtain ⟨a1, r1, rfl, g1⟩ := g 14 r0 g0
  obtain ⟨a2, r2, rfl, g2⟩ := g 13 r1 g1
  obtain ⟨a3, r3, rfl, g3⟩ := g 12 r2 g2
  obtain ⟨a4, r4, rfl, g4⟩ := g 11 r3 g3
  obtain ⟨a5, r5, rfl, g5⟩ := g 10 r4 g4
  obtain ⟨a6, r6, rfl, g6⟩ := g 9 r5 g5
  obtain ⟨a7, r7, rfl, g7⟩ := g 8 r6 g6
  obtain ⟨a8, r8, rfl, g8⟩ := g 7 r7 g7
  obtain ⟨a9, r9, rfl, g9⟩ := g 6 r8 g8
  obtain ⟨c0, r10, rfl, g10⟩ := g 5 r9 g9
  obtain ⟨c1, r11, rfl, g11⟩ := g 4 r10 g10
  obtain ⟨c2, r12, rfl, g12⟩ := g 3 r11 g11
  obtain ⟨c3, r13, rfl, g13⟩ := g 2 r12 g12
  obtain ⟨c4, r14, rfl, g14⟩ := g 1 r13 g13
  obtain ⟨c5, r15, rfl, g15⟩ := g 0 r14 g14
  obtain rfl := List.eq_nil_of_length_eq_zero g15
  exact ⟨a0, a1, a2, a3, a4, a5, a6, a7, a8, a9, c0, c1, c2, c3, c4, c5, rfl⟩
theorem putE (x : Addr) (h y1 y2 y3 y4 y5 y6 y7 y8 y9 y10 y11 y12 y13 y14 y15 y16 y17 y18 y19 y20 y21 a b c d e : T) : putAt [h, y1, y2, y3, y4, y5, y6, y7, y8, y9, y10, y11, y12, y13, y14, y15, y16, y17, y18, y19, y20, y21] 1 (x.b.map encB ++ [a, b, c, d, e]) = h :: (x.b.map encB ++ [a, b, c, d, e]) := by
  obtain ⟨a0, a1, a2, a3, a4, a5, a6, a7, a8, a9, c0, c1, c2, c3, c4, c5, hb⟩ := len16 x.hb
  rw [hb]; simp only [List.map_cons, List.map_nil, List.cons_append, List.nil_append, putAt, List.set]
theorem lse_loop (nm : AE.Name) (bx : List T) (tg : AE.Tag) (l : List Endpoint) (hl : l.length ≤ 9223372036854775807) (hz : ∀ e ∈ l, e.zones.length ≤ 9223372036854775807) : ∀ (rest : List Endpoint) (i : Nat), l.drop i = rest → i ≤ l.length → ∀ r, evI C tab (nm ++ [4]) [1, 20, 21, 22] [1, 2] l34_0 r ⟨[(1, .ptr (nm ++ [0, 0]) 0), (20, .sl (l.map Endpoint.t) tg), (21, iT (l.length : Int)), (22, iT (i : Int))], [[(nm ++ [0, 0], .box bx)]], [], 0⟩ = if rest.any le4 then some (.ret, ⟨[(1, .ptr (nm ++ [0, 0]) 0), (2, bT true)], [[(nm ++ [0, 0], .box bx)]], [], 0⟩) else some (.exit 2, ⟨[(1, .ptr (nm ++ [0, 0]) 0)], [[(nm ++ [0, 0], .box bx)]], [], 0⟩) := by
  intro rest
  induction rest with
  | nil =>
    intro i hd hi r
    have hi' : i = l.length := by have := congrArg List.length hd; simp at this; omega
    have h1 : decide ((i : Int) < (l.length : Int)) = false := by simp; omega
    have e : ([] : List Endpoint).any le4 = false := rfl
    rw [e]
    (rw [ev_round]; sym => simp [u34_0, m34_0.eq_1, call101, h1, z0, z1, z2, z5, z6, z8, z26, z29, z41, z44, z47, z48, z49, z50, z57, z58, z59, z60, z61, z62, z65, z66, z67, z68, z70, z72, z74, z75, z76, z84, z85, z86, z95, z96, z97, z99, z101, z102, z104, z110, z146, z147, z172, z173, z309, z310, z311, z313, z314, z315, z316, z317, z318, z320, z321, z324, z325, z326, z328, z329, z331, z334, z336, z340, z355, z367, z368, z369, z370, z371, z374, z376, z383, z384, z387, z388, z389, z396, z399, z404, z410, z411, z412, z413, z414, z415, z417, z418, z421, z429, z430, z437, z450, z458, z459, z460])
  | cons x rest ih =>
    intro i hd hi r
    obtain ⟨hget, hlt, hd'⟩ := drop_cons hd
    have h1 : decide ((i : Int) < (l.length : Int)) = true := by simp; omega
    have h2 : IntKind.i64.wrap ((i : Int) + 1) = ((i + 1 : Nat) : Int) := by rw [wrap_i64 (by omega) (by omega)]; omega
    have h3 : decide (0 ≤ (i : Int) ∧ (i : Int) < (l.length : Int)) = true := by simp; omega
    have ih' := ih (i + 1) hd' (by omega)
    have e : (x :: rest).any le4 = (le4 x || rest.any le4) := rfl
    rw [e]
    clear ih
    have g17 : ∀ a b c d f : T, (x.a.b.map encB ++ [a, b, c, d, f])[16]? = some a := fun a b c d f => by
      rw [List.getElem?_append_right (by simp [x.a.hb])]; simp [x.a.hb]
    have g21 : ∀ a b c d f : T, (x.a.b.map encB ++ [a, b, c, d, f])[20]? = some f := fun a b c d f => by
      rw [List.getElem?_append_right (by simp [x.a.hb])]; simp [x.a.hb]
    cases kx : le4 x
    · have k := kx; unfold le4 at k; rw [Bool.or_eq_false_iff] at k; obtain ⟨k1, k2⟩ := k; have hn := fun nm => longN_c nm x.zones x.zt x.hz (hz x (List.mem_of_getElem? hget))
      simp only [Bool.false_or]
      (rw [ev_round]; sym => simp [u34_0, m34_0.eq_1, call101, h1, h2, h3, hget, ih', k1, k2, hn, g17, g21, hb16, take17e, putE, len_app, fm_app, map_app, ptr0_encB, ptr1_encB, strip_encB, s1_ez, z0, z1, z2, z5, z6, z8, z26, z29, z41, z44, z47, z48, z49, z50, z57, z58, z59, z60, z61, z62, z65, z66, z67, z68, z70, z72, z74, z75, z76, z84, z85, z86, z95, z96, z97, z99, z101, z102, z104, z110, z146, z147, z172, z173, z309, z310, z311, z313, z314, z315, z316, z317, z318, z320, z321, z324, z325, z326, z328, z329, z331, z334, z336, z340, z355, z367, z368, z369, z370, z371, z374, z376, z383, z384, z387, z388, z389, z396, z399, z404, z410, z411, z412, z413, z414, z415, z417, z418, z421, z429, z430, z437, z450, z458, z459, z460])
    · have k := kx; unfold le4 at k; have hn := fun nm => longN_c nm x.zones x.zt x.hz (hz x (List.mem_of_getElem? hget))
      simp only [Bool.true_or, if_true]
      cases k1 : decide (400 < (x.node.length : Int))
      · rw [k1, Bool.false_or] at k
        (rw [ev_round]; sym => simp [u34_0, m34_0.eq_1, call101, h1, h2, h3, hget, k1, k, hn, g17, g21, hb16, take17e, putE, len_app, fm_app, map_app, ptr0_encB, ptr1_encB, strip_encB, s1_ez, z0, z1, z2, z5, z6, z8, z26, z29, z41, z44, z47, z48, z49, z50, z57, z58, z59, z60, z61, z62, z65, z66, z67, z68, z70, z72, z74, z75, z76, z84, z85, z86, z95, z96, z97, z99, z101, z102, z104, z110, z146, z147, z172, z173, z309, z310, z311, z313, z314, z315, z316, z317, z318, z320, z321, z324, z325, z326, z328, z329, z331, z334, z336, z340, z355, z367, z368, z369, z370, z371, z374, z376, z383, z384, z387, z388, z389, z396, z399, z404, z410, z411, z412, z413, z414, z415, z417, z418, z421, z429, z430, z437, z450, z458, z459, z460])
      · (rw [ev_round]; sym => simp [u34_0, m34_0.eq_1, call101, h1, h2, h3, hget, k1, g17, g21, hb16, take17e, putE, len_app, fm_app, map_app, ptr0_encB, ptr1_encB, strip_encB, s1_ez, z0, z1, z2, z5, z6, z8, z26, z29, z41, z44, z47, z48, z49, z50, z57, z58, z59, z60, z61, z62, z65, z66, z67, z68, z70, z72, z74, z75, z76, z84, z85, z86, z95, z96, z97, z99, z101, z102, z104, z110, z146, z147, z172, z173, z309, z310, z311, z313, z314, z315, z316, z317, z318, z320, z321, z324, z325, z326, z328, z329, z331, z334, z336, z340, z355, z367, z368, z369, z370, z371, z374, z376, z383, z384, z387, z388, z389, z396, z399, z404, z410, z411, z412, z413, z414, z415, z417, z418, z421, z429, z430, z437, z450, z458, z459, z460])
def longSlice (s : Slice) : Bool := s.ports.any lp4 || (s.ends.any le4 || (decide (400 < (s.space.length : Int)) || (decide (400 < (s.name.length : Int)) || (decide (400 < (s.service.length : Int)) || (decide (20 < (s.ports.length : Int)) || decide (30 < (s.ends.length : Int)))))))
theorem longSlice_c (nm : AE.Name) (s : Slice) (hp : s.ports.length ≤ 9223372036854775807) (he : s.ends.length ≤ 9223372036854775807) (hz : ∀ e ∈ s.ends, e.zones.length ≤ 9223372036854775807) : evW C tab 34 nm [s.t] [] = some (bT (longSlice s), []) := by
  have h := fun r => lsl_loop nm s.c s.pt s.ports hp s.ports 0 rfl (by omega) r
  have g := fun r => lse_loop nm s.c s.et s.ends he hz s.ends 0 rfl (by omega) r
  clear hz
  simp only [cast0] at h g
  unfold longSlice
  cases hb : s.ports.any lp4
  · rw [hb] at h
    simp only [Bool.false_eq_true, if_false] at h
    cases hc : s.ends.any le4
    · rw [hc] at g
      simp only [Bool.false_eq_true, if_false] at g
      (rw [fn34]; sym => (simp [b34.eq_1, call101, h, g, s1_spt, s1_set, z0, z1, z2, z5, z8, z26, z41, z47, z48, z58, z59, z60, z62, z65, z66, z68, z70, z75, z77, z78, z85, z86, z87, z89, z90, z91, z94, z95, z97, z99, z101, z102, z110, z135, z136, z137, z138, z140, z141, z142, z143, z144, z192, z289, z296, z308, z309, z310, z313, z314, z315, z318, z319, z320, z321, z327, z328, z329, z331, z334, z337, z339, z345, z346, z350, z354, z360, z369, z370, z383, z384, z387, z395, z396, z399, z403, z404, z405, z412, z413, z426, z427, z437, z443, z450, z459]; try (tactic => ( generalize decide (400 < (s.space.length : Int)) = b0; generalize decide (400 < (s.name.length : Int)) = b1; generalize decide (400 < (s.service.length : Int)) = b2; generalize decide (20 < (s.ports.length : Int)) = b3; generalize decide (30 < (s.ends.length : Int)) = b4; (repeat' (first | (refine And.intro ?_ ?_) | (intro hq))); all_goals (first | rfl | (simp_all; done))))))
    · rw [hc] at g
      simp only [if_true] at g
      (rw [fn34]; sym => (simp [b34.eq_1, call101, h, g, s1_spt, s1_set, z0, z1, z2, z5, z8, z26, z41, z47, z48, z58, z59, z60, z62, z65, z66, z68, z70, z75, z77, z78, z85, z86, z87, z89, z90, z91, z94, z95, z97, z99, z101, z102, z110, z135, z136, z137, z138, z140, z141, z142, z143, z144, z192, z289, z296, z308, z309, z310, z313, z314, z315, z318, z319, z320, z321, z327, z328, z329, z331, z334, z337, z339, z345, z346, z350, z354, z360, z369, z370, z383, z384, z387, z395, z396, z399, z403, z404, z405, z412, z413, z426, z427, z437, z443, z450, z459]; try (tactic => ( rfl))))
  · rw [hb] at h
    simp only [if_true] at h
    (rw [fn34]; sym => (simp [b34.eq_1, call101, h, s1_spt, s1_set, z0, z1, z2, z5, z8, z26, z41, z47, z48, z58, z59, z60, z62, z65, z66, z68, z70, z75, z77, z78, z85, z86, z87, z89, z90, z91, z94, z95, z97, z99, z101, z102, z110, z135, z136, z137, z138, z140, z141, z142, z143, z144, z192, z289, z296, z308, z309, z310, z313, z314, z315, z318, z319, z320, z321, z327, z328, z329, z331, z334, z337, z339, z345, z346, z350, z354, z360, z369, z370, z383, z384, z387, z395, z396, z399, z403, z404, z405, z412, z413, z426, z427, z437, z443, z450, z459]; try (tactic => ( rfl))))
def longEvent (e : Event) : Bool := longService e.service || (longSlice e.slice || (longNode e.node || (decide (400 < (e.space.length : Int)) || (decide (400 < (e.kname.length : Int)) || decide (400 < (e.name.length : Int))))))
/-- What is true of an event that lies in memory. -/
structure Event.Lies (e : Event) : Prop where
  p1 : e.service.ports.length ≤ 9223372036854775807
  p2 : e.slice.ports.length ≤ 9223372036854775807
  ends : e.slice.ends.length ≤ 9223372036854775807
  zones : ∀ x ∈ e.slice.ends, x.zones.length ≤ 9223372036854775807
theorem longEvent_c (nm : AE.Name) (e : Event) (hp : e.Lies) : evW C tab 10 nm [e.t] [] = some (bT (longEvent e), []) := by
  have h1 := fun nm => longService_c nm e.service hp.p1
  have h2 := fun nm => longSlice_c nm e.slice hp.p2 hp.ends hp.zones
  have h3 := fun nm => longNode_c nm e.node
  clear hp
  unfold longEvent
  generalize longService e.service = b1 at *
  generalize longSlice e.slice = b2 at *
  generalize longNode e.node = b3 at *
  (rw [fn10, b10.eq_1]; try dsimp only; sym => (simp [b10.eq_1, call20, call34, call44, h1, h2, h3, s1_al, s1_rt, s1_pt, s1_spt, s1_set, z0, z1, z2, z5, z8, z26, z41, z44, z47, z48, z49, z50, z58, z59, z60, z62, z65, z66, z68, z70, z75, z76, z77, z78, z87, z89, z90, z91, z94, z95, z97, z99, z101, z102, z110, z135, z136, z137, z138, z140, z141, z142, z143, z144, z146, z147, z162, z181, z289, z296, z309, z310, z314, z320, z321, z328, z329, z331, z334, z337, z339, z340, z345, z346, z350, z354, z360, z369, z370, z383, z384, z387, z395, z396, z399, z403, z404, z405, z410, z411, z412, z413, z414, z415, z416, z417, z418, z419, z437, z443, z450]; try (tactic => ( generalize decide (400 < (e.space.length : Int)) = b4; generalize decide (400 < (e.kname.length : Int)) = b5; generalize decide (400 < (e.name.length : Int)) = b6; (repeat' (first | (refine And.intro ?_ ?_) | (intro hq))); all_goals (first | rfl | (simp_all; done))))))
theorem longN_zone : ∀ (l : List (List UInt8)) (n : Int), 0 ≤ n → longN n l = false → (l.length : Int) ≤ max (400 - n) 0 ∧ ∀ z ∈ l, z.length ≤ 400
  | [], n, h, _ => ⟨by simp; omega, by simp⟩
  | s :: r, n, h, e => by
    unfold longN at e
    cases k1 : decide (400 < (s.length : Int))
    · cases k2 : decide (400 < n + (1 + (s.length : Int)))
      · rw [k1, k2] at e
        simp only [cond_false] at e
        simp only [decide_eq_false_iff_not, Int.not_lt] at k1 k2
        obtain ⟨h1, h2⟩ := longN_zone r (n + (1 + (s.length : Int))) (by omega) e
        refine ⟨by rw [List.length_cons]; omega, fun z hz => ?_⟩
        rcases List.mem_cons.1 hz with rfl | hz
        · omega
        · exact h2 z hz
      · rw [k1, k2] at e; simp at e
    · rw [k1] at e; simp at e
theorem any_no {α : Type} {l : List α} {p : α → Bool} (h : l.any p = false) : ∀ x ∈ l, p x = false := by simpa using h
theorem Event.Lies.ok {e : Event} (h : longEvent e = false) : e.Ok := by
  unfold longEvent at h
  simp only [Bool.or_eq_false_iff, decide_eq_false_iff_not, Int.not_lt] at h
  obtain ⟨h1, h2, h3, h4, h5, h6⟩ := h
  unfold longService at h1
  unfold longSlice at h2
  unfold longNode at h3
  simp only [Bool.or_eq_false_iff, decide_eq_false_iff_not, Int.not_lt] at h1 h2 h3
  obtain ⟨a1, a2, a3, a4, a5, a6, a7, a8⟩ := h1
  obtain ⟨b1, b2, b3, b4, b5, b6, b7⟩ := h2
  have np : ∀ {l : List Port}, l.any lp4 = false → ∀ p ∈ l, p.name.length ≤ 1000000000000 := fun hl p hp => by
    have := any_no hl p hp
    unfold lp4 at this
    simp only [decide_eq_false_iff_not, Int.not_lt] at this; omega
  refine ⟨?_, ⟨by omega, by omega, by omega, by omega, np b1, by omega, fun x hx => ?_⟩, ⟨by omega, by omega, by omega⟩, by omega, by omega, by omega⟩
  · constructor <;> first | omega | exact np a1
  · have := any_no b2 x hx
    unfold le4 at this
    simp only [Bool.or_eq_false_iff, decide_eq_false_iff_not, Int.not_lt] at this
    obtain ⟨k1, k2⟩ := longN_zone x.zones 0 (by omega) this.2
    exact ⟨by omega, by omega, fun z hz => by have := k2 z hz; omega⟩
end Go.AE.W
