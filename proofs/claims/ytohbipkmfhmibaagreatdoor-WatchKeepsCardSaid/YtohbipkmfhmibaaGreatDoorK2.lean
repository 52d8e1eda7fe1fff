import Derived.Test.YtohbipkmfhmibaaGreatDoorK1
/-! K2: data, and the functions over lists. -/
set_option linter.unusedVariables false
set_option linter.unusedSimpArgs false
set_option maxHeartbeats 1000000
set_option maxRecDepth 100000
namespace Go.AE.W
open Go.RowKit Go.LB
structure Port where
  name : List UInt8
  (proto port outer : Int)
abbrev Port.t (x : Port) : T := .agg [tx x.name, .v (.int .i64 x.proto), .v (.int .i64 x.port), .v (.int .i64 x.outer)]
structure Addr where
  six : Bool
  b : List UInt8
  hb : b.length = 16
abbrev Addr.c (x : Addr) : List T := .v (.bool x.six) :: x.b.map encB
abbrev Addr.t (x : Addr) : T := .agg x.c
structure Cidr where
  a : Addr
  bits : Int
abbrev Cidr.t (x : Cidr) : T := .agg (.v (.bool x.a.six) :: (x.a.b.map encB ++ [.v (.int .i64 x.bits)]))
structure Endpoint where
  a : Addr
  node : List UInt8
  (ready serving ending : Bool)
  zones : List (List UInt8)
  zt : AE.Tag
  hz : ∀ n k, zt ≠ .own n k
abbrev Endpoint.t (x : Endpoint) : T := .agg (.v (.bool x.a.six) :: (x.a.b.map encB ++ [tx x.node, .v (.bool x.ready), .v (.bool x.serving), .v (.bool x.ending), .sl (x.zones.map tx) x.zt]))
structure AL where
  l : List Addr
  t : AE.Tag
  ht : ∀ n k, t ≠ .own n k
abbrev AL.t' (x : AL) : T := .sl (x.l.map Addr.t) x.t
theorem s1_ez (x : Endpoint) (l : List T) : strip1 (.sl l x.zt) = .sl l x.zt := by have := x.hz; cases h : x.zt <;> simp_all [strip1]
theorem s1_al (x : AL) (l : List T) : strip1 (.sl l x.t) = .sl l x.t := by have := x.ht; cases h : x.t <;> simp_all [strip1]
theorem hb16 (x : Addr) : x.b.length = 16 := x.hb
theorem take16 (x : Addr) : (x.b.map encB).take 16 = x.b.map encB := List.take_of_length_le (by simp [x.hb])
theorem len_app {α : Type} (l m : List α) : (l ++ m).length = l.length + m.length := by simp
theorem take17 (x : Addr) (m : List T) (n : Nat) : (x.b.map encB ++ m).take (16 + n) = x.b.map encB ++ m.take n := by
  have : 16 + n = (x.b.map encB).length + n := by simp [x.hb]
  rw [this, List.take_length_add_append]
theorem take17a (x : Addr) (y : T) : (x.b.map encB ++ [y]).take 17 = x.b.map encB ++ [y] := take17 x [y] 1
theorem take17e (x : Addr) (a b c d e : T) : (x.b.map encB ++ [a, b, c, d, e]).take 21 = x.b.map encB ++ [a, b, c, d, e] := take17 x [a, b, c, d, e] 5
theorem ptr0_encB (l : List UInt8) : (l.map encB).flatMap ptr0 = [] := by simp [List.flatMap_map, ptr0, encB]
theorem ptr1_encB (l : List UInt8) : (l.map encB).flatMap ptr1 = [] := by simp [List.flatMap_map, ptr1, ptr0, encB]
theorem ptrR0_encB (l : List UInt8) : (l.map encB).flatMap ptrR0 = [] := by simp [List.flatMap_map, ptrR0, encB]
theorem strip_encB (l : List UInt8) : (l.map encB).map strip1 = l.map encB := by simp [encB, strip1]
theorem fm_app {α β : Type} (l m : List α) (f : α → List β) : (l ++ m).flatMap f = l.flatMap f ++ m.flatMap f := by simp
theorem map_app {α β : Type} (l m : List α) (f : α → β) : (l ++ m).map f = l.map f ++ m.map f := by simp
theorem strip_sl (l : List T) (t : AE.Tag) : strip1 (.sl l t) = .sl l (match t with | .own _ _ => .no | t => t) := by cases t <;> rfl
/-- The first one's place. -/
def ixN {α : Type} (q : α → Bool) : List α → Nat → Option Nat
  | [], _ => none
  | x :: l, i => if q x then some i else ixN q l (i + 1)
def ixR (bs : List (AE.Name × Blk)) : Option Nat → Option (X × F)
  | none => some (.exit 0, ⟨[], [[], bs], [], 0⟩)
  | some j => some (.ret, ⟨[(4, .v (.int .i64 (j : Int)))], [[], bs], [], 0⟩)
theorem ixR_none (bs : List (AE.Name × Blk)) : ixR bs none = some (.exit 0, ⟨[], [[], bs], [], 0⟩) := rfl
theorem ixR_some (bs : List (AE.Name × Blk)) (j : Nat) : ixR bs (some j) = some (.ret, ⟨[(4, .v (.int .i64 (j : Int)))], [[], bs], [], 0⟩) := rfl
theorem ixN_any {α : Type} (q : α → Bool) : ∀ (l : List α) (i : Nat), (ixN q l i).isSome = l.any q
  | [], i => rfl
  | x :: l, i => by
    simp only [ixN, List.any_cons]
    cases q x <;> simp [ixN_any q l]
theorem drop_cons {α : Type} {l : List α} {i : Nat} {x : α} {r : List α} (h : l.drop i = x :: r) : l[i]? = some x ∧ i < l.length ∧ l.drop (i + 1) = r := by
  have h1 : l[i]? = some x := by have := congrArg (fun z => z[0]?) h; simpa using this
  refine ⟨h1, (List.getElem?_eq_some_iff.1 h1).1, ?_⟩
  rw [← List.drop_drop, h]; rfl

/-! Port -/
theorem ixf_loop_Port (p n : AE.Name) (g : Nat) (bs : List (AE.Name × Blk)) (tg : AE.Tag) (l : List Port) (q : Port → Bool) (hl : l.length ≤ 1000000000000)
    (hq : ∀ s x L, x ∈ l → eCall C (evW C tab) (p ++ s) g [(Port.t x), .ptr n 0] [[], [], bs] L = some (.v (.bool (q x)), [[], [], bs], L)) :
    ∀ (rest : List Port) (i : Nat), l.drop i = rest → i ≤ l.length → ∀ r, evI C tab p [0, 1, 7, 8] [4] l231_0 r ⟨[(0, .sl (l.map Port.t) tg), (1, .fn (.func g) [] [.ptr n 0]), (7, .v (.int .i64 (l.length : Int))), (8, .v (.int .i64 (i : Int)))], [[], bs], [], 0⟩ = ixR bs (ixN q rest i) := by
  intro rest
  induction rest with
  | nil =>
    intro i hd hi r
    have hi' : i = l.length := by have := congrArg List.length hd; simp at this; omega
    have h1 : decide ((i : Int) < (l.length : Int)) = false := by simp; omega
    have e : ixN q [] i = none := rfl
    (rw [ev_round]; sym => simp [u231_0, m231_0.eq_1, e, h1, ixR_none, z0, z5, z8, z29, z45, z47, z48, z49, z50, z57, z58, z59, z60, z62, z76, z85, z86, z95, z99, z101, z104, z162, z175, z181, z309, z310, z311, z313, z314, z315, z316, z317, z318, z320, z321, z324, z325, z326, z328, z329, z336, z355, z367, z368, z369, z370, z383, z384, z399, z411, z412, z413, z414, z415, z417, z418, z419, z437, z458, z459, z460])
  | cons x rest ih =>
    intro i hd hi r
    obtain ⟨hget, hlt, hd'⟩ := drop_cons hd
    have ih' := ih (i + 1) hd' (by omega)
    have h1 : decide ((i : Int) < (l.length : Int)) = true := by simp; omega
    have h2 : IntKind.i64.wrap ((i : Int) + 1) = ((i + 1 : Nat) : Int) := by rw [wrap_i64 (by omega) (by omega)]; omega
    have h3 : decide (0 ≤ (i : Int) ∧ (i : Int) < (l.length : Int)) = true := by simp; omega
    have hx := fun s L => hq s x L (List.mem_of_getElem? hget)
    have e : ixN q (x :: rest) i = if q x then some i else ixN q rest (i + 1) := rfl
    rw [e]
    cases hqx : q x
    · (rw [ev_round]; sym => simp [u231_0, m231_0.eq_1, h1, h2, h3, hget, hx, hqx, ih', len0, z0, z5, z8, z29, z45, z47, z48, z49, z50, z57, z58, z59, z60, z62, z76, z85, z86, z95, z99, z101, z104, z162, z175, z181, z309, z310, z311, z313, z314, z315, z316, z317, z318, z320, z321, z324, z325, z326, z328, z329, z336, z355, z367, z368, z369, z370, z383, z384, z399, z411, z412, z413, z414, z415, z417, z418, z419, z437, z458, z459, z460])
    · (rw [ev_round]; sym => simp [u231_0, m231_0.eq_1, h1, h2, h3, hget, hx, hqx, ixR_some, len0, z0, z5, z8, z29, z45, z47, z48, z49, z50, z57, z58, z59, z60, z62, z76, z85, z86, z95, z99, z101, z104, z162, z175, z181, z309, z310, z311, z313, z314, z315, z316, z317, z318, z320, z321, z324, z325, z326, z328, z329, z336, z355, z367, z368, z369, z370, z383, z384, z399, z411, z412, z413, z414, z415, z417, z418, z419, z437, z458, z459, z460])
theorem ixf_Port (nm n : AE.Name) (g : Nat) (bs : List (AE.Name × Blk)) (tg : AE.Tag) (l : List Port) (q : Port → Bool) (hl : l.length ≤ 1000000000000)
    (hq : ∀ s x L, x ∈ l → eCall C (evW C tab) (nm ++ s) g [(Port.t x), .ptr n 0] [[], [], bs] L = some (.v (.bool (q x)), [[], [], bs], L)) :
    evW C tab 231 nm [.sl (l.map Port.t) tg, .fn (.func g) [] [.ptr n 0]] [bs] = some (.v (.int .i64 (match ixN q l 0 with | some j => (j : Int) | none => -1)), [bs]) := by
  have h := fun (s : AE.Name) r => ixf_loop_Port (nm ++ s) n g bs tg l q hl (fun s' x L hx => by rw [List.append_assoc]; exact hq (s ++ s') x L hx) l 0 rfl (by omega) r
  simp only [cast0] at h
  cases hj : ixN q l 0
  · rw [hj] at h
    (rw [fn231]; sym => simp [b231.eq_1, h, ixR_none, z0, z41, z47, z48, z58, z59, z60, z62, z77, z78, z85, z86, z87, z89, z90, z92, z94, z110, z135, z136, z137, z138, z140, z141, z142, z143, z144, z289, z296, z308, z309, z310, z313, z314, z315, z318, z319, z320, z321, z327, z328, z329, z337, z339, z360, z369, z370, z383, z384, z403, z404, z412, z413, z459])
  · rw [hj] at h
    (rw [fn231]; sym => simp [b231.eq_1, h, ixR_some, z0, z41, z47, z48, z58, z59, z60, z62, z77, z78, z85, z86, z87, z89, z90, z92, z94, z110, z135, z136, z137, z138, z140, z141, z142, z143, z144, z289, z296, z308, z309, z310, z313, z314, z315, z318, z319, z320, z321, z327, z328, z329, z337, z339, z360, z369, z370, z383, z384, z403, z404, z412, z413, z459])
theorem conf_Port (nm n : AE.Name) (g : Nat) (bs : List (AE.Name × Blk)) (s0 : List AE.Name) (tg : AE.Tag) (htg : ∀ n k, tg ≠ .own n k) (l : List Port) (q : Port → Bool) (hl : l.length ≤ 1000000000000)
    (hr : reach [[], bs] [.sl (l.map Port.t) tg, .fn (.func g) [] [.ptr n 0]] = some s0) (hs : subH [[], bs] s0 = [bs]) (hm : ∀ nm, merge nm s0 [bs] [[], bs] = some [[], bs])
    (hq : ∀ s x L, x ∈ l → eCall C (evW C tab) (nm ++ s) g [(Port.t x), .ptr n 0] [[], [], bs] L = some (.v (.bool (q x)), [[], [], bs], L)) :
    evW C tab 190 nm [.sl (l.map Port.t) tg, .fn (.func g) [] [.ptr n 0]] [bs] = some (.v (.bool (l.any q)), [bs]) := by
  have h := fun (s : AE.Name) => ixf_Port (nm ++ s) n g bs tg l q hl (fun s' x L hx => by rw [List.append_assoc]; exact hq (s ++ s') x L hx)
  have hst : strip1 (.sl (l.map Port.t) tg) = .sl (l.map Port.t) tg := by cases tg <;> first | rfl | exact absurd rfl (htg _ _)
  have ha := ixN_any q l 0
  have h1 : ∀ j : Nat, decide (0 ≤ (j : Int)) = true := fun j => by simp
  have heapK' : ∀ nm L, heapK (evW C tab) nm 231 [.sl (l.map Port.t) tg, .fn (.func g) [] [.ptr n 0]] [[], bs] L (reach [[], bs] [.sl (l.map Port.t) tg, .fn (.func g) [] [.ptr n 0]]) = heapR nm s0 [[], bs] L (evW C tab 231 nm [.sl (l.map Port.t) tg, .fn (.func g) [] [.ptr n 0]] [bs]) := fun nm L => by
    rw [hr, heapK_some, hs]
  have hcall : ∀ s L, eCall C (evW C tab) (nm ++ s) 231 [.sl (l.map Port.t) tg, .fn (.func g) [] [.ptr n 0]] [[], bs] L = some (.v (.int .i64 (match ixN q l 0 with | some j => (j : Int) | none => -1)), [[], bs], L) := fun s L => by
    rw [call231, heapK', h, heapR_some, hm, heapM_some]; rfl
  cases hj : ixN q l 0
  · rw [hj] at hcall ha
    rw [← ha]
    clear h heapK' hr hs hm hq
    (rw [fn190]; sym => simp [b190.eq_1, hcall, hst, z0, z8, z44, z47, z48, z49, z50, z58, z59, z60, z62, z77, z78, z87, z89, z90, z92, z94, z99, z135, z136, z137, z138, z140, z141, z142, z143, z144, z172, z179, z289, z296, z309, z310, z314, z320, z321, z328, z329, z337, z339, z360, z369, z370, z383, z384, z389, z390, z399, z403, z404, z412, z413, z414, z415, z437, z446])
  · rw [hj] at hcall ha
    rw [← ha]
    clear h heapK' hr hs hm hq
    (rw [fn190]; sym => simp [b190.eq_1, hcall, hst, h1, z0, z8, z44, z47, z48, z49, z50, z58, z59, z60, z62, z77, z78, z87, z89, z90, z92, z94, z99, z135, z136, z137, z138, z140, z141, z142, z143, z144, z172, z179, z289, z296, z309, z310, z314, z320, z321, z328, z329, z337, z339, z360, z369, z370, z383, z384, z389, z390, z399, z403, z404, z412, z413, z414, z415, z437, z446])

theorem cl0_Port (nm n : AE.Name) (hn : nm.isPrefixOf n = false) (g : Nat) (x : Port) (p : Bool) (hf : ∀ nm xs h L, eCall C (evW C tab) nm g xs h L = freeK nm h L (evW C tab g nm xs [])) (hg : ∀ nm, evW C tab g nm [(Port.t x)] [] = some (.v (.bool p), [])) :
    evW C tab 191 nm [(Port.t x), .ptr n 0] [[(n, .box [.fn (.func g) [] []])]] = some (.v (.bool (!p)), [[(n, .box [.fn (.func g) [] []])]]) := by
  have n1 := npre_ne hn
  have n2 := npre_ne' hn
  (rw [fn191]; sym => simp [b191.eq_1, n1, n2, hn, hf, hg, len0, z0, z2, z5, z14, z45, z47, z48, z49, z50, z58, z59, z60, z62, z65, z66, z67, z68, z70, z75, z76, z77, z78, z87, z89, z90, z92, z94, z95, z100, z101, z102, z135, z136, z137, z138, z140, z141, z142, z143, z144, z146, z147, z162, z181, z289, z296, z309, z310, z314, z320, z321, z328, z329, z337, z339, z340, z360, z369, z370, z383, z384, z387, z388, z395, z399, z403, z404, z405, z411, z412, z413, z414, z415, z417, z418, z419])
theorem ce0_Port (nm n : AE.Name) (hn : nm.isPrefixOf n = false) (g : Nat) (x : Port) (p : Bool) (hf : ∀ nm xs h L, eCall C (evW C tab) nm g xs h L = freeK nm h L (evW C tab g nm xs [])) (hg : ∀ nm, evW C tab g nm [(Port.t x)] [] = some (.v (.bool p), [])) (L : List AE.Name) :
    eCall C (evW C tab) nm 191 [(Port.t x), .ptr n 0] [[], [], [(n, .box [.fn (.func g) [] []])]] L = some (.v (.bool (!p)), [[], [], [(n, .box [.fn (.func g) [] []])]], L) := by
  have h := cl0_Port nm n hn g x p hf hg
  sym => simp [call191, h, len0, z65, z66, z67, z68, z72, z74, z146, z147, z152, z153, z154, z155, z156, z157, z293, z294, z295, z297, z298, z300, z301, z302, z303, z304, z306, z307, z341, z342, z343, z358, z387, z388, z389, z390, z399, z404, z406, z407, z408, z409, z412, z413, z414, z415, z422, z423, z431, z441]
theorem every0_Port (nm : AE.Name) (g : Nat) (tg : AE.Tag) (htg : ∀ n k, tg ≠ .own n k) (l : List Port) (p : Port → Bool) (hl : l.length ≤ 1000000000000) (hf : ∀ nm xs h L, eCall C (evW C tab) nm g xs h L = freeK nm h L (evW C tab g nm xs []))
    (hg : ∀ x ∈ l, ∀ nm, evW C tab g nm [(Port.t x)] [] = some (.v (.bool (p x)), [])) : evW C tab 109 nm [.sl (l.map Port.t) tg, .fn (.func g) [] []] [[]] = some (.v (.bool (l.all p)), [[]]) := by
  have e : l.all p = !l.any (fun x => !p x) := by rw [List.any_eq_not_all_not]; simp
  have hst : strip1 (.sl (l.map Port.t) tg) = .sl (l.map Port.t) tg := by cases tg <;> first | rfl | exact absurd rfl (htg _ _)
  have h := conf_Port (nm ++ [1, 2]) (nm ++ [0, 0]) 191 [(nm ++ [0, 0], .box [.fn (.func g) [] []])] [nm ++ [0, 0]] tg htg l (fun x => !p x) hl (by sym => simp [z0, z2, z14, z20, z44, z47, z48, z49, z50, z58, z59, z60, z62, z65, z66, z67, z68, z70, z72, z74, z77, z78, z87, z89, z90, z92, z94, z100, z101, z102, z135, z136, z137, z138, z140, z141, z142, z143, z144, z146, z147, z152, z153, z154, z155, z156, z157, z172, z179, z289, z293, z294, z295, z296, z297, z298, z300, z301, z302, z303, z304, z306, z307, z309, z310, z314, z320, z321, z328, z329, z337, z339, z341, z342, z343, z358, z360, z369, z370, z383, z384, z387, z388, z389, z390, z399, z403, z404, z405, z406, z407, z408, z409, z412, z413, z414, z415, z422, z423, z431, z441]) (by sym => simp [z0, z2, z14, z20, z44, z47, z48, z49, z50, z58, z59, z60, z62, z65, z66, z67, z68, z70, z72, z74, z77, z78, z87, z89, z90, z92, z94, z100, z101, z102, z135, z136, z137, z138, z140, z141, z142, z143, z144, z146, z147, z152, z153, z154, z155, z156, z157, z172, z179, z289, z293, z294, z295, z296, z297, z298, z300, z301, z302, z303, z304, z306, z307, z309, z310, z314, z320, z321, z328, z329, z337, z339, z341, z342, z343, z358, z360, z369, z370, z383, z384, z387, z388, z389, z390, z399, z403, z404, z405, z406, z407, z408, z409, z412, z413, z414, z415, z422, z423, z431, z441]) (fun nm' => by sym => simp [z0, z2, z14, z20, z44, z47, z48, z49, z50, z58, z59, z60, z62, z65, z66, z67, z68, z70, z72, z74, z77, z78, z87, z89, z90, z92, z94, z100, z101, z102, z135, z136, z137, z138, z140, z141, z142, z143, z144, z146, z147, z152, z153, z154, z155, z156, z157, z172, z179, z289, z293, z294, z295, z296, z297, z298, z300, z301, z302, z303, z304, z306, z307, z309, z310, z314, z320, z321, z328, z329, z337, z339, z341, z342, z343, z358, z360, z369, z370, z383, z384, z387, z388, z389, z390, z399, z403, z404, z405, z406, z407, z408, z409, z412, z413, z414, z415, z422, z423, z431, z441])
    (fun s x L hx => ce0_Port _ _ (by simp [nm_pre1, List.isPrefixOf]) g x (p x) hf (hg x hx) L)
  rw [e]
  (rw [fn109]; sym => simp [b109.eq_1, call190, call191, h, hst, z0, z2, z14, z20, z44, z47, z48, z49, z50, z58, z59, z60, z62, z65, z66, z67, z68, z70, z72, z74, z77, z78, z87, z89, z90, z92, z94, z100, z101, z102, z135, z136, z137, z138, z140, z141, z142, z143, z144, z146, z147, z152, z153, z154, z155, z156, z157, z172, z179, z289, z293, z294, z295, z296, z297, z298, z300, z301, z302, z303, z304, z306, z307, z309, z310, z314, z320, z321, z328, z329, z337, z339, z341, z342, z343, z358, z360, z369, z370, z383, z384, z387, z388, z389, z390, z399, z403, z404, z405, z406, z407, z408, z409, z412, z413, z414, z415, z422, z423, z431, z441])

/-! Endpoint -/
theorem ixf_loop_Endpoint (p n : AE.Name) (g : Nat) (bs : List (AE.Name × Blk)) (tg : AE.Tag) (l : List Endpoint) (q : Endpoint → Bool) (hl : l.length ≤ 1000000000000)
    (hq : ∀ s x L, x ∈ l → eCall C (evW C tab) (p ++ s) g [(Endpoint.t x), .ptr n 0] [[], [], bs] L = some (.v (.bool (q x)), [[], [], bs], L)) :
    ∀ (rest : List Endpoint) (i : Nat), l.drop i = rest → i ≤ l.length → ∀ r, evI C tab p [0, 1, 7, 8] [4] l232_0 r ⟨[(0, .sl (l.map Endpoint.t) tg), (1, .fn (.func g) [] [.ptr n 0]), (7, .v (.int .i64 (l.length : Int))), (8, .v (.int .i64 (i : Int)))], [[], bs], [], 0⟩ = ixR bs (ixN q rest i) := by
  intro rest
  induction rest with
  | nil =>
    intro i hd hi r
    have hi' : i = l.length := by have := congrArg List.length hd; simp at this; omega
    have h1 : decide ((i : Int) < (l.length : Int)) = false := by simp; omega
    have e : ixN q [] i = none := rfl
    (rw [ev_round]; sym => simp [u232_0, m232_0.eq_1, e, h1, ixR_none, z0, z5, z8, z29, z45, z47, z48, z49, z50, z57, z58, z59, z60, z62, z76, z85, z86, z95, z99, z101, z104, z162, z175, z181, z309, z310, z311, z313, z314, z315, z316, z317, z318, z320, z321, z324, z325, z326, z328, z329, z336, z355, z367, z368, z369, z370, z383, z384, z399, z410, z411, z412, z413, z414, z415, z417, z418, z437, z458, z459, z460])
  | cons x rest ih =>
    intro i hd hi r
    obtain ⟨hget, hlt, hd'⟩ := drop_cons hd
    have ih' := ih (i + 1) hd' (by omega)
    have h1 : decide ((i : Int) < (l.length : Int)) = true := by simp; omega
    have h2 : IntKind.i64.wrap ((i : Int) + 1) = ((i + 1 : Nat) : Int) := by rw [wrap_i64 (by omega) (by omega)]; omega
    have h3 : decide (0 ≤ (i : Int) ∧ (i : Int) < (l.length : Int)) = true := by simp; omega
    have hx := fun s L => hq s x L (List.mem_of_getElem? hget)
    have e : ixN q (x :: rest) i = if q x then some i else ixN q rest (i + 1) := rfl
    rw [e]
    cases hqx : q x
    · (rw [ev_round]; sym => simp [u232_0, m232_0.eq_1, h1, h2, h3, hget, hx, hqx, ih', hb16, take17e, ptr0_encB, ptr1_encB, strip_encB, len_app, fm_app, map_app, s1_ez, z0, z5, z8, z29, z45, z47, z48, z49, z50, z57, z58, z59, z60, z62, z76, z85, z86, z95, z99, z101, z104, z162, z175, z181, z309, z310, z311, z313, z314, z315, z316, z317, z318, z320, z321, z324, z325, z326, z328, z329, z336, z355, z367, z368, z369, z370, z383, z384, z399, z410, z411, z412, z413, z414, z415, z417, z418, z437, z458, z459, z460])
    · (rw [ev_round]; sym => simp [u232_0, m232_0.eq_1, h1, h2, h3, hget, hx, hqx, ixR_some, hb16, take17e, ptr0_encB, ptr1_encB, strip_encB, len_app, fm_app, map_app, s1_ez, z0, z5, z8, z29, z45, z47, z48, z49, z50, z57, z58, z59, z60, z62, z76, z85, z86, z95, z99, z101, z104, z162, z175, z181, z309, z310, z311, z313, z314, z315, z316, z317, z318, z320, z321, z324, z325, z326, z328, z329, z336, z355, z367, z368, z369, z370, z383, z384, z399, z410, z411, z412, z413, z414, z415, z417, z418, z437, z458, z459, z460])
theorem ixf_Endpoint (nm n : AE.Name) (g : Nat) (bs : List (AE.Name × Blk)) (tg : AE.Tag) (l : List Endpoint) (q : Endpoint → Bool) (hl : l.length ≤ 1000000000000)
    (hq : ∀ s x L, x ∈ l → eCall C (evW C tab) (nm ++ s) g [(Endpoint.t x), .ptr n 0] [[], [], bs] L = some (.v (.bool (q x)), [[], [], bs], L)) :
    evW C tab 232 nm [.sl (l.map Endpoint.t) tg, .fn (.func g) [] [.ptr n 0]] [bs] = some (.v (.int .i64 (match ixN q l 0 with | some j => (j : Int) | none => -1)), [bs]) := by
  have h := fun (s : AE.Name) r => ixf_loop_Endpoint (nm ++ s) n g bs tg l q hl (fun s' x L hx => by rw [List.append_assoc]; exact hq (s ++ s') x L hx) l 0 rfl (by omega) r
  simp only [cast0] at h
  cases hj : ixN q l 0
  · rw [hj] at h
    (rw [fn232]; sym => simp [b232.eq_1, h, ixR_none, z0, z41, z47, z48, z58, z59, z60, z62, z77, z78, z85, z86, z87, z89, z90, z92, z94, z110, z135, z136, z137, z138, z140, z141, z142, z143, z144, z289, z296, z308, z309, z310, z313, z314, z315, z318, z319, z320, z321, z327, z328, z329, z337, z339, z360, z369, z370, z383, z384, z403, z404, z412, z413, z459])
  · rw [hj] at h
    (rw [fn232]; sym => simp [b232.eq_1, h, ixR_some, z0, z41, z47, z48, z58, z59, z60, z62, z77, z78, z85, z86, z87, z89, z90, z92, z94, z110, z135, z136, z137, z138, z140, z141, z142, z143, z144, z289, z296, z308, z309, z310, z313, z314, z315, z318, z319, z320, z321, z327, z328, z329, z337, z339, z360, z369, z370, z383, z384, z403, z404, z412, z413, z459])
theorem conf_Endpoint (nm n : AE.Name) (g : Nat) (bs : List (AE.Name × Blk)) (s0 : List AE.Name) (tg : AE.Tag) (htg : ∀ n k, tg ≠ .own n k) (l : List Endpoint) (q : Endpoint → Bool) (hl : l.length ≤ 1000000000000)
    (hr : reach [[], bs] [.sl (l.map Endpoint.t) tg, .fn (.func g) [] [.ptr n 0]] = some s0) (hs : subH [[], bs] s0 = [bs]) (hm : ∀ nm, merge nm s0 [bs] [[], bs] = some [[], bs])
    (hq : ∀ s x L, x ∈ l → eCall C (evW C tab) (nm ++ s) g [(Endpoint.t x), .ptr n 0] [[], [], bs] L = some (.v (.bool (q x)), [[], [], bs], L)) :
    evW C tab 194 nm [.sl (l.map Endpoint.t) tg, .fn (.func g) [] [.ptr n 0]] [bs] = some (.v (.bool (l.any q)), [bs]) := by
  have h := fun (s : AE.Name) => ixf_Endpoint (nm ++ s) n g bs tg l q hl (fun s' x L hx => by rw [List.append_assoc]; exact hq (s ++ s') x L hx)
  have hst : strip1 (.sl (l.map Endpoint.t) tg) = .sl (l.map Endpoint.t) tg := by cases tg <;> first | rfl | exact absurd rfl (htg _ _)
  have ha := ixN_any q l 0
  have h1 : ∀ j : Nat, decide (0 ≤ (j : Int)) = true := fun j => by simp
  have heapK' : ∀ nm L, heapK (evW C tab) nm 232 [.sl (l.map Endpoint.t) tg, .fn (.func g) [] [.ptr n 0]] [[], bs] L (reach [[], bs] [.sl (l.map Endpoint.t) tg, .fn (.func g) [] [.ptr n 0]]) = heapR nm s0 [[], bs] L (evW C tab 232 nm [.sl (l.map Endpoint.t) tg, .fn (.func g) [] [.ptr n 0]] [bs]) := fun nm L => by
    rw [hr, heapK_some, hs]
  have hcall : ∀ s L, eCall C (evW C tab) (nm ++ s) 232 [.sl (l.map Endpoint.t) tg, .fn (.func g) [] [.ptr n 0]] [[], bs] L = some (.v (.int .i64 (match ixN q l 0 with | some j => (j : Int) | none => -1)), [[], bs], L) := fun s L => by
    rw [call232, heapK', h, heapR_some, hm, heapM_some]; rfl
  cases hj : ixN q l 0
  · rw [hj] at hcall ha
    rw [← ha]
    clear h heapK' hr hs hm hq
    (rw [fn194]; sym => simp [b194.eq_1, hcall, hst, z0, z8, z44, z47, z48, z49, z50, z58, z59, z60, z62, z77, z78, z87, z89, z90, z92, z94, z99, z135, z136, z137, z138, z140, z141, z142, z143, z144, z172, z179, z289, z296, z309, z310, z314, z320, z321, z328, z329, z337, z339, z360, z369, z370, z383, z384, z389, z390, z399, z403, z404, z412, z413, z414, z415, z437, z446])
  · rw [hj] at hcall ha
    rw [← ha]
    clear h heapK' hr hs hm hq
    (rw [fn194]; sym => simp [b194.eq_1, hcall, hst, h1, z0, z8, z44, z47, z48, z49, z50, z58, z59, z60, z62, z77, z78, z87, z89, z90, z92, z94, z99, z135, z136, z137, z138, z140, z141, z142, z143, z144, z172, z179, z289, z296, z309, z310, z314, z320, z321, z328, z329, z337, z339, z360, z369, z370, z383, z384, z389, z390, z399, z403, z404, z412, z413, z414, z415, z437, z446])

theorem cl0_Endpoint (nm n : AE.Name) (hn : nm.isPrefixOf n = false) (g : Nat) (x : Endpoint) (p : Bool) (hf : ∀ nm xs h L, eCall C (evW C tab) nm g xs h L = freeK nm h L (evW C tab g nm xs [])) (hg : ∀ nm, evW C tab g nm [(Endpoint.t x)] [] = some (.v (.bool p), [])) :
    evW C tab 195 nm [(Endpoint.t x), .ptr n 0] [[(n, .box [.fn (.func g) [] []])]] = some (.v (.bool (!p)), [[(n, .box [.fn (.func g) [] []])]]) := by
  have n1 := npre_ne hn
  have n2 := npre_ne' hn
  (rw [fn195]; sym => simp [b195.eq_1, n1, n2, hn, hf, hg, hb16, take17e, ptr0_encB, ptr1_encB, strip_encB, len_app, fm_app, map_app, s1_ez, z0, z2, z5, z14, z45, z47, z48, z49, z50, z58, z59, z60, z62, z65, z66, z67, z68, z70, z75, z76, z77, z78, z87, z89, z90, z92, z94, z95, z100, z101, z102, z135, z136, z137, z138, z140, z141, z142, z143, z144, z146, z147, z162, z181, z289, z296, z309, z310, z314, z320, z321, z328, z329, z337, z339, z340, z360, z369, z370, z383, z384, z387, z388, z395, z399, z403, z404, z405, z410, z411, z412, z413, z414, z415, z417, z418, z459])
theorem ce0_Endpoint (nm n : AE.Name) (hn : nm.isPrefixOf n = false) (g : Nat) (x : Endpoint) (p : Bool) (hf : ∀ nm xs h L, eCall C (evW C tab) nm g xs h L = freeK nm h L (evW C tab g nm xs [])) (hg : ∀ nm, evW C tab g nm [(Endpoint.t x)] [] = some (.v (.bool p), [])) (L : List AE.Name) :
    eCall C (evW C tab) nm 195 [(Endpoint.t x), .ptr n 0] [[], [], [(n, .box [.fn (.func g) [] []])]] L = some (.v (.bool (!p)), [[], [], [(n, .box [.fn (.func g) [] []])]], L) := by
  have h := cl0_Endpoint nm n hn g x p hf hg
  sym => simp [call195, h, hb16, take17e, ptr0_encB, ptr1_encB, strip_encB, len_app, fm_app, map_app, s1_ez, z65, z66, z67, z68, z72, z74, z146, z147, z152, z153, z154, z155, z156, z157, z293, z294, z295, z297, z298, z300, z301, z302, z303, z304, z306, z307, z341, z342, z343, z358, z387, z388, z389, z390, z399, z404, z406, z407, z408, z409, z412, z413, z414, z415, z422, z423, z431, z441]
theorem every0_Endpoint (nm : AE.Name) (g : Nat) (tg : AE.Tag) (htg : ∀ n k, tg ≠ .own n k) (l : List Endpoint) (p : Endpoint → Bool) (hl : l.length ≤ 1000000000000) (hf : ∀ nm xs h L, eCall C (evW C tab) nm g xs h L = freeK nm h L (evW C tab g nm xs []))
    (hg : ∀ x ∈ l, ∀ nm, evW C tab g nm [(Endpoint.t x)] [] = some (.v (.bool (p x)), [])) : evW C tab 112 nm [.sl (l.map Endpoint.t) tg, .fn (.func g) [] []] [[]] = some (.v (.bool (l.all p)), [[]]) := by
  have e : l.all p = !l.any (fun x => !p x) := by rw [List.any_eq_not_all_not]; simp
  have hst : strip1 (.sl (l.map Endpoint.t) tg) = .sl (l.map Endpoint.t) tg := by cases tg <;> first | rfl | exact absurd rfl (htg _ _)
  have h := conf_Endpoint (nm ++ [1, 2]) (nm ++ [0, 0]) 195 [(nm ++ [0, 0], .box [.fn (.func g) [] []])] [nm ++ [0, 0]] tg htg l (fun x => !p x) hl (by sym => simp [z0, z2, z14, z20, z44, z47, z48, z49, z50, z58, z59, z60, z62, z65, z66, z67, z68, z70, z72, z74, z77, z78, z87, z89, z90, z92, z94, z100, z101, z102, z135, z136, z137, z138, z140, z141, z142, z143, z144, z146, z147, z152, z153, z154, z155, z156, z157, z172, z179, z289, z293, z294, z295, z296, z297, z298, z300, z301, z302, z303, z304, z306, z307, z309, z310, z314, z320, z321, z328, z329, z337, z339, z341, z342, z343, z358, z360, z369, z370, z383, z384, z387, z388, z389, z390, z399, z403, z404, z405, z406, z407, z408, z409, z412, z413, z414, z415, z422, z423, z431, z441]) (by sym => simp [z0, z2, z14, z20, z44, z47, z48, z49, z50, z58, z59, z60, z62, z65, z66, z67, z68, z70, z72, z74, z77, z78, z87, z89, z90, z92, z94, z100, z101, z102, z135, z136, z137, z138, z140, z141, z142, z143, z144, z146, z147, z152, z153, z154, z155, z156, z157, z172, z179, z289, z293, z294, z295, z296, z297, z298, z300, z301, z302, z303, z304, z306, z307, z309, z310, z314, z320, z321, z328, z329, z337, z339, z341, z342, z343, z358, z360, z369, z370, z383, z384, z387, z388, z389, z390, z399, z403, z404, z405, z406, z407, z408, z409, z412, z413, z414, z415, z422, z423, z431, z441]) (fun nm' => by sym => simp [z0, z2, z14, z20, z44, z47, z48, z49, z50, z58, z59, z60, z62, z65, z66, z67, z68, z70, z72, z74, z77, z78, z87, z89, z90, z92, z94, z100, z101, z102, z135, z136, z137, z138, z140, z141, z142, z143, z144, z146, z147, z152, z153, z154, z155, z156, z157, z172, z179, z289, z293, z294, z295, z296, z297, z298, z300, z301, z302, z303, z304, z306, z307, z309, z310, z314, z320, z321, z328, z329, z337, z339, z341, z342, z343, z358, z360, z369, z370, z383, z384, z387, z388, z389, z390, z399, z403, z404, z405, z406, z407, z408, z409, z412, z413, z414, z415, z422, z423, z431, z441])
    (fun s x L hx => ce0_Endpoint _ _ (by simp [nm_pre1, List.isPrefixOf]) g x (p x) hf (hg x hx) L)
  rw [e]
  (rw [fn112]; sym => simp [b112.eq_1, call194, call195, h, hst, z0, z2, z14, z20, z44, z47, z48, z49, z50, z58, z59, z60, z62, z65, z66, z67, z68, z70, z72, z74, z77, z78, z87, z89, z90, z92, z94, z100, z101, z102, z135, z136, z137, z138, z140, z141, z142, z143, z144, z146, z147, z152, z153, z154, z155, z156, z157, z172, z179, z289, z293, z294, z295, z296, z297, z298, z300, z301, z302, z303, z304, z306, z307, z309, z310, z314, z320, z321, z328, z329, z337, z339, z341, z342, z343, z358, z360, z369, z370, z383, z384, z387, z388, z389, z390, z399, z403, z404, z405, z406, z407, z408, z409, z412, z413, z414, z415, z422, z423, z431, z441])

/-! Addr -/
theorem ixf_loop_Addr (p n : AE.Name) (g : Nat) (bs : List (AE.Name × Blk)) (tg : AE.Tag) (l : List Addr) (q : Addr → Bool) (hl : l.length ≤ 1000000000000)
    (hq : ∀ s x L, x ∈ l → eCall C (evW C tab) (p ++ s) g [(Addr.t x), .ptr n 0] [[], [], bs] L = some (.v (.bool (q x)), [[], [], bs], L)) :
    ∀ (rest : List Addr) (i : Nat), l.drop i = rest → i ≤ l.length → ∀ r, evI C tab p [0, 1, 7, 8] [4] l252_0 r ⟨[(0, .sl (l.map Addr.t) tg), (1, .fn (.func g) [] [.ptr n 0]), (7, .v (.int .i64 (l.length : Int))), (8, .v (.int .i64 (i : Int)))], [[], bs], [], 0⟩ = ixR bs (ixN q rest i) := by
  intro rest
  induction rest with
  | nil =>
    intro i hd hi r
    have hi' : i = l.length := by have := congrArg List.length hd; simp at this; omega
    have h1 : decide ((i : Int) < (l.length : Int)) = false := by simp; omega
    have e : ixN q [] i = none := rfl
    (rw [ev_round]; sym => simp [u252_0, m252_0.eq_1, e, h1, ixR_none, z0, z5, z8, z29, z45, z47, z48, z49, z50, z57, z58, z59, z60, z62, z76, z85, z86, z95, z99, z101, z104, z162, z175, z181, z309, z310, z311, z313, z314, z315, z316, z317, z318, z320, z321, z324, z325, z326, z328, z329, z336, z355, z367, z368, z369, z370, z383, z384, z399, z411, z412, z413, z414, z415, z417, z418, z437, z458, z459, z460])
  | cons x rest ih =>
    intro i hd hi r
    obtain ⟨hget, hlt, hd'⟩ := drop_cons hd
    have ih' := ih (i + 1) hd' (by omega)
    have h1 : decide ((i : Int) < (l.length : Int)) = true := by simp; omega
    have h2 : IntKind.i64.wrap ((i : Int) + 1) = ((i + 1 : Nat) : Int) := by rw [wrap_i64 (by omega) (by omega)]; omega
    have h3 : decide (0 ≤ (i : Int) ∧ (i : Int) < (l.length : Int)) = true := by simp; omega
    have hx := fun s L => hq s x L (List.mem_of_getElem? hget)
    have e : ixN q (x :: rest) i = if q x then some i else ixN q rest (i + 1) := rfl
    rw [e]
    cases hqx : q x
    · (rw [ev_round]; sym => simp [u252_0, m252_0.eq_1, h1, h2, h3, hget, hx, hqx, ih', hb16, take16, ptr0_encB, ptr1_encB, strip_encB, len_app, fm_app, map_app, z0, z5, z8, z29, z45, z47, z48, z49, z50, z57, z58, z59, z60, z62, z76, z85, z86, z95, z99, z101, z104, z162, z175, z181, z309, z310, z311, z313, z314, z315, z316, z317, z318, z320, z321, z324, z325, z326, z328, z329, z336, z355, z367, z368, z369, z370, z383, z384, z399, z411, z412, z413, z414, z415, z417, z418, z437, z458, z459, z460])
    · (rw [ev_round]; sym => simp [u252_0, m252_0.eq_1, h1, h2, h3, hget, hx, hqx, ixR_some, hb16, take16, ptr0_encB, ptr1_encB, strip_encB, len_app, fm_app, map_app, z0, z5, z8, z29, z45, z47, z48, z49, z50, z57, z58, z59, z60, z62, z76, z85, z86, z95, z99, z101, z104, z162, z175, z181, z309, z310, z311, z313, z314, z315, z316, z317, z318, z320, z321, z324, z325, z326, z328, z329, z336, z355, z367, z368, z369, z370, z383, z384, z399, z411, z412, z413, z414, z415, z417, z418, z437, z458, z459, z460])
theorem ixf_Addr (nm n : AE.Name) (g : Nat) (bs : List (AE.Name × Blk)) (tg : AE.Tag) (l : List Addr) (q : Addr → Bool) (hl : l.length ≤ 1000000000000)
    (hq : ∀ s x L, x ∈ l → eCall C (evW C tab) (nm ++ s) g [(Addr.t x), .ptr n 0] [[], [], bs] L = some (.v (.bool (q x)), [[], [], bs], L)) :
    evW C tab 252 nm [.sl (l.map Addr.t) tg, .fn (.func g) [] [.ptr n 0]] [bs] = some (.v (.int .i64 (match ixN q l 0 with | some j => (j : Int) | none => -1)), [bs]) := by
  have h := fun (s : AE.Name) r => ixf_loop_Addr (nm ++ s) n g bs tg l q hl (fun s' x L hx => by rw [List.append_assoc]; exact hq (s ++ s') x L hx) l 0 rfl (by omega) r
  simp only [cast0] at h
  cases hj : ixN q l 0
  · rw [hj] at h
    (rw [fn252]; sym => simp [b252.eq_1, h, ixR_none, z0, z41, z47, z48, z58, z59, z60, z62, z77, z78, z85, z86, z87, z89, z90, z92, z94, z110, z135, z136, z137, z138, z140, z141, z142, z143, z144, z289, z296, z308, z309, z310, z313, z314, z315, z318, z319, z320, z321, z327, z328, z329, z337, z339, z360, z369, z370, z383, z384, z403, z404, z412, z413, z459])
  · rw [hj] at h
    (rw [fn252]; sym => simp [b252.eq_1, h, ixR_some, z0, z41, z47, z48, z58, z59, z60, z62, z77, z78, z85, z86, z87, z89, z90, z92, z94, z110, z135, z136, z137, z138, z140, z141, z142, z143, z144, z289, z296, z308, z309, z310, z313, z314, z315, z318, z319, z320, z321, z327, z328, z329, z337, z339, z360, z369, z370, z383, z384, z403, z404, z412, z413, z459])
theorem conf_Addr (nm n : AE.Name) (g : Nat) (bs : List (AE.Name × Blk)) (s0 : List AE.Name) (tg : AE.Tag) (htg : ∀ n k, tg ≠ .own n k) (l : List Addr) (q : Addr → Bool) (hl : l.length ≤ 1000000000000)
    (hr : reach [[], bs] [.sl (l.map Addr.t) tg, .fn (.func g) [] [.ptr n 0]] = some s0) (hs : subH [[], bs] s0 = [bs]) (hm : ∀ nm, merge nm s0 [bs] [[], bs] = some [[], bs])
    (hq : ∀ s x L, x ∈ l → eCall C (evW C tab) (nm ++ s) g [(Addr.t x), .ptr n 0] [[], [], bs] L = some (.v (.bool (q x)), [[], [], bs], L)) :
    evW C tab 229 nm [.sl (l.map Addr.t) tg, .fn (.func g) [] [.ptr n 0]] [bs] = some (.v (.bool (l.any q)), [bs]) := by
  have h := fun (s : AE.Name) => ixf_Addr (nm ++ s) n g bs tg l q hl (fun s' x L hx => by rw [List.append_assoc]; exact hq (s ++ s') x L hx)
  have hst : strip1 (.sl (l.map Addr.t) tg) = .sl (l.map Addr.t) tg := by cases tg <;> first | rfl | exact absurd rfl (htg _ _)
  have ha := ixN_any q l 0
  have h1 : ∀ j : Nat, decide (0 ≤ (j : Int)) = true := fun j => by simp
  have heapK' : ∀ nm L, heapK (evW C tab) nm 252 [.sl (l.map Addr.t) tg, .fn (.func g) [] [.ptr n 0]] [[], bs] L (reach [[], bs] [.sl (l.map Addr.t) tg, .fn (.func g) [] [.ptr n 0]]) = heapR nm s0 [[], bs] L (evW C tab 252 nm [.sl (l.map Addr.t) tg, .fn (.func g) [] [.ptr n 0]] [bs]) := fun nm L => by
    rw [hr, heapK_some, hs]
  have hcall : ∀ s L, eCall C (evW C tab) (nm ++ s) 252 [.sl (l.map Addr.t) tg, .fn (.func g) [] [.ptr n 0]] [[], bs] L = some (.v (.int .i64 (match ixN q l 0 with | some j => (j : Int) | none => -1)), [[], bs], L) := fun s L => by
    rw [call252, heapK', h, heapR_some, hm, heapM_some]; rfl
  cases hj : ixN q l 0
  · rw [hj] at hcall ha
    rw [← ha]
    clear h heapK' hr hs hm hq
    (rw [fn229]; sym => simp [b229.eq_1, hcall, hst, z0, z8, z44, z47, z48, z49, z50, z58, z59, z60, z62, z77, z78, z87, z89, z90, z92, z94, z99, z135, z136, z137, z138, z140, z141, z142, z143, z144, z172, z179, z289, z296, z309, z310, z314, z320, z321, z328, z329, z337, z339, z360, z369, z370, z383, z384, z389, z390, z399, z403, z404, z412, z413, z414, z415, z437, z446])
  · rw [hj] at hcall ha
    rw [← ha]
    clear h heapK' hr hs hm hq
    (rw [fn229]; sym => simp [b229.eq_1, hcall, hst, h1, z0, z8, z44, z47, z48, z49, z50, z58, z59, z60, z62, z77, z78, z87, z89, z90, z92, z94, z99, z135, z136, z137, z138, z140, z141, z142, z143, z144, z172, z179, z289, z296, z309, z310, z314, z320, z321, z328, z329, z337, z339, z360, z369, z370, z383, z384, z389, z390, z399, z403, z404, z412, z413, z414, z415, z437, z446])

theorem cl0_Addr (nm n : AE.Name) (hn : nm.isPrefixOf n = false) (g : Nat) (x : Addr) (p : Bool) (hf : ∀ nm xs h L, eCall C (evW C tab) nm g xs h L = freeK nm h L (evW C tab g nm xs [])) (hg : ∀ nm, evW C tab g nm [(Addr.t x)] [] = some (.v (.bool p), [])) :
    evW C tab 230 nm [(Addr.t x), .ptr n 0] [[(n, .box [.fn (.func g) [] []])]] = some (.v (.bool (!p)), [[(n, .box [.fn (.func g) [] []])]]) := by
  have n1 := npre_ne hn
  have n2 := npre_ne' hn
  (rw [fn230]; sym => simp [b230.eq_1, n1, n2, hn, hf, hg, hb16, take16, ptr0_encB, ptr1_encB, strip_encB, len_app, fm_app, map_app, z0, z2, z5, z14, z45, z47, z48, z49, z50, z58, z59, z60, z62, z65, z66, z67, z68, z70, z75, z76, z77, z78, z87, z89, z90, z92, z94, z95, z100, z101, z102, z135, z136, z137, z138, z140, z141, z142, z143, z144, z146, z147, z162, z181, z289, z296, z309, z310, z314, z320, z321, z328, z329, z337, z339, z340, z360, z369, z370, z383, z384, z387, z388, z395, z399, z403, z404, z405, z411, z412, z413, z414, z415, z417, z418, z459])
theorem ce0_Addr (nm n : AE.Name) (hn : nm.isPrefixOf n = false) (g : Nat) (x : Addr) (p : Bool) (hf : ∀ nm xs h L, eCall C (evW C tab) nm g xs h L = freeK nm h L (evW C tab g nm xs [])) (hg : ∀ nm, evW C tab g nm [(Addr.t x)] [] = some (.v (.bool p), [])) (L : List AE.Name) :
    eCall C (evW C tab) nm 230 [(Addr.t x), .ptr n 0] [[], [], [(n, .box [.fn (.func g) [] []])]] L = some (.v (.bool (!p)), [[], [], [(n, .box [.fn (.func g) [] []])]], L) := by
  have h := cl0_Addr nm n hn g x p hf hg
  sym => simp [call230, h, hb16, take16, ptr0_encB, ptr1_encB, strip_encB, len_app, fm_app, map_app, z65, z66, z67, z68, z72, z74, z146, z147, z152, z153, z154, z155, z156, z157, z293, z294, z295, z297, z298, z300, z301, z302, z303, z304, z306, z307, z341, z342, z343, z358, z387, z388, z389, z390, z399, z404, z406, z407, z408, z409, z412, z413, z414, z415, z422, z423, z431, z441]
theorem every0_Addr (nm : AE.Name) (g : Nat) (tg : AE.Tag) (htg : ∀ n k, tg ≠ .own n k) (l : List Addr) (p : Addr → Bool) (hl : l.length ≤ 1000000000000) (hf : ∀ nm xs h L, eCall C (evW C tab) nm g xs h L = freeK nm h L (evW C tab g nm xs []))
    (hg : ∀ x ∈ l, ∀ nm, evW C tab g nm [(Addr.t x)] [] = some (.v (.bool (p x)), [])) : evW C tab 184 nm [.sl (l.map Addr.t) tg, .fn (.func g) [] []] [[]] = some (.v (.bool (l.all p)), [[]]) := by
  have e : l.all p = !l.any (fun x => !p x) := by rw [List.any_eq_not_all_not]; simp
  have hst : strip1 (.sl (l.map Addr.t) tg) = .sl (l.map Addr.t) tg := by cases tg <;> first | rfl | exact absurd rfl (htg _ _)
  have h := conf_Addr (nm ++ [1, 2]) (nm ++ [0, 0]) 230 [(nm ++ [0, 0], .box [.fn (.func g) [] []])] [nm ++ [0, 0]] tg htg l (fun x => !p x) hl (by sym => simp [z0, z2, z14, z20, z44, z47, z48, z49, z50, z58, z59, z60, z62, z65, z66, z67, z68, z70, z72, z74, z77, z78, z87, z89, z90, z92, z94, z100, z101, z102, z135, z136, z137, z138, z140, z141, z142, z143, z144, z146, z147, z152, z153, z154, z155, z156, z157, z172, z179, z289, z293, z294, z295, z296, z297, z298, z300, z301, z302, z303, z304, z306, z307, z309, z310, z314, z320, z321, z328, z329, z337, z339, z341, z342, z343, z358, z360, z369, z370, z383, z384, z387, z388, z389, z390, z399, z403, z404, z405, z406, z407, z408, z409, z412, z413, z414, z415, z422, z423, z431, z441]) (by sym => simp [z0, z2, z14, z20, z44, z47, z48, z49, z50, z58, z59, z60, z62, z65, z66, z67, z68, z70, z72, z74, z77, z78, z87, z89, z90, z92, z94, z100, z101, z102, z135, z136, z137, z138, z140, z141, z142, z143, z144, z146, z147, z152, z153, z154, z155, z156, z157, z172, z179, z289, z293, z294, z295, z296, z297, z298, z300, z301, z302, z303, z304, z306, z307, z309, z310, z314, z320, z321, z328, z329, z337, z339, z341, z342, z343, z358, z360, z369, z370, z383, z384, z387, z388, z389, z390, z399, z403, z404, z405, z406, z407, z408, z409, z412, z413, z414, z415, z422, z423, z431, z441]) (fun nm' => by sym => simp [z0, z2, z14, z20, z44, z47, z48, z49, z50, z58, z59, z60, z62, z65, z66, z67, z68, z70, z72, z74, z77, z78, z87, z89, z90, z92, z94, z100, z101, z102, z135, z136, z137, z138, z140, z141, z142, z143, z144, z146, z147, z152, z153, z154, z155, z156, z157, z172, z179, z289, z293, z294, z295, z296, z297, z298, z300, z301, z302, z303, z304, z306, z307, z309, z310, z314, z320, z321, z328, z329, z337, z339, z341, z342, z343, z358, z360, z369, z370, z383, z384, z387, z388, z389, z390, z399, z403, z404, z405, z406, z407, z408, z409, z412, z413, z414, z415, z422, z423, z431, z441])
    (fun s x L hx => ce0_Addr _ _ (by simp [nm_pre1, List.isPrefixOf]) g x (p x) hf (hg x hx) L)
  rw [e]
  (rw [fn184]; sym => simp [b184.eq_1, call229, call230, h, hst, z0, z2, z14, z20, z44, z47, z48, z49, z50, z58, z59, z60, z62, z65, z66, z67, z68, z70, z72, z74, z77, z78, z87, z89, z90, z92, z94, z100, z101, z102, z135, z136, z137, z138, z140, z141, z142, z143, z144, z146, z147, z152, z153, z154, z155, z156, z157, z172, z179, z289, z293, z294, z295, z296, z297, z298, z300, z301, z302, z303, z304, z306, z307, z309, z310, z314, z320, z321, z328, z329, z337, z339, z341, z342, z343, z358, z360, z369, z370, z383, z384, z387, z388, z389, z390, z399, z403, z404, z405, z406, z407, z408, z409, z412, z413, z414, z415, z422, z423, z431, z441])

/-! Cidr -/
theorem ixf_loop_Cidr (p n : AE.Name) (g : Nat) (bs : List (AE.Name × Blk)) (tg : AE.Tag) (l : List Cidr) (q : Cidr → Bool) (hl : l.length ≤ 1000000000000)
    (hq : ∀ s x L, x ∈ l → eCall C (evW C tab) (p ++ s) g [(Cidr.t x), .ptr n 0] [[], [], bs] L = some (.v (.bool (q x)), [[], [], bs], L)) :
    ∀ (rest : List Cidr) (i : Nat), l.drop i = rest → i ≤ l.length → ∀ r, evI C tab p [0, 1, 7, 8] [4] l244_0 r ⟨[(0, .sl (l.map Cidr.t) tg), (1, .fn (.func g) [] [.ptr n 0]), (7, .v (.int .i64 (l.length : Int))), (8, .v (.int .i64 (i : Int)))], [[], bs], [], 0⟩ = ixR bs (ixN q rest i) := by
  intro rest
  induction rest with
  | nil =>
    intro i hd hi r
    have hi' : i = l.length := by have := congrArg List.length hd; simp at this; omega
    have h1 : decide ((i : Int) < (l.length : Int)) = false := by simp; omega
    have e : ixN q [] i = none := rfl
    (rw [ev_round]; sym => simp [u244_0, m244_0.eq_1, e, h1, ixR_none, z0, z5, z8, z29, z45, z47, z48, z49, z50, z57, z58, z59, z60, z62, z76, z85, z86, z95, z99, z101, z104, z162, z175, z181, z309, z310, z311, z313, z314, z315, z316, z317, z318, z320, z321, z324, z325, z326, z328, z329, z336, z355, z367, z368, z369, z370, z383, z384, z399, z410, z411, z412, z413, z414, z415, z417, z418, z437, z458, z459, z460])
  | cons x rest ih =>
    intro i hd hi r
    obtain ⟨hget, hlt, hd'⟩ := drop_cons hd
    have ih' := ih (i + 1) hd' (by omega)
    have h1 : decide ((i : Int) < (l.length : Int)) = true := by simp; omega
    have h2 : IntKind.i64.wrap ((i : Int) + 1) = ((i + 1 : Nat) : Int) := by rw [wrap_i64 (by omega) (by omega)]; omega
    have h3 : decide (0 ≤ (i : Int) ∧ (i : Int) < (l.length : Int)) = true := by simp; omega
    have hx := fun s L => hq s x L (List.mem_of_getElem? hget)
    have e : ixN q (x :: rest) i = if q x then some i else ixN q rest (i + 1) := rfl
    rw [e]
    cases hqx : q x
    · (rw [ev_round]; sym => simp [u244_0, m244_0.eq_1, h1, h2, h3, hget, hx, hqx, ih', hb16, take17a, ptr0_encB, ptr1_encB, strip_encB, len_app, fm_app, map_app, z0, z5, z8, z29, z45, z47, z48, z49, z50, z57, z58, z59, z60, z62, z76, z85, z86, z95, z99, z101, z104, z162, z175, z181, z309, z310, z311, z313, z314, z315, z316, z317, z318, z320, z321, z324, z325, z326, z328, z329, z336, z355, z367, z368, z369, z370, z383, z384, z399, z410, z411, z412, z413, z414, z415, z417, z418, z437, z458, z459, z460])
    · (rw [ev_round]; sym => simp [u244_0, m244_0.eq_1, h1, h2, h3, hget, hx, hqx, ixR_some, hb16, take17a, ptr0_encB, ptr1_encB, strip_encB, len_app, fm_app, map_app, z0, z5, z8, z29, z45, z47, z48, z49, z50, z57, z58, z59, z60, z62, z76, z85, z86, z95, z99, z101, z104, z162, z175, z181, z309, z310, z311, z313, z314, z315, z316, z317, z318, z320, z321, z324, z325, z326, z328, z329, z336, z355, z367, z368, z369, z370, z383, z384, z399, z410, z411, z412, z413, z414, z415, z417, z418, z437, z458, z459, z460])
theorem ixf_Cidr (nm n : AE.Name) (g : Nat) (bs : List (AE.Name × Blk)) (tg : AE.Tag) (l : List Cidr) (q : Cidr → Bool) (hl : l.length ≤ 1000000000000)
    (hq : ∀ s x L, x ∈ l → eCall C (evW C tab) (nm ++ s) g [(Cidr.t x), .ptr n 0] [[], [], bs] L = some (.v (.bool (q x)), [[], [], bs], L)) :
    evW C tab 244 nm [.sl (l.map Cidr.t) tg, .fn (.func g) [] [.ptr n 0]] [bs] = some (.v (.int .i64 (match ixN q l 0 with | some j => (j : Int) | none => -1)), [bs]) := by
  have h := fun (s : AE.Name) r => ixf_loop_Cidr (nm ++ s) n g bs tg l q hl (fun s' x L hx => by rw [List.append_assoc]; exact hq (s ++ s') x L hx) l 0 rfl (by omega) r
  simp only [cast0] at h
  cases hj : ixN q l 0
  · rw [hj] at h
    (rw [fn244]; sym => simp [b244.eq_1, h, ixR_none, z0, z41, z47, z48, z58, z59, z60, z62, z77, z78, z85, z86, z87, z89, z90, z92, z94, z110, z135, z136, z137, z138, z140, z141, z142, z143, z144, z289, z296, z308, z309, z310, z313, z314, z315, z318, z319, z320, z321, z327, z328, z329, z337, z339, z360, z369, z370, z383, z384, z403, z404, z412, z413, z459])
  · rw [hj] at h
    (rw [fn244]; sym => simp [b244.eq_1, h, ixR_some, z0, z41, z47, z48, z58, z59, z60, z62, z77, z78, z85, z86, z87, z89, z90, z92, z94, z110, z135, z136, z137, z138, z140, z141, z142, z143, z144, z289, z296, z308, z309, z310, z313, z314, z315, z318, z319, z320, z321, z327, z328, z329, z337, z339, z360, z369, z370, z383, z384, z403, z404, z412, z413, z459])
theorem conf_Cidr (nm n : AE.Name) (g : Nat) (bs : List (AE.Name × Blk)) (s0 : List AE.Name) (tg : AE.Tag) (htg : ∀ n k, tg ≠ .own n k) (l : List Cidr) (q : Cidr → Bool) (hl : l.length ≤ 1000000000000)
    (hr : reach [[], bs] [.sl (l.map Cidr.t) tg, .fn (.func g) [] [.ptr n 0]] = some s0) (hs : subH [[], bs] s0 = [bs]) (hm : ∀ nm, merge nm s0 [bs] [[], bs] = some [[], bs])
    (hq : ∀ s x L, x ∈ l → eCall C (evW C tab) (nm ++ s) g [(Cidr.t x), .ptr n 0] [[], [], bs] L = some (.v (.bool (q x)), [[], [], bs], L)) :
    evW C tab 208 nm [.sl (l.map Cidr.t) tg, .fn (.func g) [] [.ptr n 0]] [bs] = some (.v (.bool (l.any q)), [bs]) := by
  have h := fun (s : AE.Name) => ixf_Cidr (nm ++ s) n g bs tg l q hl (fun s' x L hx => by rw [List.append_assoc]; exact hq (s ++ s') x L hx)
  have hst : strip1 (.sl (l.map Cidr.t) tg) = .sl (l.map Cidr.t) tg := by cases tg <;> first | rfl | exact absurd rfl (htg _ _)
  have ha := ixN_any q l 0
  have h1 : ∀ j : Nat, decide (0 ≤ (j : Int)) = true := fun j => by simp
  have heapK' : ∀ nm L, heapK (evW C tab) nm 244 [.sl (l.map Cidr.t) tg, .fn (.func g) [] [.ptr n 0]] [[], bs] L (reach [[], bs] [.sl (l.map Cidr.t) tg, .fn (.func g) [] [.ptr n 0]]) = heapR nm s0 [[], bs] L (evW C tab 244 nm [.sl (l.map Cidr.t) tg, .fn (.func g) [] [.ptr n 0]] [bs]) := fun nm L => by
    rw [hr, heapK_some, hs]
  have hcall : ∀ s L, eCall C (evW C tab) (nm ++ s) 244 [.sl (l.map Cidr.t) tg, .fn (.func g) [] [.ptr n 0]] [[], bs] L = some (.v (.int .i64 (match ixN q l 0 with | some j => (j : Int) | none => -1)), [[], bs], L) := fun s L => by
    rw [call244, heapK', h, heapR_some, hm, heapM_some]; rfl
  cases hj : ixN q l 0
  · rw [hj] at hcall ha
    rw [← ha]
    clear h heapK' hr hs hm hq
    (rw [fn208]; sym => simp [b208.eq_1, hcall, hst, z0, z8, z44, z47, z48, z49, z50, z58, z59, z60, z62, z77, z78, z87, z89, z90, z92, z94, z99, z135, z136, z137, z138, z140, z141, z142, z143, z144, z172, z179, z289, z296, z309, z310, z314, z320, z321, z328, z329, z337, z339, z360, z369, z370, z383, z384, z389, z390, z399, z403, z404, z412, z413, z414, z415, z437, z446])
  · rw [hj] at hcall ha
    rw [← ha]
    clear h heapK' hr hs hm hq
    (rw [fn208]; sym => simp [b208.eq_1, hcall, hst, h1, z0, z8, z44, z47, z48, z49, z50, z58, z59, z60, z62, z77, z78, z87, z89, z90, z92, z94, z99, z135, z136, z137, z138, z140, z141, z142, z143, z144, z172, z179, z289, z296, z309, z310, z314, z320, z321, z328, z329, z337, z339, z360, z369, z370, z383, z384, z389, z390, z399, z403, z404, z412, z413, z414, z415, z437, z446])

theorem cl0_Cidr (nm n : AE.Name) (hn : nm.isPrefixOf n = false) (g : Nat) (x : Cidr) (p : Bool) (hf : ∀ nm xs h L, eCall C (evW C tab) nm g xs h L = freeK nm h L (evW C tab g nm xs [])) (hg : ∀ nm, evW C tab g nm [(Cidr.t x)] [] = some (.v (.bool p), [])) :
    evW C tab 209 nm [(Cidr.t x), .ptr n 0] [[(n, .box [.fn (.func g) [] []])]] = some (.v (.bool (!p)), [[(n, .box [.fn (.func g) [] []])]]) := by
  have n1 := npre_ne hn
  have n2 := npre_ne' hn
  (rw [fn209]; sym => simp [b209.eq_1, n1, n2, hn, hf, hg, hb16, take17a, ptr0_encB, ptr1_encB, strip_encB, len_app, fm_app, map_app, z0, z2, z5, z14, z45, z47, z48, z49, z50, z58, z59, z60, z62, z65, z66, z67, z68, z70, z75, z76, z77, z78, z87, z89, z90, z92, z94, z95, z100, z101, z102, z135, z136, z137, z138, z140, z141, z142, z143, z144, z146, z147, z162, z181, z289, z296, z309, z310, z314, z320, z321, z328, z329, z337, z339, z340, z360, z369, z370, z383, z384, z387, z388, z395, z399, z403, z404, z405, z410, z411, z412, z413, z414, z415, z417, z418, z459])
theorem ce0_Cidr (nm n : AE.Name) (hn : nm.isPrefixOf n = false) (g : Nat) (x : Cidr) (p : Bool) (hf : ∀ nm xs h L, eCall C (evW C tab) nm g xs h L = freeK nm h L (evW C tab g nm xs [])) (hg : ∀ nm, evW C tab g nm [(Cidr.t x)] [] = some (.v (.bool p), [])) (L : List AE.Name) :
    eCall C (evW C tab) nm 209 [(Cidr.t x), .ptr n 0] [[], [], [(n, .box [.fn (.func g) [] []])]] L = some (.v (.bool (!p)), [[], [], [(n, .box [.fn (.func g) [] []])]], L) := by
  have h := cl0_Cidr nm n hn g x p hf hg
  sym => simp [call209, h, hb16, take17a, ptr0_encB, ptr1_encB, strip_encB, len_app, fm_app, map_app, z65, z66, z67, z68, z72, z74, z146, z147, z152, z153, z154, z155, z156, z157, z293, z294, z295, z297, z298, z300, z301, z302, z303, z304, z306, z307, z341, z342, z343, z358, z387, z388, z389, z390, z399, z404, z406, z407, z408, z409, z412, z413, z414, z415, z422, z423, z431, z441]
theorem every0_Cidr (nm : AE.Name) (g : Nat) (tg : AE.Tag) (htg : ∀ n k, tg ≠ .own n k) (l : List Cidr) (p : Cidr → Bool) (hl : l.length ≤ 1000000000000) (hf : ∀ nm xs h L, eCall C (evW C tab) nm g xs h L = freeK nm h L (evW C tab g nm xs []))
    (hg : ∀ x ∈ l, ∀ nm, evW C tab g nm [(Cidr.t x)] [] = some (.v (.bool (p x)), [])) : evW C tab 146 nm [.sl (l.map Cidr.t) tg, .fn (.func g) [] []] [[]] = some (.v (.bool (l.all p)), [[]]) := by
  have e : l.all p = !l.any (fun x => !p x) := by rw [List.any_eq_not_all_not]; simp
  have hst : strip1 (.sl (l.map Cidr.t) tg) = .sl (l.map Cidr.t) tg := by cases tg <;> first | rfl | exact absurd rfl (htg _ _)
  have h := conf_Cidr (nm ++ [1, 2]) (nm ++ [0, 0]) 209 [(nm ++ [0, 0], .box [.fn (.func g) [] []])] [nm ++ [0, 0]] tg htg l (fun x => !p x) hl (by sym => simp [z0, z2, z14, z20, z44, z47, z48, z49, z50, z58, z59, z60, z62, z65, z66, z67, z68, z70, z72, z74, z77, z78, z87, z89, z90, z92, z94, z100, z101, z102, z135, z136, z137, z138, z140, z141, z142, z143, z144, z146, z147, z152, z153, z154, z155, z156, z157, z172, z179, z289, z293, z294, z295, z296, z297, z298, z300, z301, z302, z303, z304, z306, z307, z309, z310, z314, z320, z321, z328, z329, z337, z339, z341, z342, z343, z358, z360, z369, z370, z383, z384, z387, z388, z389, z390, z399, z403, z404, z405, z406, z407, z408, z409, z412, z413, z414, z415, z422, z423, z431, z441]) (by sym => simp [z0, z2, z14, z20, z44, z47, z48, z49, z50, z58, z59, z60, z62, z65, z66, z67, z68, z70, z72, z74, z77, z78, z87, z89, z90, z92, z94, z100, z101, z102, z135, z136, z137, z138, z140, z141, z142, z143, z144, z146, z147, z152, z153, z154, z155, z156, z157, z172, z179, z289, z293, z294, z295, z296, z297, z298, z300, z301, z302, z303, z304, z306, z307, z309, z310, z314, z320, z321, z328, z329, z337, z339, z341, z342, z343, z358, z360, z369, z370, z383, z384, z387, z388, z389, z390, z399, z403, z404, z405, z406, z407, z408, z409, z412, z413, z414, z415, z422, z423, z431, z441]) (fun nm' => by sym => simp [z0, z2, z14, z20, z44, z47, z48, z49, z50, z58, z59, z60, z62, z65, z66, z67, z68, z70, z72, z74, z77, z78, z87, z89, z90, z92, z94, z100, z101, z102, z135, z136, z137, z138, z140, z141, z142, z143, z144, z146, z147, z152, z153, z154, z155, z156, z157, z172, z179, z289, z293, z294, z295, z296, z297, z298, z300, z301, z302, z303, z304, z306, z307, z309, z310, z314, z320, z321, z328, z329, z337, z339, z341, z342, z343, z358, z360, z369, z370, z383, z384, z387, z388, z389, z390, z399, z403, z404, z405, z406, z407, z408, z409, z412, z413, z414, z415, z422, z423, z431, z441])
    (fun s x L hx => ce0_Cidr _ _ (by simp [nm_pre1, List.isPrefixOf]) g x (p x) hf (hg x hx) L)
  rw [e]
  (rw [fn146]; sym => simp [b146.eq_1, call208, call209, h, hst, z0, z2, z14, z20, z44, z47, z48, z49, z50, z58, z59, z60, z62, z65, z66, z67, z68, z70, z72, z74, z77, z78, z87, z89, z90, z92, z94, z100, z101, z102, z135, z136, z137, z138, z140, z141, z142, z143, z144, z146, z147, z152, z153, z154, z155, z156, z157, z172, z179, z289, z293, z294, z295, z296, z297, z298, z300, z301, z302, z303, z304, z306, z307, z309, z310, z314, z320, z321, z328, z329, z337, z339, z341, z342, z343, z358, z360, z369, z370, z383, z384, z387, z388, z389, z390, z399, z403, z404, z405, z406, z407, z408, z409, z412, z413, z414, z415, z422, z423, z431, z441])

/-! Str -/
theorem ixf_loop_Str (p n : AE.Name) (g : Nat) (bs : List (AE.Name × Blk)) (tg : AE.Tag) (l : List (List UInt8)) (q : (List UInt8) → Bool) (hl : l.length ≤ 1000000000000)
    (hq : ∀ s x L, x ∈ l → eCall C (evW C tab) (p ++ s) g [(tx x), .ptr n 0] [[], [], bs] L = some (.v (.bool (q x)), [[], [], bs], L)) :
    ∀ (rest : List (List UInt8)) (i : Nat), l.drop i = rest → i ≤ l.length → ∀ r, evI C tab p [0, 1, 7, 8] [4] l257_0 r ⟨[(0, .sl (l.map tx) tg), (1, .fn (.func g) [] [.ptr n 0]), (7, .v (.int .i64 (l.length : Int))), (8, .v (.int .i64 (i : Int)))], [[], bs], [], 0⟩ = ixR bs (ixN q rest i) := by
  intro rest
  induction rest with
  | nil =>
    intro i hd hi r
    have hi' : i = l.length := by have := congrArg List.length hd; simp at this; omega
    have h1 : decide ((i : Int) < (l.length : Int)) = false := by simp; omega
    have e : ixN q [] i = none := rfl
    (rw [ev_round]; sym => simp [u257_0, m257_0.eq_1, e, h1, ixR_none, z0, z5, z8, z29, z45, z47, z48, z49, z50, z57, z58, z59, z60, z62, z75, z85, z86, z95, z99, z101, z104, z173, z175, z309, z310, z311, z313, z314, z315, z316, z317, z318, z320, z321, z324, z325, z326, z328, z329, z336, z355, z367, z368, z369, z370, z383, z384, z395, z399, z411, z412, z413, z414, z415, z437, z458, z459, z460])
  | cons x rest ih =>
    intro i hd hi r
    obtain ⟨hget, hlt, hd'⟩ := drop_cons hd
    have ih' := ih (i + 1) hd' (by omega)
    have h1 : decide ((i : Int) < (l.length : Int)) = true := by simp; omega
    have h2 : IntKind.i64.wrap ((i : Int) + 1) = ((i + 1 : Nat) : Int) := by rw [wrap_i64 (by omega) (by omega)]; omega
    have h3 : decide (0 ≤ (i : Int) ∧ (i : Int) < (l.length : Int)) = true := by simp; omega
    have hx := fun s L => hq s x L (List.mem_of_getElem? hget)
    have e : ixN q (x :: rest) i = if q x then some i else ixN q rest (i + 1) := rfl
    rw [e]
    cases hqx : q x
    · (rw [ev_round]; sym => simp [u257_0, m257_0.eq_1, h1, h2, h3, hget, hx, hqx, ih', len0, z0, z5, z8, z29, z45, z47, z48, z49, z50, z57, z58, z59, z60, z62, z75, z85, z86, z95, z99, z101, z104, z173, z175, z309, z310, z311, z313, z314, z315, z316, z317, z318, z320, z321, z324, z325, z326, z328, z329, z336, z355, z367, z368, z369, z370, z383, z384, z395, z399, z411, z412, z413, z414, z415, z437, z458, z459, z460])
    · (rw [ev_round]; sym => simp [u257_0, m257_0.eq_1, h1, h2, h3, hget, hx, hqx, ixR_some, len0, z0, z5, z8, z29, z45, z47, z48, z49, z50, z57, z58, z59, z60, z62, z75, z85, z86, z95, z99, z101, z104, z173, z175, z309, z310, z311, z313, z314, z315, z316, z317, z318, z320, z321, z324, z325, z326, z328, z329, z336, z355, z367, z368, z369, z370, z383, z384, z395, z399, z411, z412, z413, z414, z415, z437, z458, z459, z460])
theorem ixf_Str (nm n : AE.Name) (g : Nat) (bs : List (AE.Name × Blk)) (tg : AE.Tag) (l : List (List UInt8)) (q : (List UInt8) → Bool) (hl : l.length ≤ 1000000000000)
    (hq : ∀ s x L, x ∈ l → eCall C (evW C tab) (nm ++ s) g [(tx x), .ptr n 0] [[], [], bs] L = some (.v (.bool (q x)), [[], [], bs], L)) :
    evW C tab 257 nm [.sl (l.map tx) tg, .fn (.func g) [] [.ptr n 0]] [bs] = some (.v (.int .i64 (match ixN q l 0 with | some j => (j : Int) | none => -1)), [bs]) := by
  have h := fun (s : AE.Name) r => ixf_loop_Str (nm ++ s) n g bs tg l q hl (fun s' x L hx => by rw [List.append_assoc]; exact hq (s ++ s') x L hx) l 0 rfl (by omega) r
  simp only [cast0] at h
  cases hj : ixN q l 0
  · rw [hj] at h
    (rw [fn257]; sym => simp [b257.eq_1, h, ixR_none, z0, z41, z47, z48, z58, z59, z60, z62, z77, z78, z85, z86, z87, z89, z90, z92, z94, z110, z135, z136, z137, z138, z140, z141, z142, z143, z144, z289, z296, z308, z309, z310, z313, z314, z315, z318, z319, z320, z321, z327, z328, z329, z337, z339, z360, z369, z370, z383, z384, z403, z404, z412, z413, z459])
  · rw [hj] at h
    (rw [fn257]; sym => simp [b257.eq_1, h, ixR_some, z0, z41, z47, z48, z58, z59, z60, z62, z77, z78, z85, z86, z87, z89, z90, z92, z94, z110, z135, z136, z137, z138, z140, z141, z142, z143, z144, z289, z296, z308, z309, z310, z313, z314, z315, z318, z319, z320, z321, z327, z328, z329, z337, z339, z360, z369, z370, z383, z384, z403, z404, z412, z413, z459])
theorem conf_Str (nm n : AE.Name) (g : Nat) (bs : List (AE.Name × Blk)) (s0 : List AE.Name) (tg : AE.Tag) (htg : ∀ n k, tg ≠ .own n k) (l : List (List UInt8)) (q : (List UInt8) → Bool) (hl : l.length ≤ 1000000000000)
    (hr : reach [[], bs] [.sl (l.map tx) tg, .fn (.func g) [] [.ptr n 0]] = some s0) (hs : subH [[], bs] s0 = [bs]) (hm : ∀ nm, merge nm s0 [bs] [[], bs] = some [[], bs])
    (hq : ∀ s x L, x ∈ l → eCall C (evW C tab) (nm ++ s) g [(tx x), .ptr n 0] [[], [], bs] L = some (.v (.bool (q x)), [[], [], bs], L)) :
    evW C tab 240 nm [.sl (l.map tx) tg, .fn (.func g) [] [.ptr n 0]] [bs] = some (.v (.bool (l.any q)), [bs]) := by
  have h := fun (s : AE.Name) => ixf_Str (nm ++ s) n g bs tg l q hl (fun s' x L hx => by rw [List.append_assoc]; exact hq (s ++ s') x L hx)
  have hst : strip1 (.sl (l.map tx) tg) = .sl (l.map tx) tg := by cases tg <;> first | rfl | exact absurd rfl (htg _ _)
  have ha := ixN_any q l 0
  have h1 : ∀ j : Nat, decide (0 ≤ (j : Int)) = true := fun j => by simp
  have heapK' : ∀ nm L, heapK (evW C tab) nm 257 [.sl (l.map tx) tg, .fn (.func g) [] [.ptr n 0]] [[], bs] L (reach [[], bs] [.sl (l.map tx) tg, .fn (.func g) [] [.ptr n 0]]) = heapR nm s0 [[], bs] L (evW C tab 257 nm [.sl (l.map tx) tg, .fn (.func g) [] [.ptr n 0]] [bs]) := fun nm L => by
    rw [hr, heapK_some, hs]
  have hcall : ∀ s L, eCall C (evW C tab) (nm ++ s) 257 [.sl (l.map tx) tg, .fn (.func g) [] [.ptr n 0]] [[], bs] L = some (.v (.int .i64 (match ixN q l 0 with | some j => (j : Int) | none => -1)), [[], bs], L) := fun s L => by
    rw [call257, heapK', h, heapR_some, hm, heapM_some]; rfl
  cases hj : ixN q l 0
  · rw [hj] at hcall ha
    rw [← ha]
    clear h heapK' hr hs hm hq
    (rw [fn240]; sym => simp [b240.eq_1, hcall, hst, z0, z8, z44, z47, z48, z49, z50, z58, z59, z60, z62, z77, z78, z87, z89, z90, z92, z94, z99, z135, z136, z137, z138, z140, z141, z142, z143, z144, z172, z179, z289, z296, z309, z310, z314, z320, z321, z328, z329, z337, z339, z360, z369, z370, z383, z384, z389, z390, z399, z403, z404, z412, z413, z414, z415, z437, z446])
  · rw [hj] at hcall ha
    rw [← ha]
    clear h heapK' hr hs hm hq
    (rw [fn240]; sym => simp [b240.eq_1, hcall, hst, h1, z0, z8, z44, z47, z48, z49, z50, z58, z59, z60, z62, z77, z78, z87, z89, z90, z92, z94, z99, z135, z136, z137, z138, z140, z141, z142, z143, z144, z172, z179, z289, z296, z309, z310, z314, z320, z321, z328, z329, z337, z339, z360, z369, z370, z383, z384, z389, z390, z399, z403, z404, z412, z413, z414, z415, z437, z446])

theorem cl0_Str (nm n : AE.Name) (hn : nm.isPrefixOf n = false) (g : Nat) (x : (List UInt8)) (p : Bool) (hf : ∀ nm xs h L, eCall C (evW C tab) nm g xs h L = freeK nm h L (evW C tab g nm xs [])) (hg : ∀ nm, evW C tab g nm [(tx x)] [] = some (.v (.bool p), [])) :
    evW C tab 241 nm [(tx x), .ptr n 0] [[(n, .box [.fn (.func g) [] []])]] = some (.v (.bool (!p)), [[(n, .box [.fn (.func g) [] []])]]) := by
  have n1 := npre_ne hn
  have n2 := npre_ne' hn
  (rw [fn241]; sym => simp [b241.eq_1, n1, n2, hn, hf, hg, len0, z0, z5, z14, z45, z47, z48, z49, z50, z58, z59, z60, z62, z65, z66, z67, z68, z75, z77, z78, z87, z89, z90, z92, z94, z95, z100, z135, z136, z137, z138, z140, z141, z142, z143, z144, z146, z147, z173, z289, z296, z309, z310, z314, z320, z321, z328, z329, z337, z339, z340, z360, z369, z370, z383, z384, z387, z388, z395, z403, z404, z412, z413, z414, z415])
theorem ce0_Str (nm n : AE.Name) (hn : nm.isPrefixOf n = false) (g : Nat) (x : (List UInt8)) (p : Bool) (hf : ∀ nm xs h L, eCall C (evW C tab) nm g xs h L = freeK nm h L (evW C tab g nm xs [])) (hg : ∀ nm, evW C tab g nm [(tx x)] [] = some (.v (.bool p), [])) (L : List AE.Name) :
    eCall C (evW C tab) nm 241 [(tx x), .ptr n 0] [[], [], [(n, .box [.fn (.func g) [] []])]] L = some (.v (.bool (!p)), [[], [], [(n, .box [.fn (.func g) [] []])]], L) := by
  have h := cl0_Str nm n hn g x p hf hg
  sym => simp [call241, h, len0, z65, z66, z67, z68, z72, z74, z146, z147, z152, z153, z154, z155, z156, z157, z293, z294, z295, z297, z298, z300, z301, z302, z303, z304, z306, z307, z341, z342, z343, z358, z387, z388, z389, z390, z399, z404, z406, z407, z408, z409, z412, z413, z414, z415, z422, z423, z431, z441]
theorem every0_Str (nm : AE.Name) (g : Nat) (tg : AE.Tag) (htg : ∀ n k, tg ≠ .own n k) (l : List (List UInt8)) (p : (List UInt8) → Bool) (hl : l.length ≤ 1000000000000) (hf : ∀ nm xs h L, eCall C (evW C tab) nm g xs h L = freeK nm h L (evW C tab g nm xs []))
    (hg : ∀ x ∈ l, ∀ nm, evW C tab g nm [(tx x)] [] = some (.v (.bool (p x)), [])) : evW C tab 197 nm [.sl (l.map tx) tg, .fn (.func g) [] []] [[]] = some (.v (.bool (l.all p)), [[]]) := by
  have e : l.all p = !l.any (fun x => !p x) := by rw [List.any_eq_not_all_not]; simp
  have hst : strip1 (.sl (l.map tx) tg) = .sl (l.map tx) tg := by cases tg <;> first | rfl | exact absurd rfl (htg _ _)
  have h := conf_Str (nm ++ [1, 2]) (nm ++ [0, 0]) 241 [(nm ++ [0, 0], .box [.fn (.func g) [] []])] [nm ++ [0, 0]] tg htg l (fun x => !p x) hl (by sym => simp [z0, z2, z14, z20, z44, z47, z48, z49, z50, z58, z59, z60, z62, z65, z66, z67, z68, z70, z72, z74, z77, z78, z87, z89, z90, z92, z94, z100, z101, z102, z135, z136, z137, z138, z140, z141, z142, z143, z144, z146, z147, z152, z153, z154, z155, z156, z157, z172, z179, z289, z293, z294, z295, z296, z297, z298, z300, z301, z302, z303, z304, z306, z307, z309, z310, z314, z320, z321, z328, z329, z337, z339, z341, z342, z343, z358, z360, z369, z370, z383, z384, z387, z388, z389, z390, z399, z403, z404, z405, z406, z407, z408, z409, z412, z413, z414, z415, z422, z423, z431, z441]) (by sym => simp [z0, z2, z14, z20, z44, z47, z48, z49, z50, z58, z59, z60, z62, z65, z66, z67, z68, z70, z72, z74, z77, z78, z87, z89, z90, z92, z94, z100, z101, z102, z135, z136, z137, z138, z140, z141, z142, z143, z144, z146, z147, z152, z153, z154, z155, z156, z157, z172, z179, z289, z293, z294, z295, z296, z297, z298, z300, z301, z302, z303, z304, z306, z307, z309, z310, z314, z320, z321, z328, z329, z337, z339, z341, z342, z343, z358, z360, z369, z370, z383, z384, z387, z388, z389, z390, z399, z403, z404, z405, z406, z407, z408, z409, z412, z413, z414, z415, z422, z423, z431, z441]) (fun nm' => by sym => simp [z0, z2, z14, z20, z44, z47, z48, z49, z50, z58, z59, z60, z62, z65, z66, z67, z68, z70, z72, z74, z77, z78, z87, z89, z90, z92, z94, z100, z101, z102, z135, z136, z137, z138, z140, z141, z142, z143, z144, z146, z147, z152, z153, z154, z155, z156, z157, z172, z179, z289, z293, z294, z295, z296, z297, z298, z300, z301, z302, z303, z304, z306, z307, z309, z310, z314, z320, z321, z328, z329, z337, z339, z341, z342, z343, z358, z360, z369, z370, z383, z384, z387, z388, z389, z390, z399, z403, z404, z405, z406, z407, z408, z409, z412, z413, z414, z415, z422, z423, z431, z441])
    (fun s x L hx => ce0_Str _ _ (by simp [nm_pre1, List.isPrefixOf]) g x (p x) hf (hg x hx) L)
  rw [e]
  (rw [fn197]; sym => simp [b197.eq_1, call240, call241, h, hst, z0, z2, z14, z20, z44, z47, z48, z49, z50, z58, z59, z60, z62, z65, z66, z67, z68, z70, z72, z74, z77, z78, z87, z89, z90, z92, z94, z100, z101, z102, z135, z136, z137, z138, z140, z141, z142, z143, z144, z146, z147, z152, z153, z154, z155, z156, z157, z172, z179, z289, z293, z294, z295, z296, z297, z298, z300, z301, z302, z303, z304, z306, z307, z309, z310, z314, z320, z321, z328, z329, z337, z339, z341, z342, z343, z358, z360, z369, z370, z383, z384, z387, z388, z389, z390, z399, z403, z404, z405, z406, z407, z408, z409, z412, z413, z414, z415, z422, z423, z431, z441])

/-! AL -/
theorem ixf_loop_AL (p n : AE.Name) (g : Nat) (bs : List (AE.Name × Blk)) (tg : AE.Tag) (l : List AL) (q : AL → Bool) (hl : l.length ≤ 1000000000000)
    (hq : ∀ s x L, x ∈ l → eCall C (evW C tab) (p ++ s) g [(AL.t' x), .ptr n 0] [[], [], bs] L = some (.v (.bool (q x)), [[], [], bs], L)) :
    ∀ (rest : List AL) (i : Nat), l.drop i = rest → i ≤ l.length → ∀ r, evI C tab p [0, 1, 7, 8] [4] l243_0 r ⟨[(0, .sl (l.map AL.t') tg), (1, .fn (.func g) [] [.ptr n 0]), (7, .v (.int .i64 (l.length : Int))), (8, .v (.int .i64 (i : Int)))], [[], bs], [], 0⟩ = ixR bs (ixN q rest i) := by
  intro rest
  induction rest with
  | nil =>
    intro i hd hi r
    have hi' : i = l.length := by have := congrArg List.length hd; simp at this; omega
    have h1 : decide ((i : Int) < (l.length : Int)) = false := by simp; omega
    have e : ixN q [] i = none := rfl
    (rw [ev_round]; sym => simp [u243_0, m243_0.eq_1, e, h1, ixR_none, z0, z5, z8, z29, z45, z47, z48, z49, z50, z57, z58, z59, z60, z62, z75, z85, z86, z95, z99, z101, z104, z172, z175, z309, z310, z311, z313, z314, z315, z316, z317, z318, z320, z321, z324, z325, z326, z328, z329, z336, z355, z367, z368, z369, z370, z383, z384, z395, z399, z410, z411, z412, z413, z414, z415, z437, z458, z459, z460])
  | cons x rest ih =>
    intro i hd hi r
    obtain ⟨hget, hlt, hd'⟩ := drop_cons hd
    have ih' := ih (i + 1) hd' (by omega)
    have h1 : decide ((i : Int) < (l.length : Int)) = true := by simp; omega
    have h2 : IntKind.i64.wrap ((i : Int) + 1) = ((i + 1 : Nat) : Int) := by rw [wrap_i64 (by omega) (by omega)]; omega
    have h3 : decide (0 ≤ (i : Int) ∧ (i : Int) < (l.length : Int)) = true := by simp; omega
    have hx := fun s L => hq s x L (List.mem_of_getElem? hget)
    have e : ixN q (x :: rest) i = if q x then some i else ixN q rest (i + 1) := rfl
    rw [e]
    cases hqx : q x
    · (rw [ev_round]; sym => simp [u243_0, m243_0.eq_1, h1, h2, h3, hget, hx, hqx, ih', s1_al, z0, z5, z8, z29, z45, z47, z48, z49, z50, z57, z58, z59, z60, z62, z75, z85, z86, z95, z99, z101, z104, z172, z175, z309, z310, z311, z313, z314, z315, z316, z317, z318, z320, z321, z324, z325, z326, z328, z329, z336, z355, z367, z368, z369, z370, z383, z384, z395, z399, z410, z411, z412, z413, z414, z415, z437, z458, z459, z460])
    · (rw [ev_round]; sym => simp [u243_0, m243_0.eq_1, h1, h2, h3, hget, hx, hqx, ixR_some, s1_al, z0, z5, z8, z29, z45, z47, z48, z49, z50, z57, z58, z59, z60, z62, z75, z85, z86, z95, z99, z101, z104, z172, z175, z309, z310, z311, z313, z314, z315, z316, z317, z318, z320, z321, z324, z325, z326, z328, z329, z336, z355, z367, z368, z369, z370, z383, z384, z395, z399, z410, z411, z412, z413, z414, z415, z437, z458, z459, z460])
theorem ixf_AL (nm n : AE.Name) (g : Nat) (bs : List (AE.Name × Blk)) (tg : AE.Tag) (l : List AL) (q : AL → Bool) (hl : l.length ≤ 1000000000000)
    (hq : ∀ s x L, x ∈ l → eCall C (evW C tab) (nm ++ s) g [(AL.t' x), .ptr n 0] [[], [], bs] L = some (.v (.bool (q x)), [[], [], bs], L)) :
    evW C tab 243 nm [.sl (l.map AL.t') tg, .fn (.func g) [] [.ptr n 0]] [bs] = some (.v (.int .i64 (match ixN q l 0 with | some j => (j : Int) | none => -1)), [bs]) := by
  have h := fun (s : AE.Name) r => ixf_loop_AL (nm ++ s) n g bs tg l q hl (fun s' x L hx => by rw [List.append_assoc]; exact hq (s ++ s') x L hx) l 0 rfl (by omega) r
  simp only [cast0] at h
  cases hj : ixN q l 0
  · rw [hj] at h
    (rw [fn243]; sym => simp [b243.eq_1, h, ixR_none, z0, z41, z47, z48, z58, z59, z60, z62, z77, z78, z85, z86, z87, z89, z90, z92, z94, z110, z135, z136, z137, z138, z140, z141, z142, z143, z144, z289, z296, z308, z309, z310, z313, z314, z315, z318, z319, z320, z321, z327, z328, z329, z337, z339, z360, z369, z370, z383, z384, z403, z404, z412, z413, z459])
  · rw [hj] at h
    (rw [fn243]; sym => simp [b243.eq_1, h, ixR_some, z0, z41, z47, z48, z58, z59, z60, z62, z77, z78, z85, z86, z87, z89, z90, z92, z94, z110, z135, z136, z137, z138, z140, z141, z142, z143, z144, z289, z296, z308, z309, z310, z313, z314, z315, z318, z319, z320, z321, z327, z328, z329, z337, z339, z360, z369, z370, z383, z384, z403, z404, z412, z413, z459])
theorem conf_AL (nm n : AE.Name) (g : Nat) (bs : List (AE.Name × Blk)) (s0 : List AE.Name) (tg : AE.Tag) (htg : ∀ n k, tg ≠ .own n k) (l : List AL) (q : AL → Bool) (hl : l.length ≤ 1000000000000)
    (hr : reach [[], bs] [.sl (l.map AL.t') tg, .fn (.func g) [] [.ptr n 0]] = some s0) (hs : subH [[], bs] s0 = [bs]) (hm : ∀ nm, merge nm s0 [bs] [[], bs] = some [[], bs])
    (hq : ∀ s x L, x ∈ l → eCall C (evW C tab) (nm ++ s) g [(AL.t' x), .ptr n 0] [[], [], bs] L = some (.v (.bool (q x)), [[], [], bs], L)) :
    evW C tab 206 nm [.sl (l.map AL.t') tg, .fn (.func g) [] [.ptr n 0]] [bs] = some (.v (.bool (l.any q)), [bs]) := by
  have h := fun (s : AE.Name) => ixf_AL (nm ++ s) n g bs tg l q hl (fun s' x L hx => by rw [List.append_assoc]; exact hq (s ++ s') x L hx)
  have hst : strip1 (.sl (l.map AL.t') tg) = .sl (l.map AL.t') tg := by cases tg <;> first | rfl | exact absurd rfl (htg _ _)
  have ha := ixN_any q l 0
  have h1 : ∀ j : Nat, decide (0 ≤ (j : Int)) = true := fun j => by simp
  have heapK' : ∀ nm L, heapK (evW C tab) nm 243 [.sl (l.map AL.t') tg, .fn (.func g) [] [.ptr n 0]] [[], bs] L (reach [[], bs] [.sl (l.map AL.t') tg, .fn (.func g) [] [.ptr n 0]]) = heapR nm s0 [[], bs] L (evW C tab 243 nm [.sl (l.map AL.t') tg, .fn (.func g) [] [.ptr n 0]] [bs]) := fun nm L => by
    rw [hr, heapK_some, hs]
  have hcall : ∀ s L, eCall C (evW C tab) (nm ++ s) 243 [.sl (l.map AL.t') tg, .fn (.func g) [] [.ptr n 0]] [[], bs] L = some (.v (.int .i64 (match ixN q l 0 with | some j => (j : Int) | none => -1)), [[], bs], L) := fun s L => by
    rw [call243, heapK', h, heapR_some, hm, heapM_some]; rfl
  cases hj : ixN q l 0
  · rw [hj] at hcall ha
    rw [← ha]
    clear h heapK' hr hs hm hq
    (rw [fn206]; sym => simp [b206.eq_1, hcall, hst, z0, z8, z44, z47, z48, z49, z50, z58, z59, z60, z62, z77, z78, z87, z89, z90, z92, z94, z99, z135, z136, z137, z138, z140, z141, z142, z143, z144, z172, z179, z289, z296, z309, z310, z314, z320, z321, z328, z329, z337, z339, z360, z369, z370, z383, z384, z389, z390, z399, z403, z404, z412, z413, z414, z415, z437, z446])
  · rw [hj] at hcall ha
    rw [← ha]
    clear h heapK' hr hs hm hq
    (rw [fn206]; sym => simp [b206.eq_1, hcall, hst, h1, z0, z8, z44, z47, z48, z49, z50, z58, z59, z60, z62, z77, z78, z87, z89, z90, z92, z94, z99, z135, z136, z137, z138, z140, z141, z142, z143, z144, z172, z179, z289, z296, z309, z310, z314, z320, z321, z328, z329, z337, z339, z360, z369, z370, z383, z384, z389, z390, z399, z403, z404, z412, z413, z414, z415, z437, z446])

theorem cl0_AL (nm n : AE.Name) (hn : nm.isPrefixOf n = false) (g : Nat) (x : AL) (p : Bool) (hf : ∀ nm xs h L, eCall C (evW C tab) nm g xs h L = freeK nm h L (evW C tab g nm xs [])) (hg : ∀ nm, evW C tab g nm [(AL.t' x)] [] = some (.v (.bool p), [])) :
    evW C tab 207 nm [(AL.t' x), .ptr n 0] [[(n, .box [.fn (.func g) [] []])]] = some (.v (.bool (!p)), [[(n, .box [.fn (.func g) [] []])]]) := by
  have n1 := npre_ne hn
  have n2 := npre_ne' hn
  (rw [fn207]; sym => simp [b207.eq_1, n1, n2, hn, hf, hg, s1_al, z0, z5, z14, z45, z47, z48, z49, z50, z58, z59, z60, z62, z65, z66, z67, z68, z75, z77, z78, z87, z89, z90, z92, z94, z95, z100, z135, z136, z137, z138, z140, z141, z142, z143, z144, z146, z147, z172, z289, z296, z309, z310, z314, z320, z321, z328, z329, z337, z339, z340, z360, z369, z370, z383, z384, z387, z388, z395, z403, z404, z412, z413, z414, z415])
theorem ce0_AL (nm n : AE.Name) (hn : nm.isPrefixOf n = false) (g : Nat) (x : AL) (p : Bool) (hf : ∀ nm xs h L, eCall C (evW C tab) nm g xs h L = freeK nm h L (evW C tab g nm xs [])) (hg : ∀ nm, evW C tab g nm [(AL.t' x)] [] = some (.v (.bool p), [])) (L : List AE.Name) :
    eCall C (evW C tab) nm 207 [(AL.t' x), .ptr n 0] [[], [], [(n, .box [.fn (.func g) [] []])]] L = some (.v (.bool (!p)), [[], [], [(n, .box [.fn (.func g) [] []])]], L) := by
  have h := cl0_AL nm n hn g x p hf hg
  sym => simp [call207, h, s1_al, z65, z66, z67, z68, z72, z74, z146, z147, z152, z153, z154, z155, z156, z157, z293, z294, z295, z297, z298, z300, z301, z302, z303, z304, z306, z307, z341, z342, z343, z358, z387, z388, z389, z390, z399, z404, z406, z407, z408, z409, z412, z413, z414, z415, z422, z423, z431, z441]
theorem every0_AL (nm : AE.Name) (g : Nat) (tg : AE.Tag) (htg : ∀ n k, tg ≠ .own n k) (l : List AL) (p : AL → Bool) (hl : l.length ≤ 1000000000000) (hf : ∀ nm xs h L, eCall C (evW C tab) nm g xs h L = freeK nm h L (evW C tab g nm xs []))
    (hg : ∀ x ∈ l, ∀ nm, evW C tab g nm [(AL.t' x)] [] = some (.v (.bool (p x)), [])) : evW C tab 145 nm [.sl (l.map AL.t') tg, .fn (.func g) [] []] [[]] = some (.v (.bool (l.all p)), [[]]) := by
  have e : l.all p = !l.any (fun x => !p x) := by rw [List.any_eq_not_all_not]; simp
  have hst : strip1 (.sl (l.map AL.t') tg) = .sl (l.map AL.t') tg := by cases tg <;> first | rfl | exact absurd rfl (htg _ _)
  have h := conf_AL (nm ++ [1, 2]) (nm ++ [0, 0]) 207 [(nm ++ [0, 0], .box [.fn (.func g) [] []])] [nm ++ [0, 0]] tg htg l (fun x => !p x) hl (by sym => simp [z0, z2, z14, z20, z44, z47, z48, z49, z50, z58, z59, z60, z62, z65, z66, z67, z68, z70, z72, z74, z77, z78, z87, z89, z90, z92, z94, z100, z101, z102, z135, z136, z137, z138, z140, z141, z142, z143, z144, z146, z147, z152, z153, z154, z155, z156, z157, z172, z179, z289, z293, z294, z295, z296, z297, z298, z300, z301, z302, z303, z304, z306, z307, z309, z310, z314, z320, z321, z328, z329, z337, z339, z341, z342, z343, z358, z360, z369, z370, z383, z384, z387, z388, z389, z390, z399, z403, z404, z405, z406, z407, z408, z409, z412, z413, z414, z415, z422, z423, z431, z441]) (by sym => simp [z0, z2, z14, z20, z44, z47, z48, z49, z50, z58, z59, z60, z62, z65, z66, z67, z68, z70, z72, z74, z77, z78, z87, z89, z90, z92, z94, z100, z101, z102, z135, z136, z137, z138, z140, z141, z142, z143, z144, z146, z147, z152, z153, z154, z155, z156, z157, z172, z179, z289, z293, z294, z295, z296, z297, z298, z300, z301, z302, z303, z304, z306, z307, z309, z310, z314, z320, z321, z328, z329, z337, z339, z341, z342, z343, z358, z360, z369, z370, z383, z384, z387, z388, z389, z390, z399, z403, z404, z405, z406, z407, z408, z409, z412, z413, z414, z415, z422, z423, z431, z441]) (fun nm' => by sym => simp [z0, z2, z14, z20, z44, z47, z48, z49, z50, z58, z59, z60, z62, z65, z66, z67, z68, z70, z72, z74, z77, z78, z87, z89, z90, z92, z94, z100, z101, z102, z135, z136, z137, z138, z140, z141, z142, z143, z144, z146, z147, z152, z153, z154, z155, z156, z157, z172, z179, z289, z293, z294, z295, z296, z297, z298, z300, z301, z302, z303, z304, z306, z307, z309, z310, z314, z320, z321, z328, z329, z337, z339, z341, z342, z343, z358, z360, z369, z370, z383, z384, z387, z388, z389, z390, z399, z403, z404, z405, z406, z407, z408, z409, z412, z413, z414, z415, z422, z423, z431, z441])
    (fun s x L hx => ce0_AL _ _ (by simp [nm_pre1, List.isPrefixOf]) g x (p x) hf (hg x hx) L)
  rw [e]
  (rw [fn145]; sym => simp [b145.eq_1, call206, call207, h, hst, z0, z2, z14, z20, z44, z47, z48, z49, z50, z58, z59, z60, z62, z65, z66, z67, z68, z70, z72, z74, z77, z78, z87, z89, z90, z92, z94, z100, z101, z102, z135, z136, z137, z138, z140, z141, z142, z143, z144, z146, z147, z152, z153, z154, z155, z156, z157, z172, z179, z289, z293, z294, z295, z296, z297, z298, z300, z301, z302, z303, z304, z306, z307, z309, z310, z314, z320, z321, z328, z329, z337, z339, z341, z342, z343, z358, z360, z369, z370, z383, z384, z387, z388, z389, z390, z399, z403, z404, z405, z406, z407, z408, z409, z412, z413, z414, z415, z422, z423, z431, z441])

theorem cl1_Port (nm n m : AE.Name) (cs : List T) (hcs : cs.flatMap ptr1 = []) (hn : nm.isPrefixOf n = false) (hm : nm.isPrefixOf m = false) (g : Nat) (x : Port) (p : Bool) (hnm : (n = m) = False) (hmn : (m = n) = False) (hf : ∀ nm xs h L, eCall C (evW C tab) nm g xs h L = heapK (evW C tab) nm g xs h L (reach h xs)) (hg : ∀ nm, nm.isPrefixOf m = false → evW C tab g nm [(Port.t x), .ptr m 0] [[(m, .box cs)]] = some (.v (.bool p), [[(m, .box cs)]])) :
    evW C tab 191 nm [(Port.t x), .ptr n 0] [[(n, .box [.fn (.func g) [] [.ptr m 0]]), (m, .box cs)]] = some (.v (.bool (!p)), [[(n, .box [.fn (.func g) [] [.ptr m 0]]), (m, .box cs)]]) := by
  have n1 := npre_ne hn
  have n2 := npre_ne' hn
  have m1 := npre_ne hm
  have m2 := npre_ne' hm
  have hg' := fun s => hg (nm ++ s) (npre_sub hm s)
  clear hg
  (rw [fn191]; sym => simp [b191.eq_1, n1, n2, hn, m1, m2, hm, hnm, hmn, hf, hg', hcs, len0, z0, z2, z5, z14, z45, z47, z48, z49, z50, z58, z59, z60, z62, z65, z66, z67, z68, z70, z72, z74, z75, z76, z77, z78, z87, z89, z90, z92, z94, z95, z100, z101, z102, z135, z136, z137, z138, z140, z141, z142, z143, z144, z146, z147, z152, z153, z154, z155, z156, z157, z162, z175, z181, z289, z293, z294, z295, z296, z297, z298, z300, z301, z302, z303, z304, z306, z307, z309, z310, z314, z320, z321, z328, z329, z337, z339, z341, z342, z343, z358, z360, z369, z370, z383, z384, z387, z388, z389, z390, z395, z399, z403, z404, z405, z406, z407, z408, z409, z411, z412, z413, z414, z415, z417, z418, z419, z422, z423, z431, z441])
theorem ce1_Port (nm n m : AE.Name) (cs : List T) (hcs : cs.flatMap ptr1 = []) (hn : nm.isPrefixOf n = false) (hm : nm.isPrefixOf m = false) (g : Nat) (x : Port) (p : Bool) (hnm : (n = m) = False) (hmn : (m = n) = False) (hf : ∀ nm xs h L, eCall C (evW C tab) nm g xs h L = heapK (evW C tab) nm g xs h L (reach h xs)) (hg : ∀ nm, nm.isPrefixOf m = false → evW C tab g nm [(Port.t x), .ptr m 0] [[(m, .box cs)]] = some (.v (.bool p), [[(m, .box cs)]])) (L : List AE.Name) :
    eCall C (evW C tab) nm 191 [(Port.t x), .ptr n 0] [[], [], [(n, .box [.fn (.func g) [] [.ptr m 0]]), (m, .box cs)]] L = some (.v (.bool (!p)), [[], [], [(n, .box [.fn (.func g) [] [.ptr m 0]]), (m, .box cs)]], L) := by
  have h := cl1_Port nm n m cs hcs hn hm g x p hnm hmn hf hg
  clear hg
  sym => simp [call191, h, hcs, hnm, hmn, len0, z65, z66, z67, z68, z72, z74, z146, z147, z152, z153, z154, z155, z156, z157, z293, z294, z295, z297, z298, z300, z301, z302, z303, z304, z306, z307, z341, z342, z343, z358, z387, z388, z389, z390, z399, z404, z406, z407, z408, z409, z412, z413, z414, z415, z422, z423, z431, z432, z441]
theorem every1_Port (nm m : AE.Name) (cs : List T) (hcs : cs.flatMap ptr1 = []) (hm : nm.isPrefixOf m = false) (g : Nat) (tg : AE.Tag) (htg : ∀ n k, tg ≠ .own n k) (l : List Port) (p : Port → Bool) (hl : l.length ≤ 1000000000000) (hf : ∀ nm xs h L, eCall C (evW C tab) nm g xs h L = heapK (evW C tab) nm g xs h L (reach h xs))
    (hg : ∀ x ∈ l, ∀ nm, nm.isPrefixOf m = false → evW C tab g nm [(Port.t x), .ptr m 0] [[(m, .box cs)]] = some (.v (.bool (p x)), [[(m, .box cs)]])) : evW C tab 109 nm [.sl (l.map Port.t) tg, .fn (.func g) [] [.ptr m 0]] [[(m, .box cs)]] = some (.v (.bool (l.all p)), [[(m, .box cs)]]) := by
  have e : l.all p = !l.any (fun x => !p x) := by rw [List.any_eq_not_all_not]; simp
  have hst : strip1 (.sl (l.map Port.t) tg) = .sl (l.map Port.t) tg := by cases tg <;> first | rfl | exact absurd rfl (htg _ _)
  have m1 := npre_ne hm
  have m2 := npre_ne' hm
  have h := conf_Port (nm ++ [1, 2]) (nm ++ [0, 0]) 191 [(nm ++ [0, 0], .box [.fn (.func g) [] [.ptr m 0]]), (m, .box cs)] [nm ++ [0, 0], m] tg htg l (fun x => !p x) hl (by clear hg; sym => simp [hcs, m1, m2, z0, z2, z14, z20, z44, z47, z48, z49, z50, z58, z59, z60, z62, z65, z66, z67, z68, z70, z72, z74, z77, z78, z87, z89, z90, z92, z94, z100, z101, z102, z135, z136, z137, z138, z140, z141, z142, z143, z144, z146, z147, z152, z153, z154, z155, z156, z157, z172, z179, z289, z293, z294, z295, z296, z297, z298, z300, z301, z302, z303, z304, z306, z307, z309, z310, z314, z320, z321, z328, z329, z337, z339, z341, z342, z343, z358, z360, z369, z370, z383, z384, z387, z388, z389, z390, z399, z403, z404, z405, z406, z407, z408, z409, z412, z413, z414, z415, z422, z423, z431, z432, z441]) (by clear hg; sym => simp [m1, m2, z0, z2, z14, z20, z44, z47, z48, z49, z50, z58, z59, z60, z62, z65, z66, z67, z68, z70, z72, z74, z77, z78, z87, z89, z90, z92, z94, z100, z101, z102, z135, z136, z137, z138, z140, z141, z142, z143, z144, z146, z147, z152, z153, z154, z155, z156, z157, z172, z179, z289, z293, z294, z295, z296, z297, z298, z300, z301, z302, z303, z304, z306, z307, z309, z310, z314, z320, z321, z328, z329, z337, z339, z341, z342, z343, z358, z360, z369, z370, z383, z384, z387, z388, z389, z390, z399, z403, z404, z405, z406, z407, z408, z409, z412, z413, z414, z415, z422, z423, z431, z432, z441]) (fun nm' => by clear hg; sym => simp [m1, m2, z0, z2, z14, z20, z44, z47, z48, z49, z50, z58, z59, z60, z62, z65, z66, z67, z68, z70, z72, z74, z77, z78, z87, z89, z90, z92, z94, z100, z101, z102, z135, z136, z137, z138, z140, z141, z142, z143, z144, z146, z147, z152, z153, z154, z155, z156, z157, z172, z179, z289, z293, z294, z295, z296, z297, z298, z300, z301, z302, z303, z304, z306, z307, z309, z310, z314, z320, z321, z328, z329, z337, z339, z341, z342, z343, z358, z360, z369, z370, z383, z384, z387, z388, z389, z390, z399, z403, z404, z405, z406, z407, z408, z409, z412, z413, z414, z415, z422, z423, z431, z432, z441])
    (fun s x L hx => ce1_Port _ _ _ cs hcs (by simp [nm_pre1, List.isPrefixOf]) (npre_sub (npre_sub hm _) _) g x (p x) (m2 _) (m1 _) hf (hg x hx) L)
  rw [e]
  clear hg hf
  (rw [fn109]; sym => simp [b109.eq_1, call190, call191, h, hst, m1, m2, hm, hcs, z0, z2, z14, z20, z44, z47, z48, z49, z50, z58, z59, z60, z62, z65, z66, z67, z68, z70, z72, z74, z77, z78, z87, z89, z90, z92, z94, z100, z101, z102, z135, z136, z137, z138, z140, z141, z142, z143, z144, z146, z147, z152, z153, z154, z155, z156, z157, z172, z179, z289, z293, z294, z295, z296, z297, z298, z300, z301, z302, z303, z304, z306, z307, z309, z310, z314, z320, z321, z328, z329, z337, z339, z341, z342, z343, z358, z360, z369, z370, z383, z384, z387, z388, z389, z390, z399, z403, z404, z405, z406, z407, z408, z409, z412, z413, z414, z415, z422, z423, z431, z432, z441])

theorem cl1_Endpoint (nm n m : AE.Name) (cs : List T) (hcs : cs.flatMap ptr1 = []) (hn : nm.isPrefixOf n = false) (hm : nm.isPrefixOf m = false) (g : Nat) (x : Endpoint) (p : Bool) (hnm : (n = m) = False) (hmn : (m = n) = False) (hf : ∀ nm xs h L, eCall C (evW C tab) nm g xs h L = heapK (evW C tab) nm g xs h L (reach h xs)) (hg : ∀ nm, nm.isPrefixOf m = false → evW C tab g nm [(Endpoint.t x), .ptr m 0] [[(m, .box cs)]] = some (.v (.bool p), [[(m, .box cs)]])) :
    evW C tab 195 nm [(Endpoint.t x), .ptr n 0] [[(n, .box [.fn (.func g) [] [.ptr m 0]]), (m, .box cs)]] = some (.v (.bool (!p)), [[(n, .box [.fn (.func g) [] [.ptr m 0]]), (m, .box cs)]]) := by
  have n1 := npre_ne hn
  have n2 := npre_ne' hn
  have m1 := npre_ne hm
  have m2 := npre_ne' hm
  have hg' := fun s => hg (nm ++ s) (npre_sub hm s)
  clear hg
  (rw [fn195]; sym => simp [b195.eq_1, n1, n2, hn, m1, m2, hm, hnm, hmn, hf, hg', hcs, hb16, take17e, ptr0_encB, ptr1_encB, strip_encB, len_app, fm_app, map_app, s1_ez, z0, z2, z5, z14, z45, z47, z48, z49, z50, z58, z59, z60, z62, z65, z66, z67, z68, z70, z72, z74, z75, z76, z77, z78, z87, z89, z90, z92, z94, z95, z100, z101, z102, z135, z136, z137, z138, z140, z141, z142, z143, z144, z146, z147, z152, z153, z154, z155, z156, z157, z162, z175, z181, z289, z293, z294, z295, z296, z297, z298, z300, z301, z302, z303, z304, z306, z307, z309, z310, z314, z320, z321, z328, z329, z337, z339, z341, z342, z343, z358, z360, z369, z370, z383, z384, z387, z388, z389, z390, z395, z399, z403, z404, z405, z406, z407, z408, z409, z410, z411, z412, z413, z414, z415, z417, z418, z422, z423, z431, z441, z459])
theorem ce1_Endpoint (nm n m : AE.Name) (cs : List T) (hcs : cs.flatMap ptr1 = []) (hn : nm.isPrefixOf n = false) (hm : nm.isPrefixOf m = false) (g : Nat) (x : Endpoint) (p : Bool) (hnm : (n = m) = False) (hmn : (m = n) = False) (hf : ∀ nm xs h L, eCall C (evW C tab) nm g xs h L = heapK (evW C tab) nm g xs h L (reach h xs)) (hg : ∀ nm, nm.isPrefixOf m = false → evW C tab g nm [(Endpoint.t x), .ptr m 0] [[(m, .box cs)]] = some (.v (.bool p), [[(m, .box cs)]])) (L : List AE.Name) :
    eCall C (evW C tab) nm 195 [(Endpoint.t x), .ptr n 0] [[], [], [(n, .box [.fn (.func g) [] [.ptr m 0]]), (m, .box cs)]] L = some (.v (.bool (!p)), [[], [], [(n, .box [.fn (.func g) [] [.ptr m 0]]), (m, .box cs)]], L) := by
  have h := cl1_Endpoint nm n m cs hcs hn hm g x p hnm hmn hf hg
  clear hg
  sym => simp [call195, h, hcs, hnm, hmn, hb16, take17e, ptr0_encB, ptr1_encB, strip_encB, len_app, fm_app, map_app, s1_ez, z65, z66, z67, z68, z72, z74, z146, z147, z152, z153, z154, z155, z156, z157, z293, z294, z295, z297, z298, z300, z301, z302, z303, z304, z306, z307, z341, z342, z343, z358, z387, z388, z389, z390, z399, z404, z406, z407, z408, z409, z412, z413, z414, z415, z422, z423, z431, z432, z441]
theorem every1_Endpoint (nm m : AE.Name) (cs : List T) (hcs : cs.flatMap ptr1 = []) (hm : nm.isPrefixOf m = false) (g : Nat) (tg : AE.Tag) (htg : ∀ n k, tg ≠ .own n k) (l : List Endpoint) (p : Endpoint → Bool) (hl : l.length ≤ 1000000000000) (hf : ∀ nm xs h L, eCall C (evW C tab) nm g xs h L = heapK (evW C tab) nm g xs h L (reach h xs))
    (hg : ∀ x ∈ l, ∀ nm, nm.isPrefixOf m = false → evW C tab g nm [(Endpoint.t x), .ptr m 0] [[(m, .box cs)]] = some (.v (.bool (p x)), [[(m, .box cs)]])) : evW C tab 112 nm [.sl (l.map Endpoint.t) tg, .fn (.func g) [] [.ptr m 0]] [[(m, .box cs)]] = some (.v (.bool (l.all p)), [[(m, .box cs)]]) := by
  have e : l.all p = !l.any (fun x => !p x) := by rw [List.any_eq_not_all_not]; simp
  have hst : strip1 (.sl (l.map Endpoint.t) tg) = .sl (l.map Endpoint.t) tg := by cases tg <;> first | rfl | exact absurd rfl (htg _ _)
  have m1 := npre_ne hm
  have m2 := npre_ne' hm
  have h := conf_Endpoint (nm ++ [1, 2]) (nm ++ [0, 0]) 195 [(nm ++ [0, 0], .box [.fn (.func g) [] [.ptr m 0]]), (m, .box cs)] [nm ++ [0, 0], m] tg htg l (fun x => !p x) hl (by clear hg; sym => simp [hcs, m1, m2, z0, z2, z14, z20, z44, z47, z48, z49, z50, z58, z59, z60, z62, z65, z66, z67, z68, z70, z72, z74, z77, z78, z87, z89, z90, z92, z94, z100, z101, z102, z135, z136, z137, z138, z140, z141, z142, z143, z144, z146, z147, z152, z153, z154, z155, z156, z157, z172, z179, z289, z293, z294, z295, z296, z297, z298, z300, z301, z302, z303, z304, z306, z307, z309, z310, z314, z320, z321, z328, z329, z337, z339, z341, z342, z343, z358, z360, z369, z370, z383, z384, z387, z388, z389, z390, z399, z403, z404, z405, z406, z407, z408, z409, z412, z413, z414, z415, z422, z423, z431, z432, z441]) (by clear hg; sym => simp [m1, m2, z0, z2, z14, z20, z44, z47, z48, z49, z50, z58, z59, z60, z62, z65, z66, z67, z68, z70, z72, z74, z77, z78, z87, z89, z90, z92, z94, z100, z101, z102, z135, z136, z137, z138, z140, z141, z142, z143, z144, z146, z147, z152, z153, z154, z155, z156, z157, z172, z179, z289, z293, z294, z295, z296, z297, z298, z300, z301, z302, z303, z304, z306, z307, z309, z310, z314, z320, z321, z328, z329, z337, z339, z341, z342, z343, z358, z360, z369, z370, z383, z384, z387, z388, z389, z390, z399, z403, z404, z405, z406, z407, z408, z409, z412, z413, z414, z415, z422, z423, z431, z432, z441]) (fun nm' => by clear hg; sym => simp [m1, m2, z0, z2, z14, z20, z44, z47, z48, z49, z50, z58, z59, z60, z62, z65, z66, z67, z68, z70, z72, z74, z77, z78, z87, z89, z90, z92, z94, z100, z101, z102, z135, z136, z137, z138, z140, z141, z142, z143, z144, z146, z147, z152, z153, z154, z155, z156, z157, z172, z179, z289, z293, z294, z295, z296, z297, z298, z300, z301, z302, z303, z304, z306, z307, z309, z310, z314, z320, z321, z328, z329, z337, z339, z341, z342, z343, z358, z360, z369, z370, z383, z384, z387, z388, z389, z390, z399, z403, z404, z405, z406, z407, z408, z409, z412, z413, z414, z415, z422, z423, z431, z432, z441])
    (fun s x L hx => ce1_Endpoint _ _ _ cs hcs (by simp [nm_pre1, List.isPrefixOf]) (npre_sub (npre_sub hm _) _) g x (p x) (m2 _) (m1 _) hf (hg x hx) L)
  rw [e]
  clear hg hf
  (rw [fn112]; sym => simp [b112.eq_1, call194, call195, h, hst, m1, m2, hm, hcs, z0, z2, z14, z20, z44, z47, z48, z49, z50, z58, z59, z60, z62, z65, z66, z67, z68, z70, z72, z74, z77, z78, z87, z89, z90, z92, z94, z100, z101, z102, z135, z136, z137, z138, z140, z141, z142, z143, z144, z146, z147, z152, z153, z154, z155, z156, z157, z172, z179, z289, z293, z294, z295, z296, z297, z298, z300, z301, z302, z303, z304, z306, z307, z309, z310, z314, z320, z321, z328, z329, z337, z339, z341, z342, z343, z358, z360, z369, z370, z383, z384, z387, z388, z389, z390, z399, z403, z404, z405, z406, z407, z408, z409, z412, z413, z414, z415, z422, z423, z431, z432, z441])
end Go.AE.W
