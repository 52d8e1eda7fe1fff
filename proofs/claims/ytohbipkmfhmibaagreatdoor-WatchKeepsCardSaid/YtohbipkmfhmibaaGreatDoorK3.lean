import Derived.Test.YtohbipkmfhmibaaGreatDoorK2
/-! K3: names, ports, addresses. -/
set_option linter.unusedVariables false
set_option linter.unusedSimpArgs false
set_option maxHeartbeats 1000000
set_option maxRecDepth 100000
namespace Go.AE.W
open Go.RowKit Go.LB
abbrev iT (n : Int) : T := .v (.int .i64 n)
abbrev bT (b : Bool) : T := .v (.bool b)
def hasPre (l p : List UInt8) : Bool := decide (p.length ≤ l.length) && decide (l.take p.length = p)
def hasSuf (l p : List UInt8) : Bool := decide (p.length ≤ l.length) && decide (l.drop (l.length - p.length) = p)
theorem slpre_c (nm : AE.Name) (l p : List UInt8) (hl : l.length ≤ 1000000000000) (hp : p.length ≤ 1000) : evW C tab 227 nm [tx l, tx p] [] = some (bT (hasPre l p), []) := by
  have h1 : decide (0 ≤ (p.length : Int) ∧ (p.length : Int) ≤ (l.length : Int)) = decide ((p.length : Int) ≤ (l.length : Int)) := by simp
  have h2 : hasPre l p = (decide ((p.length : Int) ≤ (l.length : Int)) && decide (l.take p.length = p)) := by simp [hasPre]
  rw [h2]
  (rw [fn227]; sym => (simp [b227.eq_1, h1, z0, z1, z8, z23, z41, z47, z48, z51, z52, z58, z59, z60, z62, z77, z78, z87, z89, z90, z91, z94, z99, z109, z110, z135, z136, z137, z138, z140, z141, z142, z143, z144, z281, z289, z296, z309, z310, z314, z320, z321, z328, z329, z330, z332, z337, z339, z345, z346, z350, z351, z353, z354, z356, z360, z369, z370, z383, z384, z386, z399, z403, z404, z412, z413, z417, z437, z438, z441, z442, z443, z447, z450, z452, z453, z458]; try (tactic => ( (repeat' (first | (refine And.intro ?_ ?_) | (intro hq))); all_goals (first | rfl | (simp only [*, Bool.and_true, Bool.true_and, Bool.false_and, Bool.and_false, Bool.or_false, Bool.false_or, Bool.true_or, Bool.or_true, Bool.not_true, Bool.not_false]; done) | (simp_all; done) | (simp_all <;> omega) | (simp_all <;> intros <;> omega))))))
theorem pre_c (nm : AE.Name) (l p : List UInt8) (hl : l.length ≤ 1000000000000) (hp : p.length ≤ 1000) : evW C tab 182 nm [tx l, tx p] [] = some (bT (hasPre l p), []) := by
  have h := fun nm => slpre_c nm l p hl hp
  (rw [fn182]; sym => simp [b182.eq_1, call227, h, z0, z44, z47, z48, z49, z50, z58, z59, z60, z62, z77, z78, z87, z89, z90, z91, z94, z135, z136, z137, z138, z140, z141, z142, z143, z144, z146, z147, z173, z289, z296, z309, z310, z314, z320, z321, z328, z329, z337, z339, z340, z360, z369, z370, z383, z384, z403, z404, z412, z413, z414, z415, z443])
theorem slsuf_c (nm : AE.Name) (l p : List UInt8) (hl : l.length ≤ 1000000000000) (hp : p.length ≤ 1000) : evW C tab 228 nm [tx l, tx p] [] = some (bT (hasSuf l p), []) := by
  have h2 : hasSuf l p = (decide ((p.length : Int) ≤ (l.length : Int)) && decide (l.drop (l.length - p.length) = p)) := by simp [hasSuf]
  rw [h2]
  have h3 : IntKind.i64.wrap ((l.length : Int) - (p.length : Int)) = (l.length : Int) - (p.length : Int) := wrap_i64 (by omega) (by omega)
  by_cases hc : p.length ≤ l.length
  · have h4 : (l.length : Int) - (p.length : Int) = ((l.length - p.length : Nat) : Int) := by omega
    have h5 : decide (0 ≤ ((l.length - p.length : Nat) : Int) ∧ ((l.length - p.length : Nat) : Int) ≤ (l.length : Int)) = true := by simp
    have h6 : decide ((p.length : Int) ≤ (l.length : Int)) = true := by simp [hc]
    have h3 := h3.trans h4
    have h7 : (l.drop (l.length - p.length)).take (l.length - (l.length - p.length)) = l.drop (l.length - p.length) := List.take_of_length_le (by simp)
    rw [h6]
    (rw [fn228]; sym => simp [b228.eq_1, h3, h5, h6, h7, z0, z1, z8, z23, z41, z47, z48, z51, z52, z58, z59, z60, z62, z77, z78, z87, z89, z90, z91, z94, z99, z109, z110, z135, z136, z137, z138, z140, z141, z142, z143, z144, z280, z289, z296, z309, z310, z314, z320, z321, z328, z329, z330, z332, z337, z339, z356, z360, z369, z370, z383, z384, z399, z403, z404, z412, z413, z424, z425, z437, z438, z441, z442, z443, z450, z452, z453, z458])
  · have h6 : decide ((p.length : Int) ≤ (l.length : Int)) = false := by simp; omega
    rw [h6]
    (rw [fn228]; sym => simp [b228.eq_1, h6, z0, z1, z8, z23, z41, z47, z48, z51, z52, z58, z59, z60, z62, z77, z78, z87, z89, z90, z91, z94, z99, z109, z110, z135, z136, z137, z138, z140, z141, z142, z143, z144, z280, z289, z296, z309, z310, z314, z320, z321, z328, z329, z330, z332, z337, z339, z356, z360, z369, z370, z383, z384, z399, z403, z404, z412, z413, z424, z425, z437, z438, z441, z442, z443, z450, z452, z453, z458])
theorem suf_c (nm : AE.Name) (l p : List UInt8) (hl : l.length ≤ 1000000000000) (hp : p.length ≤ 1000) : evW C tab 183 nm [tx l, tx p] [] = some (bT (hasSuf l p), []) := by
  have h := fun nm => slsuf_c nm l p hl hp
  (rw [fn183]; sym => simp [b183.eq_1, call228, h, z0, z44, z47, z48, z49, z50, z58, z59, z60, z62, z77, z78, z87, z89, z90, z91, z94, z135, z136, z137, z138, z140, z141, z142, z143, z144, z146, z147, z173, z289, z296, z309, z310, z314, z320, z321, z328, z329, z337, z339, z340, z360, z369, z370, z383, z384, z403, z404, z412, z413, z414, z415, z443])
abbrev cutset : List UInt8 := str0
/-- A label. -/
def label (l : List UInt8) : Bool := decide (trim cutset l = []) && !hasPre l [45] && !hasSuf l [45] && !decide (l = []) && decide ((l.length : Int) ≤ 15)
theorem label_c (nm : AE.Name) (l : List UInt8) (hl : l.length ≤ 1000000000000) : evW C tab 81 nm [tx l] [] = some (bT (label l), []) := by
  have h1 := fun nm => trim_c nm l cutset hl (by decide +kernel) (by decide +kernel) (by decide +kernel)
  have h2 := fun nm => pre_c nm l [45] hl (by decide)
  have h3 := fun nm => suf_c nm l [45] hl (by decide)
  unfold label
  (rw [fn81]; sym => (simp [b81.eq_1, call181, call182, call183, h1, h2, h3, z0, z1, z8, z14, z41, z44, z47, z48, z49, z50, z58, z59, z60, z62, z77, z78, z87, z89, z90, z91, z94, z99, z100, z110, z135, z136, z137, z138, z140, z141, z142, z143, z144, z146, z147, z173, z289, z296, z309, z310, z314, z320, z321, z328, z329, z330, z332, z337, z339, z340, z345, z346, z350, z354, z360, z369, z370, z383, z384, z399, z403, z404, z412, z413, z414, z415, z437, z438, z443, z450, z453]; try (tactic => ( (repeat' (first | (refine And.intro ?_ ?_) | (intro hq))); all_goals (first | rfl | (simp only [*, Bool.and_true, Bool.true_and, Bool.false_and, Bool.and_false, Bool.or_false, Bool.false_or, Bool.true_or, Bool.or_true, Bool.not_true, Bool.not_false]; done) | (simp_all; done) | (simp_all <;> omega) | (simp_all <;> intros <;> omega))))))
theorem maybe_c (nm : AE.Name) (l : List UInt8) (hl : l.length ≤ 1000000000000) : evW C tab 82 nm [tx l] [] = some (bT (decide (l = []) || label l), []) := by
  have h1 := fun nm => label_c nm l hl
  (rw [fn82]; sym => (simp [b82.eq_1, call81, h1, z0, z1, z8, z44, z47, z48, z49, z50, z58, z59, z60, z62, z77, z78, z87, z89, z90, z91, z94, z99, z135, z136, z137, z138, z140, z141, z142, z143, z144, z146, z147, z173, z289, z296, z309, z310, z314, z320, z321, z328, z329, z331, z334, z337, z339, z340, z345, z346, z350, z354, z360, z369, z370, z383, z384, z399, z403, z404, z412, z413, z414, z415, z438, z443, z453]; try (tactic => ( (repeat' (first | (refine And.intro ?_ ?_) | (intro hq))); all_goals (first | rfl | (simp only [*, Bool.and_true, Bool.true_and, Bool.false_and, Bool.and_false, Bool.or_false, Bool.false_or, Bool.true_or, Bool.or_true, Bool.not_true, Bool.not_false]; done) | (simp_all; done) | (simp_all <;> omega) | (simp_all <;> intros <;> omega))))))
theorem key_c (nm : AE.Name) (a b : List UInt8) (ha : a.length ≤ 1000000000000) (hb : b.length ≤ 1000000000000) : evW C tab 116 nm [.agg [tx a, tx b]] [] = some (bT (label a && label b), []) := by
  have h1 := fun nm => label_c nm a ha
  have h2 := fun nm => label_c nm b hb
  (rw [fn116]; sym => (simp [b116.eq_1, call81, h1, h2, z0, z1, z2, z5, z26, z44, z47, z48, z49, z50, z58, z59, z60, z62, z65, z66, z68, z70, z75, z77, z78, z87, z89, z90, z91, z94, z95, z97, z101, z102, z135, z136, z137, z138, z140, z141, z142, z143, z144, z146, z147, z173, z289, z296, z309, z310, z314, z320, z321, z328, z329, z330, z332, z337, z339, z340, z345, z346, z350, z354, z360, z369, z370, z383, z384, z387, z395, z396, z399, z403, z404, z405, z412, z413, z414, z415, z443]; try (tactic => ( (repeat' (first | (refine And.intro ?_ ?_) | (intro hq))); all_goals (first | rfl | (simp only [*, Bool.and_true, Bool.true_and, Bool.false_and, Bool.and_false, Bool.or_false, Bool.false_or, Bool.true_or, Bool.or_true, Bool.not_true, Bool.not_false]; done) | (simp_all; done) | (simp_all <;> omega) | (simp_all <;> intros <;> omega))))))
theorem pproto_c (nm : AE.Name) (n : Int) : evW C tab 192 nm [iT n] [] = some (bT (decide (n = 6) || decide (n = 17)), []) := by
  (rw [fn192]; sym => (simp [b192.eq_1, z0, z1, z8, z47, z48, z58, z59, z60, z62, z77, z78, z87, z89, z90, z91, z94, z99, z135, z136, z137, z138, z140, z141, z142, z143, z144, z289, z296, z309, z310, z314, z320, z321, z328, z329, z331, z334, z337, z339, z345, z346, z350, z354, z360, z369, z370, z383, z384, z399, z403, z404, z412, z413, z437, z443]; try (tactic => ( (repeat' (first | (refine And.intro ?_ ?_) | (intro hq))); all_goals (first | rfl | (simp only [*, Bool.and_true, Bool.true_and, Bool.false_and, Bool.and_false, Bool.or_false, Bool.false_or, Bool.true_or, Bool.or_true, Bool.not_true, Bool.not_false]; done) | (simp_all; done) | (simp_all <;> omega) | (simp_all <;> intros <;> omega))))))
theorem pright_c (nm : AE.Name) (n : Int) : evW C tab 193 nm [iT n] [] = some (bT (decide (1 ≤ n) && decide (n ≤ 65535)), []) := by
  (rw [fn193]; sym => (simp [b193.eq_1, z0, z1, z8, z47, z48, z58, z59, z60, z62, z77, z78, z87, z89, z90, z91, z94, z99, z135, z136, z137, z138, z140, z141, z142, z143, z144, z289, z296, z309, z310, z314, z320, z321, z328, z329, z330, z332, z337, z339, z345, z346, z350, z354, z360, z369, z370, z383, z384, z399, z403, z404, z412, z413, z437, z443]; try (tactic => ( (repeat' (first | (refine And.intro ?_ ?_) | (intro hq))); all_goals (first | rfl | (simp only [*, Bool.and_true, Bool.true_and, Bool.false_and, Bool.and_false, Bool.or_false, Bool.false_or, Bool.true_or, Bool.or_true, Bool.not_true, Bool.not_false]; done) | (simp_all; done) | (simp_all <;> omega) | (simp_all <;> intros <;> omega))))))
def plain (p : Port) : Bool := label p.name && (decide (p.proto = 6) || decide (p.proto = 17)) && (decide (1 ≤ p.port) && decide (p.port ≤ 65535))
theorem plain_c (nm : AE.Name) (p : Port) (hl : p.name.length ≤ 1000000000000) : evW C tab 111 nm [p.t] [] = some (bT (plain p), []) := by
  have h1 := fun nm => label_c nm p.name hl
  unfold plain
  (rw [fn111]; sym => (simp [b111.eq_1, call81, call192, call193, h1, pproto_c, pright_c, z0, z1, z2, z5, z26, z44, z47, z48, z49, z50, z58, z59, z60, z62, z65, z66, z68, z70, z75, z77, z78, z87, z89, z90, z91, z94, z95, z97, z101, z102, z135, z136, z137, z138, z140, z141, z142, z143, z144, z146, z147, z173, z289, z296, z309, z310, z314, z320, z321, z328, z329, z330, z332, z337, z339, z340, z345, z346, z350, z354, z360, z369, z370, z383, z384, z387, z395, z396, z399, z403, z404, z405, z412, z413, z414, z415, z443]; try (tactic => ( (repeat' (first | (refine And.intro ?_ ?_) | (intro hq))); all_goals (first | rfl | (simp only [*, Bool.and_true, Bool.true_and, Bool.false_and, Bool.and_false, Bool.or_false, Bool.false_or, Bool.true_or, Bool.or_true, Bool.not_true, Bool.not_false]; done) | (simp_all; done) | (simp_all <;> omega) | (simp_all <;> intros <;> omega))))))
theorem rs1_c (nm : AE.Name) (p : Port) (hl : p.name.length ≤ 1000000000000) : evW C tab 110 nm [p.t] [] = some (bT (plain p && decide (p.outer = 0)), []) := by
  have h1 := fun nm => plain_c nm p hl
  (rw [fn110]; sym => (simp [b110.eq_1, call111, h1, z0, z1, z2, z5, z8, z26, z44, z47, z48, z49, z50, z58, z59, z60, z62, z65, z66, z68, z70, z75, z76, z77, z78, z87, z89, z90, z91, z94, z95, z97, z99, z101, z102, z135, z136, z137, z138, z140, z141, z142, z143, z144, z146, z147, z162, z181, z289, z296, z309, z310, z314, z320, z321, z328, z329, z330, z332, z337, z339, z340, z345, z346, z350, z354, z360, z369, z370, z383, z384, z387, z395, z396, z399, z403, z404, z405, z410, z411, z412, z413, z414, z415, z417, z418, z419, z437, z443]; try (tactic => ( (repeat' (first | (refine And.intro ?_ ?_) | (intro hq))); all_goals (first | rfl | (simp only [*, Bool.and_true, Bool.true_and, Bool.false_and, Bool.and_false, Bool.or_false, Bool.false_or, Bool.true_or, Bool.or_true, Bool.not_true, Bool.not_false]; done) | (simp_all; done) | (simp_all <;> omega) | (simp_all <;> intros <;> omega))))))
theorem known_c (nm : AE.Name) (n : Int) : evW C tab 160 nm [iT n] [] = some (bT (decide (1 ≤ n) && decide (n ≤ 9)), []) := by
  (rw [fn160]; sym => (simp [b160.eq_1, z0, z1, z8, z47, z48, z58, z59, z60, z62, z77, z78, z87, z89, z90, z91, z94, z99, z135, z136, z137, z138, z140, z141, z142, z143, z144, z289, z296, z309, z310, z314, z320, z321, z328, z329, z330, z332, z337, z339, z345, z346, z350, z354, z360, z369, z370, z383, z384, z399, z403, z404, z412, z413, z437, z443]; try (tactic => ( (repeat' (first | (refine And.intro ?_ ?_) | (intro hq))); all_goals (first | rfl | (simp only [*, Bool.and_true, Bool.true_and, Bool.false_and, Bool.and_false, Bool.or_false, Bool.false_or, Bool.true_or, Bool.or_true, Bool.not_true, Bool.not_false]; done) | (simp_all; done) | (simp_all <;> omega) | (simp_all <;> intros <;> omega))))))
theorem versions_c (nm : AE.Name) (n : Int) : evW C tab 161 nm [iT n] [] = some (bT (decide (1 ≤ n) && decide (n ≤ 1099511627776)), []) := by
  (rw [fn161]; sym => (simp [b161.eq_1, z0, z1, z8, z47, z48, z58, z59, z60, z62, z77, z78, z87, z89, z90, z91, z94, z99, z135, z136, z137, z138, z140, z141, z142, z143, z144, z289, z296, z309, z310, z314, z320, z321, z328, z329, z330, z332, z337, z339, z345, z346, z350, z354, z360, z369, z370, z383, z384, z399, z403, z404, z412, z413, z437, z443]; try (tactic => ( (repeat' (first | (refine And.intro ?_ ?_) | (intro hq))); all_goals (first | rfl | (simp only [*, Bool.and_true, Bool.true_and, Bool.false_and, Bool.and_false, Bool.or_false, Bool.false_or, Bool.true_or, Bool.or_true, Bool.not_true, Bool.not_false]; done) | (simp_all; done) | (simp_all <;> omega) | (simp_all <;> intros <;> omega))))))
end Go.AE.W

/-! K4: addresses. -/
set_option linter.unusedVariables false
set_option linter.unusedSimpArgs false
set_option maxHeartbeats 1000000
set_option maxRecDepth 100000
namespace Go.AE.W
open Go.RowKit Go.LB
/-- How many are left where noughts at the end are struck. -/
def rk (g : Nat → UInt8) : Nat → Nat
  | 0 => 0
  | k + 1 => if (g k).toNat = 0 then rk g k else k + 1
def mslT (n : AE.Name) (off : Nat) : Nat → T
  | 0 => .sl [] .no
  | k + 1 => .msl n off (k + 1)
def lj (g : Nat → UInt8) : Nat → Nat → Nat
  | 0, i => i
  | n + 1, i => if (g i).toNat = 0 then lj g n (i + 1) else i
theorem tr_loop (p n : AE.Name) (cs : List T) (off : Nat) (g : Nat → UInt8) : ∀ k, k ≤ 1000 → (∀ j, j < k → cs[off + j]? = some (encB (g j))) → ∀ r, evI C tab p [0, 1] [0] l234_0 r ⟨[(0, mslT n off k), (1, .v (.int .u8 0))], [[], [(n, .box cs)]], [], 0⟩ = some (.exit 0, ⟨[(0, mslT n off (rk g k))], [[], [(n, .box cs)]], [], 0⟩) := by
  intro k
  induction k with
  | zero =>
    intro _ _ r
    have e : mslT n off 0 = .sl [] .no := rfl
    have e2 : rk g 0 = 0 := rfl
    rw [e2]
    (rw [ev_round]; sym => simp [u234_0, m234_0.eq_1, e, z0, z1, z5, z8, z24, z29, z41, z47, z48, z51, z52, z58, z59, z60, z62, z65, z66, z67, z68, z75, z85, z86, z95, z99, z104, z110, z281, z286, z309, z310, z311, z313, z314, z316, z317, z320, z321, z324, z326, z328, z329, z330, z332, z336, z355, z356, z367, z368, z370, z383, z384, z387, z388, z399, z410, z412, z413, z437, z441, z442, z446, z457, z458, z461, z462])
  | succ k ih =>
    intro hk hg r
    have ih' := ih (by omega) (fun j hj => hg j (by omega))
    have e : mslT n off (k + 1) = .msl n off (k + 1) := rfl
    have hget := hg k (by omega)
    have h1 : decide ((0 : Int) < ((k + 1 : Nat) : Int)) = true := by simp; try omega
    have h2 : IntKind.i64.wrap (((k + 1 : Nat) : Int) - 1) = (k : Int) := by rw [wrap_i64 (by omega) (by omega)]; omega
    have h3 : decide (0 ≤ (k : Int) ∧ (k : Int) < ((k + 1 : Nat) : Int)) = true := by simp; try omega
    have h4 : decide (0 ≤ (k : Int) ∧ (k : Int) ≤ ((k + 1 : Nat) : Int)) = true := by simp; try omega
    by_cases hz : (g k).toNat = 0
    · have hz' : decide (((g k).toNat : Int) = 0) = true := by simp [hz]
      have e2 : rk g (k + 1) = rk g k := by simp [rk, hz]
      rw [e2, e]
      have e3 : mslD (decide (0 < k)) 1 n off 0 k = mslT n off k := by cases k <;> simp [mslT, mslD]
      (rw [ev_round]; sym => simp [u234_0, m234_0.eq_1, h1, h2, h3, h4, hget, hz', ih', e3, z0, z1, z5, z8, z24, z29, z41, z47, z48, z51, z52, z58, z59, z60, z62, z65, z66, z67, z68, z75, z85, z86, z95, z99, z104, z110, z281, z286, z309, z310, z311, z313, z314, z316, z317, z320, z321, z324, z326, z328, z329, z330, z332, z336, z355, z356, z367, z368, z370, z383, z384, z387, z388, z399, z410, z412, z413, z437, z441, z442, z446, z457, z458, z461, z462])
    · have hz' : decide (((g k).toNat : Int) = 0) = false := by simp; omega
      have e2 : rk g (k + 1) = k + 1 := by simp [rk, hz]
      rw [e2, e]
      (rw [ev_round]; sym => simp [u234_0, m234_0.eq_1, h1, h2, h3, h4, hget, hz', z0, z1, z5, z8, z24, z29, z41, z47, z48, z51, z52, z58, z59, z60, z62, z65, z66, z67, z68, z75, z85, z86, z95, z99, z104, z110, z281, z286, z309, z310, z311, z313, z314, z316, z317, z320, z321, z324, z326, z328, z329, z330, z332, z336, z355, z356, z367, z368, z370, z383, z384, z387, z388, z399, z410, z412, z413, z437, z441, z442, z446, z457, z458, z461, z462])
theorem tl_loop (p n : AE.Name) (cs : List T) (off k m : Nat) (g : Nat → UInt8) (hk : k ≤ 1000) (hm : m < k) (hgm : (g m).toNat ≠ 0) (hg : ∀ j, j < k → cs[off + j]? = some (encB (g j))) : ∀ d i, i + d = k → i ≤ m → ∀ r, evI C tab p [0, 1] [0] l233_0 r ⟨[(0, .msl n (off + i) d), (1, .v (.int .u8 0))], [[], [(n, .box cs)]], [], 0⟩ = some (.exit 0, ⟨[(0, .msl n (off + lj g d i) (k - lj g d i))], [[], [(n, .box cs)]], [], 0⟩) := by
  intro d
  induction d with
  | zero => intro i hi hm'; omega
  | succ d ih =>
    intro i hi him r
    have hget : cs[off + i]? = some (encB (g i)) := hg i (by omega)
    have h1 : decide ((0 : Int) < ((d + 1 : Nat) : Int)) = true := by simp; try omega
    have h4 : decide ((1 : Int) ≤ ((d + 1 : Nat) : Int)) = true := by simp; try omega
    have t2 : (0 : Nat) * 1 = 0 := rfl
    by_cases hz : (g i).toNat = 0
    · have hne : i ≠ m := fun e => hgm (e ▸ hz)
      have ih' := ih (i + 1) (by omega) (by omega)
      have hz' : decide (((g i).toNat : Int) = 0) = true := by simp [hz]
      have e2 : lj g (d + 1) i = lj g d (i + 1) := by simp [lj, hz]
      have e3 : mslD (decide (1 < d + 1)) 1 n (off + i) 1 (d + 1) = .msl n (off + (i + 1)) d := by
        have : 0 < d := by omega
        simp [mslD, this, Nat.add_assoc]
      rw [e2]
      (rw [ev_round]; sym => simp [u233_0, m233_0.eq_1, h1, h4, t2, hget, hz', ih', e3, z0, z1, z5, z8, z24, z29, z41, z47, z48, z51, z52, z58, z59, z60, z62, z65, z66, z67, z68, z75, z85, z86, z95, z99, z104, z110, z208, z209, z280, z286, z309, z310, z311, z313, z314, z316, z317, z320, z321, z324, z326, z328, z329, z330, z332, z336, z355, z356, z367, z368, z370, z383, z384, z387, z388, z399, z412, z413, z428, z437, z441, z442, z457, z462, z464])
    · have hz' : decide (((g i).toNat : Int) = 0) = false := by simp; omega
      have e2 : lj g (d + 1) i = i := by simp [lj, hz]
      have e3 : k - i = d + 1 := by omega
      rw [e2, e3]
      (rw [ev_round]; sym => simp [u233_0, m233_0.eq_1, h1, h4, t2, hget, hz', z0, z1, z5, z8, z24, z29, z41, z47, z48, z51, z52, z58, z59, z60, z62, z65, z66, z67, z68, z75, z85, z86, z95, z99, z104, z110, z208, z209, z280, z286, z309, z310, z311, z313, z314, z316, z317, z320, z321, z324, z326, z328, z329, z330, z332, z336, z355, z356, z367, z368, z370, z383, z384, z387, z388, z399, z412, z413, z428, z437, z441, z442, z457, z462, z464])
theorem rk_pos (g : Nat → UInt8) : ∀ k, (rk g k = 0 ↔ ∀ j, j < k → (g j).toNat = 0) ∧ rk g k ≤ k ∧ (0 < rk g k → (g (rk g k - 1)).toNat ≠ 0)
  | 0 => by simp [rk]
  | k + 1 => by
    obtain ⟨h1, h2, h3⟩ := rk_pos g k
    by_cases hz : (g k).toNat = 0
    · have e : rk g (k + 1) = rk g k := by simp [rk, hz]
      rw [e]
      refine ⟨h1.trans ⟨fun h j hj => ?_, fun h j hj => h j (by omega)⟩, by omega, h3⟩
      by_cases e : j = k
      · rw [e]; exact hz
      · exact h j (by omega)
    · have e : rk g (k + 1) = k + 1 := by simp [rk, hz]
      rw [e]
      exact ⟨⟨fun h => by omega, fun h => absurd (h k (by omega)) hz⟩, Nat.le_refl _, fun _ => by simpa using hz⟩
theorem lj_le (g : Nat → UInt8) (m : Nat) (hgm : (g m).toNat ≠ 0) : ∀ d i, i ≤ m → lj g d i ≤ m
  | 0, i, h => h
  | d + 1, i, h => by
    by_cases hz : (g i).toNat = 0
    · have hne : i ≠ m := fun e => hgm (e ▸ hz)
      simp only [lj, hz, if_true]; exact lj_le g m hgm d (i + 1) (by omega)
    · simp only [lj, hz, if_false]; exact h
theorem lj0_pos : ((0 : Int) = 0) = True := by simp
/-- bytes.Trim of noughts: nothing is left just if all are noughts. -/
theorem trl_c (nm n : AE.Name) (cs : List T) (off k : Nat) (g : Nat → UInt8) (hk : k ≤ 1000) (hg : ∀ j, j < k → cs[off + j]? = some (encB (g j))) : evW C tab 234 nm [mslT n off k, .v (.int .u8 0)] [[(n, .box cs)]] = some (mslT n off (rk g k), [[(n, .box cs)]]) := by
  have h := fun p r => tr_loop p n cs off g k hk hg r
  have e := (rk_pos g k).2.1
  cases h1 : mslT n off (rk g k) with
  | sl l t =>
    rw [h1] at h
    have hl : l = [] ∧ t = .no := by
      cases h2 : rk g k <;> rw [h2] at h1 <;> simp [mslT] at h1; simp_all
    obtain ⟨rfl, rfl⟩ := hl
    (rw [fn234]; sym => simp [b234.eq_1, h, z0, z47, z48, z58, z59, z60, z62, z67, z77, z78, z85, z86, z87, z89, z90, z92, z94, z135, z136, z137, z138, z140, z141, z142, z143, z144, z289, z296, z308, z309, z310, z313, z314, z319, z320, z321, z327, z328, z329, z337, z339, z360, z369, z370, z383, z384, z403, z404, z412, z413])
  | msl a b c =>
    rw [h1] at h
    (rw [fn234]; sym => simp [b234.eq_1, h, z0, z47, z48, z58, z59, z60, z62, z67, z77, z78, z85, z86, z87, z89, z90, z92, z94, z135, z136, z137, z138, z140, z141, z142, z143, z144, z289, z296, z308, z309, z310, z313, z314, z319, z320, z321, z327, z328, z329, z337, z339, z360, z369, z370, z383, z384, z403, z404, z412, z413])
  | _ => cases h2 : rk g k <;> rw [h2] at h1 <;> simp [mslT] at h1
theorem tll0_c (nm n : AE.Name) (cs : List T) : evW C tab 233 nm [.sl [] .no, .v (.int .u8 0)] [[]] = some (.sl [] .nil, [[]]) := by
  (rw [fn233]; sym => simp [b233.eq_1, ev_round, u233_0, m233_0.eq_1, z0, z1, z8, z41, z47, z48, z58, z59, z60, z62, z77, z78, z85, z86, z87, z89, z90, z92, z94, z99, z110, z135, z136, z137, z138, z140, z141, z142, z143, z144, z289, z296, z308, z309, z310, z311, z313, z314, z315, z316, z319, z320, z321, z326, z327, z328, z329, z330, z332, z336, z337, z339, z360, z368, z369, z370, z383, z384, z399, z403, z404, z410, z412, z413, z437, z445, z446, z461])
theorem tll_c (nm n : AE.Name) (cs : List T) (off k m : Nat) (g : Nat → UInt8) (hk : k ≤ 1000) (hm : m < k) (hgm : (g m).toNat ≠ 0) (hg : ∀ j, j < k → cs[off + j]? = some (encB (g j))) : evW C tab 233 nm [.msl n off k, .v (.int .u8 0)] [[(n, .box cs)]] = some (.msl n (off + lj g k 0) (k - lj g k 0), [[(n, .box cs)]]) := by
  have h := fun p r => tl_loop p n cs off k m g hk hm hgm hg k 0 (by omega) (by omega) r
  simp only [Nat.add_zero] at h
  have hl := lj_le g m hgm k 0 (by omega)
  have h1 : ((((k - lj g k 0 : Nat)) : Int) = 0) = False := by simp; omega
  (rw [fn233]; sym => simp [b233.eq_1, h, h1, z0, z8, z41, z47, z48, z58, z59, z60, z62, z67, z77, z78, z85, z86, z87, z89, z90, z92, z94, z99, z110, z135, z136, z137, z138, z140, z141, z142, z143, z144, z289, z296, z308, z309, z310, z311, z313, z314, z319, z320, z321, z327, z328, z329, z336, z337, z339, z360, z367, z369, z370, z383, z384, z399, z403, z404, z412, z413, z437, z446])
theorem mslT_pos (n : AE.Name) (off k : Nat) (h : 0 < k) : mslT n off k = .msl n off k := by cases k <;> simp_all [mslT]
theorem btrim0_c (nm n : AE.Name) (cs : List T) (hcs : cs.flatMap ptr1 = []) (off k : Nat) (g : Nat → UInt8) (hk : k ≤ 1000) (hk0 : 0 < k) (hg : ∀ j, j < k → cs[off + j]? = some (encB (g j))) (hz : ∀ j, j < k → (g j).toNat = 0) : evW C tab 196 nm [.msl n off k, tx [0]] [[(n, .box cs)]] = some (.sl [] .nil, [[(n, .box cs)]]) := by
  have h := fun nm => trl_c nm n cs off k g hk hg
  rw [(rk_pos g k).1.2 hz, mslT_pos n off k hk0] at h
  have e : mslT n off 0 = .sl [] .no := rfl
  have e1 : ((k : Int) = 0) = False := by simp; omega
  have e2 := fun nm => tll0_c nm n cs
  have t1 : (0 : UInt8).toNat = 0 := rfl
  (rw [fn196]; sym => simp [b196.eq_1, call233, call234, call235, call236, call237, call238, call239, h, e, e1, e2, hcs, t1, z0, z1, z8, z31, z41, z44, z47, z48, z49, z50, z58, z59, z60, z62, z65, z66, z67, z68, z72, z74, z77, z78, z87, z89, z90, z92, z94, z99, z106, z110, z135, z136, z137, z138, z140, z141, z142, z143, z144, z146, z147, z152, z154, z155, z156, z157, z159, z172, z173, z177, z208, z244, z289, z293, z294, z295, z296, z297, z298, z300, z301, z302, z303, z304, z306, z307, z309, z310, z311, z314, z315, z320, z321, z328, z329, z330, z332, z336, z337, z339, z341, z342, z343, z355, z358, z360, z367, z369, z370, z375, z383, z384, z387, z388, z389, z390, z395, z399, z403, z404, z406, z407, z408, z409, z410, z411, z412, z413, z414, z415, z422, z423, z430, z431, z437, z438, z441, z445, z446, z448, z449, z450, z453, z461])
theorem btrim1_c (nm n : AE.Name) (cs : List T) (hcs : cs.flatMap ptr1 = []) (off k m : Nat) (g : Nat → UInt8) (hk : k ≤ 1000) (hm : m < k) (hgm : (g m).toNat ≠ 0) (hg : ∀ j, j < k → cs[off + j]? = some (encB (g j))) : ∃ off' k', 0 < k' ∧ ∀ nm, evW C tab 196 nm [.msl n off k, tx [0]] [[(n, .box cs)]] = some (.msl n off' k', [[(n, .box cs)]]) := by
  have h := fun nm => trl_c nm n cs off k g hk hg
  obtain ⟨r1, r2, r3⟩ := rk_pos g k
  have hp : 0 < rk g k := by
    rcases Nat.eq_zero_or_pos (rk g k) with h0 | h0
    · exact absurd (r1.1 h0 m hm) hgm
    · exact h0
  have hg' := r3 hp
  have e2 := fun nm => tll_c nm n cs off (rk g k) (rk g k - 1) g (by omega) (by omega) hg' (fun j hj => hg j (by omega))
  have hl := lj_le g (rk g k - 1) hg' (rk g k) 0 (by omega)
  have e3 := mslT_pos n off (rk g k) hp
  have e1 : ((k : Int) = 0) = False := by simp; omega
  have e4 := mslT_pos n off k (by omega)
  have t1 : (0 : UInt8).toNat = 0 := rfl
  rw [e3, e4] at h
  refine ⟨off + lj g (rk g k) 0, rk g k - lj g (rk g k) 0, by omega, fun nm => ?_⟩
  clear r1 r2 r3 hg hg'
  (rw [fn196]; sym => simp [b196.eq_1, call233, call234, call235, call236, call237, call238, call239, h, e1, e2, hcs, t1, z0, z1, z8, z31, z41, z44, z47, z48, z49, z50, z58, z59, z60, z62, z65, z66, z67, z68, z72, z74, z77, z78, z87, z89, z90, z92, z94, z99, z106, z110, z135, z136, z137, z138, z140, z141, z142, z143, z144, z146, z147, z152, z154, z155, z156, z157, z173, z177, z208, z244, z289, z293, z294, z295, z296, z297, z298, z300, z301, z302, z303, z304, z306, z307, z309, z310, z311, z314, z315, z320, z321, z328, z329, z330, z332, z336, z337, z339, z341, z342, z343, z355, z358, z360, z367, z369, z370, z375, z383, z384, z387, z388, z389, z390, z395, z399, z403, z404, z406, z407, z408, z409, z410, z411, z412, z413, z414, z415, z422, z423, z430, z431, z437, z438, z441, z445, z446, z448, z449, z450, z453, z461])
def addrR (x : Addr) : Bool := x.six || (x.b.drop 4).all (· == 0)
theorem addrR_c (nm : AE.Name) (x : Addr) : evW C tab 114 nm [x.t] [] = some (bT (addrR x), []) := by
  have hcs : ∀ y, (T.v y :: x.b.map encB).flatMap ptr1 = [] := fun y => by simp [List.flatMap_map, ptr1, ptr0, encB]
  have hb := x.hb
  have hg : ∀ y, ∀ j, j < 12 → (T.v y :: x.b.map encB)[5 + j]? = some (encB (x.b.getD (4 + j) 0)) := fun y j hj => by
    rw [show 5 + j = (4 + j) + 1 by omega, List.getElem?_cons_succ, List.getElem?_map, List.getElem?_eq_getElem (by omega)]
    simp [List.getD, hb, show 4 + j < 16 by omega]
  by_cases hz : ∀ j, j < 12 → (x.b.getD (4 + j) 0).toNat = 0
  · have h := fun nm n => btrim0_c nm n (T.v (.bool x.six) :: x.b.map encB) (hcs _) 5 12 (fun j => x.b.getD (4 + j) 0) (by omega) (by omega) (hg _) hz
    have e : addrR x = true := by
      have : (x.b.drop 4).all (· == 0) = true := by
        rw [List.all_eq_true]
        intro c hc
        obtain ⟨j, hj, rfl⟩ := List.mem_iff_getElem.1 hc
        simp only [List.length_drop, hb] at hj
        have := hz j (by omega)
        simp only [List.getElem_drop, beq_iff_eq]
        simp only [List.getD, List.getElem?_eq_getElem (show 4 + j < x.b.length by omega), Option.getD_some] at this
        exact UInt8.toNat_inj.1 (by simpa using this)
      simp [addrR, this]
    rw [e]
    cases hs : x.six
    · rw [hs] at h
      (rw [fn114]; sym => simp [b114.eq_1, call196, hs, h, hb16, ptr0_encB, ptr1_encB, strip_encB, z0, z1, z2, z5, z8, z25, z26, z41, z44, z47, z48, z49, z50, z51, z52, z58, z59, z60, z62, z65, z66, z68, z70, z72, z74, z75, z77, z78, z87, z89, z90, z91, z94, z95, z97, z99, z101, z102, z110, z135, z136, z137, z138, z140, z141, z142, z143, z144, z146, z147, z152, z153, z154, z155, z156, z157, z173, z177, z206, z212, z259, z280, z287, z289, z293, z294, z295, z296, z297, z298, z300, z301, z302, z303, z304, z306, z307, z309, z310, z314, z320, z321, z328, z329, z331, z334, z337, z339, z341, z342, z343, z356, z358, z360, z369, z370, z383, z384, z387, z389, z395, z399, z403, z404, z405, z406, z407, z408, z409, z410, z412, z413, z414, z415, z422, z423, z430, z431, z437, z441, z442, z443, z445, z446, z461])
    · rw [hs] at h
      (rw [fn114]; sym => simp [b114.eq_1, call196, hs, h, hb16, ptr0_encB, ptr1_encB, strip_encB, z0, z1, z2, z5, z8, z25, z26, z41, z44, z47, z48, z49, z50, z51, z52, z58, z59, z60, z62, z65, z66, z68, z70, z72, z74, z75, z77, z78, z87, z89, z90, z91, z94, z95, z97, z99, z101, z102, z110, z135, z136, z137, z138, z140, z141, z142, z143, z144, z146, z147, z152, z153, z154, z155, z156, z157, z173, z177, z206, z212, z259, z280, z287, z289, z293, z294, z295, z296, z297, z298, z300, z301, z302, z303, z304, z306, z307, z309, z310, z314, z320, z321, z328, z329, z331, z334, z337, z339, z341, z342, z343, z356, z358, z360, z369, z370, z383, z384, z387, z389, z395, z399, z403, z404, z405, z406, z407, z408, z409, z410, z412, z413, z414, z415, z422, z423, z430, z431, z437, z441, z442, z443, z445, z446, z461])
  · obtain ⟨m, hm, hgm⟩ : ∃ m, m < 12 ∧ (x.b.getD (4 + m) 0).toNat ≠ 0 := by
      apply Classical.byContradiction
      intro hn
      apply hz
      intro j hj
      apply Classical.byContradiction
      intro h
      exact hn ⟨j, hj, h⟩
    have e : addrR x = x.six := by
      have : (x.b.drop 4).all (· == 0) = false := by
        rw [Bool.eq_false_iff]
        intro h
        rw [List.all_eq_true] at h
        have hlt : 4 + m < x.b.length := by omega
        have := h (x.b[4 + m]) (by rw [List.mem_iff_getElem]; exact ⟨m, by simp [hb]; omega, by simp⟩)
        simp only [beq_iff_eq] at this
        apply hgm
        simp only [List.getD, List.getElem?_eq_getElem hlt, Option.getD_some, this]
        rfl
      simp [addrR, this]
    rw [e]
    cases hs : x.six
    · obtain ⟨off', k', hk', h⟩ := btrim1_c nm (nm ++ [0, 0]) (T.v (.bool x.six) :: x.b.map encB) (hcs _) 5 12 m (fun j => x.b.getD (4 + j) 0) (by omega) hm hgm (hg _)
      have hk2 : ((k' : Int) = 0) = False := by simp; omega
      rw [hs] at h
      clear hg hcs hz
      (rw [fn114]; sym => simp [b114.eq_1, call196, hs, h, hk2, hb16, ptr0_encB, ptr1_encB, strip_encB, z0, z1, z2, z5, z8, z25, z26, z41, z44, z47, z48, z49, z50, z51, z52, z58, z59, z60, z62, z65, z66, z68, z70, z72, z74, z75, z77, z78, z87, z89, z90, z91, z94, z95, z97, z99, z101, z102, z110, z135, z136, z137, z138, z140, z141, z142, z143, z144, z146, z147, z152, z153, z154, z155, z156, z157, z173, z177, z206, z212, z259, z280, z287, z289, z293, z294, z295, z296, z297, z298, z300, z301, z302, z303, z304, z306, z307, z309, z310, z314, z320, z321, z328, z329, z331, z334, z337, z339, z341, z342, z343, z356, z358, z360, z369, z370, z383, z384, z387, z389, z395, z399, z403, z404, z405, z406, z407, z408, z409, z410, z412, z413, z414, z415, z422, z423, z430, z431, z437, z441, z442, z443, z445, z446, z461])
    · clear hg hcs hz
      (rw [fn114]; sym => simp [b114.eq_1, call196, hs, hb16, ptr0_encB, ptr1_encB, strip_encB, z0, z1, z2, z5, z8, z25, z26, z41, z44, z47, z48, z49, z50, z51, z52, z58, z59, z60, z62, z65, z66, z68, z70, z72, z74, z75, z77, z78, z87, z89, z90, z91, z94, z95, z97, z99, z101, z102, z110, z135, z136, z137, z138, z140, z141, z142, z143, z144, z146, z147, z152, z153, z154, z155, z156, z157, z173, z177, z206, z212, z259, z280, z287, z289, z293, z294, z295, z296, z297, z298, z300, z301, z302, z303, z304, z306, z307, z309, z310, z314, z320, z321, z328, z329, z331, z334, z337, z339, z341, z342, z343, z356, z358, z360, z369, z370, z383, z384, z387, z389, z395, z399, z403, z404, z405, z406, z407, z408, z409, z410, z412, z413, z414, z415, z422, z423, z430, z431, z437, z441, z442, z443, z445, z446, z461])
end Go.AE.W

/-! K5: cidrs. -/
set_option linter.unusedVariables false
set_option linter.unusedSimpArgs false
set_option maxHeartbeats 1000000
set_option maxRecDepth 100000
namespace Go.AE.W
open Go.RowKit Go.LB
theorem asize_c (nm : AE.Name) (x : Addr) : evW C tab 219 nm [x.t] [] = some (iT (if x.six then 16 else 4), []) := by
  (rw [fn219]; sym => (simp [b219.eq_1, hb16, ptr0_encB, ptr1_encB, strip_encB, z0, z2, z5, z26, z47, z48, z58, z59, z60, z62, z65, z66, z68, z70, z75, z77, z78, z87, z89, z90, z91, z94, z95, z97, z101, z102, z135, z136, z137, z138, z140, z141, z142, z143, z144, z289, z296, z309, z310, z311, z314, z315, z320, z321, z328, z329, z336, z337, z339, z346, z350, z354, z360, z367, z369, z370, z383, z384, z387, z395, z399, z403, z404, z405, z412, z413, z443]; try (tactic => ( (repeat' (first | (refine And.intro ?_ ?_) | (intro hq))); all_goals (first | rfl | (simp only [*, Bool.and_true, Bool.true_and, Bool.false_and, Bool.and_false, Bool.or_false, Bool.false_or, Bool.true_or, Bool.or_true, Bool.not_true, Bool.not_false]; done) | (simp_all; done) | (simp_all <;> omega) | (simp_all <;> intros <;> omega))))))
theorem abits_c (nm : AE.Name) (x : Addr) : evW C tab 245 nm [x.t] [] = some (iT (if x.six then 128 else 32), []) := by
  have h1 := fun nm => asize_c nm x
  have w1 : IntKind.i64.wrap (8 * 16) = 128 := by decide
  have w2 : IntKind.i64.wrap (8 * 4) = 32 := by decide
  generalize hs : (if x.six then (16 : Int) else 4) = s at h1
  have w : IntKind.i64.wrap (8 * s) = if x.six then 128 else 32 := by subst hs; cases x.six <;> simp <;> decide
  (rw [fn245]; sym => simp [b245.eq_1, call219, h1, w, hb16, take16, ptr0_encB, ptr1_encB, strip_encB, z0, z2, z5, z8, z44, z47, z48, z49, z50, z58, z59, z60, z62, z65, z66, z68, z70, z76, z77, z78, z87, z89, z90, z91, z94, z95, z99, z101, z102, z135, z136, z137, z138, z140, z141, z142, z143, z144, z146, z147, z162, z181, z289, z296, z309, z310, z314, z320, z321, z328, z329, z337, z339, z340, z360, z369, z370, z383, z384, z387, z399, z403, z404, z405, z411, z412, z413, z414, z415, z417, z418, z437, z443, z459])
theorem fits_c (nm : AE.Name) (x : Addr) (n : Int) : evW C tab 210 nm [x.t, iT n] [] = some (bT (decide (0 ≤ n) && decide (n ≤ if x.six then 128 else 32)), []) := by
  have h1 := fun nm => abits_c nm x
  generalize (if x.six then (128 : Int) else 32) = s at *
  (rw [fn210]; sym => (simp [b210.eq_1, call245, h1, hb16, take16, ptr0_encB, ptr1_encB, strip_encB, z0, z1, z2, z5, z8, z44, z47, z48, z49, z50, z58, z59, z60, z62, z65, z66, z68, z70, z76, z77, z78, z87, z89, z90, z91, z94, z95, z99, z101, z102, z135, z136, z137, z138, z140, z141, z142, z143, z144, z146, z147, z162, z181, z289, z296, z309, z310, z314, z320, z321, z328, z329, z330, z332, z337, z339, z340, z345, z346, z350, z354, z360, z369, z370, z383, z384, z387, z399, z403, z404, z405, z411, z412, z413, z414, z415, z417, z418, z437, z443, z459]; try (tactic => ( (repeat' (first | (refine And.intro ?_ ?_) | (intro hq))); all_goals (first | rfl | (simp only [*, Bool.and_true, Bool.true_and, Bool.false_and, Bool.and_false, Bool.or_false, Bool.false_or, Bool.true_or, Bool.or_true, Bool.not_true, Bool.not_false]; done) | (simp_all; done) | (simp_all <;> omega) | (simp_all <;> intros <;> omega))))))
/-- How many bits of a byte are kept. -/
def kp (bits : Int) (i : Nat) : Int := mnI (mxI (bits - 8 * (i : Int)) 0) 8
def cutB (bits : Int) (i : Nat) (c : UInt8) : UInt8 := c &&& UInt8.ofNat (65280 / 2 ^ (kp bits i).toNat % 256)
theorem cut_key : ∀ k, k < 9 → ∀ m, m < 256 → IntKind.u8.wrap ((BitVec.ofInt IntKind.u8.bits ((m : Nat) : Int) &&& BitVec.ofInt IntKind.u8.bits (IntKind.u8.wrap (Int.fdiv 65280 (2 ^ min k IntKind.u16.bits)))).toNat) = ((UInt8.ofNat m &&& UInt8.ofNat (65280 / 2 ^ k % 256)).toNat : Int) := by decide +kernel
theorem kp_lt (bits : Int) (i : Nat) : 0 ≤ kp bits i ∧ kp bits i ≤ 8 := by
  simp only [kp, mnI, mxI]; split <;> split <;> omega
theorem cutB_eq (bits : Int) (i : Nat) (c : UInt8) : IntKind.u8.wrap ((BitVec.ofInt IntKind.u8.bits (c.toNat : Int) &&& BitVec.ofInt IntKind.u8.bits (IntKind.u8.wrap (Int.fdiv 65280 (2 ^ min (kp bits i).toNat IntKind.u16.bits)))).toNat) = ((cutB bits i c).toNat : Int) := by
  have h := kp_lt bits i
  rw [cut_key (kp bits i).toNat (by omega) c.toNat c.toNat_lt, cutB]
  simp
/-- The first so many bytes cut. -/
def cutL (bits : Int) : Nat → List UInt8 → List UInt8
  | _, [] => []
  | i, c :: l => cutB bits i c :: cutL bits (i + 1) l
theorem cutL_len (bits : Int) : ∀ (l : List UInt8) (i : Nat), (cutL bits i l).length = l.length
  | [], _ => rfl
  | c :: l, i => by simp [cutL, cutL_len bits l]
theorem cut_loop (p n1 n2 : AE.Name) (hn : (n1 = n2) = False) (hn' : (n2 = n1) = False) (bits : Int) (six : Bool) (h0 : 0 ≤ bits) (h1 : bits ≤ 128) (z : List T) : ∀ (rest pre : List UInt8), pre.length + rest.length = 16 → ∀ r, evI C tab p [1, 2, 4, 7] [2, 4] l211_0 r ⟨[(1, iT bits), (2, .ptr n1 0), (4, .ptr n2 0), (7, iT (pre.length : Int))], [[(n2, .box z), (n1, .box (.v (.bool six) :: (pre ++ rest).map encB))]], [], 0⟩ = some (.exit 0, ⟨[(2, .ptr n1 0), (4, .ptr n2 0)], [[(n2, .box z), (n1, .box (.v (.bool six) :: (pre ++ cutL bits pre.length rest).map encB))]], [], 0⟩) := by
  intro rest
  induction rest with
  | nil =>
    intro pre hb r
    have g1 : decide ((pre.length : Int) < 16) = false := by simp at hb ⊢; omega
    have e : cutL bits pre.length [] = [] := rfl
    rw [e]
    generalize pre ++ [] = b at *
    (rw [ev_round]; sym => simp [u211_0, m211_0.eq_1, g1, z0, z5, z6, z8, z15, z26, z28, z43, z47, z48, z49, z50, z58, z59, z60, z61, z62, z65, z66, z67, z68, z72, z74, z75, z83, z84, z85, z86, z95, z96, z97, z99, z101, z102, z103, z202, z203, z204, z205, z259, z309, z310, z311, z313, z314, z316, z317, z320, z321, z324, z326, z328, z329, z336, z355, z367, z368, z370, z383, z384, z387, z388, z389, z390, z399, z410, z411, z412, z413, z430, z437, z457, z458, z459, z460, z462])
  | cons c rest ih =>
    intro pre hb r
    have hb' : (pre ++ c :: rest).length = 16 := by simpa using hb
    have ih' := ih (pre ++ [cutB bits pre.length c]) (by simp at hb ⊢; omega)
    simp only [List.length_append, List.length_cons, List.length_nil, List.append_assoc, List.singleton_append, Nat.zero_add] at ih'
    have g1 : decide ((pre.length : Int) < 16) = true := by simp at hb ⊢; omega
    have hget : (pre ++ c :: rest)[pre.length]? = some c := by simp
    have hset : ((pre ++ c :: rest).map encB).set pre.length (.v (.int .u8 ((cutB bits pre.length c).toNat : Int))) = (pre ++ cutB bits pre.length c :: rest).map encB := by simp [encB]
    have e : pre ++ cutL bits pre.length (c :: rest) = pre ++ cutB bits pre.length c :: cutL bits (pre.length + 1) rest := rfl
    have hp : pre.length < 16 := by simp at hb; omega
    have hc := cutB_eq bits pre.length c
    have hk := kp_lt bits pre.length
    generalize pre.length = i at *
    have hlen : ((pre ++ c :: rest).map encB).length = 16 := by simpa using hb'
    generalize pre ++ c :: rest = b at *
    rw [e]
    generalize pre ++ cutB bits i c :: rest = b2 at *
    generalize pre ++ cutB bits i c :: cutL bits (i + 1) rest = b3 at *
    have g2 : decide (0 ≤ (i : Int) ∧ (i : Int) < 16) = true := by simp; omega
    have g3 : IntKind.i64.wrap ((i : Int) + 1) = ((i + 1 : Nat) : Int) := by rw [wrap_i64 (by omega) (by omega)]; omega
    have g4 : IntKind.i64.wrap (8 * (i : Int)) = 8 * (i : Int) := wrap_i64 (by omega) (by omega)
    have g5 : IntKind.i64.wrap (bits - 8 * (i : Int)) = bits - 8 * (i : Int) := wrap_i64 (by omega) (by omega)
    have g6 : mnI (mxI (bits - 8 * (i : Int)) 0) 8 = kp bits i := rfl
    have g7 : (kp bits i < 0) = False := by simp; omega
    have g8 : (1 + i + 1 ≤ b.length + 1) = True := by simp; omega
    have g9 : ∀ l : List T, ∀ y, (y :: l)[1 + i]? = l[i]? := fun l y => by rw [Nat.add_comm 1 i]; rfl
    have g10 : ∀ l : List T, ∀ y z, (y :: l).set (1 + i) z = y :: l.set i z := fun l y z => by rw [Nat.add_comm 1 i]; rfl
    (rw [ev_round]; sym => simp [u211_0, m211_0.eq_1, g1, g2, g3, g4, g5, g6, g7, g8, g9, g10, hget, hc, hset, hlen, hn, hn', ih', z0, z5, z6, z8, z15, z26, z28, z43, z47, z48, z49, z50, z58, z59, z60, z61, z62, z65, z66, z67, z68, z72, z74, z75, z83, z84, z85, z86, z95, z96, z97, z99, z101, z102, z103, z202, z203, z204, z205, z259, z309, z310, z311, z313, z314, z316, z317, z320, z321, z324, z326, z328, z329, z336, z355, z367, z368, z370, z383, z384, z387, z388, z389, z390, z399, z410, z411, z412, z413, z430, z437, z457, z458, z459, z460, z462])
abbrev i16 : List CK := [.int, .int, .int, .int, .int, .int, .int, .int, .int, .int, .int, .int, .int, .int, .int, .int]
theorem eq_bytes : ∀ (l m : List UInt8), l.length = m.length → eqLT (List.replicate l.length .int) (l.map encB) (m.map encB) = some (decide (l = m))
  | [], [], _ => by simp [eqLT]
  | [], c :: m, h => by simp at h
  | c :: l, [], h => by simp at h
  | c :: l, d :: m, h => by
    rw [List.length_cons, List.replicate_succ, List.map_cons, List.map_cons, eqLT_cons, eq_bytes l m (by simpa using h)]
    simp only [ceqT, encB, if_true, eqC_some]
    congr 1
    rw [Bool.eq_iff_iff]
    simp
    intro _
    exact ⟨fun h => UInt8.toNat_inj.1 (by omega), fun h => by rw [h]⟩
theorem eq16 (l m : List UInt8) (hl : l.length = 16) (hm : m.length = 16) : eqLT i16 (l.map encB) (m.map encB) = some (decide (l = m)) := by
  have := eq_bytes l m (by rw [hl, hm])
  rw [hl] at this
  exact this
theorem cut_c (nm : AE.Name) (x : Addr) (bits : Int) (h0 : 0 ≤ bits) (h1 : bits ≤ 128) : evW C tab 211 nm [x.t, iT bits] [] = some (.agg (.v (.bool x.six) :: (cutL bits 0 x.b).map encB), []) := by
  have h := fun p n1 n2 hn hn' z r => cut_loop p n1 n2 hn hn' bits x.six h0 h1 z x.b [] (by simpa using x.hb) r
  simp only [List.nil_append, List.length_nil, cast0] at h
  have h' := fun p s1 s2 (nm : AE.Name) (hne : (s1 = s2) = False) z r => h p (nm ++ s1) (nm ++ s2) (by rw [nm_eq]; exact hne) (by rw [nm_eq]; rw [← hne]; simp only [eq_iff_iff]; exact ⟨Eq.symm, Eq.symm⟩) z r
  have h2 := fun p z r => h' p [0, 0] [0, 1] nm (by simp) z r
  clear h h'
  have hl : ((cutL bits 0 x.b).map encB).length = 16 := by simp [cutL_len, x.hb]
  have t1 : ((cutL bits 0 x.b).map encB).take 16 = (cutL bits 0 x.b).map encB := List.take_of_length_le (by omega)
  have t2 : ((cutL bits 0 x.b).map encB).flatMap ptrR0 = [] := by simp [List.flatMap_map, ptrR0, encB]
  have t3 : ∀ L top, ((cutL bits 0 x.b).map encB).map (sealC L top) = (cutL bits 0 x.b).map encB := fun L top => by simp [sealC, seal1, strip1, encB]
  have hl' : (cutL bits 0 x.b).length = 16 := by simp [cutL_len, x.hb]
  generalize cutL bits 0 x.b = c at *
  have t4 : ∀ v a1 a2 a3 a4 a5 a6 a7 a8 a9 a10 a11 a12 a13 a14 a15 a16 : T, putAt [v, a1, a2, a3, a4, a5, a6, a7, a8, a9, a10, a11, a12, a13, a14, a15, a16] 1 (c.map encB) = v :: c.map encB := fun v a1 a2 a3 a4 a5 a6 a7 a8 a9 a10 a11 a12 a13 a14 a15 a16 => putAt_gen (c.map encB) [a1, a2, a3, a4, a5, a6, a7, a8, a9, a10, a11, a12, a13, a14, a15, a16] [v] (by simp [hl'])
  (rw [fn211]; sym => simp [b211.eq_1, h2, hb16, hl', hl, t1, t2, t3, t4, ptr0_encB, ptr1_encB, strip_encB, z0, z2, z5, z6, z47, z48, z58, z59, z60, z61, z62, z65, z66, z68, z70, z72, z74, z76, z77, z78, z84, z85, z86, z88, z89, z90, z91, z94, z95, z96, z101, z102, z135, z136, z137, z138, z139, z140, z141, z142, z143, z144, z162, z289, z296, z308, z309, z310, z313, z314, z319, z320, z321, z327, z328, z329, z337, z339, z360, z369, z370, z371, z374, z383, z384, z387, z389, z399, z403, z404, z405, z409, z410, z411, z412, z413, z414, z417, z418, z421, z428, z430, z443, z459])
def cidrR (x : Cidr) : Bool := addrR x.a && (decide (0 ≤ x.bits) && decide (x.bits ≤ if x.a.six then 128 else 32)) && decide (cutL x.bits 0 x.a.b = x.a.b)
theorem cidrR_c (nm : AE.Name) (x : Cidr) : evW C tab 147 nm [x.t] [] = some (bT (cidrR x), []) := by
  have h1 := fun nm => addrR_c nm x.a
  have h2 := fun nm => fits_c nm x.a x.bits
  have hl' : (cutL x.bits 0 x.a.b).length = 16 := by simp [cutL_len, x.a.hb]
  have e := eq16 (cutL x.bits 0 x.a.b) x.a.b hl' x.a.hb
  have e2 : ∀ b : Bool, (b == b) = true := fun b => by simp
  have tk : ∀ y : T, (x.a.b.map encB ++ [y]).take 16 = x.a.b.map encB := fun y => by
    have := take17 x.a [y] 0
    simpa using this
  have gt : (x.a.b.map encB ++ [T.v (.int .i64 x.bits)])[16]? = some (T.v (.int .i64 x.bits)) := by
    rw [List.getElem?_append_right (by simp [x.a.hb])]; simp [x.a.hb]
  unfold cidrR
  cases hf : (decide (0 ≤ x.bits) && decide (x.bits ≤ if x.a.six then 128 else 32))
  · rw [hf] at h2
    (rw [fn147]; sym => (simp [b147.eq_1, call114, call210, call211, h1, h2, tk, gt, hb16, ptr0_encB, ptr1_encB, strip_encB, fm_app, map_app, len_app, z0, z1, z2, z5, z10, z26, z44, z47, z48, z49, z50, z58, z59, z60, z62, z65, z66, z68, z70, z75, z76, z77, z78, z87, z89, z90, z91, z94, z95, z97, z101, z102, z130, z133, z135, z136, z137, z138, z140, z141, z142, z143, z144, z146, z147, z162, z173, z181, z289, z296, z309, z310, z314, z320, z321, z328, z329, z330, z332, z337, z339, z340, z345, z346, z350, z354, z357, z358, z359, z360, z363, z369, z370, z383, z384, z387, z396, z399, z403, z404, z405, z410, z411, z412, z413, z414, z415, z417, z418, z424, z425, z430, z443, z459]; try (tactic => ( (repeat' (first | (refine And.intro ?_ ?_) | (intro hq))); all_goals (first | rfl | (simp only [*, Bool.and_true, Bool.true_and, Bool.false_and, Bool.and_false, Bool.or_false, Bool.false_or, Bool.true_or, Bool.or_true, Bool.not_true, Bool.not_false]; done) | (simp_all; done) | (simp_all <;> omega) | (simp_all <;> intros <;> omega))))))
  · have hb : 0 ≤ x.bits ∧ x.bits ≤ 128 := by
      simp at hf
      refine ⟨hf.1, ?_⟩
      have := hf.2
      split at this <;> omega
    have h3 := fun nm => cut_c nm x.a x.bits hb.1 hb.2
    rw [hf] at h2
    (rw [fn147]; sym => (simp [b147.eq_1, call114, call210, call211, h1, h2, h3, hl', e, e2, tk, gt, hb16, ptr0_encB, ptr1_encB, strip_encB, fm_app, map_app, len_app, z0, z1, z2, z5, z10, z26, z44, z47, z48, z49, z50, z58, z59, z60, z62, z65, z66, z68, z70, z75, z76, z77, z78, z87, z89, z90, z91, z94, z95, z97, z101, z102, z130, z133, z135, z136, z137, z138, z140, z141, z142, z143, z144, z146, z147, z162, z173, z181, z289, z296, z309, z310, z314, z320, z321, z328, z329, z330, z332, z337, z339, z340, z345, z346, z350, z354, z357, z358, z359, z360, z363, z369, z370, z383, z384, z387, z396, z399, z403, z404, z405, z410, z411, z412, z413, z414, z415, z417, z418, z424, z425, z430, z443, z459]; try (tactic => ( (repeat' (first | (refine And.intro ?_ ?_) | (intro hq))); all_goals (first | rfl | (simp only [*, Bool.and_true, Bool.true_and, Bool.false_and, Bool.and_false, Bool.or_false, Bool.false_or, Bool.true_or, Bool.or_true, Bool.not_true, Bool.not_false]; done) | (simp_all; done) | (simp_all <;> omega) | (simp_all <;> intros <;> omega))))))
end Go.AE.W

/-! K6: maps of what is seen. -/
set_option linter.unusedVariables false
set_option linter.unusedSimpArgs false
set_option maxHeartbeats 1000000
set_option maxRecDepth 100000
namespace Go.AE.W
open Go.RowKit Go.LB
/-- What is seen: keys, how often, and when first. -/
abbrev Seen (K : Type) := List (K × Int × Nat)
def encS {K : Type} (ek : K → T) (st : Seen K) : List (T × T × Nat) := st.map fun e => (ek e.1, iT e.2.1, e.2.2)
def findS {K : Type} [DecidableEq K] (k : K) : Seen K → Nat → Option (Nat × T × Nat)
  | [], _ => none
  | e :: st, i => if k = e.1 then some (i, iT e.2.1, e.2.2) else findS k st (i + 1)
theorem tfind_S {K : Type} [DecidableEq K] (ek : K → T) (ks : List CK) (hk : ∀ a b, eqLT ks (ek a).cells (ek b).cells = some (decide (a = b))) (k : K) : ∀ (st : Seen K) (i : Nat), tfind ks (ek k) (encS ek st) i = some (findS k st i)
  | [], i => rfl
  | e :: st, i => by
    have ih := tfind_S ek ks hk k st (i + 1)
    simp only [encS, List.map_cons, tfind, hk, findS] at ih ⊢
    by_cases h : k = e.1
    · simp [h]
    · simp only [h, decide_false, if_false]; exact ih
theorem findS_none {K : Type} [DecidableEq K] (k : K) : ∀ (st : Seen K) (i : Nat), findS k st i = none → k ∉ st.map (·.1)
  | [], i, _ => by simp
  | e :: st, i, h => by
    simp only [findS] at h
    split at h
    · cases h
    · rename_i hk
      have := findS_none k st (i + 1) h
      simp only [List.map_cons, List.mem_cons, not_or]
      exact ⟨hk, this⟩
theorem findS_some {K : Type} [DecidableEq K] (k : K) : ∀ (st : Seen K) (i j : Nat) (x : T) (s : Nat), findS k st i = some (j, x, s) → ∃ d e, j = i + d ∧ st[d]? = some e ∧ e.1 = k ∧ x = iT e.2.1 ∧ s = e.2.2
  | [], i, j, x, s, h => by simp [findS] at h
  | e :: st, i, j, x, s, h => by
    simp only [findS] at h
    split at h
    · rename_i hk
      cases h
      exact ⟨0, e, rfl, rfl, hk.symm, rfl, rfl⟩
    · obtain ⟨d, e', h1, h2, h3⟩ := findS_some k st (i + 1) j x s h
      exact ⟨d + 1, e', by omega, by simpa using h2, h3⟩
/-- How many there are, those that were seen among them. -/
def cnt {K : Type} [DecidableEq K] : List K → List K → Nat
  | seen, [] => seen.length
  | seen, k :: l => if k ∈ seen then cnt seen l else cnt (seen ++ [k]) l
def nodupB {K : Type} [DecidableEq K] (l : List K) : Bool := decide (cnt [] l = l.length)
theorem esB_S {K : Type} (ek : K → T) (row : Bool) (ks : List CK) (h : ∀ a, keyB row ks (ek a) = true) (st : Seen K) : esB row ks (encS ek st) = true := by
  simp [esB, encS, h]
theorem keyB_str (l : List UInt8) : keyB false [.str] (tx l) = true := rfl
theorem eq_str (a b : List UInt8) : eqLT [.str] (tx a).cells (tx b).cells = some (decide (a = b)) := by by_cases h : a = b <;> simp [eqLT, T.cells, ceqT, h]
abbrev Port.pp (x : Port) : Int × Int := (x.proto, x.port)
abbrev pairT (a : Int × Int) : T := .agg [iT a.1, iT a.2]
theorem keyB_pair (a : Int × Int) : keyB true [.int, .int] (pairT a) = true := rfl
theorem eq_pair (a b : Int × Int) : eqLT [.int, .int] (pairT a).cells (pairT b).cells = some (decide (a = b)) := by
  obtain ⟨a1, a2⟩ := a; obtain ⟨b1, b2⟩ := b
  simp only [T.cells, eqLT, ceqT, if_true, Option.bind_some]
  by_cases h : a1 = b1 <;> by_cases h2 : a2 = b2 <;> simp [h, h2]

/-! S -/
theorem un_loop_S (p n : AE.Name) (hn : p.isPrefixOf n = false) (g : Nat) (tg : AE.Tag) (l : List (List UInt8)) (hl : l.length ≤ 1000000000000)
    (hf : ∀ nm xs h L, eCall C (evW C tab) nm g xs h L = freeK nm h L (evW C tab g nm xs [])) (hg : ∀ x ∈ l, ∀ nm, evW C tab g nm [(tx x)] [] = some (tx ((fun x => x) x), [])) (hh : Heap) :
    ∀ (rest : List (List UInt8)) (i : Nat) (st : Seen (List UInt8)) (ck : Nat), l.drop i = rest → i ≤ l.length → ∀ r, ∃ st' ck', st'.length = cnt (st.map (·.1)) (rest.map (fun x => x)) ∧
      evI C tab p [0, 1, 5, 9, 10, 11] [0, 5] l199_0 r ⟨[(0, .sl (l.map tx) tg), (1, .fn (.func g) [] []), (5, .map n), (9, .sl (l.map tx) tg), (10, iT (l.length : Int)), (11, iT (i : Int))], [(n, .map (encS tx st) ck)] :: hh, [], 0⟩
        = some (.exit 0, ⟨[(0, .sl (l.map tx) tg), (5, .map n)], [(n, .map (encS tx st') ck')] :: hh, [], 0⟩) := by
  have n1 := npre_ne hn
  have n2 := npre_ne' hn
  intro rest
  induction rest with
  | nil =>
    intro i st ck hd hi r
    have hi' : i = l.length := by have := congrArg List.length hd; simp at this; omega
    have h1 : decide ((i : Int) < (l.length : Int)) = false := by simp; omega
    refine ⟨st, ck, by simp [cnt], ?_⟩
    clear hg
    (rw [ev_round]; sym => simp [u199_0, m199_0.eq_1, h1, z0, z5, z8, z29, z32, z33, z45, z47, z48, z49, z50, z58, z59, z60, z61, z62, z66, z67, z68, z72, z74, z75, z85, z86, z95, z99, z101, z102, z104, z123, z124, z125, z146, z147, z173, z309, z310, z311, z313, z314, z316, z317, z320, z321, z324, z326, z328, z329, z336, z340, z355, z367, z368, z370, z383, z384, z387, z388, z389, z390, z395, z399, z404, z411, z412, z413, z414, z415, z428, z430, z437, z458, z459, z460])
  | cons x rest ih =>
    intro i st ck hd hi r
    obtain ⟨hget, hlt, hd'⟩ := drop_cons hd
    have h1 : decide ((i : Int) < (l.length : Int)) = true := by simp; omega
    have h2 : IntKind.i64.wrap ((i : Int) + 1) = ((i + 1 : Nat) : Int) := by rw [wrap_i64 (by omega) (by omega)]; omega
    have h3 : decide (0 ≤ (i : Int) ∧ (i : Int) < (l.length : Int)) = true := by simp; omega
    have hx := hg x (List.mem_of_getElem? hget)
    have kb : keyB false [.str] (tx ((fun x => x) x)) = true := keyB_str _
    have eb := esB_S tx false [.str] keyB_str st
    have ekk := (trivial : True)
    have tf := tfind_S tx [.str] eq_str ((fun x => x) x) st 0
    clear hg
    cases hfd : findS ((fun x => x) x) st 0 with
    | none =>
      have hnm := findS_none _ _ _ hfd
      rw [hfd] at tf
      have w1 : IntKind.i64.wrap 1 = 1 := by decide
      have e1 : encS tx st ++ [(tx ((fun x => x) x), iT 1, ck)] = encS tx (st ++ [((fun x => x) x, 1, ck)]) := by simp [encS]
      obtain ⟨st', ck', hc, hev⟩ := ih (i + 1) (st ++ [((fun x => x) x, 1, ck)]) (ck + 1) hd' (by omega) (r + 1)
      refine ⟨st', ck', ?_, ?_⟩
      · rw [hc]; simp only [List.map_append, List.map_cons, List.map_nil, cnt]; rw [if_neg hnm]
      · rw [← e1] at hev
        clear ih e1
        generalize encS tx st = es at *
        (rw [ev_round]; sym => simp [u199_0, m199_0.eq_1, h1, h2, h3, hget, hf, hx, kb, eb, tf, w1, n1, n2, hev, len0, z0, z5, z8, z29, z32, z33, z45, z47, z48, z49, z50, z58, z59, z60, z61, z62, z66, z67, z68, z72, z74, z75, z85, z86, z95, z99, z101, z102, z104, z123, z124, z125, z146, z147, z173, z309, z310, z311, z313, z314, z316, z317, z320, z321, z324, z326, z328, z329, z336, z340, z355, z367, z368, z370, z383, z384, z387, z388, z389, z390, z395, z399, z404, z411, z412, z413, z414, z415, z428, z430, z437, z458, z459, z460])
    | some q =>
      obtain ⟨j, y, s⟩ := q
      obtain ⟨d, e, rfl, hst, hk, rfl, rfl⟩ := findS_some _ _ _ _ _ _ hfd
      rw [hfd] at tf
      have hmem : (fun x => x) x ∈ st.map (·.1) := by
        rw [← hk]; exact List.mem_map.2 ⟨e, List.mem_of_getElem? hst, rfl⟩
      have e1 : (encS tx st).set (0 + d) (tx ((fun x => x) x), iT (IntKind.i64.wrap (e.2.1 + 1)), e.2.2) = encS tx (st.set d ((fun x => x) x, IntKind.i64.wrap (e.2.1 + 1), e.2.2)) := by simp [encS, List.map_set]
      have hm : (st.set d ((fun x => x) x, IntKind.i64.wrap (e.2.1 + 1), e.2.2)).map (·.1) = st.map (·.1) := by
        apply List.ext_getElem?
        intro q
        simp only [List.getElem?_map, List.getElem?_set]
        split
        · rename_i hq; subst hq
          split
          · simp [hst, hk]
          · rename_i hlt'; exact absurd (List.getElem?_eq_some_iff.1 hst).1 hlt'
        · rfl
      obtain ⟨st', ck', hc, hev⟩ := ih (i + 1) (st.set d ((fun x => x) x, IntKind.i64.wrap (e.2.1 + 1), e.2.2)) ck hd' (by omega) (r + 1)
      refine ⟨st', ck', ?_, ?_⟩
      · rw [hc, hm, List.map_cons]; simp only [cnt]; rw [if_pos hmem]
      · rw [← e1] at hev
        clear ih e1 hm
        generalize encS tx st = es at *
        generalize 0 + d = dd at *
        (rw [ev_round]; sym => simp [u199_0, m199_0.eq_1, h1, h2, h3, hget, hf, hx, kb, eb, tf, n1, n2, hev, len0, z0, z5, z8, z29, z32, z33, z45, z47, z48, z49, z50, z58, z59, z60, z61, z62, z66, z67, z68, z72, z74, z75, z85, z86, z95, z99, z101, z102, z104, z123, z124, z125, z146, z147, z173, z309, z310, z311, z313, z314, z316, z317, z320, z321, z324, z326, z328, z329, z336, z340, z355, z367, z368, z370, z383, z384, z387, z388, z389, z390, z395, z399, z404, z411, z412, z413, z414, z415, z428, z430, z437, z458, z459, z460])
theorem un_S (nm : AE.Name) (g : Nat) (tg : AE.Tag) (l : List (List UInt8)) (hl : l.length ≤ 1000000000000)
    (hf : ∀ nm xs h L, eCall C (evW C tab) nm g xs h L = freeK nm h L (evW C tab g nm xs [])) (hg : ∀ x ∈ l, ∀ nm, evW C tab g nm [(tx x)] [] = some (tx ((fun x => x) x), [])) :
    evW C tab 199 nm [.sl (l.map tx) tg, .fn (.func g) [] []] [[]] = some (bT (nodupB (l.map (fun x => x))), [[]]) := by
  obtain ⟨st', ck', hc, hev⟩ := un_loop_S (nm ++ [3]) (nm ++ [1, 0]) (by simp [nm_pre1, List.isPrefixOf]) g tg l hl hf hg [[]] l 0 [] 0 rfl (by omega) 0
  have e0 : encS tx [] = [] := rfl
  have hlen : (encS tx st').length = cnt [] (l.map (fun x => x)) := by simpa [encS] using hc
  have hd : decide (((cnt [] (l.map (fun x => x)) : Nat) : Int) = ((l.length : Nat) : Int)) = nodupB (l.map (fun x => x)) := by
    simp only [nodupB, List.length_map]; rw [Bool.eq_iff_iff]; simp only [decide_eq_true_eq]; omega
  rw [e0] at hev
  simp only [cast0] at hev
  clear hg hc
  generalize encS tx st' = es at *
  (rw [fn199]; sym => simp [b199.eq_1, hev, hlen, hd, z0, z8, z21, z41, z47, z48, z58, z59, z60, z62, z65, z66, z67, z68, z70, z77, z78, z85, z86, z87, z89, z90, z92, z94, z99, z110, z135, z136, z137, z138, z140, z141, z142, z143, z144, z289, z296, z308, z309, z310, z313, z314, z319, z320, z321, z327, z328, z329, z337, z339, z360, z369, z370, z383, z384, z387, z388, z399, z403, z404, z405, z412, z413, z437, z440, z459])

/-! P -/
theorem un_loop_P (p n : AE.Name) (hn : p.isPrefixOf n = false) (g : Nat) (tg : AE.Tag) (l : List Port) (hl : l.length ≤ 1000000000000)
    (hf : ∀ nm xs h L, eCall C (evW C tab) nm g xs h L = freeK nm h L (evW C tab g nm xs [])) (hg : ∀ x ∈ l, ∀ nm, evW C tab g nm [(Port.t x)] [] = some (tx (Port.name x), [])) (hh : Heap) :
    ∀ (rest : List Port) (i : Nat) (st : Seen (List UInt8)) (ck : Nat), l.drop i = rest → i ≤ l.length → ∀ r, ∃ st' ck', st'.length = cnt (st.map (·.1)) (rest.map Port.name) ∧
      evI C tab p [0, 1, 5, 9, 10, 11] [0, 5] l201_0 r ⟨[(0, .sl (l.map Port.t) tg), (1, .fn (.func g) [] []), (5, .map n), (9, .sl (l.map Port.t) tg), (10, iT (l.length : Int)), (11, iT (i : Int))], [(n, .map (encS tx st) ck)] :: hh, [], 0⟩
        = some (.exit 0, ⟨[(0, .sl (l.map Port.t) tg), (5, .map n)], [(n, .map (encS tx st') ck')] :: hh, [], 0⟩) := by
  have n1 := npre_ne hn
  have n2 := npre_ne' hn
  intro rest
  induction rest with
  | nil =>
    intro i st ck hd hi r
    have hi' : i = l.length := by have := congrArg List.length hd; simp at this; omega
    have h1 : decide ((i : Int) < (l.length : Int)) = false := by simp; omega
    refine ⟨st, ck, by simp [cnt], ?_⟩
    clear hg
    (rw [ev_round]; sym => simp [u201_0, m201_0.eq_1, h1, z0, z2, z5, z6, z8, z29, z32, z33, z45, z47, z48, z49, z50, z58, z59, z60, z61, z62, z66, z67, z68, z70, z72, z74, z76, z83, z84, z85, z86, z95, z96, z99, z101, z102, z104, z123, z124, z125, z146, z147, z162, z181, z309, z310, z311, z313, z314, z316, z317, z320, z321, z324, z326, z328, z329, z336, z340, z355, z367, z368, z370, z383, z384, z387, z388, z389, z390, z399, z404, z411, z412, z413, z414, z415, z417, z418, z419, z420, z421, z428, z430, z437, z458, z459, z460])
  | cons x rest ih =>
    intro i st ck hd hi r
    obtain ⟨hget, hlt, hd'⟩ := drop_cons hd
    have h1 : decide ((i : Int) < (l.length : Int)) = true := by simp; omega
    have h2 : IntKind.i64.wrap ((i : Int) + 1) = ((i + 1 : Nat) : Int) := by rw [wrap_i64 (by omega) (by omega)]; omega
    have h3 : decide (0 ≤ (i : Int) ∧ (i : Int) < (l.length : Int)) = true := by simp; omega
    have hx := hg x (List.mem_of_getElem? hget)
    have kb : keyB false [.str] (tx (Port.name x)) = true := keyB_str _
    have eb := esB_S tx false [.str] keyB_str st
    have ekk := (trivial : True)
    have tf := tfind_S tx [.str] eq_str (Port.name x) st 0
    clear hg
    cases hfd : findS (Port.name x) st 0 with
    | none =>
      have hnm := findS_none _ _ _ hfd
      rw [hfd] at tf
      have w1 : IntKind.i64.wrap 1 = 1 := by decide
      have e1 : encS tx st ++ [(tx (Port.name x), iT 1, ck)] = encS tx (st ++ [(Port.name x, 1, ck)]) := by simp [encS]
      obtain ⟨st', ck', hc, hev⟩ := ih (i + 1) (st ++ [(Port.name x, 1, ck)]) (ck + 1) hd' (by omega) (r + 1)
      refine ⟨st', ck', ?_, ?_⟩
      · rw [hc]; simp only [List.map_append, List.map_cons, List.map_nil, cnt]; rw [if_neg hnm]
      · rw [← e1] at hev
        clear ih e1
        generalize encS tx st = es at *
        (rw [ev_round]; sym => simp [u201_0, m201_0.eq_1, h1, h2, h3, hget, hf, hx, kb, eb, tf, w1, n1, n2, hev, len0, z0, z2, z5, z6, z8, z29, z32, z33, z45, z47, z48, z49, z50, z58, z59, z60, z61, z62, z66, z67, z68, z70, z72, z74, z76, z83, z84, z85, z86, z95, z96, z99, z101, z102, z104, z123, z124, z125, z146, z147, z162, z181, z309, z310, z311, z313, z314, z316, z317, z320, z321, z324, z326, z328, z329, z336, z340, z355, z367, z368, z370, z383, z384, z387, z388, z389, z390, z399, z404, z411, z412, z413, z414, z415, z417, z418, z419, z420, z421, z428, z430, z437, z458, z459, z460])
    | some q =>
      obtain ⟨j, y, s⟩ := q
      obtain ⟨d, e, rfl, hst, hk, rfl, rfl⟩ := findS_some _ _ _ _ _ _ hfd
      rw [hfd] at tf
      have hmem : Port.name x ∈ st.map (·.1) := by
        rw [← hk]; exact List.mem_map.2 ⟨e, List.mem_of_getElem? hst, rfl⟩
      have e1 : (encS tx st).set (0 + d) (tx (Port.name x), iT (IntKind.i64.wrap (e.2.1 + 1)), e.2.2) = encS tx (st.set d (Port.name x, IntKind.i64.wrap (e.2.1 + 1), e.2.2)) := by simp [encS, List.map_set]
      have hm : (st.set d (Port.name x, IntKind.i64.wrap (e.2.1 + 1), e.2.2)).map (·.1) = st.map (·.1) := by
        apply List.ext_getElem?
        intro q
        simp only [List.getElem?_map, List.getElem?_set]
        split
        · rename_i hq; subst hq
          split
          · simp [hst, hk]
          · rename_i hlt'; exact absurd (List.getElem?_eq_some_iff.1 hst).1 hlt'
        · rfl
      obtain ⟨st', ck', hc, hev⟩ := ih (i + 1) (st.set d (Port.name x, IntKind.i64.wrap (e.2.1 + 1), e.2.2)) ck hd' (by omega) (r + 1)
      refine ⟨st', ck', ?_, ?_⟩
      · rw [hc, hm, List.map_cons]; simp only [cnt]; rw [if_pos hmem]
      · rw [← e1] at hev
        clear ih e1 hm
        generalize encS tx st = es at *
        generalize 0 + d = dd at *
        (rw [ev_round]; sym => simp [u201_0, m201_0.eq_1, h1, h2, h3, hget, hf, hx, kb, eb, tf, n1, n2, hev, len0, z0, z2, z5, z6, z8, z29, z32, z33, z45, z47, z48, z49, z50, z58, z59, z60, z61, z62, z66, z67, z68, z70, z72, z74, z76, z83, z84, z85, z86, z95, z96, z99, z101, z102, z104, z123, z124, z125, z146, z147, z162, z181, z309, z310, z311, z313, z314, z316, z317, z320, z321, z324, z326, z328, z329, z336, z340, z355, z367, z368, z370, z383, z384, z387, z388, z389, z390, z399, z404, z411, z412, z413, z414, z415, z417, z418, z419, z420, z421, z428, z430, z437, z458, z459, z460])
theorem un_P (nm : AE.Name) (g : Nat) (tg : AE.Tag) (l : List Port) (hl : l.length ≤ 1000000000000)
    (hf : ∀ nm xs h L, eCall C (evW C tab) nm g xs h L = freeK nm h L (evW C tab g nm xs [])) (hg : ∀ x ∈ l, ∀ nm, evW C tab g nm [(Port.t x)] [] = some (tx (Port.name x), [])) :
    evW C tab 201 nm [.sl (l.map Port.t) tg, .fn (.func g) [] []] [[]] = some (bT (nodupB (l.map Port.name)), [[]]) := by
  obtain ⟨st', ck', hc, hev⟩ := un_loop_P (nm ++ [3]) (nm ++ [1, 0]) (by simp [nm_pre1, List.isPrefixOf]) g tg l hl hf hg [[]] l 0 [] 0 rfl (by omega) 0
  have e0 : encS tx [] = [] := rfl
  have hlen : (encS tx st').length = cnt [] (l.map Port.name) := by simpa [encS] using hc
  have hd : decide (((cnt [] (l.map Port.name) : Nat) : Int) = ((l.length : Nat) : Int)) = nodupB (l.map Port.name) := by
    simp only [nodupB, List.length_map]; rw [Bool.eq_iff_iff]; simp only [decide_eq_true_eq]; omega
  rw [e0] at hev
  simp only [cast0] at hev
  clear hg hc
  generalize encS tx st' = es at *
  (rw [fn201]; sym => simp [b201.eq_1, hev, hlen, hd, z0, z8, z21, z41, z47, z48, z58, z59, z60, z62, z65, z66, z67, z68, z70, z77, z78, z85, z86, z87, z89, z90, z92, z94, z99, z110, z135, z136, z137, z138, z140, z141, z142, z143, z144, z289, z296, z308, z309, z310, z313, z314, z319, z320, z321, z327, z328, z329, z337, z339, z360, z369, z370, z383, z384, z387, z388, z399, z403, z404, z405, z412, z413, z437, z440, z459])

/-! Q -/
def Inv (st : Seen (Int × Int)) (ck : Nat) : Prop := ck = st.length ∧ ∀ (d : Nat) e, st[d]? = some e → e.2.2 = d
theorem fidx_none (st : Seen (Int × Int)) (ck : Nat) (h : ∀ (d : Nat) e, st[d]? = some e → e.2.2 = d) : ∀ (z : Nat), st.length ≤ z → (encS pairT st).findIdx? (fun e => decide ((e.2.2 : Int) = (z : Int))) = none := by
  intro z hz
  rw [List.findIdx?_eq_none_iff]
  intro e he
  obtain ⟨e', he', rfl⟩ := List.mem_map.1 he
  obtain ⟨d, hd⟩ := List.mem_iff_getElem?.1 he'
  have := h d e' hd
  have hlt := (List.getElem?_eq_some_iff.1 hd).1
  simp; omega
theorem fidx_new {st : Seen (Int × Int)} {ck : Nat} (h : Inv st ck) (k : T) (y : T) : (encS pairT st ++ [(k, y, ck)]).findIdx? (fun e => decide ((e.2.2 : Int) = (ck : Int))) = some ck := by
  rw [List.findIdx?_append, fidx_none st ck h.2 ck (by rw [h.1]; exact Nat.le_refl _)]
  simp [List.findIdx?_cons, encS, h.1]
theorem fidx_set {st : Seen (Int × Int)} {ck d : Nat} (h : Inv st ck) (hd : d < st.length) (k y : T) : ((encS pairT st).set d (k, y, d)).findIdx? (fun e => decide ((e.2.2 : Int) = (d : Int))) = some d := by
  have hl : d < ((encS pairT st).set d (k, y, d)).length := by simpa [encS] using hd
  rw [List.findIdx?_eq_some_iff_getElem]
  refine ⟨hl, by simp, fun j hj => ?_⟩
  have hj' : j < st.length := by omega
  have e := h.2 j st[j] (List.getElem?_eq_getElem hj')
  simp only [encS, List.getElem_set, List.getElem_map]
  rw [if_neg (by omega)]
  simp [e]; omega
theorem un_loop_Q (p n : AE.Name) (hn : p.isPrefixOf n = false) (g : Nat) (tg : AE.Tag) (l : List Port) (hl : l.length ≤ 1000000000000)
    (hf : ∀ nm xs h L, eCall C (evW C tab) nm g xs h L = freeK nm h L (evW C tab g nm xs [])) (hg : ∀ x ∈ l, ∀ nm, evW C tab g nm [(Port.t x)] [] = some (.agg [iT x.proto, iT x.port], [])) (hh : Heap) :
    ∀ (rest : List Port) (i : Nat) (st : Seen (Int × Int)) (ck : Nat), Inv st ck → l.drop i = rest → i ≤ l.length → ∀ r, ∃ st' ck', st'.length = cnt (st.map (·.1)) (rest.map Port.pp) ∧
      evI C tab p [0, 1, 5, 9, 10, 11] [0, 5] l212_0 r ⟨[(0, .sl (l.map Port.t) tg), (1, .fn (.func g) [] []), (5, .map n), (9, .sl (l.map Port.t) tg), (10, iT (l.length : Int)), (11, iT (i : Int))], [(n, .map (encS pairT st) ck)] :: hh, [], 0⟩
        = some (.exit 0, ⟨[(0, .sl (l.map Port.t) tg), (5, .map n)], [(n, .map (encS pairT st') ck')] :: hh, [], 0⟩) := by
  have n1 := npre_ne hn
  have n2 := npre_ne' hn
  have n3 := fun s => npre_sub hn s
  intro rest
  induction rest with
  | nil =>
    intro i st ck hinv hd hi r
    have hi' : i = l.length := by have := congrArg List.length hd; simp at this; omega
    have h1 : decide ((i : Int) < (l.length : Int)) = false := by simp; omega
    refine ⟨st, ck, by simp [cnt], ?_⟩
    clear hg
    (rw [ev_round]; sym => simp [u212_0, m212_0.eq_1, h1, z0, z2, z5, z6, z8, z29, z32, z34, z35, z38, z45, z47, z48, z49, z50, z58, z59, z60, z61, z62, z66, z67, z68, z70, z72, z74, z76, z83, z84, z85, z86, z95, z96, z99, z101, z102, z104, z114, z115, z116, z117, z118, z119, z122, z123, z124, z126, z127, z133, z146, z147, z162, z181, z183, z184, z185, z186, z187, z189, z190, z191, z192, z193, z199, z309, z310, z311, z313, z314, z316, z317, z320, z321, z324, z326, z328, z329, z336, z340, z355, z357, z358, z359, z362, z363, z367, z368, z370, z383, z384, z387, z388, z389, z390, z393, z395, z396, z399, z403, z404, z410, z411, z412, z413, z414, z415, z417, z418, z419, z420, z421, z422, z423, z427, z428, z430, z437, z441, z442, z445, z458, z459, z460])
  | cons x rest ih =>
    intro i st ck hinv hd hi r
    obtain ⟨hget, hlt, hd'⟩ := drop_cons hd
    have h1 : decide ((i : Int) < (l.length : Int)) = true := by simp; omega
    have h2 : IntKind.i64.wrap ((i : Int) + 1) = ((i + 1 : Nat) : Int) := by rw [wrap_i64 (by omega) (by omega)]; omega
    have h3 : decide (0 ≤ (i : Int) ∧ (i : Int) < (l.length : Int)) = true := by simp; omega
    have hx := hg x (List.mem_of_getElem? hget)
    have kb : keyB true [.int, .int] (.agg [iT x.proto, iT x.port]) = true := rfl
    have eb := esB_S pairT true [.int, .int] keyB_pair st
    have tf := tfind_S pairT [.int, .int] eq_pair (Port.pp x) st 0
    clear hg
    cases hfd : findS (Port.pp x) st 0 with
    | none =>
      have hnm := findS_none _ _ _ hfd
      rw [hfd] at tf
      have w1 : IntKind.i64.wrap 1 = 1 := by decide
      have hinv2 : Inv (st ++ [(Port.pp x, 1, ck)]) (ck + 1) := by
        refine ⟨by simp [hinv.1], fun d e he => ?_⟩
        by_cases hd : d < st.length
        · rw [List.getElem?_append_left hd] at he; exact hinv.2 d e he
        · rw [List.getElem?_append_right (by omega)] at he
          have : d - st.length = 0 := by
            rcases Nat.eq_zero_or_pos (d - st.length) with h | h
            · exact h
            · rw [List.getElem?_eq_none (by simp; omega)] at he; cases he
          rw [this] at he
          cases he
          have := hinv.1
          simp only; omega
      have e1 : encS pairT st ++ [(.agg [iT x.proto, iT x.port], iT 1, ck)] = encS pairT (st ++ [(Port.pp x, 1, ck)]) := by simp [encS]
      have f1 := fidx_new hinv (.agg [iT x.proto, iT x.port]) (iT 0)
      have hlen : (encS pairT st).length = ck := by simp [encS, hinv.1]
      have f2 : (encS pairT st ++ [(T.agg [iT x.proto, iT x.port], iT 0, ck)])[ck]? = some (.agg [iT x.proto, iT x.port], iT 0, ck) := by
        rw [List.getElem?_append_right (by omega)]; simp [hlen]
      have f3 : (encS pairT st ++ [(T.agg [iT x.proto, iT x.port], iT 0, ck)]).set ck (.agg [iT x.proto, iT x.port], iT 1, ck) = encS pairT st ++ [(.agg [iT x.proto, iT x.port], iT 1, ck)] := by
        rw [List.set_append_right _ _ (by omega)]; simp [hlen]
      obtain ⟨st', ck', hc, hev⟩ := ih (i + 1) (st ++ [(Port.pp x, 1, ck)]) (ck + 1) hinv2 hd' (by omega) (r + 1)
      refine ⟨st', ck', ?_, ?_⟩
      · rw [hc]; simp only [List.map_append, List.map_cons, List.map_nil, cnt]; rw [if_neg hnm]
      · rw [← e1] at hev
        dsimp only [Port.pp, pairT] at tf hev
        clear ih e1 hinv hinv2 hlen hnm hfd hc
        generalize encS (fun a : Int × Int => T.agg [iT a.1, iT a.2]) st = es at *
        (rw [ev_round]; sym => simp [u212_0, m212_0.eq_1, h1, h2, h3, hget, hf, hx, kb, eb, tf, w1, f1, f2, f3, n1, n2, n3, hev, z0, z2, z5, z6, z8, z29, z32, z34, z35, z38, z45, z47, z48, z49, z50, z58, z59, z60, z61, z62, z66, z67, z68, z70, z72, z74, z76, z83, z84, z85, z86, z95, z96, z99, z101, z102, z104, z114, z115, z116, z117, z118, z119, z122, z123, z124, z126, z127, z133, z146, z147, z162, z181, z183, z184, z185, z186, z187, z189, z190, z191, z192, z193, z199, z309, z310, z311, z313, z314, z316, z317, z320, z321, z324, z326, z328, z329, z336, z340, z355, z357, z358, z359, z362, z363, z367, z368, z370, z383, z384, z387, z388, z389, z390, z393, z395, z396, z399, z403, z404, z410, z411, z412, z413, z414, z415, z417, z418, z419, z420, z421, z422, z423, z427, z428, z430, z437, z441, z442, z445, z458, z459, z460])
    | some q =>
      obtain ⟨j, y, s⟩ := q
      obtain ⟨d, e, rfl, hst, hk, rfl, rfl⟩ := findS_some _ _ _ _ _ _ hfd
      rw [hfd] at tf
      have hs : e.2.2 = d := hinv.2 d e hst
      have hdl : d < st.length := (List.getElem?_eq_some_iff.1 hst).1
      rw [hs, Nat.zero_add] at tf
      have hmem : Port.pp x ∈ st.map (·.1) := by
        rw [← hk]; exact List.mem_map.2 ⟨e, List.mem_of_getElem? hst, rfl⟩
      have e1 : (encS pairT st).set d (.agg [iT x.proto, iT x.port], iT (IntKind.i64.wrap (e.2.1 + 1)), d) = encS pairT (st.set d (Port.pp x, IntKind.i64.wrap (e.2.1 + 1), d)) := by simp [encS, List.map_set]
      have hm : (st.set d (Port.pp x, IntKind.i64.wrap (e.2.1 + 1), d)).map (·.1) = st.map (·.1) := by
        apply List.ext_getElem?
        intro q
        simp only [List.getElem?_map, List.getElem?_set]
        split
        · rename_i hq; subst hq
          rw [hst]; simp [hk]
        · rfl
      have hinv2 : Inv (st.set d (Port.pp x, IntKind.i64.wrap (e.2.1 + 1), d)) ck := by
        refine ⟨by simp [hinv.1], fun d' e' he => ?_⟩
        rw [List.getElem?_set] at he
        split at he
        · rename_i hq
          subst hq
          cases he; rfl
        · exact hinv.2 d' e' he
      have f1 := fidx_set hinv hdl (.agg [iT x.proto, iT x.port]) (iT e.2.1)
      have f2 : ((encS pairT st).set d (T.agg [iT x.proto, iT x.port], iT e.2.1, d))[d]? = some (.agg [iT x.proto, iT x.port], iT e.2.1, d) := by
        rw [List.getElem?_set]; simp [encS, hdl]
      have f3 : ((encS pairT st).set d (T.agg [iT x.proto, iT x.port], iT e.2.1, d)).set d (.agg [iT x.proto, iT x.port], iT (IntKind.i64.wrap (e.2.1 + 1)), d) = (encS pairT st).set d (.agg [iT x.proto, iT x.port], iT (IntKind.i64.wrap (e.2.1 + 1)), d) := by
        rw [List.set_set]
      obtain ⟨st', ck', hc, hev⟩ := ih (i + 1) _ ck hinv2 hd' (by omega) (r + 1)
      refine ⟨st', ck', ?_, ?_⟩
      · rw [hc, hm, List.map_cons]; simp only [cnt]; rw [if_pos hmem]
      · rw [← e1] at hev
        dsimp only [Port.pp, pairT] at tf hev
        clear ih e1 hinv hinv2 hm hmem hfd hc hst hs hdl hk
        generalize encS (fun a : Int × Int => T.agg [iT a.1, iT a.2]) st = es at *
        generalize e.2.1 = cc at *
        (rw [ev_round]; sym => simp [u212_0, m212_0.eq_1, h1, h2, h3, hget, hf, hx, kb, eb, tf, f1, f2, f3, n1, n2, n3, hev, z0, z2, z5, z6, z8, z29, z32, z34, z35, z38, z45, z47, z48, z49, z50, z58, z59, z60, z61, z62, z66, z67, z68, z70, z72, z74, z76, z83, z84, z85, z86, z95, z96, z99, z101, z102, z104, z114, z115, z116, z117, z118, z119, z122, z123, z124, z126, z127, z133, z146, z147, z162, z181, z183, z184, z185, z186, z187, z189, z190, z191, z192, z193, z199, z309, z310, z311, z313, z314, z316, z317, z320, z321, z324, z326, z328, z329, z336, z340, z355, z357, z358, z359, z362, z363, z367, z368, z370, z383, z384, z387, z388, z389, z390, z393, z395, z396, z399, z403, z404, z410, z411, z412, z413, z414, z415, z417, z418, z419, z420, z421, z422, z423, z427, z428, z430, z437, z441, z442, z445, z458, z459, z460])
theorem un_Q (nm : AE.Name) (g : Nat) (tg : AE.Tag) (l : List Port) (hl : l.length ≤ 1000000000000)
    (hf : ∀ nm xs h L, eCall C (evW C tab) nm g xs h L = freeK nm h L (evW C tab g nm xs [])) (hg : ∀ x ∈ l, ∀ nm, evW C tab g nm [(Port.t x)] [] = some (.agg [iT x.proto, iT x.port], [])) :
    evW C tab 212 nm [.sl (l.map Port.t) tg, .fn (.func g) [] []] [[]] = some (bT (nodupB (l.map Port.pp)), [[]]) := by
  obtain ⟨st', ck', hc, hev⟩ := un_loop_Q (nm ++ [3]) (nm ++ [1, 0]) (by simp [nm_pre1, List.isPrefixOf]) g tg l hl hf hg [[]] l 0 [] 0 ⟨rfl, by simp⟩ rfl (by omega) 0
  have e0 : encS pairT [] = [] := rfl
  have hlen : (encS pairT st').length = cnt [] (l.map Port.pp) := by simpa [encS] using hc
  have hd : decide (((cnt [] (l.map Port.pp) : Nat) : Int) = ((l.length : Nat) : Int)) = nodupB (l.map Port.pp) := by
    simp only [nodupB, List.length_map]; rw [Bool.eq_iff_iff]; simp only [decide_eq_true_eq]; omega
  rw [e0] at hev
  simp only [cast0] at hev
  clear hg hc
  generalize encS pairT st' = es at *
  (rw [fn212]; sym => simp [b212.eq_1, hev, hlen, hd, z0, z8, z21, z41, z47, z48, z58, z59, z60, z62, z65, z66, z67, z68, z70, z77, z78, z85, z86, z87, z89, z90, z92, z94, z99, z110, z135, z136, z137, z138, z140, z141, z142, z143, z144, z289, z296, z308, z309, z310, z313, z314, z319, z320, z321, z327, z328, z329, z337, z339, z360, z369, z370, z383, z384, z387, z388, z399, z403, z404, z405, z412, z413, z437, z440, z459])
end Go.AE.W
