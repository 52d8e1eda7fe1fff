import Derived.Test.YtohbipkmfhmibaaGreatDoorKeepsRows1
import Derived.Test.YtohbipkmfhmibaaGreatDoorAE35
/-! K1: texts and labels. -/
set_option linter.unusedVariables false
set_option linter.unusedSimpArgs false
set_option maxHeartbeats 1000000
set_option maxRecDepth 100000
namespace Go.AE.W
open Go.RowKit Go.LB
/-- A text. -/
abbrev tx (l : List UInt8) : T := .v (.string ⟨⟨l⟩⟩)
/-- A set of bytes, as cells. -/
def setT (f : UInt8 → Bool) : List T := (List.range 256).map fun i => .v (.bool (f (UInt8.ofNat i)))
theorem setT_len (f : UInt8 → Bool) : (setT f).length = 256 := by simp [setT]
theorem setT_get (f : UInt8 → Bool) (c : UInt8) : (setT f)[c.toNat]? = some (.v (.bool (f c))) := by
  have := c.toNat_lt
  rw [setT, List.getElem?_map, List.getElem?_range (by omega)]
  simp
theorem setT_zero : z256_0 = setT fun _ => false := by
  simp only [z256_0, setT]
  rw [List.map_const']
  simp
theorem setT_put (f : UInt8 → Bool) (c : UInt8) : (setT f).set c.toNat (.v (.bool true)) = setT fun x => x == c || f x := by
  apply List.ext_getElem?
  intro i
  rw [List.getElem?_set]
  simp only [setT, List.getElem?_map, List.length_map, List.length_range]
  have hc := c.toNat_lt
  by_cases hi : i < 256
  · rw [List.getElem?_range hi]
    split
    · rename_i e
      subst e
      simp [hc]
    · rename_i e
      simp only [Option.map_some, Option.some.injEq, T.v.injEq, Value.bool.injEq]
      have : (UInt8.ofNat i == c) = false := by
        rw [beq_eq_false_iff_ne]
        intro h
        apply e
        have := congrArg UInt8.toNat h
        simp [UInt8.toNat_ofNat] at this
        omega
      rw [this, Bool.false_or]
  · have : (List.range 256)[i]? = none := by simp; omega
    rw [this]
    split
    · omega
    · rfl
theorem setT_ptr (f : UInt8 → Bool) : (setT f).flatMap ptr1 = [] := by simp [setT, List.flatMap_map, ptr1, ptr0]
theorem setT_ptrR (f : UInt8 → Bool) : (setT f).flatMap ptrR0 = [] := by simp [setT, List.flatMap_map, ptrR0]
theorem setT_seal (f : UInt8 → Bool) (L : List AE.Name) (top : List (AE.Name × Blk)) : (setT f).map (sealC L top) = setT f := by simp [setT, sealC, seal1, strip1]
theorem contains_c (nm n : Name) (f : UInt8 → Bool) (c : UInt8) : evW C tab 248 nm [.ptr n 0, .v (.int .u8 (c.toNat : Int))] [[(n, .box (setT f))]] = some (.v (.bool (f c)), [[(n, .box (setT f))]]) := by
  (rw [fn248]; sym => simp [b248.eq_1, setT_get, z0, z5, z7, z28, z47, z48, z58, z59, z60, z62, z65, z66, z67, z68, z75, z77, z78, z87, z89, z90, z92, z94, z95, z97, z103, z135, z136, z137, z138, z140, z141, z142, z143, z144, z278, z289, z296, z309, z310, z314, z320, z321, z328, z329, z337, z339, z355, z360, z369, z370, z383, z384, z387, z388, z403, z404, z412, z413, z456, z458, z462, z463])
def trimR (f : UInt8 → Bool) (l : List UInt8) : List UInt8 := (l.reverse.dropWhile f).reverse
theorem trimR_snoc (f : UInt8 → Bool) (l : List UInt8) (c : UInt8) : trimR f (l ++ [c]) = if f c then trimR f l else l ++ [c] := by
  simp only [trimR, List.reverse_append, List.reverse_cons, List.reverse_nil, List.nil_append, List.singleton_append, List.dropWhile_cons]
  split <;> simp_all
theorem trimR_loop (p n : Name) (f : UInt8 → Bool) : ∀ (m : Nat) (l : List UInt8), l.length = m → m ≤ 1000000000000 → ∀ r, evI C tab p [0, 1] [0] l224_0 r ⟨[(0, tx l), (1, .ptr n 0)], [[], [(n, .box (setT f))]], [], 0⟩ = some (.exit 0, ⟨[(0, tx (trimR f l))], [[], [(n, .box (setT f))]], [], 0⟩) := by
  intro m
  induction m with
  | zero =>
    intro l hl _ r
    obtain rfl := List.eq_nil_of_length_eq_zero hl
    have e : trimR f [] = [] := rfl
    (rw [ev_round]; sym => simp [u224_0, m224_0.eq_1, call248, e, z0, z8, z14, z23, z31, z41, z44, z47, z48, z49, z50, z51, z52, z58, z59, z60, z62, z65, z66, z67, z68, z72, z74, z85, z86, z99, z100, z106, z109, z110, z146, z147, z152, z154, z155, z156, z157, z173, z175, z281, z293, z294, z295, z297, z298, z300, z301, z302, z303, z304, z306, z307, z309, z310, z311, z313, z314, z316, z317, z319, z320, z321, z324, z326, z328, z329, z336, z341, z342, z343, z355, z356, z358, z367, z368, z370, z383, z384, z387, z388, z389, z390, z399, z402, z403, z404, z406, z407, z408, z409, z410, z412, z413, z414, z415, z417, z422, z423, z431, z437, z441, z442, z446, z447, z448, z449, z450, z452, z458, z461])
  | succ m ih =>
    intro l hl hm r
    obtain ⟨l', c, rfl⟩ : ∃ l' c, l = l' ++ [c] := ⟨l.dropLast, l.getLast (by intro h; simp [h] at hl), (List.dropLast_concat_getLast _).symm⟩
    have hl' : l'.length = m := by simpa using hl
    have ih' := ih l' hl' (by omega)
    have e := trimR_snoc f l' c
    have hget : (l' ++ [c])[m]? = some c := by rw [← hl']; simp
    have hext : (l' ++ [c]).take m = l' := by simp [← hl']
    generalize l' ++ [c] = l at *
    have h1 : decide (0 < (l.length : Int)) = true := by simp; omega
    have h2 : IntKind.i64.wrap ((l.length : Int) - 1) = (m : Int) := by rw [wrap_i64 (by omega) (by omega)]; omega
    have h3 : decide (0 ≤ (m : Int) ∧ (m : Int) < (l.length : Int)) = true := by simp; omega
    have h4 : decide (0 ≤ (m : Int) ∧ (m : Int) ≤ (l.length : Int)) = true := by simp; omega
    rw [e]
    cases hc : f c
    · (rw [ev_round]; sym => simp [u224_0, m224_0.eq_1, call248, h1, h2, h3, h4, hget, hext, contains_c, setT_ptr, hc, z0, z8, z14, z23, z31, z41, z44, z47, z48, z49, z50, z51, z52, z58, z59, z60, z62, z65, z66, z67, z68, z72, z74, z85, z86, z99, z100, z106, z109, z110, z146, z147, z152, z154, z155, z156, z157, z173, z175, z281, z293, z294, z295, z297, z298, z300, z301, z302, z303, z304, z306, z307, z309, z310, z311, z313, z314, z316, z317, z319, z320, z321, z324, z326, z328, z329, z336, z341, z342, z343, z355, z356, z358, z367, z368, z370, z383, z384, z387, z388, z389, z390, z399, z402, z403, z404, z406, z407, z408, z409, z410, z412, z413, z414, z415, z417, z422, z423, z431, z437, z441, z442, z446, z447, z448, z449, z450, z452, z458, z461])
    · (rw [ev_round]; sym => simp [u224_0, m224_0.eq_1, call248, h1, h2, h3, h4, hget, hext, contains_c, setT_ptr, hc, ih', z0, z8, z14, z23, z31, z41, z44, z47, z48, z49, z50, z51, z52, z58, z59, z60, z62, z65, z66, z67, z68, z72, z74, z85, z86, z99, z100, z106, z109, z110, z146, z147, z152, z154, z155, z156, z157, z173, z175, z281, z293, z294, z295, z297, z298, z300, z301, z302, z303, z304, z306, z307, z309, z310, z311, z313, z314, z316, z317, z319, z320, z321, z324, z326, z328, z329, z336, z341, z342, z343, z355, z356, z358, z367, z368, z370, z383, z384, z387, z388, z389, z390, z399, z402, z403, z404, z406, z407, z408, z409, z410, z412, z413, z414, z415, z417, z422, z423, z431, z437, z441, z442, z446, z447, z448, z449, z450, z452, z458, z461])
theorem trimRight_c (nm n : Name) (f : UInt8 → Bool) (l : List UInt8) (hl : l.length ≤ 1000000000000) : evW C tab 224 nm [tx l, .ptr n 0] [[(n, .box (setT f))]] = some (tx (trimR f l), [[(n, .box (setT f))]]) := by
  have h := fun p r => trimR_loop p n f l.length l rfl hl r
  (rw [fn224]; sym => simp [b224.eq_1, call248, h, z0, z47, z48, z58, z59, z60, z62, z77, z78, z85, z86, z87, z89, z90, z92, z94, z135, z136, z137, z138, z140, z141, z142, z143, z144, z289, z296, z308, z309, z310, z313, z314, z319, z320, z321, z327, z328, z329, z337, z339, z360, z369, z370, z383, z384, z403, z404, z412, z413])
theorem trimL_loop (p n : Name) (f : UInt8 → Bool) : ∀ (l : List UInt8), l.length ≤ 1000000000000 → ∀ r, evI C tab p [0, 1] [0] l223_0 r ⟨[(0, tx l), (1, .ptr n 0)], [[], [(n, .box (setT f))]], [], 0⟩ = some (.exit 0, ⟨[(0, tx (l.dropWhile f))], [[], [(n, .box (setT f))]], [], 0⟩) := by
  intro l
  induction l with
  | nil =>
    intro _ r
    have e : ([] : List UInt8).dropWhile f = [] := rfl
    (rw [ev_round]; sym => simp [u223_0, m223_0.eq_1, call248, e, z0, z8, z14, z23, z31, z41, z44, z47, z48, z49, z50, z51, z52, z58, z59, z60, z62, z65, z66, z67, z68, z72, z74, z85, z86, z99, z100, z106, z109, z110, z146, z147, z152, z154, z155, z156, z157, z173, z175, z280, z293, z294, z295, z297, z298, z300, z301, z302, z303, z304, z306, z307, z309, z310, z311, z313, z314, z316, z317, z319, z320, z321, z324, z326, z328, z329, z336, z341, z342, z343, z355, z356, z358, z367, z368, z370, z383, z384, z387, z388, z389, z390, z395, z399, z402, z403, z404, z406, z407, z408, z409, z410, z411, z412, z413, z414, z415, z416, z417, z422, z423, z428, z431, z437, z441, z442, z446, z448, z449, z450, z452, z461])
  | cons c l ih =>
    intro hm r
    have ih' := ih (by simp at hm; omega)
    have h1 : decide (0 < ((l.length + 1 : Nat) : Int)) = true := by simp; try omega
    have h4 : decide ((1 : Int) ≤ ((l.length + 1 : Nat) : Int)) = true := by simp; omega
    have h5 : (l.drop 0).take (l.length + 1 - 1) = l := by simp
    have t0 : (0 : Int).toNat = 0 := rfl
    have t1 : (1 : Int).toNat = 1 := rfl
    have hext : (l.drop 0).take (l.length + 1 - 1) = l := by simp
    have h6 : l.take (l.length + 1 - 1) = l := by simp
    cases hc : f c
    · have e : (c :: l).dropWhile f = c :: l := by simp [hc]
      rw [e]
      (rw [ev_round]; sym => simp [u223_0, m223_0.eq_1, call248, h1, h4, h5, h6, t0, t1, hext, contains_c, setT_ptr, hc, z0, z8, z14, z23, z31, z41, z44, z47, z48, z49, z50, z51, z52, z58, z59, z60, z62, z65, z66, z67, z68, z72, z74, z85, z86, z99, z100, z106, z109, z110, z146, z147, z152, z154, z155, z156, z157, z173, z175, z280, z293, z294, z295, z297, z298, z300, z301, z302, z303, z304, z306, z307, z309, z310, z311, z313, z314, z316, z317, z319, z320, z321, z324, z326, z328, z329, z336, z341, z342, z343, z355, z356, z358, z367, z368, z370, z383, z384, z387, z388, z389, z390, z395, z399, z402, z403, z404, z406, z407, z408, z409, z410, z411, z412, z413, z414, z415, z416, z417, z422, z423, z428, z431, z437, z441, z442, z446, z448, z449, z450, z452, z461])
    · have e : (c :: l).dropWhile f = l.dropWhile f := by simp [hc]
      rw [e]
      (rw [ev_round]; sym => simp [u223_0, m223_0.eq_1, call248, h1, h4, h5, h6, t0, t1, hext, contains_c, setT_ptr, hc, ih', z0, z8, z14, z23, z31, z41, z44, z47, z48, z49, z50, z51, z52, z58, z59, z60, z62, z65, z66, z67, z68, z72, z74, z85, z86, z99, z100, z106, z109, z110, z146, z147, z152, z154, z155, z156, z157, z173, z175, z280, z293, z294, z295, z297, z298, z300, z301, z302, z303, z304, z306, z307, z309, z310, z311, z313, z314, z316, z317, z319, z320, z321, z324, z326, z328, z329, z336, z341, z342, z343, z355, z356, z358, z367, z368, z370, z383, z384, z387, z388, z389, z390, z395, z399, z402, z403, z404, z406, z407, z408, z409, z410, z411, z412, z413, z414, z415, z416, z417, z422, z423, z428, z431, z437, z441, z442, z446, z448, z449, z450, z452, z461])
theorem trimLeft_c (nm n : Name) (f : UInt8 → Bool) (l : List UInt8) (hl : l.length ≤ 1000000000000) : evW C tab 223 nm [tx l, .ptr n 0] [[(n, .box (setT f))]] = some (tx (l.dropWhile f), [[(n, .box (setT f))]]) := by
  have h := fun p r => trimL_loop p n f l hl r
  (rw [fn223]; sym => simp [b223.eq_1, call248, h, z0, z47, z48, z58, z59, z60, z62, z77, z78, z85, z86, z87, z89, z90, z92, z94, z135, z136, z137, z138, z140, z141, z142, z143, z144, z289, z296, z308, z309, z310, z313, z314, z319, z320, z321, z327, z328, z329, z337, z339, z360, z369, z370, z383, z384, z403, z404, z412, z413])
/-- More bytes of a set. -/
def addS : List UInt8 → (UInt8 → Bool) → UInt8 → Bool
  | [], f => f
  | c :: l, f => addS l fun x => x == c || f x
theorem addS_iff : ∀ (l : List UInt8) (f : UInt8 → Bool) (x : UInt8), addS l f x = (l.contains x || f x)
  | [], f, x => by simp [addS]
  | c :: l, f, x => by
    rw [addS, addS_iff l, List.contains_cons]
    cases x == c <;> cases l.contains x <;> rfl
theorem mkset_loop (p b : Name) : ∀ (rest : List UInt8) (l : List UInt8) (i : Nat) (f : UInt8 → Bool), l.drop i = rest → i ≤ l.length → l.length ≤ 1000 → (∀ c ∈ l, c.toNat < 128) → ∀ r, evI C tab p [0, 2, 4] [2, 3] l222_0 r ⟨[(0, tx l), (2, .ptr b 0), (4, .v (.int .i64 (i : Int)))], [[(b, .box (setT f))]], [], 0⟩ = some (.exit 0, ⟨[(2, .ptr b 0)], [[(b, .box (setT (addS rest f)))]], [], 0⟩) := by
  intro rest
  induction rest with
  | nil =>
    intro l i f hd hi hl hc r
    have hi' : i = l.length := by have := congrArg List.length hd; simp at this; omega
    have h1 : decide ((i : Int) < (l.length : Int)) = false := by simp; omega
    have e : addS [] f = f := rfl
    (rw [ev_round]; sym => simp [u222_0, m222_0.eq_1, e, h1, z0, z6, z8, z28, z31, z41, z47, z48, z57, z58, z59, z60, z61, z62, z65, z66, z67, z68, z72, z74, z83, z84, z85, z86, z96, z97, z99, z101, z102, z103, z106, z110, z278, z309, z310, z311, z313, z314, z316, z317, z320, z321, z324, z326, z328, z329, z336, z355, z367, z368, z370, z383, z384, z387, z388, z389, z390, z399, z410, z411, z412, z413, z430, z437, z448, z449, z450, z456, z458, z462, z463])
  | cons c rest ih =>
    intro l i f hd hi hl hc r
    have hi' : i < l.length := by have := congrArg List.length hd; simp at this; omega
    have hget : l[i]? = some c := by have := congrArg (fun x => x[0]?) hd; simpa using this
    have hcm : c.toNat < 128 := hc c (List.mem_of_getElem? hget)
    have ih' := ih l (i + 1) (fun x => x == c || f x) (by rw [← List.drop_drop, hd]; rfl) (by omega) hl hc
    have h1 : decide ((i : Int) < (l.length : Int)) = true := by simp; omega
    have h2 : IntKind.i64.wrap ((i : Int) + 1) = ((i + 1 : Nat) : Int) := by rw [wrap_i64 (by omega) (by omega)]; omega
    have h3 : decide (0 ≤ (i : Int) ∧ (i : Int) < (l.length : Int)) = true := by simp; omega
    have h4 : decide (128 ≤ (c.toNat : Int)) = false := by simp; omega
    have h5 : (c.toNat + 1 ≤ 256) = True := by simp; omega
    have e : addS (c :: rest) f = addS rest (fun x => x == c || f x) := rfl
    rw [e]
    (rw [ev_round]; sym => simp [u222_0, m222_0.eq_1, h1, h2, h3, h4, h5, hget, setT_put, setT_len, ih', z0, z6, z8, z28, z31, z41, z47, z48, z57, z58, z59, z60, z61, z62, z65, z66, z67, z68, z72, z74, z83, z84, z85, z86, z96, z97, z99, z101, z102, z103, z106, z110, z278, z309, z310, z311, z313, z314, z316, z317, z320, z321, z324, z326, z328, z329, z336, z355, z367, z368, z370, z383, z384, z387, z388, z389, z390, z399, z410, z411, z412, z413, z430, z437, z448, z449, z450, z456, z458, z462, z463])
theorem setT_all (f : UInt8 → Bool) : (setT f).length = 256 := setT_len f
theorem putAt_set (f g : UInt8 → Bool) : putAt (setT f) 0 (setT g) = setT g := putAt_full _ _ (by rw [setT_len, setT_len])
theorem tpart_set (f : UInt8 → Bool) : (setT f).take 256 = setT f := List.take_of_length_le (by rw [setT_len]; omega)
theorem mkset_c (nm : Name) (l : List UInt8) (hl : l.length ≤ 1000) (hc : ∀ c ∈ l, c.toNat < 128) : evW C tab 222 nm [tx l] [] = some (.tup [.agg (setT (addS l fun _ => false)), .v (.bool true)], []) := by
  have h := fun p b r => mkset_loop p b l l 0 (fun _ => false) rfl (by omega) hl hc r
  simp only [cast0] at h
  (rw [fn222]; sym => simp [b222.eq_1, h, setT_zero, setT_len, setT_ptr, setT_ptrR, setT_seal, putAt_set, tpart_set, z0, z2, z5, z6, z47, z48, z58, z59, z60, z61, z62, z65, z66, z68, z70, z72, z74, z76, z77, z78, z85, z86, z87, z88, z89, z90, z91, z94, z95, z96, z101, z102, z135, z136, z137, z138, z140, z141, z142, z143, z144, z289, z296, z308, z309, z310, z313, z314, z319, z320, z321, z327, z328, z329, z337, z339, z360, z369, z370, z383, z384, z387, z389, z399, z403, z404, z405, z408, z409, z412, z413, z414, z415, z417, z430, z443])
/-- A text without the bytes of a set at its ends. -/
def trim (cut l : List UInt8) : List UInt8 := (trimR (addS cut fun _ => false) l).dropWhile (addS cut fun _ => false)
theorem trim_c (nm : Name) (l cut : List UInt8) (hl : l.length ≤ 1000000000000) (h2 : 2 ≤ cut.length) (h3 : cut.length ≤ 1000) (hc : ∀ c ∈ cut, c.toNat < 128) : evW C tab 181 nm [tx l, tx cut] [] = some (tx (trim cut l), []) := by
  have e1 := fun nm => mkset_c nm cut h3 hc
  have e2 := fun nm n f => trimRight_c nm n f l hl
  have hR : ∀ f, (trimR f l).length ≤ l.length := fun f => by
    simp only [trimR, List.length_reverse]
    have := (List.dropWhile_sublist f (l := l.reverse)).length_le
    simpa using this
  have e3 := fun nm n f => trimLeft_c nm n f (trimR f l) (by have := hR f; omega)
  have c1 : (cut = []) = False := by simp; intro h; simp [h] at h2
  have c2 : ((cut.length : Int) = 1) = False := by simp; omega
  have t0 : l = [] → trim cut l = [] := fun h => by subst h; rfl
  have tt : trim cut l = (trimR (addS cut fun _ => false) l).dropWhile (addS cut fun _ => false) := rfl
  (rw [fn181]; sym => (simp [b181.eq_1, call220, call221, call222, call223, call224, call225, call226, e1, e2, e3, c1, c2, setT_zero, setT_len, setT_ptr, setT_ptrR, setT_seal, putAt_set, tpart_set, z0, z1, z2, z6, z8, z38, z41, z44, z47, z48, z49, z50, z58, z59, z60, z61, z62, z65, z66, z68, z70, z72, z74, z77, z78, z87, z89, z90, z91, z94, z96, z99, z101, z102, z110, z135, z136, z137, z138, z140, z141, z142, z143, z144, z146, z147, z152, z154, z155, z156, z157, z173, z175, z289, z293, z294, z295, z296, z297, z298, z300, z301, z302, z303, z304, z306, z307, z309, z310, z311, z314, z315, z320, z321, z328, z329, z330, z331, z332, z334, z336, z337, z339, z340, z341, z342, z343, z345, z346, z350, z354, z358, z360, z367, z369, z370, z383, z384, z387, z389, z395, z396, z399, z403, z404, z405, z406, z407, z408, z409, z412, z413, z414, z415, z422, z423, z430, z431, z437, z438, z441, z443, z446, z450, z453]; try (tactic => ((repeat' (first | (refine And.intro ?_ ?_) | (intro hq))); all_goals (first | rfl | (simp only [*, Bool.and_true, Bool.true_and, Bool.false_and, Bool.and_false, Bool.or_false, Bool.false_or, Bool.true_or, Bool.or_true, Bool.not_true, Bool.not_false]; done) | (simp_all; done) | (simp_all <;> omega) | (simp_all <;> intros <;> omega))))))
end Go.AE.W
