import Derived.Test.YtohbipkmfhmibaaGreatDoorAE7
/-! AE8: slices of slices, lengths, texts and bytes, make, copy. -/
set_option linter.unusedVariables false
set_option linter.unusedSimpArgs false
namespace Go.AE
open Go.RowKit Go.LB

/-- A bound: within 0 .. n. -/
def tle (n : Nat) : T → Option Nat
  | .v (.int _ i) => if 0 ≤ i ∧ i ≤ n then some i.toNat else none
  | _ => none
theorem tle_sound {E : Env} {w : World} {n i : Nat} {x : T} {u : Value} (h : tle n x = some i) (hx : Rel E w x u) : ∃ k z, u = .int k z ∧ 0 ≤ z ∧ z ≤ n ∧ z.toNat = i ∧ i ≤ n := by
  unfold tle at h
  split at h
  · rename_i k z
    cases hx
    split at h
    · rename_i hc
      cases h
      exact ⟨k, z, rfl, hc.1, hc.2, rfl, by omega⟩
    · cases h
  · cases h
/-- The bounds of a slice expression: (low, high, max). 'n': the length that is known. -/
def tbounds (n : Nat) (lo hi mx : Option T) : Option (Nat × Nat × Option Nat) :=
  match (match mx with | none => some none | some y => (tle n y).map some : Option (Option Nat)) with
  | none => none
  | some m =>
    match (match hi with | none => (if m.isSome then none else some n) | some y => tle (m.getD n) y : Option Nat) with
    | none => none
    | some h =>
      match (match lo with | none => some 0 | some y => tle h y : Option Nat) with
      | none => none
      | some l => some (l, h, m)
/-- Options of values that belong together. -/
def RelO (E : Env) (w : World) (x : Option T) (u : Option Value) : Prop := (x = none ∧ u = none) ∨ ∃ y v, x = some y ∧ u = some v ∧ Rel E w y v
section
variable {P : Program} {U : Name → Prop} {E : Env} {h : Heap} {G : Name → Option Blk} {L : Name → Prop} {w : World}
theorem run_bound {x : T} {u : Value} {n i : Nat} (h : tle n x = some i) (hx : Rel E w x u) {y : Nat} (hy : n ≤ y) (code : BoundsCode) : (Instr.sliceBound u y code).run P w = .ok i w := by
  obtain ⟨k, z, rfl, h0, h1, h2, h3⟩ := tle_sound h hx
  have : z ≤ (y : Int) := by omega
  simp [Instr.sliceBound, asIntOf, h0, this, h2]
theorem tbounds_sound {n : Nat} {lo hi mx : Option T} {ulo uhi umx : Option Value} {l e : Nat} {m : Option Nat} (h : tbounds n lo hi mx = some (l, e, m)) (h1 : RelO E w lo ulo) (h2 : RelO E w hi uhi) (h3 : RelO E w mx umx) (c : Nat) (hc : n ≤ c) (isS : Bool) :
    l ≤ e ∧ e ≤ n ∧ (∀ q, m = some q → e ≤ q ∧ q ≤ n) ∧ (m = none ↔ mx = none) ∧ (lo = none → l = 0) ∧ (hi = none → e = n) ∧ (Instr.sliceBounds isS n c ulo uhi umx).run P w = .ok (l, e, m.getD c) w := by
  unfold tbounds at h
  split at h
  · cases h
  rename_i m' hm
  split at h
  · cases h
  rename_i e' he
  split at h
  · cases h
  rename_i l' hl
  cases h
  have hmx : (∀ q, m = some q → q ≤ n) ∧ (m = none ↔ mx = none) ∧ (umx = none → m.getD c = c) ∧ (∀ v, umx = some v → mx ≠ none ∧ ∀ code, (Instr.sliceBound v c code).run P w = .ok (m.getD c) w) := by
    rcases h3 with ⟨rfl, rfl⟩ | ⟨y, v, rfl, rfl, hr⟩
    · simp at hm; subst hm; simp
    · simp only [Option.map_eq_some_iff] at hm
      obtain ⟨q, hq, rfl⟩ := hm
      refine ⟨fun q' e => by cases e; obtain ⟨_, _, _, _, _, _, h4⟩ := tle_sound hq hr; exact h4, by simp, by simp, fun v' e => ?_⟩
      cases e
      exact ⟨by simp, fun code => run_bound hq hr hc code⟩
  obtain ⟨m1, m2, m4, m5⟩ := hmx
  have hle : m.getD n ≤ m.getD c := by cases m <;> simp [hc]
  have hnn : m.getD n ≤ n := by cases m with
    | none => exact Nat.le_refl _
    | some q => exact m1 q rfl
  have hhi : e ≤ m.getD n ∧ (hi = none → e = n) ∧ (uhi = none → e = n ∧ umx = none) ∧ (∀ v, uhi = some v → ∀ code, (Instr.sliceBound v (m.getD c) code).run P w = .ok e w) := by
    rcases h2 with ⟨rfl, rfl⟩ | ⟨y, v, rfl, rfl, hr⟩
    · simp only at he
      split at he
      · cases he
      · rename_i hn
        cases he
        have : m = none := by simpa using hn
        subst this
        refine ⟨by simp, by simp, fun _ => ⟨rfl, ?_⟩, by simp⟩
        cases hu : umx with
        | none => rfl
        | some v => exact absurd (m2.1 rfl) (m5 v hu).1
    · simp only at he
      obtain ⟨_, _, _, _, _, _, h4⟩ := tle_sound he hr
      exact ⟨h4, by simp, by simp, fun v' e code => by cases e; exact run_bound he hr hle code⟩
  obtain ⟨e1, e2, e3, e4⟩ := hhi
  have hlo : l ≤ e ∧ (lo = none → l = 0) ∧ (ulo = none → l = 0) ∧ (∀ v, ulo = some v → ∀ code, (Instr.sliceBound v e code).run P w = .ok l w) := by
    rcases h1 with ⟨rfl, rfl⟩ | ⟨y, v, rfl, rfl, hr⟩
    · simp at hl; subst hl; simp
    · simp only at hl
      obtain ⟨_, _, _, _, _, _, h4⟩ := tle_sound hl hr
      exact ⟨h4, by simp, by simp, fun v' e code => by cases e; exact run_bound hl hr (Nat.le_refl _) code⟩
  obtain ⟨l1, l2, l3, l4⟩ := hlo
  refine ⟨l1, by omega, fun q hq => ⟨by subst hq; simpa using e1, m1 q hq⟩, m2, l2, e2, ?_⟩
  clear h1 h2 h3 hm he hl
  cases umx with
  | none =>
    rw [m4 rfl] at e4 ⊢
    cases uhi with
    | none =>
      obtain rfl := (e3 rfl).1
      cases ulo with
      | none => obtain rfl := l3 rfl; simp [Instr.sliceBounds]
      | some v => have := l4 v rfl; simp [Instr.sliceBounds, this]
    | some y =>
      have he := e4 y rfl
      cases ulo with
      | none => obtain rfl := l3 rfl; simp [Instr.sliceBounds, he]
      | some v => have := l4 v rfl; simp [Instr.sliceBounds, this, he]
  | some z =>
    have hz := (m5 z rfl).2
    cases uhi with
    | none => cases (e3 rfl).2
    | some y =>
      have he := e4 y rfl
      cases ulo with
      | none => obtain rfl := l3 rfl; simp [Instr.sliceBounds, he, hz]
      | some v => have := l4 v rfl; simp [Instr.sliceBounds, this, he, hz]

theorem agg_not_one {l : List T} {u : Value} (h : Rel E w (.agg l) u) (h1 : u.oneCell' = true) : False := by
  cases h; simp [Value.oneCell'] at h1

def eSlStr (x : T) (lo hi : Option T) : Option T :=
  match x with
  | .v (.string s) => (tbounds s.size lo hi none).map fun r => tS (s.extract r.1 r.2.1)
  | _ => none
theorem eSlStr_sound {t : TypeId} (ht : P.underlying t = some .string) {a x : T} {u : Value} {lo hi : Option T} {ulo uhi : Option Value} (ha : Rel E w a u) (h1 : RelO E w lo ulo) (h2 : RelO E w hi uhi) (hx : eSlStr a lo hi = some x) :
    ∃ v, (Instr.slice t u ulo uhi none).run P w = .ok v w ∧ Rel E w x v := by
  unfold eSlStr at hx
  split at hx
  · rename_i s
    obtain ⟨⟨l, e, m⟩, hr, rfl⟩ := Option.map_eq_some_iff.1 hx
    obtain ⟨_, _, _, hm, _, _, hrun⟩ := tbounds_sound (P := P) hr h1 h2 (.inl ⟨rfl, rfl⟩) s.size (Nat.le_refl _) false
    cases ha
    exact ⟨.string (s.extract l e), by simp [Instr.slice, run_underlying ht, hrun], .v rfl⟩
  · cases hx

def eSlX (k : Nat) (x : T) (lo hi mx : Option T) : Option T :=
  match x with
  | .sl l t =>
    match tbounds l.length lo hi mx with
    | none => none
    | some (a, b, m) =>
      if lo.isNone ∧ hi.isNone ∧ mx.isNone then some (.sl l t)
      else if t = .nil then some (.sl [] .nil)
      else if kl k l then some (.sl ((l.drop a).take (b - a)) .no) else none
  | .msl n off len =>
    match tbounds len lo hi mx with
    | none => none
    | some (a, b, m) => if a < b then some (.msl n (off + a * k) (b - a)) else some (.sl [] .no)
  | _ => none
/-- A part of a slice. -/
theorem Rel.sub {l : List T} {t : Tag} {ad : Option Addr} {c k : Nat} (hr : Rel E w (.sl l t) (.slice ad l.length c)) (hk : ∀ x ∈ l, x.cells.length = k) (hk0 : 0 < k) (ht : t ≠ .nil) {a b c' : Nat} (hab : a ≤ b) (hb : b ≤ l.length) (hc' : b - a ≤ c') (hcm : c' ≤ maxLen) {ad' : Option Addr} (had : a < b → ad' = ad.map (·.add (a * k))) :
    Rel E w (.sl ((l.drop a).take (b - a)) .no) (.slice ad' (b - a) c') := by
  have hlen : ((l.drop a).take (b - a)).length = b - a := by rw [List.length_take, List.length_drop]; omega
  by_cases hlt : a < b
  · cases hr with
    | slnil => simp at hb; omega
    | slno h1 h2 h3 h4 => simp at hb; omega
    | sl cv hk1 hl hc hm htag g1 g2 =>
      rename_i b0 o k1
      have hkk : k1 = k := by
        have hx : l[a]? = some l[a] := List.getElem?_eq_getElem (by omega)
        rw [← hl _ (List.mem_of_getElem? hx), hk _ (List.mem_of_getElem? hx)]
      subst hkk
      rw [had hlt]
      simp only [Option.map_some, Addr.add_mid]
      have hfl : ∀ (i : Nat) x, (((l.drop a).take (b - a)).flatMap T.cells)[i]? = some x → (l.flatMap T.cells)[a * k1 + i]? = some x := by
        intro i x hi
        have e : l.flatMap T.cells = (l.take a).flatMap T.cells ++ (((l.drop a).take (b - a)).flatMap T.cells ++ ((l.drop a).drop (b - a)).flatMap T.cells) := by
          rw [← List.flatMap_append, ← List.flatMap_append, List.take_append_drop, List.take_append_drop]
        have hta : ((l.take a).flatMap T.cells).length = a * k1 := by
          rw [flat_length (k := k1) (fun y hy => hl y (List.mem_of_mem_take hy)), List.length_take, Nat.min_eq_left (by omega)]
        rw [e, List.getElem?_append_right (by omega), hta, Nat.add_sub_cancel_left, List.getElem?_append_left (List.getElem?_eq_some_iff.1 hi).1]
        exact hi
      have := Rel.sl (E := E) (w := w) (l := (l.drop a).take (b - a)) (t := .no) (b := b0) (o := o + a * k1) (c := c') (k := k1) (fun i => cv (a * k1 + i)) hk1 (fun x hx => hl x (List.mem_of_mem_drop (List.mem_of_mem_take hx))) (by rw [hlen]; exact hc') hcm trivial
        (fun i x hx => by have := g1 _ x (hfl i x hx); rwa [← Nat.add_assoc] at this) (fun i x hx => g2 _ x (hfl i x hx))
      rwa [hlen] at this
  · have h0 : b - a = 0 := by omega
    rw [h0, List.take_zero]
    exact .slno (t := .no) (by simp) hcm (by simp) _ (by simp)
theorem eSlX_sound {t e : TypeId} {k : Nat} (ht : P.underlying t = some (.slice e)) (he : (P.info? e).map (·.size) = some k) (hk0 : 0 < k) {a x : T} {u : Value} {lo hi mx : Option T} {ulo uhi umx : Option Value} (ha : Rel E w a u) (h1 : RelO E w lo ulo) (h2 : RelO E w hi uhi) (h3 : RelO E w mx umx)
    (hx : eSlX k a lo hi mx = some x) : ∃ v, (Instr.slice t u ulo uhi umx).run P w = .ok v w ∧ Rel E w x v := by
  obtain ⟨ie, hie, hz⟩ := Option.map_eq_some_iff.1 he
  have run : ∀ (ad : Option Addr) (n c l e : Nat) (m : Option Nat), (Instr.sliceBounds true n c ulo uhi umx).run P w = .ok (l, e, m.getD c) w →
      (Instr.slice t (.slice ad n c) ulo uhi umx).run P w = .ok (.slice (if m.getD c = l then ad else ad.map (·.add (l * k))) (e - l) (m.getD c - l)) w := by
    intro ad n c l e m hr
    simp [Instr.slice, run_underlying ht, hr, sizeOf, typeInfo, hie, hz]
  unfold eSlX at hx
  split at hx
  · rename_i l tg
    split at hx
    · cases hx
    rename_i p q m hb
    have hshape : ∃ ad c, u = .slice ad l.length c ∧ l.length ≤ c ∧ c ≤ maxLen ∧ (tg = .nil → ad = none ∧ c = 0 ∧ l = []) := by
      cases ha with
      | slnil => exact ⟨none, 0, rfl, Nat.le_refl _, by simp [maxLen], fun _ => ⟨rfl, rfl, rfl⟩⟩
      | slno g1 g2 g3 ad => exact ⟨ad, _, rfl, Nat.zero_le _, g2, fun q => absurd q g1⟩
      | sl cv hk1 hl hc hm htag g1 g2 => exact ⟨_, _, rfl, hc, hm, fun q => by subst q; exact htag.elim⟩
    obtain ⟨ad, c, rfl, hlc, hcm, hnil⟩ := hshape
    obtain ⟨b1, b2, b3, b4, b5, b6, hrun⟩ := tbounds_sound (P := P) hb h1 h2 h3 c hlc true
    have hR := run ad l.length c p q m hrun
    have hmc : q ≤ m.getD c ∧ m.getD c ≤ c := by
      cases m with
      | none => simp; omega
      | some m => have := b3 m rfl; simp; omega
    split at hx
    · rename_i hn
      cases hx
      obtain ⟨n1, n2, n3⟩ := hn
      simp at n1 n2 n3
      have hp := b5 n1
      have hq := b6 n2
      have hm := b4.2 n3
      subst hp; subst hm; subst hq
      simp only [Option.getD_none, Nat.zero_mul, Nat.sub_zero] at hR
      refine ⟨_, hR, ?_⟩
      have e1 : (if c = 0 then ad else ad.map (·.add 0)) = ad := by
        split
        · rfl
        · cases ad <;> simp [Addr.add]
      rw [e1]
      exact ha
    · split at hx
      · rename_i hn
        cases hx
        obtain ⟨rfl, rfl, rfl⟩ := hnil hn
        simp at b1 b2
        have : q = 0 := by omega
        subst this
        have : p = 0 := by omega
        subst this
        have hm0 : m.getD 0 = 0 := by omega
        refine ⟨_, hR, ?_⟩
        rw [hm0]
        simp
        exact .slnil
      · rename_i hnn
        split at hx
        · rename_i hkl
          cases hx
          rw [kl_iff] at hkl
          refine ⟨_, hR, Rel.sub ha hkl hk0 hnn b1 b2 (by omega) (by omega) (fun hlt => ?_)⟩
          rw [if_neg (by omega)]
        · cases hx
  · rename_i nm off len
    cases ha with
    | msl hρ hc hm =>
    rename_i c b0
    split at hx
    · cases hx
    rename_i p q m hb
    obtain ⟨b1, b2, b3, b4, b5, b6, hrun⟩ := tbounds_sound (P := P) hb h1 h2 h3 c hc true
    have hR := run (some ⟨b0, off, none⟩) len c p q m hrun
    have hmc : q ≤ m.getD c ∧ m.getD c ≤ c := by
      cases m with
      | none => simp; omega
      | some m => have := b3 m rfl; simp; omega
    split at hx
    · rename_i hlt
      cases hx
      rw [if_neg (by omega)] at hR
      simp only [Option.map_some, Addr.add_mid] at hR
      exact ⟨_, hR, .msl hρ (by omega) (by omega)⟩
    · cases hx
      refine ⟨_, hR, ?_⟩
      rw [show q - p = 0 by omega]
      exact .slno (t := .no) (by simp) (by omega) (by simp) _ (by simp)
  · cases hx

/-- A slice of an array's variable. -/
def eSlA (k n : Nat) (x : T) (lo hi mx : Option T) : Option T :=
  match tbounds n lo hi mx with
  | none => none
  | some (a, b, m) =>
    match x with
    | .ptr nm off => if a < b then some (.msl nm (off + a * k) (b - a)) else some (.sl [] .no)
    | .ro cs off => if k = 1 ∧ off + b ≤ cs.length ∧ kl 1 cs then some (.sl ((cs.drop (off + a)).take (b - a)) .no) else none
    | _ => none
theorem eSlA_run {t arr e : TypeId} {k n : Nat} (htt : (t = arr) ∨ P.underlying t = some (.pointer arr)) (ht : P.underlying arr = some (.array n e)) (he : (P.info? e).map (·.size) = some k) (hn : n ≤ maxLen) {a x : T} {u : Value} {lo hi mx : Option T} {ulo uhi umx : Option Value} (ha : Rel E w a u) (h1 : RelO E w lo ulo) (h2 : RelO E w hi uhi) (h3 : RelO E w mx umx)
    (hx : eSlA k n a lo hi mx = some x) : ∃ v, (Instr.sliceAt t u ulo uhi umx).run P w = .ok v w ∧ Rel E w x v := by
  obtain ⟨ie, hie, hz⟩ := Option.map_eq_some_iff.1 he
  have run : ∀ (b o l e : Nat) (m : Option Nat), (Instr.sliceBounds false n n ulo uhi umx).run P w = .ok (l, e, m.getD n) w →
      (Instr.sliceAt t (.pointer (some ⟨b, o, none⟩)) ulo uhi umx).run P w = .ok (.slice (some (if m.getD n = l then ⟨b, o, none⟩ else ⟨b, o + l * k, none⟩)) (e - l) (m.getD n - l)) w := by
    intro b o l e m hr
    rcases htt with rfl | htt
    · simp [Instr.sliceAt, run_underlying ht, Instr.sureAddr, hr, sizeOf, typeInfo, hie, hz, Addr.add_mid]
    · simp [Instr.sliceAt, run_underlying htt, Instr.slice, asAddr, run_underlying ht, hr, sizeOf, typeInfo, hie, hz, Addr.add_mid]
  unfold eSlA at hx
  split at hx
  · cases hx
  rename_i p q m hb
  obtain ⟨b1, b2, b3, b4, b5, b6, hrun⟩ := tbounds_sound (P := P) hb h1 h2 h3 n (Nat.le_refl _) false
  have hmc : q ≤ m.getD n ∧ m.getD n ≤ n := by
    cases m with
    | none => simp; omega
    | some m => have := b3 m rfl; simp; omega
  split at hx
  · rename_i nm off
    cases ha with
    | ptr hρ =>
    rename_i b0
    have hR := run b0 off p q m hrun
    split at hx
    · cases hx
      rw [if_neg (by omega)] at hR
      exact ⟨_, hR, .msl hρ (by omega) (by omega)⟩
    · cases hx
      refine ⟨_, hR, ?_⟩
      rw [show q - p = 0 by omega]
      exact .slno (t := .no) (by simp) (by omega) (by simp) _ (by simp)
  · rename_i cs off
    split at hx
    · rename_i hc
      obtain ⟨rfl, hle, hkl⟩ := hc
      rw [kl_iff] at hkl
      cases hx
      cases ha with
      | ro cv g1 g2 =>
      rename_i b0 o
      have hR := run b0 (o + off) p q m hrun
      refine ⟨_, hR, ?_⟩
      by_cases hlt : p < q
      · rw [if_neg (by omega)]
        have hlen : ((cs.drop (off + p)).take (q - p)).length = q - p := by rw [List.length_take, List.length_drop]; omega
        have hfl : ∀ (l : List T), (∀ x ∈ l, x ∈ cs) → (∀ (i : Nat) (x : T), (l.flatMap T.cells)[i]? = some x → l[i]? = some x ∨ ∃ y : T, l[i]? = some y ∧ y.cells = [x]) := by
          intro l hl i x hi
          have hu : ∀ y ∈ l, y.cells.length = 1 := fun y hy => hkl y (hl y hy)
          have hil : i < l.length := by
            have := (List.getElem?_eq_some_iff.1 hi).1
            rw [flat_length hu, Nat.mul_one] at this; exact this
          have := flat_get hu (List.getElem?_eq_getElem hil) (i := 0) (by omega)
          rw [Nat.mul_one, Nat.add_zero, hi] at this
          refine .inr ⟨l[i], List.getElem?_eq_getElem hil, ?_⟩
          match hcs : l[i].cells, hu _ (List.getElem_mem hil) with
          | [z], _ => rw [hcs] at this; simp at this; rw [this]
        have hcell : ∀ (i : Nat) x, (((cs.drop (off + p)).take (q - p)).flatMap T.cells)[i]? = some x → ∃ y, cs[off + p + i]? = some y ∧ y.cells = [x] := by
          intro i x hi
          have := hfl _ (fun x hx => List.mem_of_mem_drop (List.mem_of_mem_take hx)) i x hi
          have get : ∀ z, ((cs.drop (off + p)).take (q - p))[i]? = some z → cs[off + p + i]? = some z := fun z hz => by
            rw [List.getElem?_take] at hz
            split at hz
            · rwa [List.getElem?_drop] at hz
            · cases hz
          rcases this with h | ⟨y, h, e⟩
          · refine ⟨x, get x h, ?_⟩
            cases x with
            | agg l => exact (agg_not_one (g2 _ _ (get _ h)) (g1 _ _ (get _ h)).2.2).elim
            | _ => rfl
          · exact ⟨y, get y h, e⟩
        have hone : ∀ (i : Nat) y x, cs[i]? = some y → y.cells = [x] → y = x := by
          intro i y x hy hx
          cases y with
          | agg l => exact (agg_not_one (g2 _ _ hy) (g1 _ _ hy).2.2).elim
          | _ => simpa [T.cells] using hx
        have := Rel.sl (E := E) (w := w) (l := (cs.drop (off + p)).take (q - p)) (t := .no) (b := b0) (o := o + off + p * 1) (c := m.getD n - p) (k := 1) (fun i => cv (off + p + i)) (by omega) (fun x hx => hkl x (List.mem_of_mem_drop (List.mem_of_mem_take hx))) (by rw [hlen]; omega) (by omega) trivial
          (fun i x hx => by
            obtain ⟨y, hy, e⟩ := hcell i x hx
            have := hone _ _ _ hy e
            subst this
            have := g1 _ _ hy
            rwa [show o + (off + p + i) = o + off + p * 1 + i by omega] at this)
          (fun i x hx => by
            obtain ⟨y, hy, e⟩ := hcell i x hx
            have := hone _ _ _ hy e
            subst this
            exact g2 _ _ hy)
        rwa [hlen] at this
      · rw [show q - p = 0 by omega, List.take_zero]
        exact .slno (t := .no) (by simp) (by omega) (by simp) _ (by simp)
    · cases hx
  · cases hx
end
end Go.AE
