import Derived.Test.YtohbipkmfhmibaaGreatDoorAE9
/-! AE10: maps. -/
set_option linter.unusedVariables false
set_option linter.unusedSimpArgs false
namespace Go.AE
open Go.RowKit Go.LB
section
variable {P : Program} {w : World}

theorem forIn_unit (f : Nat → Sem Unit) : ∀ (l : List Nat), (∀ i ∈ l, (f i).run P w = .ok () w) → (forIn l PUnit.unit fun i _ => (do f i; pure (ForInStep.yield PUnit.unit) : Sem (ForInStep PUnit))).run P w = .ok PUnit.unit w
  | [], _ => by simp
  | a :: l, h => by
    have ih := forIn_unit f l (fun i hi => h i (by simp [hi]))
    simp only [List.forIn_cons, Sem.run_bind, h a (by simp), Result.andThen_ok, Sem.run_pure]
    exact ih

theorem checkKey_cks (d : Nat) :
    (∀ t ks D xs em, ckinds P d t = some ks → d ≤ D → xs.length = ks.length → (Instr.checkKey em D t (valOf P t xs)).run P w = .ok () w) ∧
    (∀ fs off ls D (xs : Array Value) em, ckFields P d fs off = some ls → d ≤ D → off + ls.length = xs.size → ∀ f ∈ fs, f.name ≠ "_" ∧ ∃ v, (part f.type xs f.offset).run P w = .ok v w ∧ (Instr.checkKey em D f.type v).run P w = .ok () w) := by
  induction d with
  | zero =>
    refine ⟨fun t ks D xs em h => by simp [ckinds] at h, fun fs off ls D xs em h hD hx f hf => ?_⟩
    cases fs with
    | nil => simp at hf
    | cons f fs => simp [ckFields] at h
  | succ d ih =>
    constructor
    · intro t ks D xs em h hD hx
      obtain ⟨D, rfl⟩ : ∃ m, D = m + 1 := ⟨D - 1, by omega⟩
      simp only [ckinds] at h
      have sc : ∀ k : CK, ks = [k] → ∃ x, xs = [x] := by
        rintro k rfl
        match xs, hx with
        | [x], _ => exact ⟨x, rfl⟩
      cases hu : P.underlying t with
      | none => simp [hu] at h
      | some ds =>
        cases ds with
        | bool => simp [hu] at h; obtain ⟨x, rfl⟩ := sc .bool h.symm; simp [Instr.checkKey, run_underlying hu]
        | int k => simp [hu] at h; obtain ⟨x, rfl⟩ := sc .int h.symm; simp [Instr.checkKey, run_underlying hu]
        | string => simp [hu] at h; obtain ⟨x, rfl⟩ := sc .str h.symm; simp [Instr.checkKey, run_underlying hu]
        | struct fs =>
          simp only [hu] at h
          split at h
          · cases h
          · have key := ih.2 fs.toList 0 ks D xs.toArray em h (by omega) (by simp [hx])
            rw [show valOf P t xs = .agg xs.toArray by simp [valOf, hu]]
            simp only [Instr.checkKey, Sem.run_bind, run_underlying hu, Result.andThen_ok]
            rw [← Array.forIn_toList]
            generalize fs.toList = l at key
            clear h hu hx
            induction l with
            | nil => simp
            | cons f l ihl =>
              obtain ⟨hn, v, hv, hc⟩ := key f (by simp)
              simp only [List.forIn_cons, ne_eq, hn, not_false_eq_true, if_true, Sem.run_bind, hv, hc, Result.andThen_ok, Sem.run_pure]
              exact ihl (fun g hg => key g (by simp [hg]))
        | array n e =>
          simp only [hu] at h
          obtain ⟨l, hl, h⟩ := Option.bind_eq_some_iff.1 h
          split at h
          · rename_i hsz
            cases h
            obtain ⟨ie, hie, hz⟩ := Option.map_eq_some_iff.1 hsz
            have hlen : ∀ m, (List.replicate m l).flatten.length = m * l.length := fun m => by
              induction m with
              | zero => simp
              | succ m ihm => rw [List.replicate_succ, List.flatten_cons, List.length_append, ihm, Nat.add_mul, Nat.one_mul, Nat.add_comm]
            rw [hlen] at hx
            rw [show valOf P t xs = .agg xs.toArray by simp [valOf, hu]]
            simp only [Instr.checkKey, Sem.run_bind, run_underlying hu, Result.andThen_ok]
            rw [Std.Legacy.Range.forIn_eq_forIn_range']
            have := forIn_unit (P := P) (w := w) (fun i => do Instr.checkKey em D e (← part e xs.toArray (i * (← sizeOf e)))) (List.range' [:n].start [:n].size [:n].step) (fun i hi => by
              have hin : i < n := by
                simp [Std.Legacy.Range.size, List.mem_range'] at hi
                omega
              have hm : i * l.length + l.length ≤ n * l.length := by rw [← Nat.succ_mul]; exact Nat.mul_le_mul_right _ hin
              have hp := run_part_valOf (w := w) hl hsz xs.toArray (i * l.length) (by simp; omega)
              simp only [Sem.run_bind, sizeOf, typeInfo, run_program, hie, Sem.run_pure, Result.andThen_ok, hz, hp]
              exact ih.1 e l D _ em hl (by omega) (by rw [List.length_take]; simp; omega))
            simp only [Sem.run_bind, sizeOf, typeInfo, run_program, hie, Sem.run_pure, Result.andThen_ok, bind_assoc, pure_bind] at this ⊢
            rw [this]
            rfl
          · cases h
        | _ => simp [hu] at h
    · intro fs off ls D xs em h hD hx f hf
      cases fs with
      | nil => simp at hf
      | cons g fs =>
        simp only [ckFields] at h
        split at h
        · cases h
        · rename_i hn
          simp only [not_or, Decidable.not_not] at hn
          obtain ⟨hn, rfl⟩ := hn
          obtain ⟨l, hl, h⟩ := Option.bind_eq_some_iff.1 h
          split at h
          · rename_i hsz
            obtain ⟨r, hr, rfl⟩ := Option.map_eq_some_iff.1 h
            rw [List.length_append] at hx
            rcases List.mem_cons.1 hf with rfl | hf
            · refine ⟨hn, _, run_part_valOf (w := w) hl hsz xs f.offset (by omega), ?_⟩
              exact ih.1 f.type l D _ em hl (by omega) (by rw [List.length_take]; simp; omega)
            · exact ih.2 fs _ r D xs em hr (by omega) (by omega) f hf
          · cases h
end

theorem eqLV_one {k : CK} {p q : Value} {b : Bool} (h : eqLV [k] [p] [q] = some b) : ceqV k p q = some b := by
  simp only [eqLV] at h
  cases hc : ceqV k p q with
  | none => simp [hc] at h
  | some c => cases c <;> simp [hc] at h <;> simp [h]
theorem now_int {kk : IntKind} {p q : Value} {b : Bool} (h : ceqV .int p q = some b) : Instr.sameNow (.int kk) p q = some b := by
  cases p <;> cases q <;> simp [ceqV] at h
  obtain ⟨rfl, h⟩ := h
  subst h
  simp only [Instr.sameNow, if_true]
  rfl
theorem now_str {p q : Value} {b : Bool} (h : ceqV .str p q = some b) : Instr.sameNow .string p q = some b := by
  cases p <;> cases q <;> simp [ceqV] at h
  subst h
  rw [Instr.sameNow, beq_toListBytes, toList_eq_iff]
theorem now_bool {p q : Value} {b : Bool} (h : ceqV .bool p q = some b) : Instr.sameNow .bool p q = some b := by
  cases p <;> cases q <;> simp [ceqV] at h
  subst h
  simp [Instr.sameNow]

/-- Where a key stands. -/
def tfind (ks : List CK) (k : T) : List (T × T × Nat) → Nat → Option (Option (Nat × T × Nat))
  | [], _ => some none
  | (k', x, s) :: es, i =>
    match eqLT ks k.cells k'.cells with
    | some true => some (some (i, x, s))
    | some false => tfind ks k es (i + 1)
    | none => none
/-- A key fits its type. -/
def KeyOk (P : Program) (kt : TypeId) (ks : List CK) : Prop := ∃ d, d ≤ 10000 ∧ ckinds P d kt = some ks ∧ (match P.underlying kt with | some (.struct _) | some (.array _ _) => true | _ => false) = (ks.length != 1 || (match P.underlying kt with | some (.struct _) | some (.array _ _) => true | _ => false))
def isRowT (P : Program) (t : TypeId) : Bool := match P.underlying t with | some (.struct _) | some (.array _ _) => true | _ => false
/-- A value that is the value of a key's type. -/
def keyB (row : Bool) (ks : List CK) (k : T) : Bool := (k.cells.length == ks.length) && (match k with | .agg _ => row | .tup _ => false | _ => !row)

section
variable {P : Program} {U : Name → Prop} {E : Env} {h : Heap} {G : Name → Option Blk} {L : Name → Prop} {w : World}

theorem key_val {kt : TypeId} {d : Nat} {ks : List CK} (hk : ckinds P d kt = some ks) {k : T} {u : Value} (hb : keyB (isRowT P kt) ks k = true) (hr : Rel E w k u) : u = valOf P kt u.cells.toList ∧ u.cells.toList.length = ks.length ∧ RelL E w k.cells u.cells.toList := by
  unfold keyB at hb
  simp only [Bool.and_eq_true, beq_iff_eq] at hb
  obtain ⟨h1, h2⟩ := hb
  have hnt : ∀ l, k ≠ .tup l := by rintro l rfl; simp at h2
  obtain ⟨hc, _⟩ := hr.cells hnt
  refine ⟨?_, by rw [hc.1]; exact h1, hc⟩
  unfold isRowT at h2
  unfold valOf
  have agg : ∀ l, k = .agg l → u = .agg u.cells := by rintro l rfl; cases hr; rfl
  have non : (∀ l, k ≠ .agg l) → u.cells = #[u] := by
    intro hn
    cases hr with
    | agg _ _ _ => exact absurd rfl (hn _)
    | v hv => cases u <;> simp_all [atomB, Value.cells]
    | _ => rfl
  cases hu : P.underlying kt with
  | none => cases d <;> simp [ckinds, hu] at hk
  | some ds =>
    rw [hu] at h2
    cases ds with
    | struct fs => cases k with
      | agg l => simp only; rw [agg l rfl]; simp [Value.cells]
      | _ => simp at h2
    | array n e => cases k with
      | agg l => simp only; rw [agg l rfl]; simp [Value.cells]
      | _ => simp at h2
    | _ => cases k with
      | agg l => simp at h2
      | _ => simp only; rw [non (by simp)]; simp

theorem tfind_sound {kt : TypeId} {d : Nat} {ks : List CK} (hd : d ≤ 10000) (hk : ckinds P d kt = some ks) {k : T} {u : Value} (hb : keyB (isRowT P kt) ks k = true) (hr : Rel E w k u) {es : List (T × T × Nat)} (hes : ∀ e ∈ es, keyB (isRowT P kt) ks e.1 = true) :
    ∀ (ves : List MapEntry) (i : Nat) (r : Option (Nat × T × Nat)), ves.length = es.length → (∀ (j : Nat) k x s, es[j]? = some (k, x, s) → ∃ me, ves[j]? = some me ∧ Rel E w k me.key ∧ Rel E w x me.val ∧ me.born = s) → tfind ks k es i = some r →
      ∃ o : Option (Nat × Value), ((∃ ds, P.underlying kt = some ds ∧ Instr.findNow ds u ves i = some o) ∨ (Instr.findAsking kt u ves i).run P w = .ok o w ∧ (∀ ds, P.underlying kt = some ds → ves ≠ [] → Instr.findNow ds u ves i = none)) ∧
        ((r = none ∧ o = none) ∨ ∃ j x s me, r = some (j, x, s) ∧ i ≤ j ∧ es[j - i]? = some ((es[j - i]?.map (·.1)).getD default, x, s) ∧ ves[j - i]? = some me ∧ o = some (j, me.val) ∧ Rel E w x me.val ∧ eqLV ks u.cells.toList me.key.cells.toList = some true ∧ me.born = s ∧ me.key = valOf P kt me.key.cells.toList) := by
  obtain ⟨e1, e2, e3⟩ := key_val hk hb hr
  have hun : ∃ ds, P.underlying kt = some ds := by
    cases hu : P.underlying kt with
    | none => cases d <;> simp [ckinds, hu] at hk
    | some ds => exact ⟨ds, rfl⟩
  obtain ⟨ds, hds⟩ := hun
  induction es with
  | nil =>
    intro ves i r hl _ hf
    simp [tfind] at hf
    subst hf
    have : ves = [] := List.eq_nil_of_length_eq_zero (by simpa using hl)
    subst this
    exact ⟨none, .inl ⟨ds, hds, rfl⟩, .inl ⟨rfl, rfl⟩⟩
  | cons a es ih =>
    intro ves i r hl hrel hf
    obtain ⟨k', x, s⟩ := a
    cases ves with
    | nil => simp at hl
    | cons me ves =>
      obtain ⟨me', hme, q1, q2, q3⟩ := hrel 0 k' x s rfl
      simp at hme; subst hme
      obtain ⟨f1, f2, f3⟩ := key_val hk (hes (k', x, s) (by simp)) q1
      -- one comparison
      have one : ∀ b, eqLT ks k.cells k'.cells = some b → eqLV ks u.cells.toList me.key.cells.toList = some b ∧ (Op.equal kt u me.key).run P w = .ok b w := by
        intro b hb
        have hv := eqLT_sound hb e3 f3
        refine ⟨hv, ?_⟩
        have := (equalIn_cks (P := P) (w := w) d).1 kt ks 10000 _ _ b hk hd e2 f2 hv
        rw [← e1, ← f1] at this
        exact this
      have now : ∀ b, eqLT ks k.cells k'.cells = some b → (Instr.sameNow ds u me.key = some b) ∨ (∀ v, Instr.sameNow ds u v = none) := by
        intro b hb
        have hv := (one b hb).1
        cases d with
        | zero => simp [ckinds] at hk
        | succ d =>
          simp only [ckinds, hds] at hk
          cases ds with
          | int kk =>
            simp at hk; subst hk
            left
            rw [e1, f1]
            match hu : u.cells.toList, hm : me.key.cells.toList, e2, f2 with
            | [p], [q], _, _ =>
              rw [hu, hm] at hv
              simp only [valOf, hds, List.headD_cons]
              exact now_int (eqLV_one hv)
          | string =>
            simp at hk; subst hk
            left
            rw [e1, f1]
            match hu : u.cells.toList, hm : me.key.cells.toList, e2, f2 with
            | [p], [q], _, _ =>
              rw [hu, hm] at hv
              simp only [valOf, hds, List.headD_cons]
              exact now_str (eqLV_one hv)
          | bool =>
            simp at hk; subst hk
            left
            rw [e1, f1]
            match hu : u.cells.toList, hm : me.key.cells.toList, e2, f2 with
            | [p], [q], _, _ =>
              rw [hu, hm] at hv
              simp only [valOf, hds, List.headD_cons]
              exact now_bool (eqLV_one hv)
          | struct fs => right; intro v; simp [Instr.sameNow]
          | array n e => right; intro v; simp [Instr.sameNow]
          | _ => simp at hk
      simp only [tfind] at hf
      cases hc : eqLT ks k.cells k'.cells with
      | none => simp [hc] at hf
      | some b =>
        obtain ⟨o1, o2⟩ := one b hc
        cases b with
        | true =>
          simp [hc] at hf
          subst hf
          refine ⟨some (i, me.val), ?_, .inr ⟨i, x, s, me, rfl, Nat.le_refl _, by simp, by simp, rfl, q2, o1, q3, f1⟩⟩
          rcases now true hc with hn | hn
          · exact .inl ⟨ds, hds, by simp [Instr.findNow, hn]⟩
          · exact .inr ⟨by simp [Instr.findAsking, o2], fun ds' hd' _ => by rw [hds] at hd'; cases hd'; simp [Instr.findNow, hn]⟩
        | false =>
          simp [hc] at hf
          obtain ⟨o, g1, g2⟩ := ih (fun e he => hes e (by simp [he])) ves (i + 1) r (by simpa using hl) (fun j k x s hj => hrel (j + 1) k x s (by simpa using hj)) hf
          refine ⟨o, ?_, ?_⟩
          · rcases now false hc with hn | hn
            · rcases g1 with ⟨ds', hd', g⟩ | ⟨g, gn⟩
              · rw [hds] at hd'; cases hd'; exact .inl ⟨ds, hds, by simp [Instr.findNow, hn, g]⟩
              · by_cases hv0 : ves = []
                · subst hv0
                  simp [Instr.findAsking] at g
                  subst g
                  exact .inl ⟨ds, hds, by simp [Instr.findNow, hn]⟩
                · exact .inr ⟨by simp [Instr.findAsking, o2, g], fun ds' hd' _ => by rw [hds] at hd'; cases hd'; simp [Instr.findNow, hn, gn ds hds hv0]⟩
            · refine .inr ⟨?_, fun ds' hd' _ => by rw [hds] at hd'; cases hd'; simp [Instr.findNow, hn]⟩
              simp only [Instr.findAsking, Sem.run_bind, o2, Result.andThen_ok, Bool.false_eq_true, if_false]
              rcases g1 with ⟨ds', hd', g⟩ | ⟨g, gn⟩
              · rw [hds] at hd'; cases hd'
                cases ves with
                | nil => simp [Instr.findNow] at g; subst g; simp [Instr.findAsking]
                | cons m ves => simp [Instr.findNow, hn] at g
              · exact g
          · rcases g2 with g | ⟨j, x', s', me', a1, a2, a3, a4, a5, a6, a7, a8, a9⟩
            · exact .inl g
            · obtain ⟨j, rfl⟩ : ∃ m, j = m + 1 := ⟨j - 1, by omega⟩
              refine .inr ⟨j + 1, x', s', me', a1, by omega, ?_, ?_, a5, a6, a7, a8, a9⟩
              · rw [show j + 1 - i = (j + 1 - (i + 1)) + 1 by omega, List.getElem?_cons_succ]; exact a3
              · rw [show j + 1 - i = (j + 1 - (i + 1)) + 1 by omega, List.getElem?_cons_succ]; exact a4
end
end Go.AE
