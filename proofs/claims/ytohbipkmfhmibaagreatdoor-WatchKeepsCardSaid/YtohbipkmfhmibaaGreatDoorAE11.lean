import Derived.Test.YtohbipkmfhmibaaGreatDoorAE10
/-! AE11: operations on maps. -/
set_option linter.unusedVariables false
set_option linter.unusedSimpArgs false
namespace Go.AE
open Go.RowKit Go.LB

theorem ceqV_true {k : CK} {p q : Value} (h : ceqV k p q = some true) : p = q ∧ ∀ n, Instr.sameBits n p p = true := by
  cases k <;> cases p <;> cases q <;> simp [ceqV] at h
  · subst h; exact ⟨rfl, fun n => by simp [Instr.sameBits]⟩
  · obtain ⟨rfl, rfl⟩ := h; exact ⟨rfl, fun n => by simp [Instr.sameBits]⟩
  · subst h; exact ⟨rfl, fun n => by
      rw [Instr.sameBits, beq_toListBytes]; simp⟩
theorem eqLV_true : ∀ {ks : List CK} {us vs : List Value}, eqLV ks us vs = some true → us = vs ∧ ∀ n, ∀ u ∈ us, Instr.sameBits n u u = true
  | [], [], [], _ => ⟨rfl, by simp⟩
  | k :: ks, u :: us, v :: vs, h => by
    simp only [eqLV] at h
    obtain ⟨c, hc, h3⟩ := Option.bind_eq_some_iff.1 h
    cases c with
    | false => simp at h3
    | true =>
      obtain ⟨rfl, h1⟩ := ceqV_true hc
      obtain ⟨rfl, h2⟩ := eqLV_true (ks := ks) (us := us) (vs := vs) (by simpa using h3)
      exact ⟨rfl, fun n x hx => (List.mem_cons.1 hx).elim (fun e => e ▸ h1 n) (h2 n x)⟩
  | [], [], _ :: _, h => by simp [eqLV] at h
  | [], _ :: _, _, h => by simp [eqLV] at h
  | _ :: _, [], _, h => by simp [eqLV] at h
  | _ :: _, _ :: _, [], h => by simp [eqLV] at h

section
variable {P : Program} {U : Name → Prop} {E : Env} {h : Heap} {G : Name → Option Blk} {L : Name → Prop} {w : World}

theorem run_keyStays {kt : TypeId} {d : Nat} {ks : List CK} (hk : ckinds P d kt = some ks) {u : Value} (h1 : u = valOf P kt u.cells.toList) (h : eqLV ks u.cells.toList u.cells.toList = some true) : (Instr.keyThatStays u u).run P w = .ok u w := by
  have hs : Instr.sameBits 10000 u u = true := by
    obtain ⟨_, h2⟩ := eqLV_true h
    have hlen := (eqLV_len (b := true) h).1
    rw [h1]
    unfold valOf at h1 ⊢
    cases hu : P.underlying kt with
    | none => cases d <;> simp [ckinds, hu] at hk
    | some ds =>
      rw [hu] at h1
      have sc : ks.length = 1 → Instr.sameBits 10000 (u.cells.toList.headD undef) (u.cells.toList.headD undef) = true := by
        intro h1
        match hc : u.cells.toList, hlen with
        | [], hl => simp [h1] at hl
        | x :: _, _ => simp; exact h2 10000 x (by rw [hc]; simp)
      have ag : Instr.sameBits 10000 (.agg u.cells.toList.toArray) (.agg u.cells.toList.toArray) = true := by
        simp only [Instr.sameBits, beq_self_eq_true, Bool.true_and, List.all_eq_true]
        intro p hp
        have : ∀ l : List Value, (∀ x ∈ l, Instr.sameBits 9999 x x = true) → ∀ p ∈ l.zip l, Instr.sameBits 9999 p.1 p.2 = true := by
          intro l
          induction l with
          | nil => simp
          | cons x l ih =>
            intro h p hp
            simp only [List.zip_cons_cons, List.mem_cons] at hp
            rcases hp with rfl | hp
            · exact h x (by simp)
            · exact ih (fun y hy => h y (by simp [hy])) p hp
        exact this _ (fun x hx => h2 9999 x (by simpa using hx)) p hp
      cases d with
      | zero => simp [ckinds] at hk
      | succ d =>
        simp only [ckinds, hu] at hk
        cases ds with
        | struct fs => exact ag
        | array n e => exact ag
        | bool => exact sc (by simp at hk; rw [← hk]; rfl)
        | int kk => exact sc (by simp at hk; rw [← hk]; rfl)
        | string => exact sc (by simp at hk; rw [← hk]; rfl)
        | _ => simp at hk
  simp [Instr.keyThatStays, hs]

/-- What a map's value holds. -/
def mapOf (m : T) (h : Heap) : Option (List (T × T × Nat)) :=
  match m with
  | .v (.map none) => some []
  | .map n => match hget h n with | some (.map es _) => some es | _ => none
  | _ => none
def esB (row : Bool) (ks : List CK) (es : List (T × T × Nat)) : Bool := es.all fun e => keyB row ks e.1
theorem esB_iff {row : Bool} {ks : List CK} {es : List (T × T × Nat)} : esB row ks es = true ↔ ∀ e ∈ es, keyB row ks e.1 = true := by simp [esB]

/-- A look for a key. -/
theorem find_sound {kt : TypeId} {d : Nat} {ks : List CK} (hd : d ≤ 10000) (hk : ckinds P d kt = some ks) {k : T} {u : Value} (hb : keyB (isRowT P kt) ks k = true) (hr : Rel E w k u) {es : List (T × T × Nat)} (hes : esB (isRowT P kt) ks es = true) {ves : Array MapEntry} (hm : MapRel E w es ves) {r : Option (Nat × T × Nat)} (hf : tfind ks k es 0 = some r) :
    (∀ em, (Instr.checkKey em 10000 kt u).run P w = .ok () w) ∧ ∃ o : Option (Nat × Value), (Instr.findKey kt u ves.toList).run P w = .ok o w ∧
      ((r = none ∧ o = none) ∨ ∃ j x s me, r = some (j, x, s) ∧ (∃ k', es[j]? = some (k', x, s)) ∧ ves[j]? = some me ∧ o = some (j, me.val) ∧ Rel E w x me.val ∧ u = me.key ∧ me.born = s ∧ (Instr.keyThatStays u u).run P w = .ok u w) := by
  obtain ⟨e1, e2, e3⟩ := key_val hk hb hr
  refine ⟨fun em => by rw [e1]; exact (checkKey_cks (P := P) (w := w) d).1 kt ks 10000 _ em hk hd e2, ?_⟩
  obtain ⟨o, h1, h2⟩ := tfind_sound hd hk hb hr (es := es) (esB_iff.1 hes) ves.toList 0 r (by simpa using hm.1) (fun j k x s hj => by
    obtain ⟨me, q1, q2, q3, q4⟩ := hm.2 j k x s hj; exact ⟨me, by simpa using q1, q2, q3, q4⟩) hf
  refine ⟨o, ?_, ?_⟩
  · have hun : ∃ ds, P.underlying kt = some ds := by
      cases hu : P.underlying kt with
      | none => cases d <;> simp [ckinds, hu] at hk
      | some ds => exact ⟨ds, rfl⟩
    obtain ⟨ds, hds⟩ := hun
    simp only [Instr.findKey, Sem.run_bind, run_underlying hds, Result.andThen_ok]
    rcases h1 with ⟨ds', hd', g⟩ | ⟨g, gn⟩
    · rw [hds] at hd'; cases hd'; simp [g]
    · by_cases hv0 : ves.toList = []
      · rw [hv0] at g ⊢
        simp [Instr.findAsking] at g
        subst g
        simp [Instr.findNow]
      · simp [gn ds hds hv0, g]
  · rcases h2 with h2 | ⟨j, x, s, me, a1, _, a3, a4, a5, a6, a7, a8, a9⟩
    · exact .inl h2
    · simp only [Nat.sub_zero] at a3 a4
      have hcells := (eqLV_true a7).1
      have hu : u = me.key := by rw [e1, a9, hcells]
      refine .inr ⟨j, x, s, me, a1, ⟨_, a3⟩, by simpa using a4, a5, a6, hu, a8, ?_⟩
      exact run_keyStays hk e1 (by rw [← hcells] at a7; exact a7)

theorem mapOf_sound (st : St E (hget h) L w) {m : T} {u : Value} (hu : Rel E w m u) {es : List (T × T × Nat)} (hm : mapOf m h = some es) : (u = .map none ∧ es = [] ∧ m = .v (.map none)) ∨ ∃ n b ves ck, m = .map n ∧ u = .map (some b) ∧ hget h n = some (.map es ck) ∧ E.ρ n = some b ∧ w.heap[b]? = some (.map ves ck) ∧ MapRel E w es ves := by
  unfold mapOf at hm
  split at hm
  · cases hm; cases hu; exact .inl ⟨rfl, rfl, rfl⟩
  · rename_i n
    split at hm
    · rename_i es' ck hg
      cases hm
      cases hu with
      | map hb =>
      obtain ⟨b, ves, h1, h2, h3⟩ := st.map _ _ _ hg
      rw [hb] at h1; cases h1
      exact .inr ⟨n, _, ves, ck, rfl, rfl, hg, hb, h2, h3⟩
    · cases hm
  · cases hm

def eLook (row : Bool) (ks : List CK) (zero : T) (ok : Bool) (m k : T) (h : Heap) : Option T :=
  (mapOf m h).bind fun es =>
    if keyB row ks k = true ∧ esB row ks es = true then
      (tfind ks k es 0).bind fun r =>
        match r with
        | none => some (if ok then .tup [zero, tB false] else zero)
        | some (_, x, _) => some (if ok then .tup [x, tB true] else x)
    else none
theorem rel_tup2 {a b : T} {u v : Value} (h1 : Rel E w a u) (h2 : Rel E w b v) : Rel E w (.tup [a, b]) (.tuple #[u, v]) := by
  refine .tup rfl fun i x z hx hz => ?_
  match i with
  | 0 => simp at hx hz; subst hx; subst hz; exact h1
  | 1 => simp at hx hz; subst hx; subst hz; exact h2
  | i + 2 => simp at hx
theorem run_getObj_map {b : Nat} {ves : Array MapEntry} {ck : Nat} (h : w.heap[b]? = some (.map ves ck)) : (getObj b).run P w = .ok (.map ves ck) w := by simp [getObj, Sem.run, h]
theorem eLook_sound (st : St E (hget h) L w) {t kt e : TypeId} {i : TypeInfo} {z : Value} {d : Nat} {ks : List CK} {zero : T} {ok : Bool} (ht : P.underlying t = some (.map kt e)) (hi : P.info? e = some i) (hz : i.zero = some z) (hzero : Rel E w zero z) (hd : d ≤ 10000) (hk : ckinds P d kt = some ks)
    {m k x : T} {u v : Value} (hm : Rel E w m u) (hkk : Rel E w k v) (hx : eLook (isRowT P kt) ks zero ok m k h = some x) : ∃ r, (Instr.lookup t u v ok).run P w = .ok r w ∧ Rel E w x r := by
  obtain ⟨es, hes, hx⟩ := Option.bind_eq_some_iff.1 hx
  split at hx
  case isFalse => cases hx
  rename_i hc
  obtain ⟨c1, c2⟩ := hc
  obtain ⟨r, hr, hx⟩ := Option.bind_eq_some_iff.1 hx
  have hzr : (zeroValue e).run P w = .ok z w := by simp [zeroValue, typeInfo, hi, hz]
  rcases mapOf_sound st hm hes with ⟨rfl, rfl, _⟩ | ⟨n, b, ves, ck, _, rfl, hg, hρ, hh, hmr⟩
  · obtain ⟨hck, o, ho, hcase⟩ := find_sound (ves := #[]) hd hk c1 hkk c2 ⟨rfl, by simp⟩ hr
    rcases hcase with ⟨rfl, rfl⟩ | ⟨j, y, s, me, rfl, _, _, rfl, hrel, _, _, _⟩
    · simp at hx ho
      subst hx
      refine ⟨if ok then .tuple #[z, .bool false] else z, ?_, ?_⟩
      · simp [Instr.lookup, run_underlying ht, hck, ho, hzr]
      · cases ok
        · exact hzero
        · exact rel_tup2 hzero (.v rfl)
    · simp [tfind] at hr
  · obtain ⟨hck, o, ho, hcase⟩ := find_sound hd hk c1 hkk c2 hmr hr
    rcases hcase with ⟨rfl, rfl⟩ | ⟨j, y, s, me, rfl, _, _, rfl, hrel, _, _, _⟩
    · simp at hx
      subst hx
      refine ⟨if ok then .tuple #[z, .bool false] else z, ?_, ?_⟩
      · simp [Instr.lookup, run_underlying ht, run_getObj_map hh, hck, ho, hzr]
      · cases ok
        · exact hzero
        · exact rel_tup2 hzero (.v rfl)
    · simp at hx
      subst hx
      refine ⟨if ok then .tuple #[me.val, .bool true] else me.val, ?_, ?_⟩
      · simp [Instr.lookup, run_underlying ht, run_getObj_map hh, hck, ho, hzr]
      · cases ok
        · exact hrel
        · exact rel_tup2 hrel (.v rfl)

/-- m[k] = v -/
def eMapSet (row : Bool) (ks : List CK) (m k x : T) (h : Heap) : Option Heap :=
  match m with
  | .map n =>
    match hget h n with
    | some (.map es ck) =>
      if keyB row ks k = true ∧ esB row ks es = true ∧ isTup x = false then
        (tfind ks k es 0).bind fun r =>
          match r with
          | none => some (hset h n (.map (es ++ [(k, x, ck)]) (ck + 1)))
          | some (j, _, s) => some (hset h n (.map (es.set j (k, x, s)) ck))
      else none
    | _ => none
  | _ => none
theorem keep_setObj (w : World) (b : Nat) (o : Obj) : Keep (fun i => i = b) w { w with heap := w.heap.setIfInBounds b o } :=
  ⟨rfl, rfl, rfl, by simp, fun k _ hk => by simp [Array.getElem?_setIfInBounds, Ne.symm hk]⟩
theorem run_setObj_map {b : Nat} {ves : Array MapEntry} {ck : Nat} (h : w.heap[b]? = some (.map ves ck)) (o : Obj) : (setObj b o).run P w = .ok () { w with heap := w.heap.setIfInBounds b o } := by simp [setObj, Sem.run, h]
theorem set_map (st : St E (hget h) L w) {n : Name} {b : Nat} {x : Blk} {ves : Array MapEntry} {ck : Nat} (hg : hget h n = some x) (hρ : E.ρ n = some b) (hh : w.heap[b]? = some (.map ves ck)) {es' : List (T × T × Nat)} {ves' : Array MapEntry} (ck' : Nat) (hm : MapRel E w es' ves') :
    Walk U E (hget h) L w E (hget (hset h n (.map es' ck'))) L { w with heap := w.heap.setIfInBounds b (.map ves' ck') } := by
  rw [hget_hset_fun (by simp [hg])]
  refine Walk.set_blk st (by simp [hg]) hρ _ (keep_setObj w b _) (fun _ e => by cases e) (fun es2 ck2 e => ?_)
  cases e
  exact ⟨ves', by simp [Array.getElem?_setIfInBounds, (Array.getElem?_eq_some_iff.1 hh).1], hm⟩
theorem MapRel.push {es : List (T × T × Nat)} {ves : Array MapEntry} (h : MapRel E w es ves) {k x : T} {s : Nat} {me : MapEntry} (h1 : Rel E w k me.key) (h2 : Rel E w x me.val) (h3 : me.born = s) : MapRel E w (es ++ [(k, x, s)]) (ves.push me) := by
  refine ⟨by simp [h.1], fun i k' x' s' hi => ?_⟩
  by_cases hlt : i < es.length
  · rw [List.getElem?_append_left hlt] at hi
    obtain ⟨me', q1, q2⟩ := h.2 i k' x' s' hi
    exact ⟨me', by rw [Array.getElem?_push, if_neg (by rw [h.1]; omega)]; exact q1, q2⟩
  · have hi' : i = es.length := by
      have := (List.getElem?_eq_some_iff.1 hi).1
      simp at this; omega
    subst hi'
    simp at hi
    obtain ⟨rfl, rfl, rfl⟩ := hi
    exact ⟨me, by rw [Array.getElem?_push, if_pos h.1.symm], h1, h2, h3⟩
theorem MapRel.set {es : List (T × T × Nat)} {ves : Array MapEntry} (h : MapRel E w es ves) {j : Nat} {k x : T} {s : Nat} (f : MapEntry → MapEntry) (hf : ∀ me, ves[j]? = some me → Rel E w k (f me).key ∧ Rel E w x (f me).val ∧ (f me).born = s) : MapRel E w (es.set j (k, x, s)) (ves.modify j f) := by
  refine ⟨by simp [h.1], fun i k' x' s' hi => ?_⟩
  rw [List.getElem?_set] at hi
  split at hi
  · rename_i e
    subst e
    split at hi
    · rename_i hlt
      cases hi
      have hv : j < ves.size := by rw [h.1]; exact hlt
      obtain ⟨a, b, c⟩ := hf ves[j] (Array.getElem?_eq_getElem hv)
      exact ⟨f ves[j], by rw [Array.getElem?_modify, if_pos rfl, Array.getElem?_eq_getElem hv]; rfl, a, b, c⟩
    · cases hi
  · rename_i e
    obtain ⟨me', q1, q2⟩ := h.2 i k' x' s' hi
    exact ⟨me', by simp [Array.getElem?_modify, e, q1], q2⟩
theorem eMapSet_sound (st : St E (hget h) L w) {t kt e : TypeId} {d : Nat} {ks : List CK} (ht : P.underlying t = some (.map kt e)) (hd : d ≤ 10000) (hk : ckinds P d kt = some ks)
    {m k x : T} {u v y : Value} {h' : Heap} (hm : Rel E w m u) (hkk : Rel E w k v) (hy : Rel E w x y) (hx : eMapSet (isRowT P kt) ks m k x h = some h') :
    ∃ w', (Instr.mapUpdate t u v y).run P w = .ok () w' ∧ Walk U E (hget h) L w E (hget h') L w' := by
  unfold eMapSet at hx
  split at hx
  case h_2 => cases hx
  rename_i n
  split at hx
  case h_2 => cases hx
  rename_i es ck hg
  split at hx
  case isFalse => cases hx
  rename_i hc
  obtain ⟨c1, c2, c3⟩ := hc
  obtain ⟨r, hr, hx⟩ := Option.bind_eq_some_iff.1 hx
  cases hm with
  | map hb =>
  obtain ⟨b, ves, h1, hh, hmr⟩ := st.map _ _ _ hg
  rw [hb] at h1; cases h1
  obtain ⟨hck, o, ho, hcase⟩ := find_sound hd hk c1 hkk c2 hmr hr
  rcases hcase with ⟨rfl, rfl⟩ | ⟨j, y', s, me, rfl, ⟨k', hej⟩, hvj, rfl, hrel, hu, hborn, hst⟩
  · simp at hx
    subst hx
    refine ⟨_, ?_, set_map (ves' := ves.push { key := v, val := y, born := ck }) st hg hb hh (ck + 1) (hmr.push hkk hy rfl)⟩
    simp only [Instr.mapUpdate, Sem.run_bind, run_underlying ht, Result.andThen_ok, run_getObj_map hh, hck, ho]
    exact run_setObj_map hh _
  · simp at hx
    subst hx
    refine ⟨_, ?_, set_map (ves' := ves.modify j fun e => { e with key := v, val := y }) st hg hb hh ck (hmr.set _ (fun me' hme => by rw [hvj] at hme; cases hme; exact ⟨hkk, hy, hborn⟩))⟩
    simp only [Instr.mapUpdate, Sem.run_bind, run_underlying ht, Result.andThen_ok, run_getObj_map hh, hck, ho, hvj, Option.map_some, Option.getD_some, ← hu, hst]
    exact run_setObj_map hh _

/-- The entry of m[k], made if there is none. -/
def eMapEntry (row : Bool) (ks : List CK) (zero m k : T) (h : Heap) : Option (T × Heap) :=
  match m with
  | .map n =>
    match hget h n with
    | some (.map es ck) =>
      if keyB row ks k = true ∧ esB row ks es = true ∧ eqLT ks k.cells k.cells = some true then
        (tfind ks k es 0).bind fun r =>
          match r with
          | none => some (.tup [zero, tI ck], hset h n (.map (es ++ [(k, zero, ck)]) (ck + 1)))
          | some (j, x, s) => some (.tup [x, tI s], hset h n (.map (es.set j (k, x, s)) ck))
      else none
    | _ => none
  | _ => none
theorem eMapEntry_sound (st : St E (hget h) L w) {t kt e : TypeId} {i : TypeInfo} {z : Value} {d : Nat} {ks : List CK} {zero : T} (ht : P.underlying t = some (.map kt e)) (hi : P.info? e = some i) (hz : i.zero = some z) (hzero : Rel E w zero z) (hd : d ≤ 10000) (hk : ckinds P d kt = some ks)
    {m k x : T} {u v : Value} {h' : Heap} (hm : Rel E w m u) (hkk : Rel E w k v) (hx : eMapEntry (isRowT P kt) ks zero m k h = some (x, h')) :
    ∃ r w', (Instr.mapEntry t u v).run P w = .ok r w' ∧ Rel E w' x r ∧ Walk U E (hget h) L w E (hget h') L w' := by
  unfold eMapEntry at hx
  split at hx
  case h_2 => cases hx
  rename_i n
  split at hx
  case h_2 => cases hx
  rename_i es ck hg
  split at hx
  case isFalse => cases hx
  rename_i hc
  obtain ⟨c1, c2, _⟩ := hc
  obtain ⟨r, hr, hx⟩ := Option.bind_eq_some_iff.1 hx
  cases hm with
  | map hb =>
  obtain ⟨b, ves, h1, hh, hmr⟩ := st.map _ _ _ hg
  rw [hb] at h1; cases h1
  obtain ⟨hck, o, ho, hcase⟩ := find_sound hd hk c1 hkk c2 hmr hr
  have hzr : (zeroValue e).run P w = .ok z w := by simp [zeroValue, typeInfo, hi, hz]
  rcases hcase with ⟨rfl, rfl⟩ | ⟨j, y', s, me, rfl, ⟨k', hej⟩, hvj, rfl, hrel, hu, hborn, hst⟩
  · simp at hx
    obtain ⟨rfl, rfl⟩ := hx
    have W := set_map (U := U) (ves' := ves.push { key := v, val := z, born := ck }) st hg hb hh (ck + 1) (hmr.push hkk hzero rfl)
    refine ⟨.tuple #[z, goInt ck], _, ?_, rel_tup2 (hzero.ext W.ext) (.v rfl), W⟩
    simp only [Instr.mapEntry, Sem.run_bind, run_underlying ht, Result.andThen_ok, run_getObj_map hh, hck, ho, hzr, run_setObj_map hh]
    rfl
  · simp at hx
    obtain ⟨rfl, rfl⟩ := hx
    have W := set_map (U := U) (ves' := ves.modify j fun e => { e with key := v }) st hg hb hh ck (hmr.set (k := k) (x := y') (s := s) _ (fun me' hme => by rw [hvj] at hme; cases hme; exact ⟨hkk, hrel, hborn⟩))
    refine ⟨.tuple #[me.val, goInt s], _, ?_, rel_tup2 (hrel.ext W.ext) (.v rfl), W⟩
    simp only [Instr.mapEntry, Sem.run_bind, run_underlying ht, Result.andThen_ok, run_getObj_map hh, hck, ho, hvj, Option.map_some, Option.getD_some, ← hu, hst, run_setObj_map hh]
    simp [hborn, goInt]
/-- The value of an entry. -/
def eEntrySet (m s x : T) (h : Heap) : Option Heap :=
  match m, s with
  | .map n, .v (.int _ z) =>
    match hget h n with
    | some (.map es ck) =>
      match es.findIdx? (fun e => decide ((e.2.2 : Int) = z)) with
      | some j => if isTup x = false then (es[j]?).bind fun e => some (hset h n (.map (es.set j (e.1, x, e.2.2)) ck)) else none
      | none => none
    | _ => none
  | _, _ => none
theorem findIdx_rel {es : List (T × T × Nat)} {ves : Array MapEntry} (h : MapRel E w es ves) (z : Int) : ves.findIdx? (fun e => (e.born : Int) == z) = es.findIdx? (fun e => decide ((e.2.2 : Int) = z)) := by
  obtain ⟨l0⟩ := ves
  rw [List.findIdx?_toArray]
  have hl : l0.length = es.length := by simpa using h.1
  have h2 : ∀ (i : Nat) e, es[i]? = some e → ∃ me, l0[i]? = some me ∧ me.born = e.2.2 := fun i e he => by
    obtain ⟨me, q1, _, _, q4⟩ := h.2 i e.1 e.2.1 e.2.2 he
    exact ⟨me, by simpa using q1, q4⟩
  clear h
  revert l0
  induction es with
  | nil => intro l hl h2; cases l with
    | nil => rfl
    | cons _ _ => simp at hl
  | cons e es ih =>
    intro l hl h2
    cases l with
    | nil => simp at hl
    | cons m l =>
      obtain ⟨me, q1, q2⟩ := h2 0 e rfl
      simp at q1; subst q1
      rw [List.findIdx?_cons, List.findIdx?_cons, ih l (by simpa using hl) (fun i e he => h2 (i + 1) e (by simpa using he)), q2]
      rfl
theorem eEntrySet_sound (st : St E (hget h) L w) {t : TypeId} {m s x : T} {u v y : Value} {h' : Heap} (hm : Rel E w m u) (hs : Rel E w s v) (hy : Rel E w x y) (hx : eEntrySet m s x h = some h') :
    ∃ w', (Instr.entryStore t u v y).run P w = .ok () w' ∧ Walk U E (hget h) L w E (hget h') L w' := by
  unfold eEntrySet at hx
  split at hx
  case h_2 => cases hx
  rename_i n kz z
  split at hx
  case h_2 => cases hx
  rename_i es ck hg
  split at hx
  case h_2 => cases hx
  rename_i j hj
  split at hx
  case isFalse => cases hx
  obtain ⟨e, hej, hx⟩ := Option.bind_eq_some_iff.1 hx
  cases hx
  cases hs
  cases hm with
  | map hb =>
  obtain ⟨b, ves, h1, hh, hmr⟩ := st.map _ _ _ hg
  rw [hb] at h1; cases h1
  have hf := findIdx_rel hmr z
  rw [hj] at hf
  obtain ⟨me, q1, q2, q3, q4⟩ := hmr.2 j e.1 e.2.1 e.2.2 hej
  have W := set_map (U := U) (es' := es.set j (e.1, x, e.2.2)) (ves' := ves.modify j fun e => { e with val := y }) st hg hb hh ck (hmr.set _ (fun me' hme => by rw [q1] at hme; cases hme; exact ⟨q2, hy, q4⟩))
  refine ⟨_, ?_, W⟩
  simp only [Instr.entryStore, Sem.run_bind, run_getObj_map hh, Result.andThen_ok, asInt, asIntOf, Sem.run_pure, hf]
  exact run_setObj_map hh _

/-- delete(m, k) -/
def eDel (row : Bool) (ks : List CK) (m k : T) (h : Heap) : Option Heap :=
  match m with
  | .map n =>
    match hget h n with
    | some (.map es ck) =>
      if keyB row ks k = true ∧ esB row ks es = true then
        (tfind ks k es 0).bind fun r =>
          match r with
          | none => some (hset h n (.map es ck))
          | some (j, _, _) => some (hset h n (.map (es.eraseIdx j) ck))
      else none
    | _ => none
  | _ => none
theorem MapRel.erase {es : List (T × T × Nat)} {ves : Array MapEntry} (h : MapRel E w es ves) {j : Nat} (hj : j < es.length) : MapRel E w (es.eraseIdx j) (ves.eraseIdxIfInBounds j) := by
  have hv : j < ves.size := by rw [h.1]; exact hj
  have e : ves.eraseIdxIfInBounds j = ves.eraseIdx j hv := by simp [Array.eraseIdxIfInBounds, hv]
  rw [e]
  refine ⟨by simp [List.length_eraseIdx, hj, h.1], fun i k x s hi => ?_⟩
  rw [List.getElem?_eraseIdx] at hi
  rw [Array.getElem?_eraseIdx]
  split at hi
  · rename_i q; rw [if_pos q]; exact h.2 i k x s hi
  · rename_i q; rw [if_neg q]; exact h.2 (i + 1) k x s hi
theorem eDel_sound (st : St E (hget h) L w) {t t2 ty kt e : TypeId} {d : Nat} {ks : List CK} (ht : P.underlying t = some (.map kt e)) (hd : d ≤ 10000) (hk : ckinds P d kt = some ks)
    {m k : T} {u v : Value} {h' : Heap} (hm : Rel E w m u) (hkk : Rel E w k v) (hx : eDel (isRowT P kt) ks m k h = some h') :
    ∃ w', (Builtin.delete_ #[t, t2] ty #[u, v]).run P w = .ok (.tuple #[]) w' ∧ Walk U E (hget h) L w E (hget h') L w' := by
  unfold eDel at hx
  split at hx
  case h_2 => cases hx
  rename_i n
  split at hx
  case h_2 => cases hx
  rename_i es ck hg
  split at hx
  case isFalse => cases hx
  rename_i hc
  obtain ⟨c1, c2⟩ := hc
  obtain ⟨r, hr, hx⟩ := Option.bind_eq_some_iff.1 hx
  cases hm with
  | map hb =>
  obtain ⟨b, ves, h1, hh, hmr⟩ := st.map _ _ _ hg
  rw [hb] at h1; cases h1
  obtain ⟨hck, o, ho, hcase⟩ := find_sound hd hk c1 hkk c2 hmr hr
  rcases hcase with ⟨rfl, rfl⟩ | ⟨j, y', s, me, rfl, ⟨k', hej⟩, hvj, rfl, hrel, hu, hborn, hst⟩
  · simp at hx
    subst hx
    refine ⟨_, ?_, set_map (ves' := ves) st hg hb hh ck hmr⟩
    simp only [Builtin.delete_, List.getElem?_toArray, List.getElem?_cons_zero, List.getElem?_cons_succ, Sem.run_bind, run_underlying ht, Result.andThen_ok, run_getObj_map hh, hck, ho, run_setObj_map hh]
    rfl
  · simp at hx
    subst hx
    refine ⟨_, ?_, set_map (ves' := ves.eraseIdxIfInBounds j) st hg hb hh ck (hmr.erase (List.getElem?_eq_some_iff.1 hej).1)⟩
    simp only [Builtin.delete_, List.getElem?_toArray, List.getElem?_cons_zero, List.getElem?_cons_succ, Sem.run_bind, run_underlying ht, Result.andThen_ok, run_getObj_map hh, hck, ho, run_setObj_map hh]
    rfl
theorem eMkMap_sound (st : St E G L w) {nm : Name} (hn : E.ρ nm = none) (hU : U nm) (t : TypeId) :
    (Instr.makeMap t none).run P w = .ok (.map (some w.heap.size)) (w.alloc (.map #[] 0)) ∧ Rel { E with ρ := updN E.ρ nm (some w.heap.size) } (w.alloc (.map #[] 0)) (.map nm) (.map (some w.heap.size)) ∧
      Walk U E G L w { E with ρ := updN E.ρ nm (some w.heap.size) } (updN G nm (some (.map [] 0))) L (w.alloc (.map #[] 0)) := by
  refine ⟨by simp [Instr.makeMap], .map (by simp), Walk.alloc_blk st hn hU _ _ (fun _ e => by cases e) (fun es ck e => ?_)⟩
  cases e
  exact ⟨#[], rfl, rfl, by simp⟩
end
end Go.AE
