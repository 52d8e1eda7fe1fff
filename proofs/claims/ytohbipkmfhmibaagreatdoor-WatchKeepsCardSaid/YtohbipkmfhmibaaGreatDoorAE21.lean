import Derived.Test.YtohbipkmfhmibaaGreatDoorAE20
/-! AE21: a function's call is what the table's row says. -/
set_option linter.unusedVariables false
set_option linter.unusedSimpArgs false
namespace Go.AE
open Go.RowKit Go.LB
section
variable {C : Cfg} {nt : Nat} {p : Name} {E : Env} {h h' : Heap} {L L' : List Name} {w : World} {fr fr' : Fr} {a : Act} {x : T}

theorem freeze_all {U : Name → Prop} : ∀ (ns : List Name) {E : Env} {G : Name → Option Blk} {L : Name → Prop}, St E G L w →
    ∃ E2, Walk U E G L w E2 (fun m => if m ∈ ns then none else G m) L w ∧ (∀ n ∈ ns, ∀ b, G n ≠ none → E.ρ n = some b → ∀ o, E2.Z b o)
  | [], E, G, L, st => ⟨E, by simpa using Walk.refl st, by simp⟩
  | n :: ns, E, G, L, st => by
    obtain ⟨E2, W, hz⟩ := freeze_all (U := U) ns st
    by_cases hn : n ∈ ns
    · refine ⟨E2, W.less (fun m x hm => ?_) (fun _ h => h), fun m hm b hg hb o => ?_⟩
      · simp only [List.mem_cons] at hm
        split at hm
        · cases hm
        · rename_i q; rw [if_neg (fun h => q (.inr h))]; exact hm
      · rcases List.mem_cons.1 hm with rfl | hm
        · exact hz _ hn b hg hb o
        · exact hz _ hm b hg hb o
    · by_cases hg : G n = none
      · refine ⟨E2, W.less (fun m x hm => ?_) (fun _ h => h), fun m hm b hgm hb o => ?_⟩
        · simp only [List.mem_cons] at hm
          split at hm
          · cases hm
          · rename_i q; rw [if_neg (fun h => q (.inr h))]; exact hm
        · rcases List.mem_cons.1 hm with rfl | hm
          · exact absurd hg hgm
          · exact hz _ hm b hgm hb o
      · have hg2 : (fun m => if m ∈ ns then none else G m) n ≠ none := by simpa [hn] using hg
        obtain ⟨b0, hb0, _⟩ := W.st.ρ_some hg2
        have W2 := Walk.freeze_blk (U := U) W.st hg2 hb0
        refine ⟨_, (W.trans W2).less (fun m x hm => ?_) (fun _ h => h), fun m hm b hgm hb o => ?_⟩
        · simp only [List.mem_cons] at hm
          split at hm
          · cases hm
          · rename_i q
            rw [updN_ne _ _ (fun e => q (.inl e.symm)), if_neg (fun h => q (.inr h))]
            exact hm
        · rcases List.mem_cons.1 hm with rfl | hm
          · right
            have := W.ext.ρ _ _ hb
            rw [hb0] at this; cases this; rfl
          · exact .inl (hz _ hm b hgm hb o)

theorem eRVs_sound {fn : Func} {rs : List RV} (st : St E (hget h) (· ∈ L) w) (hfr : ∀ t x, fget fr t = some x → t < a.tmps.size ∧ Rel E w x (a.tmps.getD t undef))
    (hrs : fn.results.toList.mapM (rvOf C.P) = some rs) {xs : List T} (hx : eRVs fr h rs = some xs) :
    ∃ us : List Value, us.length = fn.results.size ∧ RelL E w xs us ∧ ∀ (i : Nat) v, fn.results.toList[i]? = some v → ∃ u, us[i]? = some u ∧ (rvSem a.tmps v).run C.P w = .ok u w := by
  obtain ⟨l1, g1⟩ := mapM_get hrs
  have key : ∀ (rvs : List ResultVar) (rs : List RV) (xs : List T), rs.length = rvs.length → (∀ (i : Nat) v, rvs[i]? = some v → ∃ b, rvOf C.P v = some b ∧ rs[i]? = some b) → eRVs fr h rs = some xs →
      ∃ us : List Value, us.length = rvs.length ∧ RelL E w xs us ∧ ∀ (i : Nat) v, rvs[i]? = some v → ∃ u, us[i]? = some u ∧ (rvSem a.tmps v).run C.P w = .ok u w := by
    intro rvs
    induction rvs with
    | nil =>
      intro rs xs hl _ hx
      have : rs = [] := List.eq_nil_of_length_eq_zero (by simpa using hl)
      subst this
      cases hx
      exact ⟨[], rfl, RelL.nil _ _, by simp⟩
    | cons v rvs ih =>
      intro rs xs hl hg hx
      cases rs with
      | nil => simp at hl
      | cons r rs =>
        obtain ⟨x, hx1, hx⟩ := Option.bind_eq_some_iff.1 hx
        obtain ⟨ys, hys, rfl⟩ := Option.map_eq_some_iff.1 hx
        obtain ⟨us, q1, q2, q3⟩ := ih rs ys (by simpa using hl) (fun i v hv => hg (i + 1) v (by simpa using hv)) hys
        obtain ⟨b, hb, hb2⟩ := hg 0 v rfl
        simp at hb2; subst hb2
        have one : ∃ u, (rvSem a.tmps v).run C.P w = .ok u w ∧ Rel E w x u := by
          cases v with
          | tmp t =>
            cases hb
            exact ⟨_, rfl, (hfr t x hx1).2⟩
          | cell t ty =>
            obtain ⟨n, hn, rfl⟩ := Option.map_eq_some_iff.1 hb
            obtain ⟨y, hy, hx1⟩ := Option.bind_eq_some_iff.1 hx1
            obtain ⟨_, hrel⟩ := hfr t y hy
            obtain ⟨u, hu1, hu2⟩ := eLoad_sound (P := C.P) st (shp_ok hn) hrel hx1
            refine ⟨u, ?_, hu2⟩
            simp only [rvSem]
            generalize a.tmps.getD t undef = z at hrel hu1
            cases hrel with
            | ptr _ => simpa [Instr.loadAt, Instr.sureAddr, asAddr] using hu1
            | ro _ _ _ => simpa [Instr.loadAt, Instr.sureAddr, asAddr] using hu1
            | gl _ _ => simpa [Instr.loadAt, Instr.sureAddr, asAddr] using hu1
            | _ => simp [eLoad] at hx1
        obtain ⟨u, hu1, hu2⟩ := one
        refine ⟨u :: us, by simp [q1], RelL.cons hu2 q2, fun i v' hv => ?_⟩
        cases i with
        | zero => simp at hv; subst hv; exact ⟨u, rfl, hu1⟩
        | succ i => exact q3 i v' (by simpa using hv)
  obtain ⟨us, q1, q2, q3⟩ := key fn.results.toList rs xs l1 g1 hx
  exact ⟨us, by simpa using q1, q2, q3⟩
theorem rel_tupOf {xs : List T} {us : List Value} (hr : RelL E w xs us) : Rel E w (tupOf xs) (retOf us) := by
  match xs, us, hr with
  | [], us, hr => rw [hr.nil_inv]; exact .tup rfl (by simp)
  | [x], us, hr =>
    obtain ⟨u, vs, rfl, h1, h2⟩ := hr.cons_inv
    rw [h2.nil_inv]
    exact h1
  | x :: y :: l, us, hr =>
    have hl := hr.1
    match us, hl with
    | u :: v :: vs, _ => exact .tup (by have := hr.1; simpa using this) (fun i x u hx hu => hr.2 i x u hx (by simpa using hu))

/-- What is sealed still is what it was. -/
theorem rel_seal1 {top : List (Name × Blk)} {E2 : Env} (st : St E (hget h) (· ∈ L) w) (htop : ∀ n b, lget top n = some b → hget h n = some b) (X : Ext (Mine E (hget h) (· ∈ L)) E E2 w w) (hz : ∀ n, lget top n ≠ none → ∀ b, E.ρ n = some b → ∀ o, E2.Z b o) {u : Value} (hr : Rel E w x u) : Rel E2 w (seal1 L top x) u := by
  unfold seal1
  split
  · split
    · exact hr.ext X
    · exact (rel_strip1 hr).ext X
  · rename_i n off len
    split
    · rename_i cs hl
      split
      · rename_i hc
        obtain ⟨hle, hkl⟩ := hc
        cases hr with
        | msl hρ hcc hmx =>
        rename_i c b0
        obtain ⟨b, vs, e, q1, q2, q3, q4, q5, q6⟩ := st.box_at (htop n _ hl)
        rw [hρ] at q1; cases q1
        have hlen : ((cs.drop off).take len).length = len := by rw [List.length_take, List.length_drop]; omega
        have get : ∀ (i : Nat) x, ((cs.drop off).take len)[i]? = some x → cs[off + i]? = some x := fun i x hx => by
          rw [List.getElem?_take] at hx
          split at hx
          · rwa [List.getElem?_drop] at hx
          · cases hx
        have hcell1 : ∀ (i : Nat) x, cs[i]? = some x → x.cells = [x] := fun i x hx => by
          cases x with
          | agg l => exact (agg_not_one (q6 i _ hx) (q5 i _ hx).2).elim
          | _ => rfl
        have hflat : ∀ l : List T, (∀ x ∈ l, x.cells = [x]) → l.flatMap T.cells = l := by
          intro l hl
          induction l with
          | nil => rfl
          | cons x l ih => rw [List.flatMap_cons, hl x (by simp), ih (fun y hy => hl y (by simp [hy]))]; rfl
        have hin : ∀ x ∈ (cs.drop off).take len, x.cells = [x] := fun x hx => by
          obtain ⟨i, hi, e⟩ := List.mem_iff_getElem.1 hx
          exact hcell1 _ x (get i x (by rw [← e]; exact List.getElem?_eq_getElem hi))
        have hfl := hflat _ hin
        have := Rel.sl (E := E2) (w := w) (l := (cs.drop off).take len) (t := .no) (b := b0) (o := off) (c := c) (k := 1) (fun i => vs.getD (off + i) undef) (by omega) (fun x hx => by rw [hin x hx]; rfl) (by rw [hlen]; exact hcc) hmx trivial
          (fun i x hx => by
            rw [hfl] at hx
            have h5 := q5 _ _ (get i x hx)
            rw [Nat.zero_add] at h5
            exact ⟨hz n (by rw [hl]; simp) b0 hρ _, h5.1, h5.2⟩)
          (fun i x hx => by
            rw [hfl] at hx
            exact (q6 _ _ (get i x hx)).ext X)
        rwa [hlen] at this
      · exact hr.ext X
    · exact hr.ext X
  · exact hr.ext X
theorem rel_seal0 {top : List (Name × Blk)} {E2 : Env} (st : St E (hget h) (· ∈ L) w) (htop : ∀ n b, lget top n = some b → hget h n = some b) (X : Ext (Mine E (hget h) (· ∈ L)) E E2 w w) (hz : ∀ n, lget top n ≠ none → ∀ b, E.ρ n = some b → ∀ o, E2.Z b o) {u : Value} (hr : Rel E w x u) : Rel E2 w (seal0 L top x) u := by
  unfold seal0
  split
  · cases hr with
    | agg h1 h0 h2 =>
      refine .agg (by simpa using h1) h0 fun i x u hx hu => ?_
      rw [List.getElem?_map] at hx
      obtain ⟨y, hy, rfl⟩ := Option.map_eq_some_iff.1 hx
      exact rel_strip1 (rel_seal1 st htop X hz (h2 i y u hy hu))
  · exact rel_seal1 st htop X hz hr
theorem rel_sealT {top : List (Name × Blk)} {E2 : Env} (st : St E (hget h) (· ∈ L) w) (htop : ∀ n b, lget top n = some b → hget h n = some b) (X : Ext (Mine E (hget h) (· ∈ L)) E E2 w w) (hz : ∀ n, lget top n ≠ none → ∀ b, E.ρ n = some b → ∀ o, E2.Z b o) {u : Value} (hr : Rel E w x u) : Rel E2 w (sealT L top x) u := by
  unfold sealT
  split
  · cases hr with
    | tup h1 h2 =>
      refine .tup (by simpa using h1) fun i x u hx hu => ?_
      rw [List.getElem?_map] at hx
      obtain ⟨y, hy, rfl⟩ := Option.map_eq_some_iff.1 hx
      exact rel_seal0 st htop X hz (h2 i y u hy hu)
  · exact rel_seal0 st htop X hz hr
theorem seal1_tup {top : List (Name × Blk)} {l : List T} (h1 : seal1 L top x = .tup l) : x = .tup l := by
  unfold seal1 at h1
  split at h1
  · split at h1 <;> cases h1
  · split at h1
    · split at h1 <;> cases h1
    · cases h1
  · exact h1
theorem seal0_tup {top : List (Name × Blk)} {l : List T} (h1 : seal0 L top x = .tup l) : x = .tup l := by
  unfold seal0 at h1
  split at h1
  · cases h1
  · exact seal1_tup h1
theorem tok_seal1 {top : List (Name × Blk)} {l : List T} {n : Name} {k : Nat} (h1 : seal1 L top x = .sl l (.own n k)) : n ∈ L := by
  unfold seal1 at h1
  split at h1
  · split at h1
    · rename_i hm; cases h1; exact hm
    · cases h1
  · split at h1
    · split at h1 <;> cases h1
    · cases h1
  · rename_i hn _; subst h1; exact absurd rfl (hn _ _ _)
theorem tok_seal0 {top : List (Name × Blk)} {l : List T} {n : Name} {k : Nat} (h1 : seal0 L top x = .sl l (.own n k)) : n ∈ L := by
  unfold seal0 at h1
  split at h1
  · cases h1
  · exact tok_seal1 h1
theorem toks_sealT {top : List (Name × Blk)} {n : Name} (hn : n ∈ toks (sealT L top x)) : n ∈ L := by
  unfold sealT at hn
  split at hn
  · simp only [toks, List.mem_flatMap, List.mem_map] at hn
    obtain ⟨y, ⟨z, hz, rfl⟩, hy⟩ := hn
    split at hy
    · rename_i e; simp at hy; subst hy; exact tok_seal0 e
    · simp at hy
  · rename_i hnt
    cases hs : seal0 L top x with
    | sl l t =>
      rw [hs] at hn
      cases t <;> simp [toks] at hn
      subst hn
      exact tok_seal0 hs
    | tup l =>
      exact absurd (seal0_tup hs) (hnt _)
    | _ => rw [hs] at hn; simp [toks] at hn
theorem lget_dropK {ks : List Name} {top : List (Name × Blk)} {n : Name} : lget (dropK ks top) n = if n ∈ ks then none else lget top n := by
  unfold dropK
  induction top with
  | nil => simp [lget]
  | cons p l ih =>
    obtain ⟨m, b⟩ := p
    rw [List.filter_cons]
    by_cases hm : m ∈ ks
    · simp only [List.contains_iff_mem.2 hm, Bool.not_true, Bool.false_eq_true, if_false, ih, lget]
      by_cases e : m = n
      · subst e; simp [hm]
      · simp [e]
    · have : ks.contains m = false := by simpa using hm
      simp only [this, Bool.not_false, if_true, lget, ih]
      by_cases e : m = n
      · subst e; simp [hm]
      · simp [e]
theorem lget_keepK {ks : List Name} {top : List (Name × Blk)} {n : Name} : lget (top.filter fun p => ks.contains p.1) n = if n ∈ ks then lget top n else none := by
  induction top with
  | nil => simp [lget]
  | cons p l ih =>
    obtain ⟨m, b⟩ := p
    rw [List.filter_cons]
    by_cases hm : m ∈ ks
    · simp only [List.contains_iff_mem.2 hm, if_true, lget, ih]
      by_cases e : m = n
      · subst e; simp [hm]
      · simp [e]
    · have : ks.contains m = false := by simpa using hm
      simp only [this, Bool.false_eq_true, if_false, ih, lget]
      by_cases e : m = n
      · subst e; simp [hm]
      · simp [e]
theorem lget_append {l m : List (Name × Blk)} {n : Name} : lget (l ++ m) n = (lget l n).or (lget m n) := by
  induction l with
  | nil => simp [lget]
  | cons p l ih =>
    obtain ⟨k, b⟩ := p
    simp only [List.cons_append, lget, ih]
    split <;> simp
theorem hget_pushL {l : List (Name × Blk)} {h : Heap} {n : Name} : hget (pushL l h) n = (lget l n).or (hget h n) := by
  cases h with
  | nil =>
    cases l with
    | nil => simp [pushL, hget, lget]
    | cons a l => simp [pushL, hget]
  | cons t h => simp only [pushL, hget, lget_append]; cases lget l n <;> simp
theorem HU_pushL {l : List (Name × Blk)} {h : Heap} (hu : HU h) (hl : ∀ n, lget l n ≠ none → hget h n = none) : HU (pushL l h) := by
  cases h with
  | nil =>
    cases l with
    | nil => trivial
    | cons a l => exact ⟨fun _ _ => rfl, trivial⟩
  | cons t h =>
    refine ⟨fun n hn => ?_, hu.2⟩
    rw [lget_append] at hn
    cases e : lget l n with
    | some b =>
      have := hl n (by rw [e]; simp)
      simp only [hget] at this
      cases e2 : lget t n with
      | some c => rw [e2] at this; cases this
      | none => rw [e2, Option.none_or] at this; exact this
    | none => rw [e, Option.none_or] at hn; exact hu.1 n hn
theorem lget_mem {l : List (Name × Blk)} {n : Name} (hn : lget l n ≠ none) : n ∈ l.map (·.1) := by
  induction l with
  | nil => simp [lget] at hn
  | cons a l ih =>
    obtain ⟨m, b⟩ := a
    simp only [lget] at hn
    split at hn
    · rename_i e; simp [e]
    · simp [ih hn]
theorem mem_lget {l : List (Name × Blk)} {n : Name} (hn : n ∈ l.map (·.1)) : lget l n ≠ none := by
  induction l with
  | nil => simp at hn
  | cons a l ih =>
    obtain ⟨m, b⟩ := a
    simp only [List.map_cons, List.mem_cons] at hn
    simp only [lget]
    split
    · simp
    · rename_i e; exact ih (hn.resolve_left (fun q => e q.symm))
theorem hget_nil (h : Heap) : hget ([] :: h) = hget h := by funext n; simp [hget, lget]

theorem evF_sound {drawOk : List (Nat × Nat) → List ROp → Array Oper → Prop} {tab : FuncId → Option RFn} (hC : COk C) (hT : TabOk C drawOk tab) (hD : ∀ call, CallSnd C call → ∀ nt, DrawSnd C nt call drawOk) : ∀ n, CallSnd C (evF C tab n) := by
  intro n
  induction n with
  | zero => intro f nm args r h h' e; cases e
  | succ n ih =>
    intro f nm args r h h' e
    simp only [evF] at e
    obtain ⟨F, hF, e⟩ := Option.bind_eq_some_iff.1 e
    obtain ⟨fn, c, ok⟩ := hT f F hF
    refine ⟨⟨fn, ok.fnOf, ok.name, by rw [ok.body]; rfl⟩, fun E w vs pre hargs => ?_⟩
    cases hev : evC C (evF C tab n) nm n F.body { fr := argF args 0, h := [] :: h, L := [], k := 0 } with
    | none => rw [hev] at e; cases e
    | some q =>
      obtain ⟨x, g⟩ := q
      rw [hev] at e
      have hxr : (x = .norm ∨ x = .ret) ∧ (eRVs g.fr g.h F.rs).map (fun r => finF g.L g.h (tupOf r)) = some (r, h') := by
        cases x with
        | norm => exact ⟨.inl rfl, e⟩
        | ret => exact ⟨.inr rfl, e⟩
        | exit id => cases e
      obtain ⟨hx, e⟩ := hxr
      obtain ⟨xs, hxs, e⟩ := Option.map_eq_some_iff.1 e
      obtain ⟨rfl, rfl⟩ : r = (finF g.L g.h (tupOf xs)).1 ∧ h' = (finF g.L g.h (tupOf xs)).2 := by rw [e]; exact ⟨rfl, rfl⟩
      have hsz : (vs ++ Array.replicate (fn.ntmps - vs.size) undef).size = vs.size + (fn.ntmps - vs.size) := by simp
      have X0 : RS C F.nt nm 0 E ([] :: h) [] w (argF args 0) { tmps := vs ++ Array.replicate (fn.ntmps - vs.size) undef, defers := [] } := by
        refine ⟨?_, ⟨fun n hn => by simp [lget] at hn, pre.hu⟩, ?_, pre.laid, ?_, rfl, ?_, ?_, by simp⟩
        · rw [hget_nil]; exact pre.st.sub (fun _ _ h => h) (fun _ h => by simp at h)
        · intro t y hy
          obtain ⟨_, h2⟩ := fget_argF args 0 t y hy
          simp only [Nat.sub_zero] at h2
          obtain ⟨u, hu, hr⟩ := hargs.get h2
          have hlt : t < vs.size := by have := (List.getElem?_eq_some_iff.1 hu).1; simpa using this
          refine ⟨by simp only [hsz]; omega, ?_⟩
          have : (vs ++ Array.replicate (fn.ntmps - vs.size) undef).getD t undef = u := by
            have e : vs[t] = u := by simpa [hlt] using hu
            simp [Array.getD, hlt, hsz, Array.getElem_append, e]
            intro hh; omega
          rw [this]; exact hr
        · rw [ok.nt]; simp only [hsz]; omega
        · rintro n hn ⟨k, s, _, rfl⟩; exact pre.nρ _ hn ⟨k :: s, rfl⟩
        · rintro n hn ⟨k, s, _, rfl⟩; exact pre.nτ _ hn ⟨k :: s, rfl⟩
      refine calls_of_wp ok.fnOf ok.body (wp_mono (evC_sound hC ih (hD _ ih F.nt) n ok.code _ _ g x E w _ X0 hev) ?_)
      rintro ex a1 w1 ⟨rfl, _, E1, X1, W1⟩
      have fin : a1.defers = [] ∧ ∃ v, (results fn a1.tmps).run C.P w1 = .ok v w1 ∧ CallPost E h w nm (finF g.L g.h (tupOf xs)).1 (finF g.L g.h (tupOf xs)).2 (.returned v) w1 := by
        refine ⟨X1.df, ?_⟩
        obtain ⟨us, u1, u2, u3⟩ := eRVs_sound (C := C) (a := a1) X1.st X1.fr ok.rs hxs
        refine ⟨retOf us, run_results u3 u1, ?_⟩
        unfold finF
        simp only
        generalize keepN (topOf g.h) 64 (ptrR2 (tupOf xs)) [] = ks
        obtain ⟨E2, W2, hz⟩ := freeze_all (U := Under nm 0) ((dropK ks (topOf g.h)).map (·.1)) X1.st
        have htop : ∀ n b, lget (dropK ks (topOf g.h)) n = some b → hget g.h n = some b := by
          intro n b hb
          rw [lget_dropK] at hb
          split at hb
          · cases hb
          cases hh : g.h with
          | nil => rw [hh] at hb; simp [topOf, lget] at hb
          | cons l t => rw [hh] at hb; simp only [topOf] at hb; simp [hget, hb]
        have hrel := rel_sealT X1.st htop W2.ext (fun n hn b hb o => hz n (lget_mem hn) b (by
          cases e : lget (dropK ks (topOf g.h)) n with
          | none => exact absurd e hn
          | some y => rw [htop n y e]; simp) hb o) (rel_tupOf u2)
        have W : Walk (nm <+: ·) E (hget h) (fun _ => False) w E2 (hget (pushK ks g.h)) (· ∈ toks (sealT g.L (dropK ks (topOf g.h)) (tupOf xs))) w1 := by
          have W1' : Walk (Under nm 0) E (hget h) (fun _ => False) w E1 (hget g.h) (· ∈ g.L) w1 := by
            have := W1
            rw [hget_nil] at this
            have e0 : (fun x : Name => x ∈ ([] : List Name)) = fun _ => False := by funext x; simp
            rw [e0] at this
            exact this
          refine ((W1'.trans W2).mono (U' := (nm <+: ·)) ?_).less ?_ ?_
          · rintro n ⟨k, s, _, rfl⟩; exact ⟨k :: s, rfl⟩
          · intro n y hy
            have hu := X1.hu
            cases hh : g.h with
            | nil => rw [hh] at hy; simp [pushK, hget] at hy
            | cons l t =>
              rw [hh] at hy hu
              simp only [pushK, hget_pushL, lget_keepK] at hy
              have hne : n ∉ (dropK ks (topOf (l :: t))).map (·.1) := fun hm => by
                have hl := mem_lget hm
                rw [lget_dropK] at hl
                split at hl
                · exact hl rfl
                · rename_i hk
                  rw [if_neg hk, Option.none_or] at hy
                  have := hu.1 n hl
                  rw [this] at hy; cases hy
              rw [if_neg hne]
              split at hy
              · simp only [hget]; exact hy
              · rw [Option.none_or] at hy
                exact hget_tail hu n y hy
          · intro n hn; exact toks_sealT hn
        have hu' : HU (pushK ks g.h) := by
          have hu := X1.hu
          cases hh : g.h with
          | nil => trivial
          | cons l t =>
            rw [hh] at hu
            refine HU_pushL hu.2 fun n hn => hu.1 n ?_
            rw [lget_keepK] at hn
            split at hn
            · exact hn
            · exact absurd rfl hn
        exact ⟨retOf us, E2, rfl, hrel, W, hu'⟩
      rcases hx with rfl | rfl
      · exact fin
      · exact fin
end
end Go.AE
