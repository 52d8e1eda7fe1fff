import Derived.Test.YtohbipkmfhmibaaGreatDoorAE12
/-! AE13: what the resolved operations do is what the operations do. -/
set_option linter.unusedVariables false
set_option linter.unusedSimpArgs false
namespace Go.AE
open Go.RowKit Go.LB

def LaidOk (laid : Nat → Option (List T)) (E : Env) (w : World) : Prop := ∀ g cs, laid g = some cs → Rel E w (.ro cs 0) (.pointer (some ⟨g, 0, none⟩))
structure Ctx (C : Cfg) (E : Env) (h : Heap) (live : List Name) (w : World) (fr : Fr) (a : Act) (nm : Name) : Prop where
  st : St E (hget h) (· ∈ live) w
  fr : ∀ t x, fget fr t = some x → t < a.tmps.size ∧ Rel E w x (a.tmps.getD t undef)
  laid : LaidOk C.laid E w
  nρ : ∀ n, E.ρ n ≠ none → ¬ nm <+: n
  nτ : ∀ n, E.τ n ≠ none → ¬ nm <+: n
  nl : ∀ n ∈ live, ¬ nm <+: n
def Good (C : Cfg) (nm : Name) (o : Oper) (a : Act) (E : Env) (h : Heap) (live : List Name) (w : World) (x : T) (h' : Heap) (live' : List Name) : Prop :=
  ∃ v E' w', ((execOp a.eval o).run C.P w = .ok (.value v) w' ∨ (execOp a.eval o).run C.P w = .ok .skip w' ∧ v = undef) ∧ Rel E' w' x v ∧ Walk (nm <+: ·) E (hget h) (· ∈ live) w E' (hget h') (· ∈ live') w'

section
variable {C : Cfg} {E : Env} {h h' : Heap} {live live' : List Name} {w : World} {fr : Fr} {a : Act} {nm : Name} {o : Oper} {r : R} {x : T} {call : FuncId → Name → List T → Heap → Option (T × Heap)}

theorem Ctx.ρ0 (X : Ctx C E h live w fr a nm) : E.ρ nm = none := by
  cases e : E.ρ nm with
  | none => rfl
  | some b => exact absurd (List.prefix_refl nm) (X.nρ nm (by simp [e]))
theorem Ctx.τ0 (X : Ctx C E h live w fr a nm) : E.τ nm = none := by
  cases e : E.τ nm with
  | none => rfl
  | some b => exact absurd (List.prefix_refl nm) (X.nτ nm (by simp [e]))
theorem Ctx.eO (X : Ctx C E h live w fr a nm) {p : Operand} {q : O} {y : T} (h1 : resO C.laid p = some q) (h2 : AE.eO fr q = some y) : Rel E w y (a.eval p) := by
  cases p with
  | tmp t => simp [resO] at h1; subst h1; exact (X.fr t y h2).2
  | const v =>
    obtain ⟨z, hz, rfl⟩ := Option.map_eq_some_iff.1 h1
    cases h2
    exact (ofV_rel hz).1
  | global g =>
    obtain ⟨cs, hc, rfl⟩ := Option.map_eq_some_iff.1 h1
    cases h2
    exact X.laid g cs hc
  | func f =>
    simp [resO] at h1; subst h1
    cases h2
    exact .fn rfl rfl (by simp) (by simp)
theorem Ctx.eOo (X : Ctx C E h live w fr a nm) {p : Option Operand} {q : Option O} {y : Option T} (h1 : resOo C.laid p = some q) (h2 : AE.eOo fr q = some y) : RelO E w y (p.map a.eval) := by
  cases p with
  | none => simp [resOo] at h1; subst h1; simp [AE.eOo] at h2; subst h2; exact .inl ⟨rfl, rfl⟩
  | some p =>
    obtain ⟨q', hq, rfl⟩ := Option.map_eq_some_iff.1 h1
    obtain ⟨y', hy, rfl⟩ := Option.map_eq_some_iff.1 h2
    exact .inr ⟨y', _, rfl, rfl, X.eO hq hy⟩
theorem eOs_get : ∀ {l : List O} {xs : List T}, eOs fr l = some xs → xs.length = l.length ∧ ∀ (i : Nat) q, l[i]? = some q → ∃ y, eO fr q = some y ∧ xs[i]? = some y
  | [], xs, h => by cases h; simp
  | q :: l, xs, h => by
    obtain ⟨y, hy, h⟩ := Option.bind_eq_some_iff.1 h
    obtain ⟨ys, hys, rfl⟩ := Option.map_eq_some_iff.1 h
    obtain ⟨h1, h2⟩ := eOs_get hys
    refine ⟨by simp [h1], fun i q' hi => ?_⟩
    cases i with
    | zero => cases hi; exact ⟨y, hy, rfl⟩
    | succ i => exact h2 i q' (by simpa using hi)
theorem Ctx.eOs (X : Ctx C E h live w fr a nm) {ps : Array Operand} {qs : List O} {ys : List T} (h1 : resArgs C ps = some qs) (h2 : AE.eOs fr qs = some ys) : RelL E w ys (ps.map a.eval).toList := by
  obtain ⟨l1, g1⟩ := mapM_get h1
  obtain ⟨l2, g2⟩ := eOs_get h2
  refine ⟨by simp [l1, l2], fun i y v hy hv => ?_⟩
  rw [Array.toList_map, List.getElem?_map] at hv
  obtain ⟨p, hp, rfl⟩ := Option.map_eq_some_iff.1 hv
  obtain ⟨q, hq, hq2⟩ := g1 i p hp
  obtain ⟨y', hy', hy2⟩ := g2 i q hq2
  rw [hy] at hy2; cases hy2
  exact X.eO hq hy'

theorem run_v {P : Program} {s : Sem Value} {v : Value} {w w' : World} (h : s.run P w = .ok v w') : (do pure (Next.value (← s)) : Sem Next).run P w = .ok (.value v) w' := by simp [h]
theorem run_u {P : Program} {s : Sem Unit} {w w' : World} (h : s.run P w = .ok () w') : (do s; pure Next.skip : Sem Next).run P w = .ok .skip w' := by simp [h]
/-- A value, and nothing else. -/
theorem Good.pure (X : Ctx C E h live w fr a nm) {v : Value} (h1 : (execOp a.eval o).run C.P w = .ok (.value v) w) (h2 : Rel E w x v) : Good C nm o a E h live w x h live :=
  ⟨v, E, w, .inl h1, h2, Walk.refl X.st⟩
theorem Good.skip {w' : World} (h1 : (execOp a.eval o).run C.P w = .ok .skip w') (h2 : Walk (nm <+: ·) E (hget h) (· ∈ live) w E (hget h') (· ∈ live') w') : Good C nm o a E h live w (.tup []) h' live' :=
  ⟨undef, E, w', .inr ⟨h1, rfl⟩, .tup rfl (by simp), h2⟩
theorem isTup_false {x : T} (h : ¬ isTup x = true) : isTup x = false := by simpa using h

theorem snd_binOp (hC : ∀ t ∈ C.pts, PtrT C.P t) (X : Ctx C E h live w fr a nm) {op : BinOp} {xt yt : TypeId} {p q : Operand} (ho : o.op = .binOp op xt p q yt) (hr : resBin C op xt p q = some r) (hx : evR C call fr nm h live r = some (x, h', live')) : Good C nm o a E h live w x h' live' := by
  unfold resBin at hr
  obtain ⟨p', hp, hr⟩ := Option.bind_eq_some_iff.1 hr
  obtain ⟨q', hq, hr⟩ := Option.bind_eq_some_iff.1 hr
  have fin : ∀ {v : Value}, (do eqGuard op xt p q (a.eval p) (a.eval q); binOp op xt (a.eval p) (a.eval q) : Sem Value).run C.P w = .ok v w → (execOp a.eval o).run C.P w = .ok (.value v) w := fun hh => by
    unfold execOp
    rw [ho]
    exact run_v hh
  cases hu : C.P.underlying xt with
  | none => simp [hu] at hr
  | some ds =>
    cases ds with
    | int k =>
      simp [hu] at hr; subst hr
      obtain ⟨u, hu1, hx⟩ := Option.bind_eq_some_iff.1 hx
      obtain ⟨v, hv1, hx⟩ := Option.bind_eq_some_iff.1 hx
      split at hx
      · cases hx
      · rename_i hb
        obtain ⟨z, hz, e⟩ := Option.map_eq_some_iff.1 hx
        cases e
        obtain ⟨r, h1, h2⟩ := tbin_sound (x := p) (y := q) (t := xt) (.inr (by
          rintro ⟨b1, b2, e1, e2⟩
          have := X.eO hp hu1
          rw [e1] at this
          cases this
          simp [isB] at hb)) hz (X.eO hp hu1) (X.eO hq hv1)
        exact .pure X (fin h1) h2
    | string =>
      simp [hu] at hr; subst hr
      obtain ⟨u, hu1, hx⟩ := Option.bind_eq_some_iff.1 hx
      obtain ⟨v, hv1, hx⟩ := Option.bind_eq_some_iff.1 hx
      split at hx
      · cases hx
      · rename_i hb
        obtain ⟨z, hz, e⟩ := Option.map_eq_some_iff.1 hx
        cases e
        obtain ⟨r, h1, h2⟩ := tbin_sound (x := p) (y := q) (t := xt) (.inr (by
          rintro ⟨b1, b2, e1, e2⟩
          have := X.eO hp hu1
          rw [e1] at this
          cases this
          simp [isB] at hb)) hz (X.eO hp hu1) (X.eO hq hv1)
        exact .pure X (fin h1) h2
    | bool =>
      simp [hu] at hr; subst hr
      obtain ⟨u, hu1, hx⟩ := Option.bind_eq_some_iff.1 hx
      obtain ⟨v, hv1, hx⟩ := Option.bind_eq_some_iff.1 hx
      obtain ⟨z, hz, e⟩ := Option.map_eq_some_iff.1 hx
      cases e
      obtain ⟨r, h1, h2⟩ := tbin_sound (x := p) (y := q) (t := xt) (.inl hu) hz (X.eO hp hu1) (X.eO hq hv1)
      exact .pure X (fin h1) h2
    | pointer e =>
      simp only [hu] at hr
      have key : ∀ neg, op = eqOp neg → (szOf C.P e).getD 0 ≠ 0 → r = .eqP neg p' q' → Good C nm o a E h live w x h' live' := by
        rintro neg rfl hsz rfl
        obtain ⟨u, hu1, hx⟩ := Option.bind_eq_some_iff.1 hx
        obtain ⟨v, hv1, hx⟩ := Option.bind_eq_some_iff.1 hx
        obtain ⟨b, hb, e2⟩ := Option.map_eq_some_iff.1 hx
        cases e2
        unfold szOf at hsz
        cases hi : C.P.info? e with
        | none => simp [hi] at hsz
        | some j =>
          have hz : j.size ≠ 0 := by simpa [hi] using hsz
          exact .pure X (fin (eqP_sound X.st hu hi hz hb (X.eO hp hu1) (X.eO hq hv1))) (.v rfl)
      cases op <;> simp at hr
      · exact key false rfl (by simpa using hr.1) hr.2.symm
      · exact key true rfl (by simpa using hr.1) hr.2.symm
    | interface ms =>
      simp only [hu] at hr
      have key : ∀ neg, op = eqOp neg → r = .eqI neg (isConstO p || isConstO q || ms.isEmpty) p' q' → Good C nm o a E h live w x h' live' := by
        rintro neg rfl rfl
        obtain ⟨u, hu1, hx⟩ := Option.bind_eq_some_iff.1 hx
        obtain ⟨v, hv1, hx⟩ := Option.bind_eq_some_iff.1 hx
        obtain ⟨b, hb, e2⟩ := Option.map_eq_some_iff.1 hx
        cases e2
        refine .pure X (fin (eqI_sound X.st hu (fun hn => ?_) hC hb (X.eO hp hu1) (X.eO hq hv1))) (.v rfl)
        have hcc : ∀ z : Operand, isConstO z = true → (z matches .const _) = true := fun z hz => by cases z <;> simp_all [isConstO]
        simp only [Bool.or_eq_true] at hn ⊢
        rcases hn with (hn | hn) | hn
        · exact .inl (.inl (hcc p hn))
        · exact .inl (.inr (hcc q hn))
        · exact .inr hn
      cases op <;> simp only at hr <;> try (cases hr; done)
      · cases hr; exact key false rfl rfl
      · cases hr; exact key true rfl rfl
    | struct fs =>
      simp only [hu] at hr
      split at hr
      · cases hr
      · rename_i hg
        have key : ∀ neg ks, op = eqOp neg → kindsT C.P xt = some ks → r = .eqA neg ks p' q' → Good C nm o a E h live w x h' live' := by
          rintro neg ks rfl hk rfl
          obtain ⟨u, hu1, hx⟩ := Option.bind_eq_some_iff.1 hx
          obtain ⟨v, hv1, hx⟩ := Option.bind_eq_some_iff.1 hx
          split at hx
          · split at hx
            · rename_i hl
              obtain ⟨b, hb, e2⟩ := Option.map_eq_some_iff.1 hx
              cases e2
              exact .pure X (fin (eqA_sound (d := 100) (by omega) hk (by simpa using hg) (by rw [hu]) hl.1 hl.2 hb (X.eO hp hu1) (X.eO hq hv1))) (.v rfl)
            · cases hx
          · cases hx
        cases op <;> simp only at hr <;> try (cases hr; done)
        · obtain ⟨ks, hk, e⟩ := Option.map_eq_some_iff.1 hr; exact key false ks rfl hk e.symm
        · obtain ⟨ks, hk, e⟩ := Option.map_eq_some_iff.1 hr; exact key true ks rfl hk e.symm
    | array n e =>
      simp only [hu] at hr
      split at hr
      · cases hr
      · rename_i hg
        have key : ∀ neg ks, op = eqOp neg → kindsT C.P xt = some ks → r = .eqA neg ks p' q' → Good C nm o a E h live w x h' live' := by
          rintro neg ks rfl hk rfl
          obtain ⟨u, hu1, hx⟩ := Option.bind_eq_some_iff.1 hx
          obtain ⟨v, hv1, hx⟩ := Option.bind_eq_some_iff.1 hx
          split at hx
          · split at hx
            · rename_i hl
              obtain ⟨b, hb, e2⟩ := Option.map_eq_some_iff.1 hx
              cases e2
              exact .pure X (fin (eqA_sound (d := 100) (by omega) hk (by simpa using hg) (by rw [hu]) hl.1 hl.2 hb (X.eO hp hu1) (X.eO hq hv1))) (.v rfl)
            · cases hx
          · cases hx
        cases op <;> simp only at hr <;> try (cases hr; done)
        · obtain ⟨ks, hk, e⟩ := Option.map_eq_some_iff.1 hr; exact key false ks rfl hk e.symm
        · obtain ⟨ks, hk, e⟩ := Option.map_eq_some_iff.1 hr; exact key true ks rfl hk e.symm
    | slice e =>
      simp only [hu] at hr
      split at hr
      · rename_i hq0
        have hq1 : q = .const (.slice none 0 0) := by have := nilConst_ok hq0; simpa using this
        have key : ∀ neg, op = eqOp neg → r = .isn neg 0 p' → Good C nm o a E h live w x h' live' := by
          rintro neg rfl rfl
          obtain ⟨u, hu1, hx⟩ := Option.bind_eq_some_iff.1 hx
          obtain ⟨b, hb, e2⟩ := Option.map_eq_some_iff.1 hx
          cases e2
          have hrel := X.eO hp hu1
          have hsh : ∃ aa l c, a.eval p = .slice aa l c := by
            generalize a.eval p = z at hrel
            cases hrel <;> simp [tnilK] at hb <;> exact ⟨_, _, _, rfl⟩
          have hb' : tnil u = some b := by
            cases u <;> simp only [tnilK] at hb <;> try (cases hb; done)
            all_goals first | exact hb | (split at hb <;> simp_all)
          refine .pure X (fin (nil_sound hu rfl (.inl ⟨e, rfl, ?_⟩) (.inl ⟨e, rfl, hsh⟩) hb' hrel)) (.v rfl)
          rw [hq1]; rfl
        cases op <;> simp only at hr <;> try (cases hr; done)
        · cases hr; exact key false rfl rfl
        · cases hr; exact key true rfl rfl
      · cases hr
    | map kt e =>
      simp only [hu] at hr
      split at hr
      · rename_i hq0
        have hq1 : q = .const (.map none) := by have := nilConst_ok hq0; simpa using this
        have key : ∀ neg, op = eqOp neg → r = .isn neg 1 p' → Good C nm o a E h live w x h' live' := by
          rintro neg rfl rfl
          obtain ⟨u, hu1, hx⟩ := Option.bind_eq_some_iff.1 hx
          obtain ⟨b, hb, e2⟩ := Option.map_eq_some_iff.1 hx
          cases e2
          have hrel := X.eO hp hu1
          have hsh : (∃ z, a.eval p = .map z) ∧ tnil u = some b := by
            generalize a.eval p = z at hrel
            unfold tnilK at hb
            split at hb <;> first | (rename_i hk _; cases hk; done) | (cases hb; cases hrel; exact ⟨⟨_, rfl⟩, rfl⟩) | cases hb | (rename_i hk; cases hk; done) | skip
            all_goals (exfalso; omega)
          refine .pure X (fin (nil_sound hu rfl (.inr (.inl ⟨kt, e, rfl, ?_⟩)) (.inr (.inl ⟨kt, e, rfl, hsh.1⟩)) hsh.2 hrel)) (.v rfl)
          rw [hq1]; rfl
        cases op <;> simp only at hr <;> try (cases hr; done)
        · cases hr; exact key false rfl rfl
        · cases hr; exact key true rfl rfl
      · cases hr
    | func f1 f2 f3 =>
      simp only [hu] at hr
      split at hr
      · rename_i hq0
        have hq1 : q = .const .nilFunc := by have := nilConst_ok hq0; simpa using this
        have key : ∀ neg, op = eqOp neg → r = .isn neg 2 p' → Good C nm o a E h live w x h' live' := by
          rintro neg rfl rfl
          obtain ⟨u, hu1, hx⟩ := Option.bind_eq_some_iff.1 hx
          obtain ⟨b, hb, e2⟩ := Option.map_eq_some_iff.1 hx
          cases e2
          have hrel := X.eO hp hu1
          have hsh : (a.eval p = .nilFunc ∨ ∃ z1 z2 z3, a.eval p = .func z1 z2 z3) ∧ tnil u = some b := by
            generalize a.eval p = z at hrel
            unfold tnilK at hb
            split at hb <;> first | (cases hb; cases hrel; first | exact ⟨.inl rfl, rfl⟩ | exact ⟨.inr ⟨_, _, _, rfl⟩, rfl⟩) | cases hb | skip
            all_goals (exfalso; omega)
          refine .pure X (fin (nil_sound hu rfl (.inr (.inr ⟨f1, f2, f3, rfl, ?_⟩)) (.inr (.inr ⟨f1, f2, f3, rfl, hsh.1⟩)) hsh.2 hrel)) (.v rfl)
          rw [hq1]; rfl
        cases op <;> simp only at hr <;> try (cases hr; done)
        · cases hr; exact key false rfl rfl
        · cases hr; exact key true rfl rfl
      · cases hr
    | _ => simp [hu] at hr
end
end Go.AE
