import Derived.Test.YtohbipkmfhmibaaGreatDoorAE17
/-! AE18: calls. -/
set_option linter.unusedVariables false
set_option linter.unusedSimpArgs false
namespace Go.AE
open Go.RowKit Go.LB

def Enterable (P : Program) (f : FuncId) : Prop := ∃ fn, P.funcs[f]? = some fn ∧ (fn.name == "runtime.NumGoroutine") = false ∧ fn.body.isNone = false
theorem run_callFunc {P : Program} {f : FuncId} (h : Enterable P f) (args : Array Value) (w : World) : (callFunc f args).run P w = .ok (.enter f args) w := by
  obtain ⟨fn, h1, h2, h3⟩ := h
  have h2' : fn.name ≠ "runtime.NumGoroutine" := by simpa using h2
  have h3' : fn.body ≠ none := fun e => by simp [e] at h3
  simp [callFunc, h1, h2', h3']

/-- What a call comes to. -/
def CallPost (E : Env) (h : Heap) (w : World) (nm : Name) (r : T) (h' : Heap) : Ending → World → Prop := fun e w' =>
  ∃ v E', e = .returned v ∧ Rel E' w' r v ∧ Walk (nm <+: ·) E (hget h) (fun _ => False) w E' (hget h') (· ∈ toks r) w' ∧ HU h'
/-- The state in which a call begins. -/
structure CallPre (C : Cfg) (E : Env) (h : Heap) (w : World) (nm : Name) : Prop where
  hu : HU h
  st : St E (hget h) (fun _ => False) w
  laid : LaidOk C.laid E w
  nρ : ∀ n, E.ρ n ≠ none → ¬ nm <+: n
  nτ : ∀ n, E.τ n ≠ none → ¬ nm <+: n
def CallSnd (C : Cfg) (call : FuncId → Name → List T → Heap → Option (T × Heap)) : Prop :=
  ∀ f nm args r h h', call f nm args h = some (r, h') → Enterable C.P f ∧ ∀ E w (vs : Array Value), CallPre C E h w nm → RelL E w args vs.toList → Calls C.P f vs w (CallPost E h w nm r h')
def OraSnd (C : Cfg) : Prop :=
  ∀ f g, C.ora f = some g → ∀ nm args r, g nm args = some r → Enterable C.P f ∧ ∀ E w (vs : Array Value), CallPre C E [] w nm → RelL E w args vs.toList → Calls C.P f vs w (CallPost E [] w nm r [])
structure COk (C : Cfg) : Prop where
  pts : ∀ t ∈ C.pts, PtrT C.P t
  ora : OraSnd C

section
variable {C : Cfg} {E : Env} {h h' : Heap} {live live' : List Name} {w : World} {fr : Fr} {a : Act} {nm : Name} {o : Oper} {r : R} {x : T} {call : FuncId → Name → List T → Heap → Option (T × Heap)}

theorem LaidOk.ext {laid : Nat → Option (List T)} {M : Nat → Prop} {E E' : Env} {w w' : World} (hl : LaidOk laid E w) (X : Ext M E E' w w') : LaidOk laid E' w' := fun g cs hg => (hl g cs hg).ext X

theorem eCall_sound (hC : COk C) (hcall : CallSnd C call) (X : Ctx C E h live w fr a nm) (hu : HU h) {f : FuncId} {xs : List T} {vs : Array Value} (hxs : RelL E w xs vs.toList) (hx : eCall C call nm f xs h live = some (x, h', live')) :
    Enterable C.P f ∧ Calls C.P f vs w (fun e w' => ∃ v E', e = .returned v ∧ Rel E' w' x v ∧ Walk (nm <+: ·) E (hget h) (· ∈ live) w E' (hget h') (· ∈ live') w' ∧ HU h') := by
  have free : ∀ (r : T) (h2 : Heap) (e : Ending) (w' : World), CallPost E [] w nm r h2 e w' → ∃ v E', e = .returned v ∧ Rel E' w' r v ∧ Walk (nm <+: ·) E (hget h) (· ∈ live) w E' (hget h) (· ∈ toksU nm r ++ live) w' ∧ HU h := by
    rintro r h2 e w' ⟨v, E', rfl, hr, hw, _⟩
    have W0 := hw.less (G'' := fun _ => none) (fun _ _ e => by cases e) (fun n hn => hn)
    have W1 := W0.frame (G := hget h) (L := (· ∈ live)) (G2 := hget h) (L2 := (· ∈ live)) X.st (fun n x e => by simp [hget] at e) (fun _ e => e.elim) (fun n x e => ⟨e, rfl⟩) (fun n hn => ⟨hn, id⟩) X.nl
    exact ⟨v, E', rfl, hr, W1.less (fun n x e => by simpa using e) (fun n hn => by
      rcases List.mem_append.1 hn with h | h
      · exact .inl (List.mem_filter.1 h).1
      · exact .inr h), hu⟩
  have pre0 : CallPre C E [] w nm := ⟨trivial, X.st.sub (fun n x e => by simp [hget] at e) (fun _ e => e.elim), X.laid, X.nρ, X.nτ⟩
  unfold eCall at hx
  split at hx
  · rename_i g hg
    obtain ⟨r, hr, e⟩ := Option.map_eq_some_iff.1 hx
    cases e
    obtain ⟨h1, h2⟩ := hC.ora f g hg nm xs _ hr
    exact ⟨h1, (h2 E w vs pre0 hxs).mono (free _ _)⟩
  · split at hx
    · obtain ⟨⟨r, h2⟩, hr, e⟩ := Option.map_eq_some_iff.1 hx
      cases e
      obtain ⟨q1, q2⟩ := hcall f nm xs _ _ _ hr
      exact ⟨q1, (q2 E w vs pre0 hxs).mono (free _ _)⟩
    · obtain ⟨s, hs, hx⟩ := Option.bind_eq_some_iff.1 hx
      obtain ⟨⟨r, h2⟩, hr, e⟩ := Option.bind_eq_some_iff.1 hx
      obtain ⟨h3, hm, e⟩ := Option.map_eq_some_iff.1 e
      cases e
      obtain ⟨q1, q2⟩ := hcall f nm xs _ _ _ hr
      have hsub : ∀ n x, hget (subH h s) n = some x → hget h n = some x := fun n x e => by
        rw [hget_subH] at e
        split at e
        · exact e
        · cases e
      refine ⟨q1, (q2 E w vs ⟨HU_subH, X.st.sub hsub (fun _ e => e.elim), X.laid, X.nρ, X.nτ⟩ hxs).mono ?_⟩
      rintro e w' ⟨v, E', rfl, hr, hw, hu'⟩
      have W0 := hw.less (G'' := fun n => if n ∈ s ∨ (hget h n = none ∧ nm.isPrefixOf n = true) then hget h2 n else none) (fun n x e => by split at e; exact e; cases e) (fun n hn => hn)
      have W1 := W0.frame (G := hget h) (L := (· ∈ live)) (G2 := fun n => if n ∈ s then none else hget h n) (L2 := (· ∈ live)) X.st hsub (fun _ e => e.elim) (fun n x e => by
        split at e
        · cases e
        · rename_i hn; exact ⟨e, by rw [hget_subH, if_neg hn]⟩) (fun n hn => ⟨hn, id⟩) X.nl
      refine ⟨v, E', rfl, hr, W1.less (fun n x e => ?_) (fun n hn => ?_), HU_merge hm hu⟩
      · rw [hget_merge hm (reach_some hs)] at e
        by_cases h1 : n ∈ s
        · simp [h1] at e ⊢; exact e
        · rw [if_neg h1] at e
          cases h2' : hget h n with
          | some y => simp [h1, h2'] at e ⊢; exact e
          | none =>
            simp [h2'] at e
            simp [h1, h2', e]
      · rcases List.mem_append.1 hn with h | h
        · exact .inl (List.mem_filter.1 h).1
        · exact .inr h

theorem RelL.strip {xs : List T} {us : List Value} (hr : RelL E w xs us) : RelL E w (xs.map AE.strip) us := by
  refine ⟨by simpa using hr.1, fun i x u hx hu => ?_⟩
  rw [List.getElem?_map] at hx
  obtain ⟨y, hy, rfl⟩ := Option.map_eq_some_iff.1 hx
  exact rel_strip (hr.2 i y u hy hu)

def nocall (x : Option R) : Prop := ∀ r, x = some r → isCall r = false
theorem nocall_none : nocall none := fun _ h => by cases h
theorem nocall_some {r : R} (h : isCall r = false) : nocall (some r) := fun _ e => by cases e; exact h
theorem nocall_bind {α : Type} {x : Option α} {f : α → Option R} (h : ∀ a, nocall (f a)) : nocall (x.bind f) := fun r e => by
  obtain ⟨a, _, h2⟩ := Option.bind_eq_some_iff.1 e; exact h a r h2
theorem nocall_map {α : Type} {x : Option α} {f : α → R} (h : ∀ a, isCall (f a) = false) : nocall (x.map f) := fun r e => by
  obtain ⟨a, _, rfl⟩ := Option.map_eq_some_iff.1 e; exact h a
theorem nocall_builtin (b : Builtin) (args : Array Operand) (tys : Array TypeId) : nocall (resCall C { callee := .builtin b, args := args, argTypes := tys }) := by
  unfold resCall
  cases b <;> simp only <;> repeat' (first | exact nocall_none | exact nocall_some rfl | (refine nocall_map (fun _ => ?_); rfl) | (refine nocall_bind (fun _ => ?_)) | split)
theorem res_call (hr : res C o = some r) (hn : isCall r = true) : ∃ c, o.op = .call c ∧ resCall C c = some r := by
  unfold res at hr
  cases ho : o.op <;> rw [ho] at hr <;> simp only at hr
  case call c => exact ⟨c, rfl, hr⟩
  case makeMap t q => cases q <;> simp only at hr <;> cases hr; simp [isCall] at hn
  all_goals (refine absurd ((?_ : nocall _) _ hr) (by simp [hn]))
  all_goals (try unfold resBin resConv resSlice)
  all_goals (try unfold resBin)
  all_goals (try unfold resConv)
  all_goals (try unfold resSlice)
  all_goals (repeat' (first | exact nocall_none | exact nocall_some rfl | (refine nocall_map (fun _ => ?_); rfl) | (refine nocall_bind (fun _ => ?_)) | split))
/-- One operation. -/
theorem snd_op (hC : COk C) (hcall : CallSnd C call) (X : Ctx C E h live w fr a nm) (hU0 : HU h) (hr : res C o = some r) (hx : evR C call fr nm h live r = some (x, h', live')) {K : Act → World → Prop} {Q : Exit → Act → World → Prop}
    (hK : ∀ v E' w', Rel E' w' x v → Walk (nm <+: ·) E (hget h) (· ∈ live) w E' (hget h') (· ∈ live') w' → HU h' → K (a.put o.dst v) w') : o.wp C.P a w K Q := by
  cases hnc : isCall r with
  | false =>
    obtain ⟨v, E', w', h1, h2, h3⟩ := snd_simple hC.pts X hr hnc hx
    have hu' : HU h' := by
      have he : evR C call fr nm h live r = evR C (fun _ _ _ _ => none) fr nm h live r := by cases r <;> first | rfl | simp [isCall] at hnc
      have hs : HStep nm (fun _ _ _ _ => none) h (x, h', live').2.1 := evR_heap (C := C) (r := r) _ (he ▸ hx)
      have key : ∀ z, HStep nm (fun _ _ _ _ => none) h z → HU z := by
        intro z hz
        cases hz with
        | same => exact hU0
        | set n b => exact HU_hset hU0
        | new b => exact HU_hnew hU0 (X.st.fresh X.ρ0)
        | hu hh => exact hh hU0
      exact key _ hs
    unfold Oper.wp
    rcases h1 with h1 | ⟨h1, rfl⟩
    · rw [h1, Oper.upon_value]; exact hK v E' w' h2 h3 hu'
    · rw [h1, Oper.upon_skip]; exact hK _ E' w' h2 h3 hu'
  | true =>
    have fin : ∀ f (vs : Array Value), (execOp a.eval o).run C.P w = (callFunc f vs).run C.P w → (Enterable C.P f ∧ Calls C.P f vs w (fun e w' => ∃ v E', e = .returned v ∧ Rel E' w' x v ∧ Walk (nm <+: ·) E (hget h) (· ∈ live) w E' (hget h') (· ∈ live') w' ∧ HU h')) → o.wp C.P a w K Q := by
      rintro f vs he ⟨h1, h2⟩
      unfold Oper.wp
      rw [he, run_callFunc h1, Oper.upon_enter]
      refine h2.mono ?_
      rintro e w' ⟨v, E', rfl, q1, q2, q3⟩
      exact hK v E' w' q1 q2 q3
    obtain ⟨c, ho, hr⟩ := res_call hr hnc
    obtain ⟨callee, args, tys⟩ := c
    unfold resCall at hr
    cases callee with
    | builtin b => exact absurd (nocall_builtin b args tys r hr) (by simp [hnc])
    | invoke a b => simp at hr
    | value g =>
      have hex : ∀ fv first cap, a.eval g = .func (.func fv) first cap → (execOp a.eval o).run C.P w = (callFunc fv (first ++ args.map a.eval ++ cap)).run C.P w := by
        intro fv first cap hg
        unfold execOp
        rw [ho]
        simp [resolve, Deferred.ofValue, hg, invoke]
      have dyn : ∀ (g' : O) (ys : List O), resO C.laid g = some g' → resArgs C args = some ys → r = .callv g' ys → o.wp C.P a w K Q := by
        rintro g' ys hg hys rfl
        obtain ⟨u, hu, hx⟩ := Option.bind_eq_some_iff.1 hx
        obtain ⟨us, hus, hx⟩ := Option.bind_eq_some_iff.1 hx
        have hrel := X.eO hg hu
        split at hx
        case h_2 => cases hx
        rename_i f first cap _
        generalize hq : a.eval g = z at hrel
        cases hrel with
        | fn q1 q2 q3 q4 =>
          rename_i fv cv
          have r1 : RelL E w first fv.toList := ⟨by simpa using q1, fun i x u hx hu => q3 i x u hx (by simpa using hu)⟩
          have r2 : RelL E w cap cv.toList := ⟨by simpa using q2, fun i x u hx hu => q4 i x u hx (by simpa using hu)⟩
          have r3 := X.eOs hys hus
          exact fin f _ (hex f fv cv hq) (eCall_sound hC hcall X hU0 (by simpa using ((r1.append r3).append r2).strip) hx)
      cases g with
      | func f =>
        obtain ⟨ys, hys, rfl⟩ := Option.map_eq_some_iff.1 hr
        obtain ⟨us, hus, hx⟩ := Option.bind_eq_some_iff.1 hx
        exact fin f _ (hex f #[] #[] rfl) (eCall_sound hC hcall X hU0 (by simpa using (X.eOs hys hus).strip) hx)
      | tmp t =>
        obtain ⟨g', hg, hr⟩ := Option.bind_eq_some_iff.1 hr
        obtain ⟨ys, hys, rfl⟩ := Option.map_eq_some_iff.1 hr
        exact dyn g' ys hg hys rfl
      | const v =>
        obtain ⟨g', hg, hr⟩ := Option.bind_eq_some_iff.1 hr
        obtain ⟨ys, hys, rfl⟩ := Option.map_eq_some_iff.1 hr
        exact dyn g' ys hg hys rfl
      | global n =>
        obtain ⟨g', hg, hr⟩ := Option.bind_eq_some_iff.1 hr
        obtain ⟨ys, hys, rfl⟩ := Option.map_eq_some_iff.1 hr
        exact dyn g' ys hg hys rfl
end
end Go.AE

/-! AE18b: what an operation reads and touches. -/
set_option linter.unusedVariables false
set_option linter.unusedSimpArgs false
namespace Go.AE
open Go.RowKit Go.LB

def rO : O → List Nat
  | .t n => [n]
  | .c _ => []
def rOs (l : List O) : List Nat := l.flatMap rO
def rOo : Option O → List Nat
  | none => []
  | some x => rO x
/-- The slots that it reads. -/
def rds : R → List Nat
  | .mv x | .box x | .load _ x | .nilc x | .isn _ _ x | .un _ x | .cint _ x | .cid x | .cstr x | .cbytes x | .ifc _ x | .fa _ x | .fd _ _ x | .asrt _ _ _ x | .ext x _ | .len _ x => rO x
  | .pick c a b => rO c ++ (rO a ++ rO b)
  | .build _ ps => ps.flatMap fun p => rO p.2.2
  | .bsl _ _ _ ps => ps.flatMap fun p => rO p.2
  | .store _ a b | .bin _ a b | .binB _ a b | .eqA _ _ a b | .eqP _ a b | .eqI _ _ a b | .mksl _ _ _ a b | .iaA _ _ a b | .iaS _ a b | .ixV _ _ _ a b | .ixS a b | .look _ _ _ _ a b | .ment _ _ _ a b | .mdel _ _ a b | .app _ _ a b | .apps _ a b | .copy _ a b => rO a ++ rO b
  | .fn _ a b => rOs a ++ rOs b
  | .mkmap | .bad => []
  | .slStr x lo hi => rO x ++ (rOo lo ++ rOo hi)
  | .slX _ x lo hi mx | .slA _ _ x lo hi mx => rO x ++ (rOo lo ++ (rOo hi ++ rOo mx))
  | .mset _ _ a b c | .mst a b c => rO a ++ (rO b ++ rO c)
  | .mm _ xs => rOs xs
  | .call _ xs => rOs xs
  | .callv g xs => rO g ++ rOs xs
/-- The heap: 0 not touched, 1 read, 2 a block of its own, 3 anything. -/
def hcl (C : Cfg) : R → Nat
  | .load _ (.c (.ro _ _)) => 0
  | .load _ _ | .cstr _ | .look .. | .app .. => 1
  | .len .map _ => 1
  | .box _ | .mkmap => 2
  | .store .. | .mset .. | .ment .. | .mst .. | .mdel .. | .copy .. | .mksl .. | .callv .. => 3
  | .call f _ => if (C.ora f).isSome || C.mode f == 0 then 0 else 3
  | _ => 0
/-- The tokens: 0 not touched, 2 some laid, 3 taken. -/
def tcl : R → Nat
  | .bsl .. | .call .. | .callv .. | .mksl .. => 2
  | .app .. | .apps .. => 3
  | _ => 0
def nP : Option T → List Name
  | some (.ptr m _) => [m]
  | _ => []
def nM : Option T → List Name
  | some (.map m) => [m]
  | _ => []
def nS : Option T → List Name
  | some (.msl m _ _) => [m]
  | _ => []
/-- The blocks that it touches. -/
def fpn (C : Cfg) (fr : Fr) (h : Heap) : R → List Name
  | .load _ a | .store _ a _ => nP (eO fr a)
  | .cstr x | .copy _ x _ => nS (eO fr x)
  | .app _ _ _ y => nS (eO fr y)
  | .len .map x | .look _ _ _ _ x _ | .mset _ _ x _ _ | .ment _ _ _ x _ | .mst x _ _ | .mdel _ _ x _ => nM (eO fr x)
  | .call f xs => if (C.ora f).isSome || C.mode f == 0 then [] else match eOs fr xs with | some ys => (reach h (ys.map strip)).getD [] | none => []
  | .callv g xs => match eO fr g, eOs fr xs with
    | some (.fn (.func f) a b), some ys => if (C.ora f).isSome || C.mode f == 0 then [] else (reach h ((a ++ ys ++ b).map strip)).getD []
    | _, _ => []
  | _ => []
/-- The tokens that it takes. -/
def fpc (fr : Fr) : R → List Name
  | .app _ _ x _ | .apps _ x _ => match eO fr x with | some (.sl _ (.own n _)) => [n] | _ => []
  | _ => []
end Go.AE
