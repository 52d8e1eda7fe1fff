import Derived.Test.YtohbipkmfhmibaaGreatDoorAE18
/-! AE19: regions in their own order; code. -/
set_option linter.unusedVariables false
set_option linter.unusedSimpArgs false
namespace Go.AE
open Go.RowKit Go.LB

structure ROp where
  d : Option Nat
  g : Option (Nat × Bool)
  r : R
  deriving Inhabited
inductive RC where
  | skip
  | seq (a b : RC)
  | cond (c : O) (t e : RC)
  | block (id : Nat) (b : RC)
  | loop (keep out : List Nat) (b : RC)
  | exit (id : Nat)
  | ret
  | reg (prs : List (Nat × Nat)) (ops : List ROp)
  deriving Inhabited
inductive X where
  | norm
  | exit (id : Nat)
  | ret
  deriving DecidableEq, Inhabited
def X.ex : X → Exit
  | .norm => .normal
  | .exit id => .exit id
  | .ret => .ret
structure F where
  fr : Fr
  h : Heap
  L : List Name
  k : Nat
  deriving Inhabited

def put (fr : Fr) (d : Option Nat) (x : T) : Fr :=
  match d with
  | none => fr
  | some d => fset fr d x
def gd (fr : Fr) : Option (Nat × Bool) → Option Bool
  | none => some true
  | some (t, b) => (fget fr t).map fun x => match x with | .v (.bool c) => c == b | _ => false
def evSeq (C : Cfg) (call : FuncId → Name → List T → Heap → Option (T × Heap)) (p : Name) : List ROp → Nat → Fr → Heap → List Name → Option (Fr × Heap × List Name)
  | [], _, fr, h, L => some (fr, h, L)
  | o :: l, i, fr, h, L =>
    match gd fr o.g with
    | none => none
    | some true => (evR C call fr (p ++ [i]) h L o.r).bind fun q => evSeq C call p l (i + 1) (put fr o.d q.1) q.2.1 q.2.2
    | some false => evSeq C call p l (i + 1) (put fr o.d (.tup [])) h L
/-- The same, with what the operations named by 'mk' touch. -/
def evSeqD (C : Cfg) (call : FuncId → Name → List T → Heap → Option (T × Heap)) (p : Name) (mk : Nat → Bool) : List ROp → Nat → Fr → Heap → List Name → List (Nat × List Name) → Option ((Fr × Heap × List Name) × List (Nat × List Name))
  | [], _, fr, h, L, acc => some ((fr, h, L), acc)
  | o :: l, i, fr, h, L, acc =>
    match gd fr o.g with
    | none => none
    | some true => (evR C call fr (p ++ [i]) h L o.r).bind fun q => evSeqD C call p mk l (i + 1) (put fr o.d q.1) q.2.1 q.2.2 (if mk i then (i, fpn C fr h o.r) :: acc else acc)
    | some false => evSeqD C call p mk l (i + 1) (put fr o.d (.tup [])) h L acc
def nlook (l : List (Nat × List Name)) (i : Nat) : List Name := match l.find? (fun x => x.1 == i) with | some x => x.2 | none => []
def wrR (C : Cfg) (ops : List ROp) (i : Nat) : Nat := match ops[i]? with | some q => hcl C q.r | none => 0
/-- A look for a key, and the same key's entry. -/
def lmB (a b : Option ROp) : Bool := match a, b with
  | some ⟨_, none, .look row ks (.v (.int k1 n1)) false (.t m) (.t k)⟩, some ⟨_, none, .ment row' ks' (.v (.int k2 n2)) (.t m') (.t k')⟩ => row == row' && decide (ks = ks') && decide (k1 = k2) && decide (n1 = n2) && m == m' && k == k'
  | _, _ => false
def dynB (C : Cfg) (p : Name) (ops : List ROp) (acc : List (Nat × List Name)) (x : Nat × Nat) : Bool :=
  ((wrR C ops x.1 != 3 && wrR C ops x.2 != 3) || (nlook acc x.1).all (fun n => !(nlook acc x.2).contains n) || lmB ops[x.1]? ops[x.2]?) && (Nat.ble (wrR C ops x.1) 1 || (nlook acc x.2).all (fun n => !(p ++ [x.1]).isPrefixOf n))
/-- A region: 'prs' are the pairs of operations that may swap if what they touch says so. -/
def evReg (C : Cfg) (call : FuncId → Name → List T → Heap → Option (T × Heap)) (p : Name) (prs : List (Nat × Nat)) (ops : List ROp) (fr : Fr) (h : Heap) (L : List Name) : Option (Fr × Heap × List Name) :=
  match prs with
  | [] => evSeq C call p ops 0 fr h L
  | _ => (evSeqD C call p (fun i => prs.any fun x => x.1 == i || x.2 == i) ops 0 fr h L []).bind fun r => if prs.all (dynB C p ops r.2) then some r.1 else none
/-- Rounds. 'g': one round. -/
def keepF : List Nat → Fr → Fr
  | [], _ => []
  | t :: l, fr => match fget fr t with
    | some x => (t, x) :: keepF l fr
    | none => keepF l fr
def iter (g : Nat → F → Option (X × F)) (keep out : List Nat) : Nat → Nat → F → Option (X × F)
  | 0, _, _ => none
  | n + 1, r, f =>
    match g r ⟨f.fr, [] :: f.h, f.L, 0⟩ with
    | none => none
    | some (.norm, f') => iter g keep out n (r + 1) ⟨keepF keep f'.fr, f'.h.tail, f'.L, 0⟩
    | some (x, f') => some (x, ⟨keepF out f'.fr, f'.h.tail, f'.L, 0⟩)
def evC (C : Cfg) (call : FuncId → Name → List T → Heap → Option (T × Heap)) : Name → Nat → RC → F → Option (X × F)
  | _, _, .skip, f => some (.norm, f)
  | p, fuel, .seq a b, f =>
    match evC C call p fuel a f with
    | some (.norm, f') => evC C call p fuel b f'
    | r => r
  | p, fuel, .cond c t e, f =>
    match eO f.fr c with
    | some (.v (.bool b)) => if b then evC C call p fuel t f else evC C call p fuel e f
    | _ => none
  | p, fuel, .block id b, f =>
    match evC C call p fuel b f with
    | some (.exit j, f') => if j = id then some (.norm, f') else some (.exit j, f')
    | r => r
  | p, fuel, .loop keep out b, f => (iter (fun r g => evC C call ((p ++ [f.k]) ++ [r]) fuel b g) keep out fuel 0 ⟨keepF keep f.fr, f.h, f.L, 0⟩).map fun q => (q.1, { q.2 with k := f.k + 1 })
  | _, _, .exit id, f => some (.exit id, f)
  | _, _, .ret, f => some (.ret, f)
  | p, _, .reg prs ops, f => (evReg C call (p ++ [f.k]) prs ops f.fr f.h f.L).map fun q => (.norm, { fr := q.1, h := q.2.1, L := q.2.2, k := f.k + 1 })

/-- An operation of a region, resolved. -/
def resB (C : Cfg) (o : Oper) : R := (res C o).getD .bad
theorem resB_ok {C : Cfg} {call : FuncId → Name → List T → Heap → Option (T × Heap)} {fr : Fr} {nm : Name} {h : Heap} {L : List Name} {o : Oper} {q : T × Heap × List Name} (e : evR C call fr nm h L (resB C o) = some q) : res C o = some (resB C o) := by
  unfold resB at *
  cases hr : res C o with
  | some r => rfl
  | none => rw [hr] at e; cases e
def resOp (C : Cfg) (nt : Nat) (ops : Array Oper) (o : Oper) : Option ROp :=
  (some (resB C o)).bind fun r =>
    if o.dst.all (fun d => decide (d < nt)) then
      match o.guard with
      | none => some ⟨o.dst, none, r⟩
      | some (j, b) => ((ops[j]?).bind (·.dst)).map fun t => ⟨o.dst, some (t, b), r⟩
    else none
inductive RCof (C : Cfg) (nt : Nat) (drawOk : List (Nat × Nat) → List ROp → Array Oper → Prop) : Code → RC → Prop
  | skip : RCof C nt drawOk .skip .skip
  | seq {a b a' b'} : RCof C nt drawOk a a' → RCof C nt drawOk b b' → RCof C nt drawOk (.seq a b) (.seq a' b')
  | cond {c t e c' t' e'} : resO C.laid c = some c' → RCof C nt drawOk t t' → RCof C nt drawOk e e' → RCof C nt drawOk (.cond c t e) (.cond c' t' e')
  | block {id b b'} : RCof C nt drawOk b b' → RCof C nt drawOk (.block id b) (.block id b')
  | loop {b b'} (keep out : List Nat) : RCof C nt drawOk b b' → RCof C nt drawOk (.loop b) (.loop keep out b')
  | exit {id} : RCof C nt drawOk (.exit id) (.exit id)
  | ret : RCof C nt drawOk .ret .ret
  | reg {id ops ops'} : ops.toList.mapM (resOp C nt ops) = some ops' → RCof C nt drawOk (.region id ops false) (.reg [] ops')
  | drw {id ops ops' prs} : ops.toList.mapM (resOp C nt ops) = some ops' → drawOk prs ops' ops → RCof C nt drawOk (.region id ops true) (.reg prs ops')

/-- A frame and its state, as told. -/
structure RS (C : Cfg) (nt : Nat) (p : Name) (k : Nat) (E : Env) (h : Heap) (L : List Name) (w : World) (fr : Fr) (a : Act) : Prop where
  st : St E (hget h) (· ∈ L) w
  hu : HU h
  fr : ∀ t x, fget fr t = some x → t < a.tmps.size ∧ Rel E w x (a.tmps.getD t undef)
  laid : LaidOk C.laid E w
  sz : nt ≤ a.tmps.size
  df : a.defers = []
  nρ : ∀ n, E.ρ n ≠ none → ¬ Under p k n
  nτ : ∀ n, E.τ n ≠ none → ¬ Under p k n
  nl : ∀ n ∈ L, ¬ Under p k n

theorem under_of_prefix {p : Name} {i : Nat} {n : Name} (h : p ++ [i] <+: n) : ∃ s, n = p ++ i :: s := by
  obtain ⟨s, rfl⟩ := h
  exact ⟨s, by simp⟩
theorem not_under_succ {p : Name} {i : Nat} {n : Name} (h : p ++ [i] <+: n) : ¬ Under p (i + 1) n := by
  obtain ⟨s, rfl⟩ := under_of_prefix h
  rintro ⟨k, s', hk, e⟩
  have := List.append_cancel_left e
  cases this
  omega
theorem Under.mono {p : Name} {i j : Nat} {n : Name} (h : Under p j n) (hij : i ≤ j) : Under p i n := by
  obtain ⟨k, s, hk, e⟩ := h; exact ⟨k, s, Nat.le_trans hij hk, e⟩
theorem Under.sub {p : Name} {k i : Nat} {n : Name} (h : Under (p ++ [k]) i n) : Under p k n := by
  obtain ⟨j, s, _, e⟩ := h; exact ⟨k, j :: s, Nat.le_refl _, by rw [e]; simp⟩
theorem not_under_next {p : Name} {k i : Nat} {n : Name} (h : Under (p ++ [k]) i n) : ¬ Under p (k + 1) n := by
  obtain ⟨j, s, _, rfl⟩ := h
  exact not_under_succ ⟨j :: s, by simp⟩

section
variable {C : Cfg} {nt : Nat} {p : Name} {E : Env} {h h' : Heap} {L L' : List Name} {w : World} {fr fr' : Fr} {a : Act} {x : T} {call : FuncId → Name → List T → Heap → Option (T × Heap)}

theorem RS.ctx {i : Nat} (X : RS C nt p i E h L w fr a) : Ctx C E h L w fr a (p ++ [i]) :=
  have : ∀ n, ¬ Under p i n → ¬ p ++ [i] <+: n := fun n hn hp => by
    obtain ⟨s, rfl⟩ := under_of_prefix hp
    exact hn ⟨i, s, Nat.le_refl _, rfl⟩
  ⟨X.st, X.fr, X.laid, fun n hn => this n (X.nρ n hn), fun n hn => this n (X.nτ n hn), fun n hn => this n (X.nl n hn)⟩
/-- Behind one operation. -/
theorem RS.next {i : Nat} (X : RS C nt p i E h L w fr a) {E' : Env} {w' : World} {v : Value} {d : Option Nat} (hd : ∀ t, d = some t → t < nt) (hr : Rel E' w' x v) (W : Walk (p ++ [i] <+: ·) E (hget h) (· ∈ L) w E' (hget h') (· ∈ L') w') (hu : HU h') :
    RS C nt p (i + 1) E' h' L' w' (put fr d x) (a.put d v) := by
  have hn : ∀ n, ¬ Under p i n ∨ p ++ [i] <+: n → ¬ Under p (i + 1) n := fun n hh hU => hh.elim (fun q => q (hU.mono (by omega))) (fun q => not_under_succ q hU)
  refine ⟨W.st, hu, ?_, X.laid.ext W.ext, ?_, ?_, fun n h => hn n ((W.nρ n h).imp (X.nρ n) id), fun n h => hn n ((W.nτ n h).imp (X.nτ n) id), fun n h => hn n ((W.nL n h).imp (X.nl n) id)⟩
  · intro t y hy
    cases d with
    | none =>
      obtain ⟨h1, h2⟩ := X.fr t y hy
      exact ⟨h1, h2.ext W.ext⟩
    | some d =>
      simp only [put] at hy
      rw [fget_fset] at hy
      have hdl := hd d rfl
      have hsz := X.sz
      simp only [Act.put]
      split at hy
      · rename_i e
        subst e
        cases hy
        refine ⟨by simp; omega, ?_⟩
        have : (a.tmps.setIfInBounds d v).getD d undef = v := by simp [Array.getD, show d < a.tmps.size by omega]
        rw [this]; exact hr
      · rename_i e
        obtain ⟨h1, h2⟩ := X.fr t y hy
        refine ⟨by simpa using h1, ?_⟩
        have : (a.tmps.setIfInBounds d v).getD t undef = a.tmps.getD t undef := by
          simp [Array.getD, h1, Array.getElem_setIfInBounds, e]
        rw [this]; exact h2.ext W.ext
  · cases d <;> simp [Act.put, X.sz]
  · cases d <;> simp [Act.put, X.df]
theorem gd_sound {i : Nat} (X : RS C nt p i E h L w fr a) {ops : Array Oper} {o : Oper} {q : ROp} (hq : resOp C nt ops o = some q) {b : Bool} (hb : gd fr q.g = some b) : Region.wanted o (yielded ops a.tmps) = b := by
  unfold resOp at hq
  obtain ⟨r, hr, hq⟩ := Option.bind_eq_some_iff.1 hq
  split at hq
  case isFalse => cases hq
  unfold Region.wanted
  split at hq
  · rename_i hg
    cases hq
    simp [gd] at hb
    rw [hg]; simpa using hb
  · rename_i j want hg
    obtain ⟨t, ht, rfl⟩ := Option.map_eq_some_iff.1 hq
    obtain ⟨y, hy, rfl⟩ := Option.map_eq_some_iff.1 hb
    obtain ⟨h1, h2⟩ := X.fr t y hy
    rw [hg]
    simp only [yielded, ht, Option.bind_some]
    have e : a.tmps[t]? = some (a.tmps.getD t undef) := by simp [Array.getD, h1]
    rw [e]
    generalize a.tmps.getD t undef = u at h2
    cases h2 with
    | v hv => cases u <;> simp
    | _ => simp

theorem evSeq_sound (hC : COk C) (hcall : CallSnd C call) {ops : Array Oper} {rops : List ROp} (hops : ops.toList.mapM (resOp C nt ops) = some rops) {Q : Exit → Act → World → Prop} :
    ∀ (m i : Nat) (l : List ROp) (E : Env) (h : Heap) (L : List Name) (w : World) (fr : Fr) (a : Act), i + m = ops.size → l = rops.drop i → RS C nt p i E h L w fr a → evSeq C call p l i fr h L = some (fr', h', L') →
      (∀ E' w' a', RS C nt p ops.size E' h' L' w' fr' a' → Walk (Under p i) E (hget h) (· ∈ L) w E' (hget h') (· ∈ L') w' → Q .normal a' w') → wpOps C.P ops Q (List.range' i m) a w := by
  obtain ⟨hlen, hget⟩ := mapM_get hops
  have hlen' : rops.length = ops.size := by simpa using hlen
  intro m
  induction m with
  | zero =>
    intro i l E h L w fr a hi hl X hx hQ
    have : l = [] := by rw [hl]; apply List.drop_eq_nil_of_le; omega
    subst this
    cases hx
    have hi' : i = ops.size := by omega
    subst hi'
    exact hQ E w a X (Walk.refl X.st)
  | succ m ih =>
    intro i l E h L w fr a hi hl X hx hQ
    have hil : i < ops.size := by omega
    obtain ⟨q, hq1, hq2⟩ := hget i ops[i] (by simp [hil])
    have hll : l = q :: rops.drop (i + 1) := by
      rw [hl]
      have := List.getElem?_eq_some_iff.1 hq2
      obtain ⟨hlt, e⟩ := this
      rw [List.drop_eq_getElem_cons hlt, e]
    rw [hll] at hx
    rw [List.range'_succ]
    simp only [wpOps, Array.getElem?_eq_getElem hil]
    simp only [evSeq] at hx
    have hdst : q.d = (ops[i]).dst ∧ (∀ t, q.d = some t → t < nt) ∧ q.r = resB C ops[i] := by
      have hq := hq1
      unfold resOp at hq
      obtain ⟨r, hr, hq⟩ := Option.bind_eq_some_iff.1 hq
      split at hq
      case isFalse => cases hq
      rename_i hall
      have hall' : ∀ t, (ops[i]).dst = some t → t < nt := fun t ht => by rw [ht] at hall; simpa using hall
      split at hq
      · cases hq; exact ⟨rfl, hall', (Option.some.inj hr).symm⟩
      · obtain ⟨t, ht, rfl⟩ := Option.map_eq_some_iff.1 hq; exact ⟨rfl, hall', (Option.some.inj hr).symm⟩
    obtain ⟨hd1, hd2, hr2⟩ := hdst
    cases hg : gd fr q.g with
    | none => rw [hg] at hx; cases hx
    | some b =>
      rw [hg] at hx
      have hwant := gd_sound X hq1 hg
      have sub : ∀ n, p ++ [i] <+: n → Under p i n := fun n hn => by
        obtain ⟨s, rfl⟩ := under_of_prefix hn; exact ⟨i, s, Nat.le_refl _, rfl⟩
      cases b with
      | true =>
        simp only at hx
        obtain ⟨⟨y, h1, L1⟩, hy, hx⟩ := Option.bind_eq_some_iff.1 hx
        rw [if_pos hwant]
        left
        rw [hr2] at hy
        refine snd_op hC hcall X.ctx X.hu (resB_ok hy) hy fun v E' w' hrel W hu => ?_
        rw [← hd1]
        exact ih (i + 1) _ E' h1 L1 w' _ _ (by omega) rfl (X.next hd2 hrel W hu) hx fun E2 w2 a2 X2 W2 => hQ E2 w2 a2 X2 ((W.mono sub).trans (W2.mono fun n hn => hn.mono (by omega)))
      | false =>
        simp only at hx
        rw [if_neg (by rw [hwant]; simp)]
        rw [← hd1]
        exact ih (i + 1) _ E h L w _ _ (by omega) rfl (X.next (x := .tup []) (v := undef) hd2 (.tup rfl (by simp)) (Walk.refl X.st) X.hu) hx fun E2 w2 a2 X2 W2 => hQ E2 w2 a2 X2 (W2.mono fun n hn => hn.mono (by omega))

/-- What code comes to. -/
def PostC (C : Cfg) (nt : Nat) (p : Name) (k0 : Nat) (E : Env) (h : Heap) (L : List Name) (w : World) (x : X) (f : F) : Exit → Act → World → Prop := fun e a' w' =>
  e = x.ex ∧ k0 ≤ f.k ∧ ∃ E', RS C nt p f.k E' f.h f.L w' f.fr a' ∧ Walk (Under p k0) E (hget h) (· ∈ L) w E' (hget f.h) (· ∈ f.L) w'

def DrawSnd (C : Cfg) (nt : Nat) (call : FuncId → Name → List T → Heap → Option (T × Heap)) (drawOk : List (Nat × Nat) → List ROp → Array Oper → Prop) : Prop :=
  ∀ (id : Nat) (ops : Array Oper) (rops : List ROp) (prs : List (Nat × Nat)) (p : Name) (E : Env) (h : Heap) (L : List Name) (w : World) (fr : Fr) (a : Act) (fr' : Fr) (h' : Heap) (L' : List Name) (Q : Exit → Act → World → Prop), ops.toList.mapM (resOp C nt ops) = some rops → drawOk prs rops ops →
    RS C nt p 0 E h L w fr a → evReg C call p prs rops fr h L = some (fr', h', L') →
      (∀ E' w' a', RS C nt p ops.size E' h' L' w' fr' a' → Walk (Under p 0) E (hget h) (· ∈ L) w E' (hget h') (· ∈ L') w' → Q .normal a' w') → (Code.region id ops true).wp C.P Q a w

theorem RS.region {k : Nat} (X : RS C nt p k E h L w fr a) : RS C nt (p ++ [k]) 0 E h L w fr a :=
  ⟨X.st, X.hu, X.fr, X.laid, X.sz, X.df, fun n hn hU => X.nρ n hn hU.sub, fun n hn hU => X.nτ n hn hU.sub, fun n hn hU => X.nl n hn hU.sub⟩
theorem RS.leave {k m : Nat} (X : RS C nt p k E h L w fr a) {E' : Env} {w' : World} {a' : Act} (X' : RS C nt (p ++ [k]) m E' h' L' w' fr' a') (W : Walk (Under (p ++ [k]) 0) E (hget h) (· ∈ L) w E' (hget h') (· ∈ L') w') : RS C nt p (k + 1) E' h' L' w' fr' a' := by
  have hn : ∀ n, ¬ Under p k n ∨ Under (p ++ [k]) 0 n → ¬ Under p (k + 1) n := fun n hh hU => hh.elim (fun q => q (hU.mono (by omega))) (fun q => not_under_next q hU)
  exact ⟨X'.st, X'.hu, X'.fr, X'.laid, X'.sz, X'.df, fun n h => hn n ((W.nρ n h).imp (X.nρ n) id), fun n h => hn n ((W.nτ n h).imp (X.nτ n) id), fun n h => hn n ((W.nL n h).imp (X.nl n) id)⟩
theorem RS.pop {k : Nat} (X : RS C nt p k E h L w fr a) : RS C nt p k E h.tail L w fr a := by
  cases h with
  | nil => exact X
  | cons l t => exact ⟨X.st.sub (HU_tail X.hu) (fun _ h => h), X.hu.2, X.fr, X.laid, X.sz, X.df, X.nρ, X.nτ, X.nl⟩
theorem hget_tail {h : Heap} (hu : HU h) : ∀ n x, hget h.tail n = some x → hget h n = some x := by
  cases h with
  | nil => intro n x e; simpa using e
  | cons l t => exact HU_tail hu
theorem fget_keepF : ∀ (keep : List Nat) (fr : Fr) (t : Nat) (x : T), fget (keepF keep fr) t = some x → fget fr t = some x
  | [], fr, t, x, h => by simp [keepF, fget] at h
  | m :: l, fr, t, x, h => by
    simp only [keepF] at h
    split at h
    · rename_i y hy
      simp only [fget] at h
      split at h
      · rename_i e; subst e; cases h; exact hy
      · exact fget_keepF l fr t x h
    · exact fget_keepF l fr t x h

theorem evC_sound (hC : COk C) (hcall : CallSnd C call) {drawOk : List (Nat × Nat) → List ROp → Array Oper → Prop} (hdraw : DrawSnd C nt call drawOk) (fuel : Nat) {c : Code} {rc : RC} (hrc : RCof C nt drawOk c rc) :
    ∀ (p : Name) (f f' : F) (x : X) (E : Env) (w : World) (a : Act), RS C nt p f.k E f.h f.L w f.fr a → evC C call p fuel rc f = some (x, f') → c.wp C.P (PostC C nt p f.k E f.h f.L w x f') a w := by
  induction hrc with
  | skip => intro p f f' x E w a X hx; cases hx; exact wp_skip ⟨rfl, Nat.le_refl _, E, X, Walk.refl X.st⟩
  | exit => intro p f f' x E w a X hx; cases hx; exact wp_exit ⟨rfl, Nat.le_refl _, E, X, Walk.refl X.st⟩
  | ret => intro p f f' x E w a X hx; cases hx; exact wp_ret ⟨rfl, Nat.le_refl _, E, X, Walk.refl X.st⟩
  | @seq c1 c2 r1 r2 _ _ ih1 ih2 =>
    intro p f f' x E w a X hx
    simp only [evC] at hx
    cases h1 : evC C call p fuel r1 f with
    | none => rw [h1] at hx; cases hx
    | some q =>
      obtain ⟨x1, f1⟩ := q
      rw [h1] at hx
      refine wp_seq (wp_mono (ih1 p f f1 x1 E w a X h1) ?_)
      rintro e a1 w1 ⟨rfl, hk, E1, X1, W1⟩
      cases x1 with
      | norm =>
        refine wp_mono (ih2 p f1 f' x E1 w1 a1 X1 hx) ?_
        rintro e a2 w2 ⟨rfl, hk2, E2, X2, W2⟩
        exact ⟨rfl, Nat.le_trans hk hk2, E2, X2, W1.trans (W2.mono fun n hn => hn.mono hk)⟩
      | exit id => simp only at hx; cases hx; exact ⟨rfl, hk, E1, X1, W1⟩
      | ret => simp only at hx; cases hx; exact ⟨rfl, hk, E1, X1, W1⟩
  | @cond c t e c' t' e' hc _ _ ih1 ih2 =>
    intro p f f' x E w a X hx
    simp only [evC] at hx
    split at hx
    case h_2 => cases hx
    rename_i b hb
    have hrel := X.ctx.eO hc hb
    have hcb : a.eval c = .bool b := by
      generalize a.eval c = z at hrel
      cases hrel; rfl
    cases b with
    | true => exact wp_cond hcb (ih1 p f f' x E w a X (by simpa using hx))
    | false => exact wp_cond hcb (ih2 p f f' x E w a X (by simpa using hx))
  | @block id b b' _ ih =>
    intro p f f' x E w a X hx
    simp only [evC] at hx
    cases h1 : evC C call p fuel b' f with
    | none => rw [h1] at hx; cases hx
    | some q =>
      obtain ⟨x1, f1⟩ := q
      rw [h1] at hx
      refine wp_block (wp_mono (ih p f f1 x1 E w a X h1) ?_)
      rintro e a1 w1 ⟨rfl, hk, E1, X1, W1⟩
      cases x1 with
      | norm => simp only at hx; cases hx; exact ⟨rfl, hk, E1, X1, W1⟩
      | ret => simp only at hx; cases hx; exact ⟨rfl, hk, E1, X1, W1⟩
      | exit j =>
        simp only at hx
        show Exit.inBlock id _ (.exit j) a1 w1
        simp only [Exit.inBlock]
        split at hx
        · rename_i e; cases hx; rw [if_pos e]; exact ⟨rfl, hk, E1, X1, W1⟩
        · rename_i e; cases hx; rw [if_neg e]; exact ⟨rfl, hk, E1, X1, W1⟩
  | @loop b b' keep out _ ih =>
    intro p f f' x E w a X hx
    simp only [evC] at hx
    obtain ⟨⟨x0, f0⟩, hq0, e⟩ := Option.map_eq_some_iff.1 hx
    cases e
    refine wp_loop_rounds fuel ?_
    have less : ∀ {k : Nat} {E : Env} {h : Heap} {L : List Name} {w : World} {fr : Fr} {a : Act} (ks : List Nat), RS C nt (p ++ [f.k]) k E h L w fr a → RS C nt (p ++ [f.k]) k E h L w (keepF ks fr) a :=
      fun ks X => ⟨X.st, X.hu, fun t y hy => X.fr t y (fget_keepF _ _ _ _ hy), X.laid, X.sz, X.df, X.nρ, X.nτ, X.nl⟩
    have key : ∀ (n r : Nat) (g : F) (E1 : Env) (w1 : World) (a1 : Act), RS C nt (p ++ [f.k]) r E1 g.h g.L w1 g.fr a1 → Walk (Under (p ++ [f.k]) 0) E (hget f.h) (· ∈ f.L) w E1 (hget g.h) (· ∈ g.L) w1 →
        iter (fun r g => evC C call ((p ++ [f.k]) ++ [r]) fuel b' g) keep out n r g = some (x0, f0) → Code.rounds C.P b (PostC C nt p f.k E f.h f.L w x0 { f0 with k := f.k + 1 }) n a1 w1 := by
      intro n
      induction n with
      | zero => intro r g E1 w1 a1 _ _ hh; cases hh
      | succ n ihn =>
        intro r g E1 w1 a1 X1 W1 hh
        simp only [iter] at hh
        rw [rounds_succ]
        have Xe : RS C nt (p ++ [f.k]) r E1 ([] :: g.h) g.L w1 g.fr a1 :=
          ⟨X1.st, ⟨fun n hn => by simp [lget] at hn, X1.hu⟩, X1.fr, X1.laid, X1.sz, X1.df, X1.nρ, X1.nτ, X1.nl⟩
        cases hb : evC C call ((p ++ [f.k]) ++ [r]) fuel b' ⟨g.fr, [] :: g.h, g.L, 0⟩ with
        | none => rw [hb] at hh; cases hh
        | some q =>
          obtain ⟨x1, f1⟩ := q
          rw [hb] at hh
          refine wp_mono (ih ((p ++ [f.k]) ++ [r]) _ f1 x1 E1 w1 a1 Xe.region hb) ?_
          rintro e a2 w2 ⟨rfl, hk2, E2, X2, W2⟩
          have X3 := Xe.leave X2 W2
          have W2' : Walk (Under ((p ++ [f.k]) ++ [r]) 0) E1 (hget g.h) (· ∈ g.L) w1 E2 (hget f1.h.tail) (· ∈ f1.L) w2 := W2.less (hget_tail X2.hu) (fun _ h => h)
          have W3 := W1.trans (W2'.mono fun n hn => hn.sub.mono (Nat.zero_le _))
          have fin : RS C nt p (f.k + 1) E2 f1.h.tail f1.L w2 (keepF out f1.fr) a2 := X.leave (less out X3.pop) W3
          cases x1 with
          | norm => simp only at hh; exact ihn (r + 1) ⟨keepF keep f1.fr, f1.h.tail, f1.L, 0⟩ E2 w2 a2 (less keep X3.pop) W3 hh
          | exit id => simp only at hh; cases hh; exact ⟨rfl, Nat.le_succ _, E2, fin, W3.mono fun n hn => hn.sub⟩
          | ret => simp only at hh; cases hh; exact ⟨rfl, Nat.le_succ _, E2, fin, W3.mono fun n hn => hn.sub⟩
    exact key fuel 0 ⟨keepF keep f.fr, f.h, f.L, 0⟩ E w a (less keep X.region) (Walk.refl X.st) hq0
  | @reg id ops ops' hops =>
    intro p f f' x E w a X hx
    simp only [evC] at hx
    obtain ⟨⟨fr1, h1, L1⟩, hq, e⟩ := Option.map_eq_some_iff.1 hx
    cases e
    refine wp_region ?_
    rw [List.range_eq_range']
    refine evSeq_sound hC hcall hops ops.size 0 ops' E f.h f.L w f.fr a (by omega) (by simp) X.region hq fun E' w' a' X' W' => ?_
    exact ⟨rfl, by simp, E', X.leave X' W', W'.mono fun n hn => hn.sub⟩
  | @drw id ops ops' prs hops hdo =>
    intro p f f' x E w a X hx
    simp only [evC] at hx
    obtain ⟨⟨fr1, h1, L1⟩, hq, e⟩ := Option.map_eq_some_iff.1 hx
    cases e
    refine hdraw id ops ops' prs _ E f.h f.L w f.fr a _ _ _ _ hops hdo X.region hq fun E' w' a' X' W' => ?_
    exact ⟨rfl, by simp, E', X.leave X' W', W'.mono fun n hn => hn.sub⟩
end
end Go.AE
