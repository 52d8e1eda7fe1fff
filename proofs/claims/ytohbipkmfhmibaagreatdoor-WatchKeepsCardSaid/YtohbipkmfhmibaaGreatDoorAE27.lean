import Derived.Test.YtohbipkmfhmibaaGreatDoorAE26
/-! AE27: a region that draws its order. -/
set_option linter.unusedVariables false
set_option linter.unusedSimpArgs false
namespace Go.AE
open Go.RowKit Go.LB

def DrawOk (C : Cfg) (prs : List (Nat × Nat)) (rops : List ROp) (ops : Array Oper) : Prop := C.P.follows .mixedOrders = true ∧ drawB C prs rops ops.toList = true

structure RSf (C : Cfg) (nt : Nat) (p : Name) (m : Nat) (f : Lst) (E : Env) (s : S) (w : World) (a : Go.Act) : Prop where
  st : St E (hget s.2.1) (· ∈ s.2.2) w
  hu : HU s.2.1
  fr : ∀ t x, fget s.1 t = some x → t < a.tmps.size ∧ Rel E w x (a.tmps.getD t undef)
  laid : LaidOk C.laid E w
  sz : nt ≤ a.tmps.size
  df : a.defers = []
  nρ : ∀ n, E.ρ n ≠ none → ∀ i, f i = false → ¬ p ++ [i] <+: n
  nτ : ∀ n, E.τ n ≠ none → ∀ i, f i = false → ¬ p ++ [i] <+: n
  nl : ∀ n ∈ s.2.2, ∀ i, f i = false → ¬ p ++ [i] <+: n
  big : ∀ i, m ≤ i → f i = false

section
variable {C : Cfg} {nt : Nat} {p : Name} {m : Nat} {f : Lst} {E : Env} {s s1 t : S} {w : World} {a : Go.Act} {x : T} {call : FuncId → Name → List T → Heap → Option (T × Heap)}

theorem RSf.ctx {i : Nat} (X : RSf C nt p m f E s w a) (hi : f i = false) : Ctx C E s.2.1 s.2.2 w s.1 a (p ++ [i]) :=
  ⟨X.st, X.fr, X.laid, fun n hn => X.nρ n hn i hi, fun n hn => X.nτ n hn i hi, fun n hn => X.nl n hn i hi⟩
theorem RSf.fresh {i : Nat} (X : RSf C nt p m f E s w a) (hi : f i = false) : Fresh p i s := by
  intro n hn
  refine ⟨?_, fun q => X.nl n q i hi hn⟩
  cases e : hget s.2.1 n with
  | none => rfl
  | some b =>
    obtain ⟨c, hc, _⟩ := X.st.ρ_some (n := n) (by rw [e]; simp)
    exact absurd hn (X.nρ n (by rw [hc]; simp) i hi)
theorem RSf.next {i : Nat} (X : RSf C nt p m f E s w a) (him : i < m) {E' : Env} {w' : World} {v : Value} {d : Option Nat} {h' : Heap} {L' : List Name} (hd : ∀ t, d = some t → t < nt) (hr : Rel E' w' x v) (W : Walk (p ++ [i] <+: ·) E (hget s.2.1) (· ∈ s.2.2) w E' (hget h') (· ∈ L') w') (hu : HU h') :
    RSf C nt p m (f.up i) E' (put s.1 d x, h', L') w' (a.put d v) := by
  have hn : ∀ n, (∀ j, f j = false → ¬ p ++ [j] <+: n) ∨ p ++ [i] <+: n → ∀ j, f.up i j = false → ¬ p ++ [j] <+: n := by
    intro n hh j hj hp
    have hji : j ≠ i := fun e => by subst e; rw [Lst.up_same] at hj; cases hj
    rw [Lst.up_ne _ hji] at hj
    rcases hh with h | h
    · exact h j hj hp
    · exact hji (pre_ne hp h)
  refine ⟨W.st, hu, ?_, X.laid.ext W.ext, ?_, ?_, fun n h => hn n ((W.nρ n h).imp (X.nρ n) id), fun n h => hn n ((W.nτ n h).imp (X.nτ n) id), fun n h => hn n ((W.nL n h).imp (X.nl n) id), fun j hj => ?_⟩
  · intro t y hy
    simp only [fget_put] at hy
    cases d with
    | none =>
      rw [if_neg (by simp)] at hy
      obtain ⟨h1, h2⟩ := X.fr t y hy
      exact ⟨h1, h2.ext W.ext⟩
    | some d =>
      have hdl := hd d rfl
      have hsz := X.sz
      simp only [Act.put]
      split at hy
      · rename_i e
        cases e
        cases hy
        refine ⟨by simp; omega, ?_⟩
        have : (a.tmps.setIfInBounds t v).getD t undef = v := by simp [Array.getD, show t < a.tmps.size by omega]
        rw [this]; exact hr
      · rename_i e
        have e' : d ≠ t := fun q => e (by rw [q])
        obtain ⟨h1, h2⟩ := X.fr t y hy
        refine ⟨by simpa using h1, ?_⟩
        have : (a.tmps.setIfInBounds d v).getD t undef = a.tmps.getD t undef := by
          simp [Array.getD, h1, Array.getElem_setIfInBounds, e']
        rw [this]; exact h2.ext W.ext
  · cases d <;> simp [Act.put, X.sz]
  · cases d <;> simp [Act.put, X.df]
  · rw [Lst.up_ne _ (by omega)]; exact X.big j hj
theorem gd_sound2 (X : RSf C nt p m f E s w a) {ops : Array Oper} {o : Oper} {q : ROp} (hq : resOp C nt ops o = some q) {b : Bool} (hb : gd s.1 q.g = some b) : Region.wanted o (yielded ops a.tmps) = b := by
  unfold resOp at hq
  obtain ⟨r, hr, hq⟩ := Option.bind_eq_some_iff.1 hq
  split at hq
  case isFalse => cases hq
  unfold Region.wanted
  split at hq
  · rename_i hg
    cases hq
    simp [gd] at hb
    rw [hg]; simpa using hb
  · rename_i j want hg
    obtain ⟨t, ht, rfl⟩ := Option.map_eq_some_iff.1 hq
    obtain ⟨y, hy, rfl⟩ := Option.map_eq_some_iff.1 hb
    obtain ⟨h1, h2⟩ := X.fr t y hy
    rw [hg]
    simp only [yielded, ht, Option.bind_some]
    have e : a.tmps[t]? = some (a.tmps.getD t undef) := by simp [Array.getD, h1]
    rw [e]
    generalize a.tmps.getD t undef = u at h2
    cases h2 with
    | v hv => cases u <;> simp
    | _ => simp
theorem resOp_dst {ops : Array Oper} {o : Oper} {q : ROp} (hq : resOp C nt ops o = some q) : q.d = o.dst ∧ (∀ t, q.d = some t → t < nt) ∧ q.r = resB C o := by
  unfold resOp at hq
  obtain ⟨r, hr, hq⟩ := Option.bind_eq_some_iff.1 hq
  split at hq
  case isFalse => cases hq
  rename_i hall
  have hall' : ∀ t, o.dst = some t → t < nt := fun t ht => by rw [ht] at hall; simpa using hall
  split at hq
  · cases hq; exact ⟨rfl, hall', (Option.some.inj hr).symm⟩
  · obtain ⟨t, ht, rfl⟩ := Option.map_eq_some_iff.1 hq; exact ⟨rfl, hall', (Option.some.inj hr).symm⟩
theorem idx_lt : ∀ (l : List ROp) (i : Nat), (idx l i).Pairwise (fun x y => x.1 < y.1) ∧ ∀ x ∈ idx l i, i ≤ x.1
  | [], i => ⟨.nil, by simp [idx]⟩
  | q :: l, i => by
    obtain ⟨h1, h2⟩ := idx_lt l (i + 1)
    refine ⟨List.pairwise_cons.2 ⟨fun x hx => by have := h2 x hx; simp only; omega, h1⟩, fun x hx => ?_⟩
    rcases List.mem_cons.1 hx with rfl | hx
    · exact Nat.le_refl _
    · have := h2 x hx; omega
/-- All that i waits for has been done. -/
theorem waited {ops : List Oper} {cl : List (List Nat)} (hcl : clB cl ops 0 = true) (htopo : topoB ops = true) {f : Lst} (hclosed : ∀ (k : Nat) o, ops[k]? = some o → f k = true → depsB o f = true) :
    ∀ (i : Nat) o, ops[i]? = some o → depsB o f = true → ∀ j ∈ cl.getD i [], f j = true := by
  have dep : ∀ (o : Oper), depsB o f = true → ∀ j ∈ depL o, f j = true := by
    intro o ho j hj
    unfold depL at hj
    obtain ⟨e, he, rfl⟩ := List.mem_map.1 hj
    obtain ⟨he1, he2⟩ := List.mem_filter.1 he
    unfold depsB at ho
    have := List.all_eq_true.1 ho e he1
    simpa [he2] using this
  intro i
  induction i using Nat.strongRecOn with
  | _ i ih =>
    intro o ho hd j hj
    have := clB_get hcl i o ho j (by rwa [Nat.zero_add])
    rcases this with h | ⟨k, hk, hjk⟩
    · exact dep o hd j h
    · have hfk := dep o hd k hk
      have hlt : k < i := by
        unfold depL at hk
        obtain ⟨e, he, rfl⟩ := List.mem_map.1 hk
        obtain ⟨he1, he2⟩ := List.mem_filter.1 he
        unfold topoB at htopo
        have := List.all_eq_true.1 htopo (o, i) (List.mem_zipIdx_iff_getElem?.2 ho)
        have := List.all_eq_true.1 this e he1
        simpa [he2] using this
      have hko : ∃ ok, ops[k]? = some ok := by
        have hi := (List.getElem?_eq_some_iff.1 ho).1
        exact ⟨ops[k]'(by omega), List.getElem?_eq_getElem (by omega)⟩
      obtain ⟨ok, hko⟩ := hko
      exact ih k hlt ok hko (hclosed k ok hko hfk) j hjk
theorem EachAt.of {D : Nat → Oper → Prop} : ∀ {l : List Oper} {k : Nat}, (∀ (i : Nat) o, l[i]? = some o → D (k + i) o) → EachAt D l k
  | [], _, _ => trivial
  | o :: l, k, h => ⟨h 0 o rfl, EachAt.of fun i o' ho => by have := h (i + 1) o' (by simpa using ho); rwa [show k + (i + 1) = k + 1 + i by omega] at this⟩
theorem depsB_up {o : Oper} {f : Lst} {i : Nat} (h : depsB o f = true) : depsB o (f.up i) = true := by
  unfold depsB at *
  rw [List.all_eq_true] at *
  intro e he
  have := h e he
  simp only [Bool.or_eq_true] at *
  refine this.imp id fun q => ?_
  by_cases g : e.on = i
  · rw [g, Lst.up_same]
  · rw [Lst.up_ne _ g]; exact q

theorem draw_sound (hC : COk C) (hcall : CallSnd C call) : DrawSnd C nt call (DrawOk C) := by
  intro id ops rops prs p E h L w fr a fr' h' L' Q hops hdo X hx hQ
  obtain ⟨hm, hdo⟩ := hdo
  obtain ⟨hlen, hgetr⟩ := mapM_get hops
  cases ops with
  | mk ol =>
  simp only at hdo hops hlen hgetr
  have hd0 := hdo
  simp only [drawB, Bool.and_eq_true] at hd0
  obtain ⟨⟨htopo, hcl⟩, _⟩ := hd0
  have hun : ∀ n, ¬ Under p 0 n → ∀ i, ¬ p ++ [i] <+: n := fun n hn i hp => by
    obtain ⟨s, rfl⟩ := under_of_prefix hp
    exact hn ⟨i, s, Nat.zero_le _, rfl⟩
  have X0 : RSf C nt p ol.length (fun _ => false) E (fr, h, L) w a :=
    ⟨X.st, X.hu, X.fr, X.laid, X.sz, X.df, fun n hn i _ => hun n (X.nρ n hn) i, fun n hn i _ => hun n (X.nτ n hn) i, fun n hn i _ => hun n (X.nl n hn) i, fun _ _ => rfl⟩
  obtain ⟨es, e1, e2, e5, hc⟩ := reg_run (p := p) hx hdo (fun j => X0.fresh rfl) X.hu
  have hpw : es.Pairwise (fun x y => x.1.1 < y.1.1) := by
    have := (idx_lt rops 0).1
    rw [← e1] at this
    rw [List.pairwise_map] at this
    exact this
  have hop : ∀ e ∈ es, rops[e.1.1]? = some e.1.2 := fun e he => by
    have : e.1 ∈ idx rops 0 := by rw [← e1]; exact List.mem_map.2 ⟨e, he, rfl⟩
    obtain ⟨k, hk⟩ := List.mem_iff_getElem?.1 this
    rw [idx_get] at hk
    obtain ⟨q, hq, e2⟩ := Option.map_eq_some_iff.1 hk
    rw [← e2]; simpa using hq
  have hmem : ∀ (i : Nat) q, rops[i]? = some q → ∃ e ∈ es, e.1 = (i, q) := fun i q hq => by
    have : (idx rops 0)[i]? = some (i, q) := by rw [idx_get, hq]; simp
    rw [← e1] at this
    have := List.mem_of_getElem? this
    obtain ⟨e, he, h⟩ := List.mem_map.1 this
    exact ⟨e, he, h⟩
  have hlen' : rops.length = ol.length := hlen
  have h0 := X.st.new (w' := w.drew) (Keep.refl _ _).drew
  have W0 : Walk (Under p 0) E (hget h) (· ∈ L) w E (hget h) (· ∈ L) w.drew := Walk.new X.st (Keep.refl _ _).drew
  show (Code.region id ol.toArray true).wp C.P Q a w
  refine wp_region_flow hm htopo (fun f a' w' => ∃ s E', Run C call p (es.filter fun e => !f e.1.1) s (fr', h', L') ∧ RSf C nt p ol.length f E' s w' a' ∧ Walk (Under p 0) E (hget h) (· ∈ L) w E' (hget s.2.1) (· ∈ s.2.2) w' ∧ (∀ (k : Nat) o, ol[k]? = some o → f k = true → depsB o f = true)) ?_ ?_ ?_
  · refine ⟨(fr, h, L), E, ?_, ⟨h0.1, X.hu, fun t x hx => ?_, X.laid.ext h0.2, X.sz, X.df, X0.nρ, X0.nτ, X0.nl, fun _ _ => rfl⟩, W0, fun _ _ _ h => by cases h⟩
    · have : (es.filter fun e => !(fun _ => false : Lst) e.1.1) = es := by simp
      rw [this]; exact e2
    · obtain ⟨g1, g2⟩ := X.fr t x hx
      exact ⟨g1, g2.ext h0.2⟩
  · refine EachAt.of fun i o ho => ?_
    rw [Nat.zero_add]
    rintro f a' w' ⟨s, E', hrun, Xs, Ws, hclosed⟩ hfi hdeps K hK
    have hi : i < ol.length := (List.getElem?_eq_some_iff.1 ho).1
    obtain ⟨q, hq1, hq2⟩ := hgetr i o ho
    obtain ⟨e, he, hee⟩ := hmem i q hq2
    have hel : e ∈ es.filter fun e => !f e.1.1 := List.mem_filter.2 ⟨he, by rw [hee]; simpa using hfi⟩
    obtain ⟨l1, l2, hl⟩ := List.append_of_mem hel
    have hpw2 : (l1 ++ e :: l2).Pairwise (fun x y => x.1.1 < y.1.1) := by rw [← hl]; exact hpw.sublist List.filter_sublist
    have hsub : ∀ b ∈ l1 ++ e :: l2, b ∈ es ∧ f b.1.1 = false := fun b hb => by
      rw [← hl] at hb
      have := List.mem_filter.1 hb
      exact ⟨this.1, by simpa using this.2⟩
    rw [List.pairwise_append] at hpw2
    obtain ⟨p1, p2, p3⟩ := hpw2
    obtain ⟨p4, p5⟩ := List.pairwise_cons.1 p2
    have hei : e.1.1 = i := by rw [hee]
    have hfront := Run.front (l1 := l1) (b := e) (l2 := l2) (by rw [← hl]; exact hrun) (fun b hb => by
      obtain ⟨b1, b2⟩ := hsub b (by simp [hb])
      rcases hc b b1 e he (p3 b hb e (by simp)) with g | g
      · rw [hei] at g
        have := waited hcl htopo hclosed i o ho hdeps b.1.1 g
        rw [this] at b2; cases b2
      · exact g) (by rw [hei]; exact Xs.fresh hfi) (fun b hb => Xs.fresh (hsub b (by simp [hb])).2) (List.pairwise_map.2 (p1.imp fun h => Nat.ne_of_lt h))
    have hrest : (es.filter fun e => !(f.up i) e.1.1) = l1 ++ l2 := by
      have g1 : (es.filter fun e => !(f.up i) e.1.1) = (es.filter fun e => !f e.1.1).filter fun b => decide (b.1.1 ≠ i) := by
        rw [List.filter_filter]
        congr 1
        funext b
        by_cases g : b.1.1 = i
        · simp [g, Lst.up_same]
        · simp [Lst.up_ne _ g, g]
      rw [g1, hl, List.filter_append, List.filter_cons, if_neg (by simp [hei])]
      rw [List.filter_eq_self.2 (fun b hb => by have := p3 b hb e (by simp); simp; omega), List.filter_eq_self.2 (fun b hb => by have := p4 b hb; simp; omega)]
    have hclosed' : ∀ (k : Nat) o', ol[k]? = some o' → (f.up i) k = true → depsB o' (f.up i) = true := fun k o' hk hfk => by
      refine depsB_up ?_
      by_cases g : k = i
      · subst g; rw [ho] at hk; cases hk; exact hdeps
      · rw [Lst.up_ne _ g] at hfk; exact hclosed k o' hk hfk
    cases hfront with
    | cons g1 g2 g3 =>
      rename_i s1
      rw [hee] at g1
      unfold stepE at g1
      simp only at g1
      obtain ⟨hd1, hd2, hd3⟩ := resOp_dst hq1
      have upU : ∀ n, p ++ [i] <+: n → Under p 0 n := fun n hn => by obtain ⟨s, rfl⟩ := under_of_prefix hn; exact ⟨i, s, Nat.zero_le _, rfl⟩
      cases hg : gd s.1 q.g with
      | none => rw [hg] at g1; cases g1
      | some b =>
        rw [hg] at g1
        have hwant := gd_sound2 Xs hq1 hg
        cases b with
        | true =>
          simp only at g1
          obtain ⟨⟨x, k1, L1⟩, hx1, ge⟩ := Option.map_eq_some_iff.1 g1
          subst ge
          rw [if_pos hwant]
          rw [hd3] at hx1
          refine snd_op hC hcall (Xs.ctx hfi) Xs.hu (resB_ok hx1) hx1 fun v E2 w2 hrel W hu => ?_
          rw [← hd1]
          refine hK _ _ ⟨_, E2, ?_, Xs.next hi hd2 hrel W hu, Ws.trans (W.mono upU), hclosed'⟩
          rw [hrest]; exact g3
        | false =>
          cases g1
          rw [if_neg (by rw [hwant]; simp)]
          rw [← hd1]
          refine hK _ _ ⟨_, E', ?_, Xs.next (x := .tup []) hi hd2 (.tup rfl (by simp)) (Walk.refl Xs.st) Xs.hu, Ws, hclosed'⟩
          rw [hrest]; exact g3
  · rintro f a' w' hall ⟨s, E', hrun, Xs, Ws, _⟩
    have hnil : (es.filter fun e => !f e.1.1) = [] := by
      rw [List.filter_eq_nil_iff]
      intro e he
      have := (List.getElem?_eq_some_iff.1 (hop e he)).1
      simp [hall e.1.1 (by omega)]
    rw [hnil] at hrun
    cases hrun with
    | nil hs =>
      have eh : hget s.2.1 = hget h' := funext hs.h
      have eL : (fun n => n ∈ s.2.2) = fun n => n ∈ L' := funext fun n => propext (hs.L n)
      have hst := Xs.st
      rw [eh, eL] at hst Ws
      have nu : ∀ n, (∀ i, f i = false → ¬ p ++ [i] <+: n) → ¬ Under p ol.length n := by
        rintro n hn ⟨k, s', hk, rfl⟩
        exact hn k (Xs.big k hk) ⟨s', by simp⟩
      refine hQ E' w' a' ⟨hst, e5, fun t x hx => Xs.fr t x (by rw [hs.fr]; exact hx), Xs.laid, Xs.sz, Xs.df, fun n hn => nu n (Xs.nρ n hn), fun n hn => nu n (Xs.nτ n hn), fun n hn => nu n (Xs.nl n ((hs.L n).2 hn))⟩ Ws
end
end Go.AE
