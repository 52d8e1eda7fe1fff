import Derived.Test.YtohbipkmfhmibaaGreatDoorAE24
import Derived.Test.YtohbipkmfhmibaaGreatDoorFlow
/-! AE25: two operations swap; one is brought to the front. -/
set_option linter.unusedVariables false
set_option linter.unusedSimpArgs false
namespace Go.AE
open Go.RowKit Go.LB

abbrev En := (Nat × ROp) × List Name
structure Sim (s t : S) : Prop where
  fr : ∀ k, fget s.1 k = fget t.1 k
  h : ∀ n, hget s.2.1 n = hget t.2.1 n
  L : ∀ n, n ∈ s.2.2 ↔ n ∈ t.2.2
theorem Sim.refl (s : S) : Sim s s := ⟨fun _ => rfl, fun _ => rfl, fun _ => Iff.rfl⟩
theorem Sim.symm {s t : S} (h : Sim s t) : Sim t s := ⟨fun k => (h.fr k).symm, fun n => (h.h n).symm, fun n => (h.L n).symm⟩
theorem Sim.trans {s t u : S} (h : Sim s t) (k : Sim t u) : Sim s u := ⟨fun q => (h.fr q).trans (k.fr q), fun n => (h.h n).trans (k.h n), fun n => (h.L n).trans (k.L n)⟩
/-- A look for a key, and the same key's entry. -/
def LM (a b : ROp) : Prop := ∃ da db row ks z m k, a = ⟨da, none, .look row ks z false m k⟩ ∧ b = ⟨db, none, .ment row ks z m k⟩
/-- j ahead of i may as well come behind i. -/
structure Cnd (C : Cfg) (p : Name) (a b : En) : Prop where
  ne : a.1.1 ≠ b.1.1
  r1 : ∀ d, a.1.2.d = some d → d ∉ rdq b.1.2
  r2 : ∀ d, b.1.2.d = some d → d ∉ rdq a.1.2
  r3 : ∀ d, a.1.2.d = some d → b.1.2.d ≠ some d
  d1 : ((hcl C a.1.2.r ≠ 3 ∧ hcl C b.1.2.r ≠ 3) ∨ ∀ n ∈ a.2, n ∉ b.2) ∨ LM a.1.2 b.1.2
  d2 : hcl C a.1.2.r ≤ 1 ∨ ∀ n ∈ b.2, ¬ p ++ [a.1.1] <+: n
  t : tcl b.1.2.r = 3 → tcl a.1.2.r = 0
/-- No name of operation i's is there yet. -/
def Fresh (p : Name) (i : Nat) (s : S) : Prop := ∀ n, p ++ [i] <+: n → hget s.2.1 n = none ∧ n ∉ s.2.2

section
variable {C : Cfg} {call : FuncId → Name → List T → Heap → Option (T × Heap)} {p : Name}
theorem pre_ne {i j : Nat} {n : Name} (h : p ++ [i] <+: n) (k : p ++ [j] <+: n) : i = j := by
  obtain ⟨s, rfl⟩ := under_of_prefix h
  obtain ⟨t, e⟩ := under_of_prefix k
  have := List.append_cancel_left e
  cases this; rfl
theorem Fresh.step {i : Nat} {s s1 : S} (h : Fresh p i s) {e : Nat × ROp} (hne : e.1 ≠ i) (hs : stepE C call p e s = some s1) : Fresh p i s1 := by
  obtain ⟨x, cs, add, A⟩ := step_spec hs
  intro n hn
  obtain ⟨h1, h2⟩ := h n hn
  have hno : ¬ p ++ [e.1] <+: n := fun q => hne (pre_ne q hn)
  refine ⟨?_, fun q => ?_⟩
  · rw [A.out n (fun q => by have := A.has n q; rw [h1] at this; cases this) hno]; exact h1
  · rcases (A.tok n).1 q with q | q
    · exact hno (A.addU n q)
    · exact h2 q.1
theorem step_congr {e : Nat × ROp} {s s1 t : S} (hs : stepE C call p e s = some s1) (h : Sim s t) : ∃ t1, stepE C call p e t = some t1 ∧ Sim s1 t1 ∧ fpE C e t = fpE C e s := by
  obtain ⟨x, cs, add, A⟩ := step_spec hs
  obtain ⟨h0, t1, q1, q2, q3, q4, q5⟩ := A.tr t (fun k _ => (h.fr k).symm) (fun n _ => (h.h n).symm) (fun n _ => (h.h n).symm) (fun c hc => (h.L c).1 (A.take c hc))
  refine ⟨t1, q1, ⟨fun k => ?_, fun n => ?_, fun n => ?_⟩, h0⟩
  · rw [q2, A.fr, fget_put, fget_put, h.fr k]
  · by_cases hn : n ∈ fpE C e s ∨ p ++ [e.1] <+: n
    · exact (q3 n hn).symm
    · have h1 : n ∉ fpE C e s := fun q => hn (.inl q)
      have h2 : ¬ p ++ [e.1] <+: n := fun q => hn (.inr q)
      rw [q4 n h1 h2, A.out n h1 h2, h.h n]
  · rw [A.tok, q5, h.L n]
theorem tfind_app {ks : List CK} {k z : T} {c : Nat} (hk : eqLT ks k.cells k.cells = some true) : ∀ (es : List (T × T × Nat)) (i : Nat), tfind ks k es i = some none → tfind ks k (es ++ [(k, z, c)]) i = some (some (i + es.length, z, c))
  | [], i, _ => by simp [tfind, hk]
  | (k', x, s) :: es, i, h => by
    simp only [tfind, List.cons_append] at h ⊢
    split at h
    · cases h
    · rw [tfind_app hk es (i + 1) h, List.length_cons]
      congr 3; omega
    · cases h
theorem tfind_set {ks : List CK} {k : T} (hk : eqLT ks k.cells k.cells = some true) : ∀ (es : List (T × T × Nat)) (i j : Nat) (x : T) (s : Nat), tfind ks k es i = some (some (j, x, s)) → i ≤ j ∧ tfind ks k (es.set (j - i) (k, x, s)) i = some (some (j, x, s))
  | [], i, j, x, s, h => by simp [tfind] at h
  | (k', y, u) :: es, i, j, x, s, h => by
    simp only [tfind] at h
    split at h
    · cases h
      simp [tfind, hk]
    · rename_i e
      obtain ⟨h1, h2⟩ := tfind_set hk es (i + 1) j x s h
      refine ⟨by omega, ?_⟩
      obtain ⟨d, rfl⟩ : ∃ d, j = i + (d + 1) := ⟨j - i - 1, by omega⟩
      rw [show i + (d + 1) - i = d + 1 by omega, List.set_cons_succ]
      rw [show i + (d + 1) - (i + 1) = d by omega] at h2
      simp only [tfind, e]; exact h2
    · cases h
theorem look_ment {row : Bool} {ks : List CK} {z m k x y : T} {h h2 : Heap} (h1 : eLook row ks z false m k h = some x) (hm : eMapEntry row ks z m k h = some (y, h2)) : eLook row ks z false m k h2 = some x := by
  unfold eMapEntry at hm
  split at hm
  case h_2 => cases hm
  rename_i n
  split at hm
  case h_2 => cases hm
  rename_i es ck hg
  split at hm
  case isFalse => cases hm
  rename_i hc
  obtain ⟨c1, c2, c3⟩ := hc
  obtain ⟨r, hr, hm⟩ := Option.bind_eq_some_iff.1 hm
  simp only [eLook, mapOf, hg, Option.bind_some, c1, c2, and_self, if_true, hr] at h1
  have hs : (hget h n).isSome := by simp [hg]
  cases r with
  | none =>
    simp at hm h1
    obtain ⟨_, rfl⟩ := hm
    have c4 : esB row ks (es ++ [(k, z, ck)]) = true := by rw [esB_iff] at c2 ⊢; intro e he; rcases List.mem_append.1 he with he | he; exact c2 e he; simp at he; rw [he]; exact c1
    simp only [eLook, mapOf, hget_hset h n n _ hs, if_true, Option.bind_some, c1, c4, and_self, tfind_app c3 es 0 hr]
    simp [h1]
  | some q =>
    obtain ⟨j, x0, s⟩ := q
    simp at hm h1
    obtain ⟨_, rfl⟩ := hm
    obtain ⟨_, h5⟩ := tfind_set c3 es 0 j x0 s hr
    have c4 : esB row ks (es.set j (k, x0, s)) = true := by
      rw [esB_iff] at c2 ⊢
      intro e he
      rcases List.mem_or_eq_of_mem_set he with he | he
      · exact c2 e he
      · rw [he]; exact c1
    simp only [Nat.sub_zero] at h5
    simp only [eLook, mapOf, hget_hset h n n _ hs, if_true, Option.bind_some, c1, c4, and_self, h5]
    simp [h1]
theorem swapLM {a b : En} {s s1 s2 : S} (hc : Cnd C p a b) (hl : LM a.1.2 b.1.2) (h1 : stepE C call p a.1 s = some s1) (h2 : stepE C call p b.1 s1 = some s2) (ha : fpE C a.1 s = a.2) (hb : fpE C b.1 s1 = b.2) :
    ∃ s1' s2', stepE C call p b.1 s = some s1' ∧ stepE C call p a.1 s1' = some s2' ∧ Sim s2' s2 ∧ fpE C b.1 s = b.2 ∧ fpE C a.1 s1' = a.2 := by
  obtain ⟨⟨i, qa⟩, na⟩ := a
  obtain ⟨⟨j, qb⟩, nb⟩ := b
  obtain ⟨fr, h, L⟩ := s
  obtain ⟨da, db, row, ks, z, m, k, ea, eb⟩ := hl
  obtain ⟨_, r1, r2, r3, _, _, _⟩ := hc
  simp only at ea eb r1 r2 r3 h1 h2 ha hb ⊢
  subst ea; subst eb
  simp only [rdq, rds, List.append_nil, List.mem_append, not_or] at r1 r2
  simp only [stepE, gd, evR] at h1
  obtain ⟨qx, hx0, e1⟩ := Option.map_eq_some_iff.1 h1
  obtain ⟨M, hM, hx1⟩ := Option.bind_eq_some_iff.1 hx0
  obtain ⟨K, hK, hx2⟩ := Option.bind_eq_some_iff.1 hx1
  obtain ⟨x, hx, rfl⟩ := Option.map_eq_some_iff.1 hx2
  subst e1
  have eM : ∀ v, eO (put fr da v) m = eO fr m := fun v => eOc fun t ht => by rw [fget_put, if_neg (fun q => (r1 t q).1 ht)]
  have eK : ∀ v, eO (put fr da v) k = eO fr k := fun v => eOc fun t ht => by rw [fget_put, if_neg (fun q => (r1 t q).2 ht)]
  have eM2 : ∀ v, eO (put fr db v) m = eO fr m := fun v => eOc fun t ht => by rw [fget_put, if_neg (fun q => (r2 t q).1 ht)]
  have eK2 : ∀ v, eO (put fr db v) k = eO fr k := fun v => eOc fun t ht => by rw [fget_put, if_neg (fun q => (r2 t q).2 ht)]
  simp only [stepE, gd, evR, eM, eK, hM, hK, Option.bind_some] at h2
  obtain ⟨qy, hy0, e2⟩ := Option.map_eq_some_iff.1 h2
  obtain ⟨⟨y, hh⟩, hy, rfl⟩ := Option.map_eq_some_iff.1 hy0
  subst e2
  have hx3 := look_ment hx hy
  refine ⟨(put fr db y, hh, L), (put (put fr db y) da x, hh, L), ?_, ?_, ⟨fun t => ?_, fun _ => rfl, fun _ => Iff.rfl⟩, ?_, ?_⟩
  · simp only [stepE, gd, evR, hM, hK, Option.bind_some, hy, Option.map_some]
  · simp only [stepE, gd, evR, eM2, eK2, hM, hK, Option.bind_some, hx3, Option.map_some]
  · simp only [fget_put]
    by_cases q : da = some t
    · simp [q, r3 t q]
    · simp [q]
  · rw [← hb]; simp only [fpE, gd, fpn, eM]
  · rw [← ha]; simp only [fpE, gd, fpn, eM2]
theorem swap {a b : En} {s s1 s2 : S} (hc : Cnd C p a b) (hfa : Fresh p a.1.1 s) (hf : Fresh p b.1.1 s) (h1 : stepE C call p a.1 s = some s1) (h2 : stepE C call p b.1 s1 = some s2) (ha : fpE C a.1 s = a.2) (hb : fpE C b.1 s1 = b.2) :
    ∃ s1' s2', stepE C call p b.1 s = some s1' ∧ stepE C call p a.1 s1' = some s2' ∧ Sim s2' s2 ∧ fpE C b.1 s = b.2 ∧ fpE C a.1 s1' = a.2 := by
  rcases hc.d1 with hd1 | hlm
  case inr => exact swapLM hc hlm h1 h2 ha hb
  obtain ⟨x, csa, adda, A⟩ := step_spec h1
  obtain ⟨y, csb, addb, B⟩ := step_spec h2
  have hf1 : Fresh p b.1.1 s1 := hf.step hc.ne h1
  have Ahas := A.has
  have Aout := A.out
  have Bhas := B.has
  have Bout := B.out
  have Atr := A.tr
  have Btr := B.tr
  rw [ha] at Ahas Aout Atr
  rw [hb] at Bhas Bout Btr
  -- what is b's among a's
  have nb : ∀ n ∈ a.2, ¬ p ++ [b.1.1] <+: n := fun n hn q => by have := Ahas n hn; rw [(hf n q).1] at this; cases this
  have na : ∀ n ∈ b.2, ¬ p ++ [a.1.1] <+: n := fun n hn q => by
    rcases hc.d2 with h | h
    · have := Bhas n hn
      rw [A.same h, (hfa n q).1] at this; cases this
    · exact h n hn q
  have cs0 : csb ≠ [] → csa = [] ∧ adda = [] := fun q => by
    have h3 : tcl b.1.2.r = 3 := by
      by_cases h : tcl b.1.2.r = 3
      · exact h
      · exact absurd (B.cs0 h) q
    have h0 := hc.t h3
    exact ⟨A.cs0 (by omega), A.add0 h0⟩
  -- b first
  have hAn : ∀ n, n ∈ b.2 → hget s1.2.1 n = hget s.2.1 n := fun n hn => by
    by_cases q : n ∈ a.2
    · rcases hd1 with h | h
      · exact A.new h.1 n (na n hn)
      · exact absurd hn (h n q)
    · exact Aout n q (na n hn)
  obtain ⟨e0, s1', q1, q2, q3, q4, q5⟩ := Btr s (fun t ht => by rw [A.fr, fget_put, if_neg (fun q => hc.r1 t q ht)]) (fun n hn => (hAn n hn).symm) (fun n hn => by rw [(hf n hn).1, (hf1 n hn).1]) (fun c hcc => by
    obtain ⟨h3, h4⟩ := cs0 (List.ne_nil_of_mem hcc)
    have := (A.tok c).1 (B.take c hcc)
    rw [h3, h4] at this
    simpa using this)
  -- a behind it
  have hBn : ∀ n, n ∈ a.2 → n ∈ b.2 → hget s2.2.1 n = hget s1.2.1 n := fun n hn hm => by
    rcases hd1 with h | h
    · exact B.new h.2 n (nb n hn)
    · exact absurd hm (h n hn)
  obtain ⟨e1, s2', r1, r2, r3, r4, r5⟩ := Atr s1' (fun t ht => by rw [q2, fget_put, if_neg (fun q => hc.r2 t q ht)]) (fun n hn => by
    by_cases q : n ∈ b.2
    · rw [q3 n (.inl q), hBn n hn q, hAn n q]
    · exact q4 n q (nb n hn)) (fun n hn => by
    have h3 : n ∉ b.2 := fun q => na n q hn
    exact q4 n h3 (fun q => hc.ne (pre_ne hn q))) (fun c hcc => by
    refine (q5 c).2 (.inr ⟨A.take c hcc, fun q => ?_⟩)
    have := (cs0 (List.ne_nil_of_mem q)).1
    rw [this] at hcc; cases hcc)
  refine ⟨s1', s2', q1, r1, ⟨fun k => ?_, fun n => ?_, fun n => ?_⟩, e0, e1⟩
  · rw [r2, q2, B.fr, A.fr, fget_put, fget_put, fget_put, fget_put]
    by_cases h : a.1.2.d = some k
    · simp [h, hc.r3 k h]
    · simp [h]
  · by_cases hn : n ∈ a.2 ∨ p ++ [a.1.1] <+: n
    · rw [r3 n hn]
      have hnb : ¬ p ++ [b.1.1] <+: n := fun q => hn.elim (fun h => nb n h q) (fun h => hc.ne (pre_ne h q))
      by_cases hm : n ∈ b.2
      · rcases hn with h | h
        · exact (hBn n h hm).symm
        · exact absurd h (na n hm)
      · exact (Bout n hm hnb).symm
    · have h3 : n ∉ a.2 := fun q => hn (.inl q)
      have h4 : ¬ p ++ [a.1.1] <+: n := fun q => hn (.inr q)
      rw [r4 n h3 h4]
      by_cases hm : n ∈ b.2 ∨ p ++ [b.1.1] <+: n
      · exact q3 n hm
      · have h5 : n ∉ b.2 := fun q => hm (.inl q)
        have h6 : ¬ p ++ [b.1.1] <+: n := fun q => hm (.inr q)
        rw [q4 n h5 h6, Bout n h5 h6, Aout n h3 h4]
  · rw [r5, q5, B.tok, A.tok]
    have g1 : n ∈ addb → n ∉ csa := fun h q => (hf n (B.addU n h)).2 (A.take n q)
    have g2 : n ∈ adda → n ∉ csb := fun h q => by
      have := (cs0 (List.ne_nil_of_mem q)).2
      rw [this] at h; cases h
    constructor
    · rintro (h | ⟨h | h, h'⟩)
      · exact .inr ⟨.inl h, g2 h⟩
      · exact .inl h
      · exact .inr ⟨.inr ⟨h.1, h'⟩, h.2⟩
    · rintro (h | ⟨h | h, h'⟩)
      · exact .inr ⟨.inl h, g1 h⟩
      · exact .inl h
      · exact .inr ⟨.inr ⟨h.1, h'⟩, h.2⟩

/-- A run of what is left. -/
inductive Run (C : Cfg) (call : FuncId → Name → List T → Heap → Option (T × Heap)) (p : Name) : List En → S → S → Prop
  | nil {s t : S} : Sim s t → Run C call p [] s t
  | cons {e : En} {l : List En} {s s1 t : S} : stepE C call p e.1 s = some s1 → fpE C e.1 s = e.2 → Run C call p l s1 t → Run C call p (e :: l) s t
theorem Run.congr {l : List En} {s s' t : S} (h : Run C call p l s t) (q : Sim s s') : Run C call p l s' t := by
  induction h generalizing s' with
  | nil h => exact .nil (q.symm.trans h)
  | cons h1 h2 _ ih =>
    obtain ⟨t1, q1, q2, q3⟩ := step_congr h1 q
    exact .cons q1 (q3.trans h2) (ih q2)
theorem Run.front {b : En} {l2 : List En} {t : S} : ∀ {l1 : List En} {s : S}, Run C call p (l1 ++ b :: l2) s t → (∀ a ∈ l1, Cnd C p a b) → Fresh p b.1.1 s → (∀ a ∈ l1, Fresh p a.1.1 s) → (l1.map (·.1.1)).Nodup → Run C call p (b :: (l1 ++ l2)) s t
  | [], s, h, _, _, _, _ => h
  | a :: l1, s, h, hc, hf, hfa, hd => by
    simp only [List.cons_append] at h
    cases h with
    | cons h1 h2 h3 =>
      rename_i s1
      have hca := hc a (by simp)
      have hd' : (∀ c ∈ l1, c.1.1 ≠ a.1.1) ∧ (l1.map (·.1.1)).Nodup := by
        simp only [List.map_cons, List.nodup_cons, List.mem_map, not_exists, not_and] at hd
        exact ⟨fun c hcc => hd.1 c hcc, hd.2⟩
      have ih := Run.front (l1 := l1) h3 (fun c hcc => hc c (by simp [hcc])) (hf.step hca.ne h1) (fun c hcc => (hfa c (by simp [hcc])).step (Ne.symm (hd'.1 c hcc)) h1) hd'.2
      cases ih with
      | cons g1 g2 g3 =>
        obtain ⟨s1', s2', r1, r2, r3, r4, r5⟩ := swap hca (hfa a (by simp)) hf h1 g1 h2 g2
        exact .cons r1 r4 (.cons r2 r5 (g3.congr r3.symm))
end
end Go.AE
