import Derived.Test.YtohbipkmfhmibaaGreatDoorAE25
/-! AE26: a region as a run; what waits for what. -/
set_option linter.unusedVariables false
set_option linter.unusedSimpArgs false
namespace Go.AE
open Go.RowKit Go.LB

def disjD (d : Option Nat) (l : List Nat) : Bool := match d with | none => true | some d => !l.contains d
def neD (a b : Option Nat) : Bool := match a, b with | some x, some y => x != y | _, _ => true
def hB (C : Cfg) (j i : ROp) : Bool := hcl C j.r == 0 || hcl C i.r == 0 || (hcl C j.r == 1 && (hcl C i.r == 1 || hcl C i.r == 2))
/-- j ahead of i may as well come behind i: all but what the blocks say. -/
def fB (j i : ROp) : Bool :=
  disjD j.d (rdq i) && disjD i.d (rdq j) && neD j.d i.d && (tcl i.r != 3 || tcl j.r == 0)
/-- What an operation waits for. -/
def depL (o : Oper) : List Nat := (o.after.toList.filter fun e => Region.binds .any e).map (·.on)
def closure (ops : List Oper) : List (List Nat) :=
  ops.foldl (fun (acc : List (List Nat)) o => acc ++ [(depL o).foldl (fun l j => if l.contains j then l else l ++ (j :: (acc.getD j []).filter (fun k => !l.contains k))) []]) []
/-- Each row of 'cl' holds such alone as are waited for. -/
def clB (cl : List (List Nat)) : List Oper → Nat → Bool
  | [], _ => true
  | o :: l, i => (cl.getD i []).all (fun j => (depL o).contains j || (depL o).any fun k => (cl.getD k []).contains j) && clB cl l (i + 1)
def prsB (C : Cfg) (prs : List (Nat × Nat)) (i : Nat) (q : ROp) (row : List Nat) : List ROp → Nat → Bool
  | [], _ => true
  | a :: l, j => (Nat.ble i j || row.contains j || (fB a q && (hB C a q || prs.contains (j, i)))) && prsB C prs i q row l (j + 1)
def drawL (C : Cfg) (prs : List (Nat × Nat)) (all : List ROp) (cl : List (List Nat)) : List ROp → Nat → Bool
  | [], _ => true
  | q :: l, i => prsB C prs i q (cl.getD i []) all 0 && drawL C prs all cl l (i + 1)
def drawB (C : Cfg) (prs : List (Nat × Nat)) (rops : List ROp) (ops : List Oper) : Bool :=
  topoB ops && clB (closure ops) ops 0 && drawL C prs rops (closure ops) rops 0
/-- The pairs that want a look at what they touch. -/
def prsOf (C : Cfg) (rops : List ROp) (ops : List Oper) : List (Nat × Nat) :=
  let cl := closure ops
  (rops.zipIdx).flatMap fun (q, i) => (rops.zipIdx).filterMap fun (a, j) =>
    if decide (j < i) && !((cl.getD i []).contains j) && !(hB C a q) then some (j, i) else none

theorem disjD_iff {d : Option Nat} {l : List Nat} : disjD d l = true ↔ ∀ x, d = some x → x ∉ l := by
  cases d <;> simp [disjD]
theorem neD_iff {a b : Option Nat} (h : neD a b = true) : ∀ x, a = some x → b ≠ some x := by
  intro x hx hb; subst hx; subst hb; simp [neD] at h
theorem clB_get {cl : List (List Nat)} : ∀ {l : List Oper} {i : Nat}, clB cl l i = true → ∀ (k : Nat) o, l[k]? = some o → ∀ j ∈ cl.getD (i + k) [], j ∈ depL o ∨ ∃ m ∈ depL o, j ∈ cl.getD m []
  | [], _, _, k, o, ho => by simp at ho
  | o :: l, i, h, k, o', ho => by
    simp only [clB, Bool.and_eq_true] at h
    cases k with
    | zero =>
      cases ho
      intro j hj
      have := List.all_eq_true.1 h.1 j hj
      simp only [Bool.or_eq_true, List.any_eq_true, List.contains_iff_mem] at this
      exact this
    | succ k => have := clB_get h.2 k o' (by simpa using ho); rwa [show i + 1 + k = i + (k + 1) by omega] at this
theorem prsB_get {C : Cfg} {prs : List (Nat × Nat)} {i : Nat} {q : ROp} {row : List Nat} : ∀ {l : List ROp} {j : Nat}, prsB C prs i q row l j = true → ∀ (k : Nat) a, l[k]? = some a → j + k < i → (j + k) ∈ row ∨ (fB a q = true ∧ (hB C a q = true ∨ (j + k, i) ∈ prs))
  | [], _, _, k, a, ha, _ => by simp at ha
  | b :: l, j, h, k, a, ha, hlt => by
    simp only [prsB, Bool.and_eq_true] at h
    cases k with
    | zero =>
      cases ha
      have := h.1
      simp only [Bool.or_eq_true, Bool.and_eq_true, List.contains_iff_mem, Nat.ble_eq] at this
      rcases this with (h | h) | h
      · omega
      · exact .inl h
      · exact .inr h
    | succ k => have := prsB_get h.2 k a (by simpa using ha) (by omega); rwa [show j + 1 + k = j + (k + 1) by omega] at this
theorem drawL_get {C : Cfg} {prs : List (Nat × Nat)} {all : List ROp} {cl : List (List Nat)} : ∀ {l : List ROp} {i : Nat}, drawL C prs all cl l i = true → ∀ (k : Nat) q, l[k]? = some q → prsB C prs (i + k) q (cl.getD (i + k) []) all 0 = true
  | [], _, _, k, a, ha => by simp at ha
  | b :: l, i, h, k, a, ha => by
    simp only [drawL, Bool.and_eq_true] at h
    cases k with
    | zero => cases ha; exact h.1
    | succ k => have := drawL_get h.2 k a (by simpa using ha); rwa [show i + 1 + k = i + (k + 1) by omega] at this

def idx : List ROp → Nat → List (Nat × ROp)
  | [], _ => []
  | q :: l, i => (i, q) :: idx l (i + 1)
theorem idx_get : ∀ {l : List ROp} {i k : Nat}, (idx l i)[k]? = (l[k]?).map fun q => (i + k, q)
  | [], i, k => by simp [idx]
  | q :: l, i, 0 => by simp [idx]
  | q :: l, i, k + 1 => by simp only [idx, List.getElem?_cons_succ]; rw [idx_get]; congr 1; funext q; rw [show i + 1 + k = i + (k + 1) by omega]

section
variable {C : Cfg} {call : FuncId → Name → List T → Heap → Option (T × Heap)} {p : Name}
theorem step_HU {e : Nat × ROp} {s s1 : S} (h : stepE C call p e s = some s1) (hu : HU s.2.1) (hf : Fresh p e.1 s) : HU s1.2.1 := by
  obtain ⟨fr, k, L⟩ := s
  unfold stepE at h
  simp only at h
  cases hg : gd fr e.2.g with
  | none => rw [hg] at h; cases h
  | some b =>
    rw [hg] at h
    cases b with
    | false => cases h; exact hu
    | true =>
      simp only at h
      obtain ⟨⟨x, k1, L1⟩, hx, e1⟩ := Option.map_eq_some_iff.1 h
      cases e1
      have hs : HStep (p ++ [e.1]) call k (x, k1, L1).2.1 := evR_heap _ hx
      have key : ∀ z, HStep (p ++ [e.1]) call k z → HU z := by
        intro z hz
        cases hz with
        | same => exact hu
        | set n b => exact HU_hset hu
        | new b => exact HU_hnew hu (hf _ (pre_refl _)).1
        | hu hh => exact hh hu
      exact key _ hs
theorem nlook_cons (acc : List (Nat × List Name)) (i : Nat) (l : List Name) (k : Nat) : nlook ((i, l) :: acc) k = if i = k then l else nlook acc k := by
  unfold nlook
  by_cases h : i = k
  · subst h; simp
  · simp [h]
theorem nlook_none {acc : List (Nat × List Name)} {i : Nat} (h : ∀ x ∈ acc, x.1 < i) {k : Nat} (hk : i ≤ k) : nlook acc k = [] := by
  unfold nlook
  have : acc.find? (fun x => x.1 == k) = none := by
    rw [List.find?_eq_none]
    intro x hx
    have := h x hx
    simp; omega
  rw [this]
theorem evSeqD_run {mk : Nat → Bool} : ∀ (l : List ROp) (i : Nat) (s : S) (acc acc' : List (Nat × List Name)) (t : S), evSeqD C call p mk l i s.1 s.2.1 s.2.2 acc = some (t, acc') → (∀ x ∈ acc, x.1 < i) → (∀ j, i ≤ j → Fresh p j s) → HU s.2.1 →
    ∃ es : List En, es.map (·.1) = idx l i ∧ Run C call p es s t ∧ (∀ e ∈ es, mk e.1.1 = true → nlook acc' e.1.1 = e.2) ∧ (∀ k, k < i → nlook acc' k = nlook acc k) ∧ HU t.2.1
  | [], i, s, acc, acc', t, h, _, _, hu => by
    simp only [evSeqD] at h
    cases h
    exact ⟨[], rfl, .nil (Sim.refl _), by simp, fun _ _ => rfl, hu⟩
  | q :: l, i, s, acc, acc', t, h, hacc, hf, hu => by
    simp only [evSeqD] at h
    have go : ∀ (s1 : S) (acc1 : List (Nat × List Name)), stepE C call p (i, q) s = some s1 → evSeqD C call p mk l (i + 1) s1.1 s1.2.1 s1.2.2 acc1 = some (t, acc') → (∀ x ∈ acc1, x.1 < i + 1) → (mk i = true → nlook acc1 i = fpE C (i, q) s) → (∀ k, k < i → nlook acc1 k = nlook acc k) →
        ∃ es : List En, es.map (·.1) = idx (q :: l) i ∧ Run C call p es s t ∧ (∀ e ∈ es, mk e.1.1 = true → nlook acc' e.1.1 = e.2) ∧ (∀ k, k < i → nlook acc' k = nlook acc k) ∧ HU t.2.1 := by
      intro s1 acc1 h1 h2 h3 h4 h5
      obtain ⟨es, e1, e2, e3, e4, e5⟩ := evSeqD_run l (i + 1) s1 acc1 acc' t h2 h3 (fun j hj => (hf j (by omega)).step (by simp only; omega) h1) (step_HU h1 hu (hf i (Nat.le_refl _)))
      refine ⟨((i, q), fpE C (i, q) s) :: es, by simp [idx, e1], .cons h1 rfl e2, ?_, fun k hk => (e4 k (by omega)).trans (h5 k hk), e5⟩
      intro e he hm
      rcases List.mem_cons.1 he with rfl | he
      · exact (e4 i (by omega)).trans (h4 hm)
      · exact e3 e he hm
    cases hg : gd s.1 q.g with
    | none => rw [hg] at h; cases h
    | some b =>
      rw [hg] at h
      cases b with
      | true =>
        simp only at h
        obtain ⟨⟨x, k1, L1⟩, hx, h⟩ := Option.bind_eq_some_iff.1 h
        have hfp : fpE C (i, q) s = fpn C s.1 s.2.1 q.r := by simp only [fpE, hg]
        refine go (put s.1 q.d x, k1, L1) _ (by unfold stepE; simp only [hg, hx, Option.map_some]) h ?_ ?_ ?_
        · intro y hy
          split at hy
          · rcases List.mem_cons.1 hy with rfl | hy
            · simp
            · have := hacc y hy; omega
          · have := hacc y hy; omega
        · intro hm
          rw [hm, hfp]
          simp only [if_true]
          rw [nlook_cons]; simp
        · intro k hk
          split
          · rw [nlook_cons, if_neg (by omega)]
          · rfl
      | false =>
        simp only at h
        refine go (put s.1 q.d (.tup []), s.2.1, s.2.2) acc (by unfold stepE; simp only [hg]) h (fun y hy => by have := hacc y hy; omega) (fun _ => ?_) (fun _ _ => rfl)
        rw [nlook_none hacc (Nat.le_refl _)]
        simp only [fpE, hg]
theorem evSeq_D : ∀ (l : List ROp) (i : Nat) (fr : Fr) (h : Heap) (L : List Name) (acc : List (Nat × List Name)) (t : S), evSeq C call p l i fr h L = some t → evSeqD C call p (fun _ => false) l i fr h L acc = some (t, acc)
  | [], i, fr, h, L, acc, t, e => by simp only [evSeq] at e; cases e; rfl
  | q :: l, i, fr, h, L, acc, t, e => by
    simp only [evSeq] at e
    simp only [evSeqD]
    cases hg : gd fr q.g with
    | none => rw [hg] at e; cases e
    | some b =>
      rw [hg] at e
      cases b with
      | true =>
        simp only at e ⊢
        obtain ⟨⟨x, k1, L1⟩, hx, e⟩ := Option.bind_eq_some_iff.1 e
        rw [hx]
        exact evSeq_D l (i + 1) _ _ _ acc t e
      | false => exact evSeq_D l (i + 1) _ _ _ acc t e
theorem lmB_LM {a b : ROp} (h : lmB (some a) (some b) = true) : LM a b := by
  unfold lmB at h
  split at h
  · rename_i e1 e2
    cases e1; cases e2
    simp only [Bool.and_eq_true, beq_iff_eq, decide_eq_true_eq] at h
    obtain ⟨⟨⟨⟨⟨rfl, rfl⟩, rfl⟩, rfl⟩, rfl⟩, rfl⟩ := h
    exact ⟨_, _, _, _, _, _, _, rfl, rfl⟩
  · cases h
/-- A region as a run of its operations, and which of them may swap. -/
theorem reg_run {prs : List (Nat × Nat)} {rops : List ROp} {ops : List Oper} {fr : Fr} {h : Heap} {L : List Name} {t : S} (hx : evReg C call p prs rops fr h L = some t) (hd : drawB C prs rops ops = true) (hf : ∀ j, Fresh p j (fr, h, L)) (hu : HU h) :
    ∃ es : List En, es.map (·.1) = idx rops 0 ∧ Run C call p es (fr, h, L) t ∧ HU t.2.1 ∧ ∀ a ∈ es, ∀ b ∈ es, a.1.1 < b.1.1 → a.1.1 ∈ (closure ops).getD b.1.1 [] ∨ Cnd C p a b := by
  have key : ∃ es : List En, es.map (·.1) = idx rops 0 ∧ Run C call p es (fr, h, L) t ∧ HU t.2.1 ∧ ∀ a ∈ es, ∀ b ∈ es, (a.1.1, b.1.1) ∈ prs → (((hcl C a.1.2.r ≠ 3 ∧ hcl C b.1.2.r ≠ 3) ∨ ∀ n ∈ a.2, n ∉ b.2) ∨ LM a.1.2 b.1.2) ∧ (hcl C a.1.2.r ≤ 1 ∨ ∀ n ∈ b.2, ¬ p ++ [a.1.1] <+: n) := by
    unfold evReg at hx
    split at hx
    · have hx2 := evSeq_D rops 0 fr h L [] t hx
      obtain ⟨es, e1, e2, _, _, e5⟩ := evSeqD_run rops 0 (fr, h, L) [] [] t hx2 (by simp) (fun j _ => hf j) hu
      exact ⟨es, e1, e2, e5, fun a _ b _ hm => by cases hm⟩
    · obtain ⟨⟨t', acc⟩, hx2, hx⟩ := Option.bind_eq_some_iff.1 hx
      split at hx
      case isFalse => cases hx
      rename_i hall
      cases hx
      obtain ⟨es, e1, e2, e3, _, e5⟩ := evSeqD_run rops 0 (fr, h, L) [] acc _ hx2 (by simp) (fun j _ => hf j) hu
      refine ⟨es, e1, e2, e5, fun a ha b hb hm => ?_⟩
      have hop : ∀ e ∈ es, rops[e.1.1]? = some e.1.2 := fun e he => by
        have : e.1 ∈ idx rops 0 := by rw [← e1]; exact List.mem_map.2 ⟨e, he, rfl⟩
        obtain ⟨k, hk⟩ := List.mem_iff_getElem?.1 this
        rw [idx_get] at hk
        obtain ⟨q, hq, e2⟩ := Option.map_eq_some_iff.1 hk
        rw [← e2]; simpa using hq
      have hw : ∀ e ∈ es, wrR C rops e.1.1 = hcl C e.1.2.r := fun e he => by simp only [wrR, hop e he]
      have := List.all_eq_true.1 hall _ hm
      have ma : nlook acc a.1.1 = a.2 := e3 a ha (by rw [List.any_eq_true]; exact ⟨_, hm, by simp⟩)
      have mb : nlook acc b.1.1 = b.2 := e3 b hb (by rw [List.any_eq_true]; exact ⟨_, hm, by simp⟩)
      simp only [dynB, ma, mb, hw a ha, hw b hb, Bool.and_eq_true, Bool.or_eq_true, Nat.ble_eq, List.all_eq_true] at this
      refine ⟨?_, this.2.imp id fun q n hn hp => ?_⟩
      · rcases this.1 with (q | q) | q
        · exact .inl (.inl (by simpa using q))
        · exact .inl (.inr fun n hn => by have := q n hn; simpa using this)
        · exact .inr (lmB_LM (by rw [← hop a ha, ← hop b hb]; exact q))
      · have := q n hn
        have h2 : (p ++ [a.1.1]).isPrefixOf n = true := by simpa using hp
        rw [h2] at this; cases this
  obtain ⟨es, e1, e2, e5, hdyn⟩ := key
  refine ⟨es, e1, e2, e5, fun a ha b hb hlt => ?_⟩
  have hop : ∀ e ∈ es, rops[e.1.1]? = some e.1.2 := fun e he => by
    have : e.1 ∈ idx rops 0 := by rw [← e1]; exact List.mem_map.2 ⟨e, he, rfl⟩
    obtain ⟨k, hk⟩ := List.mem_iff_getElem?.1 this
    rw [idx_get] at hk
    obtain ⟨q, hq, e2⟩ := Option.map_eq_some_iff.1 hk
    rw [← e2]; simpa using hq
  simp only [drawB, Bool.and_eq_true] at hd
  have h1 := drawL_get hd.2 b.1.1 b.1.2 (hop b hb)
  rw [Nat.zero_add] at h1
  have h2 := prsB_get h1 a.1.1 a.1.2 (hop a ha) (by omega)
  rw [Nat.zero_add] at h2
  rcases h2 with h2 | ⟨h2, h3⟩
  · exact .inl h2
  right
  simp only [fB, Bool.and_eq_true, disjD_iff, Bool.or_eq_true] at h2
  have hh : (((hcl C a.1.2.r ≠ 3 ∧ hcl C b.1.2.r ≠ 3) ∨ ∀ n ∈ a.2, n ∉ b.2) ∨ LM a.1.2 b.1.2) ∧ (hcl C a.1.2.r ≤ 1 ∨ ∀ n ∈ b.2, ¬ p ++ [a.1.1] <+: n) := by
    rcases h3 with h3 | h3
    · have h0 : ∀ e ∈ es, (hcl C e.1.2.r = 0 ∨ hcl C e.1.2.r = 2) → e.2 = [] := by
        have : ∀ {es : List En} {s t : S}, Run C call p es s t → ∀ e ∈ es, (hcl C e.1.2.r = 0 ∨ hcl C e.1.2.r = 2) → e.2 = [] := by
          intro es s t hr
          induction hr with
          | nil => intro e he; cases he
          | @cons e0 l s s1 t g1 g2 _ ih =>
            intro e he hz
            rcases List.mem_cons.1 he with rfl | he
            · rw [← g2]
              unfold fpE
              split
              · exact fpn_zero hz
              · rfl
            · exact ih e he hz
        exact this e2
      simp only [hB, Bool.or_eq_true, Bool.and_eq_true, beq_iff_eq] at h3
      rcases h3 with (h3 | h3) | ⟨h3, h4 | h4⟩
      · rw [h0 a ha (.inl h3)]; exact ⟨.inl (.inr (by simp)), .inl (by omega)⟩
      · rw [h0 b hb (.inl h3)]; exact ⟨.inl (.inr (by simp)), .inr (by simp)⟩
      · exact ⟨.inl (.inl (by omega)), .inl (by omega)⟩
      · exact ⟨.inl (.inl (by omega)), .inl (by omega)⟩
    · exact hdyn a ha b hb h3
  exact ⟨by omega, h2.1.1.1, h2.1.1.2, neD_iff h2.1.2, hh.1, hh.2, fun q => by
    rcases h2.2 with h | h
    · simp [q] at h
    · simpa using h⟩
end
end Go.AE
