import Derived.Test.YtohbipkmfhmibaaGreatDoorAE2
/-! AE3: more steps: a block that is written, new rows, a row that grows in place, a block that is frozen. -/
set_option linter.unusedVariables false
namespace Go.AE
open Go.RowKit Go.LB

section
variable {U : Name → Prop} {E : Env} {G : Name → Option Blk} {L : Name → Prop} {w w' : World}

theorem MapRel.ext {M : Nat → Prop} {E E' : Env} {w w' : World} (X : Ext M E E' w w') {es : List (T × T × Nat)} {ves : Array MapEntry} (h : MapRel E w es ves) : MapRel E' w' es ves :=
  ⟨h.1, fun i k x s hi => by obtain ⟨me, a1, a2, a3, a4⟩ := h.2 i k x s hi; exact ⟨me, a1, a2.ext X, a3.ext X, a4⟩⟩

theorem St.tok_lt (h : St E G L w) {m : Name} (hm : L m) {b e r : Nat} (ht : E.τ m = some (b, e, r)) : b < w.heap.size := by
  obtain ⟨⟨vs, el, h3, _⟩, _⟩ := h.tok m hm b e r ht; exact (Array.getElem?_eq_some_iff.1 h3).1

/-- A block of ours is written. -/
theorem Walk.set_blk (h : St E G L w) {n : Name} {b : Nat} (hG : G n ≠ none) (hρ : E.ρ n = some b) (x : Blk) (k : Keep (fun i => i = b) w w')
    (hbox : ∀ cs, x = .box cs → ∃ vs e, w'.heap[b]? = some (.cells vs e (0, 0)) ∧ RelP E w cs vs.toList ∧ ∀ u ∈ vs.toList, u.oneCell' = true)
    (hmap : ∀ es ck, x = .map es ck → ∃ ves, w'.heap[b]? = some (.map ves ck) ∧ MapRel E w es ves) :
    Walk U E G L w E (updN G n (some x)) L w' := by
  have X : Ext (fun i => i = b) E E w w' := ⟨k, fun _ _ x => x, fun c o hz => cell_keep k (h.zlt c o hz) (fun e => h.zbox n b o hG hρ (e ▸ hz)), fun _ _ x => x, fun _ _ x => x, rfl, rfl, rfl⟩
  have hmb : Mine E G L b := .inl ⟨n, hG, hρ⟩
  have hne : ∀ m, updN G n (some x) m ≠ none → G m ≠ none := fun m hm => by
    by_cases q : n = m
    · subst q; exact hG
    · rw [updN_ne _ _ q] at hm; exact hm
  have hmine : ∀ c, Mine E (updN G n (some x)) L c → Mine E G L c := fun c hc => hc.sub hne (fun _ x => x)
  have hb : ∀ c q, c ≠ b → w.heap[c]? = some q → w'.heap[c]? = some q := fun c q hc e => (k.block c (Array.getElem?_eq_some_iff.1 e).1 hc).trans e
  refine ⟨⟨?_, ?_, fun m m' c h1 h2 => h.inj m m' c (hne m h1) (hne m' h2), fun m c o h1 => h.zbox m c o (hne m h1), fun c o hz => Nat.lt_of_lt_of_le (h.zlt c o hz) k.size, ?_, fun m c e r m' hm ht h1 => h.tokbox m c e r m' hm ht (hne m' h1), h.toktok, ?_, ?_, h.glinj⟩, X.weaken fun c _ e => e ▸ hmb, fun c _ hc => hmine c hc, fun _ _ x => .inl x, fun _ x => .inl x, fun _ x => .inl x, fun _ x => .inl x⟩
  · intro m cs e
    by_cases q : n = m
    · subst q
      simp at e
      obtain ⟨vs, el, h1, h2, h3⟩ := hbox cs e
      exact ⟨b, vs, el, hρ, h1, h2.ext X, h3⟩
    · rw [updN_ne _ _ q] at e
      obtain ⟨c, vs, el, h1, h2, h3, h4⟩ := h.box m cs e
      have hc : c ≠ b := fun e2 => q (h.inj n m b hG (by rw [e]; simp) hρ (e2 ▸ h1))
      exact ⟨c, vs, el, h1, hb _ _ hc h2, h3.ext X, h4⟩
  · intro m es ck e
    by_cases q : n = m
    · subst q
      simp at e
      obtain ⟨ves, h1, h2⟩ := hmap es ck e
      exact ⟨b, ves, hρ, h1, h2.ext X⟩
    · rw [updN_ne _ _ q] at e
      obtain ⟨c, ves, h1, h2, h3⟩ := h.map m es ck e
      have hc : c ≠ b := fun e2 => q (h.inj n m b hG (by rw [e]; simp) hρ (e2 ▸ h1))
      exact ⟨c, ves, h1, hb _ _ hc h2, MapRel.ext X h3⟩
  · intro m hm c e r t
    obtain ⟨⟨vs, el, h3, h4⟩, h5⟩ := h.tok m hm c e r t
    have hc : c ≠ b := fun e2 => h.tokbox m c e r n hm t hG (e2 ▸ hρ)
    exact ⟨⟨vs, el, hb _ _ hc h3, h4⟩, h5⟩
  · intro c hF
    exact ⟨Nat.lt_of_lt_of_le (h.F c hF).1 k.size, fun hm => (h.F c hF).2 (hmine c hm)⟩
  · intro j hj
    obtain ⟨c, vs, e, h1, h2, h3, h4⟩ := h.gl j hj
    have hc : c ≠ b := fun e2 => (h.F c h2).2 (e2 ▸ hmb)
    exact ⟨c, vs, e, h1, h2, hb _ _ hc h3, h4⟩

/-- A new row: its first m cells are frozen, what is behind is ours. -/
theorem Walk.new_tok (h : St E G L w) (k : New w w') {n : Name} (hn : E.τ n = none) (hU : U n) {b m r : Nat} {vs : Array Value} {el : TypeId} (hb : w.heap.size ≤ b) (hh : w'.heap[b]? = some (.cells vs el (0, 0))) (hr : m + r ≤ vs.size) :
    Walk U E G L w { E with Z := fun c o => E.Z c o ∨ (c = b ∧ o < m), τ := updN E.τ n (some (b, m, r)) } G (fun x => L x ∨ x = n) w' := by
  have hb' : b < w'.heap.size := (Array.getElem?_eq_some_iff.1 hh).1
  have X : Ext (fun _ => False) E { E with Z := fun c o => E.Z c o ∨ (c = b ∧ o < m), τ := updN E.τ n (some (b, m, r)) } w w' :=
    ⟨k, fun _ _ x => .inl x, fun c o hz => cell_keep k (h.zlt c o hz) id, fun _ _ x => x, fun m' t e => by
      have : n ≠ m' := fun q => by subst q; rw [hn] at e; cases e
      show updN E.τ n _ m' = _
      rw [updN_ne _ _ this]; exact e, rfl, rfl, rfl⟩
  have hkb : ∀ c q, w.heap[c]? = some q → w'.heap[c]? = some q := fun c q e => (k.block c (Array.getElem?_eq_some_iff.1 e).1 id).trans e
  have htk : ∀ m' c e s, (L m' ∨ m' = n) → updN E.τ n (some (b, m, r)) m' = some (c, e, s) → (m' = n ∧ c = b ∧ e = m ∧ s = r) ∨ (m' ≠ n ∧ L m' ∧ E.τ m' = some (c, e, s) ∧ c < w.heap.size) := by
    intro m' c e s h1 h2
    by_cases q : n = m'
    · subst q; simp at h2; exact .inl ⟨rfl, h2.1.symm, h2.2.1.symm, h2.2.2.symm⟩
    · rw [updN_ne _ _ q] at h2
      have hL := h1.resolve_right (fun e => q e.symm)
      exact .inr ⟨fun e => q e.symm, hL, h2, h.tok_lt hL h2⟩
  have hmine : ∀ c, Mine { E with Z := fun c o => E.Z c o ∨ (c = b ∧ o < m), τ := updN E.τ n (some (b, m, r)) } G (fun x => L x ∨ x = n) c → c = b ∨ Mine E G L c := by
    intro c hc
    rcases hc with ⟨m', h1, h2⟩ | ⟨m', h1, e, s, h2⟩
    · exact .inr (.inl ⟨m', h1, h2⟩)
    · rcases htk m' c e s h1 h2 with ⟨_, h3, _⟩ | ⟨_, h3, h4, _⟩
      · exact .inl h3
      · exact .inr (.inr ⟨m', h3, e, s, h4⟩)
  refine ⟨⟨?_, ?_, h.inj, ?_, ?_, ?_, ?_, ?_, ?_, ?_, h.glinj⟩, X.weaken fun _ _ x => x.elim, ?_, fun c o hz => hz.elim .inl fun q => .inr (.inr (q.1 ▸ hb)), fun _ x => .inl x, ?_, fun m' x => x.elim .inl fun q => .inr (q ▸ hU)⟩
  · intro m' cs e
    obtain ⟨c, vs, el, h1, h2, h3, h4⟩ := h.box m' cs e
    exact ⟨c, vs, el, h1, hkb _ _ h2, h3.ext X, h4⟩
  · intro m' es ck e
    obtain ⟨c, ves, h1, h2, h3⟩ := h.map m' es ck e
    exact ⟨c, ves, h1, hkb _ _ h2, MapRel.ext X h3⟩
  · intro m' c o h1 h2 hz
    rcases hz with hz | ⟨hz, _⟩
    · exact h.zbox m' c o h1 h2 hz
    · obtain ⟨c', h3, h4⟩ := h.ρ_some h1
      have h2' : E.ρ m' = some c := h2
      rw [h2'] at h3; cases h3; omega
  · intro c o hz
    rcases hz with hz | ⟨hz, _⟩
    · exact Nat.lt_of_lt_of_le (h.zlt c o hz) k.size
    · omega
  · intro m' hm c e s ht
    rcases htk m' c e s hm ht with ⟨_, rfl, rfl, rfl⟩ | ⟨_, h3, h4, h5⟩
    · refine ⟨⟨vs, el, hh, hr⟩, fun j hj hz => ?_⟩
      rcases hz with hz | ⟨_, hz⟩
      · have := h.zlt _ _ hz; omega
      · omega
    · obtain ⟨⟨us, el', h6, h7⟩, h8⟩ := h.tok m' h3 c e s h4
      refine ⟨⟨us, el', hkb _ _ h6, h7⟩, fun j hj hz => ?_⟩
      rcases hz with hz | ⟨hz, _⟩
      · exact h8 j hj hz
      · omega
  · intro m' c e s m2 hm ht h1
    rcases htk m' c e s hm ht with ⟨_, rfl, rfl, rfl⟩ | ⟨_, h3, h4, h5⟩
    · intro h2
      obtain ⟨c', h3, h4⟩ := h.ρ_some h1
      have h2' : E.ρ m2 = some c := h2
      rw [h2'] at h3; cases h3; omega
    · exact h.tokbox m' c e s m2 h3 h4 h1
  · intro m1 m2 c e s e' s' h1 h2 h3 h4
    rcases htk m1 c e s h1 h3 with ⟨a1, a2, _⟩ | ⟨a1, a2, a3, a4⟩ <;> rcases htk m2 c e' s' h2 h4 with ⟨b1, b2, _⟩ | ⟨b1, b2, b3, b4⟩
    · exact a1.trans b1.symm
    · omega
    · omega
    · exact h.toktok m1 m2 c e s e' s' a2 b2 a3 b3
  · intro c hF
    obtain ⟨h1, h2⟩ := h.F c hF
    refine ⟨Nat.lt_of_lt_of_le h1 k.size, fun hm => ?_⟩
    rcases hmine c hm with h3 | h3
    · omega
    · exact h2 h3
  · intro j hj
    obtain ⟨c, vs, e, h1, h2, h3, h4⟩ := h.gl j hj
    exact ⟨c, vs, e, h1, h2, hkb _ _ h3, h4⟩
  · intro c hc hm
    rcases hmine c hm with h3 | h3
    · omega
    · exact h3
  · intro m' hm
    by_cases q : n = m'
    · subst q; exact .inr hU
    · left; rw [← updN_ne E.τ (some (b, m, r)) q]; exact hm

/-- A row of ours grows in place. -/
theorem Walk.tok_app (h : St E G L w) {n n' : Name} (hL : L n) {b e r m : Nat} (ht : E.τ n = some (b, e, r)) (hm : m ≤ r) (hn : E.τ n' = none) (hU : U n') (k : Keep (fun i => i = b) w w')
    (hsame : ∀ j, j < e → w'.cell? ⟨b, j, none⟩ = w.cell? ⟨b, j, none⟩) {vs : Array Value} {el : TypeId} (hh : w'.heap[b]? = some (.cells vs el (0, 0))) (hr : e + r ≤ vs.size) :
    Walk U E G L w { E with Z := fun c o => E.Z c o ∨ (c = b ∧ e ≤ o ∧ o < e + m), τ := updN E.τ n' (some (b, e + m, r - m)) } G (fun x => (L x ∧ x ≠ n) ∨ x = n') w' := by
  have hnn : n ≠ n' := fun q => by subst q; rw [hn] at ht; cases ht
  have hz0 : ∀ o, E.Z b o → o < e := fun o hz => by
    rcases Nat.lt_or_ge o e with h1 | h1
    · exact h1
    · exact absurd hz ((h.tok n hL b e r ht).2 o h1)
  have hmb : Mine E G L b := .inr ⟨n, hL, e, r, ht⟩
  have X : Ext (fun i => i = b) E { E with Z := fun c o => E.Z c o ∨ (c = b ∧ e ≤ o ∧ o < e + m), τ := updN E.τ n' (some (b, e + m, r - m)) } w w' :=
    ⟨k, fun _ _ x => .inl x, fun c o hz => by
      by_cases q : c = b
      · subst q; exact hsame o (hz0 o hz)
      · exact cell_keep k (h.zlt c o hz) q, fun _ _ x => x, fun m' t e => by
      have : n' ≠ m' := fun q => by subst q; rw [hn] at e; cases e
      show updN E.τ n' _ m' = _
      rw [updN_ne _ _ this]; exact e, rfl, rfl, rfl⟩
  have hkb : ∀ c q, c ≠ b → w.heap[c]? = some q → w'.heap[c]? = some q := fun c q hc e => (k.block c (Array.getElem?_eq_some_iff.1 e).1 hc).trans e
  have htk : ∀ m' c e1 s, ((L m' ∧ m' ≠ n) ∨ m' = n') → updN E.τ n' (some (b, e + m, r - m)) m' = some (c, e1, s) → (m' = n' ∧ c = b ∧ e1 = e + m ∧ s = r - m) ∨ (m' ≠ n' ∧ m' ≠ n ∧ L m' ∧ E.τ m' = some (c, e1, s) ∧ c ≠ b) := by
    intro m' c e1 s h1 h2
    by_cases q : n' = m'
    · subst q; simp at h2; exact .inl ⟨rfl, h2.1.symm, h2.2.1.symm, h2.2.2.symm⟩
    · rw [updN_ne _ _ q] at h2
      obtain ⟨hL', hne⟩ := h1.resolve_right (fun e => q e.symm)
      exact .inr ⟨fun e => q e.symm, hne, hL', h2, fun e2 => hne (h.toktok m' n c e1 s e r hL' hL h2 (e2 ▸ ht))⟩
  have hmine : ∀ c, Mine { E with Z := fun c o => E.Z c o ∨ (c = b ∧ e ≤ o ∧ o < e + m), τ := updN E.τ n' (some (b, e + m, r - m)) } G (fun x => (L x ∧ x ≠ n) ∨ x = n') c → Mine E G L c := by
    intro c hc
    rcases hc with ⟨m', h1, h2⟩ | ⟨m', h1, e1, s, h2⟩
    · exact .inl ⟨m', h1, h2⟩
    · rcases htk m' c e1 s h1 h2 with ⟨_, rfl, _⟩ | ⟨_, _, h3, h4, _⟩
      · exact hmb
      · exact .inr ⟨m', h3, e1, s, h4⟩
  have hbox : ∀ m', G m' ≠ none → E.ρ m' ≠ some b := fun m' => h.tokbox n b e r m' hL ht
  refine ⟨⟨?_, ?_, h.inj, ?_, ?_, ?_, ?_, ?_, ?_, ?_, h.glinj⟩, X.weaken fun c _ e => e ▸ hmb, fun c _ hc => hmine c hc, fun c o hz => hz.elim .inl fun q => .inr (.inl (q.1 ▸ hmb)), fun _ x => .inl x, ?_, fun m' x => x.elim (fun q => .inl q.1) fun q => .inr (q ▸ hU)⟩
  · intro m' cs e
    obtain ⟨c, vs, el, h1, h2, h3, h4⟩ := h.box m' cs e
    exact ⟨c, vs, el, h1, hkb _ _ (fun q => hbox m' (by simp [e]) (q ▸ h1)) h2, h3.ext X, h4⟩
  · intro m' es ck e
    obtain ⟨c, ves, h1, h2, h3⟩ := h.map m' es ck e
    exact ⟨c, ves, h1, hkb _ _ (fun q => hbox m' (by simp [e]) (q ▸ h1)) h2, MapRel.ext X h3⟩
  · intro m' c o h1 h2 hz
    rcases hz with hz | ⟨hz, _⟩
    · exact h.zbox m' c o h1 h2 hz
    · exact hbox m' h1 (hz ▸ h2)
  · intro c o hz
    rcases hz with hz | ⟨hz, _⟩
    · exact Nat.lt_of_lt_of_le (h.zlt c o hz) k.size
    · exact hz ▸ (Array.getElem?_eq_some_iff.1 hh).1
  · intro m' hm' c e1 s ht'
    rcases htk m' c e1 s hm' ht' with ⟨_, rfl, rfl, rfl⟩ | ⟨_, _, h3, h4, h5⟩
    · refine ⟨⟨vs, el, hh, by omega⟩, fun j hj hz => ?_⟩
      rcases hz with hz | ⟨_, _, hz⟩
      · have := hz0 _ hz; omega
      · omega
    · obtain ⟨⟨us, el', h6, h7⟩, h8⟩ := h.tok m' h3 c e1 s h4
      refine ⟨⟨us, el', hkb _ _ h5 h6, h7⟩, fun j hj hz => ?_⟩
      rcases hz with hz | ⟨hz, _⟩
      · exact h8 j hj hz
      · exact h5 hz
  · intro m' c e1 s m2 hm' ht' h1
    rcases htk m' c e1 s hm' ht' with ⟨_, rfl, rfl, rfl⟩ | ⟨_, _, h3, h4, h5⟩
    · exact hbox m2 h1
    · exact h.tokbox m' c e1 s m2 h3 h4 h1
  · intro m1 m2 c e1 s e2 s2 h1 h2 h3 h4
    rcases htk m1 c e1 s h1 h3 with ⟨a1, a2, _⟩ | ⟨a1, a2, a3, a4, a5⟩ <;> rcases htk m2 c e2 s2 h2 h4 with ⟨b1, b2, _⟩ | ⟨b1, b2, b3, b4, b5⟩
    · exact a1.trans b1.symm
    · exact absurd a2 b5
    · exact absurd b2 a5
    · exact h.toktok m1 m2 c e1 s e2 s2 a3 b3 a4 b4
  · intro c hF
    exact ⟨Nat.lt_of_lt_of_le (h.F c hF).1 k.size, fun hm => (h.F c hF).2 (hmine c hm)⟩
  · intro j hj
    obtain ⟨c, vs, e, h1, h2, h3, h4⟩ := h.gl j hj
    exact ⟨c, vs, e, h1, h2, hkb _ _ (fun q => (h.F c h2).2 (q ▸ hmb)) h3, h4⟩
  · intro m' hm'
    by_cases q : n' = m'
    · subst q; exact .inr hU
    · left; rw [← updN_ne E.τ (some (b, e + m, r - m)) q]; exact hm'

/-- A block that nobody writes any more. -/
theorem Walk.freeze_blk (h : St E G L w) {n : Name} {b : Nat} (hG : G n ≠ none) (hρ : E.ρ n = some b) :
    Walk U E G L w { E with Z := fun c o => E.Z c o ∨ c = b } (updN G n none) L w := by
  have X : Ext (Mine E G L) E { E with Z := fun c o => E.Z c o ∨ c = b } w w := ⟨Keep.refl _ _, fun _ _ x => .inl x, fun _ _ _ => rfl, fun _ _ x => x, fun _ _ x => x, rfl, rfl, rfl⟩
  have hne : ∀ m, updN G n none m ≠ none → n ≠ m ∧ G m ≠ none := fun m hm => by
    by_cases q : n = m
    · subst q; simp at hm
    · rw [updN_ne _ _ q] at hm; exact ⟨q, hm⟩
  have hsub : ∀ m x, updN G n none m = some x → n ≠ m ∧ G m = some x := fun m x hm => by
    by_cases q : n = m
    · subst q; simp at hm
    · rw [updN_ne _ _ q] at hm; exact ⟨q, hm⟩
  have hmine : ∀ c, Mine { E with Z := fun c o => E.Z c o ∨ c = b } (updN G n none) L c → Mine E G L c := fun c hc => by
    rcases hc with ⟨m, h1, h2⟩ | hc
    · exact .inl ⟨m, (hne m h1).2, h2⟩
    · exact .inr hc
  have hlt : b < w.heap.size := by obtain ⟨b', h1, h2⟩ := h.ρ_some hG; rw [hρ] at h1; cases h1; exact h2
  refine ⟨⟨?_, ?_, fun m m' c h1 h2 => h.inj m m' c (hne m h1).2 (hne m' h2).2, ?_, ?_, ?_, fun m c e r m' hm ht h1 => h.tokbox m c e r m' hm ht (hne m' h1).2, h.toktok, fun c hF => ⟨(h.F c hF).1, fun hm => (h.F c hF).2 (hmine c hm)⟩, h.gl, h.glinj⟩, X, fun c _ hc => hmine c hc, fun c o hz => hz.elim .inl fun q => .inr (.inl (q ▸ .inl ⟨n, hG, hρ⟩)), fun _ x => .inl x, fun _ x => .inl x, fun _ x => .inl x⟩
  · intro m cs e
    obtain ⟨c, vs, el, h1, h2, h3, h4⟩ := h.box m cs (hsub _ _ e).2
    exact ⟨c, vs, el, h1, h2, h3.ext X, h4⟩
  · intro m es ck e
    obtain ⟨c, ves, h1, h2, h3⟩ := h.map m es ck (hsub _ _ e).2
    exact ⟨c, ves, h1, h2, MapRel.ext X h3⟩
  · intro m c o h1 h2 hz
    rcases hz with hz | hz
    · exact h.zbox m c o (hne m h1).2 h2 hz
    · exact (hne m h1).1 (h.inj n m b hG (hne m h1).2 hρ (hz ▸ h2))
  · intro c o hz
    rcases hz with hz | hz
    · exact h.zlt c o hz
    · exact hz ▸ hlt
  · intro m hm c e r t
    obtain ⟨h1, h2⟩ := h.tok m hm c e r t
    refine ⟨h1, fun j hj hz => ?_⟩
    rcases hz with hz | hz
    · exact h2 j hj hz
    · exact h.tokbox m c e r n hm t hG (hz ▸ hρ)
/-- A new block of which all is frozen. -/
theorem Walk.new_frozen (h : St E G L w) (k : New w w') {b : Nat} (hb : w.heap.size ≤ b) (hb' : b < w'.heap.size) :
    Walk U E G L w { E with Z := fun c o => E.Z c o ∨ c = b } G L w' := by
  have X : Ext (fun _ => False) E { E with Z := fun c o => E.Z c o ∨ c = b } w w' := ⟨k, fun _ _ x => .inl x, fun c o hz => cell_keep k (h.zlt c o hz) id, fun _ _ x => x, fun _ _ x => x, rfl, rfl, rfl⟩
  have hkb : ∀ c q, w.heap[c]? = some q → w'.heap[c]? = some q := fun c q e => (k.block c (Array.getElem?_eq_some_iff.1 e).1 id).trans e
  refine ⟨⟨?_, ?_, h.inj, ?_, ?_, ?_, h.tokbox, h.toktok, fun c hF => ⟨Nat.lt_of_lt_of_le (h.F c hF).1 k.size, (h.F c hF).2⟩, ?_, h.glinj⟩, X.weaken fun _ _ x => x.elim, fun c _ hc => hc, fun c o hz => hz.elim .inl fun q => .inr (.inr (q ▸ hb)), fun _ x => .inl x, fun _ x => .inl x, fun _ x => .inl x⟩
  · intro m cs e
    obtain ⟨c, vs, el, h1, h2, h3, h4⟩ := h.box m cs e
    exact ⟨c, vs, el, h1, hkb _ _ h2, h3.ext X, h4⟩
  · intro m es ck e
    obtain ⟨c, ves, h1, h2, h3⟩ := h.map m es ck e
    exact ⟨c, ves, h1, hkb _ _ h2, MapRel.ext X h3⟩
  · intro m c o h1 h2 hz
    rcases hz with hz | hz
    · exact h.zbox m c o h1 h2 hz
    · obtain ⟨b', h3, h4⟩ := h.ρ_some h1
      have h2' : E.ρ m = some c := h2
      rw [h2'] at h3; cases h3; omega
  · intro c o hz
    rcases hz with hz | hz
    · exact Nat.lt_of_lt_of_le (h.zlt c o hz) k.size
    · exact hz ▸ hb'
  · intro m hm c e r t
    obtain ⟨⟨vs, el, h1, h3⟩, h2⟩ := h.tok m hm c e r t
    refine ⟨⟨vs, el, hkb _ _ h1, h3⟩, fun j hj hz => ?_⟩
    rcases hz with hz | hz
    · exact h2 j hj hz
    · have := (Array.getElem?_eq_some_iff.1 h1).1; omega
  · intro j hj
    obtain ⟨c, vs, e, h1, h2, h3, h4⟩ := h.gl j hj
    exact ⟨c, vs, e, h1, h2, hkb _ _ h3, h4⟩

/-- What a step doesn't know of stays. -/
theorem Walk.frame {E' : Env} {Gc Gc' G2 : Name → Option Blk} {Lc Lc' L2 : Name → Prop} (W : Walk U E Gc Lc w E' Gc' Lc' w') (st : St E G L w) (hGc : ∀ n x, Gc n = some x → G n = some x) (hLc : ∀ n, Lc n → L n)
    (hG2 : ∀ n x, G2 n = some x → G n = some x ∧ Gc n = none) (hL2 : ∀ n, L2 n → L n ∧ ¬ Lc n) (hLU : ∀ n, L2 n → ¬ U n) :
    Walk U E G L w E' (fun n => (Gc' n).or (G2 n)) (fun n => Lc' n ∨ L2 n) w' := by
  have hne : ∀ {H : Name → Option Blk} {n}, H n ≠ none → ∃ x, H n = some x := fun {H n} h => by
    cases e : H n with
    | none => exact absurd e h
    | some x => exact ⟨x, rfl⟩
  have hGcn : ∀ n, Gc n ≠ none → G n ≠ none := fun n h => by obtain ⟨x, e⟩ := hne h; rw [hGc n x e]; simp
  have hG2n : ∀ n, G2 n ≠ none → G n ≠ none ∧ Gc n = none := fun n h => by obtain ⟨x, e⟩ := hne h; obtain ⟨a, b⟩ := hG2 n x e; exact ⟨by rw [a]; simp, b⟩
  have hsub : ∀ b, Mine E Gc Lc b → Mine E G L b := fun b hb => hb.sub hGcn hLc
  -- the blocks of the rest are foreign to the step
  have forG : ∀ n b, G2 n ≠ none → E.ρ n = some b → b < w.heap.size ∧ ¬ Mine E Gc Lc b := by
    intro n b hn hb
    obtain ⟨hg, hc⟩ := hG2n n hn
    obtain ⟨b', h1, h2⟩ := st.ρ_some hg
    rw [hb] at h1; cases h1
    refine ⟨h2, fun hm => ?_⟩
    rcases hm with ⟨m, h3, h4⟩ | ⟨m, h3, e, r, h4⟩
    · have := st.inj n m b hg (hGcn m h3) hb h4
      subst this
      exact h3 hc
    · exact st.tokbox m b e r n (hLc m h3) h4 hg hb
  have forL : ∀ n b e r, L2 n → E.τ n = some (b, e, r) → b < w.heap.size ∧ ¬ Mine E Gc Lc b := by
    intro n b e r hn hb
    obtain ⟨hl, hc⟩ := hL2 n hn
    refine ⟨st.tok_lt hl hb, fun hm => ?_⟩
    rcases hm with ⟨m, h3, h4⟩ | ⟨m, h3, e', r', h4⟩
    · exact st.tokbox n b e r m hl hb (hGcn m h3) h4
    · have := st.toktok n m b e r e' r' hl (hLc m h3) hb h4
      subst this
      exact hc h3
  have stay : ∀ b o, b < w.heap.size → ¬ Mine E Gc Lc b → w.heap[b]? = some o → w'.heap[b]? = some o := fun b o h1 h2 h3 => (W.ext.keep.block b h1 h2).trans h3
  have zst : ∀ b o, b < w.heap.size → ¬ Mine E Gc Lc b → E'.Z b o → E.Z b o := fun b o h1 h2 h3 => by
    rcases W.zn b o h3 with h | h | h
    · exact h
    · exact absurd h h2
    · omega
  have hρ2 : ∀ n b, G2 n ≠ none → E'.ρ n = some b → E.ρ n = some b := fun n b hn hb => by
    obtain ⟨b', h1, _⟩ := st.ρ_some (hG2n n hn).1
    rw [W.ext.ρ _ _ h1] at hb; cases hb; exact h1
  have hτ2 : ∀ n t, L2 n → E'.τ n = some t → E.τ n = some t := fun n t hn hb => by
    rcases W.nτ n (by rw [hb]; simp) with h | h
    · cases e : E.τ n with
      | none => exact absurd e h
      | some t' => rw [W.ext.τ _ _ e] at hb; cases hb; rfl
    · exact absurd h (hLU n hn)
  have hmu : ∀ b, Mine E' (fun n => (Gc' n).or (G2 n)) (fun n => Lc' n ∨ L2 n) b → Mine E' Gc' Lc' b ∨ (∃ n, G2 n ≠ none ∧ E.ρ n = some b) ∨ ∃ n, L2 n ∧ ∃ e r, E.τ n = some (b, e, r) := by
    intro b hb
    rcases hb with ⟨n, h1, h2⟩ | ⟨n, h1, e, r, h2⟩
    · cases hc : Gc' n with
      | none =>
        simp only [hc, Option.none_or] at h1
        exact .inr (.inl ⟨n, h1, hρ2 n b h1 h2⟩)
      | some x => exact .inl (.inl ⟨n, by simp [hc], h2⟩)
    · rcases h1 with h1 | h1
      · exact .inl (.inr ⟨n, h1, e, r, h2⟩)
      · exact .inr (.inr ⟨n, h1, e, r, hτ2 n _ h1 h2⟩)
  have hgrow : ∀ b, b < w.heap.size → Mine E' (fun n => (Gc' n).or (G2 n)) (fun n => Lc' n ∨ L2 n) b → Mine E G L b := by
    intro b hb hm
    rcases hmu b hm with h | ⟨n, h1, h2⟩ | ⟨n, h1, e, r, h2⟩
    · exact hsub b (W.grow b hb h)
    · exact .inl ⟨n, (hG2n n h1).1, h2⟩
    · exact .inr ⟨n, (hL2 n h1).1, e, r, h2⟩
  have apart : ∀ b, b < w.heap.size → ¬ Mine E Gc Lc b → ¬ Mine E' Gc' Lc' b := fun b h1 h2 h3 => h2 (W.grow b h1 h3)
  have split : ∀ n, (Gc' n).or (G2 n) ≠ none → (Gc' n ≠ none) ∨ (Gc' n = none ∧ G2 n ≠ none) := fun n hn => by
    cases hc : Gc' n with
    | none => rw [hc, Option.none_or] at hn; exact .inr ⟨rfl, hn⟩
    | some x => exact .inl (by simp)
  refine ⟨⟨?_, ?_, ?_, ?_, W.st.zlt, ?_, ?_, ?_, ?_, W.st.gl, W.st.glinj⟩, W.ext.weaken fun b _ h => hsub b h, hgrow, fun b o h => (W.zn b o h).imp id (Or.imp (hsub b) id), W.nρ, W.nτ, fun n x => x.elim (fun q => (W.nL n q).imp (hLc n) id) fun q => .inl (hL2 n q).1⟩
  · intro n cs h1
    cases hc : Gc' n with
    | some x =>
      simp only [hc, Option.some_or] at h1
      exact W.st.box n cs (hc.trans h1)
    | none =>
      simp only [hc, Option.none_or] at h1
      obtain ⟨b, vs, e, q1, q2, q3, q4⟩ := st.box n cs (hG2 n _ h1).1
      obtain ⟨f1, f2⟩ := forG n b (by simp [h1]) q1
      exact ⟨b, vs, e, W.ext.ρ _ _ q1, stay _ _ f1 f2 q2, q3.ext W.ext, q4⟩
  · intro n es ck h1
    cases hc : Gc' n with
    | some x =>
      simp only [hc, Option.some_or] at h1
      exact W.st.map n es ck (hc.trans h1)
    | none =>
      simp only [hc, Option.none_or] at h1
      obtain ⟨b, ves, q1, q2, q3⟩ := st.map n es ck (hG2 n _ h1).1
      obtain ⟨f1, f2⟩ := forG n b (by simp [h1]) q1
      exact ⟨b, ves, W.ext.ρ _ _ q1, stay _ _ f1 f2 q2, MapRel.ext W.ext q3⟩
  · intro n m b h1 h2 h3 h4
    rcases split n h1 with h1 | ⟨_, h1⟩ <;> rcases split m h2 with h2 | ⟨_, h2⟩
    · exact W.st.inj n m b h1 h2 h3 h4
    · obtain ⟨f1, f2⟩ := forG m b h2 (hρ2 m b h2 h4)
      exact absurd (.inl ⟨n, h1, h3⟩) (apart b f1 f2)
    · obtain ⟨f1, f2⟩ := forG n b h1 (hρ2 n b h1 h3)
      exact absurd (.inl ⟨m, h2, h4⟩) (apart b f1 f2)
    · exact st.inj n m b (hG2n n h1).1 (hG2n m h2).1 (hρ2 n b h1 h3) (hρ2 m b h2 h4)
  · intro n b o h1 h2 hz
    rcases split n h1 with h1 | ⟨_, h1⟩
    · exact W.st.zbox n b o h1 h2 hz
    · obtain ⟨f1, f2⟩ := forG n b h1 (hρ2 n b h1 h2)
      exact st.zbox n b o (hG2n n h1).1 (hρ2 n b h1 h2) (zst b o f1 f2 hz)
  · intro n hn b e r ht
    rcases hn with hn | hn
    · exact W.st.tok n hn b e r ht
    · have ht' := hτ2 n _ hn ht
      obtain ⟨f1, f2⟩ := forL n b e r hn ht'
      obtain ⟨⟨vs, el, q1, q2⟩, q3⟩ := st.tok n (hL2 n hn).1 b e r ht'
      exact ⟨⟨vs, el, stay _ _ f1 f2 q1, q2⟩, fun j hj hz => q3 j hj (zst b j f1 f2 hz)⟩
  · intro n b e r m hn ht hm hρ
    rcases hn with hn | hn <;> rcases split m hm with hm | ⟨_, hm⟩
    · exact W.st.tokbox n b e r m hn ht hm hρ
    · obtain ⟨f1, f2⟩ := forG m b hm (hρ2 m b hm hρ)
      exact apart b f1 f2 (.inr ⟨n, hn, e, r, ht⟩)
    · obtain ⟨f1, f2⟩ := forL n b e r hn (hτ2 n _ hn ht)
      exact apart b f1 f2 (.inl ⟨m, hm, hρ⟩)
    · exact st.tokbox n b e r m (hL2 n hn).1 (hτ2 n _ hn ht) (hG2n m hm).1 (hρ2 m b hm hρ)
  · intro n m b e r e' r' hn hm h1 h2
    rcases hn with hn | hn <;> rcases hm with hm | hm
    · exact W.st.toktok n m b e r e' r' hn hm h1 h2
    · obtain ⟨f1, f2⟩ := forL m b e' r' hm (hτ2 m _ hm h2)
      exact absurd (.inr ⟨n, hn, e, r, h1⟩) (apart b f1 f2)
    · obtain ⟨f1, f2⟩ := forL n b e r hn (hτ2 n _ hn h1)
      exact absurd (.inr ⟨m, hm, e', r', h2⟩) (apart b f1 f2)
    · exact st.toktok n m b e r e' r' (hL2 n hn).1 (hL2 m hm).1 (hτ2 n _ hn h1) (hτ2 m _ hm h2)
  · intro b hF
    have hF' : E.F b := by rw [← W.ext.F]; exact hF
    obtain ⟨f1, f2⟩ := st.F b hF'
    exact ⟨Nat.lt_of_lt_of_le f1 W.ext.keep.size, fun hm => f2 (hgrow b f1 hm)⟩
end
end Go.AE
