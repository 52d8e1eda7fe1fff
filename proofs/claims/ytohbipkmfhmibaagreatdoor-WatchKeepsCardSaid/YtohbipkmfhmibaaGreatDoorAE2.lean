import Derived.Test.YtohbipkmfhmibaaGreatDoorAE1
/-! AE2: the abstract state, and its steps. -/
set_option linter.unusedVariables false
namespace Go.AE
open Go.RowKit Go.LB

def lget : List (Name × Blk) → Name → Option Blk
  | [], _ => none
  | (m, b) :: l, n => if m = n then some b else lget l n
def lset : List (Name × Blk) → Name → Blk → List (Name × Blk)
  | [], _, _ => []
  | (m, b) :: l, n, x => if m = n then (m, x) :: l else (m, b) :: lset l n x
abbrev Heap := List (List (Name × Blk))
def hget : Heap → Name → Option Blk
  | [], _ => none
  | l :: h, n => (lget l n).or (hget h n)
def hset : Heap → Name → Blk → Heap
  | [], _, _ => []
  | l :: h, n, x => if (lget l n).isSome then lset l n x :: h else l :: hset h n x
def hnew : Heap → Name → Blk → Heap
  | [], n, x => [[(n, x)]]
  | l :: h, n, x => ((n, x) :: l) :: h

theorem lget_lset (l : List (Name × Blk)) (n m : Name) (x : Blk) (h : (lget l n).isSome) : lget (lset l n x) m = if n = m then some x else lget l m := by
  induction l with
  | nil => simp [lget] at h
  | cons a l ih =>
    obtain ⟨k, b⟩ := a
    simp only [lget, lset] at *
    by_cases e : k = n
    · subst e
      simp only [if_true, lget]
      by_cases e : k = m
      · simp [e]
      · simp [e]
    · simp only [if_neg e, lget] at *
      by_cases e2 : k = m
      · subst e2
        simp [Ne.symm e]
      · simp only [if_neg e2]
        exact ih h
theorem lget_lset_none (l : List (Name × Blk)) (n m : Name) (x : Blk) (h : lget l m = none) (hn : n ≠ m) : lget (lset l n x) m = none := by
  induction l with
  | nil => rfl
  | cons a l ih =>
    obtain ⟨k, b⟩ := a
    simp only [lget, lset] at *
    split at h
    · cases h
    · rename_i e
      by_cases e2 : k = n
      · simp [e2, lget, hn]; subst e2; exact h
      · simp [e2, lget, e, ih h]
theorem hget_hset (h : Heap) (n m : Name) (x : Blk) (hn : (hget h n).isSome) : hget (hset h n x) m = if n = m then some x else hget h m := by
  induction h with
  | nil => simp [hget] at hn
  | cons l h ih =>
    simp only [hget, hset] at *
    by_cases e : (lget l n).isSome
    · simp only [e, if_true, hget, lget_lset l n m x e]
      split <;> simp
    · simp only [e, Bool.false_eq_true, if_false, hget]
      have e' : lget l n = none := by simpa using e
      rw [e', Option.none_or] at hn
      rw [ih hn]
      split
      · rename_i q; subst q; simp [e']
      · rfl
theorem hget_hnew (h : Heap) (n m : Name) (x : Blk) : hget (hnew h n x) m = if n = m then some x else hget h m := by
  cases h with
  | nil => simp only [hnew, hget, lget]; split <;> simp
  | cons l h => simp only [hnew, hget, lget]; split <;> simp

/-- The blocks that may be written. -/
def Mine (E : Env) (G : Name → Option Blk) (L : Name → Prop) (b : Nat) : Prop := (∃ n, G n ≠ none ∧ E.ρ n = some b) ∨ ∃ n, L n ∧ ∃ e r, E.τ n = some (b, e, r)

def MapRel (E : Env) (w : World) (es : List (T × T × Nat)) (ves : Array MapEntry) : Prop :=
  ves.size = es.length ∧ ∀ (i : Nat) k x s, es[i]? = some (k, x, s) → ∃ me, ves[i]? = some me ∧ Rel E w k me.key ∧ Rel E w x me.val ∧ me.born = s

structure St (E : Env) (G : Name → Option Blk) (L : Name → Prop) (w : World) : Prop where
  box : ∀ n cs, G n = some (.box cs) → ∃ b vs e, E.ρ n = some b ∧ w.heap[b]? = some (.cells vs e (0, 0)) ∧ RelP E w cs vs.toList ∧ ∀ u ∈ vs.toList, u.oneCell' = true
  map : ∀ n es ck, G n = some (.map es ck) → ∃ b ves, E.ρ n = some b ∧ w.heap[b]? = some (.map ves ck) ∧ MapRel E w es ves
  inj : ∀ n m b, G n ≠ none → G m ≠ none → E.ρ n = some b → E.ρ m = some b → n = m
  zbox : ∀ n b o, G n ≠ none → E.ρ n = some b → ¬ E.Z b o
  zlt : ∀ b o, E.Z b o → b < w.heap.size
  tok : ∀ n, L n → ∀ b e r, E.τ n = some (b, e, r) → (∃ vs el, w.heap[b]? = some (.cells vs el (0, 0)) ∧ e + r ≤ vs.size) ∧ ∀ j, e ≤ j → ¬ E.Z b j
  tokbox : ∀ n b e r m, L n → E.τ n = some (b, e, r) → G m ≠ none → E.ρ m ≠ some b
  toktok : ∀ n m b e r e' r', L n → L m → E.τ n = some (b, e, r) → E.τ m = some (b, e', r') → n = m
  F : ∀ b, E.F b → b < w.heap.size ∧ ¬ Mine E G L b
  gl : ∀ k, E.ng k → ∃ b vs e, (E.ad k).block = b ∧ E.F b ∧ w.heap[b]? = some (.cells vs e (0, 0)) ∧ True
  glinj : ∀ j k, E.ng j → E.ng k → E.ad j = E.ad k → j = k

section
variable {E E' : Env} {G G' : Name → Option Blk} {L L' : Name → Prop} {w w' : World}

theorem St.ρ_some (h : St E G L w) {n : Name} (hn : G n ≠ none) : ∃ b, E.ρ n = some b ∧ b < w.heap.size := by
  cases e : G n with
  | none => exact absurd e hn
  | some x =>
    cases x with
    | box cs => obtain ⟨b, vs, el, h1, h2, _⟩ := h.box n cs e; exact ⟨b, h1, (Array.getElem?_eq_some_iff.1 h2).1⟩
    | map es ck => obtain ⟨b, ves, h1, h2, _⟩ := h.map n es ck e; exact ⟨b, h1, (Array.getElem?_eq_some_iff.1 h2).1⟩
theorem St.fresh (h : St E G L w) {n : Name} (hn : E.ρ n = none) : G n = none := by
  cases e : G n with
  | none => rfl
  | some x => obtain ⟨b, h1, _⟩ := h.ρ_some (n := n) (by simp [e]); rw [hn] at h1; cases h1
theorem Mine.lt (h : St E G L w) {b : Nat} (hb : Mine E G L b) : b < w.heap.size := by
  rcases hb with ⟨n, h1, h2⟩ | ⟨n, h1, e, r, h2⟩
  · obtain ⟨b', h3, h4⟩ := h.ρ_some h1; rw [h2] at h3; cases h3; exact h4
  · obtain ⟨⟨vs, el, h3, _⟩, _⟩ := h.tok n h1 b e r h2; exact (Array.getElem?_eq_some_iff.1 h3).1
theorem Mine.sub (hG : ∀ n, G' n ≠ none → G n ≠ none) (hL : ∀ n, L' n → L n) {b : Nat} (hb : Mine E G' L' b) : Mine E G L b := by
  rcases hb with ⟨n, h1, h2⟩ | ⟨n, h1, h2⟩
  · exact .inl ⟨n, hG n h1, h2⟩
  · exact .inr ⟨n, hL n h1, h2⟩

/-- Fewer blocks, fewer names. -/
theorem St.sub (h : St E G L w) (hG : ∀ n x, G' n = some x → G n = some x) (hL : ∀ n, L' n → L n) : St E G' L' w := by
  have hg : ∀ n, G' n ≠ none → G n ≠ none := fun n hn => by
    cases e : G' n with
    | none => exact absurd e hn
    | some x => rw [hG n x e]; simp
  exact ⟨fun n cs e => h.box n cs (hG _ _ e), fun n es ck e => h.map n es ck (hG _ _ e), fun n m b a c => h.inj n m b (hg n a) (hg m c), fun n b o a => h.zbox n b o (hg n a), h.zlt, fun n a => h.tok n (hL n a),
    fun n b e r m a c d => h.tokbox n b e r m (hL n a) c (hg m d), fun n m b e r e' r' a c => h.toktok n m b e r e' r' (hL n a) (hL m c), fun b hb => ⟨(h.F b hb).1, fun x => (h.F b hb).2 (x.sub hg hL)⟩, h.gl, h.glinj⟩

theorem cell_keep {M : Nat → Prop} (k : Keep M w w') {b o : Nat} (hb : b < w.heap.size) (hm : ¬ M b) : w'.cell? ⟨b, o, none⟩ = w.cell? ⟨b, o, none⟩ := k.cell (p := ⟨b, o, none⟩) hb hm

/-- New blocks that nobody knows of. -/
theorem St.new (h : St E G L w) (k : New w w') : St E G L w' ∧ Ext (fun _ => False) E E w w' := by
  have X : Ext (fun _ => False) E E w w' := ⟨k, fun _ _ x => x, fun b o x => cell_keep k (h.zlt b o x) id, fun _ _ x => x, fun _ _ x => x, rfl, rfl, rfl⟩
  have hb : ∀ b o, w.heap[b]? = some o → w'.heap[b]? = some o := fun b o e => (k.block b (Array.getElem?_eq_some_iff.1 e).1 id).trans e
  refine ⟨⟨fun n cs e => ?_, fun n es ck e => ?_, h.inj, h.zbox, fun b o x => Nat.lt_of_lt_of_le (h.zlt b o x) k.size, fun n a b e r t => ?_, h.tokbox, h.toktok, fun b x => ⟨Nat.lt_of_lt_of_le (h.F b x).1 k.size, (h.F b x).2⟩, fun j hj => ?_, h.glinj⟩, X⟩
  · obtain ⟨b, vs, el, h1, h2, h3, h4⟩ := h.box n cs e; exact ⟨b, vs, el, h1, hb _ _ h2, h3.ext X, h4⟩
  · obtain ⟨b, ves, h1, h2, h3, h4⟩ := h.map n es ck e
    exact ⟨b, ves, h1, hb _ _ h2, h3, fun i k x s hi => by obtain ⟨me, a1, a2, a3, a4⟩ := h4 i k x s hi; exact ⟨me, a1, a2.ext X, a3.ext X, a4⟩⟩
  · obtain ⟨⟨vs, el, h3, h4⟩, h5⟩ := h.tok n a b e r t; exact ⟨⟨vs, el, hb _ _ h3, h4⟩, h5⟩
  · obtain ⟨b, vs, e, h1, h2, h3, h4⟩ := h.gl j hj; exact ⟨b, vs, e, h1, h2, hb _ _ h3, h4⟩
end

/-- Names under one name, from a number on. -/
def Under (p : Name) (c : Nat) (n : Name) : Prop := ∃ k s, c ≤ k ∧ n = p ++ k :: s

/-- A step of the abstract state. -/
structure Walk (U : Name → Prop) (E : Env) (G : Name → Option Blk) (L : Name → Prop) (w : World) (E' : Env) (G' : Name → Option Blk) (L' : Name → Prop) (w' : World) : Prop where
  st : St E' G' L' w'
  ext : Ext (Mine E G L) E E' w w'
  grow : ∀ b, b < w.heap.size → Mine E' G' L' b → Mine E G L b
  zn : ∀ b o, E'.Z b o → E.Z b o ∨ Mine E G L b ∨ w.heap.size ≤ b
  nρ : ∀ n, E'.ρ n ≠ none → E.ρ n ≠ none ∨ U n
  nτ : ∀ n, E'.τ n ≠ none → E.τ n ≠ none ∨ U n
  nL : ∀ n, L' n → L n ∨ U n

section
variable {U U' : Name → Prop} {E E' E'' : Env} {G G' G'' : Name → Option Blk} {L L' L'' : Name → Prop} {w w' w'' : World}
theorem Walk.refl (h : St E G L w) : Walk U E G L w E G L w := ⟨h, Ext.refl _ _ _, fun _ _ x => x, fun _ _ x => .inl x, fun _ x => .inl x, fun _ x => .inl x, fun _ x => .inl x⟩
theorem Walk.trans (h : Walk U E G L w E' G' L' w') (k : Walk U E' G' L' w' E'' G'' L'' w'') : Walk U E G L w E'' G'' L'' w'' :=
  ⟨k.st, h.ext.trans k.ext h.grow, fun b hb x => h.grow b hb (k.grow b (Nat.lt_of_lt_of_le hb h.ext.keep.size) x),
    fun b o x => by
      rcases k.zn b o x with y | y | y
      · exact h.zn b o y
      · rcases Nat.lt_or_ge b w.heap.size with q | q
        · exact .inr (.inl (h.grow b q y))
        · exact .inr (.inr q)
      · exact .inr (.inr (Nat.le_trans h.ext.keep.size y)),
    fun n x => (k.nρ n x).elim (h.nρ n) .inr, fun n x => (k.nτ n x).elim (h.nτ n) .inr, fun n x => (k.nL n x).elim (h.nL n) .inr⟩
theorem Walk.mono (h : Walk U E G L w E' G' L' w') (hu : ∀ n, U n → U' n) : Walk U' E G L w E' G' L' w' :=
  ⟨h.st, h.ext, h.grow, h.zn, fun n x => (h.nρ n x).imp id (hu n), fun n x => (h.nτ n x).imp id (hu n), fun n x => (h.nL n x).imp id (hu n)⟩
/-- What is forgotten behind the step. -/
theorem Walk.less (h : Walk U E G L w E' G' L' w') (hG : ∀ n x, G'' n = some x → G' n = some x) (hL : ∀ n, L'' n → L' n) : Walk U E G L w E' G'' L'' w' := by
  refine ⟨h.st.sub hG hL, h.ext, fun b hb x => h.grow b hb (x.sub (fun n hn => ?_) hL), h.zn, h.nρ, h.nτ, fun n x => h.nL n (hL n x)⟩
  cases e : G'' n with
  | none => exact absurd e hn
  | some x => rw [hG n x e]; simp
theorem Walk.new (h : St E G L w) (k : New w w') : Walk U E G L w E G L w' :=
  ⟨(h.new k).1, (h.new k).2.weaken fun _ _ x => x.elim, fun _ _ x => x, fun _ _ x => .inl x, fun _ x => .inl x, fun _ x => .inl x, fun _ x => .inl x⟩

def updN {α : Type} (f : Name → Option α) (n : Name) (x : Option α) : Name → Option α := fun m => if n = m then x else f m
@[simp] theorem updN_same {α : Type} (f : Name → Option α) (n : Name) (x : Option α) : updN f n x n = x := if_pos rfl
theorem updN_ne {α : Type} (f : Name → Option α) {n m : Name} (x : Option α) (h : n ≠ m) : updN f n x m = f m := if_neg h

/-- A block for a new name. -/
theorem Walk.alloc_blk (h : St E G L w) {n : Name} (hn : E.ρ n = none) (hU : U n) (x : Blk) (o : Obj)
    (hbox : ∀ cs, x = .box cs → ∃ vs e, o = .cells vs e (0, 0) ∧ RelP E w cs vs.toList ∧ ∀ u ∈ vs.toList, u.oneCell' = true)
    (hmap : ∀ es ck, x = .map es ck → ∃ ves, o = .map ves ck ∧ MapRel E w es ves) :
    Walk U E G L w { E with ρ := updN E.ρ n (some w.heap.size) } (updN G n (some x)) L (w.alloc o) := by
  have hG := h.fresh hn
  have k : New w (w.alloc o) := (Keep.refl _ _).alloc o
  have hsz : (w.alloc o).heap.size = w.heap.size + 1 := by simp
  have X : Ext (fun _ => False) E { E with ρ := updN E.ρ n (some w.heap.size) } w (w.alloc o) :=
    ⟨k, fun _ _ x => x, fun b o x => cell_keep k (h.zlt b o x) id, fun m b e => by
      have : n ≠ m := fun q => by subst q; rw [hn] at e; cases e
      show updN E.ρ n _ m = _
      rw [updN_ne _ _ this]; exact e, fun _ _ x => x, rfl, rfl, rfl⟩
  have hb : ∀ b q, w.heap[b]? = some q → (w.alloc o).heap[b]? = some q := fun b q e => (k.block b (Array.getElem?_eq_some_iff.1 e).1 id).trans e
  have hlt : ∀ m b, G m ≠ none → E.ρ m = some b → b < w.heap.size := fun m b hm e => by
    obtain ⟨b', h1, h2⟩ := h.ρ_some hm; rw [e] at h1; cases h1; exact h2
  have hlk : ∀ m b, updN G n (some x) m ≠ none → updN E.ρ n (some w.heap.size) m = some b → (n = m ∧ b = w.heap.size) ∨ (n ≠ m ∧ G m ≠ none ∧ E.ρ m = some b ∧ b < w.heap.size) := by
    intro m b h1 h2
    by_cases e : n = m
    · subst e; simp at h2; exact .inl ⟨rfl, h2.symm⟩
    · rw [updN_ne _ _ e] at h1 h2; exact .inr ⟨e, h1, h2, hlt m b h1 h2⟩
  have hmine : ∀ b, Mine { E with ρ := updN E.ρ n (some w.heap.size) } (updN G n (some x)) L b → b = w.heap.size ∨ Mine E G L b := by
    intro b hb
    rcases hb with ⟨m, h1, h2⟩ | ⟨m, h1, h2⟩
    · rcases hlk m b h1 h2 with ⟨_, h3⟩ | ⟨_, h3, h4, _⟩
      · exact .inl h3
      · exact .inr (.inl ⟨m, h3, h4⟩)
    · exact .inr (.inr ⟨m, h1, h2⟩)
  have htl : ∀ m, L m → ∀ b e r, E.τ m = some (b, e, r) → b < w.heap.size := fun m hm b e r ht => by
    obtain ⟨⟨vs, el, h3, _⟩, _⟩ := h.tok m hm b e r ht; exact (Array.getElem?_eq_some_iff.1 h3).1
  refine ⟨⟨?_, ?_, ?_, ?_, ?_, ?_, ?_, h.toktok, ?_, ?_, h.glinj⟩, X.weaken fun _ _ x => x.elim, ?_, fun _ _ x => .inl x, ?_, fun _ x => .inl x, fun _ x => .inl x⟩
  · intro m cs e
    by_cases q : n = m
    · subst q
      simp at e
      obtain ⟨vs, el, rfl, h2, h3⟩ := hbox cs e
      exact ⟨w.heap.size, vs, el, by simp, heap_alloc_new w _, h2.ext X, h3⟩
    · rw [updN_ne _ _ q] at e
      obtain ⟨b, vs, el, h1, h2, h3, h4⟩ := h.box m cs e
      exact ⟨b, vs, el, by show updN E.ρ n _ m = _; rw [updN_ne _ _ q]; exact h1, hb _ _ h2, h3.ext X, h4⟩
  · intro m es ck e
    by_cases q : n = m
    · subst q
      simp at e
      obtain ⟨ves, rfl, h2, h3⟩ := hmap es ck e
      exact ⟨w.heap.size, ves, by simp, heap_alloc_new w _, h2, fun i k x s hi => by obtain ⟨me, a1, a2, a3, a4⟩ := h3 i k x s hi; exact ⟨me, a1, a2.ext X, a3.ext X, a4⟩⟩
    · rw [updN_ne _ _ q] at e
      obtain ⟨b, ves, h1, h2, h3, h4⟩ := h.map m es ck e
      exact ⟨b, ves, by show updN E.ρ n _ m = _; rw [updN_ne _ _ q]; exact h1, hb _ _ h2, h3, fun i k x s hi => by obtain ⟨me, a1, a2, a3, a4⟩ := h4 i k x s hi; exact ⟨me, a1, a2.ext X, a3.ext X, a4⟩⟩
  · intro m m' b h1 h2 h3 h4
    rcases hlk m b h1 h3 with ⟨e1, e2⟩ | ⟨e1, e2, e3, e4⟩ <;> rcases hlk m' b h2 h4 with ⟨f1, f2⟩ | ⟨f1, f2, f3, f4⟩
    · exact e1.symm.trans f1
    · omega
    · omega
    · exact h.inj m m' b e2 f2 e3 f3
  · intro m b o h1 h2 hz
    rcases hlk m b h1 h2 with ⟨e1, e2⟩ | ⟨e1, e2, e3, e4⟩
    · have := h.zlt b o hz; omega
    · exact h.zbox m b o e2 e3 hz
  · intro b o hz; have := h.zlt b o hz; omega
  · intro m hm b e r t
    obtain ⟨⟨vs, el, h3, h4⟩, h5⟩ := h.tok m hm b e r t; exact ⟨⟨vs, el, hb _ _ h3, h4⟩, h5⟩
  · intro m b e r m' hm ht h1 h2
    rcases hlk m' b h1 h2 with ⟨e1, e2⟩ | ⟨e1, e2, e3, e4⟩
    · have := htl m hm b e r ht; omega
    · exact h.tokbox m b e r m' hm ht e2 e3
  · intro b hF
    obtain ⟨h1, h2⟩ := h.F b hF
    refine ⟨by omega, fun hm => ?_⟩
    rcases hmine b hm with h3 | h3
    · omega
    · exact h2 h3
  · intro j hj
    obtain ⟨b, vs, e, h1, h2, h3, h4⟩ := h.gl j hj; exact ⟨b, vs, e, h1, h2, hb _ _ h3, h4⟩
  · intro b hb' hm
    rcases hmine b hm with h3 | h3
    · omega
    · exact h3
  · intro m hm
    by_cases q : n = m
    · subst q; exact .inr hU
    · left; rw [← updN_ne E.ρ (some w.heap.size) q]; exact hm
end
end Go.AE
