import Derived.Test.YtohbipkmfhmibaaGreatDoorAE5
/-! AE6: loads, stores, new variables, parts of values. -/
set_option linter.unusedVariables false
set_option linter.unusedSimpArgs false
namespace Go.AE
open Go.RowKit Go.LB

def putAt {α : Type} : List α → Nat → List α → List α
  | cs, _, [] => cs
  | cs, off, x :: xs => putAt (cs.set off x) (off + 1) xs
theorem putAt_length {α : Type} : ∀ (xs cs : List α) (off : Nat), (putAt cs off xs).length = cs.length
  | [], cs, off => rfl
  | x :: xs, cs, off => by rw [putAt, putAt_length xs, List.length_set]
theorem putAt_get {α : Type} : ∀ (xs cs : List α) (off i : Nat), off + xs.length ≤ cs.length → (putAt cs off xs)[i]? = if off ≤ i ∧ i < off + xs.length then xs[i - off]? else cs[i]?
  | [], cs, off, i, _ => by rw [putAt, if_neg (by simp only [List.length_nil]; omega)]
  | x :: xs, cs, off, i, h => by
    simp only [List.length_cons] at h
    rw [putAt, putAt_get xs (cs.set off x) (off + 1) i (by rw [List.length_set]; omega)]
    by_cases e : i = off
    · subst e
      rw [if_neg (by omega), if_pos (by simp), List.getElem?_set_self (by omega)]
      simp
    · rw [List.getElem?_set_ne (by omega)]
      simp only [List.length_cons]
      by_cases q : off + 1 ≤ i ∧ i < off + 1 + xs.length
      · rw [if_pos q, if_pos (by omega), show i - off = (i - (off + 1)) + 1 by omega, List.getElem?_cons_succ]
      · rw [if_neg q, if_neg (by omega)]
theorem putAt_eq {α : Type} (xs cs : List α) (off : Nat) (h : off + xs.length ≤ cs.length) : putAt cs off xs = cs.take off ++ xs ++ cs.drop (off + xs.length) := by
  apply List.ext_getElem?
  intro i
  rw [putAt_get xs cs off i h]
  by_cases h1 : i < off
  · rw [if_neg (by omega), List.append_assoc, List.getElem?_append_left (by rw [List.length_take]; omega), List.getElem?_take, if_pos h1]
  · by_cases h2 : i < off + xs.length
    · rw [if_pos (by omega), List.append_assoc, List.getElem?_append_right (by rw [List.length_take]; omega), List.length_take, Nat.min_eq_left (by omega), List.getElem?_append_left (by omega)]
    · rw [if_neg (by omega), List.append_assoc, List.getElem?_append_right (by rw [List.length_take]; omega), List.length_take, Nat.min_eq_left (by omega), List.getElem?_append_right (by omega), List.getElem?_drop]
      congr 1; omega

section
variable {P : Program} {U : Name → Prop} {E : Env} {h : Heap} {G : Name → Option Blk} {L : Name → Prop} {w : World}
theorem RelL.putAt {l m : List T} {us vs : List Value} (hl : RelL E w l us) (hm : RelL E w m vs) (off : Nat) : RelL E w (putAt l off m) (putAt us off vs) := by
  induction m generalizing l us vs off with
  | nil => rw [hm.nil_inv]; exact hl
  | cons x m ih =>
    obtain ⟨v, vs, rfl, h1, h2⟩ := hm.cons_inv
    exact ih (hl.set h1) h2 _
theorem RelP.putAt {l m : List T} {us vs : List Value} (hl : RelP E w l us) (hm : RelL E w m vs) (off : Nat) (ho : off + m.length ≤ l.length) : RelP E w (AE.putAt l off m) (AE.putAt us off vs) := by
  refine ⟨by rw [putAt_length, putAt_length]; exact hl.1, fun i x u hx hu => ?_⟩
  rw [putAt_get _ _ _ _ ho] at hx
  rw [putAt_get _ _ _ _ (by rw [hm.1]; exact Nat.le_trans ho hl.1), hm.1] at hu
  split at hx
  · rename_i q; rw [if_pos q] at hu; exact hm.2 _ x u hx hu
  · rename_i q; rw [if_neg q] at hu; exact hl.2 _ x u hx hu

/-! ### Reads -/
def tpart (cs : List T) (off : Nat) : Option Nat → Option T
  | none => cs[off]?
  | some n => if off + n ≤ cs.length then some (.agg ((cs.drop off).take n)) else none
def eLoad (n : Option Nat) (a : T) (h : Heap) : Option T :=
  match a with
  | .ptr m off => match hget h m with | some (.box cs) => tpart cs off n | _ => none
  | .ro cs off => tpart cs off n
  | _ => none
/-- A type's shape: one cell, or a row of so many. -/
def Shp (P : Program) (t : TypeId) : Option Nat → Prop
  | none => ∃ d, P.underlying t = some d ∧ d.isRow = false
  | some n => (∃ d, P.underlying t = some d ∧ d.isRow = true) ∧ (P.info? t).map (·.size) = some n

theorem run_isAgg {P : Program} {t : TypeId} {d : TypeDesc} (h : P.underlying t = some d) (w : World) : (isAgg t).run P w = .ok d.isRow w := by
  unfold isAgg
  rw [Sem.run_bind, run_underlying h w]
  cases d <;> simp
theorem load_at {t : TypeId} {n : Option Nat} (hs : Shp P t n) {cs : List T} {x : T} {off b o : Nat} (cv : Nat → Value) (h1 : ∀ (i : Nat) x, cs[i]? = some x → w.cell? ⟨b, o + i, none⟩ = some (cv i) ∧ (cv i).oneCell' = true) (h2 : ∀ (i : Nat) x, cs[i]? = some x → Rel E w x (cv i))
    (hx : tpart cs off n = some x) : ∃ v, (Instr.loadAt t (.pointer (some ⟨b, o + off, none⟩))).run P w = .ok v w ∧ Rel E w x v := by
  cases n with
  | none =>
    obtain ⟨d, hd, hr⟩ := hs
    simp only [tpart] at hx
    refine ⟨cv off, ?_, h2 _ _ hx⟩
    have hc := (h1 _ _ hx).1
    simp only [Instr.loadAt, Instr.sureAddr, Sem.run_bind, Sem.run_pure, Result.andThen_ok, loadVar, run_isAgg hd, hr, Bool.false_eq_true, if_false]
    simp [load, Sem.run, hc]
  | some n =>
    obtain ⟨⟨d, hd, hr⟩, hz⟩ := hs
    simp only [tpart] at hx
    split at hx
    · rename_i hle
      cases hx
      have hlen : ((List.range n).map fun j => cv (off + j)).length = n := by simp
      refine ⟨_, run_loadAt_mid w b (o + off) t ((List.range n).map fun j => cv (off + j)) d ?_ hd hr (by rw [hlen]; exact hz), .agg (by simp; omega) ?_ ?_⟩
      · intro j v hj
        rw [List.getElem?_map] at hj
        obtain ⟨k, hk, rfl⟩ := Option.map_eq_some_iff.1 hj
        have hjn : j < n := by have := (List.getElem?_eq_some_iff.1 hk).1; simpa using this
        rw [List.getElem?_range hjn] at hk; cases hk
        rw [Nat.add_assoc]
        exact (h1 (off + j) _ (List.getElem?_eq_getElem (by omega))).1
      · intro u hu
        simp only [List.mem_map, List.mem_range] at hu
        obtain ⟨j, hj, rfl⟩ := hu
        exact (h1 (off + j) _ (List.getElem?_eq_getElem (by omega))).2
      · intro i y u hy hu
        rw [List.getElem?_take] at hy
        split at hy
        · rename_i hi
          rw [List.getElem?_drop] at hy
          simp [hi] at hu
          subst hu
          exact h2 _ _ hy
        · cases hy
    · cases hx
theorem St.box_at (st : St E (hget h) L w) {m : Name} {cs : List T} (hb : hget h m = some (.box cs)) :
    ∃ b vs e, E.ρ m = some b ∧ w.heap[b]? = some (.cells vs e (0, 0)) ∧ RelP E w cs vs.toList ∧ (∀ u ∈ vs.toList, u.oneCell' = true) ∧
      (∀ (i : Nat) x, cs[i]? = some x → w.cell? ⟨b, 0 + i, none⟩ = some (vs.getD i undef) ∧ (vs.getD i undef).oneCell' = true) ∧ ∀ (i : Nat) x, cs[i]? = some x → Rel E w x (vs.getD i undef) := by
  obtain ⟨b, vs, e, h1, h2, h3, h4⟩ := st.box m cs hb
  refine ⟨b, vs, e, h1, h2, h3, h4, fun i x hx => ?_, fun i x hx => ?_⟩
  · have hi : i < vs.size := by
      have h3' := h3.1
      have := (List.getElem?_eq_some_iff.1 hx).1
      simp at h3'; omega
    have e1 : vs.getD i undef = vs[i] := by simp [Array.getD, hi]
    rw [Nat.zero_add, cell_of_row w b i vs e (0, 0) h2, e1, Array.getElem?_eq_getElem hi]
    exact ⟨rfl, h4 _ (by simp)⟩
  · have hi : i < vs.size := by
      have h3' := h3.1
      have := (List.getElem?_eq_some_iff.1 hx).1
      simp at h3'; omega
    have e1 : vs.getD i undef = vs[i] := by simp [Array.getD, hi]
    rw [e1]
    exact h3.2 i x _ hx (by simp [hi])
theorem eLoad_sound (st : St E (hget h) L w) {t : TypeId} {n : Option Nat} (hs : Shp P t n) {a x : T} {u : Value} (ha : Rel E w a u) (hx : eLoad n a h = some x) :
    ∃ v, (Instr.loadAt t u).run P w = .ok v w ∧ Rel E w x v := by
  unfold eLoad at hx
  split at hx
  · rename_i m off
    cases ha with
    | ptr hb =>
    split at hx
    · rename_i cs hg
      obtain ⟨b, vs, e, h1, _, _, _, h2, h3⟩ := st.box_at hg
      rw [hb] at h1; cases h1
      have := load_at (o := 0) hs (fun i => vs.getD i undef) h2 h3 hx
      simpa using this
    · cases hx
  · rename_i cs off
    cases ha with
    | ro cv h1 h2 => exact load_at hs cv (fun i x hx => (h1 i x hx).2) h2 hx
  · cases hx

/-! ### Writes -/
def isTup : T → Bool
  | .tup _ => true
  | _ => false
theorem isTup_ne {x : T} (h : isTup x = false) : ∀ l, x ≠ .tup l := by rintro l rfl; simp [isTup] at h
def eStore (n : Nat) (a v : T) (h : Heap) : Option Heap :=
  match a with
  | .ptr m off =>
    match hget h m with
    | some (.box cs) => if v.cells.length = n ∧ off + n ≤ cs.length ∧ isTup v = false then some (hset h m (.box (putAt cs off v.cells))) else none
    | _ => none
  | _ => none
theorem hget_hset_fun {n : Name} {x : Blk} (hn : (hget h n).isSome) : hget (hset h n x) = updN (hget h) n (some x) := by
  funext m
  rw [hget_hset h n m x hn]; rfl
theorem hget_hnew_fun {n : Name} {x : Blk} : hget (hnew h n x) = updN (hget h) n (some x) := by
  funext m
  rw [hget_hnew h n m x]; rfl
theorem keep_setRow (w : World) (b : Nat) (vs : Array Value) : Keep (fun i => i = b) w (w.setRow b vs) := ⟨rfl, rfl, rfl, by simp, fun k _ hk => setRow_other w b k _ hk⟩
theorem one_putAt {us vs : List Value} (off : Nat) (h1 : ∀ u ∈ us, u.oneCell' = true) (h2 : ∀ u ∈ vs, u.oneCell' = true) : ∀ u ∈ putAt us off vs, u.oneCell' = true := by
  induction vs generalizing us off with
  | nil => exact h1
  | cons v vs ih =>
    exact ih _ (fun u hu => by
      rcases List.mem_or_eq_of_mem_set hu with h | h
      · exact h1 u h
      · exact h ▸ h2 v (by simp)) (fun u hu => h2 u (by simp [hu]))
theorem write_sound (st : St E (hget h) L w) {m : Name} {cs : List T} (hg : hget h m = some (.box cs)) {b : Nat} (hρ : E.ρ m = some b) {new : List T} {us : List Value} (hn : RelL E w new us) (h1 : ∀ u ∈ us, u.oneCell' = true) {off : Nat} (ho : off + new.length ≤ cs.length) :
    ∃ w', (storeCells ⟨b, off, none⟩ us 0).run P w = .ok () w' ∧ Walk U E (hget h) L w E (hget (hset h m (.box (putAt cs off new)))) L w' := by
  obtain ⟨b', vs, e, h2, h3, h4, h5, _⟩ := st.box_at hg
  rw [hρ] at h2; cases h2
  have hul : off + us.length ≤ vs.size := by have := h4.1; simp at this; rw [hn.1]; omega
  have hrun := run_storeCells_at P b off e us 0 vs w h3 (by simpa using hul) h1
  refine ⟨_, hrun, ?_⟩
  rw [hget_hset_fun (by simp [hg])]
  have e1 : (vs.toList.take (off + 0) ++ us ++ vs.toList.drop (off + 0 + us.length)).toArray = (putAt vs.toList off us).toArray := by
    rw [putAt_eq _ _ _ (by simpa using hul), Nat.add_zero]
  rw [e1]
  refine Walk.set_blk st (by simp [hg]) hρ _ (keep_setRow w b _) (fun cs' e2 => ?_) (fun _ _ e2 => by cases e2)
  cases e2
  exact ⟨_, e, setRow_heap w b vs _ e _ h3, RelP.putAt h4 hn off ho, one_putAt off h5 h1⟩
theorem eStore_sound (st : St E (hget h) L w) {t : TypeId} {n : Nat} (hs : (P.info? t).map (·.size) = some n) {a x : T} {u v : Value} {h' : Heap} (ha : Rel E w a u) (hv : Rel E w x v) (hx : eStore n a x h = some h') :
    ∃ w', (Instr.storeAt t u v).run P w = .ok () w' ∧ Walk U E (hget h) L w E (hget h') L w' := by
  unfold eStore at hx
  split at hx
  · rename_i m off
    cases ha with
    | ptr hb =>
    split at hx
    · rename_i cs hg
      split at hx
      · rename_i hc
        cases hx
        obtain ⟨c1, c2, c3⟩ := hc
        obtain ⟨hr, ho⟩ := hv.cells (isTup_ne c3)
        obtain ⟨w', hrun, hw⟩ := write_sound (P := P) (U := U) st hg hb hr ho (off := off) (by rw [c1]; exact c2)
        refine ⟨w', ?_, hw⟩
        obtain ⟨i, hi, hz⟩ := Option.map_eq_some_iff.1 hs
        have hsz : v.cells.size = i.size := by have := hr.1; simp at this; omega
        simp [Instr.storeAt, Instr.sureAddr, storeVar, sizeOf, typeInfo, hi, hsz, hrun]
      · cases hx
    · cases hx
  · cases hx

/-- A new variable. -/
theorem eBox_sound (st : St E G L w) {nm : Name} (hn : E.ρ nm = none) (hU : U nm) {e : TypeId} {x : T} {u : Value} (hx : Rel E w x u) (ht : isTup x = false) :
    (newVar e u).run P w = .ok ⟨w.heap.size, 0, none⟩ (w.alloc (.cells u.cells e)) ∧
      Rel { E with ρ := updN E.ρ nm (some w.heap.size) } (w.alloc (.cells u.cells e)) (.ptr nm 0) (.pointer (some ⟨w.heap.size, 0, none⟩)) ∧
      Walk U E G L w { E with ρ := updN E.ρ nm (some w.heap.size) } (updN G nm (some (.box x.cells))) L (w.alloc (.cells u.cells e)) := by
  obtain ⟨hr, ho⟩ := hx.cells (isTup_ne ht)
  refine ⟨?_, .ptr (by simp), ?_⟩
  · simp [newVar, newRow]
  · refine Walk.alloc_blk st hn hU _ _ (fun cs e2 => ?_) (fun _ _ e2 => by cases e2)
    cases e2
    exact ⟨_, _, rfl, hr.toP, ho⟩

/-! ### Addresses and parts -/
def eFieldAddr (off : Nat) : T → Option T
  | .ptr m o => some (.ptr m (o + off))
  | .ro cs o => some (.ro cs (o + off))
  | _ => none
theorem eFieldAddr_sound {s : TypeId} {fs : Array Field} {i : Nat} {f : Field} (hs : P.underlying s = some (.struct fs)) (hf : fs[i]? = some f) (hz : ∃ k, (P.info? f.type).map (·.size) = some (k + 1)) {a x : T} {u : Value} (ha : Rel E w a u) (hx : eFieldAddr f.offset a = some x) :
    ∃ v, (Instr.fieldAt s u i).run P w = .ok v w ∧ Rel E w x v := by
  obtain ⟨k, hz⟩ := hz
  obtain ⟨j, hj, hz⟩ := Option.map_eq_some_iff.1 hz
  have run : ∀ b o, (Instr.fieldAt s (.pointer (some ⟨b, o, none⟩)) i).run P w = .ok (.pointer (some ⟨b, o + f.offset, none⟩)) w := by
    intro b o
    simp [Instr.fieldAt, run_underlying hs, hf, Instr.sureAddr, fieldPlace, sizeOf, typeInfo, hj, hz, Addr.add_mid]
  unfold eFieldAddr at hx
  split at hx
  · cases hx; cases ha with
    | ptr hb => exact ⟨_, run _ _, .ptr hb⟩
  · cases hx; cases ha with
    | ro cv h1 h2 => exact ⟨_, by rw [run, Nat.add_assoc], .ro cv h1 h2⟩
  · cases hx

/-- An index: within 0 .. n-1. -/
def tix (n : Nat) : T → Option Nat
  | .v (.int _ i) => if 0 ≤ i ∧ i < n then some i.toNat else none
  | _ => none
theorem tix_sound {n i : Nat} {x : T} {u : Value} (h : tix n x = some i) (hx : Rel E w x u) : ∃ k z, u = .int k z ∧ 0 ≤ z ∧ z < n ∧ z.toNat = i ∧ i < n := by
  unfold tix at h
  split at h
  · rename_i k z
    cases hx
    split at h
    · rename_i hc
      cases h
      exact ⟨k, z, rfl, hc.1, hc.2, rfl, by omega⟩
    · cases h
  · cases h
/-- The address of an array's element. -/
def eIdxA (k n : Nat) (a i : T) : Option T :=
  (tix n i).bind fun j => eFieldAddr (j * k) a
theorem eIdxA_sound {t e : TypeId} {n k : Nat} (ht : P.underlying t = some (.array n e)) (he : (P.info? e).map (·.size) = some k) {a i x : T} {u z : Value} (ha : Rel E w a u) (hi : Rel E w i z) (hx : eIdxA k n a i = some x) :
    ∃ v, (Instr.indexAt t u z).run P w = .ok v w ∧ Rel E w x v := by
  obtain ⟨j, hj, hx⟩ := Option.bind_eq_some_iff.1 hx
  obtain ⟨ik, iz, rfl, h0, h1, h2, h3⟩ := tix_sound hj hi
  obtain ⟨ie, hie, hz⟩ := Option.map_eq_some_iff.1 he
  have run : ∀ b o, (Instr.indexAt t (.pointer (some ⟨b, o, none⟩)) (.int ik iz)).run P w = .ok (.pointer (some ⟨b, o + j * k, none⟩)) w := by
    intro b o
    simp [Instr.indexAt, asIntOf, run_underlying ht, Instr.sureAddr, sizeOf, typeInfo, hie, hz, h0, h1, h2, Addr.add_mid]
  unfold eFieldAddr at hx
  split at hx
  · cases hx; cases ha with
    | ptr hb => exact ⟨_, run _ _, .ptr hb⟩
  · cases hx; cases ha with
    | ro cv h1 h2 => exact ⟨_, by rw [run, Nat.add_assoc], .ro cv h1 h2⟩
  · cases hx
/-- The address of a slice's element. -/
def eIdxS (k : Nat) (a i : T) : Option T :=
  match a with
  | .sl l _ => (tix l.length i).bind fun j => (l[j]?).bind fun x => if x.cells.length = k then some (.ro x.cells 0) else none
  | .msl m off len => (tix len i).bind fun j => some (.ptr m (off + j * k))
  | _ => none
theorem flat_get {l : List T} {k : Nat} (hl : ∀ x ∈ l, x.cells.length = k) {j : Nat} {x : T} (hj : l[j]? = some x) {i : Nat} (hi : i < k) : (l.flatMap T.cells)[j * k + i]? = x.cells[i]? := by
  induction l generalizing j with
  | nil => simp at hj
  | cons y l ih =>
    have hy := hl y (by simp)
    rw [List.flatMap_cons]
    cases j with
    | zero =>
      simp at hj; subst hj
      rw [Nat.zero_mul, Nat.zero_add, List.getElem?_append_left (by omega)]
    | succ j =>
      rw [List.getElem?_append_right (by rw [hy, Nat.add_mul]; omega), hy, show (j + 1) * k + i - k = j * k + i by rw [Nat.add_mul]; omega]
      exact ih (fun x hx => hl x (by simp [hx])) (by simpa using hj)
theorem eIdxS_sound {t e : TypeId} {k : Nat} (ht : P.underlying t = some (.slice e)) (he : (P.info? e).map (·.size) = some k) {a i x : T} {u z : Value} (ha : Rel E w a u) (hi : Rel E w i z) (hx : eIdxS k a i = some x) :
    ∃ v, (Instr.indexAt t u z).run P w = .ok v w ∧ Rel E w x v := by
  obtain ⟨ie, hie, hz⟩ := Option.map_eq_some_iff.1 he
  have run : ∀ b o (len c : Nat) ik (iz : Int) (j : Nat), 0 ≤ iz → iz < len → iz.toNat = j → (Instr.indexAt t (.slice (some ⟨b, o, none⟩) len c) (.int ik iz)).run P w = .ok (.pointer (some ⟨b, o + j * k, none⟩)) w := by
    intro b o len c ik iz j h0 h1 h2
    simp [Instr.indexAt, asIntOf, run_underlying ht, sizeOf, typeInfo, hie, hz, h0, h1, h2, Addr.add_mid]
  unfold eIdxS at hx
  split at hx
  · rename_i l tg
    obtain ⟨j, hj, hx⟩ := Option.bind_eq_some_iff.1 hx
    obtain ⟨y, hy, hx⟩ := Option.bind_eq_some_iff.1 hx
    obtain ⟨ik, iz, rfl, h0, h1, h2, h3⟩ := tix_sound hj hi
    split at hx
    · rename_i hk
      cases hx
      cases ha with
      | slnil => simp at hy
      | slno _ _ _ _ => simp at hy
      | sl cv hk0 hl hc hm ht' g1 g2 =>
        rename_i b o c k0
        have : k0 = k := by rw [← hk, hl y (List.mem_of_getElem? hy)]
        subst this
        refine ⟨_, run b o _ c ik iz j h0 h1 h2, ?_⟩
        have := Rel.ro (E := E) (w := w) (cs := y.cells) (off := 0) (b := b) (o := o + j * k0) (fun i => cv (j * k0 + i)) (fun i x hx => ?_) (fun i x hx => ?_)
        · simpa using this
        · have hik : i < k0 := by rw [← hk]; exact (List.getElem?_eq_some_iff.1 hx).1
          have := g1 (j * k0 + i) x (by rw [flat_get hl hy hik]; exact hx)
          rwa [← Nat.add_assoc] at this
        · have hik : i < k0 := by rw [← hk]; exact (List.getElem?_eq_some_iff.1 hx).1
          exact g2 (j * k0 + i) x (by rw [flat_get hl hy hik]; exact hx)
    · cases hx
  · rename_i m off len
    obtain ⟨j, hj, hx⟩ := Option.bind_eq_some_iff.1 hx
    cases hx
    obtain ⟨ik, iz, rfl, h0, h1, h2, h3⟩ := tix_sound hj hi
    cases ha with
    | msl hb hc hm => exact ⟨_, run _ _ _ _ ik iz j h0 h1 h2, .ptr hb⟩
  · cases hx

theorem run_part_rel {t : TypeId} {n : Option Nat} (hs : Shp P t n) {cs : List T} {us : Array Value} (h1 : us.size = cs.length) (h0 : ∀ u ∈ us.toList, u.oneCell' = true) (h2 : ∀ (i : Nat) x u, cs[i]? = some x → us[i]? = some u → Rel E w x u) {off : Nat} {x : T} (hx : tpart cs off n = some x) :
    ∃ v, (part t us off).run P w = .ok v w ∧ Rel E w x v := by
  cases n with
  | none =>
    obtain ⟨d, hd, hr⟩ := hs
    simp only [tpart] at hx
    have hlt : off < us.size := by rw [h1]; exact (List.getElem?_eq_some_iff.1 hx).1
    refine ⟨us[off], ?_, h2 off x _ hx (Array.getElem?_eq_getElem hlt)⟩
    simp [part, run_isAgg hd, hr, hlt]
  | some n =>
    obtain ⟨⟨d, hd, hr⟩, hz⟩ := hs
    obtain ⟨i, hi, hz⟩ := Option.map_eq_some_iff.1 hz
    simp only [tpart] at hx
    split at hx
    · rename_i hle
      cases hx
      refine ⟨.agg (us.extract off (off + n)), by simp [part, run_isAgg hd, hr, sizeOf, typeInfo, hi, hz], .agg (by simp; omega) (fun u hu => h0 u ?_) (fun i y u hy hu => ?_)⟩
      · rw [Array.toList_extract] at hu
        simp only [List.extract_eq_take_drop] at hu
        exact List.mem_of_mem_drop (List.mem_of_mem_take hu)
      · rw [List.getElem?_take] at hy
        split at hy
        · rename_i hi'
          rw [List.getElem?_drop] at hy
          rw [Array.getElem?_extract] at hu
          split at hu
          · exact h2 _ y u hy hu
          · cases hu
        · cases hy
    · cases hx
/-- A field of a struct's value. -/
def eField (off : Nat) (n : Option Nat) : T → Option T
  | .agg cs => tpart cs off n
  | _ => none
theorem eField_sound {s : TypeId} {fs : Array Field} {i : Nat} {f : Field} {n : Option Nat} (hs : P.underlying s = some (.struct fs)) (hf : fs[i]? = some f) (hn : Shp P f.type n) {a x : T} {u : Value} (ha : Rel E w a u) (hx : eField f.offset n a = some x) :
    ∃ v, (Instr.field s u i).run P w = .ok v w ∧ Rel E w x v := by
  unfold eField at hx
  split at hx
  · cases ha with
    | agg h1 h0 h2 =>
      obtain ⟨v, hv, hr⟩ := run_part_rel hn h1 h0 h2 hx
      exact ⟨v, by simp [Instr.field, run_underlying hs, hf, asAgg, hv], hr⟩
  · cases hx
/-- An element of an array's value. -/
def eIdxV (k len : Nat) (n : Option Nat) (a i : T) : Option T :=
  match a with
  | .agg cs => (tix len i).bind fun j => tpart cs (j * k) n
  | _ => none
theorem eIdxV_sound {t e : TypeId} {k len : Nat} {n : Option Nat} (ht : P.underlying t = some (.array len e)) (he : (P.info? e).map (·.size) = some k) (hn : Shp P e n) {a i x : T} {u z : Value} (ha : Rel E w a u) (hi : Rel E w i z) (hx : eIdxV k len n a i = some x) :
    ∃ v, (Instr.index t u z).run P w = .ok v w ∧ Rel E w x v := by
  obtain ⟨ie, hie, hz⟩ := Option.map_eq_some_iff.1 he
  unfold eIdxV at hx
  split at hx
  · obtain ⟨j, hj, hx⟩ := Option.bind_eq_some_iff.1 hx
    obtain ⟨ik, iz, rfl, h0, h1, h2, h3⟩ := tix_sound hj hi
    cases ha with
    | agg g1 g0 g2 =>
      obtain ⟨v, hv, hr⟩ := run_part_rel hn g1 g0 g2 hx
      exact ⟨v, by simp [Instr.index, asIntOf, run_underlying ht, h0, h1, h2, sizeOf, typeInfo, hie, hz, hv], hr⟩
  · cases hx
/-- A byte of a text. -/
def eIdxStr (a i : T) : Option T :=
  match a with
  | .v (.string s) => (tix s.size i).bind fun j => (s.data.toList[j]?).map fun b => .v (.int .u8 (b.toNat : Int))
  | _ => none
theorem eIdxStr_sound {t : TypeId} (ht : P.underlying t = some .string) {a i x : T} {u z : Value} (ha : Rel E w a u) (hi : Rel E w i z) (hx : eIdxStr a i = some x) : ∃ v, (Instr.index t u z).run P w = .ok v w ∧ Rel E w x v := by
  unfold eIdxStr at hx
  split at hx
  · rename_i s
    obtain ⟨j, hj, hx⟩ := Option.bind_eq_some_iff.1 hx
    obtain ⟨b, hb, rfl⟩ := Option.map_eq_some_iff.1 hx
    obtain ⟨ik, iz, rfl, h0, h1, h2, h3⟩ := tix_sound hj hi
    cases ha
    refine ⟨.int .u8 (b.toNat : Int), ?_, .v rfl⟩
    have hb' : s[j]? = some b := by
      have hlt : j < s.size := h3
      rw [getElem?_pos s j hlt]
      obtain ⟨hl, e⟩ := List.getElem?_eq_some_iff.1 hb
      rw [← e]; rfl
    simp [Instr.index, asIntOf, run_underlying ht, h0, h2, hb']
  · cases hx
end
end Go.AE
