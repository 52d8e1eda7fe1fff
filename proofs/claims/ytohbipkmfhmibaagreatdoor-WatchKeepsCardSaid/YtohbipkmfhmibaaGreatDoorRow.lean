import Derived.Test.YtohbipkmfhmibaaGreatDoorBase
import Derived.ProofKit
import Derived.OpenShut
import Derived.Carry
/-! Row: from what an argument reads as to data in memory; the row of a law. -/
set_option linter.unusedVariables false
namespace Go.LB
open Go.RowKit Go.ChangeShapes Go.WideShapes Go.ChangeAt

/-- Whatever reads at type t is some x of α. -/
structure Opens (P : Program) (α : Type) [Enc α] (t : TypeId) : Prop where
  cells : P.cellsOf t = Enc.size α
  opens : ∀ (H : Type) (enc : TypeId × Value → H) (W : World) (fuel : Nat) (cs : List Value) x, DataW.trod enc P W 0 (fun _ => true) true fuel t cs = some x → ∃ a : α, Enc.rep W (fun _ => True) a cs

theorem Opens.bool {P : Program} {t : TypeId} (ht : P.underlying t = some .bool) (hc : P.cellsOf t = 1) : Opens P Bool t :=
  ⟨hc, fun H enc W fuel cs x h => by obtain ⟨b, rfl, _⟩ := DataW.trod_bool ht h; exact ⟨b, rfl⟩⟩
theorem Opens.str {P : Program} {t : TypeId} (ht : P.underlying t = some .string) (hc : P.cellsOf t = 1) : Opens P ByteArray t :=
  ⟨hc, fun H enc W fuel cs x h => by obtain ⟨b, rfl, _, hs⟩ := DataW.trod_string ht h; exact ⟨b, rfl, hs⟩⟩
theorem Opens.int {P : Program} {t : TypeId} (ht : P.underlying t = some (.int .i64)) (hc : P.cellsOf t = 1) : Opens P Int t :=
  ⟨hc, fun H enc W fuel cs x h => by
    obtain ⟨n, rfl, _, hw⟩ := DataW.trod_int ht h
    have : -9223372036854775808 ≤ n ∧ n ≤ 9223372036854775807 := by simpa [Lit.wf, IntKind.min, IntKind.max, IntKind.signed, IntKind.bits] using hw
    exact ⟨n, rfl, this⟩⟩
theorem Opens.byte {P : Program} {t : TypeId} (ht : P.underlying t = some (.int .u8)) (hc : P.cellsOf t = 1) : Opens P UInt8 t :=
  ⟨hc, fun H enc W fuel cs x h => by
    obtain ⟨n, rfl, _, hw⟩ := DataW.trod_int ht h
    have : 0 ≤ n ∧ n ≤ 255 := by simpa [Lit.wf, IntKind.min, IntKind.max, IntKind.signed, IntKind.bits] using hw
    refine ⟨UInt8.ofNat n.toNat, ?_⟩
    show [Value.int .u8 n] = [.int .u8 ((UInt8.ofNat n.toNat).toNat : Int)]
    rw [UInt8.toNat_ofNat_of_lt' (by show n.toNat < 256; omega)]
    congr 2
    omega⟩

theorem mapM_opt {α β : Type} {f : α → Option β} : ∀ {l : List α} {r : List β}, l.mapM f = some r → r.length = l.length ∧ ∀ (i : Nat) a, l[i]? = some a → ∃ b, f a = some b ∧ r[i]? = some b
  | [], r, h => by cases h; simp
  | a :: l, r, h => by
    rw [List.mapM_cons] at h
    cases hf : f a with
    | none => simp [hf] at h
    | some b =>
      cases hr : l.mapM f with
      | none => simp [hf, hr] at h
      | some r' =>
        simp [hf, hr] at h
        subst h
        obtain ⟨h1, h2⟩ := mapM_opt hr
        refine ⟨by simp [h1], fun i c hi => ?_⟩
        cases i with
        | zero => cases hi; exact ⟨b, hf, rfl⟩
        | succ i => exact h2 i c hi

theorem cells?_at {w : World} {base n : Nat} {a : Addr} {cs : List Value} (h : w.cells? base a n = some cs) : cs.length = n ∧ ∀ (j : Nat) v, cs[j]? = some v → w.cell? (a.add j) = some v := by
  unfold World.cells? at h
  split at h
  · obtain ⟨h1, h2⟩ := mapM_opt h
    simp only [List.length_range] at h1
    refine ⟨h1, fun j v hj => ?_⟩
    have hlt : j < n := by rw [← h1]; exact (List.getElem?_eq_some_iff.1 hj).1
    obtain ⟨b, hb, hr⟩ := h2 j j (by simp [hlt])
    rw [hb, ← hr, hj]
  · cases h

theorem addr_add_add (a : Addr) (m n : Nat) : (a.add m).add n = a.add (m + n) := by
  unfold Addr.add
  by_cases h1 : m = 0
  · simp [h1]
  · by_cases h2 : n = 0
    · simp [h1, h2]
    · simp [h1, h2, Nat.add_assoc]

theorem Opens.slice {P : Program} {α : Type} [Enc α] {t e : TypeId} (ht : P.underlying t = some (.slice e)) (hc : P.cellsOf t = 1) (hpos : 0 < Enc.size α) (he : Opens P α e) : Opens P (List α) t := by
  refine ⟨hc, fun H enc W fuel cs x h => ?_⟩
  rcases DataW.trod_slice ht h with ⟨rfl, _⟩ | ⟨a, len, cap, elems, rest, n, _, rfl, _, _, hl, hm, hlen, hel, _, _⟩
  · exact ⟨[], _, rfl, SlRep.nil _ _⟩
  · have build : ∀ k, k ≤ len → ∃ (l : List α) (xs : List Value), l.length = k ∧ Reps W (fun _ => True) l xs ∧ ∀ (j : Nat) v, xs[j]? = some v → W.cell? (a.add j) = some v := by
      intro k
      induction k with
      | zero => exact fun _ => ⟨[], [], rfl, rfl, by simp⟩
      | succ k ih =>
        intro hk
        obtain ⟨l, xs, h1, h2, h3⟩ := ih (by omega)
        have hk' := hel k (by omega)
        rw [List.getElem?_eq_getElem (by omega)] at hk'
        obtain ⟨cs, hcs, hd⟩ := Option.bind_eq_some_iff.1 hk'
        obtain ⟨y, hy⟩ := he.opens H enc W n cs _ hd
        obtain ⟨hcl, hcell⟩ := cells?_at hcs
        refine ⟨l ++ [y], xs ++ cs, by simp [h1], h2.append (Reps.single hy), fun j v hj => ?_⟩
        by_cases hj' : j < xs.length
        · rw [List.getElem?_append_left hj'] at hj
          exact h3 j v hj
        · rw [List.getElem?_append_right (by omega)] at hj
          have := hcell _ v hj
          rw [addr_add_add, he.cells, show k * Enc.size α + (j - xs.length) = j by rw [h2.length, h1] at hj' ⊢; omega] at this
          exact this
    obtain ⟨l, xs, h1, h2, h3⟩ := build len (Nat.le_refl _)
    subst h1
    refine ⟨l, _, rfl, some a, cap, xs, rfl, hl, hm, h2, ?_⟩
    by_cases h0 : l = []
    · exact .inl h0
    · right
      have hx : 0 < xs.length := by rw [h2.length]; exact Nat.mul_pos (List.length_pos_iff.2 h0) hpos
      have hc0 := h3 0 xs[0] (by simp [hx])
      have e0 : a.add 0 = a := rfl
      rw [e0] at hc0
      obtain ⟨b, off, spot⟩ := a
      have hs : spot = none := by
        unfold World.cell? at hc0
        cases spot with
        | none => rfl
        | some s => split at hc0 <;> simp at hc0
      subst hs
      refine ⟨b, off, rfl, trivial, World.block_lt_of_cell? _ _ hc0, fun j v hj => ?_⟩
      have := h3 j v hj
      rwa [Addr.add_lit] at this

/-- A struct's fields from one on. -/
def OpensFields (P : Program) (α : Type) [Enc α] (fs : List Field) (off : Nat) : Prop :=
  ∀ (H : Type) (enc : TypeId × Value → H) (W : World) (fuel : Nat) (cs : List Value), cs.length = off + Enc.size α →
    (∀ f ∈ fs, ∃ x, DataW.trod enc P W 0 (fun _ => true) true fuel f.type ((cs.drop f.offset).take (P.cellsOf f.type)) = some x) → ∃ a : α, Enc.rep W (fun _ => True) a (cs.drop off)
theorem OpensFields.one {P : Program} {α : Type} [Enc α] {f : Field} (h : Opens P α f.type) : OpensFields P α [f] f.offset := by
  intro H enc W fuel cs hl hf
  obtain ⟨x, hx⟩ := hf f (by simp)
  rw [h.cells, List.take_of_length_le (by simp; omega)] at hx
  exact h.opens H enc W fuel _ x hx
theorem OpensFields.cons {P : Program} {α β : Type} [Enc α] [Enc β] {f : Field} {fs : List Field} {off : Nat} (h : Opens P α f.type) (ho : off = f.offset + Enc.size α) (hs : OpensFields P β fs off) : OpensFields P (α × β) (f :: fs) f.offset := by
  subst ho
  intro H enc W fuel cs hl hf
  obtain ⟨x, hx⟩ := hf f (by simp)
  rw [h.cells] at hx
  obtain ⟨a, ha⟩ := h.opens H enc W fuel _ x hx
  obtain ⟨b, hb⟩ := hs H enc W fuel cs (by rw [hl]; show _ + (_ + _) = _; omega) (fun g hg => hf g (by simp [hg]))
  refine ⟨(a, b), _, _, ha, hb, ?_⟩
  rw [← List.drop_drop, List.take_append_drop]
theorem Opens.struct {P : Program} {α : Type} [Enc α] {t : TypeId} {fs : Array Field} (ht : P.underlying t = some (.struct fs)) (hc : P.cellsOf t = Enc.size α) (h : OpensFields P α fs.toList 0) : Opens P α t := by
  refine ⟨hc, fun H enc W fuel cs x hx => ?_⟩
  obtain ⟨xs, n, _, _, hl, hlen, hf⟩ := DataW.trod_struct ht hx
  have := h H enc W n cs (by rw [hl, hc]; omega) (fun f hf' => by
    obtain ⟨i, hi, e⟩ := List.mem_iff_getElem.1 hf'
    have h1 := hf i f (by rw [← e]; simp at hi ⊢)
    rw [List.getElem?_eq_getElem (by simp at hi; omega)] at h1
    exact ⟨_, h1⟩)
  simpa using this
theorem Opens.via {P : Program} {α β : Type} [Enc β] {t : TypeId} (f : α → β) (g : β → α) (hg : ∀ b, f (g b) = b) (h : Opens P β t) : @Opens P α (Enc.via f) t := by
  refine @Opens.mk P α (Enc.via f) t h.cells fun H enc W fuel cs x hx => ?_
  obtain ⟨b, hb⟩ := h.opens H enc W fuel cs x hx
  exact ⟨g b, by show Enc.rep W _ (f (g b)) cs; rw [hg]; exact hb⟩
theorem Opens.array {P : Program} {α : Type} [Enc α] {t e : TypeId} {n : Nat} (ht : P.underlying t = some (.array n e)) (hc : P.cellsOf t = n * Enc.size α) (he : Opens P α e) : Opens P (Fix n α) t := by
  refine ⟨hc, fun H enc W fuel cs x h => ?_⟩
  obtain ⟨xs, m, _, _, hl, hlen, hel⟩ := DataW.trod_array ht h
  have build : ∀ k, k ≤ n → ∃ (l : List α), l.length = k ∧ Reps W (fun _ => True) l (cs.take (k * Enc.size α)) := by
    intro k
    induction k with
    | zero => exact fun _ => ⟨[], rfl, by simp [Reps]⟩
    | succ k ih =>
      intro hk
      obtain ⟨l, h1, h2⟩ := ih (by omega)
      have hk' := hel k (by omega)
      rw [List.getElem?_eq_getElem (by omega), he.cells] at hk'
      obtain ⟨y, hy⟩ := he.opens H enc W m _ _ hk'
      refine ⟨l ++ [y], by simp [h1], ?_⟩
      rw [Nat.add_mul, Nat.one_mul, List.take_add]
      exact h2.append (Reps.single hy)
  obtain ⟨l, h1, h2⟩ := build n (Nat.le_refl _)
  rw [List.take_of_length_le (by rw [hl, hc]; exact Nat.le_refl _)] at h2
  exact ⟨⟨l, h1⟩, h2⟩

section
variable {H : Type} {enc : TypeId × Value → H} {P : Program}
theorem post_of_below {f : Func} {s : ChangeSpec} {apart fresh handsOn again : Bool} {W W' : World} {args : Array Value} {v : Value} {ds gs : List (DataW H)} {before pa pv : List MemPlace}
    (hW : DataW.Whole enc P f.params.toList s.vars apart W args.toList ds gs before)
    (hres : ∀ (b : Nat) (sp : Nat → Bool) (hd : Bool), DataW.TrodAll enc P W' b sp hd f.resultTypes.toList (v.resultList f.resultTypes.size) (s.fn H (ds ++ gs)).results [])
    (hargs : ∀ sp : Nat → Bool, (∀ p ∈ before, sp p.block = true) → DataW.TrodAll enc P W' 0 sp true f.params.toList args.toList (s.fn H (ds ++ gs)).args pa)
    (hvars : ∀ sp : Nat → Bool, (∀ p ∈ before, sp p.block = true) → DataW.TrodVars enc P W' sp s.vars (s.fn H (ds ++ gs)).vars pv)
    (hps : before = pa ++ pv) (hb : Below W.heap.size W W')
    (hok : ∀ (j : Nat) (t : TypeId) (r : Value), f.resultTypes[j]? = some t → (v.resultList f.resultTypes.size)[j]? = some r → Value.okWide P W' .any 0 t r) :
    s.post enc P f apart fresh handsOn again W args v W' := by
  have hlt : ∀ p ∈ before, p.block < W.heap.size := fun p hp => hW.lt p hp
  have hold : ∀ p ∈ before, (fun b => decide (b < W.heap.size)) p.block = true := fun p hp => by simpa using hlt p hp
  refine ⟨ds, gs, before, [], pa, pv, hW, hres _ _ _, hargs _ hold, hvars _ hold, World.keptBut_mono (fun p hp => ⟨hp, ?_⟩) (hb.frame (· ∈ before)), fun _ => ?_⟩
  · rw [hps, List.mem_append] at hp
    exact Or.inr hp
  · obtain ⟨_, _, _, _, _, hz, hn⟩ := hW
    refine ⟨hok, _, _, ([] ++ pa) ++ pv, ⟨[] ++ pa, pv, trodAll_append (hargs _ (fun _ _ => rfl)) (hres _ _ _), hvars _ (fun _ _ => rfl), rfl, ?_, ?_⟩, ?_⟩
    · intro b off hp
      have hin : MemPlace.cell b off ∈ before := by rw [hps]; simpa using hp
      rw [hb.frozen (hlt _ hin)]
      exact hz b off hin
    · intro ha
      have := hn ha
      rw [hps] at this
      simpa using this
    · intro p hp _
      rw [hps]
      simpa using hp
/-- All arguments read behind the call as they read before. -/
theorem trodAll_stays (hl : laidOutB P = true) {W W' : World} : ∀ {ts : List TypeId} {vs : List Value} {ds : List (DataW H)} {ps : List MemPlace}, ts.all (fun t => P.readableRec t && decide (t < P.types.size)) = true →
    DataW.TrodAll enc P W 0 (fun _ => true) true ts vs ds ps → (∀ p ∈ ps, W.sameAt W' p) → ∀ sp : Nat → Bool, (∀ p ∈ ps, sp p.block = true) → DataW.TrodAll enc P W' 0 sp true ts vs ds ps
  | [], [], [], _, _, h, _, _, _ => h
  | t :: ts, v :: vs, d :: ds, _, ht, ⟨p, q, h1, h2, e⟩, hs, sp, hsp => by
    subst e
    simp only [List.all_cons, Bool.and_eq_true, decide_eq_true_eq] at ht
    exact ⟨p, q, WideElems.Trod_stays hl ht.1.1 ht.1.2 h1 (fun x hx => hs x (by simp [hx])) (fun x hx => hsp x (by simp [hx])),
      trodAll_stays hl (by simpa using ht.2) h2 (fun x hx => hs x (by simp [hx])) sp (fun x hx => hsp x (by simp [hx])), rfl⟩
  | [], [], _ :: _, _, _, h, _, _, _ => h.elim
  | [], _ :: _, _, _, _, h, _, _, _ => h.elim
  | _ :: _, [], _, _, _, h, _, _, _ => h.elim
  | _ :: _, _ :: _, [], _, _, h, _, _, _ => h.elim
/-- What a law's row asks behind its call: it returned true, and nothing that was there has turned. -/
theorem post_law {f : Func} {s : ChangeSpec} {T : TypeId} {W W' : World} {args : Array Value} {ds gs : List (DataW H)} {before : List MemPlace} (hl : laidOutB P = true)
    (hp : f.params.toList.all (fun t => P.readableRec t && decide (t < P.types.size)) = true) (hr : f.resultTypes = #[T]) (hT : P.underlying T = some .bool) (hv : s.vars = [])
    (hfn : (s.fn H (ds ++ gs)).results = [.lit (.bool true)] ∧ (s.fn H (ds ++ gs)).args = ds ∧ (s.fn H (ds ++ gs)).vars = [])
    (hW : DataW.Whole enc P f.params.toList s.vars false W args.toList ds gs before) (hb : New W W') :
    s.post enc P f false true false false W args (.bool true) W' := by
  have hW' := hW
  obtain ⟨p, q, hA, hV, e, _, _⟩ := hW'
  rw [hv] at hV
  obtain ⟨rfl, rfl⟩ := trodVars_none hV
  rw [List.append_nil] at e
  subst e
  refine post_of_below (pa := before) (pv := []) hW ?_ ?_ ?_ (by simp) hb.below ?_
  · intro b sp hd
    rw [hr, hfn.1]
    exact trodAll_mk1 (shut_bool hT _)
  · intro sp hsp
    rw [hfn.2.1]
    exact trodAll_stays hl hp hA (fun x hx => hb.below.same (hW.lt x hx)) sp hsp
  · intro sp hsp
    rw [hfn.2.2, hv]
    exact rfl
  · exact ok_one hr rfl (okWide_bool_mk hT _)
end
theorem open_slice_arg {P : Program} {α : Type} [Enc α] {t e : TypeId} {H : Type} {enc : TypeId × Value → H} {W : World} {r : Reach} {b : Nat} {v : Value} {d : DataW H} {p : List MemPlace}
    (ho : Opens P (List α) t) (ht : P.underlying t = some (.slice e)) (hval : Value.okWide P W r b t v) (h : DataW.Trod enc P W 0 (fun _ => true) true t v d p) : ∃ l : List α, SlRep W (fun _ => True) l v := by
  have h1 : v.cells = #[v] := by
    unfold Value.okWide at hval
    rw [ht] at hval
    simp only [Cell.okWide, ht] at hval
    cases v with
    | agg cs => simp [Cell.ok, ht] at hval
    | _ => rfl
  obtain ⟨fuel, hf⟩ := h
  rw [h1] at hf
  obtain ⟨l, u, e, hl⟩ := ho.opens H enc W fuel _ _ hf
  cases e
  exact ⟨l, hl⟩
end Go.LB
