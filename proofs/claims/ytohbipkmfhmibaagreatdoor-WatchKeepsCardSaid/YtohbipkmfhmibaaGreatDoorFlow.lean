import Derived.Test.YtohbipkmfhmibaaGreatDoorBase
import Derived.Deep.RegionHeld3
/-! Flow: a region that draws its order, one step an operation, whatever came up before it. -/
set_option linter.unusedVariables false
namespace Go.LB
open Go.RowKit

/-- Which operations have been carried out. -/
def Lst := Nat → Bool
def Lst.up (f : Lst) (i : Nat) : Lst := fun j => if j = i then true else f j
theorem Lst.up_same (f : Lst) (i : Nat) : f.up i i = true := if_pos rfl
theorem Lst.up_ne (f : Lst) {i j : Nat} (h : j ≠ i) : f.up i j = f j := if_neg h
/-- All that operation i waits for has been carried out. -/
def Deps (ops : Array Oper) (f : Lst) (i : Nat) : Prop := ∀ o, ops[i]? = some o → ∀ e ∈ o.after.toList, f e.on = true

section
variable {P : Program} {ops : Array Oper} {Q : Exit → Act → World → Prop}
theorem wpAny_flow (I : Lst → Act → World → Prop)
    (hstep : ∀ f a w i, i < ops.size → I f a w → f i = false → (∀ o, ops[i]? = some o → ∀ e ∈ o.after.toList, Region.binds .any e = true → f e.on = true) → wpOp P ops Q i (I (f.up i)) a w)
    (hend : ∀ f a w, (∀ i, i < ops.size → f i = true) → I f a w → Q .normal a w)
    (hacyc : ∀ f : Lst, (∀ i, i < ops.size → f i = false → ∃ o, ops[i]? = some o ∧ ∃ e ∈ o.after.toList, Region.binds .any e = true ∧ f e.on = false) → ∀ i, i < ops.size → f i = true) :
    ∀ (fuel : Nat) (L : Array Bool) (a : Act) (w : World), L.size = ops.size → (∃ l : List Nat, l.length ≤ fuel ∧ ∀ i, i < ops.size → L.getD i true = false → i ∈ l) → I (fun i => L.getD i false) a w → wpAny P .any ops Q fuel L a w := by
  have hready : ∀ (L : Array Bool), L.size = ops.size → Region.ready .any ops L = [] → ∀ i, i < ops.size → L.getD i false = true := by
    intro L hL hr
    refine hacyc (fun i => L.getD i false) fun i hi hf => ?_
    obtain ⟨o, ho⟩ : ∃ o, ops[i]? = some o := ⟨ops[i], Array.getElem?_eq_getElem hi⟩
    refine ⟨o, ho, ?_⟩
    have hnot : i ∉ Region.ready .any ops L := by rw [hr]; simp
    have hLi : L.getD i true = false := by
      have hi' : i < L.size := by omega
      simp [Array.getD, hi'] at hf ⊢
      exact hf
    simp only [Region.ready, List.mem_filter, List.mem_range, hi, true_and, ho, Option.map_some, Option.getD_some, hLi, Bool.not_false, Bool.true_and] at hnot
    rw [← Array.all_toList] at hnot
    simp only [List.all_eq_true, Bool.or_eq_true, Bool.not_eq_true'] at hnot
    refine Classical.byContradiction fun hne => hnot fun e he => ?_
    cases h1 : Region.binds .any e with
    | false => exact .inl rfl
    | true =>
      cases h2 : L.getD e.on false with
      | true => exact .inr rfl
      | false => exact absurd ⟨e, he, h1, h2⟩ hne
  intro fuel
  induction fuel with
  | zero =>
    intro L a w hL ⟨l, hl, hm⟩ hI
    have hl0 : l = [] := List.eq_nil_of_length_eq_zero (by omega)
    subst hl0
    have hall : ∀ i, i < ops.size → L.getD i true = true := fun i hi => by
      cases h : L.getD i true with
      | true => rfl
      | false => exact absurd (hm i hi h) (by simp)
    have hr : Region.ready .any ops L = [] := by
      rw [List.eq_nil_iff_forall_not_mem]
      intro i hi
      simp only [Region.ready, List.mem_filter, List.mem_range] at hi
      rw [hall i hi.1] at hi
      simp at hi
    exact ⟨hr, hend _ a w (hready L hL hr) hI⟩
  | succ fuel ih =>
    intro L a w hL ⟨l, hl, hm⟩ hI
    refine ⟨fun hr => hend _ a w (hready L hL hr) hI, fun i hi => ?_⟩
    have hi' := hi
    simp only [Region.ready, List.mem_filter, List.mem_range, Bool.and_eq_true, Bool.not_eq_true'] at hi
    obtain ⟨hlt, hLi, hdep⟩ := hi
    have hfi : (fun i => L.getD i false) i = false := by
      have h2 : i < L.size := by omega
      simp [Array.getD, h2] at hLi ⊢
      exact hLi
    refine wpOp_mono ?_ (hstep (fun i => L.getD i false) a w i hlt hI hfi ?_)
    · intro a' w' hI'
      refine ih _ a' w' (by simp [hL]) ⟨l.erase i, ?_, ?_⟩ ?_
      · rw [List.length_erase_of_mem (hm i hlt hLi)]; omega
      · intro j hj hLj
        have hne : j ≠ i := by
          rintro rfl
          have h2 : j < L.size := by omega
          simp [Array.getD, h2] at hLj
        have h2 : j < L.size := by omega
        refine (List.mem_erase_of_ne hne).2 (hm j hj ?_)
        simp [Array.getD, h2, Ne.symm hne] at hLj ⊢
        exact hLj
      · have e : (Lst.up (fun i => L.getD i false) i) = (fun j => (L.setIfInBounds i true).getD j false) := by
          funext j
          unfold Lst.up
          have h2 : i < L.size := by omega
          by_cases hj : j = i
          · subst hj; simp [Array.getD, h2]
          · by_cases h3 : j < L.size
            · simp [hj, Array.getD, h3, Ne.symm hj]
            · simp [hj, Array.getD, h3]
        rw [← e]
        exact hI'
    · intro o ho e he hb
      rw [ho] at hdep
      simp only [Option.map_some, Option.getD_some] at hdep
      rw [← Array.all_toList, List.all_eq_true] at hdep
      have := hdep e he
      simpa [hb] using this

/-- C of each operation, at its number. -/
def EachAt (C : Nat → Oper → Prop) : List Oper → Nat → Prop
  | [], _ => True
  | o :: l, k => C k o ∧ EachAt C l (k + 1)
theorem EachAt.get {C : Nat → Oper → Prop} : ∀ {l : List Oper} {k : Nat}, EachAt C l k → ∀ (i : Nat) o, l[i]? = some o → C (k + i) o
  | [], _, _, i, o, h => by simp at h
  | o :: l, k, ⟨h1, h2⟩, i, o', h => by
    cases i with
    | zero => cases h; exact h1
    | succ i => have := h2.get i o' (by simpa using h); rwa [show k + (i + 1) = k + 1 + i by omega]
/-- Each operation waits for such alone as stand ahead of it. -/
def topoB (l : List Oper) : Bool := l.zipIdx.all fun (o, i) => o.after.toList.all fun e => !Region.binds .any e || decide (e.on < i)
/-- What has come up before operation o. -/
def depsB (o : Oper) (f : Lst) : Bool := o.after.toList.all fun e => !Region.binds .any e || f e.on
theorem wp_region_flow {id : Nat} {l : List Oper} {a : Act} {w : World} (hm : P.follows .mixedOrders = true) (ht : topoB l = true) (I : Lst → Act → World → Prop) (h0 : I (fun _ => false) a w.drew)
    (hstep : EachAt (fun i o => ∀ f a w, I f a w → f i = false → depsB o f = true → ∀ K : Act → World → Prop, (∀ a w, I (f.up i) a w → K a w) →
      if Region.wanted o (yielded l.toArray a.tmps) then o.wp P a w K Q else K (a.put o.dst undef) w) l 0)
    (hend : ∀ f a w, (∀ i, i < l.length → f i = true) → I f a w → Q .normal a w) : (Code.region id l.toArray true).wp P Q a w := by
  refine wp_region_any hm (wpAny_flow I ?_ ?_ ?_ _ _ _ _ (by simp) ⟨List.range l.length, by simp, fun i hi _ => by simpa using hi⟩ ?_)
  · intro f a w i hi hI hf hd
    have hi' : i < l.length := by simpa using hi
    have ho : l.toArray[i]? = some l[i] := by simp [hi']
    have hs := hstep.get i l[i] (List.getElem?_eq_getElem hi') f a w hI (by simpa using hf) (by
      unfold depsB
      rw [List.all_eq_true]
      intro e he
      cases hb : Region.binds .any e with
      | false => rfl
      | true => simpa [hb] using hd _ ho e he hb) _ (fun _ _ h => h)
    unfold wpOp
    rw [ho]
    simp only [Nat.zero_add] at hs ⊢
    split
    · rename_i hw; rw [if_pos hw] at hs; exact .inl hs
    · rename_i hw; rw [if_neg hw] at hs; exact hs
  · intro f a w hall hI
    exact hend f a w (fun i hi => hall i (by simpa using hi)) hI
  · intro f hf i
    induction i using Nat.strongRecOn with
    | _ i ih =>
      intro hi
      cases hfi : f i with
      | true => rfl
      | false =>
        obtain ⟨o, ho, e, he, hb, hon⟩ := hf i hi hfi
        have hlt : e.on < i := by
          unfold topoB at ht
          rw [List.all_eq_true] at ht
          have h1 : l[i]? = some o := by simpa using ho
          have := ht (o, i) (List.mem_zipIdx_iff_getElem?.2 h1)
          simp only [List.all_eq_true] at this
          simpa [hb] using this e he
        have := ih e.on hlt (by simp at hi ⊢; omega)
        rw [this] at hon
        cases hon
  · have e : (fun i => (Array.replicate l.toArray.size false).getD i false) = (fun _ => false : Lst) := by
      funext i
      by_cases h : i < l.length <;> simp [Array.getD, h]
    rw [e]
    exact h0
end
end Go.LB
