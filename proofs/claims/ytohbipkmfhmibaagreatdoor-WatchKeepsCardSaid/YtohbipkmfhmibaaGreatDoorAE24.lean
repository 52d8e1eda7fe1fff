import Derived.Test.YtohbipkmfhmibaaGreatDoorAE23
/-! AE24: operations of a region, out of their order. -/
set_option linter.unusedVariables false
set_option linter.unusedSimpArgs false
namespace Go.AE
open Go.RowKit Go.LB

section
variable {C : Cfg} {call : FuncId → Name → List T → Heap → Option (T × Heap)} {fr fr2 : Fr} {nm p : Name}

theorem eOc {x : O} (h : ∀ t ∈ rO x, fget fr2 t = fget fr t) : eO fr2 x = eO fr x := by
  cases x with
  | t n => exact h n (by simp [rO])
  | c x => rfl
theorem eOsc : ∀ {l : List O}, (∀ t ∈ rOs l, fget fr2 t = fget fr t) → eOs fr2 l = eOs fr l
  | [], _ => rfl
  | x :: l, h => by
    simp only [rOs, List.flatMap_cons, List.forall_mem_append] at h
    simp only [eOs, eOc h.1, eOsc (l := l) h.2]
theorem eOoc {x : Option O} (h : ∀ t ∈ rOo x, fget fr2 t = fget fr t) : eOo fr2 x = eOo fr x := by
  cases x with
  | none => rfl
  | some x => simp only [eOo, eOc h]
theorem ePsc : ∀ {l : List (Nat × Nat × O)}, (∀ t ∈ l.flatMap (fun p => rO p.2.2), fget fr2 t = fget fr t) → ePs fr2 l = ePs fr l
  | [], _ => rfl
  | (a, b, x) :: l, h => by
    simp only [List.flatMap_cons, List.forall_mem_append] at h
    simp only [ePs, eOc h.1, ePsc (l := l) h.2]
theorem eQsc : ∀ {l : List (Nat × O)}, (∀ t ∈ l.flatMap (fun p => rO p.2), fget fr2 t = fget fr t) → eQs fr2 l = eQs fr l
  | [], _ => rfl
  | (a, x) :: l, h => by
    simp only [List.flatMap_cons, List.forall_mem_append] at h
    simp only [eQs, eOc h.1, eQsc (l := l) h.2]
theorem evR_fr {r : R} (h : ∀ t ∈ rds r, fget fr2 t = fget fr t) (k : Heap) (L : List Name) : evR C call fr2 nm k L r = evR C call fr nm k L r ∧ fpn C fr2 k r = fpn C fr k r ∧ fpc fr2 r = fpc fr r := by
  cases r <;> simp only [rds, List.forall_mem_append] at h
  case len q x => have e := eOc h; cases q <;> simp only [evR, fpn, fpc, e, and_self]
  case build z ps => have e := ePsc h; simp only [evR, fpn, fpc, e, and_self]
  case bsl z ps => have e := eQsc h; simp only [evR, fpn, fpc, e, and_self]
  case fn f a b => have e := eOsc h.1; have e2 := eOsc h.2; simp only [evR, fpn, fpc, e, e2, and_self]
  case mm => have e := eOsc h; simp only [evR, fpn, fpc, e, and_self]
  case call => have e := eOsc h; simp only [evR, fpn, fpc, e, and_self]
  case callv => have e := eOc h.1; have e2 := eOsc h.2; simp only [evR, fpn, fpc, e, e2, and_self]
  case slStr => have e := eOc h.1; have e2 := eOoc h.2.1; have e3 := eOoc h.2.2; simp only [evR, fpn, fpc, e, e2, e3, and_self]
  case slX => have e := eOc h.1; have e2 := eOoc h.2.1; have e3 := eOoc h.2.2.1; have e4 := eOoc h.2.2.2; simp only [evR, fpn, fpc, e, e2, e3, e4, and_self]
  case slA => have e := eOc h.1; have e2 := eOoc h.2.1; have e3 := eOoc h.2.2.1; have e4 := eOoc h.2.2.2; simp only [evR, fpn, fpc, e, e2, e3, e4, and_self]
  all_goals first
    | (have e := eOc h; simp only [evR, fpn, fpc, e, and_self])
    | (have e := eOc h.1; have e2 := eOc h.2; simp only [evR, fpn, fpc, e, e2, and_self])
    | (have e := eOc h.1; have e2 := eOc h.2.1; have e3 := eOc h.2.2; simp only [evR, fpn, fpc, e, e2, e3, and_self])
    | simp only [evR, fpn, fpc, and_self]
theorem fpn_zero {r : R} {h : Heap} (hc : hcl C r = 0 ∨ hcl C r = 2) : fpn C fr h r = [] := by
  cases r <;> first | rfl | (simp [hcl] at hc; done) | skip
  case load n a =>
    cases a with
    | t k => simp [hcl] at hc
    | c x => cases x <;> first | rfl | (simp [hcl] at hc; done)
  case len k x => cases k <;> first | rfl | (simp [hcl] at hc; done)
  case call f xs =>
    simp only [hcl] at hc
    cases hf : (C.ora f).isSome || C.mode f == 0 with
    | true => simp only [fpn, hf, if_true]
    | false => simp [hf] at hc
theorem fpc_zero {r : R} (ht : tcl r ≠ 3) : fpc fr r = [] := by cases r <;> first | rfl | exact absurd rfl ht

def rdq (q : ROp) : List Nat := rds q.r ++ (match q.g with | none => [] | some g => [g.1])
abbrev S := Fr × Heap × List Name
def stepE (C : Cfg) (call : FuncId → Name → List T → Heap → Option (T × Heap)) (p : Name) (e : Nat × ROp) (s : S) : Option S :=
  match gd s.1 e.2.g with
  | none => none
  | some true => (evR C call s.1 (p ++ [e.1]) s.2.1 s.2.2 e.2.r).map fun q => (put s.1 e.2.d q.1, q.2.1, q.2.2)
  | some false => some (put s.1 e.2.d (.tup []), s.2.1, s.2.2)
def fpE (C : Cfg) (e : Nat × ROp) (s : S) : List Name :=
  match gd s.1 e.2.g with
  | some true => fpn C s.1 s.2.1 e.2.r
  | _ => []
theorem fget_put (fr : Fr) (d : Option Nat) (x : T) (t : Nat) : fget (put fr d x) t = if d = some t then some x else fget fr t := by
  cases d with
  | none => simp [put]
  | some d => simp [put, fget_fset]
theorem gd_fr {q : ROp} (h : ∀ t ∈ rdq q, fget fr2 t = fget fr t) : gd fr2 q.g = gd fr q.g := by
  unfold rdq at h
  cases hg : q.g with
  | none => rfl
  | some g =>
    obtain ⟨t, b⟩ := g
    simp only [hg, List.forall_mem_append] at h
    simp only [gd, h.2 t (by simp)]

/-- One step, told. -/
structure Spec (C : Cfg) (call : FuncId → Name → List T → Heap → Option (T × Heap)) (p : Name) (e : Nat × ROp) (s s1 : S) (x : T) (cs add : List Name) : Prop where
  fr : s1.1 = put s.1 e.2.d x
  has : ∀ n ∈ fpE C e s, (hget s.2.1 n).isSome
  same : hcl C e.2.r ≤ 1 → s1.2.1 = s.2.1
  new : hcl C e.2.r ≠ 3 → ∀ n, ¬ p ++ [e.1] <+: n → hget s1.2.1 n = hget s.2.1 n
  out : ∀ n, n ∉ fpE C e s → ¬ p ++ [e.1] <+: n → hget s1.2.1 n = hget s.2.1 n
  take : ∀ c ∈ cs, c ∈ s.2.2
  cs0 : tcl e.2.r ≠ 3 → cs = []
  add0 : tcl e.2.r = 0 → add = []
  addU : ∀ n ∈ add, p ++ [e.1] <+: n
  tok : ∀ n, n ∈ s1.2.2 ↔ n ∈ add ∨ (n ∈ s.2.2 ∧ n ∉ cs)
  tr : ∀ s2 : S, (∀ t ∈ rdq e.2, fget s2.1 t = fget s.1 t) → (∀ n ∈ fpE C e s, hget s2.2.1 n = hget s.2.1 n) → (∀ n, p ++ [e.1] <+: n → hget s2.2.1 n = hget s.2.1 n) → (∀ c ∈ cs, c ∈ s2.2.2) →
    fpE C e s2 = fpE C e s ∧ ∃ s3, stepE C call p e s2 = some s3 ∧ s3.1 = put s2.1 e.2.d x ∧ (∀ n, n ∈ fpE C e s ∨ p ++ [e.1] <+: n → hget s3.2.1 n = hget s1.2.1 n) ∧ (∀ n, n ∉ fpE C e s → ¬ p ++ [e.1] <+: n → hget s3.2.1 n = hget s2.2.1 n) ∧ ∀ n, n ∈ s3.2.2 ↔ n ∈ add ∨ (n ∈ s2.2.2 ∧ n ∉ cs)
theorem step_spec {e : Nat × ROp} {s s1 : S} (h : stepE C call p e s = some s1) : ∃ x cs add, Spec C call p e s s1 x cs add := by
  obtain ⟨fr, k, L⟩ := s
  unfold stepE at h
  simp only at h
  cases hg : gd fr e.2.g with
  | none => rw [hg] at h; cases h
  | some b =>
    rw [hg] at h
    cases b with
    | false =>
      cases h
      have hf : ∀ s2 : S, gd s2.1 e.2.g = some false → fpE C e s2 = [] := fun s2 q => by simp only [fpE, q]
      have h0 := hf (fr, k, L) hg
      refine ⟨.tup [], [], [], rfl, by simp [h0], fun _ => rfl, fun _ _ _ => rfl, fun _ _ _ => rfl, by simp, fun _ => rfl, fun _ => rfl, by simp, by simp, ?_⟩
      intro s2 h1 h2 h3 h4
      have hg2 : gd s2.1 e.2.g = some false := (gd_fr h1).trans hg
      refine ⟨by rw [h0, hf s2 hg2], (put s2.1 e.2.d (.tup []), s2.2.1, s2.2.2), by unfold stepE; rw [hg2], rfl, fun n hn => ?_, fun _ _ _ => rfl, by simp⟩
      rw [h0] at hn
      exact h3 n (hn.elim (fun q => by cases q) id)
    | true =>
      simp only at h
      obtain ⟨⟨x, k1, L1⟩, hx, e1⟩ := Option.map_eq_some_iff.1 h
      cases e1
      obtain ⟨add, A⟩ := evR_act (C := C) (call := call) (fr := fr) (nm := p ++ [e.1]) e.2.r k L x k1 L1 hx
      have h0 : fpE C e (fr, k, L) = fpn C fr k e.2.r := by simp only [fpE, hg]
      refine ⟨x, fpc fr e.2.r, add, rfl, by rw [h0]; exact A.has, A.same, A.new, by rw [h0]; exact A.out, A.take, fpc_zero, A.add0, A.addU, A.tok, ?_⟩
      rintro ⟨fr2, k2, L2⟩ h1 h2 h3 h4
      simp only at h1 h2 h3 h4
      have hg2 : gd fr2 e.2.g = some true := (gd_fr h1).trans hg
      have h1' : ∀ t ∈ rds e.2.r, fget fr2 t = fget fr t := fun t ht => h1 t (by simp [rdq, ht])
      rw [h0] at h2 ⊢
      obtain ⟨q0, k3, L3, q1, q2, q3, q4⟩ := A.tr k2 L2 h2 h3 h4
      have hh0 : fpE C e (fr2, k2, L2) = fpn C fr2 k2 e.2.r := by simp only [fpE, hg2]
      refine ⟨by rw [hh0, (evR_fr (call := call) (nm := p) h1' k2 L2).2.1]; exact q0, (put fr2 e.2.d x, k3, L3), ?_, rfl, q2, q3, q4⟩
      unfold stepE
      simp only [hg2]
      rw [(evR_fr h1' k2 L2).1]
      rw [q1]; rfl
end
end Go.AE
