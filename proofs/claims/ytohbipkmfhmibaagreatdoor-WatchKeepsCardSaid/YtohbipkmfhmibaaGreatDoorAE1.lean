import Derived.Test.YtohbipkmfhmibaaGreatDoorBase
/-! AE1: abstract values, and what they stand for in a world. -/
set_option linter.unusedVariables false
namespace Go.AE
open Go.RowKit Go.LB

abbrev Name := List Nat

/-- A slice's tag: nil; nothing known; its room behind is ours (name, cells an element); marked room behind. -/
inductive Tag where
  | nil | no | own (n : Name) (k : Nat) | kept
  deriving DecidableEq, Inhabited

/-- Abstract values. -/
inductive T where
  | v (x : Value)
  | gl (k : Nat)
  | ptr (n : Name) (off : Nat)
  | ro (cs : List T) (off : Nat)
  | sl (l : List T) (t : Tag)
  | msl (n : Name) (off len : Nat)
  | map (n : Name)
  | fn (f : Fn) (first cap : List T)
  | ifc (t : TypeId) (x : T)
  | agg (l : List T)
  | tup (l : List T)
  deriving Inhabited

def T.cells : T → List T
  | .agg l => l
  | x => [x]

/-- A value without an address. -/
def atomB : Value → Bool
  | .bool _ | .int _ _ | .float _ _ | .complex _ _ _ | .string _ | .pointer none | .map none | .chan none | .nilFunc | .nilIface => true
  | _ => false

inductive Blk where
  | box (cs : List T)
  | map (es : List (T × T × Nat)) (clock : Nat)
  deriving Inhabited

structure Env where
  ad : Nat → Addr
  ng : Nat → Prop
  ρ : Name → Option Nat
  τ : Name → Option (Nat × Nat × Nat)
  Z : Nat → Nat → Prop
  F : Nat → Prop

/-- A slice's tag fits: what is behind the last element is ours. -/
def TagOk (E : Env) (b o n k c : Nat) : Tag → Prop
  | .nil => False
  | .no | .kept => True
  | .own m k' => k' = k ∧ ∃ r, (c - n) * k ≤ r ∧ E.τ m = some (b, o + n * k, r)

inductive Rel (E : Env) (w : World) : T → Value → Prop where
  | v {x : Value} (h : atomB x = true) : Rel E w (.v x) x
  | gl (k : Nat) (h : E.ng k) : Rel E w (.gl k) (.pointer (some (E.ad k)))
  | ptr {n : Name} {off b : Nat} (h : E.ρ n = some b) : Rel E w (.ptr n off) (.pointer (some ⟨b, off, none⟩))
  | ro {cs : List T} {off b o : Nat} (cv : Nat → Value) (h1 : ∀ (i : Nat) x, cs[i]? = some x → E.Z b (o + i) ∧ w.cell? ⟨b, o + i, none⟩ = some (cv i) ∧ (cv i).oneCell' = true) (h2 : ∀ (i : Nat) x, cs[i]? = some x → Rel E w x (cv i)) :
      Rel E w (.ro cs off) (.pointer (some ⟨b, o + off, none⟩))
  | slnil : Rel E w (.sl [] .nil) (.slice none 0 0)
  | slno {t : Tag} {c : Nat} (h : t ≠ .nil) (hc : c ≤ maxLen) (h2 : ∀ n k, t = .own n k → c = 0) (a : Option Addr) (hk : t = .kept → a ≠ none) : Rel E w (.sl [] t) (.slice a 0 c)
  | sl {l : List T} {t : Tag} {b o c k : Nat} (cv : Nat → Value) (hk : 0 < k) (hl : ∀ x ∈ l, x.cells.length = k) (hc : l.length ≤ c) (hm : c ≤ maxLen) (ht : TagOk E b o l.length k c t)
      (h1 : ∀ (i : Nat) x, (l.flatMap T.cells)[i]? = some x → E.Z b (o + i) ∧ w.cell? ⟨b, o + i, none⟩ = some (cv i) ∧ (cv i).oneCell' = true) (h2 : ∀ (i : Nat) x, (l.flatMap T.cells)[i]? = some x → Rel E w x (cv i)) :
      Rel E w (.sl l t) (.slice (some ⟨b, o, none⟩) l.length c)
  | msl {n : Name} {off len c b : Nat} (h : E.ρ n = some b) (hc : len ≤ c) (hm : c ≤ maxLen) : Rel E w (.msl n off len) (.slice (some ⟨b, off, none⟩) len c)
  | map {n : Name} {b : Nat} (h : E.ρ n = some b) : Rel E w (.map n) (.map (some b))
  | fn {f : Fn} {first cap : List T} {fv cv : Array Value} (h1 : fv.size = first.length) (h2 : cv.size = cap.length) (h3 : ∀ (i : Nat) x u, first[i]? = some x → fv[i]? = some u → Rel E w x u) (h4 : ∀ (i : Nat) x u, cap[i]? = some x → cv[i]? = some u → Rel E w x u) :
      Rel E w (.fn f first cap) (.func f fv cv)
  | ifc {t : TypeId} {x : T} {u : Value} (h : Rel E w x u) : Rel E w (.ifc t x) (.iface t u)
  | agg {l : List T} {vs : Array Value} (h1 : vs.size = l.length) (h0 : ∀ u ∈ vs.toList, u.oneCell' = true) (h2 : ∀ (i : Nat) x u, l[i]? = some x → vs[i]? = some u → Rel E w x u) : Rel E w (.agg l) (.agg vs)
  | tup {l : List T} {vs : Array Value} (h1 : vs.size = l.length) (h2 : ∀ (i : Nat) x u, l[i]? = some x → vs[i]? = some u → Rel E w x u) : Rel E w (.tup l) (.tuple vs)

/-- A list of values. -/
def RelL (E : Env) (w : World) (l : List T) (vs : List Value) : Prop := vs.length = l.length ∧ ∀ (i : Nat) x u, l[i]? = some x → vs[i]? = some u → Rel E w x u

/-- A list of values, at the head of a list of cells. -/
def RelP (E : Env) (w : World) (l : List T) (vs : List Value) : Prop := l.length ≤ vs.length ∧ ∀ (i : Nat) x u, l[i]? = some x → vs[i]? = some u → Rel E w x u

/-- From one moment to a later one. -/
structure Ext (M : Nat → Prop) (E E' : Env) (w w' : World) : Prop where
  keep : Keep M w w'
  z : ∀ b o, E.Z b o → E'.Z b o
  zc : ∀ b o, E.Z b o → w'.cell? ⟨b, o, none⟩ = w.cell? ⟨b, o, none⟩
  ρ : ∀ n b, E.ρ n = some b → E'.ρ n = some b
  τ : ∀ n t, E.τ n = some t → E'.τ n = some t
  ad : E'.ad = E.ad
  ng : E'.ng = E.ng
  F : E'.F = E.F

theorem TagOk.ext {E E' : Env} {b o n k c : Nat} {t : Tag} (h : TagOk E b o n k c t) (hτ : ∀ n t, E.τ n = some t → E'.τ n = some t) : TagOk E' b o n k c t := by
  cases t with
  | nil => exact h
  | no => trivial
  | kept => trivial
  | own m k' =>
    obtain ⟨h1, r, h2, h3⟩ := h
    exact ⟨h1, r, h2, hτ _ _ h3⟩

theorem Rel.ext {M : Nat → Prop} {E E' : Env} {w w' : World} (X : Ext M E E' w w') {x : T} {u : Value} (h : Rel E w x u) : Rel E' w' x u := by
  induction h with
  | v h => exact .v h
  | gl k h =>
    rw [← X.ad]
    exact .gl k (by rw [X.ng]; exact h)
  | ptr h => exact .ptr (X.ρ _ _ h)
  | ro cv h1 _ ih => exact .ro cv (fun i x hx => ⟨X.z _ _ (h1 i x hx).1, (X.zc _ _ (h1 i x hx).1).trans (h1 i x hx).2.1, (h1 i x hx).2.2⟩) ih
  | slnil => exact .slnil
  | slno h hc h2 a hk => exact .slno h hc h2 a hk
  | sl cv hk hl hc hm ht h1 _ ih => exact .sl cv hk hl hc hm (ht.ext X.τ) (fun i x hx => ⟨X.z _ _ (h1 i x hx).1, (X.zc _ _ (h1 i x hx).1).trans (h1 i x hx).2.1, (h1 i x hx).2.2⟩) ih
  | msl h hc hm => exact .msl (X.ρ _ _ h) hc hm
  | map h => exact .map (X.ρ _ _ h)
  | fn h1 h2 _ _ ih3 ih4 => exact .fn h1 h2 ih3 ih4
  | ifc _ ih => exact .ifc ih
  | agg h1 h0 _ ih => exact .agg h1 h0 ih
  | tup h1 _ ih => exact .tup h1 ih

theorem Ext.refl (M : Nat → Prop) (E : Env) (w : World) : Ext M E E w w := ⟨Keep.refl _ _, fun _ _ h => h, fun _ _ _ => rfl, fun _ _ h => h, fun _ _ h => h, rfl, rfl, rfl⟩
theorem Ext.trans {M M' : Nat → Prop} {E E' E'' : Env} {w w' w'' : World} (h : Ext M E E' w w') (k : Ext M' E' E'' w' w'') (hm : ∀ b, b < w.heap.size → M' b → M b) : Ext M E E'' w w'' :=
  ⟨h.keep.then k.keep hm, fun b o x => k.z _ _ (h.z _ _ x), fun b o x => (k.zc _ _ (h.z _ _ x)).trans (h.zc _ _ x), fun n b x => k.ρ _ _ (h.ρ _ _ x), fun n t x => k.τ _ _ (h.τ _ _ x), k.ad.trans h.ad, k.ng.trans h.ng, k.F.trans h.F⟩
theorem Ext.weaken {M M' : Nat → Prop} {E E' : Env} {w w' : World} (h : Ext M E E' w w') (hm : ∀ b, b < w.heap.size → M b → M' b) : Ext M' E E' w w' :=
  ⟨h.keep.weaken hm, h.z, h.zc, h.ρ, h.τ, h.ad, h.ng, h.F⟩

theorem RelL.ext {M : Nat → Prop} {E E' : Env} {w w' : World} (X : Ext M E E' w w') {l : List T} {us : List Value} (h : RelL E w l us) : RelL E' w' l us :=
  ⟨h.1, fun i x u hx hu => (h.2 i x u hx hu).ext X⟩
theorem RelP.ext {M : Nat → Prop} {E E' : Env} {w w' : World} (X : Ext M E E' w w') {l : List T} {us : List Value} (h : RelP E w l us) : RelP E' w' l us :=
  ⟨h.1, fun i x u hx hu => (h.2 i x u hx hu).ext X⟩
theorem RelL.toP {E : Env} {w : World} {l : List T} {us : List Value} (h : RelL E w l us) : RelP E w l us := ⟨Nat.le_of_eq h.1.symm, h.2⟩
theorem RelL.nil (E : Env) (w : World) : RelL E w [] [] := ⟨rfl, by simp⟩
theorem RelL.cons {E : Env} {w : World} {x : T} {u : Value} {l : List T} {us : List Value} (h : Rel E w x u) (hs : RelL E w l us) : RelL E w (x :: l) (u :: us) := by
  refine ⟨by simp [hs.1], fun i y z hy hz => ?_⟩
  cases i with
  | zero => simp at hy hz; subst hy; subst hz; exact h
  | succ i => exact hs.2 i y z (by simpa using hy) (by simpa using hz)
theorem RelL.cons_inv {E : Env} {w : World} {x : T} {l : List T} {us : List Value} (h : RelL E w (x :: l) us) : ∃ u vs, us = u :: vs ∧ Rel E w x u ∧ RelL E w l vs := by
  obtain ⟨h1, h2⟩ := h
  cases us with
  | nil => simp at h1
  | cons u vs => exact ⟨u, vs, rfl, h2 0 x u rfl rfl, by simpa using h1, fun i y z hy hz => h2 (i + 1) y z (by simpa using hy) (by simpa using hz)⟩
theorem RelL.nil_inv {E : Env} {w : World} {us : List Value} (h : RelL E w [] us) : us = [] := List.eq_nil_of_length_eq_zero (by simpa using h.1)
theorem RelL.get {E : Env} {w : World} {l : List T} {us : List Value} (h : RelL E w l us) {i : Nat} {x : T} (hx : l[i]? = some x) : ∃ u, us[i]? = some u ∧ Rel E w x u := by
  have hlt : i < us.length := by rw [h.1]; exact (List.getElem?_eq_some_iff.1 hx).1
  exact ⟨us[i], List.getElem?_eq_getElem hlt, h.2 i x _ hx (List.getElem?_eq_getElem hlt)⟩
theorem RelL.append {E : Env} {w : World} {l m : List T} {us vs : List Value} (h : RelL E w l us) (k : RelL E w m vs) : RelL E w (l ++ m) (us ++ vs) := by
  refine ⟨by simp [h.1, k.1], fun i x u hx hu => ?_⟩
  by_cases hi : i < l.length
  · rw [List.getElem?_append_left hi] at hx
    rw [List.getElem?_append_left (by rw [h.1]; exact hi)] at hu
    exact h.2 i x u hx hu
  · rw [List.getElem?_append_right (by omega)] at hx
    rw [List.getElem?_append_right (by rw [h.1]; omega), h.1] at hu
    exact k.2 _ x u hx hu
theorem RelL.take {E : Env} {w : World} {l : List T} {us : List Value} (h : RelL E w l us) (n : Nat) : RelL E w (l.take n) (us.take n) := by
  refine ⟨by simp [h.1], fun i x u hx hu => ?_⟩
  rw [List.getElem?_take] at hx hu
  split at hx
  · rename_i hi
    rw [if_pos hi] at hu
    exact h.2 i x u hx hu
  · simp at hx
theorem RelL.drop {E : Env} {w : World} {l : List T} {us : List Value} (h : RelL E w l us) (n : Nat) : RelL E w (l.drop n) (us.drop n) := by
  refine ⟨by simp [h.1], fun i x u hx hu => ?_⟩
  rw [List.getElem?_drop] at hx hu
  exact h.2 _ x u hx hu
theorem RelL.set {E : Env} {w : World} {l : List T} {us : List Value} (h : RelL E w l us) {i : Nat} {x : T} {u : Value} (hx : Rel E w x u) : RelL E w (l.set i x) (us.set i u) := by
  refine ⟨by simp [h.1], fun j y z hy hz => ?_⟩
  rw [List.getElem?_set] at hy hz
  split at hy
  · rename_i e
    subst e
    simp only [if_true] at hz
    split at hy <;> split at hz <;> simp_all
  · rename_i e
    rw [if_neg e] at hz
    exact h.2 j y z hy hz
theorem RelL.of_flat {E : Env} {w : World} {l : List T} {us : List Value} (h : ∀ (i : Nat) x u, l[i]? = some x → us[i]? = some u → Rel E w x u) (hl : us.length = l.length) : RelL E w l us := ⟨hl, h⟩

/-- The parts of a value, as cells. -/
theorem Rel.cells {E : Env} {w : World} {x : T} {u : Value} (h : Rel E w x u) (hnt : ∀ l, x ≠ .tup l) : RelL E w x.cells u.cells.toList ∧ ∀ c ∈ u.cells.toList, c.oneCell' = true := by
  have one : ∀ {y : T} {c : Value}, Rel E w y c → y.cells = [y] → c.cells = #[c] → c.oneCell' = true → RelL E w y.cells c.cells.toList ∧ ∀ d ∈ c.cells.toList, d.oneCell' = true := by
    intro y c h e1 e2 e3
    rw [e1, e2]
    exact ⟨RelL.cons h (RelL.nil _ _), by simpa using e3⟩
  cases h with
  | v ha => refine one (.v ha) rfl ?_ ?_ <;> cases u <;> simp_all [atomB, Value.cells, Value.oneCell']
  | agg h1 h0 h2 => exact ⟨⟨by simpa [Value.cells, T.cells] using h1, fun i x u hx hu => h2 i x u hx (by simpa [Value.cells] using hu)⟩, h0⟩
  | tup h1 h2 => exact absurd rfl (hnt _)
  | gl k hk => exact one (.gl k hk) rfl rfl rfl
  | ptr h => exact one (.ptr h) rfl rfl rfl
  | ro cv h1 h2 => exact one (.ro cv h1 h2) rfl rfl rfl
  | slnil => exact one .slnil rfl rfl rfl
  | slno h hc h2 a hk => exact one (.slno h hc h2 a hk) rfl rfl rfl
  | sl cv hk hl hc hm ht h1 h2 => exact one (.sl cv hk hl hc hm ht h1 h2) rfl rfl rfl
  | msl h hc hm => exact one (.msl h hc hm) rfl rfl rfl
  | map h => exact one (.map h) rfl rfl rfl
  | fn h1 h2 h3 h4 => exact one (.fn h1 h2 h3 h4) rfl rfl rfl
  | ifc h => exact one (.ifc h) rfl rfl rfl
end Go.AE
