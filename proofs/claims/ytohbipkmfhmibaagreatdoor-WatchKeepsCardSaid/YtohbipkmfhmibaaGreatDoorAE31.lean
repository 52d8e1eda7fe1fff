import Derived.Test.YtohbipkmfhmibaaGreatDoorAE30
/-! AE31: the table; what is known of given functions. -/
set_option linter.unusedVariables false
set_option linter.unusedSimpArgs false
namespace Go.AE
open Go.RowKit Go.LB

inductive Tb where
  | nil
  | node (l : Tb) (k : Nat) (v : RFn) (r : Tb)
def Tb.get : Tb → Nat → Option RFn
  | .nil, _ => none
  | .node l k v r, f => if Nat.blt f k then l.get f else if Nat.beq f k then some v else r.get f
def Tb.All (Q : Nat → RFn → Prop) : Tb → Prop
  | .nil => True
  | .node l k v r => l.All Q ∧ Q k v ∧ r.All Q
theorem Tb.get_all {Q : Nat → RFn → Prop} : ∀ {t : Tb}, t.All Q → ∀ f F, t.get f = some F → Q f F
  | .nil, _, f, F, e => by cases e
  | .node l k v r, ⟨h1, h2, h3⟩, f, F, e => by
    simp only [Tb.get] at e
    split at e
    · exact Tb.get_all h1 f F e
    · split at e
      · rename_i h; cases e; rw [Nat.eq_of_beq_eq_true h]; exact h2
      · exact Tb.get_all h3 f F e
theorem tb_ok {C : Cfg} (hm : C.P.follows .mixedOrders = true) {t : Tb} (h : t.All fun f F => ∃ ks, toRFn C ks f = some F) : TabOk C (DrawOk C) t.get := fun f F hf => by
  obtain ⟨ks, hk⟩ := Tb.get_all h f F hf
  exact toRFn_ok hm hk

section
variable {C : Cfg} {E : Env} {w w' : World} {nm : Name} {h : Heap}
theorem post_pure (pre : CallPre C E [] w nm) {r : T} {v : Value} (hr : Rel E w r v) (ht : toks r = []) : CallPost E [] w nm r [] (.returned v) w :=
  ⟨v, E, rfl, hr, (Walk.refl pre.st).less (fun _ _ e => e) (fun n hn => by rw [ht] at hn; cases hn), trivial⟩
theorem args_one {args : List T} {x : T} {vs : Array Value} (h : RelL E w [x] vs.toList) : ∃ u, vs = #[u] ∧ Rel E w x u := by
  obtain ⟨u, us, e, h1, h2⟩ := h.cons_inv
  rw [h2.nil_inv] at e
  exact ⟨u, by cases vs; simp_all, h1⟩
theorem args_two {x y : T} {vs : Array Value} (h : RelL E w [x, y] vs.toList) : ∃ u v, vs = #[u, v] ∧ Rel E w x u ∧ Rel E w y v := by
  obtain ⟨u, us, e, h1, h2⟩ := h.cons_inv
  obtain ⟨v, us, rfl, h3, h4⟩ := h2.cons_inv
  rw [h4.nil_inv] at e
  exact ⟨u, v, by cases vs; simp_all, h1, h3⟩

/-! errors.Is of sentinels. -/
def isT (et : TypeId) (_ : Name) : List T → Option T
  | [.ifc t (.gl i), .ifc u (.gl j)] => if t = et ∧ u = et then some (.v (.bool (decide (i = j)))) else none
  | [.v .nilIface, .ifc u (.gl j)] => if u = et then some (.v (.bool false)) else none
  | _ => none
theorem is_snd {f : FuncId} {et : TypeId} (hf : Enterable C.P f)
    (same : ∀ (a : Addr) (w : World), Calls C.P f #[.iface et (.pointer (some a)), .iface et (.pointer (some a))] w fun e w' => e = .returned (.bool true) ∧ w = w')
    (other : ∀ (a b : Addr) (ca cb : Array Value) (ta tb : TypeId) (w : World), a ≠ b → w.heap[a.block]? = some (.cells ca ta (0, 0)) → w.heap[b.block]? = some (.cells cb tb (0, 0)) → Calls C.P f #[.iface et (.pointer (some a)), .iface et (.pointer (some b))] w fun e w' => e = .returned (.bool false) ∧ w = w')
    (nil : ∀ (v : Value) (w : World), Calls C.P f #[.nilIface, .iface et v] w fun e w' => e = .returned (.bool false) ∧ w = w') :
    ∀ nm args r, isT et nm args = some r → Enterable C.P f ∧ ∀ E w (vs : Array Value), CallPre C E [] w nm → RelL E w args vs.toList → Calls C.P f vs w (CallPost E [] w nm r []) := by
  intro nm args r e
  refine ⟨hf, fun E w vs pre hargs => ?_⟩
  unfold isT at e
  split at e
  · rename_i t i u j
    split at e
    case isFalse => cases e
    rename_i htu
    obtain ⟨rfl, rfl⟩ := htu
    cases e
    obtain ⟨a, b, rfl, ha, hb⟩ := args_two hargs
    cases ha with | ifc ha => ?_
    cases hb with | ifc hb => ?_
    cases ha with | gl i hi => ?_
    cases hb with | gl j hj => ?_
    by_cases hij : i = j
    · subst hij
      refine (same _ w).mono ?_
      rintro e w' ⟨rfl, rfl⟩
      simpa using post_pure pre (r := .v (.bool true)) (.v rfl) rfl
    · obtain ⟨b1, vs1, e1, g1, _, g2, _⟩ := pre.st.gl i hi
      obtain ⟨b2, vs2, e2, k1, _, k2, _⟩ := pre.st.gl j hj
      refine (other (E.ad i) (E.ad j) vs1 vs2 e1 e2 w (fun q => hij (pre.st.glinj i j hi hj q)) (by rw [g1]; exact g2) (by rw [k1]; exact k2)).mono ?_
      rintro e w' ⟨rfl, rfl⟩
      simpa [hij] using post_pure pre (r := .v (.bool false)) (.v rfl) rfl
  · rename_i u j
    split at e
    case isFalse => cases e
    rename_i hu
    subst hu
    cases e
    obtain ⟨a, b, rfl, ha, hb⟩ := args_two hargs
    cases hb with | ifc hb => ?_
    cases ha with | v _ => ?_
    refine (nil _ w).mono ?_
    rintro e w' ⟨rfl, rfl⟩
    exact post_pure pre (.v rfl) rfl
  · cases e
end
end Go.AE
