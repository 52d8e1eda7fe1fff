import Derived.Test.YtohbipkmfhmibaaGreatDoorRow
import Derived.Stop.LaidErr
import Derived.Deep.DeepHandedRow
import Derived.Deep.DeepWitnessRowRef
import Derived.LaidMore
import Derived.LaidHandle
/-! Laid: what the row's list of variables gives. -/
set_option linter.unusedVariables false
namespace Go.LB
open Go.RowKit Go.ChangeShapes Go.WideShapes Go.ChangeAt

/-- A listed array of strings. -/
theorem laid_strings {P : Program} {n : String} {texts : List (List UInt8)} {r : List (String × DataW Unit)} {W : World} {g : Nat} {t e : TypeId} {m : Nat}
    (h : laidMet P ((n, .agg (texts.map fun b => .lit (.string b))) :: r) W) (hg : P.globalNamed n = some g) (ht : (P.globals[g]?).map (·.type) = some t)
    (hu : P.underlying t = some (.array m e)) (he : P.underlying e = some .string) (hce : P.cellsOf e = 1) :
    ∀ (i : Nat) b, texts[i]? = some b → W.cell? ⟨g, i, none⟩ = some (.string (bstr b)) := by
  obtain ⟨ps, ⟨g0, t0, cs0, f0, p0, q0, hg0, ht0, hv0, hd0, _, e0⟩, _, hrows⟩ := h
  obtain rfl := Option.some.inj (hg.symm.trans hg0)
  obtain rfl := Option.some.inj (ht.symm.trans ht0)
  intro i b hb
  obtain ⟨xs, k, _, hx, hl, hlen, hel⟩ := DataW.trod_array hu hd0
  have hx1 : texts.map (fun b => (DataW.lit (.string b) : DataW Unit)) = xs.map (·.1) := by
    have := congrArg Prod.fst hx
    simpa using this
  have hi : i < m := by
    have h1 := congrArg List.length hx1
    simp at h1
    have h2 := (List.getElem?_eq_some_iff.1 hb).1
    omega
  have h1 := hel i hi
  rw [List.getElem?_eq_getElem (by omega)] at h1
  obtain ⟨s, h2, h3, h4⟩ := DataW.trod_string he h1
  have h5 : (xs[i]'(by omega)).1 = DataW.lit (.string b) := by
    have := congrArg (·[i]?) hx1
    simp only [List.getElem?_map, hb, Option.map_some, List.getElem?_eq_getElem (show i < xs.length by omega)] at this
    exact (Option.some.inj this).symm
  rw [h3] at h5
  have hs : s = bstr b := by
    have : s.data.toList = b := by simpa using h5
    subst this
    rfl
  rw [hce, Nat.mul_one] at h2
  have h6 : cs0.toList[i]? = some (.string s) := by
    have := congrArg (·[0]?) h2
    simpa [List.getElem?_take, List.getElem?_drop] using this
  rw [← hs]
  have := World.var?_cell hg0 hv0 i
  simp only [Array.getElem?_toList] at h6
  rw [this]
  exact h6
end Go.LB

/-! All listed sentinels at once: each variable holds a pointer of its own. -/
set_option linter.unusedVariables false
namespace Go.LB
open Go.RowKit Go.ChangeShapes Go.WideShapes Go.ChangeAt

/-- A listed sentinel. -/
def sent (nm : String) (x : String × List UInt8) : String × DataW Unit := (x.1, .iface nm (.ptr (.agg [.lit (.string x.2)])))

/-- A variable's pointer. -/
def ptrAt (P : Program) (W : World) (n : String) : Addr :=
  match ((W.var? P n).bind (fun c => c[0]?) : Option Value) with
  | some (Value.iface _ (Value.pointer (some a))) => a
  | _ => ⟨0, 0, none⟩

theorem laid_sents {P : Program} {W : World} {nm : String} {ti tp te ts : TypeId} {ms : Array (String × TypeId)} {f : Field} (hi : P.underlying ti = some (.interface ms)) (hrow : ∀ u, P.typeName? 3 u = some nm → u = tp)
    (hp : P.underlying tp = some (.pointer te)) (he : P.underlying te = some (.struct #[f])) (hft : f.type = ts) (hfo : f.offset = 0) (hs : P.underlying ts = some .string) (hc : P.cellsOf te = 1) (hcs : P.cellsOf ts = 1) :
    ∀ (L : List (String × DataW Unit)) (ps : List MemPlace), DataW.LaidVars P W L ps → ps.Nodup →
      (∀ b off, MemPlace.cell b off ∈ ps → (∃ c t, W.heap[b]? = some (.cells c t (0, 0))) ∧ ∀ u v, W.cell? ⟨b, off, none⟩ = some (.iface u v) → Value.okWide P W .any 0 u v) →
      (∀ x g, sent nm x ∈ L → P.globalNamed x.1 = some g → (P.globals[g]?).map (·.type) = some ti →
        W.var? P x.1 = some #[.iface tp (.pointer (some (ptrAt P W x.1)))] ∧ MemPlace.cell (ptrAt P W x.1).block (ptrAt P W x.1).off ∈ ps) ∧
      (∀ x y g g', sent nm x ∈ L → sent nm y ∈ L → P.globalNamed x.1 = some g → (P.globals[g]?).map (·.type) = some ti → P.globalNamed y.1 = some g' → (P.globals[g']?).map (·.type) = some ti → x.1 ≠ y.1 → ptrAt P W x.1 ≠ ptrAt P W y.1)
  | [], ps, h, _, _ => ⟨fun x g hx => by simp at hx, fun x y g g' hx => by simp at hx⟩
  | (n, d) :: r, ps, h, hnd, hrows => by
    obtain ⟨g0, t0, cs0, f0, p0, q0, hg0, ht0, hv0, hd0, hr, rfl⟩ := h
    have hnd' : q0.Nodup := List.Nodup.sublist (List.sublist_append_right _ _) hnd
    obtain ⟨ih1, ih2⟩ := laid_sents hi hrow hp he hft hfo hs hc hcs r q0 hr hnd' (fun b off hm => hrows b off (List.mem_append_right _ hm))
    have head : ∀ x g, sent nm x = (n, d) → P.globalNamed x.1 = some g → (P.globals[g]?).map (·.type) = some ti →
        W.var? P x.1 = some #[.iface tp (.pointer (some (ptrAt P W x.1)))] ∧ MemPlace.cell (ptrAt P W x.1).block (ptrAt P W x.1).off ∈ p0 := by
      rintro x g hx hg ht
      obtain ⟨rfl, rfl⟩ := Prod.mk.inj hx
      obtain rfl := Option.some.inj (hg.symm.trans hg0)
      obtain rfl := Option.some.inj (ht.symm.trans ht0)
      obtain ⟨l0⟩ := cs0
      have ok0 : ∀ u v, l0 = [.iface u v] → Value.okWide P W .any 0 u v := fun u v e => by
        subst e
        exact (hrows g 0 (by simp [MemPlace.row])).2 u v (by simpa using World.var?_cell hg0 hv0 0)
      obtain ⟨a0, s0, rfl, hc0, hs0, hz0, rfl⟩ := errorString_of_trod hi hrow hp he hft hfo hs hc hcs hd0 ok0
      have e : ptrAt P W x.1 = a0 := by simp [ptrAt, hv0]
      rw [e]
      exact ⟨hv0, by simp [MemPlace.row]⟩
    constructor
    · intro x g hx hg ht
      rcases List.mem_cons.1 hx with hx | hx
      · obtain ⟨h1, h2⟩ := head x g hx hg ht
        exact ⟨h1, List.mem_append_left _ (List.mem_append_right _ h2)⟩
      · obtain ⟨h1, h2⟩ := ih1 x g hx hg ht
        exact ⟨h1, List.mem_append_right _ h2⟩
    · intro x y g g' hx hy hg ht hg' ht' hne e
      rcases List.mem_cons.1 hx with hx | hx <;> rcases List.mem_cons.1 hy with hy | hy
      · exact hne (congrArg Prod.fst (hx.trans hy.symm) : (sent nm x).1 = (sent nm y).1)
      · have h1 := (head x g hx hg ht).2
        have h2 := (ih1 y g' hy hg' ht').2
        rw [e] at h1
        exact (List.nodup_append.1 hnd).2.2 _ (List.mem_append_right _ h1) _ h2 rfl
      · have h1 := (head y g' hy hg' ht').2
        have h2 := (ih1 x g hx hg ht).2
        rw [← e] at h1
        exact (List.nodup_append.1 hnd).2.2 _ (List.mem_append_right _ h1) _ h2 rfl
      · exact ih2 x y g g' hx hy hg ht hg' ht' hne e
end Go.LB
