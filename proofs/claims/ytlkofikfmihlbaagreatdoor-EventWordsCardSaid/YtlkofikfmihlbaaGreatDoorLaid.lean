import Derived.Test.YtlkofikfmihlbaaGreatDoorRow
import Derived.Stop.LaidErr
import Derived.Deep.DeepHandedRow
import Derived.Deep.DeepWitnessRowRef
import Derived.LaidMore
import Derived.LaidHandle
/-! Laid: what the row's list of variables gives. -/
set_option linter.unusedVariables false
namespace Go.LB
open Go.RowKit Go.ChangeShapes Go.WideShapes Go.ChangeAt

/-- A listed array of strings. -/
theorem laid_strings {P : Program} {n : String} {texts : List (List UInt8)} {r : List (String × DataW Unit)} {W : World} {g : Nat} {t e : TypeId} {m : Nat}
    (h : laidMet P ((n, .agg (texts.map fun b => .lit (.string b))) :: r) W) (hg : P.globalNamed n = some g) (ht : (P.globals[g]?).map (·.type) = some t)
    (hu : P.underlying t = some (.array m e)) (he : P.underlying e = some .string) (hce : P.cellsOf e = 1) :
    ∀ (i : Nat) b, texts[i]? = some b → W.cell? ⟨g, i, none⟩ = some (.string (bstr b)) := by
  obtain ⟨ps, ⟨g0, t0, cs0, f0, p0, q0, hg0, ht0, hv0, hd0, _, e0⟩, _, hrows⟩ := h
  obtain rfl := Option.some.inj (hg.symm.trans hg0)
  obtain rfl := Option.some.inj (ht.symm.trans ht0)
  intro i b hb
  obtain ⟨xs, k, _, hx, hl, hlen, hel⟩ := DataW.trod_array hu hd0
  have hx1 : texts.map (fun b => (DataW.lit (.string b) : DataW Unit)) = xs.map (·.1) := by
    have := congrArg Prod.fst hx
    simpa using this
  have hi : i < m := by
    have h1 := congrArg List.length hx1
    simp at h1
    have h2 := (List.getElem?_eq_some_iff.1 hb).1
    omega
  have h1 := hel i hi
  rw [List.getElem?_eq_getElem (by omega)] at h1
  obtain ⟨s, h2, h3, h4⟩ := DataW.trod_string he h1
  have h5 : (xs[i]'(by omega)).1 = DataW.lit (.string b) := by
    have := congrArg (·[i]?) hx1
    simp only [List.getElem?_map, hb, Option.map_some, List.getElem?_eq_getElem (show i < xs.length by omega)] at this
    exact (Option.some.inj this).symm
  rw [h3] at h5
  have hs : s = bstr b := by
    have : s.data.toList = b := by simpa using h5
    subst this
    rfl
  rw [hce, Nat.mul_one] at h2
  have h6 : cs0.toList[i]? = some (.string s) := by
    have := congrArg (·[0]?) h2
    simpa [List.getElem?_take, List.getElem?_drop] using this
  rw [← hs]
  have := World.var?_cell hg0 hv0 i
  simp only [Array.getElem?_toList] at h6
  rw [this]
  exact h6
end Go.LB
