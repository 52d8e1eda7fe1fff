/- 'linkboylaw42.WatchDelays' returns true for every input, and its argument reads behind the call as it read before. Conditions: the listed package-level variables (api.ErrRange, api.ErrForm, api.ErrState, watch.words) hold what the program's text lays; the card ties them. -/
import Derived.Test.YtcifkcijohlamaaDoorCards
import Derived.Test.YtcifkcijohlamaaDoorTie
import Derived.Test.YtcifkcijohlamaaDoorWDelays
import Derived.Test.YtcifkcijohlamaaDoorLaid
import Derived.MakeChecks
namespace Go.Proofs.YtcifkcijohlamaaDoor.WDelays
open Go.ChangeShapes Go.WideShapes Go.ChangeAt Go.RowKit Go.LB
set_option linter.unusedVariables false

theorem own : ownKnob Tryd.prog.godebug = none := by kernel_rfl
theorem laidOut : laidOutB Tryd.prog = true := by kernel_rfl
theorem star : "*" ++ "errors.errorString" = "*errors.errorString" := by decide
theorem errRow (u : TypeId) (h : Tryd.prog.typeName? 3 u = some "*errors.errorString") : u = 84 :=
  typeName_ptr_named (nm := "errors.errorString") (by rw [star]; kernel_rfl) (by kernel_rfl) (by decide) u (by rw [star]; exact h)

/-- What the row's list gives. -/
theorem listed {W : World} (h : laidMetH Tryd.prog Rows.watchDelaysRow.laid W) : ∃ ad, WErr W ad ∧ Words W := by
  have h0 : laidMet Tryd.prog Rows.watchDelaysRow.laid W := by
    rw [← MakeChecks.laidMetH_plain Tryd.prog Rows.watchDelaysRow.laid W (by kernel_rfl)]; exact h
  obtain ⟨a1, s1, v1, -⟩ := laid_sentinel h0 (show Tryd.prog.globalNamed "linkboy/api.ErrRange" = some 1 by kernel_rfl) (show _ = some 31 by kernel_rfl) Tryd.underlying31 errRow Tryd.underlying84 Tryd.underlying110 rfl rfl Tryd.underlying9 (by kernel_rfl) (by kernel_rfl)
  have h1 := h0.tail
  obtain ⟨a4, s4, v4, -⟩ := laid_sentinel h1 (show Tryd.prog.globalNamed "linkboy/api.ErrForm" = some 4 by kernel_rfl) (show _ = some 31 by kernel_rfl) Tryd.underlying31 errRow Tryd.underlying84 Tryd.underlying110 rfl rfl Tryd.underlying9 (by kernel_rfl) (by kernel_rfl)
  have h2 := h1.tail
  obtain ⟨a15, s15, v15, -⟩ := laid_sentinel h2 (show Tryd.prog.globalNamed "linkboy/api.ErrState" = some 15 by kernel_rfl) (show _ = some 31 by kernel_rfl) Tryd.underlying31 errRow Tryd.underlying84 Tryd.underlying110 rfl rfl Tryd.underlying9 (by kernel_rfl) (by kernel_rfl)
  have h3 := h2.tail
  have hs := laid_strings (texts := [[105, 100, 108, 101], [108, 105, 115, 116, 105, 110, 103], [119, 97, 116, 99, 104, 105, 110, 103], [119, 97, 105, 116, 105, 110, 103]]) h3 (show Tryd.prog.globalNamed "linkboy/watch.words" = some 0 by kernel_rfl) (show _ = some 48 by kernel_rfl) Tryd.underlying48 Tryd.underlying9 (by kernel_rfl)
  refine ⟨fun k => match k with | 1 => a1 | 4 => a4 | _ => a15, ⟨?_, ?_, ?_⟩, ⟨hs 0 _ rfl, hs 1 _ rfl, hs 2 _ rfl, hs 3 _ rfl⟩⟩
  · exact World.var?_cell (show Tryd.prog.globalNamed "linkboy/api.ErrRange" = some 1 by kernel_rfl) v1 0
  · exact World.var?_cell (show Tryd.prog.globalNamed "linkboy/api.ErrForm" = some 4 by kernel_rfl) v4 0
  · exact World.var?_cell (show Tryd.prog.globalNamed "linkboy/api.ErrState" = some 15 by kernel_rfl) v15 0

set_option maxRecDepth 100000 in
theorem contract (H : Type) (enc : TypeId × Value → H) (W : World) (base : Nat) (args : Array Value) (ds gs : List (DataW H)) (before : List MemPlace)
    (hval : ∀ (j : Nat) t v, Tryd.f3.params[j]? = some t → args[j]? = some v → Value.okWide Tryd.prog W .any base t v)
    (hW : DataW.Whole enc Tryd.prog Tryd.f3.params.toList Rows.watchDelaysSpec.vars false W args.toList ds gs before) (hL : laidMetH Tryd.prog Rows.watchDelaysRow.laid W) :
    Calls Tryd.prog 3 args W fun e W' => ∃ v, e = .returned v ∧ Rows.watchDelaysSpec.post enc Tryd.prog Tryd.f3 false true false false W args v W' := by
  have hW' := hW
  obtain ⟨p, q, hA0, hV, rfl, hfz, hnd⟩ := hW
  have hA : DataW.TrodAll enc Tryd.prog W 0 (fun _ => true) true Tryd.f3.params.toList args.toList ds p := hA0
  rw [Tryd.params3] at hA hval
  obtain ⟨v0, vs0, d0, ds0, p0, q0, hargs, rfl, rfl, h0, r0⟩ := trodAll_cons hA
  obtain ⟨rfl, rfl, rfl⟩ := trodAll_nil r0
  obtain rfl : args = #[v0] := by cases args; simp_all
  obtain ⟨rfl, rfl⟩ := trodVars_none hV
  obtain ⟨n, rfl, rfl, rfl, wf⟩ := open_int Tryd.underlying3 (hval 0 3 v0 rfl rfl) h0
  have hn : -9223372036854775808 ≤ n ∧ n ≤ 9223372036854775807 := by simpa [Lit.wf, IntKind.min, IntKind.max, IntKind.signed, IntKind.bits] using wf
  obtain ⟨ad, hE, hWo⟩ := listed hL
  refine (wdelays_any ad n W hn.1 hn.2 hE hWo).mono fun e W' ⟨he, hk⟩ => ?_
  subst he
  exact ⟨_, rfl, post_law laidOut (by kernel_rfl) rfl Tryd.underlying4 rfl ⟨rfl, rfl, rfl⟩ hW' hk⟩

theorem laid_met (os : Os) : laidMetH Tryd.prog Rows.watchDelaysRow.laid ((World.doorLaid Tryd.prog 400 os).forCall (fun _ _ => 0) ⟨#[], #[.int .i64 0], []⟩).memory :=
  laidMetH_of_parts3 (fuel := 8) (laidMet_of_run' 8 (by kernel_rfl) (by kernel_rfl)) (by kernel_rfl) (by kernel_rfl)
theorem reads (os : Os) {H : Type} (enc : TypeId × Value → H) : ∃ places, DataW.whole enc Tryd.prog ((World.doorLaid Tryd.prog 400 os).forCall (fun _ _ => 0) ⟨#[], #[.int .i64 0], []⟩).memory Tryd.f3.params.toList Rows.watchDelaysSpec.vars false #[Value.int .i64 0].toList 8 = some ([.lit (.int .i64 0)], [], places) :=
  ⟨[], by kernel_rfl⟩

set_option maxRecDepth 100000 in
theorem lifted (os : Os) (started : os.Started) (H : Type) (enc : TypeId × Value → H) (F : Stop.Interp) :
    ReturnsInHanded {} Tryd.checked os 3 .any ((OpenSpec.ofChange Rows.watchDelaysSpec).preRow enc Tryd.prog Tryd.f3 Rows.watchDelaysRow.domain false Rows.watchDelaysRow.laid) (((OpenSpec.ofChange Rows.watchDelaysSpec).at F).post enc Tryd.prog Tryd.f3 false true false false) := by
  obtain ⟨places, hx⟩ := reads os enc
  refine returnsInHanded_of_row (C := Tryd.checked) (s := OpenSpec.ofChange Rows.watchDelaysSpec) own started (by kernel_rfl) Tryd.func3
    (witness_row_atRef (enc := enc) (C := Tryd.checked) false (World.doorLaid Tryd.prog 400 os) #[.int .i64 0] rfl (by kernel_rfl) (by kernel_rfl) (by kernel_rfl)
      (OpenSpec.preRow_of_cond 8 hx (by kernel_rfl) (fun k hk => by cases hk) (by kernel_rfl) (laid_met os))) ?_
  intro W base args ds gs before hval hW _ _ _ hL _ _
  exact contract H enc W base args ds gs before hval hW hL

theorem said : Rows.WatchDelaysSaid :=
  OpenClaim.holds_of_cond 3 Tryd.f3 rfl rfl rfl rfl rfl rfl rfl ⟨rfl, rfl, rfl, rfl, rfl⟩ rfl rfl rfl rfl rfl (by kernel_rfl) Tryd.func3 (by kernel_rfl)
    (of_decide_eq_true (by kernel_rfl)) (by unfold Func.isWrapper; first | (rw [if_pos (by decide +kernel)]; kernel_rfl) | (rw [if_neg (by decide +kernel)]; exact ⟨rfl, rfl⟩))
    (fun os started H enc _ F => by rw [OpenClaim.pre_eq_preRow]; exact lifted os started H enc F)

theorem plain (f : FuncId) (fn : Func) (hf : Tryd.pinned.checked.prog.funcNamed "linkboy/linkboylaw42.WatchDelays" = some f) (hfn : Tryd.pinned.checked.prog.funcs[f]? = some fn) :
    true = Tryd.pinned.checked.prog.looks [] ∧ ∀ (j : Nat) t, fn.params[j]? = some t → Tryd.pinned.checked.prog.wantsStandIn t = false := by
  obtain rfl : f = 3 := Option.some.inj ((show Tryd.prog.funcNamed "linkboy/linkboylaw42.WatchDelays" = some 3 by kernel_rfl).symm.trans hf) |>.symm
  obtain rfl : fn = Tryd.f3 := (Option.some.inj (Tryd.func3.symm.trans hfn)).symm
  refine ⟨by kernel_rfl, fun j t ht => ?_⟩
  rw [Tryd.params3] at ht
  obtain rfl : t = 3 := by simpa using Array.mem_of_getElem? ht
  exact (show Tryd.prog.wantsStandIn 3 = false by kernel_rfl)

theorem card : Rows.WatchDelaysCardSaid :=
  Claim7.holds_tied_plain_at .later [] _ _ _ _ said (fun _ h => by cases h) (by kernel_rfl) (fun _ h => by cases h) watchDelays_row_tie rfl ⟨rfl, rfl⟩ (by kernel_rfl) rfl plain (by kernel_rfl)
#print axioms card
end Go.Proofs.YtcifkcijohlamaaDoor.WDelays
