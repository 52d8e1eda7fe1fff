import Derived.Test.YtohbipkmfhmibaaGreatDoorAE27
/-! AE28: a function's row, reckoned from the program. -/
set_option linter.unusedVariables false
set_option linter.unusedSimpArgs false
namespace Go.AE
open Go.RowKit Go.LB

def toRC (C : Cfg) (nt : Nat) : List (List Nat) → Code → Option (RC × List (List Nat))
  | kp, .skip => some (.skip, kp)
  | kp, .seq a b => (toRC C nt kp a).bind fun x => (toRC C nt x.2 b).map fun y => (.seq x.1 y.1, y.2)
  | kp, .cond c a b => (resO C.laid c).bind fun c' => (toRC C nt kp a).bind fun x => (toRC C nt x.2 b).map fun y => (.cond c' x.1 y.1, y.2)
  | kp, .block id b => (toRC C nt kp b).map fun x => (.block id x.1, x.2)
  | kp, .loop b =>
    match kp with
    | [] => none
    | [_] => none
    | k :: o :: kp => (toRC C nt kp b).map fun x => (.loop k o x.1, x.2)
  | kp, .exit id => some (.exit id, kp)
  | kp, .ret => some (.ret, kp)
  | kp, .region _ ops d =>
    (ops.toList.mapM (resOp C nt ops)).bind fun r =>
      match d with
      | false => some (.reg [] r, kp)
      | true => if drawB C (prsOf C r ops.toList) r ops.toList then some (.reg (prsOf C r ops.toList) r, kp) else none
  | _, _ => none
theorem toRC_ok {C : Cfg} {nt : Nat} (hm : C.P.follows .mixedOrders = true) : ∀ (c : Code) (kp : List (List Nat)) (x : RC × List (List Nat)), toRC C nt kp c = some x → RCof C nt (DrawOk C) c x.1 := by
  intro c
  induction c with
  | skip => intro kp x h; cases h; exact .skip
  | seq a b iha ihb =>
    intro kp x h
    obtain ⟨y, hy, h⟩ := Option.bind_eq_some_iff.1 h
    obtain ⟨z, hz, rfl⟩ := Option.map_eq_some_iff.1 h
    exact .seq (iha _ _ hy) (ihb _ _ hz)
  | cond c a b iha ihb =>
    intro kp x h
    obtain ⟨c', hc, h⟩ := Option.bind_eq_some_iff.1 h
    obtain ⟨y, hy, h⟩ := Option.bind_eq_some_iff.1 h
    obtain ⟨z, hz, rfl⟩ := Option.map_eq_some_iff.1 h
    exact .cond hc (iha _ _ hy) (ihb _ _ hz)
  | block id b ih =>
    intro kp x h
    obtain ⟨y, hy, rfl⟩ := Option.map_eq_some_iff.1 h
    exact .block (ih _ _ hy)
  | loop b ih =>
    intro kp x h
    match kp, h with
    | [], h => cases h
    | [_], h => cases h
    | k :: o :: kp, h =>
      obtain ⟨y, hy, rfl⟩ := Option.map_eq_some_iff.1 h
      exact .loop k o (ih _ _ hy)
  | exit id => intro kp x h; cases h; exact .exit
  | ret => intro kp x h; cases h; exact .ret
  | region id ops d =>
    intro kp x h
    obtain ⟨r, hr, h⟩ := Option.bind_eq_some_iff.1 h
    cases d with
    | false => cases h; exact .reg hr
    | true =>
      simp only at h
      split at h
      · rename_i hd; cases h; exact .drw hr ⟨hm, hd⟩
      · cases h
  | _ => intro kp x h; cases h

def toRFn (C : Cfg) (kps : List (List Nat)) (f : FuncId) : Option RFn :=
  match C.P.funcs[f]? with
  | none => none
  | some fn =>
    if fn.name == "runtime.NumGoroutine" then none else
    match fn.body with
    | none => none
    | some c => (toRC C fn.ntmps kps c).bind fun r => (fn.results.toList.mapM (rvOf C.P)).map fun rs => ⟨fn.ntmps, r.1, rs⟩
theorem toRFn_ok {C : Cfg} (hm : C.P.follows .mixedOrders = true) {kps : List (List Nat)} {f : FuncId} {F : RFn} (h : toRFn C kps f = some F) : ∃ fn c, FnOk C (DrawOk C) f F fn c := by
  unfold toRFn at h
  split at h
  · cases h
  rename_i fn hfn
  split at h
  · cases h
  rename_i hname
  split at h
  · cases h
  rename_i c hc
  obtain ⟨r, hr, h⟩ := Option.bind_eq_some_iff.1 h
  obtain ⟨rs, hrs, rfl⟩ := Option.map_eq_some_iff.1 h
  exact ⟨fn, c, hfn, by simpa using hname, hc, rfl, toRC_ok hm _ _ _ hr, hrs⟩
/-- A table, row by row. -/
theorem tab_ok {C : Cfg} (hm : C.P.follows .mixedOrders = true) {tab : FuncId → Option RFn} (kps : FuncId → List (List Nat)) (h : ∀ f F, tab f = some F → toRFn C (kps f) f = some F) : TabOk C (DrawOk C) tab := fun f F hf => toRFn_ok hm (h f F hf)
theorem evF_snd {C : Cfg} (hC : COk C) {tab : FuncId → Option RFn} (ht : TabOk C (DrawOk C) tab) (n : Nat) : CallSnd C (evF C tab n) :=
  evF_sound hC ht (fun call hcall nt => draw_sound hC hcall) n
end Go.AE
