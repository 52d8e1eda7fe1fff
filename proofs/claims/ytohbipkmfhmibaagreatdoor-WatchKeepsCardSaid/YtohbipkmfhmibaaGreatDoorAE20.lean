import Derived.Test.YtohbipkmfhmibaaGreatDoorAE19
/-! AE20: functions. -/
set_option linter.unusedVariables false
set_option linter.unusedSimpArgs false
namespace Go.AE
open Go.RowKit Go.LB

inductive RV where
  | tmp (t : Nat)
  | cell (t : Nat) (n : Option Nat)
  deriving Inhabited
structure RFn where
  nt : Nat
  body : RC
  rs : List RV
  deriving Inhabited
def eRV (fr : Fr) (h : Heap) : RV → Option T
  | .tmp t => fget fr t
  | .cell t n => (fget fr t).bind fun a => eLoad n a h
def eRVs (fr : Fr) (h : Heap) : List RV → Option (List T)
  | [] => some []
  | r :: l => (eRV fr h r).bind fun x => (eRVs fr h l).map fun l => x :: l
def tupOf : List T → T
  | [x] => x
  | l => .tup l
/-- A result that leaves its call. 'top': the call's own boxes. -/
def seal1 (L : List Name) (top : List (Name × Blk)) : T → T
  | .sl l (.own n k) => if n ∈ L then .sl l (.own n k) else .sl l .no
  | .msl n off len =>
    match lget top n with
    | some (.box cs) => if off + len ≤ cs.length ∧ kl 1 cs = true then .sl ((cs.drop off).take len) .no else .msl n off len
    | _ => .msl n off len
  | x => x
def sealC (L : List Name) (top : List (Name × Blk)) (x : T) : T := strip1 (seal1 L top x)
def seal0 (L : List Name) (top : List (Name × Blk)) : T → T
  | .agg l => .agg (l.map (sealC L top))
  | x => seal1 L top x
def sealT (L : List Name) (top : List (Name × Blk)) : T → T
  | .tup l => .tup (l.map (seal0 L top))
  | x => seal0 L top x
def topOf : Heap → List (Name × Blk)
  | [] => []
  | l :: _ => l
def argF : List T → Nat → Fr
  | [], _ => []
  | x :: l, i => (i, x) :: argF l (i + 1)
/-! Blocks of its own that a call's result points to. -/
def ptrR0 : T → List Name
  | .ptr n _ | .map n => [n]
  | _ => []
def ptrR1 : T → List Name
  | .agg l => l.flatMap ptrR0
  | .ifc _ x => ptrR0 x
  | .fn _ a b => (a ++ b).flatMap ptrR0
  | x => ptrR0 x
def ptrR2 : T → List Name
  | .tup l => l.flatMap ptrR1
  | x => ptrR1 x
def ptrRB : Blk → List Name
  | .box cs => cs.flatMap ptrR1
  | .map _ _ => []
def keepN (top : List (Name × Blk)) : Nat → List Name → List Name → List Name
  | _, [], seen => seen
  | 0, _ :: _, seen => seen
  | n + 1, m :: l, seen =>
    if m ∈ seen then keepN top n l seen else
    match lget top m with
    | some b => keepN top n (ptrRB b ++ l) (seen ++ [m])
    | none => keepN top n l seen
def dropK (ks : List Name) (top : List (Name × Blk)) : List (Name × Blk) := top.filter fun p => !ks.contains p.1
def pushL (l : List (Name × Blk)) : Heap → Heap
  | [] => if l.isEmpty then [] else [l]
  | t :: h => (l ++ t) :: h
def pushK (ks : List Name) : Heap → Heap
  | [] => []
  | top :: t => pushL (top.filter fun p => ks.contains p.1) t
def finF (L : List Name) (h : Heap) (r : T) : T × Heap :=
  let ks := keepN (topOf h) 64 (ptrR2 r) []
  (sealT L (dropK ks (topOf h)) r, pushK ks h)
def evF (C : Cfg) (tab : FuncId → Option RFn) : Nat → FuncId → Name → List T → Heap → Option (T × Heap)
  | 0, _, _, _, _ => none
  | n + 1, f, nm, args, h =>
    (tab f).bind fun F =>
      match evC C (evF C tab n) nm n F.body { fr := argF args 0, h := [] :: h, L := [], k := 0 } with
      | some (.exit _, _) | none => none
      | some (_, g) => (eRVs g.fr g.h F.rs).map fun r => finF g.L g.h (tupOf r)

def rvOf (P : Program) : ResultVar → Option RV
  | .tmp t => some (.tmp t)
  | .cell t ty => (shp P ty).map fun n => .cell t n
/-- A function's row of the table is what the program has. -/
structure FnOk (C : Cfg) (drawOk : List (Nat × Nat) → List ROp → Array Oper → Prop) (f : FuncId) (F : RFn) (fn : Func) (c : Code) : Prop where
  fnOf : C.P.funcs[f]? = some fn
  name : (fn.name == "runtime.NumGoroutine") = false
  body : fn.body = some c
  nt : F.nt = fn.ntmps
  code : RCof C F.nt drawOk c F.body
  rs : fn.results.toList.mapM (rvOf C.P) = some F.rs
def TabOk (C : Cfg) (drawOk : List (Nat × Nat) → List ROp → Array Oper → Prop) (tab : FuncId → Option RFn) : Prop := ∀ f F, tab f = some F → ∃ fn c, FnOk C drawOk f F fn c

def rvSem (tmps : Array Value) : ResultVar → Sem Value
  | .tmp t => pure (tmps.getD t undef)
  | .cell a t => do loadVar t (← asAddr (tmps.getD a undef))
def retOf : List Value → Value
  | [v] => v
  | l => .tuple l.toArray
section
variable {C : Cfg} {nt : Nat} {p : Name} {E : Env} {h h' : Heap} {L L' : List Name} {w : World} {fr fr' : Fr} {a : Act} {x : T}

theorem fget_argF : ∀ (l : List T) (i t : Nat) (x : T), fget (argF l i) t = some x → i ≤ t ∧ l[t - i]? = some x
  | [], i, t, x, h => by simp [argF, fget] at h
  | y :: l, i, t, x, h => by
    simp only [argF, fget] at h
    split at h
    · rename_i e; subst e; cases h; simp
    · rename_i e
      obtain ⟨h1, h2⟩ := fget_argF l (i + 1) t x h
      refine ⟨by omega, ?_⟩
      rw [show t - i = (t - (i + 1)) + 1 by omega, List.getElem?_cons_succ]
      exact h2
theorem run_results {fn : Func} {tmps : Array Value} {vs : List Value} (h : ∀ (i : Nat) v, fn.results.toList[i]? = some v → ∃ u, vs[i]? = some u ∧ (rvSem tmps v).run C.P w = .ok u w) (hl : vs.length = fn.results.size) :
    (results fn tmps).run C.P w = .ok (retOf vs) w := by
  have key : ∀ (l : List ResultVar) (vs : List Value), vs.length = l.length → (∀ (i : Nat) v, l[i]? = some v → ∃ u, vs[i]? = some u ∧ (rvSem tmps v).run C.P w = .ok u w) → (l.mapM (rvSem tmps)).run C.P w = .ok vs w := by
    intro l
    induction l with
    | nil => intro vs hl _; have : vs = [] := List.eq_nil_of_length_eq_zero (by simpa using hl); subst this; simp
    | cons v l ih =>
      intro vs hl hh
      cases vs with
      | nil => simp at hl
      | cons u vs =>
        obtain ⟨u', hu, hr⟩ := hh 0 v rfl
        simp at hu; subst hu
        have := ih vs (by simpa using hl) (fun i v hv => hh (i + 1) v (by simpa using hv))
        rw [List.mapM_cons, Sem.run_bind, hr, Result.andThen_ok, Sem.run_bind, this, Result.andThen_ok]
        rfl
  have h2 := key fn.results.toList vs (by simpa using hl) h
  have e : results fn tmps = (do let vs ← fn.results.mapM (rvSem tmps); pure (if h : vs.size = 1 then vs[0] else .tuple vs)) := by
    unfold results
    congr 2
  rw [e, Array.mapM_eq_mapM_toList]
  rw [map_eq_pure_bind]
  simp only [Sem.run_bind, h2, Result.andThen_ok, Sem.run_pure]
  match vs with
  | [] => simp [retOf]
  | [v] => simp [retOf]
  | v :: u :: l => simp [retOf]
end
end Go.AE
