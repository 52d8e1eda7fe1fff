import Derived.Test.YtohbipkmfhmibaaGreatDoorAE29
/-! AE30: reckoning by rewriting. -/
set_option linter.unusedVariables false
set_option linter.unusedSimpArgs false
namespace Go.AE
open Go.RowKit Go.LB

section
variable {C : Cfg} {tab : FuncId → Option RFn} {call : CallT} {fr : Fr} {nm p : Name} {h : Heap} {L : List Name}
/-! What is left to do is data: so rewriting goes on in order. -/
noncomputable def condK (C : Cfg) (tab : FuncId → Option RFn) (p : Name) (a b : RC) (f : F) (x : Option T) : Option (X × F) :=
  match x with
  | some (.v (.bool t)) => if t then evL C tab p a f else evL C tab p b f
  | _ => none
theorem condK_true {a b : RC} {f : F} : condK C tab p a b f (some (.v (.bool true))) = evL C tab p a f := rfl
theorem condK_false {a b : RC} {f : F} : condK C tab p a b f (some (.v (.bool false))) = evL C tab p b f := rfl
noncomputable def seqK (C : Cfg) (tab : FuncId → Option RFn) (p : Name) (b : RC) (r : Option (X × F)) : Option (X × F) :=
  match r with
  | some (.norm, f') => evL C tab p b f'
  | r => r
theorem seqK_norm {b : RC} {f : F} : seqK C tab p b (some (.norm, f)) = evL C tab p b f := rfl
theorem seqK_ret {b : RC} {f : F} : seqK C tab p b (some (.ret, f)) = some (.ret, f) := rfl
theorem seqK_exit {b : RC} {f : F} {id : Nat} : seqK C tab p b (some (.exit id, f)) = some (.exit id, f) := rfl
def blkK (id : Nat) (r : Option (X × F)) : Option (X × F) :=
  match r with
  | some (.exit j, f') => if j = id then some (.norm, f') else some (.exit j, f')
  | r => r
theorem blkK_norm {f : F} {id : Nat} : blkK id (some (.norm, f)) = some (.norm, f) := rfl
theorem blkK_ret {f : F} {id : Nat} : blkK id (some (.ret, f)) = some (.ret, f) := rfl
theorem blkK_exit {f : F} {id j : Nat} : blkK id (some (.exit j, f)) = if j = id then some (.norm, f) else some (.exit j, f) := rfl
noncomputable def loopK (C : Cfg) (tab : FuncId → Option RFn) (p : Name) (keep out : List Nat) (b : RC) (n : Nat) (r : Option (X × F)) : Option (X × F) :=
  match r with
  | none => none
  | some (.norm, f') => evI C tab p keep out b n ⟨keepF keep f'.fr, f'.h.tail, f'.L, 0⟩
  | some (x, f') => some (x, ⟨keepF out f'.fr, f'.h.tail, f'.L, 0⟩)
theorem loopK_norm {keep out : List Nat} {b : RC} {n k : Nat} {l : List (Name × Blk)} : loopK C tab p keep out b n (some (.norm, ⟨fr, l :: h, L, k⟩)) = evI C tab p keep out b n ⟨keepF keep fr, h, L, 0⟩ := rfl
theorem loopK_ret {keep out : List Nat} {b : RC} {n k : Nat} {l : List (Name × Blk)} : loopK C tab p keep out b n (some (.ret, ⟨fr, l :: h, L, k⟩)) = some (.ret, ⟨keepF out fr, h, L, 0⟩) := rfl
theorem loopK_exit {keep out : List Nat} {b : RC} {n k : Nat} {l : List (Name × Blk)} {id : Nat} : loopK C tab p keep out b n (some (.exit id, ⟨fr, l :: h, L, k⟩)) = some (.exit id, ⟨keepF out fr, h, L, 0⟩) := rfl
/-- A loop's end. -/
def lendK (k : Nat) (r : Option (X × F)) : Option (X × F) := r.map fun q => (q.1, { q.2 with k := k })
theorem lendK_some {x : X} {k k' : Nat} : lendK k (some (x, ⟨fr, h, L, k'⟩)) = some (x, ⟨fr, h, L, k⟩) := rfl
theorem ev_seq {a b : RC} {f : F} : evL C tab p (.seq a b) f = seqK C tab p b (evL C tab p a f) := evL_seq
theorem ev_block {id : Nat} {b : RC} {f : F} : evL C tab p (.block id b) f = blkK id (evL C tab p b f) := evL_block
theorem ev_loop {keep out : List Nat} {b : RC} {k : Nat} : evL C tab p (.loop keep out b) ⟨fr, h, L, k⟩ = lendK (k + 1) (evI C tab (p ++ [k]) keep out b 0 ⟨keepF keep fr, h, L, 0⟩) := evL_loop
/-- One round. -/
theorem ev_round {keep out : List Nat} {b : RC} {r k : Nat} : evI C tab p keep out b r ⟨fr, h, L, k⟩ = loopK C tab p keep out b (r + 1) (evL C tab (p ++ [r]) b ⟨fr, [] :: h, L, 0⟩) := by
  rw [evI_round]; rfl
theorem ev_cond' {o : O} {a b : RC} {f : F} : evL C tab p (.cond o a b) f = condK C tab p a b f (eO f.fr o) := by
  cases ho : eO f.fr o with
  | none =>
    refine opt_ext fun q => ?_
    rw [evL_iff]
    exact ⟨fun ⟨n, h⟩ => by simp [evC, ho] at h, fun h => by cases h⟩
  | some x =>
    have bad : (∀ b, x ≠ .v (.bool b)) → evL C tab p (.cond o a b) f = condK C tab p a b f (some x) := fun hb => by
      have h1 : evL C tab p (.cond o a b) f = none := by
        cases he : evL C tab p (.cond o a b) f with
        | none => rfl
        | some q =>
          obtain ⟨n, hn⟩ := evL_iff.1 he
          simp only [evC, ho] at hn
          split at hn
          · rename_i h; cases h; exact absurd rfl (hb _)
          · cases hn
      rw [h1]
      unfold condK
      split
      · rename_i h; cases h; exact absurd rfl (hb _)
      · rfl
    cases x with
    | v u =>
      cases u with
      | bool t => rw [evL_cond ho]; rfl
      | _ => exact bad (by simp)
    | _ => exact bad (by simp)
theorem ev_cond {o : O} {a b : RC} {k : Nat} : evL C tab p (.cond o a b) ⟨fr, h, L, k⟩ = condK C tab p a b ⟨fr, h, L, k⟩ (eO fr o) := ev_cond'
theorem condK_bool {a b : RC} {f : F} {t : Bool} : condK C tab p a b f (some (.v (.bool t))) = match t with | true => evL C tab p a f | false => evL C tab p b f := by cases t <;> rfl
/-- A region of given operations. -/
def regK (k : Nat) (r : Option (Fr × Heap × List Name)) : Option (X × F) := r.map fun q => (.norm, { fr := q.1, h := q.2.1, L := q.2.2, k := k })
theorem regK_some {k : Nat} {fr : Fr} {h : Heap} {L : List Name} : regK k (some (fr, h, L)) = some (.norm, { fr := fr, h := h, L := L, k := k }) := rfl
theorem ev_reg {ops : List ROp} {k : Nat} : evL C tab p (.reg [] ops) ⟨fr, h, L, k⟩ = regK (k + 1) (evSeq C (evW C tab) (p ++ [k]) ops 0 fr h L) := evL_reg
theorem ev_regD {x : Nat × Nat} {prs : List (Nat × Nat)} {ops : List ROp} {k : Nat} : evL C tab p (.reg (x :: prs) ops) ⟨fr, h, L, k⟩ = regK (k + 1) (evReg C (evW C tab) (p ++ [k]) (x :: prs) ops fr h L) := evL_reg
/-- One operation ahead of the rest. -/
def opK (C : Cfg) (call : CallT) (p : Name) (d : Option Nat) (l : List ROp) (i : Nat) (fr : Fr) (r : Res) : Option (Fr × Heap × List Name) := r.bind fun q => evSeq C call p l i (put fr d q.1) q.2.1 q.2.2
theorem opK_some {d : Option Nat} {l : List ROp} {i : Nat} {x : T} : opK C call p d l i fr (some (x, h, L)) = evSeq C call p l i (put fr d x) h L := rfl
def gdK (C : Cfg) (call : CallT) (p : Name) (d : Option Nat) (r : R) (l : List ROp) (i : Nat) (fr : Fr) (h : Heap) (L : List Name) (b : Option Bool) : Option (Fr × Heap × List Name) :=
  match b with
  | some true => opK C call p d l (i + 1) fr (evR C call fr (p ++ [i]) h L r)
  | some false => evSeq C call p l (i + 1) (put fr d (.tup [])) h L
  | none => none
theorem gdK_true {d : Option Nat} {r : R} {l : List ROp} {i : Nat} : gdK C call p d r l i fr h L (some true) = opK C call p d l (i + 1) fr (evR C call fr (p ++ [i]) h L r) := rfl
theorem gdK_false {d : Option Nat} {r : R} {l : List ROp} {i : Nat} : gdK C call p d r l i fr h L (some false) = evSeq C call p l (i + 1) (put fr d (.tup [])) h L := rfl
theorem sq_nil {i : Nat} : evSeq C call p [] i fr h L = some (fr, h, L) := rfl
theorem sq_op {d : Option Nat} {r : R} {l : List ROp} {i : Nat} : evSeq C call p (⟨d, none, r⟩ :: l) i fr h L = opK C call p d l (i + 1) fr (evR C call fr (p ++ [i]) h L r) := rfl
theorem sq_gd {d : Option Nat} {t : Nat} {b : Bool} {r : R} {l : List ROp} {i : Nat} : evSeq C call p (⟨d, some (t, b), r⟩ :: l) i fr h L = gdK C call p d r l i fr h L (gd fr (some (t, b))) := by
  simp only [evSeq]
  cases gd fr (some (t, b)) with
  | none => rfl
  | some x => cases x <;> rfl
theorem gdK_bool {d : Option Nat} {r : R} {l : List ROp} {i : Nat} {t : Bool} : gdK C call p d r l i fr h L (some t) = match t with | true => opK C call p d l (i + 1) fr (evR C call fr (p ++ [i]) h L r) | false => evSeq C call p l (i + 1) (put fr d (.tup [])) h L := by cases t <;> rfl
/-- A call's end. -/
def fnK (rs : List RV) (r : Option (X × F)) : Option (T × Heap) :=
  match r with
  | some (.exit _, _) | none => none
  | some (_, g) => (eRVs g.fr g.h rs).map fun r => finF g.L g.h (tupOf r)
def finK (L : List Name) (h : Heap) (r : Option (List T)) : Option (T × Heap) := r.map fun r => finF L h (tupOf r)
theorem finK_some {r : List T} : finK L h (some r) = some (finF L h (tupOf r)) := rfl
theorem fnK_ret {rs : List RV} {k : Nat} : fnK rs (some (.ret, ⟨fr, h, L, k⟩)) = finK L h (eRVs fr h rs) := rfl
theorem fnK_norm {rs : List RV} {k : Nat} : fnK rs (some (.norm, ⟨fr, h, L, k⟩)) = finK L h (eRVs fr h rs) := rfl
theorem ev_fn {f : FuncId} {F : RFn} (hF : tab f = some F) {xs : List T} : evW C tab f nm xs h = fnK F.rs (evL C tab nm F.body { fr := argF xs 0, h := [] :: h, L := [], k := 0 }) := by
  refine opt_ext fun q => ?_
  constructor
  · intro e
    obtain ⟨n, hn⟩ := evW_iff.1 e
    cases n with
    | zero => cases hn
    | succ n =>
      rw [evF, hF, Option.bind_some] at hn
      split at hn
      · cases hn
      · cases hn
      · rename_i x g hne hx
        have h1 := evC_mono (d := evW C tab) (fun f nm xs h q e => evW_iff.2 ⟨n, e⟩) (Nat.le_refl n) _ _ _ _ hx
        rw [evL_iff.2 ⟨n, h1⟩]
        cases x with
        | norm => exact hn
        | ret => exact hn
        | exit id => exact (hne id rfl).elim
  · intro e
    cases hx : evL C tab nm F.body { fr := argF xs 0, h := [] :: h, L := [], k := 0 } with
    | none => rw [hx] at e; cases e
    | some r =>
      rw [hx] at e
      obtain ⟨x, g⟩ := r
      have key : (eRVs g.fr g.h F.rs).map (fun r => finF g.L g.h (tupOf r)) = some q → (∀ id, x ≠ .exit id) → evW C tab f nm xs h = some q := fun e hne => by
        obtain ⟨r, hr, e⟩ := Option.map_eq_some_iff.1 e
        rw [← e]
        exact evW_fn hF hx hne hr
      cases x with
      | norm => exact key e (by simp)
      | ret => exact key e (by simp)
      | exit id => cases e
end
end Go.AE
