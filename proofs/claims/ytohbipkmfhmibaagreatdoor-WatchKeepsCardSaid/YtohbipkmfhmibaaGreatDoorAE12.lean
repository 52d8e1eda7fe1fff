import Derived.Test.YtohbipkmfhmibaaGreatDoorAE11
/-! AE12: operations, resolved. -/
set_option linter.unusedVariables false
set_option linter.unusedSimpArgs false
namespace Go.AE
open Go.RowKit Go.LB

inductive O where
  | t (n : Nat)
  | c (x : T)
  deriving Inhabited
abbrev Fr := List (Nat × T)
def fget : Fr → Nat → Option T
  | [], _ => none
  | (m, x) :: f, n => if m = n then some x else fget f n
def fset : Fr → Nat → T → Fr
  | [], n, x => [(n, x)]
  | (m, y) :: f, n, x => if m = n then (m, x) :: f else (m, y) :: fset f n x
theorem fget_fset (f : Fr) (n m : Nat) (x : T) : fget (fset f n x) m = if n = m then some x else fget f m := by
  induction f with
  | nil => simp [fset, fget]
  | cons a f ih =>
    obtain ⟨k, y⟩ := a
    simp only [fset]
    by_cases e : k = n
    · subst e
      simp only [if_true, fget]
      split <;> simp_all
    · simp only [if_neg e, fget]
      by_cases e2 : k = m
      · subst e2; simp [Ne.symm e]
      · simp only [if_neg e2, ih]

structure Cfg where
  P : Program
  laid : Nat → Option (List T)
  pts : List TypeId
  mode : FuncId → Nat
  ora : FuncId → Option (Name → List T → Option T)

/-- Operations, with all that the tables say. -/
inductive R where
  | mv (x : O)
  | pick (c a b : O)
  | box (x : O)
  | build (zero : List T) (ps : List (Nat × Nat × O))
  | bsl (k len : Nat) (zero : T) (ps : List (Nat × O))
  | load (n : Option Nat) (a : O)
  | store (n : Nat) (a v : O)
  | nilc (x : O)
  | bin (op : BinOp) (x y : O)
  | binB (op : BinOp) (x y : O)
  | eqA (neg : Bool) (ks : List CK) (x y : O)
  | eqP (neg : Bool) (x y : O)
  | eqI (neg nilok : Bool) (x y : O)
  | isn (neg : Bool) (kind : Nat) (x : O)
  | un (op : UnOp) (x : O)
  | cint (k : IntKind) (x : O)
  | cid (x : O)
  | cstr (x : O)
  | cbytes (x : O)
  | ifc (t : TypeId) (x : O)
  | fn (f : Fn) (first cap : List O)
  | mkmap
  | mksl (k lim : Nat) (zero : T) (l c : O)
  | slStr (x : O) (lo hi : Option O)
  | slX (k : Nat) (x : O) (lo hi mx : Option O)
  | slA (k n : Nat) (x : O) (lo hi mx : Option O)
  | fa (off : Nat) (x : O)
  | fd (off : Nat) (n : Option Nat) (x : O)
  | iaA (k n : Nat) (x i : O)
  | iaS (k : Nat) (x i : O)
  | ixV (k len : Nat) (n : Option Nat) (x i : O)
  | ixS (x i : O)
  | look (row : Bool) (ks : List CK) (zero : T) (ok : Bool) (m k : O)
  | mset (row : Bool) (ks : List CK) (m k x : O)
  | ment (row : Bool) (ks : List CK) (zero : T) (m k : O)
  | mst (m s x : O)
  | mdel (row : Bool) (ks : List CK) (m k : O)
  | asrt (t : TypeId) (zero : T) (ok : Bool) (x : O)
  | ext (x : O) (i : Nat)
  | app (k lim : Nat) (x y : O)
  | apps (lim : Nat) (x y : O)
  | len (k : LK) (x : O)
  | copy (k : Nat) (d s : O)
  | mm (mx : Bool) (xs : List O)
  | call (f : FuncId) (args : List O)
  | callv (f : O) (args : List O)
  | bad
  deriving Inhabited

def resO (laid : Nat → Option (List T)) : Operand → Option O
  | .tmp t => some (.t t)
  | .const v => (ofV v).map .c
  | .global g => (laid g).map fun cs => .c (.ro cs 0)
  | .func f => some (.c (.fn (.func f) [] []))
def resOo (laid : Nat → Option (List T)) : Option Operand → Option (Option O)
  | none => some none
  | some x => (resO laid x).map some
def shp (P : Program) (t : TypeId) : Option (Option Nat) :=
  match P.underlying t with
  | none => none
  | some d => if d.isRow then (P.info? t).map fun i => some i.size else some none
theorem shp_ok {P : Program} {t : TypeId} {n : Option Nat} (h : shp P t = some n) : Shp P t n := by
  unfold shp at h
  split at h
  · cases h
  · rename_i d hd
    split at h
    · rename_i hr
      obtain ⟨i, hi, rfl⟩ := Option.map_eq_some_iff.1 h
      exact ⟨⟨d, hd, hr⟩, by rw [hi]; rfl⟩
    · rename_i hr
      cases h
      exact ⟨d, hd, by simpa using hr⟩
def szOf (P : Program) (t : TypeId) : Option Nat := (P.info? t).map (·.size)
def zeroT (P : Program) (t : TypeId) : Option T := ((P.info? t).bind (·.zero)).bind ofV
/-- An element's type: how many cells, how many elements at most, a zero. -/
def elemI (P : Program) (e : TypeId) : Option (Nat × Nat × T) :=
  (P.info? e).bind fun i => i.zero.bind fun z => (ofV z).bind fun zt => if 0 < i.size ∧ z.cells.size = i.size ∧ i.bytes ≤ 131072 then some (i.size, 1073741824, zt) else none
theorem elemI_ok {P : Program} {e : TypeId} {k lim : Nat} {zt : T} (h : elemI P e = some (k, lim, zt)) : ∃ i z, P.info? e = some i ∧ i.zero = some z ∧ ofV z = some zt ∧ i.size = k ∧ z.cells.size = k ∧ 0 < k ∧ lim * i.bytes ≤ 140737488355328 ∧ lim ≤ maxLen := by
  unfold elemI at h
  obtain ⟨i, hi, h⟩ := Option.bind_eq_some_iff.1 h
  obtain ⟨z, hz, h⟩ := Option.bind_eq_some_iff.1 h
  obtain ⟨zt', hzt, h⟩ := Option.bind_eq_some_iff.1 h
  split at h
  · rename_i hc
    cases h
    refine ⟨i, z, hi, hz, hzt, rfl, hc.2.1, hc.1, ?_, by simp [maxLen]⟩
    have := Nat.mul_le_mul_left 1073741824 hc.2.2
    omega
  · cases h
def kindsT (P : Program) (t : TypeId) : Option (List CK) := ckinds P 100 t

def isConstO : Operand → Bool
  | .const _ => true
  | _ => false
def nilConst : Nat → Operand → Bool
  | 0, .const (.slice none 0 0) => true
  | 1, .const (.map none) => true
  | 2, .const .nilFunc => true
  | _, _ => false
theorem nilConst_ok : ∀ {n : Nat} {x : Operand}, nilConst n x = true → (n = 0 ∧ x = .const (.slice none 0 0)) ∨ (n = 1 ∧ x = .const (.map none)) ∨ (n = 2 ∧ x = .const .nilFunc) := by
  intro n x h
  unfold nilConst at h
  split at h <;> simp_all
section
variable (C : Cfg)
def resArgs (xs : Array Operand) : Option (List O) := xs.toList.mapM (resO C.laid)
def resBin (op : BinOp) (xt : TypeId) (x y : Operand) : Option R :=
  (resO C.laid x).bind fun a => (resO C.laid y).bind fun b =>
    match C.P.underlying xt with
    | some (.int _) | some .string => some (.bin op a b)
    | some .bool => some (.binB op a b)
    | some (.pointer e) =>
      match op with
      | .eql => if ((szOf C.P e).getD 0) ≠ 0 then some (.eqP false a b) else none
      | .neq => if ((szOf C.P e).getD 0) ≠ 0 then some (.eqP true a b) else none
      | _ => none
    | some (.interface ms) =>
      let nilok := isConstO x || isConstO y || ms.isEmpty
      match op with
      | .eql => some (.eqI false nilok a b)
      | .neq => some (.eqI true nilok a b)
      | _ => none
    | some (.struct _) | some (.array _ _) =>
      if C.P.eqGuardType C.P.depth xt then none else
      match op with
      | .eql => (kindsT C.P xt).map fun ks => .eqA false ks a b
      | .neq => (kindsT C.P xt).map fun ks => .eqA true ks a b
      | _ => none
    | some (.slice _) => if nilConst 0 y then (match op with | .eql => some (.isn false 0 a) | .neq => some (.isn true 0 a) | _ => none) else none
    | some (.map _ _) => if nilConst 1 y then (match op with | .eql => some (.isn false 1 a) | .neq => some (.isn true 1 a) | _ => none) else none
    | some (.func _ _ _) => if nilConst 2 y then (match op with | .eql => some (.isn false 2 a) | .neq => some (.isn true 2 a) | _ => none) else none
    | _ => none
def resConv (src dst : TypeId) (x : Operand) : Option R :=
  (resO C.laid x).bind fun a =>
    match C.P.underlying src, C.P.underlying dst with
    | some (.int _), some (.int k) => some (.cint k a)
    | some .string, some .string => some (.cid a)
    | some (.slice e), some .string => if (match C.P.underlying e with | some (.int .u8) => true | _ => false) then some (.cstr a) else none
    | some .string, some (.slice e) => if (match C.P.underlying e with | some (.int .u8) => true | _ => false) then some (.cbytes a) else none
    | _, _ => none
def resSlice (t : TypeId) (x : Operand) (lo hi mx : Option Operand) : Option R :=
  (resO C.laid x).bind fun a => (resOo C.laid lo).bind fun l => (resOo C.laid hi).bind fun h => (resOo C.laid mx).bind fun m =>
    match C.P.underlying t with
    | some .string => if mx.isNone then some (.slStr a l h) else none
    | some (.slice e) => (szOf C.P e).bind fun k => if 0 < k then some (.slX k a l h m) else none
    | some (.array n e) => (szOf C.P e).bind fun k => if n ≤ maxLen then some (.slA k n a l h m) else none
    | some (.pointer arr) =>
      match C.P.underlying arr with
      | some (.array n e) => (szOf C.P e).bind fun k => if n ≤ maxLen then some (.slA k n a l h m) else none
      | _ => none
    | _ => none
def resLen (t : TypeId) : Option LK :=
  match C.P.underlying t with
  | some .string => some .str
  | some (.slice _) => some .sl
  | some (.map _ _) => some .map
  | some (.array n _) => some (.arr n)
  | some (.pointer a) => match C.P.underlying a with | some (.array n _) => some (.arr n) | _ => none
  | _ => none
def resCall (c : Call) : Option R :=
  match c.callee with
  | .value (.func f) => (resArgs C c.args).map fun xs => .call f xs
  | .value f => (resO C.laid f).bind fun g => (resArgs C c.args).map fun xs => .callv g xs
  | .builtin .append =>
    match c.args.toList, c.argTypes.toList with
    | [x, y], [t, tx] =>
      (resO C.laid x).bind fun a => (resO C.laid y).bind fun b =>
        match C.P.underlying t, C.P.underlying tx with
        | some (.slice e), some (.slice _) => (elemI C.P e).map fun r => .app r.1 r.2.1 a b
        | some (.slice e), some .string => (elemI C.P e).bind fun r => if r.1 = 1 then some (.apps r.2.1 a b) else none
        | _, _ => none
    | _, _ => none
  | .builtin .len =>
    match c.args.toList, c.argTypes.toList with
    | [x], [t] => (resO C.laid x).bind fun a => (resLen C t).map fun k => .len k a
    | _, _ => none
  | .builtin .copy =>
    match c.args.toList, c.argTypes.toList with
    | [x, y], [t, tx] =>
      (resO C.laid x).bind fun a => (resO C.laid y).bind fun b =>
        match C.P.underlying t, C.P.underlying tx with
        | some (.slice e), some (.slice e') => if e = e' then (szOf C.P e).bind fun k => if 0 < k then some (.copy k a b) else none else none
        | _, _ => none
    | _, _ => none
  | .builtin .delete =>
    match c.args.toList, c.argTypes.toList with
    | [x, y], [t, _] =>
      (resO C.laid x).bind fun a => (resO C.laid y).bind fun b =>
        match C.P.underlying t with
        | some (.map kt _) => (kindsT C.P kt).map fun ks => .mdel (isRowT C.P kt) ks a b
        | _ => none
    | _, _ => none
  | .builtin .min => (resArgs C c.args).map fun xs => .mm false xs
  | .builtin .max => (resArgs C c.args).map fun xs => .mm true xs
  | _ => none
/-- An operation, resolved. -/
def res (o : Oper) : Option R :=
  match o.op with
  | .move x | .assign x => (resO C.laid x).map .mv
  | .pick c a b => (resO C.laid c).bind fun c => (resO C.laid a).bind fun a => (resO C.laid b).map fun b => .pick c a b
  | .alloc e => (zeroT C.P e).map fun z => .box (.c z)
  | .box _ x => (resO C.laid x).map .box
  | .build t ps =>
    match C.P.underlying t with
    | some (.struct fs) =>
      (zeroT C.P t).bind fun z => (fs.toList.mapM fun f => (C.P.info? f.type).map fun i => (f.offset, i.size)).bind fun places =>
        (ps.toList.mapM fun (p : Nat × Operand) => (places[p.1]?).bind fun q => (resO C.laid p.2).map fun x => (q.1, q.2, x)).map fun l => .build z.cells l
    | some (.array _ e) =>
      (zeroT C.P t).bind fun z => (szOf C.P e).bind fun k =>
        (ps.toList.mapM fun (p : Nat × Operand) => (resO C.laid p.2).map fun x => (p.1 * k, k, x)).map fun l => .build z.cells l
    | _ => none
  | .buildSlice t len ps =>
    match C.P.underlying t with
    | some (.slice e) =>
      (elemI C.P e).bind fun r => if len * r.1 ≤ 16777216 then
        (ps.toList.mapM fun (p : Nat × Operand) => (resO C.laid p.2).map fun x => (p.1, x)).map fun l => .bsl r.1 len r.2.2 l else none
    | _ => none
  | .load t a => (shp C.P t).bind fun n => (resO C.laid a).map fun a => .load n a
  | .store t a v => (szOf C.P t).bind fun n => (resO C.laid a).bind fun a => (resO C.laid v).map fun v => .store n a v
  | .nilCheck x => (resO C.laid x).map .nilc
  | .binOp op xt x y _ => resBin C op xt x y
  | .unOp op _ x => (resO C.laid x).map fun x => .un op x
  | .convert src dst x => resConv C src dst x
  | .makeInterface t x => match C.P.underlying t with | none | some (.interface _) => none | some _ => (resO C.laid x).map fun x => .ifc t x
  | .makeFunc f first cap => (resArgs C first).bind fun a => (resArgs C cap).map fun b => .fn f a b
  | .makeMap _ none => some .mkmap
  | .makeSlice t l c =>
    match C.P.underlying t with
    | some (.slice e) => (elemI C.P e).bind fun r => (resO C.laid l).bind fun l => (resO C.laid c).map fun c => .mksl r.1 r.2.1 r.2.2 l c
    | _ => none
  | .slice t x lo hi mx => resSlice C t x lo hi mx
  | .fieldAddr s x i =>
    match C.P.underlying s with
    | some (.struct fs) => (fs[i]?).bind fun f => if ((szOf C.P f.type).getD 0) ≠ 0 then (resO C.laid x).map fun x => .fa f.offset x else none
    | _ => none
  | .field s x i =>
    match C.P.underlying s with
    | some (.struct fs) => (fs[i]?).bind fun f => (shp C.P f.type).bind fun n => (resO C.laid x).map fun x => .fd f.offset n x
    | _ => none
  | .indexAddr t x i =>
    (resO C.laid x).bind fun x => (resO C.laid i).bind fun i =>
      match C.P.underlying t with
      | some (.array n e) => (szOf C.P e).map fun k => .iaA k n x i
      | some (.slice e) => (szOf C.P e).map fun k => .iaS k x i
      | _ => none
  | .index t x i =>
    (resO C.laid x).bind fun x => (resO C.laid i).bind fun i =>
      match C.P.underlying t with
      | some (.array n e) => (szOf C.P e).bind fun k => (shp C.P e).map fun s => .ixV k n s x i
      | some .string => some (.ixS x i)
      | _ => none
  | .lookup t x i ok =>
    (resO C.laid x).bind fun x => (resO C.laid i).bind fun i =>
      match C.P.underlying t with
      | some (.map kt e) => (kindsT C.P kt).bind fun ks => (zeroT C.P e).map fun z => .look (isRowT C.P kt) ks z ok x i
      | _ => none
  | .mapUpdate t m k x | .insert t m k x =>
    (resO C.laid m).bind fun m => (resO C.laid k).bind fun k => (resO C.laid x).bind fun x =>
      match C.P.underlying t with
      | some (.map kt _) => (kindsT C.P kt).map fun ks => .mset (isRowT C.P kt) ks m k x
      | _ => none
  | .mapEntry t m k =>
    (resO C.laid m).bind fun m => (resO C.laid k).bind fun k =>
      match C.P.underlying t with
      | some (.map kt e) => (kindsT C.P kt).bind fun ks => (zeroT C.P e).map fun z => .ment (isRowT C.P kt) ks z m k
      | _ => none
  | .entryStore _ m s x => (resO C.laid m).bind fun m => (resO C.laid s).bind fun s => (resO C.laid x).map fun x => .mst m s x
  | .typeAssert x _ t ok => match C.P.underlying t with | none | some (.interface _) => none | some _ => (resO C.laid x).bind fun x => (zeroT C.P t).map fun z => .asrt t z ok x
  | .extract x i => (resO C.laid x).map fun x => .ext x i
  | .call c => resCall C c
  | _ => none
end

/-! ### What they do -/
def eO (fr : Fr) : O → Option T
  | .t n => fget fr n
  | .c x => some x
def eOs (fr : Fr) : List O → Option (List T)
  | [] => some []
  | x :: l => (eO fr x).bind fun x => (eOs fr l).map fun l => x :: l
def eOo (fr : Fr) : Option O → Option (Option T)
  | none => some none
  | some x => (eO fr x).map some
def ePs (fr : Fr) : List (Nat × Nat × O) → Option (List (Nat × Nat × T))
  | [] => some []
  | (a, b, x) :: l => (eO fr x).bind fun x => (ePs fr l).map fun l => (a, b, x) :: l
/-- A slice that is put into a row is no longer ours. -/
def Tag.bare : Tag → Tag
  | .kept => .kept
  | _ => .no
def strip1 : T → T
  | .sl l (.own _ _) => .sl l .no
  | x => x
def strip : T → T
  | .agg l => .agg (l.map strip1)
  | x => strip1 x
def eQs (fr : Fr) : List (Nat × O) → Option (List (Nat × T))
  | [] => some []
  | (a, x) :: l => (eO fr x).bind fun x => (eQs fr l).map fun l => (a, strip x) :: l
def tmm (mx : Bool) : T → T → Option T
  | .v (.int k x), .v (.int _ y) => some (.v (.int k (if mx then (if y > x then y else x) else (if y < x then y else x))))
  | _, _ => none
def tmms (mx : Bool) : T → List T → Option T
  | x, [] => some x
  | x, y :: l => (tmm mx x y).bind fun z => tmms mx z l
/-- The tokens of a call's result. -/
def toks : T → List Name
  | .sl _ (.own n _) => [n]
  | .tup l => l.flatMap fun | .sl _ (.own n _) => [n] | _ => []
  | _ => []
def toksU (nm : Name) (x : T) : List Name := (toks x).filter fun n => nm.isPrefixOf n
/-! A call gets the blocks that its arguments reach. -/
def ptr0 : T → List Name
  | .ptr n _ | .msl n _ _ | .map n => [n]
  | _ => []
def ptr1 : T → List Name
  | .agg l => l.flatMap ptr0
  | .fn _ a b => (a ++ b).flatMap ptr0
  | .ifc _ x => ptr0 x
  | x => ptr0 x
def ptr2 : T → List Name
  | .agg l => l.flatMap ptr1
  | .fn _ a b => (a ++ b).flatMap ptr1
  | .ifc _ x => ptr1 x
  | x => ptr0 x
def ptrB : Blk → List Name
  | .box cs => cs.flatMap ptr1
  | .map _ _ => []
def reachN (h : Heap) : Nat → List Name → List Name → Option (List Name)
  | _, [], seen => some seen
  | 0, _ :: _, _ => none
  | n + 1, m :: l, seen =>
    if m ∈ seen then reachN h n l seen else
    match hget h m with
    | some b => reachN h n (ptrB b ++ l) (seen ++ [m])
    | none => none
def reach (h : Heap) (xs : List T) : Option (List Name) := reachN h 64 (xs.flatMap ptr2) []
def subH (h : Heap) (s : List Name) : Heap := [s.filterMap fun n => (hget h n).map fun b => (n, b)]
def mergeH (nm : Name) (s : List Name) (g : Heap) : List Name → Heap → Heap
  | [], h => h
  | n :: l, h => mergeH nm s g l (match hget g n with
    | none => h
    | some b => if (hget h n).isSome then (if n ∈ s then hset h n b else h) else if nm.isPrefixOf n then hnew h n b else h)
def merge (nm : Name) (s : List Name) (g h : Heap) : Option Heap :=
  if s.all (fun n => (hget g n).isSome) then some (mergeH nm s g (g.flatten.map (·.1)) h) else none
def tnilK (kind : Nat) (x : T) : Option Bool :=
  match kind, x with
  | 0, .sl l t => tnil (.sl l t)
  | 0, .msl a b c => tnil (.msl a b c)
  | 1, .map n => some false
  | 1, .v (.map none) => some true
  | 2, .fn _ _ _ => some false
  | 2, .v .nilFunc => some true
  | _, _ => none
def isB : T → Bool
  | .v (.bool _) => true
  | _ => false
def tsrc (k : Nat) (x : T) (h : Heap) : Option (List T) :=
  match x with
  | .sl m _ => some m
  | .msl n off len => if k = 1 then match hget h n with | some (.box cs) => if off + len ≤ cs.length ∧ kl 1 cs then some ((cs.drop off).take len) else none | _ => none else none
  | _ => none
abbrev Res := Option (T × Heap × List Name)
section
variable (C : Cfg) (call : FuncId → Name → List T → Heap → Option (T × Heap))
def eCall (nm : Name) (f : FuncId) (xs : List T) (h : Heap) (live : List Name) : Res :=
  match C.ora f with
  | some g => (g nm xs).map fun r => (r, h, toksU nm r ++ live)
  | none =>
    if C.mode f = 0 then (call f nm xs []).map fun r => (r.1, h, toksU nm r.1 ++ live)
    else (reach h xs).bind fun s => (call f nm xs (subH h s)).bind fun r => (merge nm s r.2 h).map fun h' => (r.1, h', toksU nm r.1 ++ live)
def evR (fr : Fr) (nm : Name) (h : Heap) (live : List Name) : R → Res
  | .mv x => (eO fr x).map fun x => (x, h, live)
  | .pick c a b => (eO fr c).bind fun c => (eO fr a).bind fun a => (eO fr b).bind fun b => match c with | .v (.bool q) => some (if q then a else b, h, live) | _ => none
  | .box x => (eO fr x).bind fun x => if isTup x then none else some (.ptr nm 0, hnew h nm (.box x.cells), live)
  | .build z ps => (ePs fr ps).bind fun ps => (eFill z ps).map fun cs => (.agg cs, h, live)
  | .bsl k len z ps => (eQs fr ps).bind fun ps => (eSets k (List.replicate len z) ps).map fun l => (.sl l (.own nm k), h, nm :: live)
  | .load n a => (eO fr a).bind fun a => (eLoad n a h).map fun x => (x, h, live)
  | .store n a v => (eO fr a).bind fun a => (eO fr v).bind fun v => (eStore n a v h).map fun h => (.tup [], h, live)
  | .nilc x => (eO fr x).bind fun x => match x with | .gl _ | .ptr _ _ | .ro _ _ => some (x, h, live) | .fn (.func _) _ _ => some (x, h, live) | _ => none
  | .bin op x y => (eO fr x).bind fun x => (eO fr y).bind fun y => if isB x then none else (tbin op x y).map fun x => (x, h, live)
  | .binB op x y => (eO fr x).bind fun x => (eO fr y).bind fun y => (tbin op x y).map fun x => (x, h, live)
  | .eqA neg ks x y => (eO fr x).bind fun x => (eO fr y).bind fun y => match x, y with
    | .agg xs, .agg ys => if xs.length = ks.length ∧ ys.length = ks.length then (eqLT ks xs ys).map fun b => (tB (nb neg b), h, live) else none
    | _, _ => none
  | .eqP neg x y => (eO fr x).bind fun x => (eO fr y).bind fun y => (teqP x y).map fun b => (tB (nb neg b), h, live)
  | .eqI neg nilok x y => (eO fr x).bind fun x => (eO fr y).bind fun y => (teqI C.pts nilok x y).map fun b => (tB (nb neg b), h, live)
  | .isn neg kind x => (eO fr x).bind fun x => (tnilK kind x).map fun b => (tB (nb neg b), h, live)
  | .un op x => (eO fr x).bind fun x => (tun op x).map fun x => (x, h, live)
  | .cint k x => (eO fr x).bind fun x => match x with | .v (.int _ n) => some (.v (.int k (k.wrap n)), h, live) | _ => none
  | .cid x => (eO fr x).bind fun x => match x with | .v (.string s) => some (.v (.string s), h, live) | _ => none
  | .cstr x => (eO fr x).bind fun x => (eStr x h).map fun x => (x, h, live)
  | .cbytes x => (eO fr x).bind fun x => match x with | .v (.string s) => if s.size ≤ 1073741824 then (eBytes x).map fun x => (x, h, live) else none | _ => none
  | .ifc t x => (eO fr x).map fun x => (.ifc t x, h, live)
  | .fn f a b => (eOs fr a).bind fun a => (eOs fr b).map fun b => (.fn f a b, h, live)
  | .mkmap => some (.map nm, hnew h nm (.map [] 0), live)
  | .mksl k lim z l c => (eO fr l).bind fun l => (eO fr c).bind fun c => eMake k lim nm z l c h live
  | .slStr x lo hi => (eO fr x).bind fun x => (eOo fr lo).bind fun lo => (eOo fr hi).bind fun hi => (eSlStr x lo hi).map fun x => (x, h, live)
  | .slX k x lo hi mx => (eO fr x).bind fun x => (eOo fr lo).bind fun lo => (eOo fr hi).bind fun hi => (eOo fr mx).bind fun mx => (eSlX k x lo hi mx).map fun x => (x, h, live)
  | .slA k n x lo hi mx => (eO fr x).bind fun x => (eOo fr lo).bind fun lo => (eOo fr hi).bind fun hi => (eOo fr mx).bind fun mx => (eSlA k n x lo hi mx).map fun x => (x, h, live)
  | .fa off x => (eO fr x).bind fun x => (eFieldAddr off x).map fun x => (x, h, live)
  | .fd off n x => (eO fr x).bind fun x => (eField off n x).map fun x => (x, h, live)
  | .iaA k n x i => (eO fr x).bind fun x => (eO fr i).bind fun i => (eIdxA k n x i).map fun x => (x, h, live)
  | .iaS k x i => (eO fr x).bind fun x => (eO fr i).bind fun i => (eIdxS k x i).map fun x => (x, h, live)
  | .ixV k len n x i => (eO fr x).bind fun x => (eO fr i).bind fun i => (eIdxV k len n x i).map fun x => (x, h, live)
  | .ixS x i => (eO fr x).bind fun x => (eO fr i).bind fun i => (eIdxStr x i).map fun x => (x, h, live)
  | .look row ks z ok m k => (eO fr m).bind fun m => (eO fr k).bind fun k => (eLook row ks z ok m k h).map fun x => (x, h, live)
  | .mset row ks m k x => (eO fr m).bind fun m => (eO fr k).bind fun k => (eO fr x).bind fun x => (eMapSet row ks m k x h).map fun h => (.tup [], h, live)
  | .ment row ks z m k => (eO fr m).bind fun m => (eO fr k).bind fun k => (eMapEntry row ks z m k h).map fun r => (r.1, r.2, live)
  | .mst m s x => (eO fr m).bind fun m => (eO fr s).bind fun s => (eO fr x).bind fun x => (eEntrySet m s x h).map fun h => (.tup [], h, live)
  | .mdel row ks m k => (eO fr m).bind fun m => (eO fr k).bind fun k => (eDel row ks m k h).map fun h => (.tup [], h, live)
  | .asrt t z ok x => (eO fr x).bind fun x => match x with
    | .ifc u y => if u = t then some (if ok then .tup [y, tB true] else y, h, live) else if ok then some (.tup [z, tB false], h, live) else none
    | .v .nilIface => if ok then some (.tup [z, tB false], h, live) else none
    | _ => none
  | .ext x i => (eO fr x).bind fun x => match x with | .tup l => (l[i]?).map fun x => (x, h, live) | _ => none
  | .app k lim x y => (eO fr x).bind fun x => (eO fr y).bind fun y => (tsrc k y h).bind fun m => (eApp k lim nm x m live).map fun r => (r.1, h, r.2)
  | .apps lim x y => (eO fr x).bind fun x => (eO fr y).bind fun y => match y with | .v (.string s) => (eApp 1 lim nm x (s.data.toList.map encB) live).map fun r => (r.1, h, r.2) | _ => none
  | .len k x => (eO fr x).bind fun x => (eLen k x h).map fun x => (x, h, live)
  | .copy k d s => (eO fr d).bind fun d => (eO fr s).bind fun s => match s with | .sl m _ => (eCopy k d m h).map fun r => (r.1, r.2, live) | _ => none
  | .mm mx xs => (eOs fr xs).bind fun xs => match xs with | x :: l => (tmms mx x l).map fun x => (x, h, live) | [] => none
  | .call f xs => (eOs fr xs).bind fun xs => eCall C call nm f (xs.map strip) h live
  | .callv g xs => (eO fr g).bind fun g => (eOs fr xs).bind fun xs => match g with
    | .fn (.func f) a b => eCall C call nm f ((a ++ xs ++ b).map strip) h live
    | _ => none
  | .bad => none
end
end Go.AE
