import Derived.Test.YtohbipkmfhmibaaGreatDoorAE33
/-! AE35: equations for quick rewriting. -/
set_option linter.unusedVariables false
namespace Go.AE
open Go.RowKit Go.LB
theorem nm_app (a b c : Name) : ((a ++ b) ++ c) = (a ++ (b ++ c)) := List.append_assoc a b c
theorem nm_eq (a b c : Name) : (a ++ b = a ++ c) = (b = c) := by simp
theorem nm_eq0 (a : Name) (x : Nat) (c : Name) : (a = a ++ (x :: c)) = False := by simp
theorem nm_eq1 (a : Name) (x : Nat) (c : Name) : (a ++ (x :: c) = a) = False := by simp
theorem nm_ceq {α : Type} (a b : α) (c d : List α) : (a :: c = b :: d) = (a = b ∧ c = d) := by simp
theorem nm_cn {α : Type} (a : α) (c : List α) : (a :: c = []) = False := by simp
theorem nm_nc {α : Type} (a : α) (c : List α) : ([] = a :: c) = False := by simp
theorem nm_capp (a : Nat) (c d : Name) : (a :: c) ++ d = a :: (c ++ d) := rfl
theorem nm_napp (d : Name) : ([] : Name) ++ d = d := rfl
theorem nm_pre (a b : Name) : a.isPrefixOf (a ++ b) = true := by simp
theorem nm_pre0 (a : Name) : a.isPrefixOf a = true := by simp
theorem nm_pre1 (a b c : Name) : (a ++ b).isPrefixOf (a ++ c) = b.isPrefixOf c := by
  induction a with
  | nil => rfl
  | cons x a ih => simp [ih]
theorem nm_pre2 (a : Name) (x : Nat) (c : Name) : (a ++ (x :: c)).isPrefixOf a = false := by
  rw [Bool.eq_false_iff]
  intro h
  have := (List.isPrefixOf_iff_prefix.1 h).length_le
  simp at this
  omega
theorem bind_some' {α β : Type} (a : α) (f : α → Option β) : (some a).bind f = f a := rfl
theorem map_some' {α β : Type} (a : α) (f : α → β) : (some a).map f = some (f a) := rfl
theorem bind_none' {α β : Type} (f : α → Option β) : (none : Option α).bind f = none := rfl
theorem map_none' {α β : Type} (f : α → β) : (none : Option α).map f = none := rfl
theorem or_some' {α : Type} (a : α) (b : Option α) : (some a).or b = some a := rfl
theorem or_none' {α : Type} (b : Option α) : (none : Option α).or b = b := rfl
theorem isSome_some' {α : Type} (a : α) : (some a).isSome = true := rfl
theorem isSome_none' {α : Type} : (none : Option α).isSome = false := rfl
theorem isNone_some' {α : Type} (a : α) : (some a).isNone = false := rfl
theorem isNone_none' {α : Type} : (none : Option α).isNone = true := rfl
theorem beq_true' (b : Bool) : (b == true) = b := by cases b <;> rfl
theorem beq_false' (b : Bool) : (b == false) = !b := by cases b <;> rfl
theorem get0 {α : Type} (a : α) (l : List α) : (a :: l)[0]? = some a := rfl
theorem getS {α : Type} (a : α) (l : List α) (n : Nat) : (a :: l)[n + 1]? = l[n]? := rfl
theorem pick_tt (a b : T) : (if true = true then a else b) = a := rfl
theorem tt_eq : (true = true) = True := by simp
theorem ff_eq : (false = true) = False := by simp
theorem ff_eqf : (false = false) = True := by simp
theorem tt_eqf : (true = false) = False := by simp
theorem not_t : (!true) = false := rfl
theorem not_f : (!false) = true := rfl
theorem not_eqt (b : Bool) : ((!b) = true) = (b = false) := by cases b <;> simp
theorem fil_nil {α : Type} (p : α → Bool) : ([] : List α).filter p = [] := rfl
theorem fil_cons {α : Type} (p : α → Bool) (a : α) (l : List α) : (a :: l).filter p = if p a then a :: l.filter p else l.filter p := by
  simp [List.filter_cons]
theorem mem_nil' {α : Type} (a : α) : (a ∈ ([] : List α)) = False := by simp
theorem mem_cons' {α : Type} (a b : α) (l : List α) : (a ∈ b :: l) = (a = b ∨ a ∈ l) := by simp
theorem fm_nil {α β : Type} (f : α → List β) : ([] : List α).flatMap f = [] := rfl
theorem fm_cons {α β : Type} (f : α → List β) (a : α) (l : List α) : (a :: l).flatMap f = f a ++ l.flatMap f := rfl
theorem len0 {α : Type} : ([] : List α).length = 0 := rfl
theorem lenS {α : Type} (a : α) (l : List α) : (a :: l).length = l.length + 1 := rfl
theorem app0 {α : Type} (l : List α) : [] ++ l = l := rfl
theorem appS {α : Type} (a : α) (l m : List α) : (a :: l) ++ m = a :: (l ++ m) := rfl
theorem mapS {α β : Type} (f : α → β) (a : α) (l : List α) : (a :: l).map f = f a :: l.map f := rfl
theorem map0 {α β : Type} (f : α → β) : ([] : List α).map f = [] := rfl
theorem dropS {α : Type} (a : α) (l : List α) (n : Nat) : (a :: l).drop (n + 1) = l.drop n := rfl
theorem drop0' {α : Type} (l : List α) : l.drop 0 = l := rfl
theorem takeS {α : Type} (a : α) (l : List α) (n : Nat) : (a :: l).take (n + 1) = a :: l.take n := rfl
theorem take0' {α : Type} (l : List α) : l.take 0 = [] := by simp
theorem setS {α : Type} (a b : α) (l : List α) (n : Nat) : (a :: l).set (n + 1) b = a :: l.set n b := rfl
theorem set0 {α : Type} (a b : α) (l : List α) : (a :: l).set 0 b = b :: l := rfl
theorem all0 {α : Type} (p : α → Bool) : ([] : List α).all p = true := rfl
theorem allS {α : Type} (p : α → Bool) (a : α) (l : List α) : (a :: l).all p = (p a && l.all p) := rfl
theorem and_t (b : Bool) : (true && b) = b := rfl
theorem and_f (b : Bool) : (false && b) = false := rfl
theorem or_t (b : Bool) : (true || b) = true := rfl
theorem or_f (b : Bool) : (false || b) = b := rfl
theorem andT (p : Prop) : (True ∧ p) = p := by simp
theorem andF (p : Prop) : (False ∧ p) = False := by simp
theorem andT' (p : Prop) : (p ∧ True) = p := by simp
theorem orT (p : Prop) : (True ∨ p) = True := by simp
theorem orF (p : Prop) : (False ∨ p) = p := by simp
theorem notT : (¬ True) = False := by simp
theorem notF : (¬ False) = True := by simp
theorem ite_T {α : Sort _} (a b : α) [h : Decidable True] : (@ite α True h a b) = a := by simp
theorem ite_F {α : Sort _} (a b : α) [h : Decidable False] : (@ite α False h a b) = b := by simp
theorem isB_int (k : IntKind) (n : Int) : isB (.v (.int k n)) = false := rfl
theorem isB_str (s : ByteArray) : isB (.v (.string s)) = false := rfl
theorem isB_bool (b : Bool) : isB (.v (.bool b)) = true := rfl
end Go.AE
namespace Go.AE
open Go.RowKit Go.LB
theorem fst' {α β : Type} (a : α) (b : β) : (a, b).1 = a := rfl
theorem snd' {α β : Type} (a : α) (b : β) : (a, b).2 = b := rfl
theorem eq_self' {α : Sort _} (a : α) : (a = a) = True := by simp
theorem keepN0 (top : List (Name × Blk)) (n : Nat) (seen : List Name) : keepN top n [] seen = seen := by cases n <;> rfl
theorem keepN1 (top : List (Name × Blk)) (m : Name) (l seen : List Name) : keepN top 0 (m :: l) seen = seen := rfl
theorem keepN2 (top : List (Name × Blk)) (n : Nat) (m : Name) (l seen : List Name) : keepN top (n + 1) (m :: l) seen = if m ∈ seen then keepN top n l seen else match lget top m with
    | some b => keepN top n (ptrRB b ++ l) (seen ++ [m])
    | none => keepN top n l seen := rfl
theorem reachN0 (h : Heap) (n : Nat) (seen : List Name) : reachN h n [] seen = some seen := by cases n <;> rfl
theorem reachN1 (h : Heap) (n : Nat) (m : Name) (l seen : List Name) : reachN h (n + 1) (m :: l) seen = if m ∈ seen then reachN h n l seen else match hget h m with
    | some b => reachN h n (ptrB b ++ l) (seen ++ [m])
    | none => none := rfl
theorem finF_eq (L : List Name) (h : Heap) (r : T) : finF L h r = (sealT L (dropK (keepN (topOf h) 64 (ptrR2 r) []) (topOf h)) r, pushK (keepN (topOf h) 64 (ptrR2 r) []) h) := rfl
theorem mergeH0 (nm : Name) (s : List Name) (g h : Heap) : mergeH nm s g [] h = h := rfl
theorem mergeH1 (nm : Name) (s : List Name) (g h : Heap) (n : Name) (l : List Name) : mergeH nm s g (n :: l) h = mergeH nm s g l (match hget g n with
    | none => h
    | some b => if (hget h n).isSome then (if n ∈ s then hset h n b else h) else if nm.isPrefixOf n then hnew h n b else h) := rfl
end Go.AE
/-! Tests that stand still: both ways, the tested slot known in each. -/
namespace Go.AE
open Go.RowKit Go.LB
section
variable {C : Cfg} {tab : FuncId → Option RFn} {call : CallT} {fr : Fr} {nm p : Name} {h : Heap} {L : List Name}
theorem fset_same : ∀ {fr : Fr} {n : Nat} {x : T}, fget fr n = some x → fset fr n x = fr
  | [], n, x, h => by simp [fget] at h
  | (m, y) :: f, n, x, h => by
    simp only [fget] at h
    simp only [fset]
    split
    · rename_i e
      rw [if_pos e] at h; cases h; rfl
    · rename_i e
      rw [if_neg e] at h; rw [fset_same h]
/-- An operation that is done if a slot says so. -/
def gdS (C : Cfg) (call : CallT) (p : Name) (d : Option Nat) (t : Nat) (r : R) (l : List ROp) (i : Nat) (fr : Fr) (h : Heap) (L : List Name) (x : Option T) : Option (Fr × Heap × List Name) := match x with
  | some (.v (.bool x)) => cond x (opK C call p d l (i + 1) (fset fr t (.v (.bool true))) (evR C call (fset fr t (.v (.bool true))) (p ++ [i]) h L r)) (evSeq C call p l (i + 1) (put (fset fr t (.v (.bool false))) d (.tup [])) h L)
  | some _ => evSeq C call p l (i + 1) (put fr d (.tup [])) h L
  | none => none
def gdT (C : Cfg) (call : CallT) (p : Name) (d : Option Nat) (t : Nat) (r : R) (l : List ROp) (i : Nat) (fr : Fr) (h : Heap) (L : List Name) (x : Option T) : Option (Fr × Heap × List Name) := match x with
  | some (.v (.bool x)) => cond x (evSeq C call p l (i + 1) (put (fset fr t (.v (.bool true))) d (.tup [])) h L) (opK C call p d l (i + 1) (fset fr t (.v (.bool false))) (evR C call (fset fr t (.v (.bool false))) (p ++ [i]) h L r))
  | some _ => evSeq C call p l (i + 1) (put fr d (.tup [])) h L
  | none => none
theorem gdS_bool {d : Option Nat} {t : Nat} {r : R} {l : List ROp} {i : Nat} {x : Bool} : gdS C call p d t r l i fr h L (some (.v (.bool x))) = cond x (opK C call p d l (i + 1) (fset fr t (.v (.bool true))) (evR C call (fset fr t (.v (.bool true))) (p ++ [i]) h L r)) (evSeq C call p l (i + 1) (put (fset fr t (.v (.bool false))) d (.tup [])) h L) := rfl
theorem gdS_tup {d : Option Nat} {t : Nat} {r : R} {l : List ROp} {i : Nat} {x : List T} : gdS C call p d t r l i fr h L (some (.tup x)) = evSeq C call p l (i + 1) (put fr d (.tup [])) h L := rfl
theorem gdT_bool {d : Option Nat} {t : Nat} {r : R} {l : List ROp} {i : Nat} {x : Bool} : gdT C call p d t r l i fr h L (some (.v (.bool x))) = cond x (evSeq C call p l (i + 1) (put (fset fr t (.v (.bool true))) d (.tup [])) h L) (opK C call p d l (i + 1) (fset fr t (.v (.bool false))) (evR C call (fset fr t (.v (.bool false))) (p ++ [i]) h L r)) := rfl
theorem gdT_tup {d : Option Nat} {t : Nat} {r : R} {l : List ROp} {i : Nat} {x : List T} : gdT C call p d t r l i fr h L (some (.tup x)) = evSeq C call p l (i + 1) (put fr d (.tup [])) h L := rfl
theorem sq_gdt {d : Option Nat} {t : Nat} {r : R} {l : List ROp} {i : Nat} : evSeq C call p (⟨d, some (t, true), r⟩ :: l) i fr h L = gdS C call p d t r l i fr h L (fget fr t) := by
  rw [sq_gd]
  cases e : fget fr t with
  | none => simp [gd, e, gdK, gdS]
  | some y =>
    cases y with
    | v u =>
      cases u with
      | bool x =>
        simp only [gd, e, Option.map_some, gdS_bool]
        cases x with
        | true => rw [fset_same e]; rfl
        | false => rw [fset_same e]; rfl
      | _ => simp [gd, e, gdK, gdS]
    | _ => simp [gd, e, gdK, gdS]
theorem sq_gdf {d : Option Nat} {t : Nat} {r : R} {l : List ROp} {i : Nat} : evSeq C call p (⟨d, some (t, false), r⟩ :: l) i fr h L = gdT C call p d t r l i fr h L (fget fr t) := by
  rw [sq_gd]
  cases e : fget fr t with
  | none => simp [gd, e, gdK, gdT]
  | some y =>
    cases y with
    | v u =>
      cases u with
      | bool x =>
        simp only [gd, e, Option.map_some, gdT_bool]
        cases x with
        | true => rw [fset_same e]; rfl
        | false => rw [fset_same e]; rfl
      | _ => simp [gd, e, gdK, gdT]
    | _ => simp [gd, e, gdK, gdT]
/-- A test of a slot. -/
noncomputable def cdT (C : Cfg) (tab : FuncId → Option RFn) (p : Name) (n : Nat) (a b : RC) (fr : Fr) (h : Heap) (L : List Name) (k : Nat) (x : Option T) : Option (X × F) := match x with
  | some (.v (.bool x)) => cond x (evL C tab p a ⟨fset fr n (.v (.bool true)), h, L, k⟩) (evL C tab p b ⟨fset fr n (.v (.bool false)), h, L, k⟩)
  | _ => none
theorem cdT_bool {n : Nat} {a b : RC} {k : Nat} {x : Bool} : cdT C tab p n a b fr h L k (some (.v (.bool x))) = cond x (evL C tab p a ⟨fset fr n (.v (.bool true)), h, L, k⟩) (evL C tab p b ⟨fset fr n (.v (.bool false)), h, L, k⟩) := rfl
theorem ev_condT {n : Nat} {a b : RC} {k : Nat} : evL C tab p (.cond (.t n) a b) ⟨fr, h, L, k⟩ = cdT C tab p n a b fr h L k (fget fr n) := by
  rw [ev_cond]
  simp only [eO]
  cases e : fget fr n with
  | none => rfl
  | some y =>
    cases y with
    | v u =>
      cases u with
      | bool x =>
        cases x with
        | true => simp only [condK_bool, cdT_bool, fset_same e]; rfl
        | false => simp only [condK_bool, cdT_bool, fset_same e]; rfl
      | _ => rfl
    | _ => rfl
theorem ev_condC {u : T} {a b : RC} {k : Nat} : evL C tab p (.cond (.c u) a b) ⟨fr, h, L, k⟩ = condK C tab p a b ⟨fr, h, L, k⟩ (some u) := ev_cond
theorem regK_cond {k : Nat} {x : Bool} {A B : Option (Fr × Heap × List Name)} : regK k (cond x A B) = cond x (regK k A) (regK k B) := by cases x <;> rfl
theorem seqK_cond {b : RC} {x : Bool} {A B : Option (X × F)} : seqK C tab p b (cond x A B) = cond x (seqK C tab p b A) (seqK C tab p b B) := by cases x <;> rfl
theorem blkK_cond {id : Nat} {x : Bool} {A B : Option (X × F)} : blkK id (cond x A B) = cond x (blkK id A) (blkK id B) := by cases x <;> rfl
theorem loopK_cond {keep out : List Nat} {b : RC} {n : Nat} {x : Bool} {A B : Option (X × F)} : loopK C tab p keep out b n (cond x A B) = cond x (loopK C tab p keep out b n A) (loopK C tab p keep out b n B) := by cases x <;> rfl
theorem lendK_cond {k : Nat} {x : Bool} {A B : Option (X × F)} : lendK k (cond x A B) = cond x (lendK k A) (lendK k B) := by cases x <;> rfl
theorem fnK_cond {rs : List RV} {x : Bool} {A B : Option (X × F)} : fnK rs (cond x A B) = cond x (fnK rs A) (fnK rs B) := by cases x <;> rfl
theorem opK_cond {d : Option Nat} {l : List ROp} {i : Nat} {x : Bool} {A B : Res} : opK C call p d l i fr (cond x A B) = cond x (opK C call p d l i fr A) (opK C call p d l i fr B) := by cases x <;> rfl
theorem bind_cond {α β : Type} {x : Bool} {A B : Option α} {f : α → Option β} : (cond x A B).bind f = cond x (A.bind f) (B.bind f) := by cases x <;> rfl
theorem map_cond {α β : Type} {x : Bool} {A B : Option α} {f : α → β} : (cond x A B).map f = cond x (A.map f) (B.map f) := by cases x <;> rfl
theorem some_cond {α : Type} {x : Bool} {A B : Option α} {y : α} : (cond x A B = some y) = ((x = true → A = some y) ∧ (x = false → B = some y)) := by cases x <;> simp
theorem tix_int {k : IntKind} {n : Nat} {i : Int} : tix n (.v (.int k i)) = cond (decide (0 ≤ i ∧ i < n)) (some i.toNat) none := by
  simp only [tix]
  by_cases hh : 0 ≤ i ∧ i < (n : Int) <;> simp [hh]
theorem tle_int {k : IntKind} {n : Nat} {i : Int} : tle n (.v (.int k i)) = cond (decide (0 ≤ i ∧ i ≤ n)) (some i.toNat) none := by
  simp only [tle]
  by_cases hh : 0 ≤ i ∧ i ≤ (n : Int) <;> simp [hh]
theorem eqLT_nil : eqLT [] [] [] = some true := rfl
def eqC : Option Bool → Option Bool → Option Bool
  | some b, some c => some (b && c)
  | some b, none => if b then none else some false
  | none, _ => none
theorem eqC_some {b c : Bool} : eqC (some b) (some c) = some (b && c) := rfl
theorem eqLT_cons {k : CK} {ks : List CK} {x y : T} {xs ys : List T} : eqLT (k :: ks) (x :: xs) (y :: ys) = eqC (ceqT k x y) (eqLT ks xs ys) := by
  simp only [eqLT]
  cases ceqT k x y with
  | none => rfl
  | some b => cases b <;> cases eqLT ks xs ys <;> rfl
theorem and_tt (b : Bool) : (b && true) = b := by simp
theorem and_ff (b : Bool) : (b && false) = false := by simp
theorem cont0 {α : Type} [BEq α] (a : α) : ([] : List α).contains a = false := rfl
theorem elem0 {α : Type} [BEq α] (a : α) : List.elem a ([] : List α) = false := rfl
theorem implT (p : Prop) : (True → p) = p := by simp
theorem implF (p : Prop) : (False → p) = True := by simp
theorem some_inj' {α : Type} (a b : α) : (some a = some b) = (a = b) := by simp
theorem none_some' {α : Type} (a : α) : ((none : Option α) = some a) = False := by simp
theorem isEmpty0 {α : Type} : ([] : List α).isEmpty = true := rfl
theorem isEmptyS {α : Type} (a : α) (l : List α) : (a :: l).isEmpty = false := rfl
theorem decT [h : Decidable True] : @decide True h = true := by simp
theorem decF [h : Decidable False] : @decide False h = false := by simp
end
end Go.AE
/-! Texts, numbers. -/
namespace Go.AE
open Go.RowKit Go.LB
theorem bdata (a : Array UInt8) : (ByteArray.mk a).data = a := rfl
theorem atol {α : Type} (l : List α) : (Array.mk l).toList = l := rfl
theorem bsize (l : List UInt8) : (ByteArray.mk (Array.mk l)).size = l.length := rfl
theorem btoList (l : List UInt8) : (ByteArray.mk (Array.mk l)).data.toList = l := rfl
theorem bext (l : List UInt8) (a b : Nat) : (ByteArray.mk (Array.mk l)).extract a b = ⟨⟨(l.drop a).take (b - a)⟩⟩ := by
  apply ByteArray.ext
  simp [ByteArray.data_extract]
theorem beqn (l m : List UInt8) : (ByteArray.mk (Array.mk l) = ByteArray.mk (Array.mk m)) = (l = m) := by simp
theorem bappn (l m : List UInt8) : ByteArray.mk (Array.mk l) ++ ByteArray.mk (Array.mk m) = ByteArray.mk (Array.mk (l ++ m)) := by
  apply ByteArray.ext
  simp
theorem u8_ix (c : UInt8) (n : Nat) (h : 256 ≤ n) : decide (0 ≤ (c.toNat : Int) ∧ (c.toNat : Int) < (n : Int)) = true := by
  have := c.toNat_lt
  simp; omega
theorem u8_ix256 (c : UInt8) : decide (0 ≤ (c.toNat : Int) ∧ (c.toNat : Int) < ((256 : Nat) : Int)) = true := u8_ix c 256 (Nat.le_refl _)
theorem u8_ix256' (c : UInt8) : decide (0 ≤ (c.toNat : Int) ∧ (c.toNat : Int) < (256 : Int)) = true := u8_ix256 c
theorem wrap_i64 {n : Int} (h1 : -9223372036854775808 ≤ n) (h2 : n ≤ 9223372036854775807) : IntKind.i64.wrap n = n := by
  have e1 : (2 : Int) ^ 64 = 18446744073709551616 := by decide
  have e2 : (2 : Int) ^ (64 - 1) = 9223372036854775808 := by decide
  simp only [IntKind.wrap, IntKind.bits, IntKind.signed, Bool.true_and, e1, e2]
  by_cases h : n % 18446744073709551616 ≥ 9223372036854775808
  · rw [if_pos (by simpa using h)]; omega
  · rw [if_neg (by simpa using h)]; omega
theorem wrap_u8 (c : UInt8) : IntKind.u8.wrap (c.toNat : Int) = (c.toNat : Int) := by
  have := c.toNat_lt
  simp only [IntKind.wrap, IntKind.bits, IntKind.signed, Bool.false_and, Bool.false_eq_true, if_false]
  omega
theorem encB_u8 (c : UInt8) : encB c = .v (.int .u8 (c.toNat : Int)) := rfl
theorem toNat_cast (n : Nat) : ((n : Int)).toNat = n := by simp
theorem len_map' {α β : Type} (f : α → β) (l : List α) : (l.map f).length = l.length := by simp
theorem get_map' {α β : Type} (f : α → β) (l : List α) (i : Nat) : (l.map f)[i]? = (l[i]?).map f := by simp
theorem cast0 : ((0 : Nat) : Int) = 0 := rfl
theorem mul1' (n : Nat) : n * 1 = n := by simp
theorem add0' (n : Nat) : 0 + n = n := by simp
theorem sub0' (n : Nat) : n - 0 = n := rfl
theorem addz' (n : Nat) : n + 0 = n := by simp
theorem kl_map {α : Type} (f : α → T) (k : Nat) (h : ∀ a, (f a).cells.length = k) (l : List α) : kl k (l.map f) = true := by
  simp [kl, h]
theorem npre_ne {nm n : Name} (h : nm.isPrefixOf n = false) (s : Name) : (n = nm ++ s) = False := by
  simp only [eq_iff_iff, iff_false]
  rintro rfl
  rw [nm_pre] at h; cases h
theorem npre_ne' {nm n : Name} (h : nm.isPrefixOf n = false) (s : Name) : (nm ++ s = n) = False := by
  rw [← npre_ne h s]; simp only [eq_iff_iff]; exact ⟨Eq.symm, Eq.symm⟩
theorem npre_sub {nm n : Name} (h : nm.isPrefixOf n = false) (s : Name) : (nm ++ s).isPrefixOf n = false := by
  rw [Bool.eq_false_iff] at h ⊢
  intro q
  exact h (List.isPrefixOf_iff_prefix.2 ((List.prefix_append nm s).trans (List.isPrefixOf_iff_prefix.1 q)))
theorem npre_self {nm n : Name} (h : nm.isPrefixOf n = false) : (n = nm) = False := by
  simp only [eq_iff_iff, iff_false]
  rintro rfl
  rw [nm_pre0] at h; cases h
theorem npre_self' {nm n : Name} (h : nm.isPrefixOf n = false) : (nm = n) = False := by
  rw [← npre_self h]; simp only [eq_iff_iff]; exact ⟨Eq.symm, Eq.symm⟩
end Go.AE
namespace Go.AE
open Go.RowKit Go.LB
def subN (h : Heap) : List Name → List (Name × Blk)
  | [] => []
  | n :: s => match hget h n with
    | some b => (n, b) :: subN h s
    | none => subN h s
def subC (n : Name) (l : List (Name × Blk)) : Option Blk → List (Name × Blk)
  | some b => (n, b) :: l
  | none => l
theorem subH_eq (h : Heap) (s : List Name) : subH h s = [subN h s] := by
  simp only [subH]
  congr 1
  induction s with
  | nil => rfl
  | cons n s ih => simp only [List.filterMap_cons, subN]; cases hget h n <;> simp [ih]
theorem subN0 (h : Heap) : subN h [] = [] := rfl
theorem subNS (h : Heap) (n : Name) (s : List Name) : subN h (n :: s) = subC n (subN h s) (hget h n) := by
  simp only [subN]; cases hget h n <;> rfl
theorem subC_some (n : Name) (l : List (Name × Blk)) (b : Blk) : subC n l (some b) = (n, b) :: l := rfl
theorem subC_none (n : Name) (l : List (Name × Blk)) : subC n l none = l := rfl
theorem flatten0 {α : Type} : ([] : List (List α)).flatten = [] := rfl
theorem flattenS {α : Type} (a : List α) (l : List (List α)) : (a :: l).flatten = a ++ l.flatten := rfl
def mergeC (nm : Name) (s : List Name) (n : Name) (h : Heap) : Option Blk → Heap
  | none => h
  | some b => if (hget h n).isSome then (if n ∈ s then hset h n b else h) else if nm.isPrefixOf n then hnew h n b else h
theorem mergeHS (nm : Name) (s : List Name) (g h : Heap) (n : Name) (l : List Name) : mergeH nm s g (n :: l) h = mergeH nm s g l (mergeC nm s n h (hget g n)) := by
  rw [mergeH1]; cases hget g n <;> rfl
theorem mergeC_none (nm : Name) (s : List Name) (n : Name) (h : Heap) : mergeC nm s n h none = h := rfl
theorem mergeC_some (nm : Name) (s : List Name) (n : Name) (h : Heap) (b : Blk) : mergeC nm s n h (some b) = if (hget h n).isSome then (if n ∈ s then hset h n b else h) else if nm.isPrefixOf n then hnew h n b else h := rfl
def reachC (h : Heap) (n : Nat) (m : Name) (l seen : List Name) : Option Blk → Option (List Name)
  | some b => reachN h n (ptrB b ++ l) (seen ++ [m])
  | none => none
theorem reachNS (h : Heap) (n : Nat) (m : Name) (l seen : List Name) : reachN h (n + 1) (m :: l) seen = if m ∈ seen then reachN h n l seen else reachC h n m l seen (hget h m) := by
  rw [reachN1]; cases hget h m <;> rfl
theorem reachC_some (h : Heap) (n : Nat) (m : Name) (l seen : List Name) (b : Blk) : reachC h n m l seen (some b) = reachN h n (ptrB b ++ l) (seen ++ [m]) := rfl
def keepC (top : List (Name × Blk)) (n : Nat) (m : Name) (l seen : List Name) : Option Blk → List Name
  | some b => keepN top n (ptrRB b ++ l) (seen ++ [m])
  | none => keepN top n l seen
theorem keepNS (top : List (Name × Blk)) (n : Nat) (m : Name) (l seen : List Name) : keepN top (n + 1) (m :: l) seen = if m ∈ seen then keepN top n l seen else keepC top n m l seen (lget top m) := by
  rw [keepN2]; cases lget top m <;> rfl
theorem keepC_some (top : List (Name × Blk)) (n : Nat) (m : Name) (l seen : List Name) (b : Blk) : keepC top n m l seen (some b) = keepN top n (ptrRB b ++ l) (seen ++ [m]) := rfl
theorem keepC_none (top : List (Name × Blk)) (n : Nat) (m : Name) (l seen : List Name) : keepC top n m l seen none = keepN top n l seen := rfl
end Go.AE
namespace Go.AE
open Go.RowKit Go.LB
theorem tb_nn (n : Nat) : tbounds n none none none = some (0, n, none) := rfl
theorem tb_ln (n : Nat) (y : T) : tbounds n (some y) none none = (tle n y).map fun a => (a, n, none) := by
  simp only [tbounds, Option.isSome_none, Bool.false_eq_true, if_false]; cases tle n y <;> rfl
theorem tb_nh (n : Nat) (y : T) : tbounds n none (some y) none = (tle n y).map fun b => (0, b, none) := by
  simp only [tbounds, Option.getD]; cases tle n y <;> rfl
theorem tb_lh (n : Nat) (x y : T) : tbounds n (some x) (some y) none = (tle n y).bind fun b => (tle b x).map fun a => (a, b, none) := by
  simp only [tbounds, Option.getD]
  cases h : tle n y with
  | none => rfl
  | some b => simp only [Option.bind_some]; cases tle b x <;> rfl
theorem tb_lhm (n : Nat) (x y z : T) : tbounds n (some x) (some y) (some z) = (tle n z).bind fun m => (tle m y).bind fun b => (tle b x).map fun a => (a, b, some m) := by
  simp only [tbounds]
  cases h : tle n z with
  | none => rfl
  | some m =>
    simp only [Option.map_some, Option.getD, Option.bind_some]
    cases h : tle m y with
    | none => rfl
    | some b => simp only [Option.bind_some]; cases tle b x <;> rfl
theorem tb_nhm (n : Nat) (y z : T) : tbounds n none (some y) (some z) = (tle n z).bind fun m => (tle m y).map fun b => (0, b, some m) := by
  simp only [tbounds]
  cases h : tle n z with
  | none => rfl
  | some m =>
    simp only [Option.map_some, Option.getD, Option.bind_some]
    cases h : tle m y <;> rfl
theorem eSlX_sl (k : Nat) (l : List T) (t : Tag) (lo hi mx : Option T) : eSlX k (.sl l t) lo hi mx = (tbounds l.length lo hi mx).bind fun r => if lo.isNone ∧ hi.isNone ∧ mx.isNone then some (.sl l t) else if t = .nil then some (.sl [] .nil) else if kl k l then some (.sl ((l.drop r.1).take (r.2.1 - r.1)) .no) else none := by
  simp only [eSlX]; cases tbounds l.length lo hi mx <;> rfl
def mslD (t : Bool) (k : Nat) (n : Name) (off a b : Nat) : T := if t then .msl n (off + a * k) (b - a) else .sl [] .no
theorem mslD_t (k : Nat) (n : Name) (off a b : Nat) : mslD true k n off a b = .msl n (off + a * k) (b - a) := rfl
theorem mslD_f (k : Nat) (n : Name) (off a b : Nat) : mslD false k n off a b = .sl [] .no := rfl
theorem eSlX_msl (k : Nat) (n : Name) (off len : Nat) (lo hi mx : Option T) : eSlX k (.msl n off len) lo hi mx = (tbounds len lo hi mx).map fun r => mslD (decide (r.1 < r.2.1)) k n off r.1 r.2.1 := by
  simp only [eSlX]
  cases tbounds len lo hi mx with
  | none => rfl
  | some r => obtain ⟨a, b, m⟩ := r; simp only [Option.map_some, mslD]; by_cases h : a < b <;> simp [h]
theorem eSlA_ptr (k n : Nat) (nm : Name) (off : Nat) (lo hi mx : Option T) : eSlA k n (.ptr nm off) lo hi mx = (tbounds n lo hi mx).map fun r => mslD (decide (r.1 < r.2.1)) k nm off r.1 r.2.1 := by
  simp only [eSlA]
  cases tbounds n lo hi mx with
  | none => rfl
  | some r => obtain ⟨a, b, m⟩ := r; simp only [Option.map_some, mslD]; by_cases h : a < b <;> simp [h]
theorem eSlA_ro (k n : Nat) (cs : List T) (off : Nat) (lo hi mx : Option T) : eSlA k n (.ro cs off) lo hi mx = (tbounds n lo hi mx).bind fun r => if k = 1 ∧ off + r.2.1 ≤ cs.length ∧ kl 1 cs then some (.sl ((cs.drop (off + r.1)).take (r.2.1 - r.1)) .no) else none := by
  simp only [eSlA]; cases tbounds n lo hi mx <;> rfl
end Go.AE

namespace Go.AE
theorem putAt_gen {α : Type} : ∀ (ys xs pre : List α), ys.length = xs.length → putAt (pre ++ xs) pre.length ys = pre ++ ys
  | [], xs, pre, h => by
    have : xs = [] := List.eq_nil_of_length_eq_zero (by simpa using h.symm)
    subst this; rfl
  | y :: ys, [], pre, h => by simp at h
  | y :: ys, x :: xs, pre, h => by
    rw [putAt]
    have e : (pre ++ x :: xs).set pre.length y = (pre ++ [y]) ++ xs := by simp
    rw [e, show pre.length + 1 = (pre ++ [y]).length by simp, putAt_gen ys xs (pre ++ [y]) (by simpa using h)]
    simp
theorem putAt_full {α : Type} (xs ys : List α) (h : ys.length = xs.length) : putAt xs 0 ys = ys := by
  have := putAt_gen ys xs [] h
  simpa using this
end Go.AE

namespace Go.AE
theorem s1_own (l : List T) (n : Name) (k : Nat) : strip1 (.sl l (.own n k)) = .sl l .no := rfl
theorem s1_no (l : List T) : strip1 (.sl l .no) = .sl l .no := rfl
theorem s1_nil (l : List T) : strip1 (.sl l .nil) = .sl l .nil := rfl
theorem s1_kept (l : List T) : strip1 (.sl l .kept) = .sl l .kept := rfl
theorem s1_v (x : Value) : strip1 (.v x) = .v x := rfl
theorem s1_gl (x : Nat) : strip1 (.gl x) = .gl x := rfl
theorem s1_ptr (n : Name) (o : Nat) : strip1 (.ptr n o) = .ptr n o := rfl
theorem s1_ro (c : List T) (o : Nat) : strip1 (.ro c o) = .ro c o := rfl
theorem s1_msl (n : Name) (o l : Nat) : strip1 (.msl n o l) = .msl n o l := rfl
theorem s1_map (n : Name) : strip1 (.map n) = .map n := rfl
theorem s1_fn (f : Fn) (a b : List T) : strip1 (.fn f a b) = .fn f a b := rfl
theorem s1_ifc (t : TypeId) (x : T) : strip1 (.ifc t x) = .ifc t x := rfl
theorem s1_agg (l : List T) : strip1 (.agg l) = .agg l := rfl
theorem s1_tup (l : List T) : strip1 (.tup l) = .tup l := rfl
theorem s0_sl (l : List T) (t : Tag) : strip (.sl l t) = strip1 (.sl l t) := rfl
theorem s0_v (x : Value) : strip (.v x) = .v x := rfl
theorem s0_gl (x : Nat) : strip (.gl x) = .gl x := rfl
theorem s0_ptr (n : Name) (o : Nat) : strip (.ptr n o) = .ptr n o := rfl
theorem s0_ro (c : List T) (o : Nat) : strip (.ro c o) = .ro c o := rfl
theorem s0_msl (n : Name) (o l : Nat) : strip (.msl n o l) = .msl n o l := rfl
theorem s0_map (n : Name) : strip (.map n) = .map n := rfl
theorem s0_fn (f : Fn) (a b : List T) : strip (.fn f a b) = .fn f a b := rfl
theorem s0_ifc (t : TypeId) (x : T) : strip (.ifc t x) = .ifc t x := rfl
theorem s0_agg (l : List T) : strip (.agg l) = .agg (l.map strip1) := rfl
theorem s0_tup (l : List T) : strip (.tup l) = .tup l := rfl
end Go.AE

namespace Go.AE
theorem cast1 : ((1 : Nat) : Int) = 1 := rfl
theorem cast2 : ((2 : Nat) : Int) = 2 := rfl
theorem cast3 : ((3 : Nat) : Int) = 3 := rfl
theorem cast4 : ((4 : Nat) : Int) = 4 := rfl
theorem cast5 : ((5 : Nat) : Int) = 5 := rfl
theorem cast6 : ((6 : Nat) : Int) = 6 := rfl
theorem cast7 : ((7 : Nat) : Int) = 7 := rfl
theorem cast8 : ((8 : Nat) : Int) = 8 := rfl
theorem cast9 : ((9 : Nat) : Int) = 9 := rfl
theorem cast10 : ((10 : Nat) : Int) = 10 := rfl
theorem cast11 : ((11 : Nat) : Int) = 11 := rfl
theorem cast12 : ((12 : Nat) : Int) = 12 := rfl
theorem cast13 : ((13 : Nat) : Int) = 13 := rfl
theorem cast14 : ((14 : Nat) : Int) = 14 := rfl
theorem cast15 : ((15 : Nat) : Int) = 15 := rfl
theorem cast16 : ((16 : Nat) : Int) = 16 := rfl
theorem cast17 : ((17 : Nat) : Int) = 17 := rfl
theorem cast18 : ((18 : Nat) : Int) = 18 := rfl
theorem cast19 : ((19 : Nat) : Int) = 19 := rfl
theorem cast20 : ((20 : Nat) : Int) = 20 := rfl
theorem cast21 : ((21 : Nat) : Int) = 21 := rfl
theorem cast22 : ((22 : Nat) : Int) = 22 := rfl
theorem cast23 : ((23 : Nat) : Int) = 23 := rfl
theorem cast24 : ((24 : Nat) : Int) = 24 := rfl
theorem cast25 : ((25 : Nat) : Int) = 25 := rfl
theorem cast26 : ((26 : Nat) : Int) = 26 := rfl
theorem cast27 : ((27 : Nat) : Int) = 27 := rfl
theorem cast28 : ((28 : Nat) : Int) = 28 := rfl
theorem cast29 : ((29 : Nat) : Int) = 29 := rfl
theorem cast30 : ((30 : Nat) : Int) = 30 := rfl
theorem cast31 : ((31 : Nat) : Int) = 31 := rfl
theorem cast32 : ((32 : Nat) : Int) = 32 := rfl
theorem cast64 : ((64 : Nat) : Int) = 64 := rfl
theorem cast128 : ((128 : Nat) : Int) = 128 := rfl
theorem cast256 : ((256 : Nat) : Int) = 256 := rfl
end Go.AE

namespace Go.AE
theorem itn0 : (0 : Int).toNat = 0 := rfl
theorem itn1 : (1 : Int).toNat = 1 := rfl
theorem itn2 : (2 : Int).toNat = 2 := rfl
theorem itn3 : (3 : Int).toNat = 3 := rfl
theorem itn4 : (4 : Int).toNat = 4 := rfl
theorem itn5 : (5 : Int).toNat = 5 := rfl
theorem itn6 : (6 : Int).toNat = 6 := rfl
theorem itn7 : (7 : Int).toNat = 7 := rfl
theorem itn8 : (8 : Int).toNat = 8 := rfl
theorem itn9 : (9 : Int).toNat = 9 := rfl
theorem itn10 : (10 : Int).toNat = 10 := rfl
theorem itn11 : (11 : Int).toNat = 11 := rfl
theorem itn12 : (12 : Int).toNat = 12 := rfl
theorem itn13 : (13 : Int).toNat = 13 := rfl
theorem itn14 : (14 : Int).toNat = 14 := rfl
theorem itn15 : (15 : Int).toNat = 15 := rfl
theorem itn16 : (16 : Int).toNat = 16 := rfl
theorem itn17 : (17 : Int).toNat = 17 := rfl
theorem itn18 : (18 : Int).toNat = 18 := rfl
theorem itn19 : (19 : Int).toNat = 19 := rfl
theorem itn20 : (20 : Int).toNat = 20 := rfl
theorem itn21 : (21 : Int).toNat = 21 := rfl
theorem itn22 : (22 : Int).toNat = 22 := rfl
theorem itn23 : (23 : Int).toNat = 23 := rfl
theorem itn24 : (24 : Int).toNat = 24 := rfl
theorem itn25 : (25 : Int).toNat = 25 := rfl
theorem itn26 : (26 : Int).toNat = 26 := rfl
theorem itn27 : (27 : Int).toNat = 27 := rfl
theorem itn28 : (28 : Int).toNat = 28 := rfl
theorem itn29 : (29 : Int).toNat = 29 := rfl
theorem itn30 : (30 : Int).toNat = 30 := rfl
theorem itn31 : (31 : Int).toNat = 31 := rfl
theorem itn32 : (32 : Int).toNat = 32 := rfl
theorem itn64 : (64 : Int).toNat = 64 := rfl
theorem itn128 : (128 : Int).toNat = 128 := rfl
theorem itn256 : (256 : Int).toNat = 256 := rfl
end Go.AE

namespace Go.AE
def mxI (x y : Int) : Int := if y > x then y else x
def mnI (x y : Int) : Int := if y < x then y else x
theorem tmm_t (k k' : IntKind) (x y : Int) : tmm true (.v (.int k x)) (.v (.int k' y)) = some (.v (.int k (mxI x y))) := rfl
theorem tmm_f (k k' : IntKind) (x y : Int) : tmm false (.v (.int k x)) (.v (.int k' y)) = some (.v (.int k (mnI x y))) := rfl
theorem tmms_nil (b : Bool) (x : T) : tmms b x [] = some x := rfl
theorem tmms_cons (b : Bool) (x y : T) (l : List T) : tmms b x (y :: l) = (tmm b x y).bind fun z => tmms b z l := rfl
end Go.AE

/-! Regions that draw their order. -/
namespace Go.AE
section
variable {C : Cfg} {call : CallT} {fr : Fr} {p : Name} {h : Heap} {L : List Name} {mk : Nat → Bool} {acc : List (Nat × List Name)}
def opKD (C : Cfg) (call : CallT) (p : Name) (mk : Nat → Bool) (d : Option Nat) (l : List ROp) (i : Nat) (fr : Fr) (acc : List (Nat × List Name)) (r : Res) : Option ((Fr × Heap × List Name) × List (Nat × List Name)) := r.bind fun q => evSeqD C call p mk l i (put fr d q.1) q.2.1 q.2.2 acc
theorem opKD_some {d : Option Nat} {l : List ROp} {i : Nat} {x : T} : opKD C call p mk d l i fr acc (some (x, h, L)) = evSeqD C call p mk l i (put fr d x) h L acc := rfl
theorem sqD_nil {i : Nat} : evSeqD C call p mk [] i fr h L acc = some ((fr, h, L), acc) := rfl
theorem sqD_op {d : Option Nat} {r : R} {l : List ROp} {i : Nat} : evSeqD C call p mk (⟨d, none, r⟩ :: l) i fr h L acc = opKD C call p mk d l (i + 1) fr (cond (mk i) ((i, fpn C fr h r) :: acc) acc) (evR C call fr (p ++ [i]) h L r) := by
  simp only [evSeqD, gd, opKD]
  cases mk i <;> rfl
def regDK (C : Cfg) (p : Name) (prs : List (Nat × Nat)) (ops : List ROp) (r : Option ((Fr × Heap × List Name) × List (Nat × List Name))) : Option (Fr × Heap × List Name) := r.bind fun r => if prs.all (dynB C p ops r.2) then some r.1 else none
theorem regDK_some {prs : List (Nat × Nat)} {ops : List ROp} {s : Fr × Heap × List Name} : regDK C p prs ops (some (s, acc)) = cond (prs.all (dynB C p ops acc)) (some s) none := by
  simp only [regDK, Option.bind_some]; cases prs.all (dynB C p ops acc) <;> rfl
theorem evRegD {x : Nat × Nat} {prs : List (Nat × Nat)} {ops : List ROp} : evReg C call p (x :: prs) ops fr h L = regDK C p (x :: prs) ops (evSeqD C call p (fun i => (x :: prs).any fun y => y.1 == i || y.2 == i) ops 0 fr h L []) := rfl
theorem opKD_cond {d : Option Nat} {l : List ROp} {i : Nat} {x : Bool} {A B : Res} : opKD C call p mk d l i fr acc (cond x A B) = cond x (opKD C call p mk d l i fr acc A) (opKD C call p mk d l i fr acc B) := by cases x <;> rfl
theorem any0 {α : Type} (f : α → Bool) : ([] : List α).any f = false := rfl
theorem anyS {α : Type} (f : α → Bool) (a : α) (l : List α) : (a :: l).any f = (f a || l.any f) := rfl
theorem or_tt (b : Bool) : (b || true) = true := by simp
theorem or_ff (b : Bool) : (b || false) = b := by simp
end
end Go.AE

namespace Go.AE
theorem ble01 : Nat.ble 0 1 = true := rfl
theorem ble11 : Nat.ble 1 1 = true := rfl
theorem ble21 : Nat.ble 2 1 = false := rfl
theorem ble31 : Nat.ble 3 1 = false := rfl
theorem find0 {α : Type} (f : α → Bool) : ([] : List α).find? f = none := rfl
theorem findSS {α : Type} (f : α → Bool) (a : α) (l : List α) : (a :: l).find? f = cond (f a) (some a) (l.find? f) := by
  simp only [List.find?_cons]; cases f a <;> rfl
end Go.AE
namespace Go.AE
theorem rep0 {α : Type} (a : α) : List.replicate 0 a = [] := rfl
theorem repS {α : Type} (n : Nat) (a : α) : List.replicate (n + 1) a = a :: List.replicate n a := rfl
end Go.AE

/-! AE36: short names for the equations. -/
namespace Go.AE
theorem z0 : type_of% @evR.eq_1 := @evR.eq_1
theorem z1 : type_of% @evR.eq_2 := @evR.eq_2
theorem z2 : type_of% @evR.eq_3 := @evR.eq_3
theorem z3 : type_of% @evR.eq_4 := @evR.eq_4
theorem z4 : type_of% @evR.eq_5 := @evR.eq_5
theorem z5 : type_of% @evR.eq_6 := @evR.eq_6
theorem z6 : type_of% @evR.eq_7 := @evR.eq_7
theorem z7 : type_of% @evR.eq_8 := @evR.eq_8
theorem z8 : type_of% @evR.eq_9 := @evR.eq_9
theorem z9 : type_of% @evR.eq_10 := @evR.eq_10
theorem z10 : type_of% @evR.eq_11 := @evR.eq_11
theorem z11 : type_of% @evR.eq_12 := @evR.eq_12
theorem z12 : type_of% @evR.eq_13 := @evR.eq_13
theorem z13 : type_of% @evR.eq_14 := @evR.eq_14
theorem z14 : type_of% @evR.eq_15 := @evR.eq_15
theorem z15 : type_of% @evR.eq_16 := @evR.eq_16
theorem z16 : type_of% @evR.eq_17 := @evR.eq_17
theorem z17 : type_of% @evR.eq_18 := @evR.eq_18
theorem z18 : type_of% @evR.eq_19 := @evR.eq_19
theorem z19 : type_of% @evR.eq_20 := @evR.eq_20
theorem z20 : type_of% @evR.eq_21 := @evR.eq_21
theorem z21 : type_of% @evR.eq_22 := @evR.eq_22
theorem z22 : type_of% @evR.eq_23 := @evR.eq_23
theorem z23 : type_of% @evR.eq_24 := @evR.eq_24
theorem z24 : type_of% @evR.eq_25 := @evR.eq_25
theorem z25 : type_of% @evR.eq_26 := @evR.eq_26
theorem z26 : type_of% @evR.eq_27 := @evR.eq_27
theorem z27 : type_of% @evR.eq_28 := @evR.eq_28
theorem z28 : type_of% @evR.eq_29 := @evR.eq_29
theorem z29 : type_of% @evR.eq_30 := @evR.eq_30
theorem z30 : type_of% @evR.eq_31 := @evR.eq_31
theorem z31 : type_of% @evR.eq_32 := @evR.eq_32
theorem z32 : type_of% @evR.eq_33 := @evR.eq_33
theorem z33 : type_of% @evR.eq_34 := @evR.eq_34
theorem z34 : type_of% @evR.eq_35 := @evR.eq_35
theorem z35 : type_of% @evR.eq_36 := @evR.eq_36
theorem z36 : type_of% @evR.eq_37 := @evR.eq_37
theorem z37 : type_of% @evR.eq_38 := @evR.eq_38
theorem z38 : type_of% @evR.eq_39 := @evR.eq_39
theorem z39 : type_of% @evR.eq_40 := @evR.eq_40
theorem z40 : type_of% @evR.eq_41 := @evR.eq_41
theorem z41 : type_of% @evR.eq_42 := @evR.eq_42
theorem z42 : type_of% @evR.eq_43 := @evR.eq_43
theorem z43 : type_of% @evR.eq_44 := @evR.eq_44
theorem z44 : type_of% @evR.eq_45 := @evR.eq_45
theorem z45 : type_of% @evR.eq_46 := @evR.eq_46
theorem z46 : type_of% @evR.eq_47 := @evR.eq_47
theorem z47 : type_of% @eO.eq_1 := @eO.eq_1
theorem z48 : type_of% @eO.eq_2 := @eO.eq_2
theorem z49 : type_of% @eOs.eq_1 := @eOs.eq_1
theorem z50 : type_of% @eOs.eq_2 := @eOs.eq_2
theorem z51 : type_of% @eOo.eq_1 := @eOo.eq_1
theorem z52 : type_of% @eOo.eq_2 := @eOo.eq_2
theorem z53 : type_of% @ePs.eq_1 := @ePs.eq_1
theorem z54 : type_of% @ePs.eq_2 := @ePs.eq_2
theorem z55 : type_of% @eQs.eq_1 := @eQs.eq_1
theorem z56 : type_of% @eQs.eq_2 := @eQs.eq_2
theorem z57 : type_of% @fget.eq_1 := @fget.eq_1
theorem z58 : type_of% @fget.eq_2 := @fget.eq_2
theorem z59 : type_of% @fset.eq_1 := @fset.eq_1
theorem z60 : type_of% @fset.eq_2 := @fset.eq_2
theorem z61 : type_of% @put.eq_1 := @put.eq_1
theorem z62 : type_of% @put.eq_2 := @put.eq_2
theorem z63 : type_of% @gd.eq_1 := @gd.eq_1
theorem z64 : type_of% @gd.eq_2 := @gd.eq_2
theorem z65 : type_of% @hget.eq_1 := @hget.eq_1
theorem z66 : type_of% @hget.eq_2 := @hget.eq_2
theorem z67 : type_of% @lget.eq_1 := @lget.eq_1
theorem z68 : type_of% @lget.eq_2 := @lget.eq_2
theorem z69 : type_of% @hnew.eq_1 := @hnew.eq_1
theorem z70 : type_of% @hnew.eq_2 := @hnew.eq_2
theorem z71 : type_of% @hset.eq_1 := @hset.eq_1
theorem z72 : type_of% @hset.eq_2 := @hset.eq_2
theorem z73 : type_of% @lset.eq_1 := @lset.eq_1
theorem z74 : type_of% @lset.eq_2 := @lset.eq_2
theorem z75 : type_of% @tpart.eq_1 := @tpart.eq_1
theorem z76 : type_of% @tpart.eq_2 := @tpart.eq_2
theorem z77 : type_of% @argF.eq_1 := @argF.eq_1
theorem z78 : type_of% @argF.eq_2 := @argF.eq_2
theorem z79 : type_of% @eFill.eq_1 := @eFill.eq_1
theorem z80 : type_of% @eFill.eq_2 := @eFill.eq_2
theorem z81 : type_of% @eSets.eq_1 := @eSets.eq_1
theorem z82 : type_of% @eSets.eq_2 := @eSets.eq_2
theorem z83 : type_of% @putAt.eq_1 := @putAt.eq_1
theorem z84 : type_of% @putAt.eq_2 := @putAt.eq_2
theorem z85 : type_of% @keepF.eq_1 := @keepF.eq_1
theorem z86 : type_of% @keepF.eq_2 := @keepF.eq_2
theorem z87 : type_of% @eRV.eq_1 := @eRV.eq_1
theorem z88 : type_of% @eRV.eq_2 := @eRV.eq_2
theorem z89 : type_of% @eRVs.eq_1 := @eRVs.eq_1
theorem z90 : type_of% @eRVs.eq_2 := @eRVs.eq_2
theorem z91 : type_of% @pushL.eq_1 := @pushL.eq_1
theorem z92 : type_of% @pushL.eq_2 := @pushL.eq_2
theorem z93 : type_of% @pushK.eq_1 := @pushK.eq_1
theorem z94 : type_of% @pushK.eq_2 := @pushK.eq_2
theorem z95 : type_of% @eLoad.eq_def := @eLoad.eq_def
theorem z96 : type_of% @eStore.eq_def := @eStore.eq_def
theorem z97 : type_of% @eFieldAddr.eq_def := @eFieldAddr.eq_def
theorem z98 : type_of% @eField.eq_def := @eField.eq_def
theorem z99 : type_of% @tbin.eq_def := @tbin.eq_def
theorem z100 : type_of% @tun.eq_def := @tun.eq_def
theorem z101 : type_of% @T.cells.eq_def := @T.cells.eq_def
theorem z102 : type_of% @isTup.eq_def := @isTup.eq_def
theorem z103 : type_of% @eIdxA.eq_def := @eIdxA.eq_def
theorem z104 : type_of% @eIdxS.eq_def := @eIdxS.eq_def
theorem z105 : type_of% @eIdxV.eq_def := @eIdxV.eq_def
theorem z106 : type_of% @eIdxStr.eq_def := @eIdxStr.eq_def
theorem z107 : type_of% @kl.eq_def := @kl.eq_def
theorem z108 : type_of% @eApp.eq_def := @eApp.eq_def
theorem z109 : type_of% @eSlStr.eq_def := @eSlStr.eq_def
theorem z110 : type_of% @eLen.eq_def := @eLen.eq_def
theorem z111 : type_of% @eStr.eq_def := @eStr.eq_def
theorem z112 : type_of% @eMake.eq_def := @eMake.eq_def
theorem z113 : type_of% @eCopy.eq_def := @eCopy.eq_def
theorem z114 : type_of% @dynB.eq_def := @dynB.eq_def
theorem z115 : type_of% @wrR.eq_def := @wrR.eq_def
theorem z116 : type_of% @hcl.eq_def := @hcl.eq_def
theorem z117 : type_of% @lmB.eq_def := @lmB.eq_def
theorem z118 : type_of% @fpn.eq_def := @fpn.eq_def
theorem z119 : type_of% @nM.eq_def := @nM.eq_def
theorem z120 : type_of% @nP.eq_def := @nP.eq_def
theorem z121 : type_of% @nS.eq_def := @nS.eq_def
theorem z122 : type_of% @nlook.eq_def := @nlook.eq_def
theorem z123 : type_of% @eLook.eq_def := @eLook.eq_def
theorem z124 : type_of% @mapOf.eq_def := @mapOf.eq_def
theorem z125 : type_of% @eMapSet.eq_def := @eMapSet.eq_def
theorem z126 : type_of% @eMapEntry.eq_def := @eMapEntry.eq_def
theorem z127 : type_of% @eEntrySet.eq_def := @eEntrySet.eq_def
theorem z128 : type_of% @tnilK.eq_def := @tnilK.eq_def
theorem z129 : type_of% @tnil.eq_def := @tnil.eq_def
theorem z130 : type_of% @nb.eq_def := @nb.eq_def
theorem z131 : type_of% @teqI.eq_def := @teqI.eq_def
theorem z132 : type_of% @teqP.eq_def := @teqP.eq_def
theorem z133 : type_of% @ceqT.eq_def := @ceqT.eq_def
theorem z134 : type_of% @tsrc.eq_def := @tsrc.eq_def
theorem z135 : type_of% @tupOf.eq_def := @tupOf.eq_def
theorem z136 : type_of% @seal1.eq_def := @seal1.eq_def
theorem z137 : type_of% @seal0.eq_def := @seal0.eq_def
theorem z138 : type_of% @sealT.eq_def := @sealT.eq_def
theorem z139 : type_of% @sealC.eq_def := @sealC.eq_def
theorem z140 : type_of% @topOf.eq_def := @topOf.eq_def
theorem z141 : type_of% @dropK.eq_def := @dropK.eq_def
theorem z142 : type_of% @ptrR0.eq_def := @ptrR0.eq_def
theorem z143 : type_of% @ptrR1.eq_def := @ptrR1.eq_def
theorem z144 : type_of% @ptrR2.eq_def := @ptrR2.eq_def
theorem z145 : type_of% @ptrRB.eq_def := @ptrRB.eq_def
theorem z146 : type_of% @toks.eq_def := @toks.eq_def
theorem z147 : type_of% @toksU.eq_def := @toksU.eq_def
theorem z148 : type_of% @Tag.bare.eq_def := @Tag.bare.eq_def
theorem z149 : type_of% @tI.eq_def := @tI.eq_def
theorem z150 : type_of% @tS.eq_def := @tS.eq_def
theorem z151 : type_of% @tB.eq_def := @tB.eq_def
theorem z152 : type_of% @ptr0.eq_def := @ptr0.eq_def
theorem z153 : type_of% @ptr1.eq_def := @ptr1.eq_def
theorem z154 : type_of% @ptr2.eq_def := @ptr2.eq_def
theorem z155 : type_of% @ptrB.eq_def := @ptrB.eq_def
theorem z156 : type_of% @merge.eq_def := @merge.eq_def
theorem z157 : type_of% @reach.eq_def := @reach.eq_def
theorem z158 : type_of% @s1_own := @s1_own
theorem z159 : type_of% @s1_no := @s1_no
theorem z160 : type_of% @s1_nil := @s1_nil
theorem z161 : type_of% @s1_kept := @s1_kept
theorem z162 : type_of% @s1_v := @s1_v
theorem z163 : type_of% @s1_gl := @s1_gl
theorem z164 : type_of% @s1_ptr := @s1_ptr
theorem z165 : type_of% @s1_ro := @s1_ro
theorem z166 : type_of% @s1_msl := @s1_msl
theorem z167 : type_of% @s1_map := @s1_map
theorem z168 : type_of% @s1_fn := @s1_fn
theorem z169 : type_of% @s1_ifc := @s1_ifc
theorem z170 : type_of% @s1_agg := @s1_agg
theorem z171 : type_of% @s1_tup := @s1_tup
theorem z172 : type_of% @s0_sl := @s0_sl
theorem z173 : type_of% @s0_v := @s0_v
theorem z174 : type_of% @s0_gl := @s0_gl
theorem z175 : type_of% @s0_ptr := @s0_ptr
theorem z176 : type_of% @s0_ro := @s0_ro
theorem z177 : type_of% @s0_msl := @s0_msl
theorem z178 : type_of% @s0_map := @s0_map
theorem z179 : type_of% @s0_fn := @s0_fn
theorem z180 : type_of% @s0_ifc := @s0_ifc
theorem z181 : type_of% @s0_agg := @s0_agg
theorem z182 : type_of% @s0_tup := @s0_tup
theorem z183 : type_of% @ev_regD := @ev_regD
theorem z184 : type_of% @evRegD := @evRegD
theorem z185 : type_of% @sqD_nil := @sqD_nil
theorem z186 : type_of% @sqD_op := @sqD_op
theorem z187 : type_of% @opKD_some := @opKD_some
theorem z188 : type_of% @opKD_cond := @opKD_cond
theorem z189 : type_of% @regDK_some := @regDK_some
theorem z190 : type_of% @any0 := @any0
theorem z191 : type_of% @anyS := @anyS
theorem z192 : type_of% @or_tt := @or_tt
theorem z193 : type_of% @or_ff := @or_ff
theorem z194 : type_of% @ble01 := @ble01
theorem z195 : type_of% @ble11 := @ble11
theorem z196 : type_of% @ble21 := @ble21
theorem z197 : type_of% @ble31 := @ble31
theorem z198 : type_of% @find0 := @find0
theorem z199 : type_of% @findSS := @findSS
theorem z200 : type_of% @rep0 := @rep0
theorem z201 : type_of% @repS := @repS
theorem z202 : type_of% @tmm_t := @tmm_t
theorem z203 : type_of% @tmm_f := @tmm_f
theorem z204 : type_of% @tmms_nil := @tmms_nil
theorem z205 : type_of% @tmms_cons := @tmms_cons
theorem z206 : type_of% @mslD_t := @mslD_t
theorem z207 : type_of% @mslD_f := @mslD_f
theorem z208 : type_of% @itn0 := @itn0
theorem z209 : type_of% @itn1 := @itn1
theorem z210 : type_of% @itn2 := @itn2
theorem z211 : type_of% @itn3 := @itn3
theorem z212 : type_of% @itn4 := @itn4
theorem z213 : type_of% @itn5 := @itn5
theorem z214 : type_of% @itn6 := @itn6
theorem z215 : type_of% @itn7 := @itn7
theorem z216 : type_of% @itn8 := @itn8
theorem z217 : type_of% @itn9 := @itn9
theorem z218 : type_of% @itn10 := @itn10
theorem z219 : type_of% @itn11 := @itn11
theorem z220 : type_of% @itn12 := @itn12
theorem z221 : type_of% @itn13 := @itn13
theorem z222 : type_of% @itn14 := @itn14
theorem z223 : type_of% @itn15 := @itn15
theorem z224 : type_of% @itn16 := @itn16
theorem z225 : type_of% @itn17 := @itn17
theorem z226 : type_of% @itn18 := @itn18
theorem z227 : type_of% @itn19 := @itn19
theorem z228 : type_of% @itn20 := @itn20
theorem z229 : type_of% @itn21 := @itn21
theorem z230 : type_of% @itn22 := @itn22
theorem z231 : type_of% @itn23 := @itn23
theorem z232 : type_of% @itn24 := @itn24
theorem z233 : type_of% @itn25 := @itn25
theorem z234 : type_of% @itn26 := @itn26
theorem z235 : type_of% @itn27 := @itn27
theorem z236 : type_of% @itn28 := @itn28
theorem z237 : type_of% @itn29 := @itn29
theorem z238 : type_of% @itn30 := @itn30
theorem z239 : type_of% @itn31 := @itn31
theorem z240 : type_of% @itn32 := @itn32
theorem z241 : type_of% @itn64 := @itn64
theorem z242 : type_of% @itn128 := @itn128
theorem z243 : type_of% @itn256 := @itn256
theorem z244 : type_of% @cast1 := @cast1
theorem z245 : type_of% @cast2 := @cast2
theorem z246 : type_of% @cast3 := @cast3
theorem z247 : type_of% @cast4 := @cast4
theorem z248 : type_of% @cast5 := @cast5
theorem z249 : type_of% @cast6 := @cast6
theorem z250 : type_of% @cast7 := @cast7
theorem z251 : type_of% @cast8 := @cast8
theorem z252 : type_of% @cast9 := @cast9
theorem z253 : type_of% @cast10 := @cast10
theorem z254 : type_of% @cast11 := @cast11
theorem z255 : type_of% @cast12 := @cast12
theorem z256 : type_of% @cast13 := @cast13
theorem z257 : type_of% @cast14 := @cast14
theorem z258 : type_of% @cast15 := @cast15
theorem z259 : type_of% @cast16 := @cast16
theorem z260 : type_of% @cast17 := @cast17
theorem z261 : type_of% @cast18 := @cast18
theorem z262 : type_of% @cast19 := @cast19
theorem z263 : type_of% @cast20 := @cast20
theorem z264 : type_of% @cast21 := @cast21
theorem z265 : type_of% @cast22 := @cast22
theorem z266 : type_of% @cast23 := @cast23
theorem z267 : type_of% @cast24 := @cast24
theorem z268 : type_of% @cast25 := @cast25
theorem z269 : type_of% @cast26 := @cast26
theorem z270 : type_of% @cast27 := @cast27
theorem z271 : type_of% @cast28 := @cast28
theorem z272 : type_of% @cast29 := @cast29
theorem z273 : type_of% @cast30 := @cast30
theorem z274 : type_of% @cast31 := @cast31
theorem z275 : type_of% @cast32 := @cast32
theorem z276 : type_of% @cast64 := @cast64
theorem z277 : type_of% @cast128 := @cast128
theorem z278 : type_of% @cast256 := @cast256
theorem z279 : type_of% @tb_nn := @tb_nn
theorem z280 : type_of% @tb_ln := @tb_ln
theorem z281 : type_of% @tb_nh := @tb_nh
theorem z282 : type_of% @tb_lh := @tb_lh
theorem z283 : type_of% @tb_lhm := @tb_lhm
theorem z284 : type_of% @tb_nhm := @tb_nhm
theorem z285 : type_of% @eSlX_sl := @eSlX_sl
theorem z286 : type_of% @eSlX_msl := @eSlX_msl
theorem z287 : type_of% @eSlA_ptr := @eSlA_ptr
theorem z288 : type_of% @eSlA_ro := @eSlA_ro
theorem z289 : type_of% @keepN0 := @keepN0
theorem z290 : type_of% @keepNS := @keepNS
theorem z291 : type_of% @keepC_some := @keepC_some
theorem z292 : type_of% @keepC_none := @keepC_none
theorem z293 : type_of% @reachN0 := @reachN0
theorem z294 : type_of% @reachNS := @reachNS
theorem z295 : type_of% @reachC_some := @reachC_some
theorem z296 : type_of% @finF_eq := @finF_eq
theorem z297 : type_of% @mergeH0 := @mergeH0
theorem z298 : type_of% @mergeHS := @mergeHS
theorem z299 : type_of% @mergeC_none := @mergeC_none
theorem z300 : type_of% @mergeC_some := @mergeC_some
theorem z301 : type_of% @subH_eq := @subH_eq
theorem z302 : type_of% @subN0 := @subN0
theorem z303 : type_of% @subNS := @subNS
theorem z304 : type_of% @subC_some := @subC_some
theorem z305 : type_of% @subC_none := @subC_none
theorem z306 : type_of% @flatten0 := @flatten0
theorem z307 : type_of% @flattenS := @flattenS
theorem z308 : type_of% @ev_loop := @ev_loop
theorem z309 : type_of% @ev_seq := @ev_seq
theorem z310 : type_of% @ev_reg := @ev_reg
theorem z311 : type_of% @ev_condT := @ev_condT
theorem z312 : type_of% @ev_condC := @ev_condC
theorem z313 : type_of% @ev_block := @ev_block
theorem z314 : type_of% @seqK_norm := @seqK_norm
theorem z315 : type_of% @seqK_ret := @seqK_ret
theorem z316 : type_of% @seqK_exit := @seqK_exit
theorem z317 : type_of% @blkK_norm := @blkK_norm
theorem z318 : type_of% @blkK_ret := @blkK_ret
theorem z319 : type_of% @blkK_exit := @blkK_exit
theorem z320 : type_of% @regK_some := @regK_some
theorem z321 : type_of% @opK_some := @opK_some
theorem z322 : type_of% @condK_true := @condK_true
theorem z323 : type_of% @condK_false := @condK_false
theorem z324 : type_of% @loopK_norm := @loopK_norm
theorem z325 : type_of% @loopK_ret := @loopK_ret
theorem z326 : type_of% @loopK_exit := @loopK_exit
theorem z327 : type_of% @lendK_some := @lendK_some
theorem z328 : type_of% @sq_nil := @sq_nil
theorem z329 : type_of% @sq_op := @sq_op
theorem z330 : type_of% @sq_gdt := @sq_gdt
theorem z331 : type_of% @sq_gdf := @sq_gdf
theorem z332 : type_of% @gdS_bool := @gdS_bool
theorem z333 : type_of% @gdS_tup := @gdS_tup
theorem z334 : type_of% @gdT_bool := @gdT_bool
theorem z335 : type_of% @gdT_tup := @gdT_tup
theorem z336 : type_of% @cdT_bool := @cdT_bool
theorem z337 : type_of% @fnK_ret := @fnK_ret
theorem z338 : type_of% @fnK_norm := @fnK_norm
theorem z339 : type_of% @finK_some := @finK_some
theorem z340 : type_of% @freeK_some := @freeK_some
theorem z341 : type_of% @heapK_some := @heapK_some
theorem z342 : type_of% @heapR_some := @heapR_some
theorem z343 : type_of% @heapM_some := @heapM_some
theorem z344 : type_of% @oraK_some := @oraK_some
theorem z345 : type_of% @regK_cond := @regK_cond
theorem z346 : type_of% @seqK_cond := @seqK_cond
theorem z347 : type_of% @blkK_cond := @blkK_cond
theorem z348 : type_of% @loopK_cond := @loopK_cond
theorem z349 : type_of% @lendK_cond := @lendK_cond
theorem z350 : type_of% @fnK_cond := @fnK_cond
theorem z351 : type_of% @opK_cond := @opK_cond
theorem z352 : type_of% @bind_cond := @bind_cond
theorem z353 : type_of% @map_cond := @map_cond
theorem z354 : type_of% @some_cond := @some_cond
theorem z355 : type_of% @tix_int := @tix_int
theorem z356 : type_of% @tle_int := @tle_int
theorem z357 : type_of% @eqC_some := @eqC_some
theorem z358 : type_of% @and_tt := @and_tt
theorem z359 : type_of% @and_ff := @and_ff
theorem z360 : type_of% @cont0 := @cont0
theorem z361 : type_of% @elem0 := @elem0
theorem z362 : type_of% @eqLT_nil := @eqLT_nil
theorem z363 : type_of% @eqLT_cons := @eqLT_cons
theorem z364 : type_of% @implT := @implT
theorem z365 : type_of% @implF := @implF
theorem z366 : type_of% @none_some' := @none_some'
theorem z367 : type_of% @evL_skip := @evL_skip
theorem z368 : type_of% @evL_exit := @evL_exit
theorem z369 : type_of% @evL_ret := @evL_ret
theorem z370 : type_of% @nm_app := @nm_app
theorem z371 : type_of% @nm_eq := @nm_eq
theorem z372 : type_of% @nm_eq0 := @nm_eq0
theorem z373 : type_of% @nm_eq1 := @nm_eq1
theorem z374 : type_of% @nm_ceq := @nm_ceq
theorem z375 : type_of% @nm_cn := @nm_cn
theorem z376 : type_of% @nm_nc := @nm_nc
theorem z377 : type_of% @nm_capp := @nm_capp
theorem z378 : type_of% @nm_napp := @nm_napp
theorem z379 : type_of% @nm_pre := @nm_pre
theorem z380 : type_of% @nm_pre0 := @nm_pre0
theorem z381 : type_of% @nm_pre1 := @nm_pre1
theorem z382 : type_of% @nm_pre2 := @nm_pre2
theorem z383 : type_of% @bind_some' := @bind_some'
theorem z384 : type_of% @map_some' := @map_some'
theorem z385 : type_of% @bind_none' := @bind_none'
theorem z386 : type_of% @map_none' := @map_none'
theorem z387 : type_of% @or_some' := @or_some'
theorem z388 : type_of% @or_none' := @or_none'
theorem z389 : type_of% @isSome_some' := @isSome_some'
theorem z390 : type_of% @isSome_none' := @isSome_none'
theorem z391 : type_of% @isNone_some' := @isNone_some'
theorem z392 : type_of% @isNone_none' := @isNone_none'
theorem z393 : type_of% @beq_true' := @beq_true'
theorem z394 : type_of% @beq_false' := @beq_false'
theorem z395 : type_of% @get0 := @get0
theorem z396 : type_of% @getS := @getS
theorem z397 : type_of% @pick_tt := @pick_tt
theorem z398 : type_of% @tt_eq := @tt_eq
theorem z399 : type_of% @ff_eq := @ff_eq
theorem z400 : type_of% @ff_eqf := @ff_eqf
theorem z401 : type_of% @tt_eqf := @tt_eqf
theorem z402 : type_of% @not_t := @not_t
theorem z403 : type_of% @not_f := @not_f
theorem z404 : type_of% @fil_nil := @fil_nil
theorem z405 : type_of% @fil_cons := @fil_cons
theorem z406 : type_of% @mem_nil' := @mem_nil'
theorem z407 : type_of% @mem_cons' := @mem_cons'
theorem z408 : type_of% @fm_nil := @fm_nil
theorem z409 : type_of% @fm_cons := @fm_cons
theorem z410 : type_of% @len0 := @len0
theorem z411 : type_of% @lenS := @lenS
theorem z412 : type_of% @app0 := @app0
theorem z413 : type_of% @appS := @appS
theorem z414 : type_of% @mapS := @mapS
theorem z415 : type_of% @map0 := @map0
theorem z416 : type_of% @dropS := @dropS
theorem z417 : type_of% @drop0' := @drop0'
theorem z418 : type_of% @takeS := @takeS
theorem z419 : type_of% @take0' := @take0'
theorem z420 : type_of% @setS := @setS
theorem z421 : type_of% @set0 := @set0
theorem z422 : type_of% @all0 := @all0
theorem z423 : type_of% @allS := @allS
theorem z424 : type_of% @and_t := @and_t
theorem z425 : type_of% @and_f := @and_f
theorem z426 : type_of% @or_t := @or_t
theorem z427 : type_of% @or_f := @or_f
theorem z428 : type_of% @andT := @andT
theorem z429 : type_of% @andF := @andF
theorem z430 : type_of% @andT' := @andT'
theorem z431 : type_of% @orT := @orT
theorem z432 : type_of% @orF := @orF
theorem z433 : type_of% @notT := @notT
theorem z434 : type_of% @notF := @notF
theorem z435 : type_of% @ite_T := @ite_T
theorem z436 : type_of% @ite_F := @ite_F
theorem z437 : type_of% @isB_int := @isB_int
theorem z438 : type_of% @isB_str := @isB_str
theorem z439 : type_of% @isB_bool := @isB_bool
theorem z440 : type_of% @eq_self' := @eq_self'
theorem z441 : type_of% @fst' := @fst'
theorem z442 : type_of% @snd' := @snd'
theorem z443 : type_of% @isEmpty0 := @isEmpty0
theorem z444 : type_of% @isEmptyS := @isEmptyS
theorem z445 : type_of% @decT := @decT
theorem z446 : type_of% @decF := @decF
theorem z447 : type_of% @sub0' := @sub0'
theorem z448 : type_of% @bdata := @bdata
theorem z449 : type_of% @atol := @atol
theorem z450 : type_of% @bsize := @bsize
theorem z451 : type_of% @btoList := @btoList
theorem z452 : type_of% @bext := @bext
theorem z453 : type_of% @beqn := @beqn
theorem z454 : type_of% @bappn := @bappn
theorem z455 : type_of% @u8_ix256 := @u8_ix256
theorem z456 : type_of% @u8_ix256' := @u8_ix256'
theorem z457 : type_of% @encB_u8 := @encB_u8
theorem z458 : type_of% @toNat_cast := @toNat_cast
theorem z459 : type_of% @len_map' := @len_map'
theorem z460 : type_of% @get_map' := @get_map'
theorem z461 : type_of% @cast0 := @cast0
theorem z462 : type_of% @mul1' := @mul1'
theorem z463 : type_of% @add0' := @add0'
theorem z464 : type_of% @addz' := @addz'
end Go.AE
