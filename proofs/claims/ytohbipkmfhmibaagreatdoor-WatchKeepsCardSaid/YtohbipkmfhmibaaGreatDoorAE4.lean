import Derived.Test.YtohbipkmfhmibaaGreatDoorAE3
import Derived.Laws.StructEq
import Derived.LaidEql
import Derived.LaidEqlPtr
import Derived.Deep.MidRow
import Derived.Deep.AppendSrc
import Derived.Laws.Tables
import Derived.Laws.MakeOwn
import Derived.Laws.CopyRow
/-! AE4: operations on plain values. -/
set_option linter.unusedVariables false
set_option linter.unusedSimpArgs false
namespace Go.AE
open Go.RowKit Go.LB

abbrev tI (n : Int) : T := .v (.int .i64 n)
abbrev tB (b : Bool) : T := .v (.bool b)
abbrev tS (s : ByteArray) : T := .v (.string s)

/-- A constant cell. -/
def ofC : Value → Option T
  | .slice none 0 0 => some (.sl [] .nil)
  | .func fn fs cs => if fs.size = 0 ∧ cs.size = 0 then some (.fn fn [] []) else none
  | x => if atomB x then some (.v x) else none
def ofV : Value → Option T
  | .agg cs => (cs.toList.mapM ofC).map .agg
  | x => ofC x

theorem atom_one {u : Value} (h : atomB u = true) : u.oneCell' = true := by cases u <;> simp_all [atomB, Value.oneCell']
theorem ofC_rel {E : Env} {w : World} {u : Value} {x : T} (h : ofC u = some x) : Rel E w x u ∧ u.oneCell' = true ∧ (∀ l, x ≠ .tup l) ∧ (∀ l, x ≠ .agg l) := by
  unfold ofC at h
  split at h
  · cases h; exact ⟨.slnil, rfl, by simp, by simp⟩
  · rename_i fn fs cs
    split at h
    · rename_i hz
      cases h
      refine ⟨.fn (by simpa using hz.1) (by simpa using hz.2) (by simp) (by simp), rfl, by simp, by simp⟩
    · cases h
  · split at h
    · rename_i ha
      cases h; exact ⟨.v ha, atom_one ha, by simp, by simp⟩
    · cases h
theorem mapM_get {α β : Type} {f : α → Option β} : ∀ {l : List α} {r : List β}, l.mapM f = some r → r.length = l.length ∧ ∀ (i : Nat) a, l[i]? = some a → ∃ b, f a = some b ∧ r[i]? = some b
  | [], r, h => by cases h; simp
  | a :: l, r, h => by
    rw [List.mapM_cons] at h
    cases hf : f a with
    | none => simp [hf] at h
    | some b =>
      cases hr : l.mapM f with
      | none => simp [hf, hr] at h
      | some r' =>
        simp [hf, hr] at h
        subst h
        obtain ⟨h1, h2⟩ := mapM_get hr
        refine ⟨by simp [h1], fun i c hi => ?_⟩
        cases i with
        | zero => cases hi; exact ⟨b, hf, rfl⟩
        | succ i => exact h2 i c hi
theorem ofV_rel {E : Env} {w : World} {u : Value} {x : T} (h : ofV u = some x) : Rel E w x u ∧ (∀ l, x ≠ .tup l) := by
  unfold ofV at h
  split at h
  · rename_i cs
    obtain ⟨l, h1, rfl⟩ := Option.map_eq_some_iff.1 h
    obtain ⟨h2, h3⟩ := mapM_get h1
    refine ⟨.agg (by simp [h2]) (fun v hv => ?_) (fun i y v hy hv => ?_), by simp⟩
    · obtain ⟨i, hi, e⟩ := List.mem_iff_getElem.1 hv
      obtain ⟨b, hb, _⟩ := h3 i v (by rw [← e]; exact List.getElem?_eq_getElem hi)
      exact (ofC_rel (E := E) (w := w) hb).2.1
    · obtain ⟨b, hb, hb2⟩ := h3 i v (by simpa using hv)
      rw [hy] at hb2; cases hb2
      exact (ofC_rel hb).1
  · exact ⟨(ofC_rel h).1, (ofC_rel (E := E) (w := w) h).2.2.1⟩

/-! ### Numbers, texts, bools -/
def tbin (op : BinOp) : T → T → Option T
  | .v (.int k a), .v (.int k' b) =>
    match op with
    | .shl => if b < 0 then none else some (.v (.int k (k.wrap (a * 2 ^ (min b.toNat k.bits)))))
    | .shr => if b < 0 then none else some (.v (.int k (a.fdiv (2 ^ (min b.toNat k.bits)))))
    | .add => if k = k' then some (.v (.int k (k.wrap (a + b)))) else none
    | .sub => if k = k' then some (.v (.int k (k.wrap (a - b)))) else none
    | .mul => if k = k' then some (.v (.int k (k.wrap (a * b)))) else none
    | .quo => if k = k' ∧ b ≠ 0 then some (.v (.int k (k.wrap (a.tdiv b)))) else none
    | .rem => if k = k' ∧ b ≠ 0 then some (.v (.int k (a.tmod b))) else none
    | .and => if k = k' then some (.v (.int k (k.wrap (BitVec.ofInt k.bits a &&& BitVec.ofInt k.bits b).toNat))) else none
    | .or => if k = k' then some (.v (.int k (k.wrap (BitVec.ofInt k.bits a ||| BitVec.ofInt k.bits b).toNat))) else none
    | .xor => if k = k' then some (.v (.int k (k.wrap (BitVec.ofInt k.bits a ^^^ BitVec.ofInt k.bits b).toNat))) else none
    | .andNot => if k = k' then some (.v (.int k (k.wrap (BitVec.ofInt k.bits a &&& ~~~BitVec.ofInt k.bits b).toNat))) else none
    | .eql => if k = k' then some (tB (decide (a = b))) else none
    | .neq => if k = k' then some (tB (!decide (a = b))) else none
    | .lss => if k = k' then some (tB (decide (a < b))) else none
    | .leq => if k = k' then some (tB (decide (a ≤ b))) else none
    | .gtr => if k = k' then some (tB (decide (b < a))) else none
    | .geq => if k = k' then some (tB (decide (b ≤ a))) else none
  | .v (.string a), .v (.string b) =>
    match op with
    | .add => if a.size + b.size ≤ 4611686018427387904 then some (tS (a ++ b)) else none
    | .eql => some (tB (decide (a = b)))
    | .neq => some (tB (!decide (a = b)))
    | .lss => some (tB (Op.bytesLess a.toList b.toList))
    | .leq => some (tB (Op.bytesLess a.toList b.toList || decide (a = b)))
    | .gtr => some (tB (!(Op.bytesLess a.toList b.toList || decide (a = b))))
    | .geq => some (tB (!Op.bytesLess a.toList b.toList))
    | _ => none
  | .v (.bool a), .v (.bool b) =>
    match op with
    | .eql => some (tB (a == b))
    | .neq => some (tB (!(a == b)))
    | _ => none
  | _, _ => none

theorem toList_eq_iff (a b : ByteArray) : (a.toList == b.toList) = decide (a = b) := by
  rw [Bool.eq_iff_iff, beq_iff_eq, decide_eq_true_iff, ByteArray.toList_eq, ByteArray.toList_eq]
  constructor
  · intro h
    obtain ⟨x⟩ := a
    obtain ⟨y⟩ := b
    congr 1
    exact Array.ext' h
  · rintro rfl; rfl

theorem tbin_sound {P : Program} {E : Env} {w : World} {op : BinOp} {t : TypeId} {x y : Operand} {a b z : T} {u v : Value} (hb : P.underlying t = some .bool ∨ ¬ ∃ p q, u = .bool p ∧ v = .bool q)
    (h : tbin op a b = some z) (ha : Rel E w a u) (hv : Rel E w b v) :
    ∃ r, (do eqGuard op t x y u v; binOp op t u v : Sem Value).run P w = .ok r w ∧ Rel E w z r := by
  unfold tbin at h
  split at h
  · cases ha; cases hv
    rename_i k p k' q _ _
    have hg : (eqGuard op t x y (.int k p) (.int k' q)).run P w = .ok () w := by cases op <;> simp [eqGuard]
    rw [Sem.run_bind, hg, Result.andThen_ok]
    cases op <;> simp only at h
    case shl | shr =>
      split at h
      · cases h
      · cases h
        exact ⟨_, by simp [binOp, Op.shift, *], .v rfl⟩
    case quo | rem =>
      split at h
      · rename_i hk
        obtain ⟨rfl, hk⟩ := hk
        cases h
        exact ⟨_, by simp [binOp, Op.intDiv, hk], .v rfl⟩
      · cases h
    all_goals
      split at h
      · rename_i hk
        subst hk
        cases h
        refine ⟨_, by simp [binOp, Op.intArith, Op.intBits, Op.intCmp]; try rfl, .v rfl⟩
      · cases h
  · cases ha; cases hv
    rename_i p q _ _
    have hg : (eqGuard op t x y (.string p) (.string q)).run P w = .ok () w := by cases op <;> simp [eqGuard]
    rw [Sem.run_bind, hg, Result.andThen_ok]
    cases op <;> simp only at h <;> try (cases h; done)
    case add =>
      split at h
      · rename_i hk
        cases h
        refine ⟨_, ?_, .v rfl⟩
        have : ¬ (((p.size + q.size : Nat) : Int) > IntKind.i64.max) := by
          simp [IntKind.max, IntKind.signed, IntKind.bits]; omega
        simp only [binOp, Op.stringOp]
        rw [if_neg this]
        simp
      · cases h
    all_goals
      cases h
      refine ⟨_, by simp [binOp, Op.stringOp, toList_eq_iff]; try rfl, .v rfl⟩
  · cases ha; cases hv
    rename_i p q _ _
    have hb := hb.resolve_right (fun hn => hn ⟨p, q, rfl, rfl⟩)
    have hg : (eqGuard op t x y (.bool p) (.bool q)).run P w = .ok () w := by cases op <;> simp [eqGuard]
    rw [Sem.run_bind, hg, Result.andThen_ok]
    cases op <;> simp only at h <;> try (cases h; done)
    all_goals
      cases h
      refine ⟨_, ?_, .v rfl⟩
      simp only [binOp]
      simp [Op.equal, Op.maxDepth, run_equalIn_bool' w 9999 t p q hb]
  · cases h

def tun (op : UnOp) : T → Option T
  | .v (.int k n) =>
    match op with
    | .neg => some (.v (.int k (k.wrap (0 - n))))
    | .xor => some (.v (.int k (k.wrap (BitVec.ofInt k.bits (if k.signed then -1 else k.max) ^^^ BitVec.ofInt k.bits n).toNat)))
    | _ => none
  | .v (.bool b) =>
    match op with
    | .not => some (tB (!b))
    | _ => none
  | _ => none
theorem tun_sound {P : Program} {E : Env} {w : World} {op : UnOp} {a z : T} {u : Value} (h : tun op a = some z) (ha : Rel E w a u) : ∃ r, (Op.unary op u).run P w = .ok r w ∧ Rel E w z r := by
  unfold tun at h
  split at h
  · cases ha
    cases op <;> simp only at h <;> try (cases h; done)
    all_goals
      cases h
      exact ⟨_, by simp [Op.unary, Op.intArith, Op.intBits]; try rfl, .v rfl⟩
  · cases ha
    cases op <;> simp only at h <;> try (cases h; done)
    cases h
    exact ⟨_, by simp [Op.unary], .v rfl⟩
  · cases h

/-! ### Equality of structs and arrays of plain parts -/
inductive CK where
  | bool | int | str
  deriving DecidableEq, Inhabited
def ceqV : CK → Value → Value → Option Bool
  | .bool, .bool a, .bool b => some (a == b)
  | .int, .int k a, .int k' b => if k = k' then some (decide (a = b)) else none
  | .str, .string a, .string b => some (decide (a = b))
  | _, _, _ => none
def eqLV : List CK → List Value → List Value → Option Bool
  | [], [], [] => some true
  | k :: ks, x :: xs, y :: ys => (ceqV k x y).bind fun b => if b then eqLV ks xs ys else some false
  | _, _, _ => none
mutual
def ckinds (P : Program) : Nat → TypeId → Option (List CK)
  | 0, _ => none
  | d + 1, t =>
    match P.underlying t with
    | some .bool => some [.bool]
    | some (.int _) => some [.int]
    | some .string => some [.str]
    | some (.struct fs) => if P.stoodInHeld t then none else ckFields P d fs.toList 0
    | some (.array n e) => (ckinds P d e).bind fun l => if (P.info? e).map (·.size) = some l.length then some (List.replicate n l).flatten else none
    | _ => none
def ckFields (P : Program) : Nat → List Field → Nat → Option (List CK)
  | _, [], _ => some []
  | 0, _ :: _, _ => none
  | d + 1, f :: fs, off =>
    if f.name = "_" ∨ f.offset ≠ off then none else
    (ckinds P d f.type).bind fun l => if (P.info? f.type).map (·.size) = some l.length then (ckFields P d fs (off + l.length)).map (l ++ ·) else none
end

/-- The value of a type out of its cells. -/
def valOf (P : Program) (t : TypeId) (cs : List Value) : Value :=
  match P.underlying t with
  | some (.struct _) | some (.array _ _) => .agg cs.toArray
  | _ => cs.headD undef

theorem run_part_valOf {P : Program} {w : World} {t : TypeId} {d : Nat} {ks : List CK} (hk : ckinds P d t = some ks) (hs : (P.info? t).map (·.size) = some ks.length) (xs : Array Value) (off : Nat) (h : off + ks.length ≤ xs.size) :
    (part t xs off).run P w = .ok (valOf P t ((xs.toList.drop off).take ks.length)) w := by
  obtain ⟨i, hi, hz⟩ := Option.map_eq_some_iff.1 hs
  cases d with
  | zero => simp [ckinds] at hk
  | succ d =>
    have one : ks.length = 1 → xs[off]? = some (((xs.toList.drop off).take ks.length).headD undef) := by
      intro h1
      rw [h1, List.headD_eq_head?_getD, List.head?_take, if_neg (by omega), List.head?_drop, Array.getElem?_toList, Array.getElem?_eq_getElem (by omega)]
      rfl
    have agg : (xs.extract off (off + ks.length)) = ((xs.toList.drop off).take ks.length).toArray := by
      apply Array.ext'
      simp [Array.toList_extract, List.extract_eq_take_drop]
    cases hu : P.underlying t with
    | none => simp [ckinds, hu] at hk
    | some ds =>
      cases ds with
      | bool => simp [ckinds, hu] at hk; have := one (by rw [← hk]; rfl); simp [part, isAgg, run_underlying hu, valOf, hu, this]
      | int k => simp [ckinds, hu] at hk; have := one (by rw [← hk]; rfl); simp [part, isAgg, run_underlying hu, valOf, hu, this]
      | string => simp [ckinds, hu] at hk; have := one (by rw [← hk]; rfl); simp [part, isAgg, run_underlying hu, valOf, hu, this]
      | struct fs => simp [part, isAgg, run_underlying hu, valOf, hu, sizeOf, typeInfo, hi, hz, agg]
      | array n e => simp [part, isAgg, run_underlying hu, valOf, hu, sizeOf, typeInfo, hi, hz, agg]
      | _ => simp [ckinds, hu] at hk

theorem eqLV_len : ∀ {ks : List CK} {xs ys : List Value} {b : Bool}, eqLV ks xs ys = some true → xs.length = ks.length ∧ ys.length = ks.length
  | [], [], [], _, _ => ⟨rfl, rfl⟩
  | k :: ks, x :: xs, y :: ys, b, h => by
    simp only [eqLV] at h
    cases hc : ceqV k x y with
    | none => simp [hc] at h
    | some c =>
      cases c with
      | false => simp [hc] at h
      | true =>
        simp [hc] at h
        have := eqLV_len (b := b) h
        simp [this.1, this.2]
  | [], [], _ :: _, _, h => by simp [eqLV] at h
  | [], _ :: _, _, _, h => by simp [eqLV] at h
  | _ :: _, [], _, _, h => by simp [eqLV] at h
  | _ :: _, _ :: _, [], _, h => by simp [eqLV] at h
theorem eqLV_app : ∀ {ks ls : List CK} {xs ys : List Value} {b : Bool}, (hx : ks.length ≤ xs.length) → (hy : ks.length ≤ ys.length) → eqLV (ks ++ ls) xs ys = some b →
    (eqLV ks (xs.take ks.length) (ys.take ks.length) = some true ∧ eqLV ls (xs.drop ks.length) (ys.drop ks.length) = some b) ∨ (eqLV ks (xs.take ks.length) (ys.take ks.length) = some false ∧ b = false)
  | [], ls, xs, ys, b, _, _, h => .inl ⟨by simp [eqLV], by simpa using h⟩
  | k :: ks, ls, [], _, b, hx, _, h => by simp at hx
  | k :: ks, ls, _ :: _, [], b, _, hy, h => by simp at hy
  | k :: ks, ls, x :: xs, y :: ys, b, hx, hy, h => by
    simp only [List.cons_append, eqLV] at h
    cases hc : ceqV k x y with
    | none => simp [hc] at h
    | some c =>
      cases c with
      | false => simp [hc] at h; exact .inr ⟨by simp [eqLV, hc], h⟩
      | true =>
        simp [hc] at h
        have := eqLV_app (ks := ks) (ls := ls) (by simpa using hx) (by simpa using hy) h
        rcases this with ⟨h1, h2⟩ | ⟨h1, h2⟩
        · exact .inl ⟨by simp [eqLV, hc, h1], by simpa using h2⟩
        · exact .inr ⟨by simp [eqLV, hc, h1], h2⟩

theorem equalIn_cks {P : Program} {w : World} (d : Nat) :
    (∀ t ks D xs ys b, ckinds P d t = some ks → d ≤ D → xs.length = ks.length → ys.length = ks.length → eqLV ks xs ys = some b → (Op.equalIn D t (valOf P t xs) (valOf P t ys)).run P w = .ok b w) ∧
    (∀ fs off ls D (xs ys : Array Value) b, ckFields P d fs off = some ls → d ≤ D → off + ls.length = xs.size → off + ls.length = ys.size → eqLV ls (xs.toList.drop off) (ys.toList.drop off) = some b → (Op.eqFields D xs ys fs).run P w = .ok b w) := by
  induction d with
  | zero =>
    refine ⟨fun t ks D xs ys b h => by simp [ckinds] at h, fun fs off ls D xs ys b h hD hx hy he => ?_⟩
    cases fs with
    | nil =>
      simp [ckFields] at h
      subst h
      have : xs.toList.drop off = [] ∧ ys.toList.drop off = [] := by simp at hx hy; constructor <;> (apply List.drop_eq_nil_of_le; simp; omega)
      rw [this.1, this.2] at he
      simp [eqLV] at he
      simp [Op.eqFields, he]
    | cons f fs => simp [ckFields] at h
  | succ d ih =>
    constructor
    · intro t ks D xs ys b h hD hx hy he
      obtain ⟨D, rfl⟩ : ∃ m, D = m + 1 := ⟨D - 1, by omega⟩
      simp only [ckinds] at h
      have sc : ∀ k, ks = [k] → ∃ x y, xs = [x] ∧ ys = [y] ∧ ceqV k x y = some b := by
        rintro k rfl
        match xs, ys, hx, hy with
        | [x], [y], _, _ =>
          refine ⟨x, y, rfl, rfl, ?_⟩
          simp only [eqLV] at he
          cases hc : ceqV k x y with
          | none => simp [hc] at he
          | some c => cases c <;> simp [hc] at he <;> simp [he]
      cases hu : P.underlying t with
      | none => simp [hu] at h
      | some ds =>
        cases ds with
        | bool =>
          simp [hu] at h
          obtain ⟨x, y, rfl, rfl, hc⟩ := sc .bool h.symm
          unfold ceqV at hc
          split at hc <;> simp at *
          subst hc
          simp [valOf, hu, run_equalIn_bool' w D t _ _ hu]
        | int k =>
          simp [hu] at h
          obtain ⟨x, y, rfl, rfl, hc⟩ := sc .int h.symm
          unfold ceqV at hc
          split at hc <;> simp at *
          obtain ⟨rfl, hc⟩ := hc
          subst hc
          simp only [valOf, hu, List.headD_cons]
          rw [run_equalIn_int w D t _ _ _ _ hu]
          rfl
        | string =>
          simp [hu] at h
          obtain ⟨x, y, rfl, rfl, hc⟩ := sc .str h.symm
          unfold ceqV at hc
          split at hc <;> simp at *
          subst hc
          simp only [valOf, hu, List.headD_cons]
          rw [run_equalIn_string w D t _ _ hu, toList_eq_iff]
        | struct fs =>
          simp only [hu] at h
          split at h
          · cases h
          · rename_i hp
            have hf : P.fieldsOf t = fs := by simp [Program.fieldsOf, hu]
            have := ih.2 fs.toList 0 ks D xs.toArray ys.toArray b h (by omega) (by simp [hx]) (by simp [hy]) (by simpa using he)
            rw [show valOf P t xs = .agg xs.toArray by simp [valOf, hu], show valOf P t ys = .agg ys.toArray by simp [valOf, hu], run_equalIn_struct w D t _ _ (by rw [hf]; exact hu) (by simpa using hp), hf]
            exact this
        | array n e =>
          simp only [hu] at h
          obtain ⟨l, hl, h⟩ := Option.bind_eq_some_iff.1 h
          split at h
          · rename_i hsz
            cases h
            obtain ⟨ie, hie, hz⟩ := Option.map_eq_some_iff.1 hsz
            rw [show valOf P t xs = .agg xs.toArray by simp [valOf, hu], show valOf P t ys = .agg ys.toArray by simp [valOf, hu]]
            simp only [Op.equalIn, Sem.run_bind, run_underlying hu, Result.andThen_ok, sizeOf, typeInfo, Sem.run_bind, run_program, hie, Sem.run_pure]
            rw [Std.Legacy.Range.forIn_eq_forIn_range']
            have hlen : ∀ m, (List.replicate m l).flatten.length = m * l.length := fun m => by
              induction m with
              | zero => simp
              | succ m ihm => rw [List.replicate_succ, List.flatten_cons, List.length_append, ihm, Nat.add_mul, Nat.one_mul, Nat.add_comm]
            rw [hlen] at hx hy
            have key : ∀ m i, i + m = n → ∀ b, eqLV (List.replicate m l).flatten (xs.drop (i * l.length)) (ys.drop (i * l.length)) = some b →
                (forIn (List.range' i m 1) ((none, ()) : Option Bool × Unit) fun i __s => do
                  let a ← part e xs.toArray (i * ie.size)
                  let c ← part e ys.toArray (i * ie.size)
                  let r ← Op.equalIn D e a c
                  if (!r) = true then pure (ForInStep.done (some false, ())) else pure (ForInStep.yield (none, ())) : Sem (Option Bool × Unit)).run P w = .ok (if b then none else some false, ()) w := by
              intro m
              induction m with
              | zero =>
                intro i hi b hb
                have : xs.drop (i * l.length) = [] ∧ ys.drop (i * l.length) = [] := by
                  have : i = n := by omega
                  subst this
                  constructor <;> (apply List.drop_eq_nil_of_le; omega)
                rw [this.1, this.2] at hb
                simp [eqLV] at hb
                simp [← hb]
              | succ m ihm =>
                intro i hi b hb
                have hil : i * l.length + l.length + m * l.length = n * l.length := by
                  rw [← hi, Nat.add_mul, Nat.add_mul]; omega
                rw [List.replicate_succ, List.flatten_cons] at hb
                have h1 := run_part_valOf (w := w) hl hsz xs.toArray (i * l.length) (by simp; omega)
                have h2 := run_part_valOf (w := w) hl hsz ys.toArray (i * l.length) (by simp; omega)
                have lx : l.length ≤ (xs.drop (i * l.length)).length := by simp; omega
                have ly : l.length ≤ (ys.drop (i * l.length)).length := by simp; omega
                simp only [List.range'_succ, List.forIn_cons, Sem.run_bind, hz, h1, h2, Result.andThen_ok]
                simp only [hz] at ihm
                rcases eqLV_app lx ly hb with ⟨e1, e2⟩ | ⟨e1, rfl⟩
                · rw [ih.1 e l D _ _ true hl (by omega) (by rw [List.length_take]; simp at lx ⊢; omega) (by rw [List.length_take]; simp at ly ⊢; omega) e1]
                  simp only [Result.andThen_ok, Bool.not_true, Bool.false_eq_true, if_false, Sem.run_pure]
                  rw [List.drop_drop, List.drop_drop] at e2
                  exact ihm (i + 1) (by omega) b (by rw [Nat.add_mul, Nat.one_mul]; exact e2)
                · rw [ih.1 e l D _ _ false hl (by omega) (by rw [List.length_take]; simp at lx ⊢; omega) (by rw [List.length_take]; simp at ly ⊢; omega) e1]
                  simp
            have := key n 0 (by omega) b (by simpa using he)
            simp only [Std.Legacy.Range.size] at *
            rw [show (n - 0 + 1 - 1) / 1 = n by omega, this]
            cases b <;> simp
          · cases h
        | _ => simp [hu] at h
    · intro fs off ls D xs ys b h hD hx hy he
      cases fs with
      | nil =>
        simp [ckFields] at h
        subst h
        have : xs.toList.drop off = [] ∧ ys.toList.drop off = [] := by simp at hx hy; constructor <;> (apply List.drop_eq_nil_of_le; simp; omega)
        rw [this.1, this.2] at he
        simp [eqLV] at he
        simp [Op.eqFields, he]
      | cons f fs =>
        simp only [ckFields] at h
        split at h
        · cases h
        · rename_i hn
          simp only [not_or, Decidable.not_not] at hn
          obtain ⟨hn, rfl⟩ := hn
          obtain ⟨l, hl, h⟩ := Option.bind_eq_some_iff.1 h
          split at h
          · rename_i hsz
            obtain ⟨r, hr, rfl⟩ := Option.map_eq_some_iff.1 h
            rw [List.length_append] at hx hy
            have h1 := run_part_valOf (w := w) hl hsz xs f.offset (by omega)
            have h2 := run_part_valOf (w := w) hl hsz ys f.offset (by omega)
            simp only [Op.eqFields, ne_eq, hn, not_false_eq_true, if_true, Sem.run_bind, h1, h2, Result.andThen_ok]
            have lx : l.length ≤ (xs.toList.drop f.offset).length := by simp; omega
            have ly : l.length ≤ (ys.toList.drop f.offset).length := by simp; omega
            rcases eqLV_app lx ly he with ⟨e1, e2⟩ | ⟨e1, rfl⟩
            · rw [ih.1 f.type l D _ _ true hl (by omega) (by rw [List.length_take]; omega) (by rw [List.length_take]; omega) e1]
              simp only [Result.andThen_ok, Bool.not_true, Bool.false_eq_true, if_false]
              rw [List.drop_drop, List.drop_drop] at e2
              exact ih.2 fs _ r D xs ys b hr (by omega) (by omega) (by omega) e2
            · rw [ih.1 f.type l D _ _ false hl (by omega) (by rw [List.length_take]; omega) (by rw [List.length_take]; omega) e1]
              simp
          · cases h
end Go.AE
