import Derived.Test.YtohbipkmfhmibaaGreatDoorAE4
import Derived.Laws.BytesArg
import Derived.Laws.IdiomStrings
/-! AE5: equality, conversions, loads, stores, parts. -/
set_option linter.unusedVariables false
set_option linter.unusedSimpArgs false
namespace Go.AE
open Go.RowKit Go.LB

def ceqT : CK → T → T → Option Bool
  | .bool, .v (.bool a), .v (.bool b) => some (a == b)
  | .int, .v (.int k a), .v (.int k' b) => if k = k' then some (decide (a = b)) else none
  | .str, .v (.string a), .v (.string b) => some (decide (a = b))
  | _, _, _ => none
def eqLT : List CK → List T → List T → Option Bool
  | [], [], [] => some true
  | k :: ks, x :: xs, y :: ys => (ceqT k x y).bind fun b => if b then eqLT ks xs ys else some false
  | _, _, _ => none
theorem ceqT_sound {E : Env} {w : World} {k : CK} {x y : T} {u v : Value} {b : Bool} (h : ceqT k x y = some b) (hx : Rel E w x u) (hy : Rel E w y v) : ceqV k u v = some b := by
  unfold ceqT at h
  split at h <;> first | (cases hx; cases hy; exact h) | cases h
theorem eqLT_sound {E : Env} {w : World} : ∀ {ks : List CK} {xs ys : List T} {us vs : List Value} {b : Bool}, eqLT ks xs ys = some b → RelL E w xs us → RelL E w ys vs → eqLV ks us vs = some b
  | [], [], [], us, vs, b, h, hx, hy => by rw [hx.nil_inv, hy.nil_inv]; exact h
  | k :: ks, x :: xs, y :: ys, us, vs, b, h, hx, hy => by
    obtain ⟨u, us, rfl, h1, h2⟩ := hx.cons_inv
    obtain ⟨v, vs, rfl, h3, h4⟩ := hy.cons_inv
    simp only [eqLT, eqLV] at *
    obtain ⟨c, hc, h⟩ := Option.bind_eq_some_iff.1 h
    rw [ceqT_sound hc h1 h3, Option.bind_some]
    cases c with
    | false => exact h
    | true => exact eqLT_sound (by simpa using h) h2 h4
  | [], [], _ :: _, _, _, _, h, _, _ => by simp [eqLT] at h
  | [], _ :: _, _, _, _, _, h, _, _ => by simp [eqLT] at h
  | _ :: _, [], _, _, _, _, h, _, _ => by simp [eqLT] at h
  | _ :: _, _ :: _, [], _, _, _, h, _, _ => by simp [eqLT] at h

def nb (neg b : Bool) : Bool := if neg then !b else b
def eqOp (neg : Bool) : BinOp := if neg then .neq else .eql

theorem eqA_sound {P : Program} {E : Env} {w : World} {d : Nat} {t : TypeId} {ks : List CK} {x y : Operand} {xs ys : List T} {u v : Value} {b neg : Bool} (hd : d ≤ 10000) (hk : ckinds P d t = some ks) (hg : P.eqGuardType P.depth t = false)
    (hagg : (match P.underlying t with | some (.struct _) | some (.array _ _) => true | _ => false) = true) (hl : xs.length = ks.length) (hl2 : ys.length = ks.length)
    (h : eqLT ks xs ys = some b) (hx : Rel E w (.agg xs) u) (hy : Rel E w (.agg ys) v) :
    (do eqGuard (eqOp neg) t x y u v; binOp (eqOp neg) t u v : Sem Value).run P w = .ok (.bool (nb neg b)) w := by
  cases hx with
  | agg h1 h0 h2 =>
  cases hy with
  | agg h3 h4 h5 =>
  rename_i us vs
  have he := eqLT_sound (us := us.toList) (vs := vs.toList) h ⟨by simpa using h1, fun i x u hx hu => h2 i x u hx (by simpa using hu)⟩ ⟨by simpa using h3, fun i x u hx hu => h5 i x u hx (by simpa using hu)⟩
  have hv : ∀ cs : Array Value, valOf P t cs.toList = .agg cs := by
    intro cs
    unfold valOf
    cases hu : P.underlying t with
    | none => simp [hu] at hagg
    | some ds => cases ds <;> simp [hu] at hagg <;> simp
  have key := (equalIn_cks (P := P) (w := w) d).1 t ks 10000 us.toList vs.toList b hk hd (by simp [h1, hl]) (by simp [h3, hl2]) he
  rw [hv, hv] at key
  rw [Sem.run_bind, run_eqGuard_agg w _ t x y us vs hg, Result.andThen_ok]
  cases neg
  · simp only [eqOp, Bool.false_eq_true, if_false, nb]
    rw [run_eql_struct, key]; rfl
  · simp only [eqOp, if_true, nb]
    rw [run_neq_struct, key]; rfl

theorem eqd {P : Program} {w : World} {t : TypeId} {u v : Value} {c : Bool} (h : ∀ d, (Op.equalIn (d + 1) t u v).run P w = .ok c w) : (Op.equal t u v).run P w = .ok c w := h 9999
/-- Pointers. -/
def teqP : T → T → Option Bool
  | .v (.pointer none), .v (.pointer none) => some true
  | .v (.pointer none), .gl _ | .v (.pointer none), .ptr _ _ | .v (.pointer none), .ro _ _ => some false
  | .gl _, .v (.pointer none) | .ptr _ _, .v (.pointer none) | .ro _ _, .v (.pointer none) => some false
  | .gl j, .gl k => some (decide (j = k))
  | .ptr n o, .ptr m p => if n = m then some (decide (o = p)) else none
  | _, _ => none
theorem run_eq_op {P : Program} {w : World} (neg : Bool) (t : TypeId) (u v : Value) (b : Bool) (hne : ∀ k n, u ≠ .int k n) (hf : ∀ k n, u ≠ .float k n) (hc : ∀ k n m, u ≠ .complex k n m) (hs : ∀ s, u ≠ .string s) (h : (Op.equal t u v).run P w = .ok b w) :
    (binOp (eqOp neg) t u v).run P w = .ok (.bool (nb neg b)) w := by
  cases neg <;> cases u <;> first | exact absurd rfl (hne _ _) | exact absurd rfl (hf _ _) | exact absurd rfl (hc _ _ _) | exact absurd rfl (hs _) | (simp only [eqOp, Bool.false_eq_true, if_false, if_true, binOp, nb]; simp [h])

theorem eqP_sound {P : Program} {E : Env} {G : Name → Option Blk} {L : Name → Prop} {w : World} {t e : TypeId} {j : TypeInfo} {x y : Operand} {a b : T} {u v : Value} {c neg : Bool} (st : St E G L w) (ht : P.underlying t = some (.pointer e)) (hj : P.info? e = some j) (hz : j.size ≠ 0)
    (h : teqP a b = some c) (hx : Rel E w a u) (hy : Rel E w b v) : (do eqGuard (eqOp neg) t x y u v; binOp (eqOp neg) t u v : Sem Value).run P w = .ok (.bool (nb neg c)) w := by
  have hg : ∀ p q, (eqGuard (eqOp neg) t x y (.pointer p) (.pointer q)).run P w = .ok () w := fun p q => by cases neg <;> simp [eqGuard, eqOp]
  have fin : ∀ p q, u = .pointer p → v = .pointer q → (Op.equal t (.pointer p) (.pointer q)).run P w = .ok c w → (do eqGuard (eqOp neg) t x y u v; binOp (eqOp neg) t u v : Sem Value).run P w = .ok (.bool (nb neg c)) w := by
    rintro p q rfl rfl hh
    rw [Sem.run_bind, hg, Result.andThen_ok]
    exact run_eq_op neg t _ _ c (by simp) (by simp) (by simp) (by simp) hh
  unfold teqP at h
  split at h
  · cases h; cases hx; cases hy; exact fin _ _ rfl rfl (eqd fun d => by simp [Op.equalIn, run_underlying ht])
  · cases h; cases hx; cases hy; exact fin _ _ rfl rfl (eqd fun d => by simp [Op.equalIn, run_underlying ht])
  · cases h; cases hx; cases hy; exact fin _ _ rfl rfl (eqd fun d => by simp [Op.equalIn, run_underlying ht])
  · cases h; cases hx; cases hy; exact fin _ _ rfl rfl (eqd fun d => by simp [Op.equalIn, run_underlying ht])
  · cases h; cases hx; cases hy; exact fin _ _ rfl rfl (eqd fun d => by simp [Op.equalIn, run_underlying ht])
  · cases h; cases hx; cases hy; exact fin _ _ rfl rfl (eqd fun d => by simp [Op.equalIn, run_underlying ht])
  · cases h; cases hx; cases hy; exact fin _ _ rfl rfl (eqd fun d => by simp [Op.equalIn, run_underlying ht])
  · rename_i j1 k1
    cases h; cases hx with
    | gl _ h1 =>
    cases hy with
    | gl _ h2 =>
    refine fin _ _ rfl rfl ?_
    by_cases e : j1 = k1
    · subst e
      exact eqd fun d => by simp [Op.equalIn, run_underlying ht, sizeOf, typeInfo, hj, hz, run_sameAddr_same]
    · obtain ⟨b1, vs1, e1, p1, p2, p3, _⟩ := st.gl j1 h1
      obtain ⟨b2, vs2, e2, q1, q2, q3, _⟩ := st.gl k1 h2
      have hne : E.ad j1 ≠ E.ad k1 := fun q => e (st.glinj j1 k1 h1 h2 q)
      have := run_sameAddr_other (P := P) w hne (by rw [p1]; exact p3) (by rw [q1]; exact q3)
      exact eqd fun d => by simp [Op.equalIn, run_underlying ht, sizeOf, typeInfo, hj, hz, this, e]
  · rename_i n o m p
    split at h
    · rename_i hn
      subst hn
      cases h; cases hx with
      | ptr h1 =>
      cases hy with
      | ptr h2 =>
      rw [h1] at h2; cases h2
      refine fin _ _ rfl rfl ?_
      by_cases e : o = p
      · subst e
        exact eqd fun d => by simp [Op.equalIn, run_underlying ht, sizeOf, typeInfo, hj, hz, run_sameAddr_same]
      · exact eqd fun d => by simp [Op.equalIn, run_underlying ht, sizeOf, typeInfo, hj, hz, sameAddr, e]
    · cases h
  · cases h

/-- Interface values. -/
def teqI (pts : List TypeId) (nilok : Bool) : T → T → Option Bool
  | .v .nilIface, .v .nilIface => if nilok then some true else none
  | .v .nilIface, .ifc _ _ => some false
  | .ifc _ _, .v .nilIface => some false
  | .ifc t (.gl j), .ifc u (.gl k) => if t = u then (if t ∈ pts then some (decide (j = k)) else none) else some false
  | .ifc t _, .ifc u _ => if t = u then none else some false
  | _, _ => none
/-- A pointer's type of which values may be compared. -/
def PtrT (P : Program) (t : TypeId) : Prop := ∃ i e j, P.info? t = some i ∧ i.comparable = true ∧ P.underlying t = some (.pointer e) ∧ P.info? e = some j ∧ j.size ≠ 0
theorem eqI_sound {P : Program} {E : Env} {G : Name → Option Blk} {L : Name → Prop} {w : World} {t : TypeId} {ms : Array (String × TypeId)} {x y : Operand} {a b : T} {u v : Value} {pts : List TypeId} {c neg nilok : Bool} (st : St E G L w) (ht : P.underlying t = some (.interface ms))
    (hn : nilok = true → ((x matches .const _) || (y matches .const _)) = true ∨ ms.isEmpty = true) (hp : ∀ t ∈ pts, PtrT P t) (h : teqI pts nilok a b = some c) (hx : Rel E w a u) (hy : Rel E w b v) :
    (do eqGuard (eqOp neg) t x y u v; binOp (eqOp neg) t u v : Sem Value).run P w = .ok (.bool (nb neg c)) w := by
  have g1 : ∀ t1 v1 t2 v2, (eqGuard (eqOp neg) t x y (.iface t1 v1) (.iface t2 v2)).run P w = .ok () w := fun _ _ _ _ => by cases neg <;> simp [eqGuard, eqOp]
  have g2 : ∀ t2 v2, (eqGuard (eqOp neg) t x y .nilIface (.iface t2 v2)).run P w = .ok () w := fun _ _ => by cases neg <;> simp [eqGuard, eqOp]
  have g3 : ∀ t1 v1, (eqGuard (eqOp neg) t x y (.iface t1 v1) .nilIface).run P w = .ok () w := fun _ _ => by cases neg <;> simp [eqGuard, eqOp]
  have fin : (eqGuard (eqOp neg) t x y u v).run P w = .ok () w → (∀ k n, u ≠ .int k n) → (∀ k n, u ≠ .float k n) → (∀ k n m, u ≠ .complex k n m) → (∀ s, u ≠ .string s) → (Op.equal t u v).run P w = .ok c w → (do eqGuard (eqOp neg) t x y u v; binOp (eqOp neg) t u v : Sem Value).run P w = .ok (.bool (nb neg c)) w := by
    intro hg a1 a2 a3 a4 hh
    rw [Sem.run_bind, hg, Result.andThen_ok]
    exact run_eq_op neg t _ _ c a1 a2 a3 a4 hh
  unfold teqI at h
  split at h
  · split at h
    · rename_i hno
      cases h; cases hx; cases hy
      have hg : (eqGuard (eqOp neg) t x y .nilIface .nilIface).run P w = .ok () w := by
        rcases hn hno with h1 | h1
        · clear fin g1 g2 g3
          cases neg <;> cases x <;> cases y <;> simp_all [eqGuard, eqOp]
        · have hms : ms = #[] := by simpa using h1
          subst hms
          have hgi : (Op.eqGuardIn Op.maxDepth t .nilIface .nilIface).run P w = .ok false w := by
            have : ∀ d, (Op.eqGuardIn (d + 1) t .nilIface .nilIface).run P w = .ok false w := fun d => by simp [Op.eqGuardIn, run_underlying ht]
            exact this 9999
          clear fin g1 g2 g3
          cases neg <;> cases x <;> cases y <;> simp [eqGuard, eqOp, hgi]
      exact fin hg (by simp) (by simp) (by simp) (by simp) (eqd fun d => by simp [Op.equalIn, run_underlying ht])
    · cases h
  · cases h; cases hx; cases hy; exact fin (g2 _ _) (by simp) (by simp) (by simp) (by simp) (eqd fun d => by simp [Op.equalIn, run_underlying ht])
  · cases h; cases hx; cases hy; exact fin (g3 _ _) (by simp) (by simp) (by simp) (by simp) (eqd fun d => by simp [Op.equalIn, run_underlying ht])
  · rename_i t1 j1 t2 k1
    cases hx with
    | ifc hx =>
    cases hx with
    | gl _ h1 =>
    cases hy with
    | ifc hy =>
    cases hy with
    | gl _ h2 =>
    refine fin (g1 _ _ _ _) (by simp) (by simp) (by simp) (by simp) ?_
    split at h
    · rename_i e
      subst e
      split at h
      · rename_i hm
        cases h
        obtain ⟨i, e, j, q1, q2, q3, q4, q5⟩ := hp _ hm
        by_cases e2 : j1 = k1
        · subst e2
          simp only [decide_true, Op.equal]
          exact run_equalIn_iface_ptr_same w 9998 _ ht q3 q1 q2 q4
        · obtain ⟨b1, vs1, e1, p1, p2, p3, _⟩ := st.gl j1 h1
          obtain ⟨b2, vs2, e2', r1, r2, r3, _⟩ := st.gl k1 h2
          have hne : E.ad j1 ≠ E.ad k1 := fun q => e2 (st.glinj j1 k1 h1 h2 q)
          simp only [e2, decide_false, Op.equal]
          exact run_equalIn_iface_ptr_other w 9998 ht q3 q1 q2 q4 q5 hne (by rw [p1]; exact p3) (by rw [r1]; exact r3)
      · cases h
    · rename_i e
      cases h
      exact eqd fun d => by simp [Op.equalIn, run_underlying ht, e]
  · rename_i t1 x1 t2 x2 hnot
    cases hx with
    | ifc hx =>
    cases hy with
    | ifc hy =>
    refine fin (g1 _ _ _ _) (by simp) (by simp) (by simp) (by simp) ?_
    split at h
    · cases h
    · rename_i e
      cases h
      exact eqd fun d => by simp [Op.equalIn, run_underlying ht, e]
  · cases h

/-- Is it nil? -/
def tnil : T → Option Bool
  | .sl l t => if t = .nil then some true else if l.isEmpty ∧ t ≠ .kept then none else some false
  | .msl _ _ _ => some false
  | .map _ => some false
  | .fn _ _ _ => some false
  | .v (.map none) => some true
  | .v .nilFunc => some true
  | _ => none
/-- The constant nil of a slice's, a map's or a function's type. -/
def isNilC : Value → Bool
  | .slice none 0 0 | .map none | .nilFunc => true
  | _ => false
def nilDesc : TypeDesc → Bool
  | .slice _ | .map _ _ | .func _ _ _ => true
  | _ => false
theorem nil_sound {P : Program} {E : Env} {w : World} {t : TypeId} {ds : TypeDesc} {x y : Operand} {a : T} {u v : Value} {c neg : Bool} (ht : P.underlying t = some ds) (hds : nilDesc ds = true)
    (hfit : (∃ e, ds = .slice e ∧ v = .slice none 0 0) ∨ (∃ k e, ds = .map k e ∧ v = .map none) ∨ (∃ a b c, ds = .func a b c ∧ v = .nilFunc)) (hsh : (∃ e, ds = .slice e ∧ ∃ a l c, u = .slice a l c) ∨ (∃ k e, ds = .map k e ∧ ∃ r, u = .map r) ∨ (∃ a b c, ds = .func a b c ∧ (u = .nilFunc ∨ ∃ p q r, u = .func p q r)))
    (h : tnil a = some c) (hx : Rel E w a u) : (do eqGuard (eqOp neg) t x y u v; binOp (eqOp neg) t u v : Sem Value).run P w = .ok (.bool (nb neg c)) w := by
  have hc : (Op.equal t u v).run P w = .ok c w := by
    rcases hfit with ⟨e, rfl, rfl⟩ | ⟨k, e, rfl, rfl⟩ | ⟨f1, f2, f3, rfl, rfl⟩
    · rcases hsh with ⟨e', h1, p, l, q, rfl⟩ | ⟨k', e', h1, _⟩ | ⟨_, _, _, h1, _⟩ <;> cases h1
      have : p.isNone = c := by
        unfold tnil at h
        cases hx with
        | slnil => simp at h; simp [h]
        | slno h1 h2 h3 h4 h5 =>
          simp only [if_neg h1] at h
          split at h
          · cases h
          · rename_i q
            have hk : _ = Tag.kept := Classical.byContradiction fun g => q ⟨rfl, g⟩
            cases h
            cases p with
            | none => exact absurd rfl (h5 hk)
            | some b => rfl
        | sl cv hk hl hc hm ht h1 h2 =>
          simp only at h
          split at h
          · rename_i q; subst q; exact ht.elim
          · split at h
            · cases h
            · cases h; rfl
        | msl h1 h2 h3 => simp at h; simp [← h]
        | v hv => simp [atomB] at hv
      rw [← this]
      exact eqd fun d => by cases p <;> simp [Op.equalIn, run_underlying ht]
    · rcases hsh with ⟨e', h1, _⟩ | ⟨k', e', h1, r, rfl⟩ | ⟨_, _, _, h1, _⟩ <;> cases h1
      cases hx with
      | v hv => cases r with
        | none => simp [tnil] at h; exact eqd fun d => by simp [Op.equalIn, run_underlying ht, ← h]
        | some r => simp [atomB] at hv
      | map hv => simp [tnil] at h; exact eqd fun d => by simp [Op.equalIn, run_underlying ht, ← h]
    · rcases hsh with ⟨e', h1, _⟩ | ⟨k', e', h1, _⟩ | ⟨_, _, _, h1, h2⟩ <;> cases h1
      rcases h2 with rfl | ⟨p, q, r, rfl⟩
      · cases hx with
        | v hv => simp [tnil] at h; exact eqd fun d => by simp [Op.equalIn, run_underlying ht, ← h]
      · cases hx with
        | v hv => simp [atomB] at hv
        | fn h1 h2 h3 h4 => simp [tnil] at h; exact eqd fun d => by simp [Op.equalIn, run_underlying ht, ← h]
  have hne : (∀ k n, u ≠ .int k n) ∧ (∀ k n, u ≠ .float k n) ∧ (∀ k n m, u ≠ .complex k n m) ∧ (∀ s, u ≠ .string s) := by
    rcases hsh with ⟨_, _, _, _, _, rfl⟩ | ⟨_, _, _, _, rfl⟩ | ⟨_, _, _, _, rfl | ⟨_, _, _, rfl⟩⟩ <;> simp
  have hg : (eqGuard (eqOp neg) t x y u v).run P w = .ok () w := by
    rcases hsh with ⟨_, _, _, _, _, rfl⟩ | ⟨_, _, _, _, rfl⟩ | ⟨_, _, _, _, rfl | ⟨_, _, _, rfl⟩⟩ <;> cases neg <;> simp [eqGuard, eqOp]
  rw [Sem.run_bind, hg, Result.andThen_ok]
  exact run_eq_op neg t _ _ c hne.1 hne.2.1 hne.2.2.1 hne.2.2.2 hc
end Go.AE
