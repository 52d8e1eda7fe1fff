import Derived.Test.YtohbipkmfhmibaaGreatDoorAE31
/-! AE32: slices.Grow of nil; slices.Clone. -/
set_option linter.unusedVariables false
set_option linter.unusedSimpArgs false
namespace Go.AE
open Go.RowKit Go.LB
section
variable {C : Cfg}
def growT (nm : Name) : List T → Option T
  | [.sl [] .nil, .v (.int .i64 n)] => if 0 < n ∧ n ≤ 1048576 then some (.sl [] (.own nm 1)) else none
  | _ => none
theorem grow_snd {f : FuncId} {e8 : TypeId} (hf : Enterable C.P f)
    (grow : ∀ (n : Nat) (w : World), 0 < n → n ≤ 1048576 → Calls C.P f #[.slice none 0 0, .int .i64 (n : Int)] w fun e w' => ∃ v g, e = .returned v ∧ Own w' (fun _ => False) e8 (some g) ([] : List UInt8) v ∧ New w w' ∧ w.heap.size ≤ g) :
    ∀ nm args r, growT nm args = some r → Enterable C.P f ∧ ∀ E w (vs : Array Value), CallPre C E [] w nm → RelL E w args vs.toList → Calls C.P f vs w (CallPost E [] w nm r []) := by
  intro nm args r e
  refine ⟨hf, fun E w vs pre hargs => ?_⟩
  unfold growT at e
  split at e
  case h_2 => cases e
  rename_i n
  split at e
  case isFalse => cases e
  rename_i hn
  cases e
  obtain ⟨a, b, rfl, ha, hb⟩ := args_two hargs
  obtain rfl : a = .slice none 0 0 := by
    cases ha with
    | slnil => rfl
    | slno h _ _ _ _ => exact absurd rfl h
    | sl cv hk hl hc hm ht h1 h2 => exact ht.elim
  cases hb with | v _ => ?_
  obtain ⟨m, rfl⟩ := Int.eq_ofNat_of_zero_le (Int.le_of_lt hn.1)
  refine (grow m w (by omega) (by omega)).mono ?_
  rintro e w' ⟨v, g, rfl, hO, hN, hg⟩
  rcases hO with ⟨h0, _⟩ | ⟨g', c, cur, xs, hg', rfl, hlc, hcm, hcell, hsz, hx⟩
  · cases h0
  · cases hg'
    have hsz' : cur.size = c := by simpa [Enc.size] using hsz
    have W := Walk.new_tok (U := (nm <+: ·)) pre.st hN (n := nm) (by
      cases e : E.τ nm with
      | none => rfl
      | some t => exact absurd (pre_refl nm) (pre.nτ nm (by rw [e]; simp))) (pre_refl nm) (b := g) (m := 0) (r := c) hg hcell (by omega)
    refine ⟨_, _, rfl, ?_, W.less (fun _ _ e => e) (fun n hn => ?_), trivial⟩
    · exact .sl (l := []) (k := 1) (fun _ => undef) (by omega) (by simp) (Nat.zero_le _) hcm ⟨rfl, c, by simp, by simp⟩ (by simp) (by simp)
    · right; simpa [toks] using hn
/-! slices.Clone: a nil slice stays nil. -/
def cloneT (k : Nat) (_ : Name) : List T → Option T
  | [.sl l t] => if t = .nil then some (.sl [] .nil) else if l.length ≤ 1073741824 ∧ kl k l = true then some (.sl l .no) else none
  | _ => none
def cloneRow (k : Nat) (z : T) : RFn :=
  ⟨8, .seq (.reg [] [⟨some 2, none, .mv (.c (.sl [] .nil))⟩]) (.seq (.seq (.reg [] [⟨some 3, none, .mv (.t 0)⟩, ⟨some 4, none, .isn false 0 (.t 3)⟩]) (.cond (.t 4) (.seq (.reg [] [⟨some 2, none, .mv (.c (.sl [] .nil))⟩]) .ret) .skip))
    (.seq (.reg [] [⟨some 5, none, .bsl k 0 z []⟩, ⟨some 6, none, .mv (.t 0)⟩, ⟨some 7, none, .app k 1073741824 (.t 5) (.t 6)⟩, ⟨some 2, none, .mv (.t 7)⟩]) .ret)), [.tmp 2]⟩
theorem clone_ev {tab : FuncId → Option RFn} {f : FuncId} {k : Nat} {z : T} (hF : tab f = some (cloneRow k z)) {nm : Name} {l : List T} (hl : l.length ≤ 1073741824) (hk : kl k l = true) :
    evW C tab f nm [.sl l .kept] [] = some (.sl l (.own (nm ++ [2] ++ [2]) k), []) := by
  rw [ev_fn hF]
  have hk0 : kl k ([] : List T) = true := rfl
  simp [cloneRow, ev_seq, ev_reg, ev_cond, sq_nil, sq_op, evR, eO, fget, fset, put, argF, tnilK, tnil, nb, tB, condK_false, seqK_norm, seqK_ret, regK_some, opK_some, eQs, eSets, tsrc, eApp, hl, hk, fnK_ret, finK_some, eRVs, eRV, tupOf, finF, topOf, ptrR2, ptrR1, ptrR0, keepN, sealT, seal0, seal1, pushK, pushL, hk0]
theorem clone_snd {f : FuncId} {k : Nat} {z : T} (hf : Enterable C.P f) (hpts : ∀ t ∈ C.pts, PtrT C.P t) (hm : C.P.follows .mixedOrders = true) (hrow : toRFn { C with ora := fun _ => none } [] f = some (cloneRow k z))
    (nil : ∀ (c : Nat) (w : World), Calls C.P f #[.slice none 0 c] w fun e w' => e = .returned (.slice none 0 0) ∧ w = w') :
    ∀ nm args r, cloneT k nm args = some r → Enterable C.P f ∧ ∀ E w (vs : Array Value), CallPre C E [] w nm → RelL E w args vs.toList → Calls C.P f vs w (CallPost E [] w nm r []) := by
  intro nm args r e
  refine ⟨hf, fun E w vs pre hargs => ?_⟩
  unfold cloneT at e
  split at e
  case h_2 => cases e
  rename_i l t
  obtain ⟨v, rfl, hv⟩ := args_one (args := []) hargs
  split at e
  · rename_i ht
    subst ht
    cases e
    obtain rfl : v = .slice none 0 0 := by
      cases hv with
      | slnil => rfl
      | slno h _ _ _ _ => exact absurd rfl h
      | sl cv hk hl hc hm ht h1 h2 => exact ht.elim
    refine (nil 0 w).mono ?_
    rintro e w' ⟨rfl, rfl⟩
    exact post_pure pre .slnil rfl
  · rename_i ht
    split at e
    case isFalse => cases e
    rename_i hlk
    cases e
    have hC0 : COk { C with ora := fun _ => none } := ⟨hpts, fun f g h => by cases h⟩
    have hT : TabOk { C with ora := fun _ => none } (DrawOk { C with ora := fun _ => none }) (fun g => if g = f then some (cloneRow k z) else none) := fun g F hg => by
      simp only at hg
      split at hg
      · rename_i e; subst e; cases hg; exact toRFn_ok (C := { C with ora := fun _ => none }) hm hrow
      · cases hg
    have go : Rel E w (.sl l .kept) v → Calls C.P f #[v] w (CallPost E [] w nm (.sl l .no) []) := fun hv' => by
      have hs := evW_snd hC0 hT f nm [.sl l .kept] _ [] [] (clone_ev (k := k) (z := z) (by simp) hlk.1 hlk.2)
      refine (hs.2 E w #[v] ⟨pre.hu, pre.st, pre.laid, pre.nρ, pre.nτ⟩ (by simpa using RelL.cons hv' (RelL.nil _ _))).mono ?_
      rintro e w' ⟨u, E', rfl, hr, W, hu⟩
      refine ⟨u, E', rfl, ?_, W.less (fun _ _ e => e) (fun n hn => by simp [toks] at hn), trivial⟩
      have := rel_strip1 hr
      exact this
    cases hv with
    | slnil => exact absurd rfl ht
    | slno h hc h2 a hk =>
      rename_i c
      cases a with
      | some a => exact go (.slno (by simp) hc (by simp) _ (by simp))
      | none =>
        refine (nil c w).mono ?_
        rintro e w' ⟨rfl, rfl⟩
        exact post_pure pre (.slno (by simp) (by simp [maxLen]) (by simp) _ (by simp)) rfl
    | sl cv hk hl hc hm ht h1 h2 => exact go (.sl cv hk hl hc hm trivial h1 h2)
end
end Go.AE
