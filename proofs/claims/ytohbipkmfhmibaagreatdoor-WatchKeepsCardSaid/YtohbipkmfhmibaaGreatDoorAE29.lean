import Derived.Test.YtohbipkmfhmibaaGreatDoorAE28
/-! AE29: without fuel. -/
set_option linter.unusedVariables false
set_option linter.unusedSimpArgs false
namespace Go.AE
open Go.RowKit Go.LB

abbrev CallT := FuncId → Name → List T → Heap → Option (T × Heap)
def Le (c d : CallT) : Prop := ∀ f nm xs h q, c f nm xs h = some q → d f nm xs h = some q
theorem Le.refl (c : CallT) : Le c c := fun _ _ _ _ _ h => h
theorem Le.trans {a b c : CallT} (h : Le a b) (k : Le b c) : Le a c := fun f nm xs q r e => k _ _ _ _ _ (h _ _ _ _ _ e)
section
variable {C : Cfg} {c d : CallT} {fr : Fr} {nm p : Name} {h : Heap} {L : List Name}

theorem eCall_mono (hl : Le c d) {f : FuncId} {xs : List T} {q : T × Heap × List Name} (e : eCall C c nm f xs h L = some q) : eCall C d nm f xs h L = some q := by
  unfold eCall at e ⊢
  split at e
  · exact e
  · split at e
    · rename_i hm
      rw [if_pos hm]
      obtain ⟨r, hr, e⟩ := Option.map_eq_some_iff.1 e
      rw [hl _ _ _ _ _ hr, ← e]; rfl
    · rename_i hm
      rw [if_neg hm]
      obtain ⟨s, hs, e⟩ := Option.bind_eq_some_iff.1 e
      obtain ⟨r, hr, e⟩ := Option.bind_eq_some_iff.1 e
      rw [hs, Option.bind_some, hl _ _ _ _ _ hr]; exact e
theorem evR_nocall {r : R} (hn : isCall r = false) : evR C c fr nm h L r = evR C d fr nm h L r := by
  cases r <;> first | rfl | simp [isCall] at hn
theorem evR_mono (hl : Le c d) {r : R} {q : T × Heap × List Name} (e : evR C c fr nm h L r = some q) : evR C d fr nm h L r = some q := by
  cases hn : isCall r with
  | false => rw [← evR_nocall hn]; exact e
  | true =>
    cases r <;> simp [isCall] at hn
    case call f xs =>
      simp only [evR] at e ⊢
      obtain ⟨ys, hys, e⟩ := Option.bind_eq_some_iff.1 e
      rw [hys]; exact eCall_mono hl e
    case callv g xs =>
      simp only [evR] at e ⊢
      obtain ⟨u, hu, e⟩ := Option.bind_eq_some_iff.1 e
      obtain ⟨ys, hys, e⟩ := Option.bind_eq_some_iff.1 e
      rw [hu, hys]
      simp only [Option.bind_some]
      split at e
      · exact eCall_mono hl e
      · cases e
theorem evSeq_mono (hl : Le c d) : ∀ (l : List ROp) (i : Nat) (fr : Fr) (h : Heap) (L : List Name) (q : Fr × Heap × List Name), evSeq C c p l i fr h L = some q → evSeq C d p l i fr h L = some q
  | [], i, fr, h, L, q, e => e
  | o :: l, i, fr, h, L, q, e => by
    simp only [evSeq] at e ⊢
    cases hg : gd fr o.g with
    | none => rw [hg] at e; cases e
    | some b =>
      rw [hg] at e
      cases b with
      | true =>
        simp only at e ⊢
        obtain ⟨r, hr, e⟩ := Option.bind_eq_some_iff.1 e
        rw [evR_mono hl hr, Option.bind_some]
        exact evSeq_mono hl l _ _ _ _ _ e
      | false => exact evSeq_mono hl l _ _ _ _ _ e
theorem evSeqD_mono (hl : Le c d) {mk : Nat → Bool} : ∀ (l : List ROp) (i : Nat) (fr : Fr) (h : Heap) (L : List Name) (acc : List (Nat × List Name)) (q : (Fr × Heap × List Name) × List (Nat × List Name)), evSeqD C c p mk l i fr h L acc = some q → evSeqD C d p mk l i fr h L acc = some q
  | [], i, fr, h, L, acc, q, e => e
  | o :: l, i, fr, h, L, acc, q, e => by
    simp only [evSeqD] at e ⊢
    cases hg : gd fr o.g with
    | none => rw [hg] at e; cases e
    | some b =>
      rw [hg] at e
      cases b with
      | true =>
        simp only at e ⊢
        obtain ⟨r, hr, e⟩ := Option.bind_eq_some_iff.1 e
        rw [evR_mono hl hr, Option.bind_some]
        exact evSeqD_mono hl l _ _ _ _ _ _ e
      | false => exact evSeqD_mono hl l _ _ _ _ _ _ e
theorem evReg_mono (hl : Le c d) {prs : List (Nat × Nat)} {ops : List ROp} {q : Fr × Heap × List Name} (e : evReg C c p prs ops fr h L = some q) : evReg C d p prs ops fr h L = some q := by
  unfold evReg at e ⊢
  split at e
  · exact evSeq_mono hl _ _ _ _ _ _ e
  · obtain ⟨r, hr, e⟩ := Option.bind_eq_some_iff.1 e
    rw [evSeqD_mono hl _ _ _ _ _ _ _ hr]; exact e
theorem iter_mono {g g' : Nat → F → Option (X × F)} (hg : ∀ r f q, g r f = some q → g' r f = some q) {keep out : List Nat} : ∀ (n m r : Nat) (f : F) (q : X × F), n ≤ m → iter g keep out n r f = some q → iter g' keep out m r f = some q
  | 0, _, _, _, _, _, e => by cases e
  | n + 1, 0, _, _, _, hle, _ => by omega
  | n + 1, m + 1, r, f, q, hle, e => by
    simp only [iter] at e ⊢
    cases hh : g r ⟨f.fr, [] :: f.h, f.L, 0⟩ with
    | none => rw [hh] at e; cases e
    | some y =>
      rw [hh] at e
      rw [hg _ _ _ hh]
      obtain ⟨x, f'⟩ := y
      cases x with
      | norm => exact iter_mono hg n m _ _ _ (by omega) e
      | exit id => exact e
      | ret => exact e
theorem evC_mono (hl : Le c d) {n m : Nat} (hnm : n ≤ m) : ∀ (rc : RC) (p : Name) (f : F) (q : X × F), evC C c p n rc f = some q → evC C d p m rc f = some q := by
  intro rc
  induction rc with
  | skip => intro p f q e; exact e
  | exit id => intro p f q e; exact e
  | ret => intro p f q e; exact e
  | seq a b iha ihb =>
    intro p f q e
    simp only [evC] at e ⊢
    cases ha : evC C c p n a f with
    | none => rw [ha] at e; cases e
    | some r =>
      rw [ha] at e
      rw [iha _ _ _ ha]
      obtain ⟨x, f'⟩ := r
      cases x with
      | norm => exact ihb _ _ _ e
      | exit id => exact e
      | ret => exact e
  | cond o a b iha ihb =>
    intro p f q e
    simp only [evC] at e ⊢
    split at e
    · split at e
      · rename_i hb; simp only [hb, if_true]; exact iha _ _ _ e
      · rename_i hb; simp only [hb]; exact ihb _ _ _ e
    · cases e
  | block id b ih =>
    intro p f q e
    simp only [evC] at e ⊢
    cases ha : evC C c p n b f with
    | none => rw [ha] at e; cases e
    | some r => rw [ha] at e; rw [ih _ _ _ ha]; exact e
  | loop keep out b ih =>
    intro p f q e
    simp only [evC] at e ⊢
    obtain ⟨r, hr, e⟩ := Option.map_eq_some_iff.1 e
    rw [iter_mono (fun r f q e => ih _ _ _ e) _ _ _ _ _ hnm hr, ← e]; rfl
  | reg prs ops =>
    intro p f q e
    simp only [evC] at e ⊢
    obtain ⟨r, hr, e⟩ := Option.map_eq_some_iff.1 e
    rw [evReg_mono hl hr, ← e]; rfl
end

section
variable {C : Cfg} {tab : FuncId → Option RFn}
theorem evF_step : ∀ n, Le (evF C tab n) (evF C tab (n + 1))
  | 0 => fun _ _ _ _ _ e => by cases e
  | n + 1 => fun f nm xs h q e => by
    rw [evF] at e ⊢
    obtain ⟨F, hF, e⟩ := Option.bind_eq_some_iff.1 e
    rw [hF, Option.bind_some]
    split at e
    · cases e
    · cases e
    · rename_i x g hne hx
      rw [evC_mono (evF_step n) (Nat.le_succ n) _ _ _ _ hx]
      cases x with
      | norm => exact e
      | ret => exact e
      | exit id => exact (hne id rfl).elim
theorem evF_le {n m : Nat} (h : n ≤ m) : Le (evF C tab n) (evF C tab m) := by
  induction h with
  | refl => exact Le.refl _
  | step _ ih => exact ih.trans (evF_step _)
open Classical in
/-- What a call comes to, with fuel enough. -/
noncomputable def evW (C : Cfg) (tab : FuncId → Option RFn) : CallT := fun f nm xs h =>
  if e : ∃ q n, evF C tab n f nm xs h = some q then some e.choose else none
theorem evW_iff {f : FuncId} {nm : Name} {xs : List T} {h : Heap} {q : T × Heap} : evW C tab f nm xs h = some q ↔ ∃ n, evF C tab n f nm xs h = some q := by
  constructor
  · intro e
    unfold evW at e
    split at e
    · rename_i hh; cases e; exact hh.choose_spec
    · cases e
  · rintro ⟨n, hn⟩
    unfold evW
    have hh : ∃ q n, evF C tab n f nm xs h = some q := ⟨q, n, hn⟩
    rw [dif_pos hh]
    obtain ⟨m, hm⟩ := hh.choose_spec
    have h1 := evF_le (Nat.le_max_left n m) _ _ _ _ _ hn
    have h2 := evF_le (Nat.le_max_right n m) _ _ _ _ _ hm
    rw [h1] at h2
    rw [← Option.some.inj h2]
theorem evW_snd (hC : COk C) (ht : TabOk C (DrawOk C) tab) : CallSnd C (evW C tab) := fun f nm xs r h h' e => by
  obtain ⟨n, hn⟩ := evW_iff.1 e
  exact evF_snd hC ht n f nm xs r h h' hn

variable {fr : Fr} {nm p : Name} {h : Heap} {L : List Name}
theorem eCall_fin {f : FuncId} {xs : List T} {q : T × Heap × List Name} (e : eCall C (evW C tab) nm f xs h L = some q) : ∃ n, eCall C (evF C tab n) nm f xs h L = some q := by
  unfold eCall at e ⊢
  split at e
  · exact ⟨0, e⟩
  · split at e
    · rename_i hm
      obtain ⟨r, hr, e⟩ := Option.map_eq_some_iff.1 e
      obtain ⟨n, hn⟩ := evW_iff.1 hr
      exact ⟨n, by rw [if_pos hm, hn, ← e]; rfl⟩
    · rename_i hm
      obtain ⟨s, hs, e⟩ := Option.bind_eq_some_iff.1 e
      obtain ⟨r, hr, e⟩ := Option.bind_eq_some_iff.1 e
      obtain ⟨n, hn⟩ := evW_iff.1 hr
      exact ⟨n, by rw [if_neg hm, hs, Option.bind_some, hn]; exact e⟩
theorem evR_fin {r : R} {q : T × Heap × List Name} (e : evR C (evW C tab) fr nm h L r = some q) : ∃ n, evR C (evF C tab n) fr nm h L r = some q := by
  cases hn : isCall r with
  | false => exact ⟨0, by rw [evR_nocall hn (d := evW C tab)]; exact e⟩
  | true =>
    cases r <;> simp [isCall] at hn
    case call f xs =>
      simp only [evR] at e ⊢
      obtain ⟨ys, hys, e⟩ := Option.bind_eq_some_iff.1 e
      rw [hys]; exact eCall_fin e
    case callv g xs =>
      simp only [evR] at e ⊢
      obtain ⟨u, hu, e⟩ := Option.bind_eq_some_iff.1 e
      obtain ⟨ys, hys, e⟩ := Option.bind_eq_some_iff.1 e
      rw [hu, hys]
      simp only [Option.bind_some]
      split at e
      · exact eCall_fin e
      · cases e
theorem evSeq_fin : ∀ (l : List ROp) (i : Nat) (fr : Fr) (h : Heap) (L : List Name) (q : Fr × Heap × List Name), evSeq C (evW C tab) p l i fr h L = some q → ∃ n, evSeq C (evF C tab n) p l i fr h L = some q
  | [], i, fr, h, L, q, e => ⟨0, e⟩
  | o :: l, i, fr, h, L, q, e => by
    simp only [evSeq] at e ⊢
    cases hg : gd fr o.g with
    | none => rw [hg] at e; cases e
    | some b =>
      rw [hg] at e
      cases b with
      | true =>
        simp only at e ⊢
        obtain ⟨r, hr, e⟩ := Option.bind_eq_some_iff.1 e
        obtain ⟨n, hn⟩ := evR_fin hr
        obtain ⟨m, hm⟩ := evSeq_fin l _ _ _ _ _ e
        exact ⟨max n m, by rw [evR_mono (evF_le (Nat.le_max_left n m)) hn, Option.bind_some]; exact evSeq_mono (evF_le (Nat.le_max_right n m)) _ _ _ _ _ _ hm⟩
      | false => exact evSeq_fin l _ _ _ _ _ e
theorem evSeqD_fin {mk : Nat → Bool} : ∀ (l : List ROp) (i : Nat) (fr : Fr) (h : Heap) (L : List Name) (acc : List (Nat × List Name)) (q : (Fr × Heap × List Name) × List (Nat × List Name)), evSeqD C (evW C tab) p mk l i fr h L acc = some q → ∃ n, evSeqD C (evF C tab n) p mk l i fr h L acc = some q
  | [], i, fr, h, L, acc, q, e => ⟨0, e⟩
  | o :: l, i, fr, h, L, acc, q, e => by
    simp only [evSeqD] at e ⊢
    cases hg : gd fr o.g with
    | none => rw [hg] at e; cases e
    | some b =>
      rw [hg] at e
      cases b with
      | true =>
        simp only at e ⊢
        obtain ⟨r, hr, e⟩ := Option.bind_eq_some_iff.1 e
        obtain ⟨n, hn⟩ := evR_fin hr
        obtain ⟨m, hm⟩ := evSeqD_fin l _ _ _ _ _ _ e
        exact ⟨max n m, by rw [evR_mono (evF_le (Nat.le_max_left n m)) hn, Option.bind_some]; exact evSeqD_mono (evF_le (Nat.le_max_right n m)) _ _ _ _ _ _ _ hm⟩
      | false => exact evSeqD_fin l _ _ _ _ _ _ e
theorem evReg_fin {prs : List (Nat × Nat)} {ops : List ROp} {q : Fr × Heap × List Name} (e : evReg C (evW C tab) p prs ops fr h L = some q) : ∃ n, evReg C (evF C tab n) p prs ops fr h L = some q := by
  unfold evReg at e ⊢
  split at e
  · exact evSeq_fin _ _ _ _ _ _ e
  · obtain ⟨r, hr, e⟩ := Option.bind_eq_some_iff.1 e
    obtain ⟨n, hn⟩ := evSeqD_fin _ _ _ _ _ _ _ hr
    exact ⟨n, by rw [hn]; exact e⟩
theorem iter_fin {k : Nat} {b : RC} (ih : ∀ p f q, evC C (evW C tab) p k b f = some q → ∃ n, evC C (evF C tab n) p k b f = some q) {keep out : List Nat} {p : Name} : ∀ (m r : Nat) (f : F) (q : X × F), iter (fun r f => evC C (evW C tab) (p ++ [r]) k b f) keep out m r f = some q → ∃ n, iter (fun r f => evC C (evF C tab n) (p ++ [r]) k b f) keep out m r f = some q
  | 0, _, _, _, e => by cases e
  | m + 1, r, f, q, e => by
    simp only [iter] at e ⊢
    cases hh : evC C (evW C tab) (p ++ [r]) k b ⟨f.fr, [] :: f.h, f.L, 0⟩ with
    | none => rw [hh] at e; cases e
    | some y =>
      rw [hh] at e
      obtain ⟨n, hn⟩ := ih _ _ _ hh
      obtain ⟨x, f'⟩ := y
      cases x with
      | norm =>
        obtain ⟨n2, hn2⟩ := iter_fin ih m _ _ _ e
        refine ⟨max n n2, ?_⟩
        rw [evC_mono (evF_le (Nat.le_max_left n n2)) (Nat.le_refl _) _ _ _ _ hn]
        exact iter_mono (fun r f q e => evC_mono (evF_le (Nat.le_max_right n n2)) (Nat.le_refl _) _ _ _ _ e) _ _ _ _ _ (Nat.le_refl _) hn2
      | exit id => exact ⟨n, by rw [hn]; exact e⟩
      | ret => exact ⟨n, by rw [hn]; exact e⟩
theorem evC_fin {k : Nat} : ∀ (rc : RC) (p : Name) (f : F) (q : X × F), evC C (evW C tab) p k rc f = some q → ∃ n, evC C (evF C tab n) p k rc f = some q := by
  intro rc
  induction rc with
  | skip => intro p f q e; exact ⟨0, e⟩
  | exit id => intro p f q e; exact ⟨0, e⟩
  | ret => intro p f q e; exact ⟨0, e⟩
  | seq a b iha ihb =>
    intro p f q e
    simp only [evC] at e ⊢
    cases ha : evC C (evW C tab) p k a f with
    | none => rw [ha] at e; cases e
    | some r =>
      rw [ha] at e
      obtain ⟨n, hn⟩ := iha _ _ _ ha
      obtain ⟨x, f'⟩ := r
      cases x with
      | norm =>
        obtain ⟨m, hm⟩ := ihb _ _ _ e
        exact ⟨max n m, by rw [evC_mono (evF_le (Nat.le_max_left n m)) (Nat.le_refl _) _ _ _ _ hn]; exact evC_mono (evF_le (Nat.le_max_right n m)) (Nat.le_refl _) _ _ _ _ hm⟩
      | exit id => exact ⟨n, by rw [hn]; exact e⟩
      | ret => exact ⟨n, by rw [hn]; exact e⟩
  | cond o a b iha ihb =>
    intro p f q e
    simp only [evC] at e ⊢
    split at e
    · split at e
      · rename_i hb; obtain ⟨n, hn⟩ := iha _ _ _ e; exact ⟨n, by simp only [hb, if_true]; exact hn⟩
      · rename_i hb; obtain ⟨n, hn⟩ := ihb _ _ _ e; exact ⟨n, by simp only [hb]; exact hn⟩
    · cases e
  | block id b ih =>
    intro p f q e
    simp only [evC] at e ⊢
    cases ha : evC C (evW C tab) p k b f with
    | none => rw [ha] at e; cases e
    | some r => rw [ha] at e; obtain ⟨n, hn⟩ := ih _ _ _ ha; exact ⟨n, by rw [hn]; exact e⟩
  | loop keep out b ih =>
    intro p f q e
    simp only [evC] at e ⊢
    obtain ⟨r, hr, e⟩ := Option.map_eq_some_iff.1 e
    obtain ⟨n, hn⟩ := iter_fin ih _ _ _ _ hr
    exact ⟨n, by rw [hn, ← e]; rfl⟩
  | reg prs ops =>
    intro p f q e
    simp only [evC] at e ⊢
    obtain ⟨r, hr, e⟩ := Option.map_eq_some_iff.1 e
    obtain ⟨n, hn⟩ := evReg_fin hr
    exact ⟨n, by rw [hn, ← e]; rfl⟩

open Classical in
/-- Code, with fuel enough. -/
noncomputable def evL (C : Cfg) (tab : FuncId → Option RFn) (p : Name) (rc : RC) (f : F) : Option (X × F) :=
  if e : ∃ q n, evC C (evW C tab) p n rc f = some q then some e.choose else none
theorem evL_iff {rc : RC} {f : F} {q : X × F} : evL C tab p rc f = some q ↔ ∃ n, evC C (evW C tab) p n rc f = some q := by
  constructor
  · intro e
    unfold evL at e
    split at e
    · rename_i hh; cases e; exact hh.choose_spec
    · cases e
  · rintro ⟨n, hn⟩
    unfold evL
    have hh : ∃ q n, evC C (evW C tab) p n rc f = some q := ⟨q, n, hn⟩
    rw [dif_pos hh]
    obtain ⟨m, hm⟩ := hh.choose_spec
    have h1 := evC_mono (Le.refl _) (Nat.le_max_left n m) _ _ _ _ hn
    have h2 := evC_mono (Le.refl _) (Nat.le_max_right n m) _ _ _ _ hm
    rw [h1] at h2
    rw [← Option.some.inj h2]
theorem opt_ext {α : Type} {a b : Option α} (h : ∀ q, a = some q ↔ b = some q) : a = b := by
  cases a with
  | none => cases b with
    | none => rfl
    | some y => exact ((h y).2 rfl)
  | some x => exact ((h x).1 rfl).symm
/-- A function, by its row. -/
theorem evW_fn {f : FuncId} {F : RFn} (hF : tab f = some F) {xs : List T} {x : X} {g : AE.F} {r : List T} (hx : evL C tab nm F.body { fr := argF xs 0, h := [] :: h, L := [], k := 0 } = some (x, g)) (hne : ∀ id, x ≠ .exit id) (hr : eRVs g.fr g.h F.rs = some r) :
    evW C tab f nm xs h = some (finF g.L g.h (tupOf r)) := by
  obtain ⟨n, hn⟩ := evL_iff.1 hx
  obtain ⟨m, hm⟩ := evC_fin _ _ _ _ hn
  have h1 := evC_mono (evF_le (Nat.le_max_right n m)) (Nat.le_max_left n m) _ _ _ _ hm
  refine evW_iff.2 ⟨max n m + 1, ?_⟩
  rw [evF, hF, Option.bind_some, h1]
  cases x with
  | norm => simp only [hr]; rfl
  | ret => simp only [hr]; rfl
  | exit id => exact absurd rfl (hne id)
@[simp] theorem evL_skip {f : F} : evL C tab p .skip f = some (.norm, f) := evL_iff.2 ⟨0, rfl⟩
@[simp] theorem evL_exit {id : Nat} {f : F} : evL C tab p (.exit id) f = some (.exit id, f) := evL_iff.2 ⟨0, rfl⟩
@[simp] theorem evL_ret {f : F} : evL C tab p .ret f = some (.ret, f) := evL_iff.2 ⟨0, rfl⟩
theorem evL_reg {prs : List (Nat × Nat)} {ops : List ROp} {f : F} : evL C tab p (.reg prs ops) f = (evReg C (evW C tab) (p ++ [f.k]) prs ops f.fr f.h f.L).map fun q => (.norm, { fr := q.1, h := q.2.1, L := q.2.2, k := f.k + 1 }) :=
  opt_ext fun q => by rw [evL_iff]; simp only [evC]; exact ⟨fun ⟨n, h⟩ => h, fun h => ⟨0, h⟩⟩
theorem evL_seq {a b : RC} {f : F} : evL C tab p (.seq a b) f = match evL C tab p a f with | some (.norm, f') => evL C tab p b f' | r => r := by
  refine opt_ext fun q => ?_
  rw [evL_iff]
  constructor
  · rintro ⟨n, hn⟩
    simp only [evC] at hn
    cases ha : evC C (evW C tab) p n a f with
    | none => rw [ha] at hn; cases hn
    | some r =>
      rw [ha] at hn
      rw [evL_iff.2 ⟨n, ha⟩]
      obtain ⟨x, f'⟩ := r
      cases x with
      | norm => exact evL_iff.2 ⟨n, hn⟩
      | exit id => exact hn
      | ret => exact hn
  · intro e
    cases ha : evL C tab p a f with
    | none => rw [ha] at e; cases e
    | some r =>
      rw [ha] at e
      obtain ⟨n, hn⟩ := evL_iff.1 ha
      obtain ⟨x, f'⟩ := r
      cases x with
      | norm =>
        obtain ⟨m, hm⟩ := evL_iff.1 e
        refine ⟨max n m, ?_⟩
        simp only [evC]
        rw [evC_mono (Le.refl _) (Nat.le_max_left n m) _ _ _ _ hn]
        exact evC_mono (Le.refl _) (Nat.le_max_right n m) _ _ _ _ hm
      | exit id => exact ⟨n, by simp only [evC]; rw [hn]; exact e⟩
      | ret => exact ⟨n, by simp only [evC]; rw [hn]; exact e⟩
theorem evL_cond {o : O} {a b : RC} {f : F} {t : Bool} (ho : eO f.fr o = some (.v (.bool t))) : evL C tab p (.cond o a b) f = if t then evL C tab p a f else evL C tab p b f := by
  refine opt_ext fun q => ?_
  rw [evL_iff]
  cases t with
  | true => simp only [if_true]; rw [evL_iff]; exact exists_congr fun n => by simp only [evC, ho, if_true]
  | false => simp only [Bool.false_eq_true, if_false]; rw [evL_iff]; exact exists_congr fun n => by simp only [evC, ho]; simp
theorem evL_block {id : Nat} {b : RC} {f : F} : evL C tab p (.block id b) f = match evL C tab p b f with | some (.exit j, f') => if j = id then some (.norm, f') else some (.exit j, f') | r => r := by
  refine opt_ext fun q => ?_
  rw [evL_iff]
  constructor
  · rintro ⟨n, hn⟩
    simp only [evC] at hn
    cases ha : evC C (evW C tab) p n b f with
    | none => rw [ha] at hn; cases hn
    | some r => rw [ha] at hn; rw [evL_iff.2 ⟨n, ha⟩]; exact hn
  · intro e
    cases ha : evL C tab p b f with
    | none => rw [ha] at e; cases e
    | some r =>
      obtain ⟨n, hn⟩ := evL_iff.1 ha
      exact ⟨n, by simp only [evC]; rw [hn]; rw [ha] at e; exact e⟩
open Classical in
/-- Rounds, with fuel enough. -/
noncomputable def evI (C : Cfg) (tab : FuncId → Option RFn) (p : Name) (keep out : List Nat) (b : RC) (r : Nat) (f : F) : Option (X × F) :=
  if e : ∃ q n, iter (fun r g => evC C (evW C tab) (p ++ [r]) n b g) keep out n r f = some q then some e.choose else none
theorem iter_up {keep out : List Nat} {b : RC} {n m r : Nat} {f : F} {q : X × F} (h : n ≤ m) (e : iter (fun r g => evC C (evW C tab) (p ++ [r]) n b g) keep out n r f = some q) : iter (fun r g => evC C (evW C tab) (p ++ [r]) m b g) keep out m r f = some q :=
  iter_mono (fun r f q e => evC_mono (Le.refl _) h _ _ _ _ e) _ _ _ _ _ h e
theorem evI_iff {keep out : List Nat} {b : RC} {r : Nat} {f : F} {q : X × F} : evI C tab p keep out b r f = some q ↔ ∃ n, iter (fun r g => evC C (evW C tab) (p ++ [r]) n b g) keep out n r f = some q := by
  constructor
  · intro e
    unfold evI at e
    split at e
    · rename_i hh; cases e; exact hh.choose_spec
    · cases e
  · rintro ⟨n, hn⟩
    unfold evI
    have hh : ∃ q n, iter (fun r g => evC C (evW C tab) (p ++ [r]) n b g) keep out n r f = some q := ⟨q, n, hn⟩
    rw [dif_pos hh]
    obtain ⟨m, hm⟩ := hh.choose_spec
    have h1 := iter_up (Nat.le_max_left n m) hn
    have h2 := iter_up (Nat.le_max_right n m) hm
    rw [h1] at h2
    rw [← Option.some.inj h2]
theorem evL_loop {keep out : List Nat} {b : RC} {f : F} : evL C tab p (.loop keep out b) f = (evI C tab (p ++ [f.k]) keep out b 0 ⟨keepF keep f.fr, f.h, f.L, 0⟩).map fun q => (q.1, { q.2 with k := f.k + 1 }) := by
  refine opt_ext fun q => ?_
  rw [evL_iff]
  constructor
  · rintro ⟨n, hn⟩
    simp only [evC] at hn
    obtain ⟨r, hr, e⟩ := Option.map_eq_some_iff.1 hn
    rw [evI_iff.2 ⟨n, hr⟩, ← e]; rfl
  · intro e
    obtain ⟨r, hr, e⟩ := Option.map_eq_some_iff.1 e
    obtain ⟨n, hn⟩ := evI_iff.1 hr
    exact ⟨n, by simp only [evC]; rw [hn, ← e]; rfl⟩
/-- One round. -/
theorem evI_round {keep out : List Nat} {b : RC} {r : Nat} {f : F} : evI C tab p keep out b r f = match evL C tab (p ++ [r]) b ⟨f.fr, [] :: f.h, f.L, 0⟩ with
    | none => none
    | some (.norm, f') => evI C tab p keep out b (r + 1) ⟨keepF keep f'.fr, f'.h.tail, f'.L, 0⟩
    | some (x, f') => some (x, ⟨keepF out f'.fr, f'.h.tail, f'.L, 0⟩) := by
  refine opt_ext fun q => ?_
  rw [evI_iff]
  constructor
  · rintro ⟨n, hn⟩
    cases n with
    | zero => cases hn
    | succ n =>
      simp only [iter] at hn
      cases ha : evC C (evW C tab) (p ++ [r]) (n + 1) b ⟨f.fr, [] :: f.h, f.L, 0⟩ with
      | none => rw [ha] at hn; cases hn
      | some y =>
        rw [ha] at hn
        rw [evL_iff.2 ⟨n + 1, ha⟩]
        obtain ⟨x, f'⟩ := y
        cases x with
        | norm => exact evI_iff.2 ⟨n + 1, iter_mono (fun r f q e => e) n (n + 1) _ _ _ (Nat.le_succ n) hn⟩
        | exit id => exact hn
        | ret => exact hn
  · intro e
    cases ha : evL C tab (p ++ [r]) b ⟨f.fr, [] :: f.h, f.L, 0⟩ with
    | none => rw [ha] at e; cases e
    | some y =>
      rw [ha] at e
      obtain ⟨n, hn⟩ := evL_iff.1 ha
      obtain ⟨x, f'⟩ := y
      cases x with
      | norm =>
        obtain ⟨m, hm⟩ := evI_iff.1 e
        refine ⟨max n m + 1, ?_⟩
        simp only [iter]
        rw [evC_mono (Le.refl _) (show n ≤ max n m + 1 by omega) _ _ _ _ hn]
        exact iter_mono (fun r f q e => evC_mono (Le.refl _) (show m ≤ max n m + 1 by omega) _ _ _ _ e) m (max n m) _ _ _ (Nat.le_max_right n m) hm
      | exit id => exact ⟨n + 1, by simp only [iter]; rw [evC_mono (Le.refl _) (Nat.le_succ n) _ _ _ _ hn]; exact e⟩
      | ret => exact ⟨n + 1, by simp only [iter]; rw [evC_mono (Le.refl _) (Nat.le_succ n) _ _ _ _ hn]; exact e⟩
end
end Go.AE
