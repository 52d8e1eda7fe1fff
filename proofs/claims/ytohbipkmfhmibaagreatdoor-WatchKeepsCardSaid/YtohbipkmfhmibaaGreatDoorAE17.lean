import Derived.Test.YtohbipkmfhmibaaGreatDoorAE16
import Derived.LoopN
/-! AE17: what operations do to the heap's list. -/
set_option linter.unusedVariables false
set_option linter.unusedSimpArgs false
namespace Go.AE
open Go.RowKit Go.LB

/-- No name stands at two levels. -/
def HU : Heap → Prop
  | [] => True
  | l :: t => (∀ n, lget l n ≠ none → hget t n = none) ∧ HU t
theorem lget_lset_ne {l : List (Name × Blk)} {n m : Name} {x : Blk} (h : lget (lset l n x) m ≠ none) : lget l m ≠ none := by
  induction l with
  | nil => simp [lset, lget] at h
  | cons a l ih =>
    obtain ⟨k, b⟩ := a
    simp only [lset, lget] at *
    split at h
    · simp only [lget] at h
      split at h
      · rename_i e; simp [e]
      · rename_i e; rw [if_neg e]; exact h
    · simp only [lget] at h
      split at h
      · rename_i e; simp [e]
      · rename_i e; rw [if_neg e]; exact ih h
theorem hget_hset_none {h : Heap} {n m : Name} {x : Blk} (hm : hget h m = none) : hget (hset h n x) m = none := by
  by_cases hn : (hget h n).isSome
  · rw [hget_hset h n m x hn, if_neg (fun e => by subst e; simp [hm] at hn)]
    exact hm
  · have : ∀ h : Heap, hget h n = none → hset h n x = h := by
      intro h
      induction h with
      | nil => intro _; rfl
      | cons l t ih =>
        intro hh
        simp only [hget] at hh
        have h1 : lget l n = none := by cases e : lget l n with
          | none => rfl
          | some b => simp [e] at hh
        rw [h1, Option.none_or] at hh
        simp [hset, h1, ih hh]
    rw [this h (by simpa using hn)]
    exact hm
theorem HU_hset : ∀ {h : Heap} {n : Name} {x : Blk}, HU h → HU (hset h n x)
  | [], _, _, _ => trivial
  | l :: t, n, x, ⟨h1, h2⟩ => by
    simp only [hset]
    split
    · exact ⟨fun m hm => h1 m (lget_lset_ne hm), h2⟩
    · exact ⟨fun m hm => hget_hset_none (h1 m hm), HU_hset h2⟩
theorem HU_hnew {h : Heap} {n : Name} {x : Blk} (hh : HU h) (hn : hget h n = none) : HU (hnew h n x) := by
  cases h with
  | nil => exact ⟨fun m _ => rfl, trivial⟩
  | cons l t =>
    obtain ⟨h1, h2⟩ := hh
    refine ⟨fun m hm => ?_, h2⟩
    simp only [lget] at hm
    split at hm
    · rename_i e
      subst e
      simp only [hget] at hn
      cases e : lget l n with
      | none => simpa [e] using hn
      | some b => simp [e] at hn
    · exact h1 m hm
/-- The level on top is left. -/
theorem HU_tail {l : List (Name × Blk)} {t : Heap} (h : HU (l :: t)) : ∀ n x, hget t n = some x → hget (l :: t) n = some x := by
  intro n x hx
  simp only [hget]
  cases e : lget l n with
  | none => simpa using hx
  | some b => have := h.1 n (by simp [e]); rw [this] at hx; cases hx

theorem HU_mergeH {nm : Name} {s : List Name} {g : Heap} : ∀ (l : List Name) {h : Heap}, HU h → HU (mergeH nm s g l h)
  | [], h, hh => hh
  | n :: l, h, hh => by
    simp only [mergeH]
    refine HU_mergeH l ?_
    split
    · exact hh
    · split
      · split
        · exact HU_hset hh
        · exact hh
      · rename_i hn
        split
        · exact HU_hnew hh (by simpa using hn)
        · exact hh
theorem HU_merge {nm : Name} {s : List Name} {g h h' : Heap} (e : merge nm s g h = some h') (hh : HU h) : HU h' := by
  unfold merge at e
  split at e
  · cases e; exact HU_mergeH _ hh
  · cases e
theorem mem_flat {g : Heap} {n : Name} {b : Blk} (h : hget g n = some b) : n ∈ g.flatten.map (·.1) := by
  have hl : ∀ (l : List (Name × Blk)), lget l n ≠ none → n ∈ l.map (·.1) := by
    intro l
    induction l with
    | nil => simp [lget]
    | cons a l ih =>
      simp only [lget]
      split
      · rename_i e; simp [e]
      · intro hh; have := ih hh; simp only [List.map_cons, List.mem_cons]; exact .inr this
  induction g with
  | nil => simp [hget] at h
  | cons l t ih =>
    simp only [hget] at h
    cases e : lget l n with
    | none => rw [e, Option.none_or] at h; have := ih h; simp only [List.flatten_cons, List.map_append, List.mem_append]; exact .inr this
    | some c => have := hl l (by simp [e]); simp only [List.flatten_cons, List.map_append, List.mem_append]; exact .inl this
theorem hget_mergeH {nm : Name} {s : List Name} {g : Heap} : ∀ (l : List Name) (h : Heap) (n : Name), hget (mergeH nm s g l h) n = if (hget h n).isSome then (if n ∈ s ∧ n ∈ l ∧ (hget g n).isSome then hget g n else hget h n) else (if nm.isPrefixOf n = true ∧ n ∈ l then hget g n else none)
  | [], h, n => by
    simp only [mergeH, List.not_mem_nil, false_and, and_false, if_false]
    split
    · rfl
    · rename_i hn; simpa using hn
  | m :: l, h, n => by
    simp only [mergeH]
    rw [hget_mergeH l]
    cases hg : hget g m with
    | none =>
      simp only
      by_cases e : n = m
      · subst e; simp [hg]
      · simp [e]
    | some b =>
      simp only
      by_cases e : n = m
      · subst e
        by_cases hn : (hget h n).isSome
        · simp only [hn, if_true]
          by_cases hs : n ∈ s
          · rw [if_pos hs, hget_hset h n n b hn]
            simp [hs, hg]
          · rw [if_neg hs]
            simp [hs, hn]
        · simp only [hn, if_false]
          by_cases hp : nm.isPrefixOf n = true
          · rw [if_pos hp]
            have hh : hget (hnew h n b) n = some b := by rw [hget_hnew]; simp
            have hf : hget h n = none := by simpa using hn
            simp [hh, hf, hp, hg]
          · rw [if_neg hp]
            simp [hp, hn]
      · have h1 : hget (if (hget h m).isSome then (if m ∈ s then hset h m b else h) else if nm.isPrefixOf m then hnew h m b else h) n = hget h n := by
          split
          · rename_i hm
            split
            · rw [hget_hset h m n b hm, if_neg (fun q => e q.symm)]
            · rfl
          · split
            · rw [hget_hnew, if_neg (fun q => e q.symm)]
            · rfl
        rw [h1]
        simp [e]
theorem hget_merge {nm : Name} {s : List Name} {g h h' : Heap} (e : merge nm s g h = some h') (hs : ∀ n ∈ s, (hget h n).isSome) (n : Name) :
    hget h' n = if n ∈ s then hget g n else if (hget h n).isSome then hget h n else if nm.isPrefixOf n = true then hget g n else none := by
  unfold merge at e
  split at e
  case isFalse => cases e
  rename_i hall
  cases e
  rw [hget_mergeH]
  by_cases h1 : n ∈ s
  · have hg : (hget g n).isSome := by have := List.all_eq_true.1 hall n h1; exact this
    obtain ⟨b, hb⟩ := Option.isSome_iff_exists.1 hg
    have := mem_flat hb
    rw [if_pos (hs n h1), if_pos ⟨h1, this, hg⟩, if_pos h1]
  · rw [if_neg h1]
    simp only [h1, false_and, if_false]
    by_cases h2 : (hget h n).isSome
    · simp [h2]
    · simp only [h2, if_false]
      by_cases h3 : nm.isPrefixOf n = true
      · simp only [h3, true_and, if_true]
        cases hb : hget g n with
        | none => simp
        | some b => rw [if_pos (mem_flat hb)]
      · simp [h3]
theorem reachN_some {h : Heap} : ∀ (k : Nat) (l seen S : List Name), reachN h k l seen = some S → (∀ n ∈ seen, (hget h n).isSome) → (∀ n ∈ S, (hget h n).isSome) ∧ ∀ n ∈ seen, n ∈ S
  | k, [], seen, S, e, hs => by
    have : seen = S := by cases k <;> simpa [reachN] using e
    subst this
    exact ⟨hs, fun n hn => hn⟩
  | 0, _ :: _, _, _, e, hs => by simp [reachN] at e
  | k + 1, m :: l, seen, S, e, hs => by
    simp only [reachN] at e
    split at e
    · exact reachN_some k l seen S e hs
    · split at e
      · rename_i b hb
        obtain ⟨h1, h2⟩ := reachN_some k _ _ S e fun n hn => by
          rw [List.mem_append] at hn
          rcases hn with hn | hn
          · exact hs n hn
          · simp at hn; subst hn; simp [hb]
        exact ⟨h1, fun n hn => h2 n (List.mem_append_left _ hn)⟩
      · cases e
theorem reachN_congr {h h2 : Heap} : ∀ (k : Nat) (l seen S : List Name), reachN h k l seen = some S → (∀ n ∈ seen, (hget h n).isSome) → (∀ n ∈ S, hget h2 n = hget h n) → reachN h2 k l seen = some S
  | k, [], seen, S, e, _, hs => by cases k <;> simpa [reachN] using e
  | 0, _ :: _, _, _, e, _, hs => by simp [reachN] at e
  | k + 1, m :: l, seen, S, e, h0, hs => by
    simp only [reachN] at e ⊢
    split at e
    · rename_i hm; rw [if_pos hm]; exact reachN_congr k l seen S e h0 hs
    · rename_i hm
      rw [if_neg hm]
      split at e
      · rename_i b hb
        have h1 : ∀ n ∈ seen ++ [m], (hget h n).isSome := fun n hn => by
          rw [List.mem_append] at hn
          rcases hn with hn | hn
          · exact h0 n hn
          · simp at hn; subst hn; simp [hb]
        have hmS : m ∈ S := (reachN_some k _ _ S e h1).2 m (by simp)
        rw [hs m hmS, hb]
        exact reachN_congr k _ _ S e h1 hs
      · cases e
theorem reach_some {h : Heap} {xs : List T} {s : List Name} (e : reach h xs = some s) : ∀ n ∈ s, (hget h n).isSome := (reachN_some _ _ _ _ e (by simp)).1
theorem reach_congr {h h2 : Heap} {xs : List T} {s : List Name} (e : reach h xs = some s) (hs : ∀ n ∈ s, hget h2 n = hget h n) : reach h2 xs = some s := reachN_congr _ _ _ _ e (by simp) hs
theorem hget_subH {h : Heap} {s : List Name} (n : Name) : hget (subH h s) n = if n ∈ s then hget h n else none := by
  have key : ∀ s : List Name, lget (s.filterMap fun n => (hget h n).map fun b => (n, b)) n = if n ∈ s then hget h n else none := by
    intro s
    induction s with
    | nil => simp [lget]
    | cons m s ih =>
      rw [List.filterMap_cons]
      cases hm : hget h m with
      | none =>
        simp only [Option.map_none]
        rw [ih]
        by_cases e : n = m
        · subst e; simp [hm]
        · simp [e]
      | some b =>
        simp only [Option.map_some, lget]
        by_cases e : m = n
        · subst e; simp [hm]
        · rw [if_neg e, ih]; simp [Ne.symm e]
  simp [subH, hget, key]
theorem HU_subH {h : Heap} {s : List Name} : HU (subH h s) := ⟨fun _ _ => rfl, trivial⟩
/-- What may become of the heap's list. -/
inductive HStep (nm : Name) (call : FuncId → Name → List T → Heap → Option (T × Heap)) (h : Heap) : Heap → Prop
  | same : HStep nm call h h
  | set (n : Name) (x : Blk) : HStep nm call h (hset h n x)
  | new (x : Blk) : HStep nm call h (hnew h nm x)
  | hu {h' : Heap} (hh : HU h → HU h') : HStep nm call h h'
section
variable {C : Cfg} {E : Env} {h h' : Heap} {live live' : List Name} {w : World} {fr : Fr} {a : Act} {nm : Name} {o : Oper} {r : R} {x : T} {call : FuncId → Name → List T → Heap → Option (T × Heap)}

theorem HStep.map {α : Type} {z : Option α} {f : α → T × Heap × List Name} (hf : ∀ y, z = some y → HStep nm call h (f y).2.1) : ∀ p, z.map f = some p → HStep nm call h p.2.1 := fun p e => by
  obtain ⟨y, hy, rfl⟩ := Option.map_eq_some_iff.1 e; exact hf y hy
theorem HStep.bind {α : Type} {z : Option α} {f : α → Res} (hf : ∀ y, z = some y → ∀ p, f y = some p → HStep nm call h p.2.1) : ∀ p, z.bind f = some p → HStep nm call h p.2.1 := fun p e => by
  obtain ⟨y, hy, e2⟩ := Option.bind_eq_some_iff.1 e; exact hf y hy p e2
theorem HStep.none0 : ∀ p : T × Heap × List Name, (Option.none : Res) = some p → HStep nm call h p.2.1 := fun _ e => by cases e
theorem HStep.some0 {q : T × Heap × List Name} (hq : HStep nm call h q.2.1) : ∀ p, (Option.some q : Res) = some p → HStep nm call h p.2.1 := fun _ e => by cases e; exact hq
theorem HStep.eCall {f : FuncId} {xs : List T} : ∀ p, AE.eCall C call nm f xs h live = some p → HStep nm call h p.2.1 := by
  unfold AE.eCall
  split
  · exact HStep.map fun _ _ => .same
  · split
    · exact HStep.map fun _ _ => .same
    · exact HStep.bind fun s _ => HStep.bind fun y _ => HStep.map fun z hz => .hu (HU_merge hz)
theorem evR_heap : ∀ p, evR C call fr nm h live r = some p → HStep nm call h p.2.1 := by
  cases r <;> simp only [evR]
  case store n p q =>
    refine HStep.bind fun _ _ => HStep.bind fun _ _ => HStep.map fun y hy => ?_
    unfold eStore at hy
    repeat' split at hy
    all_goals first | (cases hy; exact .set _ _) | cases hy
  case mset =>
    refine HStep.bind fun _ _ => HStep.bind fun _ _ => HStep.bind fun _ _ => HStep.map fun y hy => ?_
    unfold eMapSet at hy
    repeat' split at hy
    all_goals first | (obtain ⟨z, _, hz⟩ := Option.bind_eq_some_iff.1 hy; split at hz <;> (cases hz; exact .set _ _)) | cases hy
  case ment =>
    refine HStep.bind fun _ _ => HStep.bind fun _ _ => HStep.map fun y hy => ?_
    unfold eMapEntry at hy
    repeat' split at hy
    all_goals first | (obtain ⟨z, _, hz⟩ := Option.bind_eq_some_iff.1 hy; split at hz <;> (cases hz; exact .set _ _)) | cases hy
  case mst =>
    refine HStep.bind fun _ _ => HStep.bind fun _ _ => HStep.bind fun _ _ => HStep.map fun y hy => ?_
    unfold eEntrySet at hy
    repeat' split at hy
    all_goals first | (obtain ⟨z, _, hz⟩ := Option.bind_eq_some_iff.1 hy; cases hz; exact .set _ _) | cases hy
  case mdel =>
    refine HStep.bind fun _ _ => HStep.bind fun _ _ => HStep.map fun y hy => ?_
    unfold eDel at hy
    repeat' split at hy
    all_goals first | (obtain ⟨z, _, hz⟩ := Option.bind_eq_some_iff.1 hy; split at hz <;> (cases hz; exact .set _ _)) | cases hy
  case copy =>
    refine HStep.bind fun _ _ => HStep.bind fun _ _ => ?_
    split
    · refine HStep.map fun y hy => ?_
      unfold eCopy at hy
      repeat' split at hy
      all_goals first | (cases hy; exact .set _ _) | cases hy
    · exact HStep.none0
  case mksl =>
    refine HStep.bind fun _ _ => HStep.bind fun _ _ => ?_
    unfold eMake
    refine HStep.bind fun _ _ => HStep.bind fun _ _ => ?_
    split
    · exact HStep.some0 .same
    · exact HStep.some0 (.new _)
  case box =>
    refine HStep.bind fun _ _ => ?_
    split
    · exact HStep.none0
    · exact HStep.some0 (.new _)
  case mkmap => exact HStep.some0 (.new _)
  case bad => exact HStep.none0
  case call => exact HStep.bind fun _ _ => HStep.eCall
  case callv =>
    refine HStep.bind fun _ _ => HStep.bind fun _ _ => ?_
    split
    · exact HStep.eCall
    · exact HStep.none0
  all_goals (repeat' (first | exact HStep.none0 | exact HStep.some0 .same | (refine HStep.map fun _ _ => ?_; exact .same) | (refine HStep.bind fun _ _ => ?_) | split))
end
end Go.AE
