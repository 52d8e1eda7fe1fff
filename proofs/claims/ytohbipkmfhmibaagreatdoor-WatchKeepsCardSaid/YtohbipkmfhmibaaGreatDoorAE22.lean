import Derived.Test.YtohbipkmfhmibaaGreatDoorAE21
/-! AE22: what an operation comes to rests on what it touches alone. -/
set_option linter.unusedVariables false
set_option linter.unusedSimpArgs false
namespace Go.AE
open Go.RowKit Go.LB

structure Act1 (nm : Name) (ns : Heap → List Name) (hc tc : Nat) (cs : List Name) (z : Heap → List Name → Res) (h : Heap) (L : List Name) (x : T) (h' : Heap) (L' : List Name) (add : List Name) : Prop where
  has : ∀ n ∈ ns h, (hget h n).isSome
  same : hc ≤ 1 → h' = h
  new : hc ≠ 3 → ∀ n, ¬ nm <+: n → hget h' n = hget h n
  out : ∀ n, n ∉ ns h → ¬ nm <+: n → hget h' n = hget h n
  take : ∀ c ∈ cs, c ∈ L
  add0 : tc = 0 → add = []
  addU : ∀ n ∈ add, nm <+: n
  tok : ∀ n, n ∈ L' ↔ n ∈ add ∨ (n ∈ L ∧ n ∉ cs)
  tr : ∀ h2 L2, (∀ n ∈ ns h, hget h2 n = hget h n) → (∀ n, nm <+: n → hget h2 n = hget h n) → (∀ c ∈ cs, c ∈ L2) →
    ns h2 = ns h ∧ ∃ h2' L2', z h2 L2 = .some (x, h2', L2') ∧ (∀ n, n ∈ ns h ∨ nm <+: n → hget h2' n = hget h' n) ∧ (∀ n, n ∉ ns h → ¬ nm <+: n → hget h2' n = hget h2 n) ∧ ∀ n, n ∈ L2' ↔ n ∈ add ∨ (n ∈ L2 ∧ n ∉ cs)
def Act (nm : Name) (ns : Heap → List Name) (hc tc : Nat) (cs : List Name) (z : Heap → List Name → Res) : Prop :=
  ∀ h L x h' L', z h L = .some (x, h', L') → ∃ add, Act1 nm ns hc tc cs z h L x h' L' add

section
variable {nm : Name} {ns : Heap → List Name} {hc tc : Nat} {cs : List Name} {α : Type}
theorem Act.none0 : Act nm ns hc tc cs (fun _ _ => Option.none) := fun _ _ _ _ _ e => by cases e
theorem Act.bind {o : Option α} {f : α → Heap → List Name → Res} (hf : ∀ a, o = .some a → Act nm ns hc tc cs (f a)) : Act nm ns hc tc cs (fun h L => o.bind fun a => f a h L) := by
  cases o with
  | none => exact Act.none0
  | some a => simpa using hf a rfl
theorem Act.val {x : T} : Act nm (fun _ => []) hc tc [] (fun h L => .some (x, h, L)) := by
  intro h L y h' L' e
  cases e
  refine ⟨[], by simp, fun _ => rfl, fun _ _ _ => rfl, fun _ _ _ => rfl, by simp, fun _ => rfl, by simp, by simp, ?_⟩
  intro h2 L2 _ h3 _
  exact ⟨rfl, h2, L2, rfl, fun n hn => h3 n (hn.elim (fun q => by cases q) id), fun _ _ _ => rfl, by simp⟩
theorem Act.map {o : Option α} {f : α → T} : Act nm (fun _ => []) hc tc [] (fun h L => o.map fun y => (f y, h, L)) := by
  cases o with
  | none => exact Act.none0
  | some a => exact Act.val
theorem Act.ite {c : Prop} [Decidable c] {f g : Heap → List Name → Res} (h1 : c → Act nm ns hc tc cs f) (h2 : ¬ c → Act nm ns hc tc cs g) : Act nm ns hc tc cs (fun h L => if c then f h L else g h L) := by
  by_cases hc : c
  · simpa [hc] using h1 hc
  · simpa [hc] using h2 hc
/-- A block is read. -/
theorem Act.read {m : Name} {g : Heap → Option T} (hc1 : hc ≠ 2) (hg : ∀ h h2, hget h2 m = hget h m → g h2 = g h) (hs : ∀ h x, g h = .some x → (hget h m).isSome) : Act nm (fun _ => [m]) hc tc [] (fun h L => (g h).map fun x => (x, h, L)) := by
  intro h L x h' L' e
  obtain ⟨y, hy, e⟩ := Option.map_eq_some_iff.1 e
  cases e
  refine ⟨[], by simpa using hs _ _ hy, fun _ => rfl, fun _ _ _ => rfl, fun _ _ _ => rfl, by simp, fun _ => rfl, by simp, by simp, ?_⟩
  intro h2 L2 h4 h3 _
  refine ⟨rfl, h2, L2, by show (g h2).map _ = _; rw [hg h h2 (h4 m (by simp)), hy]; rfl, fun n hn => ?_, fun _ _ _ => rfl, by simp⟩
  rcases hn with hn | hn
  · exact h4 n hn
  · exact h3 n hn
theorem Act.write {m : Name} {g : Heap → Option (T × Heap)} (hg : ∀ h x h', g h = .some (x, h') → (hget h m).isSome ∧ ∃ b, h' = hset h m b ∧ ∀ h2, hget h2 m = hget h m → g h2 = .some (x, hset h2 m b)) : Act nm (fun _ => [m]) 3 0 [] (fun h L => (g h).map fun r => (r.1, r.2, L)) := by
  intro h L x h' L' e
  obtain ⟨⟨y, hh⟩, hy, e⟩ := Option.map_eq_some_iff.1 e
  cases e
  obtain ⟨h1, b, rfl, h2⟩ := hg _ _ _ hy
  have hne : ∀ n, n ≠ m → hget (hset h m b) n = hget h n := fun n hn => by rw [hget_hset h m n b h1, if_neg (Ne.symm hn)]
  refine ⟨[], by simpa using h1, fun q => absurd q (by simp), fun q => absurd rfl q, fun n hn _ => hne n (by simpa using hn), by simp, fun _ => rfl, by simp, by simp, ?_⟩
  intro k L2 h4 h3 _
  have hk : hget k m = hget h m := h4 m (by simp)
  have h1k : (hget k m).isSome := by rw [hk]; exact h1
  have hnk : ∀ n, n ≠ m → hget (hset k m b) n = hget k n := fun n hn => by rw [hget_hset k m n b h1k, if_neg (Ne.symm hn)]
  refine ⟨rfl, hset k m b, L2, by show (g k).map _ = _; rw [h2 k hk]; rfl, fun n hn => ?_, fun n hn _ => hnk n (by simpa using hn), by simp⟩
  by_cases e : n = m
  · subst e; rw [hget_hset k n n b h1k, hget_hset h n n b h1]; simp
  · rw [hnk n e, hne n e]
    rcases hn with hn | hn
    · exact absurd (by simpa using hn) e
    · exact h3 n hn
theorem pre_refl (nm : Name) : nm <+: nm := ⟨[], by simp⟩
theorem Act.mk {x : T} {b : Blk} (h2c : hc = 2 ∨ hc = 3) : Act nm (fun _ => []) hc tc [] (fun h L => .some (x, hnew h nm b, L)) := by
  intro h L y h' L' e
  cases e
  have hne : ∀ (k : Heap) n, ¬ nm <+: n → hget (hnew k nm b) n = hget k n := fun k n hn => by
    rw [hget_hnew, if_neg (fun e => hn (by subst e; exact pre_refl _))]
  refine ⟨[], by simp, fun q => by omega, fun _ n hn => hne h n hn, fun n _ hn => hne h n hn, by simp, fun _ => rfl, by simp, by simp, ?_⟩
  intro h2 L2 _ h3 _
  refine ⟨rfl, hnew h2 nm b, L2, rfl, fun n hn => ?_, fun n _ hn => hne h2 n hn, by simp⟩
  rw [hget_hnew, hget_hnew]
  split
  · rfl
  · exact h3 n (hn.elim (fun q => by cases q) id)
/-- Tokens are laid. -/
theorem Act.laid {x : T} {ts : List Name} (ht : tc ≠ 0) (hts : ∀ n ∈ ts, nm <+: n) : Act nm (fun _ => []) hc tc [] (fun h L => .some (x, h, ts ++ L)) := by
  intro h L y h' L' e
  cases e
  refine ⟨ts, by simp, fun _ => rfl, fun _ _ _ => rfl, fun _ _ _ => rfl, by simp, fun q => absurd q ht, hts, by simp, ?_⟩
  intro h2 L2 _ h3 _
  exact ⟨rfl, h2, ts ++ L2, rfl, fun n hn => h3 n (hn.elim (fun q => by cases q) id), fun _ _ _ => rfl, by simp⟩
theorem toksU_pre {x : T} : ∀ n ∈ toksU nm x, nm <+: n := fun n hn => by
  have := (List.mem_filter.1 hn).2
  simpa using this
def tkOf : T → List Name
  | .sl _ (.own n _) => [n]
  | _ => []
/-- An append, its source told. -/
theorem Act.app {k lim : Nat} {x : T} {m : List T} : Act nm (fun _ => []) hc 3 (tkOf x) (fun h L => (eApp k lim nm x m L).map fun r => (r.1, h, r.2)) := by
  intro h L y h' L' e
  unfold tkOf
  obtain ⟨⟨y, L'⟩, hy, e⟩ := Option.map_eq_some_iff.1 e
  cases e
  unfold eApp at hy
  split at hy
  case h_2 => cases hy
  rename_i l t
  split at hy
  case isFalse => cases hy
  rename_i hh
  split at hy
  · cases hy
    refine ⟨[nm], by simp, fun _ => rfl, fun _ _ _ => rfl, fun _ _ _ => rfl, by simp, fun q => absurd q (by simp), by simp, by simp, ?_⟩
    intro h2 L2 _ h3 _
    exact ⟨rfl, h2, nm :: L2, by simp [eApp, hh], fun n hn => h3 n (hn.elim (fun q => by cases q) id), fun _ _ _ => rfl, by simp⟩
  · rename_i n k'
    split at hy
    case isFalse => cases hy
    rename_i hn
    cases hy
    refine ⟨[nm], by simp, fun _ => rfl, fun _ _ _ => rfl, fun _ _ _ => rfl, by simpa using hn.2, fun q => absurd q (by simp), by simp, by simp, ?_⟩
    intro h2 L2 _ h3 h5
    have h5' : n ∈ L2 := h5 n (by simp)
    exact ⟨rfl, h2, nm :: L2.filter (· ≠ n), by simp [eApp, hh, hn.1, h5'], fun n hn => h3 n (hn.elim (fun q => by cases q) id), fun _ _ _ => rfl, by simp⟩
  · cases hy
end
end Go.AE
