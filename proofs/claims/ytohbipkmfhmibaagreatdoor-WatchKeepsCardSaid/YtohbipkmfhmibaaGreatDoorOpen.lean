import Derived.Test.YtohbipkmfhmibaaGreatDoorTop
/-! Open: data in memory, as values that are reckoned with. -/
set_option linter.unusedVariables false
namespace Go.AE
open Go.RowKit Go.LB

class TEnc (α : Type) [Enc α] where
  toT : α → List T
  row : Bool
  len : ∀ a, (toT a).length = Enc.size α
  pos : 0 < Enc.size α
  atom : row = false → ∀ a, ∃ x, toT a = [x] ∧ x.cells = [x]
  ok : α → Prop
  okr : ∀ {W : World} {a : α} {cs : List Value}, Enc.rep W (fun _ => True) a cs → ok a
  rel : ∀ {W : World} {a : α} {cs : List Value}, Enc.rep W (fun _ => True) a cs → ∀ ad ks, RelL (E0 ad ks W) W (toT a) cs
theorem ok_reps {α : Type} [Enc α] [TEnc α] {W : World} : ∀ {l : List α} {xs : List Value}, Reps W (fun _ => True) l xs → ∀ a ∈ l, TEnc.ok a
  | [], xs, h => by simp
  | a :: l, xs, h => by
    obtain ⟨b, c, h1, h2, rfl⟩ := h
    intro x hx
    rcases List.mem_cons.1 hx with rfl | hx
    · exact TEnc.okr h1
    · exact ok_reps h2 x hx
/-- A datum as one value. -/
def elT {α : Type} [Enc α] [TEnc α] (a : α) : T := if TEnc.row α then .agg (TEnc.toT a) else (TEnc.toT a).headD (.tup [])
theorem elT_cells {α : Type} [Enc α] [TEnc α] (a : α) : (elT a).cells = TEnc.toT a := by
  unfold elT
  cases h : TEnc.row α with
  | true => rfl
  | false =>
    obtain ⟨x, h1, h2⟩ := TEnc.atom h a
    rw [h1]; simp [h2]
/-- A slice of data. -/
def slT {α : Type} [Enc α] [TEnc α] (l : List α) : T := .sl (l.map elT) .no

theorem rel_reps {α : Type} [Enc α] [TEnc α] {W : World} {ad : Nat → Addr} {ks : List Nat} : ∀ {l : List α} {xs : List Value}, Reps W (fun _ => True) l xs → RelL (E0 ad ks W) W (l.flatMap TEnc.toT) xs
  | [], xs, h => by
    have : xs = [] := h
    subst this; exact RelL.nil _ _
  | a :: l, xs, h => by
    obtain ⟨b, c, h1, h2, rfl⟩ := h
    rw [List.flatMap_cons]
    exact (TEnc.rel h1 ad ks).append (rel_reps h2)
theorem reps_one {α : Type} [Enc α] {W : World} {F : Nat → Prop} {l : List α} {xs : List Value} (h : Reps W F l xs) : ∀ v ∈ xs, v.oneCell' = true := Reps.one h
theorem flat_el {α : Type} [Enc α] [TEnc α] (l : List α) : (l.map elT).flatMap T.cells = l.flatMap TEnc.toT := by
  induction l with
  | nil => rfl
  | cons a l ih => rw [List.map_cons, List.flatMap_cons, List.flatMap_cons, ih, elT_cells]
theorem rel_sl {α : Type} [Enc α] [TEnc α] {W : World} {ad : Nat → Addr} {ks : List Nat} {l : List α} {v : Value} (h : SlRep W (fun _ => True) l v) : Rel (E0 ad ks W) W (slT l) v := by
  obtain ⟨a, c, xs, rfl, hc, hm, hr, h0⟩ := h
  unfold slT
  by_cases hl : l = []
  · subst hl
    exact .slno (by simp) hm (by simp) a (by simp)
  · rcases h0 with h0 | ⟨b, off, rfl, _, hb, hcell⟩
    · exact absurd h0 hl
    have hrel := rel_reps (ad := ad) (ks := ks) hr
    have hone := reps_one hr
    have hlen : xs.length = (l.flatMap (TEnc.toT (α := α))).length := hrel.1
    have key : ∀ (i : Nat) x, (l.flatMap (TEnc.toT (α := α)))[i]? = some x → ∃ u, xs[i]? = some u ∧ Rel (E0 ad ks W) W x u := fun i x hx => hrel.get hx
    have := Rel.sl (E := E0 ad ks W) (w := W) (l := l.map elT) (t := .no) (b := b) (o := off) (c := c) (k := Enc.size α) (fun i => xs.getD i undef) TEnc.pos (fun x hx => by
      obtain ⟨y, _, rfl⟩ := List.mem_map.1 hx
      rw [elT_cells, TEnc.len]) (by simpa using hc) hm trivial (fun i x hx => by
      rw [flat_el] at hx
      obtain ⟨u, hu, _⟩ := key i x hx
      have e : xs.getD i undef = u := by rw [List.getD_eq_getElem?_getD, hu]; rfl
      rw [e]
      exact ⟨hb, hcell i u hu, hone u (List.mem_of_getElem? hu)⟩) (fun i x hx => by
      rw [flat_el] at hx
      obtain ⟨u, hu, hr⟩ := key i x hx
      have e : xs.getD i undef = u := by rw [List.getD_eq_getElem?_getD, hu]; rfl
      rw [e]; exact hr)
    simpa using this
instance : TEnc UInt8 where
  ok _ := True
  okr _ := trivial
  toT x := [.v (.int .u8 (x.toNat : Int))]
  row := false
  len _ := rfl
  pos := Nat.one_pos
  atom _ a := ⟨_, rfl, rfl⟩
  rel h ad ks := by rw [show _ = _ from h]; exact RelL.cons (.v rfl) (RelL.nil _ _)
instance : TEnc Bool where
  ok _ := True
  okr _ := trivial
  toT x := [.v (.bool x)]
  row := false
  len _ := rfl
  pos := Nat.one_pos
  atom _ a := ⟨_, rfl, rfl⟩
  rel h ad ks := by rw [show _ = _ from h]; exact RelL.cons (.v rfl) (RelL.nil _ _)
instance : TEnc Int where
  ok _ := True
  okr _ := trivial
  toT x := [.v (.int .i64 x)]
  row := false
  len _ := rfl
  pos := Nat.one_pos
  atom _ a := ⟨_, rfl, rfl⟩
  rel h ad ks := by rw [h.1]; exact RelL.cons (.v rfl) (RelL.nil _ _)
instance : TEnc ByteArray where
  ok _ := True
  okr _ := trivial
  toT x := [.v (.string x)]
  row := false
  len _ := rfl
  pos := Nat.one_pos
  atom _ a := ⟨_, rfl, rfl⟩
  rel h ad ks := by rw [h.1]; exact RelL.cons (.v rfl) (RelL.nil _ _)
instance instTEncProd {α β : Type} [Enc α] [Enc β] [TEnc α] [TEnc β] : TEnc (α × β) where
  ok a := TEnc.ok a.1 ∧ TEnc.ok a.2
  okr h := by
    obtain ⟨a, b, h1, h2, rfl⟩ := h
    exact ⟨TEnc.okr h1, TEnc.okr h2⟩
  toT x := TEnc.toT x.1 ++ TEnc.toT x.2
  row := true
  len a := by rw [List.length_append, TEnc.len, TEnc.len]; rfl
  pos := Nat.add_pos_left TEnc.pos _
  atom h := by cases h
  rel h ad ks := by
    obtain ⟨a, b, h1, h2, rfl⟩ := h
    exact (TEnc.rel h1 ad ks).append (TEnc.rel h2 ad ks)
instance instTEncList {α : Type} [Enc α] [TEnc α] : TEnc (List α) where
  ok l := l.length ≤ 9223372036854775807 ∧ ∀ a ∈ l, TEnc.ok a
  okr h := by
    obtain ⟨v, rfl, a, c, xs, rfl, hc, hm, hr, _⟩ := h
    exact ⟨by simp only [maxLen] at hm; omega, ok_reps hr⟩
  toT l := [slT l]
  row := false
  len _ := rfl
  pos := Nat.one_pos
  atom _ a := ⟨_, rfl, rfl⟩
  rel h ad ks := by
    obtain ⟨v, rfl, h⟩ := h
    exact RelL.cons (rel_sl h) (RelL.nil _ _)
theorem flat_len {α : Type} [Enc α] [TEnc α] : ∀ l : List α, (l.flatMap TEnc.toT).length = l.length * Enc.size α
  | [] => by simp
  | a :: l => by rw [List.flatMap_cons, List.length_append, flat_len l, TEnc.len, List.length_cons, Nat.add_mul, Nat.one_mul, Nat.add_comm]
instance instTEncFix {α : Type} [Enc α] [TEnc α] {n : Nat} : TEnc (Fix (n + 1) α) where
  ok x := ∀ a ∈ x.1, TEnc.ok a
  okr h := ok_reps h
  toT x := x.1.flatMap TEnc.toT
  row := true
  len x := by rw [flat_len, x.2]; rfl
  pos := Nat.mul_pos (Nat.succ_pos n) TEnc.pos
  atom h := by cases h
  rel h ad ks := rel_reps h
end Go.AE
