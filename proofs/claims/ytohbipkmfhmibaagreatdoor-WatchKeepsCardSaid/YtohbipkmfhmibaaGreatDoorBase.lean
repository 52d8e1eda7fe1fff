import Derived.WalkKit
import Derived.WalkSpells
import Derived.WalkLawsBesides
import Derived.Lib.Hide
import Derived.Deep.LoopGhost
import Derived.Deep.QuietTactic
import Derived.BigQuiet
/-! Base: frames and data in memory, for every text of this place. -/
set_option linter.unusedVariables false
namespace Go.LB
open Go.RowKit

/-- Of the blocks that were there, all but those of M are as they were. -/
structure Keep (M : Nat → Prop) (w w' : World) : Prop where
  os : w'.os = w.os
  tape : w'.tape = w.tape
  output : w'.output = w.output
  size : w.heap.size ≤ w'.heap.size
  block : ∀ k, k < w.heap.size → ¬ M k → w'.heap[k]? = w.heap[k]?

/-- No block that was there has turned. -/
abbrev New (w w' : World) : Prop := Keep (fun _ => False) w w'

theorem Keep.refl (M : Nat → Prop) (w : World) : Keep M w w := ⟨rfl, rfl, rfl, Nat.le_refl _, fun _ _ _ => rfl⟩
theorem Keep.trans {M : Nat → Prop} {a b c : World} (h : Keep M a b) (k : Keep M b c) : Keep M a c :=
  ⟨k.os.trans h.os, k.tape.trans h.tape, k.output.trans h.output, Nat.le_trans h.size k.size, fun i hi hm => (k.block i (Nat.lt_of_lt_of_le hi h.size) hm).trans (h.block i hi hm)⟩
/-- Behind the first step new blocks may be written. -/
theorem Keep.then {M M' : Nat → Prop} {a b c : World} (h : Keep M a b) (k : Keep M' b c) (hm : ∀ i, i < a.heap.size → M' i → M i) : Keep M a c :=
  ⟨k.os.trans h.os, k.tape.trans h.tape, k.output.trans h.output, Nat.le_trans h.size k.size, fun i hi hn => (k.block i (Nat.lt_of_lt_of_le hi h.size) (fun x => hn (hm i hi x))).trans (h.block i hi hn)⟩
theorem Keep.weaken {M M' : Nat → Prop} {a b : World} (h : Keep M a b) (hm : ∀ i, i < a.heap.size → M i → M' i) : Keep M' a b :=
  ⟨h.os, h.tape, h.output, h.size, fun i hi hn => h.block i hi (fun x => hn (hm i hi x))⟩
theorem Keep.drew {M : Nat → Prop} {a w : World} (h : Keep M a w) : Keep M a w.drew := ⟨h.os, h.tape, h.output, h.size, h.block⟩
theorem Keep.drewN {M : Nat → Prop} {a w : World} (h : Keep M a w) (n : Nat) : Keep M a (w.drewN n) := ⟨h.os, h.tape, h.output, h.size, h.block⟩
theorem Keep.alloc {M : Nat → Prop} {a w : World} (h : Keep M a w) (o : Obj) : Keep M a (w.alloc o) :=
  h.trans ⟨rfl, rfl, rfl, by simp, fun k hk _ => Below.heap_alloc _ _ _ hk⟩
theorem Keep.setCell {M : Nat → Prop} {a w : World} (h : Keep M a w) {p : Addr} (hp : p.block < a.heap.size → M p.block) (u : Value) : Keep M a (w.setCell p u) :=
  ⟨h.os, h.tape, h.output, by simpa [World.setCell] using h.size, fun k hk hm => (Below.heap_setCell w p u k (fun e => hm (e ▸ hp (e ▸ hk)))).trans (h.block k hk hm)⟩
theorem Keep.cell {M : Nat → Prop} {w w' : World} (h : Keep M w w') {p : Addr} (hp : p.block < w.heap.size) (hm : ¬ M p.block) : w'.cell? p = w.cell? p := World.cell?_of_block (h.block _ hp hm)
theorem Keep.frozen {M : Nat → Prop} {w w' : World} (h : Keep M w w') {p : Addr} (hp : p.block < w.heap.size) (hm : ¬ M p.block) : w'.frozen? p = w.frozen? p := World.frozen?_of_block (h.block _ hp hm)
theorem Keep.below {w w' : World} (h : New w w') : Below w.heap.size w w' := ⟨h.os, h.tape, h.output, h.size, fun k hk => h.block k hk id⟩
theorem Keep.of_below {w w' : World} (h : Below w.heap.size w w') : New w w' := ⟨h.os, h.tape, h.output, h.size, fun k hk _ => h.block k hk⟩
theorem New.to {M : Nat → Prop} {a b : World} (h : New a b) : Keep M a b := h.weaken fun _ _ x => x.elim

/-- Data in cells: 'rep w F x cs': the cells cs are x, in the world w; what it reads behind pointers lies in blocks of F. -/
class Enc (α : Type) where
  size : Nat
  rep : World → (Nat → Prop) → α → List Value → Prop
  len : ∀ {w F x cs}, rep w F x cs → cs.length = size
  one : ∀ {w F x cs}, rep w F x cs → ∀ v ∈ cs, v.oneCell' = true
  move : ∀ {w w' F x cs}, rep w F x cs → w.heap.size ≤ w'.heap.size → (∀ k, k < w.heap.size → F k → w'.heap[k]? = w.heap[k]?) → rep w' F x cs
  sub : ∀ {w F F' x cs}, rep w F x cs → (∀ k, k < w.heap.size → F k → F' k) → rep w F' x cs

section
variable {α : Type} [Enc α] {w w' : World} {F F' M : Nat → Prop}
theorem rep_keep {x : α} {cs : List Value} (h : Enc.rep w F x cs) (k : Keep M w w') (hm : ∀ i, i < w.heap.size → F i → ¬ M i) : Enc.rep w' F x cs :=
  Enc.move h k.size fun i hi hf => k.block i hi (hm i hi hf)
theorem rep_new {x : α} {cs : List Value} (h : Enc.rep w F x cs) (k : New w w') : Enc.rep w' F x cs := rep_keep h k fun _ _ _ x => x

/-- A row of data: one behind the other. -/
def Reps (w : World) (F : Nat → Prop) : List α → List Value → Prop
  | [], xs => xs = []
  | x :: l, xs => ∃ cs ys, Enc.rep w F x cs ∧ Reps w F l ys ∧ xs = cs ++ ys

theorem Reps.length : ∀ {l : List α} {xs : List Value}, Reps w F l xs → xs.length = l.length * Enc.size α
  | [], _, h => by cases h; simp
  | x :: l, _, ⟨cs, ys, h, hs, e⟩ => by rw [e, List.length_append, Enc.len h, Reps.length hs, List.length_cons, Nat.add_mul, Nat.one_mul, Nat.add_comm]
theorem Reps.one : ∀ {l : List α} {xs : List Value}, Reps w F l xs → ∀ v ∈ xs, v.oneCell' = true
  | [], _, h => by cases h; simp
  | x :: l, _, ⟨cs, ys, h, hs, e⟩ => by
    intro v hv
    rw [e, List.mem_append] at hv
    exact hv.elim (Enc.one h v) (Reps.one hs v)
theorem Reps.move : ∀ {l : List α} {xs : List Value}, Reps w F l xs → w.heap.size ≤ w'.heap.size → (∀ k, k < w.heap.size → F k → w'.heap[k]? = w.heap[k]?) → Reps w' F l xs
  | [], _, h, _, _ => h
  | x :: l, _, ⟨cs, ys, h, hs, e⟩, a, b => ⟨cs, ys, Enc.move h a b, Reps.move hs a b, e⟩
theorem Reps.sub : ∀ {l : List α} {xs : List Value}, Reps w F l xs → (∀ k, k < w.heap.size → F k → F' k) → Reps w F' l xs
  | [], _, h, _ => h
  | x :: l, _, ⟨cs, ys, h, hs, e⟩, b => ⟨cs, ys, Enc.sub h b, Reps.sub hs b, e⟩
theorem Reps.append : ∀ {l m : List α} {xs ys : List Value}, Reps w F l xs → Reps w F m ys → Reps w F (l ++ m) (xs ++ ys)
  | [], m, _, ys, h, k => by cases h; exact k
  | x :: l, m, _, zs, ⟨cs, ys, h, hs, e⟩, k => ⟨cs, ys ++ zs, h, Reps.append hs k, by rw [e, List.append_assoc]⟩
theorem Reps.split : ∀ {l m : List α} {xs : List Value}, Reps w F (l ++ m) xs → ∃ as bs, Reps w F l as ∧ Reps w F m bs ∧ xs = as ++ bs
  | [], m, xs, h => ⟨[], xs, rfl, h, rfl⟩
  | x :: l, m, _, ⟨cs, ys, h, hs, e⟩ => by
    obtain ⟨as, bs, h1, h2, rfl⟩ := Reps.split hs
    exact ⟨cs ++ as, bs, ⟨cs, as, h, h1, rfl⟩, h2, by rw [e, List.append_assoc]⟩
theorem Reps.cons {x : α} {l : List α} {cs ys : List Value} (h : Enc.rep w F x cs) (hs : Reps w F l ys) : Reps w F (x :: l) (cs ++ ys) := ⟨cs, ys, h, hs, rfl⟩
theorem Reps.single {x : α} {cs : List Value} (h : Enc.rep w F x cs) : Reps w F [x] cs := ⟨cs, [], h, rfl, by simp⟩
theorem Reps.out {x : α} {cs : List Value} (h : Reps w F [x] cs) : Enc.rep w F x cs := by
  obtain ⟨cs, ys, h, e, rfl⟩ := h
  cases e
  simpa using h
/-- Element i, and where its cells are. -/
theorem Reps.at {l : List α} {xs : List Value} (h : Reps w F l xs) (i : Nat) (hi : i < l.length) :
    ∃ cs, Enc.rep w F l[i] cs ∧ ∀ (j : Nat) v, cs[j]? = some v → xs[i * Enc.size α + j]? = some v := by
  induction l generalizing xs i with
  | nil => simp at hi
  | cons x l ih =>
    obtain ⟨cs, ys, h, hs, rfl⟩ := h
    cases i with
    | zero =>
      refine ⟨cs, h, fun j v hj => ?_⟩
      rw [Nat.zero_mul, Nat.zero_add, List.getElem?_append_left (List.getElem?_eq_some_iff.1 hj).1]
      exact hj
    | succ i =>
      obtain ⟨es, h1, h2⟩ := ih hs i (by simpa using hi)
      refine ⟨es, h1, fun j v hj => ?_⟩
      rw [List.getElem?_append_right (by rw [Enc.len h, Nat.add_mul]; omega), Enc.len h]
      rw [show (i + 1) * Enc.size α + j - Enc.size α = i * Enc.size α + j by rw [Nat.add_mul]; omega]
      exact h2 j v hj
end

/-- The cells xs lie at an address. -/
def CellsAt (w : World) (b off : Nat) (xs : List Value) : Prop := ∀ (j : Nat) v, xs[j]? = some v → w.cell? ⟨b, off + j, none⟩ = some v
theorem CellsAt.move {w w' : World} {b off : Nat} {xs : List Value} (h : CellsAt w b off xs) (hb : w'.heap[b]? = w.heap[b]?) : CellsAt w' b off xs :=
  fun j v hj => (World.cell?_of_block (a := ⟨b, off + j, none⟩) hb).trans (h j v hj)

/-- A slice's value reads as l. -/
def SlRep {α : Type} [Enc α] (w : World) (F : Nat → Prop) (l : List α) (v : Value) : Prop :=
  ∃ a c xs, v = .slice a l.length c ∧ l.length ≤ c ∧ c ≤ maxLen ∧ Reps w F l xs ∧ (l = [] ∨ ∃ b off, a = some ⟨b, off, none⟩ ∧ F b ∧ b < w.heap.size ∧ CellsAt w b off xs)

instance : Enc UInt8 where
  size := 1
  rep _ _ x cs := cs = [.int .u8 (x.toNat : Int)]
  len h := by rw [h]; rfl
  one h := by rw [h]; simp [Value.oneCell']
  move h _ _ := h
  sub h _ := h
instance : Enc Bool where
  size := 1
  rep _ _ x cs := cs = [.bool x]
  len h := by rw [h]; rfl
  one h := by rw [h]; simp [Value.oneCell']
  move h _ _ := h
  sub h _ := h
/-- Go's int. -/
instance : Enc Int where
  size := 1
  rep _ _ x cs := cs = [.int .i64 x] ∧ -9223372036854775808 ≤ x ∧ x ≤ 9223372036854775807
  len h := by rw [h.1]; rfl
  one h := by rw [h.1]; simp [Value.oneCell']
  move h _ _ := h
  sub h _ := h
instance : Enc ByteArray where
  size := 1
  rep _ _ x cs := cs = [.string x] ∧ x.size ≤ maxLen
  len h := by rw [h.1]; rfl
  one h := by rw [h.1]; simp [Value.oneCell']
  move h _ _ := h
  sub h _ := h
instance {α : Type} [Enc α] : Enc (List α) where
  size := 1
  rep w F l cs := ∃ v, cs = [v] ∧ SlRep w F l v
  len h := by obtain ⟨v, rfl, _⟩ := h; rfl
  one h := by obtain ⟨v, rfl, a, c, xs, rfl, _⟩ := h; simp [Value.oneCell']
  move h h1 h2 := by
    obtain ⟨v, rfl, a, c, xs, rfl, g1, g2, g3, g4⟩ := h
    exact ⟨_, rfl, a, c, xs, rfl, g1, g2, g3.move h1 h2, g4.imp id fun ⟨b, off, e, hF, hb, hc⟩ => ⟨b, off, e, hF, Nat.lt_of_lt_of_le hb h1, hc.move (h2 b hb hF)⟩⟩
  sub h h2 := by
    obtain ⟨v, rfl, a, c, xs, rfl, g1, g2, g3, g4⟩ := h
    exact ⟨_, rfl, a, c, xs, rfl, g1, g2, g3.sub h2, g4.imp id fun ⟨b, off, e, hF, hb, hc⟩ => ⟨b, off, e, h2 b hb hF, hb, hc⟩⟩
instance {α β : Type} [Enc α] [Enc β] : Enc (α × β) where
  size := Enc.size α + Enc.size β
  rep w F x cs := ∃ a b, Enc.rep w F x.1 a ∧ Enc.rep w F x.2 b ∧ cs = a ++ b
  len h := by obtain ⟨a, b, h1, h2, rfl⟩ := h; rw [List.length_append, Enc.len h1, Enc.len h2]
  one h := by
    obtain ⟨a, b, h1, h2, rfl⟩ := h
    intro v hv
    rw [List.mem_append] at hv
    exact hv.elim (Enc.one h1 v) (Enc.one h2 v)
  move h a b := by obtain ⟨x, y, h1, h2, rfl⟩ := h; exact ⟨x, y, Enc.move h1 a b, Enc.move h2 a b, rfl⟩
  sub h a := by obtain ⟨x, y, h1, h2, rfl⟩ := h; exact ⟨x, y, Enc.sub h1 a, Enc.sub h2 a, rfl⟩
/-- A struct as its parts. -/
@[reducible] def Enc.via {α β : Type} [Enc β] (f : α → β) : Enc α where
  size := Enc.size β
  rep w F x cs := Enc.rep w F (f x) cs
  len h := Enc.len h
  one h := Enc.one h
  move h := Enc.move h
  sub h := Enc.sub h
/-- An array of n. -/
def Fix (n : Nat) (α : Type) : Type := { l : List α // l.length = n }
instance {n : Nat} {α : Type} [Enc α] : Enc (Fix n α) where
  size := n * Enc.size α
  rep w F x cs := Reps w F x.1 cs
  len {w F x cs} h := by rw [Reps.length h, x.2]
  one h := Reps.one h
  move h := Reps.move h
  sub h := Reps.sub h

theorem reps_bytes {w : World} {F : Nat → Prop} : ∀ {l : List UInt8} {xs : List Value}, Reps w F l xs ↔ xs = l.map fun b => .int .u8 (b.toNat : Int)
  | [], xs => Iff.rfl
  | x :: l, xs => by
    constructor
    · rintro ⟨cs, ys, rfl, h, rfl⟩
      rw [reps_bytes.1 h]; rfl
    · intro h
      exact ⟨_, _, rfl, reps_bytes.2 rfl, h⟩

section
variable {α : Type} [Enc α] {w w' : World} {F F' M : Nat → Prop} {l : List α} {v : Value}
theorem SlRep.move (h : SlRep w F l v) (h1 : w.heap.size ≤ w'.heap.size) (h2 : ∀ k, k < w.heap.size → F k → w'.heap[k]? = w.heap[k]?) : SlRep w' F l v := by
  obtain ⟨u, e, h⟩ := Enc.move (show Enc.rep w F l [v] from ⟨v, rfl, h⟩) h1 h2
  cases e
  exact h
theorem SlRep.sub (h : SlRep w F l v) (h2 : ∀ k, k < w.heap.size → F k → F' k) : SlRep w F' l v := by
  obtain ⟨u, e, h⟩ := Enc.sub (show Enc.rep w F l [v] from ⟨v, rfl, h⟩) h2
  cases e
  exact h
theorem SlRep.keep (h : SlRep w F l v) (k : Keep M w w') (hm : ∀ i, i < w.heap.size → F i → ¬ M i) : SlRep w' F l v := h.move k.size fun i hi hf => k.block i hi (hm i hi hf)
theorem SlRep.new (h : SlRep w F l v) (k : New w w') : SlRep w' F l v := h.keep k fun _ _ _ x => x
theorem SlRep.shape (h : SlRep w F l v) : ∃ a c, v = .slice a l.length c ∧ l.length ≤ c ∧ c ≤ maxLen := by
  obtain ⟨a, c, xs, h1, h2, h3, _⟩ := h
  exact ⟨a, c, h1, h2, h3⟩
theorem SlRep.nil (w : World) (F : Nat → Prop) : SlRep w F ([] : List α) (.slice none 0 0) := ⟨none, 0, [], rfl, Nat.le_refl _, by simp [maxLen], rfl, .inl rfl⟩
theorem SlRep.rep (h : SlRep w F l v) : Enc.rep w F l [v] := ⟨v, rfl, h⟩

/-- A slice's value of which this call alone knows the row: it may be appended to. 'b': the row's block. -/
def Own (w : World) (F : Nat → Prop) (e : TypeId) (b : Option Nat) (l : List α) (v : Value) : Prop :=
  (b = none ∧ l = [] ∧ ∃ a, v = .slice a 0 0) ∨
  ∃ g c cur xs, b = some g ∧ v = .slice (some ⟨g, 0, none⟩) l.length c ∧ l.length ≤ c ∧ c ≤ maxLen ∧ w.heap[g]? = some (.cells cur e (0, 0)) ∧ cur.size = c * Enc.size α ∧
    Reps w (fun k => F k ∧ k ≠ g) l xs ∧ cur.toList.take xs.length = xs

theorem Own.nil (w : World) (F : Nat → Prop) (e : TypeId) (a : Option Addr) : Own w F e none ([] : List α) (.slice a 0 0) := .inl ⟨rfl, rfl, a, rfl⟩
theorem Own.lt {e : TypeId} {g : Nat} (h : Own w F e (some g) l v) : g < w.heap.size := by
  rcases h with ⟨h, _⟩ | ⟨g', c, cur, xs, hb, _, _, _, hh, _⟩
  · cases h
  · cases hb
    exact (Array.getElem?_eq_some_iff.1 hh).1
theorem Own.slrep {e : TypeId} {b : Option Nat} (h : Own w F e b l v) (hF : ∀ g, b = some g → F g) : SlRep w F l v := by
  rcases h with ⟨_, rfl, a, rfl⟩ | ⟨g, c, cur, xs, hb, rfl, h1, h2, hh, hs, hr, ht⟩
  · exact ⟨a, 0, [], rfl, Nat.le_refl _, by simp [maxLen], rfl, .inl rfl⟩
  · refine ⟨_, c, xs, rfl, h1, h2, hr.sub fun k _ hk => hk.1, .inr ⟨g, 0, rfl, hF g hb, (Array.getElem?_eq_some_iff.1 hh).1, fun j u hj => ?_⟩⟩
    rw [Nat.zero_add, cell_of_row w g j cur e (0, 0) hh]
    have hlt : j < xs.length := (List.getElem?_eq_some_iff.1 hj).1
    rw [← ht, List.getElem?_take, if_pos hlt] at hj
    simpa using hj
theorem Own.keep {e : TypeId} {b : Option Nat} (h : Own w F e b l v) (k : Keep M w w') (hm : ∀ i, i < w.heap.size → (F i ∨ b = some i) → ¬ M i) : Own w' F e b l v := by
  rcases h with h | ⟨g, c, cur, xs, hb, hv, h1, h2, hh, hs, hr, ht⟩
  · exact .inl h
  · have hg := (Array.getElem?_eq_some_iff.1 hh).1
    exact .inr ⟨g, c, cur, xs, hb, hv, h1, h2, (k.block g hg (hm g hg (.inr hb))).trans hh, hs, hr.move k.size fun i hi hf => k.block i hi (hm i hi (.inl hf.1)), ht⟩
theorem Own.new {e : TypeId} {b : Option Nat} (h : Own w F e b l v) (k : New w w') : Own w' F e b l v := h.keep k fun _ _ _ x => x
theorem Own.sub {e : TypeId} {b : Option Nat} (h : Own w F e b l v) (h2 : ∀ k, k < w.heap.size → F k → F' k) : Own w F' e b l v := by
  rcases h with h | ⟨g, c, cur, xs, hb, hv, h1, h3, hh, hs, hr, ht⟩
  · exact .inl h
  · exact .inr ⟨g, c, cur, xs, hb, hv, h1, h3, hh, hs, hr.sub fun k hk hf => ⟨h2 k hk hf.1, hf.2⟩, ht⟩
theorem Own.len {e : TypeId} {b : Option Nat} (h : Own w F e b l v) : ∃ a c, v = .slice a l.length c ∧ l.length ≤ c ∧ c ≤ maxLen := by
  rcases h with ⟨_, rfl, a, rfl⟩ | ⟨g, c, cur, xs, hb, rfl, h1, h3, _⟩
  · exact ⟨a, 0, rfl, Nat.le_refl _, by simp [maxLen]⟩
  · exact ⟨_, c, rfl, h1, h3⟩
end

section
variable {α : Type} [Enc α] {P : Program} {w : World} {F : Nat → Prop} {e : TypeId} {b : Option Nat} {l m : List α} {v : Value}
/-- What append reads its new elements from. -/
def Src (w : World) (F : Nat → Prop) (m : List α) (x : Value) : Prop :=
  ∃ a c xs, x = .slice a m.length c ∧ Reps w F m xs ∧ (m = [] ∨ ∃ b off, a = some ⟨b, off, none⟩ ∧ CellsAt w b off xs)
theorem SlRep.src (h : SlRep w F l v) : Src w F l v := by
  obtain ⟨a, c, xs, h1, _, _, h3, h4⟩ := h
  exact ⟨a, c, xs, h1, h3, h4.imp id fun ⟨b, off, e, _, _, hc⟩ => ⟨b, off, e, hc⟩⟩
theorem Src.sub {F' : Nat → Prop} (h : Src w F m v) (h2 : ∀ k, k < w.heap.size → F k → F' k) : Src w F' m v := by
  obtain ⟨a, c, xs, h1, h3, h4⟩ := h
  exact ⟨a, c, xs, h1, h3.sub h2, h4⟩

theorem run_append (t ty : TypeId) (i : TypeInfo) (z : Value) (ht : P.underlying t = some (.slice e)) (hi : P.info? e = some i) (hz : i.zero = some z)
    (hsize : i.size = Enc.size α) (hzs : z.cells.size = Enc.size α) (hsz : 0 < Enc.size α)
    {x : Value} (hown : Own w F e b l v) (hsrc : Src w (fun k => F k ∧ b ≠ some k) m x) (hbytes : (l.length + m.length) * i.bytes ≤ 140737488355328) (h63 : l.length + m.length ≤ maxLen) :
    ∃ v' w' b', (Builtin.append_ #[t, t] ty #[v, x]).run P w = .ok v' w' ∧ Own w' F e b' (l ++ m) v' ∧ Keep (fun k => b = some k) w w' ∧ (b' = b ∨ b' = some w.heap.size) ∧ (b' = none → b = none ∧ l = [] ∧ m = []) ∧ (m = [] → v' = v ∧ w' = w ∧ b' = b) := by
  obtain ⟨xa, xc, news, rfl, hnews, hxc⟩ := hsrc
  have hl := hnews.length
  by_cases hm0 : m = []
  · subst hm0
    cases hnews
    refine ⟨v, w, b, ?_, by simpa using hown, Keep.refl _ _, .inl rfl, ?_, fun _ => ⟨rfl, rfl, rfl⟩⟩
    · obtain ⟨a, c, rfl, hlc, _⟩ := hown.len
      cases a <;> cases xa <;> simp [Builtin.append_, run_underlying ht, sizeOf, typeInfo, hi, Builtin.lenOf, hlc, Builtin.firstCells, loadCells, loadCellsFrom, storeCells]
    · intro hb
      subst hb
      rcases hown with ⟨_, rfl, _⟩ | ⟨g, c, cur, xs, hb, _⟩
      · exact ⟨rfl, rfl, rfl⟩
      · cases hb
  obtain ⟨xb, xoff, rfl, hcells⟩ := hxc.resolve_left hm0
  have hmp : 0 < m.length := List.length_pos_iff.2 hm0
  have hnw : ∀ (j : Nat) u, news[j]? = some u → w.cell? ((⟨xb, xoff, none⟩ : Addr).add j) = some u := fun j u hj => by rw [Addr.add_lit]; exact hcells j u hj
  have h63' : ((l.length + m.length : Nat) : Int) ≤ 9223372036854775807 := by simp only [maxLen] at h63; omega
  -- a new row
  have grown : ∀ (old : Nat), old < l.length + m.length → ∀ xs, Reps w (fun k => F k ∧ b ≠ some k) l xs →
      Own (w.drew.alloc (.cells (xs.toArray ++ news.toArray ++ Builtin.zeroCells z.cells (grownCap w (l.length + m.length) old e - (l.length + m.length))) e)) F e (some w.heap.size) (l ++ m)
        (.slice (some ⟨w.heap.size, 0, none⟩) (l.length + m.length) (grownCap w (l.length + m.length) old e)) := by
    intro old ho xs hx
    have hge := grownCap_ge w (l.length + m.length) old e
    have hcm : grownCap w (l.length + m.length) old e ≤ maxLen := grownCap_le_maxLen w (l.length + m.length) old e h63
    have hxl := hx.length
    refine .inr ⟨w.heap.size, _, _, xs ++ news, rfl, by rw [List.length_append], by rw [List.length_append]; exact hge, hcm, heap_alloc_new w.drew _, ?_, ?_, ?_⟩
    · simp only [Array.size_append, List.size_toArray, size_zeroCells, hzs, hxl, hl, ← Nat.add_mul]
      congr 1
      omega
    · refine Reps.append (Reps.move (hx.sub fun k hk hf => ⟨hf.1, ?_⟩) (by simp) fun k hk hf => ?_) (Reps.move (hnews.sub fun k hk hf => ⟨hf.1, ?_⟩) (by simp) fun k hk hf => ?_)
      · omega
      · exact Below.heap_alloc w.drew _ k hk
      · omega
      · exact Below.heap_alloc w.drew _ k hk
    · simp only [Array.toList_append, List.append_assoc]
      rw [← List.append_assoc, List.take_left]
  rcases hown with ⟨rfl, rfl, a, rfl⟩ | ⟨g, c, cur, xs, rfl, rfl, h1, h2, hh, hs, hr, ht'⟩
  · simp only [List.length_nil, Nat.zero_add] at *
    have hgr := grown 0 hmp [] rfl
    refine ⟨_, _, some w.heap.size, ?_, hgr, (Keep.refl _ _).drew.alloc _, .inr rfl, by simp, fun h => absurd h hm0⟩
    cases a with
    | none => simpa using run_append_nil (P := P) w t ty e i z ht hi hz ⟨xb, xoff, none⟩ m.length xc news (by rw [hl, hsize]) hnw hmp h63' (by omega)
    | some a => simpa using run_append_grow (P := P) w t ty e i z ht hi hz a 0 0 [] (by simp) (by simp) ⟨xb, xoff, none⟩ m.length xc news (by rw [hl, hsize]) hnw (by omega) (by simpa using h63') (growslice_fits (by omega) (by simpa using hbytes))
  · have hxl := hr.length
    by_cases hroom : l.length + m.length ≤ c
    · have hfit : l.length * i.size + news.length ≤ cur.size := by rw [hl, hs, hsize, ← Nat.add_mul]; exact Nat.mul_le_mul_right _ hroom
      have hrun := run_append_room (P := P) w t ty e i ht hi g l.length c cur hh ⟨xb, xoff, none⟩ m.length xc news (by rw [hl, hsize]) hnw hnews.one hroom hfit
      refine ⟨_, _, some g, hrun, .inr ⟨g, c, _, xs ++ news, rfl, by rw [List.length_append], by rw [List.length_append]; exact hroom, h2, setRow_heap w g cur _ e _ hh, ?_, ?_, ?_⟩,
        ⟨rfl, rfl, rfl, by simp, fun k _ hk => setRow_other w g k _ (fun e => hk (by rw [e]))⟩, .inl rfl, by simp, fun h => absurd h hm0⟩
      · simp only [List.size_toArray, List.length_append, List.length_take, List.length_drop, Array.length_toList, hs, hsize, hl] at hfit ⊢
        omega
      · have hmv : ∀ k, k < w.heap.size → (F k ∧ k ≠ g) → (w.setRow g (cur.toList.take (l.length * i.size) ++ news ++ cur.toList.drop (l.length * i.size + news.length)).toArray).heap[k]? = w.heap[k]? :=
          fun k _ hk => setRow_other w g k _ (fun e => hk.2 e)
        exact Reps.append (hr.move (by simp) hmv) ((hnews.sub fun k hk hf => ⟨hf.1, fun e => hf.2 (by rw [e])⟩).move (by simp) hmv)
      · rw [hsize, ← hxl, ht']
        exact List.take_left
    · have holds : ∀ (j : Nat) u, xs[j]? = some u → w.cell? ((⟨g, 0, none⟩ : Addr).add j) = some u := fun j u hj => by
        rw [Addr.add_lit, Nat.zero_add, cell_of_row w g j cur e (0, 0) hh]
        have hlt : j < xs.length := (List.getElem?_eq_some_iff.1 hj).1
        rw [← ht', List.getElem?_take, if_pos hlt] at hj
        simpa using hj
      have hgr := grown c (by omega) xs (hr.sub fun k hk hf => ⟨hf.1, fun e => hf.2 (by cases e; rfl)⟩)
      exact ⟨_, _, some w.heap.size, run_append_grow (P := P) w t ty e i z ht hi hz ⟨g, 0, none⟩ l.length c xs (by rw [hxl, hsize]) holds ⟨xb, xoff, none⟩ m.length xc news (by rw [hl, hsize]) hnw (by omega) h63' (growslice_fits (by omega) hbytes),
        hgr, (Keep.refl _ _).drew.alloc _, .inr rfl, by simp, fun h => absurd h hm0⟩
end

/-- A part of a slice. -/
theorem SlRep.cut {α : Type} [Enc α] {w : World} {F : Nat → Prop} {l : List α} {a : Option Addr} {n0 c : Nat} (h : SlRep w F l (.slice a n0 c)) (lo n c' : Nat) (a' : Option Addr) (hn : lo + n ≤ l.length) (hc : n ≤ c') (hc2 : c' ≤ maxLen)
    (ha : n ≠ 0 → a' = a.map (·.add (lo * Enc.size α))) : SlRep w F ((l.drop lo).take n) (.slice a' n c') := by
  obtain ⟨a0, c0, xs, e, h1, h2, hr, hp⟩ := h
  cases e
  have hlen : ((l.drop lo).take n).length = n := by rw [List.length_take, List.length_drop]; omega
  have hsplit : l = l.take lo ++ ((l.drop lo).take n ++ (l.drop lo).drop n) := by rw [List.take_append_drop, List.take_append_drop]
  rw [hsplit] at hr
  obtain ⟨p, q, hp1, hq, rfl⟩ := hr.split
  obtain ⟨x, y, hx, hy, rfl⟩ := hq.split
  have hpl := hp1.length
  rw [List.length_take, Nat.min_eq_left (by omega)] at hpl
  refine ⟨a', c', x, by rw [hlen], by rw [hlen]; exact hc, hc2, hx, ?_⟩
  by_cases hn0 : n = 0
  · exact .inl (by rw [hn0, List.take_zero])
  · refine .inr ?_
    rcases hp with rfl | ⟨b, off, rfl, hF, hb, hcells⟩
    · simp at hn; omega
    · refine ⟨b, off + lo * Enc.size α, by rw [ha hn0]; simp [Addr.add_lit], hF, hb, fun j v hj => ?_⟩
      have := hcells (lo * Enc.size α + j) v (by rw [List.getElem?_append_right (by omega), hpl, Nat.add_sub_cancel_left, List.getElem?_append_left (List.getElem?_eq_some_iff.1 hj).1]; exact hj)
      rwa [← Nat.add_assoc] at this

theorem SlRep.take {α : Type} [Enc α] {w : World} {F : Nat → Prop} {l : List α} {a : Option Addr} {n0 c : Nat} (h : SlRep w F l (.slice a n0 c)) (n c' : Nat) (hn : n ≤ l.length) (hc : n ≤ c') (hc2 : c' ≤ maxLen) : SlRep w F (l.take n) (.slice a n c') := by
  have := h.cut 0 n c' a (by omega) hc hc2 (fun _ => by cases a <;> simp [Addr.add])
  simpa using this

/-- What buildSlice has made. -/
theorem Src.built {α : Type} [Enc α] {w : World} {F : Nat → Prop} {m : List α} {xs : List Value} {e : TypeId} (h : Reps w F m xs) (n c : Nat) (hn : n = m.length) (p : Nat) (hp : p = w.heap.size) : Src (w.alloc (.cells xs.toArray e)) F m (.slice (some ⟨p, 0, none⟩) n c) := by
  subst hn
  subst hp
  refine ⟨_, c, xs, rfl, h.move (by simp) fun k hk _ => Below.heap_alloc _ _ _ hk, .inr ⟨_, _, rfl, fun j v hj => ?_⟩⟩
  rw [World.cell?_alloc_at _ _ _ _ rfl]
  simpa using hj

/-- A slice's type t with elements of type e: the table's row for α. -/
structure ElemT (P : Program) (α : Type) [Enc α] (t e : TypeId) (bytes : Nat) : Prop where
  ht : P.underlying t = some (.slice e)
  row : ∃ i z, P.info? e = some i ∧ i.zero = some z ∧ i.size = Enc.size α ∧ z.cells.size = Enc.size α ∧ i.bytes = bytes
  pos : 0 < Enc.size α
theorem ElemT.of {P : Program} {α : Type} [Enc α] {t e bytes : Nat} (size : Nat) (hs : Enc.size α = size) (ht : P.underlying t = some (.slice e))
    (h : (P.info? e).map (fun i => (i.zero.map (·.cells.size), i.size, i.bytes)) = some (some size, size, bytes)) (hp : 0 < size) : ElemT P α t e bytes := by
  refine ⟨ht, ?_, by rw [hs]; exact hp⟩
  obtain ⟨i, hi, hzz⟩ := Option.map_eq_some_iff.1 h
  simp only [Prod.mk.injEq, Option.map_eq_some_iff] at hzz
  obtain ⟨⟨z, hz, hzs⟩, h1, h2⟩ := hzz
  exact ⟨i, z, hi, hz, by rw [h1, hs], by rw [hzs, hs], h2⟩

/-- append(s, x...), s of this call's own. -/
theorem wpList_app {P : Program} {α : Type} [Enc α] {t e bytes : Nat} (E : ElemT P α t e bytes) {w : World} {ops : Array Oper} {rest : List Oper} {o : Oper} {a : Act} {Q : Exit → Act → World → Prop} {F : Nat → Prop} {b : Option Nat} {l m : List α} {v x : Value}
    (hg : o.guard = none) (s y : Operand) (hop : o.op = Op.call { callee := Callee.builtin Builtin.append, args := #[s, y], argTypes := #[t, t] }) (hs : a.eval s = v) (hx : a.eval y = x)
    (hown : Own w F e b l v) (hsrc : Src w (fun k => F k ∧ b ≠ some k) m x) (hbytes : (l.length + m.length) * bytes ≤ 140737488355328) (h63 : l.length + m.length ≤ maxLen)
    (hK : ∀ v' w' b', Own w' F e b' (l ++ m) v' → Keep (fun k => b = some k) w w' → (b' = b ∨ b' = some w.heap.size) → (m ≠ [] → b' ≠ none) → wpList P ops Q rest (a.put o.dst v') w') :
    wpList P ops Q (o :: rest) a w := by
  refine wpList_plain hg fun K hK' => ?_
  obtain ⟨i, z, hi, hz, h1, h2, h3⟩ := E.row
  subst h3
  obtain ⟨v', w', b', hrun, r1, r2, r3, r4, _⟩ := run_append (P := P) t o.type i z E.ht hi hz h1 h2 E.pos hown hsrc hbytes h63
  unfold Oper.wp execOp
  simp only [hop, resolve, invoke, builtin, Sem.run_bind, Sem.run_pure, Result.andThen_ok, List.map_toArray, List.map_cons, List.map_nil, hs, hx, hrun]
  exact hK' _ _ (hK v' w' b' r1 r2 r3 (fun hm hb => hm (r4 hb).2.2))

/-- The post is put out of the walk's sight. -/
theorem calls_hide {P : Program} {f : FuncId} {args : Array Value} {w : World} {R : Ending → World → Prop}
    (h : ∀ S : Ending → World → Prop, Hid (∀ e w', R e w' → S e w') → Calls P f args w S) : Calls P f args w R := h R (Lib.hid fun _ _ x => x)

theorem SlRep.none_nil {α : Type} [Enc α] {w : World} {F : Nat → Prop} {l : List α} {n c : Nat} (h : SlRep w F l (.slice none n c)) : l = [] := by
  obtain ⟨a, c, xs, e, _, _, _, h⟩ := h
  rcases h with h | ⟨b, off, h, _⟩
  · exact h
  · cases e; cases h
/-- Bytes lie in no memory of their own. -/
theorem Src.bytes {w : World} {F G : Nat → Prop} {l : List UInt8} {v : Value} (h : Src w F l v) : Src w G l v := by
  obtain ⟨a, c, xs, e, h1, h2⟩ := h
  exact ⟨a, c, xs, e, reps_bytes.2 (reps_bytes.1 h1), h2⟩

theorem SlRep.byte_cells {w : World} {F : Nat → Prop} {l : List UInt8} {v : Value} (h : SlRep w F l v) (hne : l ≠ []) :
    ∃ b off c, v = .slice (some ⟨b, off, none⟩) l.length c ∧ b < w.heap.size ∧ F b ∧ ∀ (i : Nat), i < l.length → w.cell? ⟨b, off + i, none⟩ = some (.int .u8 ((l.getD i 0).toNat : Int)) := by
  obtain ⟨a, c, xs, rfl, h1, h2, h3, h4⟩ := h
  obtain ⟨b, off, rfl, hF, hb, hc⟩ := h4.resolve_left hne
  refine ⟨b, off, c, rfl, hb, hF, fun i hi => hc i _ ?_⟩
  rw [reps_bytes.1 h3, List.getElem?_map, List.getElem?_eq_getElem hi, List.getD_eq_getElem?_getD, List.getElem?_eq_getElem hi]
  rfl
theorem Own.or {α : Type} [Enc α] {w : World} {F : Nat → Prop} {e : TypeId} {b : Option Nat} {l : List α} {v : Value} (h : Own w F e b l v) : SlRep w (fun k => F k ∨ b = some k) l v :=
  (h.sub fun _ _ x => Or.inl x).slrep fun _ x => .inr x
theorem Own.any {α : Type} [Enc α] {w : World} {F : Nat → Prop} {e : TypeId} {b : Option Nat} {l : List α} {v : Value} (h : Own w F e b l v) : SlRep w (fun _ => True) l v :=
  h.or.sub fun _ _ _ => trivial

theorem bits_or_i64_nat (a b : Nat) (ha : a < 9223372036854775808) (hb : b < 9223372036854775808) : bits .or .i64 (a : Int) (b : Int) = ((a ||| b : Nat) : Int) := by
  have hx : a ||| b < 2 ^ 63 := Nat.or_lt_two_pow (by omega) (by omega)
  have h1 : (BitVec.ofInt 64 (a : Int)).toNat = a := by
    rw [BitVec.ofInt_natCast, BitVec.toNat_ofNat]; omega
  have h2 : (BitVec.ofInt 64 (b : Int)).toNat = b := by
    rw [BitVec.ofInt_natCast, BitVec.toNat_ofNat]; omega
  have h3 : (BitVec.ofInt 64 (a : Int) ||| BitVec.ofInt 64 (b : Int)).toNat = a ||| b := by rw [BitVec.toNat_or, h1, h2]
  show IntKind.i64.wrap ((BitVec.ofInt 64 (a : Int) ||| BitVec.ofInt 64 (b : Int)).toNat : Int) = _
  rw [h3]
  generalize a ||| b = c at hx
  clear h1 h2 h3
  have hm : (c : Int) % 18446744073709551616 = c := by omega
  simp [IntKind.wrap, IntKind.bits, IntKind.signed, hm]
  omega
theorem wrap64_in {n : Int} (h : -9223372036854775808 ≤ n) (h2 : n ≤ 9223372036854775807) : wrap64 n = n := by unfold wrap64; omega
theorem or_bytes (x y : UInt8) : bits BinOp.or .i64 (wrap64 (wrap64 (x.toNat : Int) * 256)) (wrap64 (y.toNat : Int)) = ((x.toNat * 256 + y.toNat : Nat) : Int) := by
  have hx := x.toNat_lt
  have hy := y.toNat_lt
  rw [wrap64_in (n := (x.toNat : Int)) (by omega) (by omega), wrap64_in (n := (y.toNat : Int)) (by omega) (by omega), wrap64_in (by omega) (by omega)]
  have : ((x.toNat : Int) * 256) = ((x.toNat * 256 : Nat) : Int) := by omega
  rw [this, bits_or_i64_nat _ _ (by omega) (by omega)]
  congr 1
  have h := Nat.two_pow_add_eq_or_of_lt (i := 8) (b := y.toNat) (by omega) x.toNat
  rw [Nat.mul_comm (2 ^ 8)] at h
  exact h.symm

/-- A block of this call's own, cell by cell. -/
def Row (w : World) (p : Nat) (e : TypeId) (cs : List Value) : Prop := w.heap[p]? = some (.cells cs.toArray e (0, 0))
theorem Row.lt {w : World} {p : Nat} {e : TypeId} {cs : List Value} (h : Row w p e cs) : p < w.heap.size := (Array.getElem?_eq_some_iff.1 h).1
theorem Row.keep {M : Nat → Prop} {w w' : World} {p : Nat} {e : TypeId} {cs : List Value} (h : Row w p e cs) (k : Keep M w w') (hm : ¬ M p) : Row w' p e cs := (k.block p h.lt hm).trans h
theorem Row.new {w w' : World} {p : Nat} {e : TypeId} {cs : List Value} (h : Row w p e cs) (k : New w w') : Row w' p e cs := h.keep k id
theorem Row.cell {w : World} {p : Nat} {e : TypeId} {cs : List Value} (h : Row w p e cs) (j : Nat) {v : Value} (hv : cs[j]? = some v) : w.cell? ⟨p, j, none⟩ = some v := by
  rw [cell_of_row w p j _ e (0, 0) h]; simpa using hv
theorem Row.frozen {w : World} {p : Nat} {e : TypeId} {cs : List Value} (h : Row w p e cs) (j : Nat) : w.frozen? ⟨p, j, none⟩ = false := by
  unfold Row at h
  simp only [World.frozen?, h]
  simp
theorem Row.set {w : World} {p : Nat} {e : TypeId} {cs : List Value} (h : Row w p e cs) (j : Nat) (v : Value) : Row (w.setCell ⟨p, j, none⟩ v) p e (cs.set j v) := by
  unfold Row at *
  simp only [World.setCell, Array.getElem?_modify, h]
  simp
theorem Row.alloc (w : World) (e : TypeId) (cs : List Value) : Row (w.alloc (.cells cs.toArray e)) w.heap.size e cs := heap_alloc_new w _
theorem Row.alloc' (w : World) (e : TypeId) (cs : List Value) (p : Nat) (h : p = w.heap.size) : Row (w.alloc (.cells cs.toArray e)) p e cs := by subst h; exact heap_alloc_new w _
theorem rep_int {w : World} {F : Nat → Prop} {x : Int} (h1 : -9223372036854775808 ≤ x) (h2 : x ≤ 9223372036854775807) : Enc.rep w F x [.int .i64 x] := ⟨rfl, h1, h2⟩
theorem rep_bool {w : World} {F : Nat → Prop} (x : Bool) : Enc.rep w F x [.bool x] := rfl
theorem rep_byte {w : World} {F : Nat → Prop} (x : UInt8) : Enc.rep w F x [.int .u8 (x.toNat : Int)] := rfl
theorem rep_str {w : World} {F : Nat → Prop} {x : ByteArray} (h : x.size ≤ maxLen) : Enc.rep w F x [.string x] := ⟨rfl, h⟩
theorem rep_pair {α β : Type} [Enc α] [Enc β] {w : World} {F : Nat → Prop} {x : α} {y : β} {as bs : List Value} (h1 : Enc.rep w F x as) (h2 : Enc.rep w F y bs) : Enc.rep w F (x, y) (as ++ bs) := ⟨as, bs, h1, h2, rfl⟩

/-- Bytes as a string. -/
def bstr (l : List UInt8) : ByteArray := ⟨l.toArray⟩
theorem bstr_inj {l m : List UInt8} : bstr l = bstr m ↔ l = m := by
  constructor
  · intro h
    have : (bstr l).data.toList = (bstr m).data.toList := by rw [h]
    simpa [bstr] using this
  · rintro rfl; rfl
theorem strOfNums_bytes (l : List UInt8) : strOfNums (l.map fun b => (b.toNat : Int)) = bstr l := by
  have h : ((fun n : Int => UInt8.ofNat n.toNat) ∘ fun b : UInt8 => (b.toNat : Int)) = id := by funext b; simp
  unfold strOfNums bstr
  rw [List.map_map, h, List.map_id]
theorem run_str {P : Program} {w : World} {F : Nat → Prop} {l : List UInt8} {v : Value} (src e dst : TypeId) (hs : P.underlying src = some (.slice e)) (he : P.underlying e = some (.int .u8)) (hd : P.underlying dst = some .string)
    (h : SlRep w F l v) : (convert src dst v).run P w = .ok (.string (bstr l)) w := by
  obtain ⟨a, c, xs, rfl, h1, h2, h3, h4⟩ := h
  rcases h4 with rfl | ⟨b, off, rfl, hF, hb, hc⟩
  · cases a with
    | none => exact run_convert_bytes_nil w src e hs he _ c dst hd
    | some a =>
      rw [run_convert_bytes_string w src dst e _ _ c hs he hd]
      exact run_bytesToString w a 0 c [] (by simp [loadCells, loadCellsFrom])
  · rw [run_convert_bytes_arg w src e hs he b off l.length c (l.map fun b => (b.toNat : Int)) (by simp) ?_ dst hd, strOfNums_bytes]
    intro i hi
    refine hc i _ ?_
    rw [reps_bytes.1 h3, List.getElem?_map, List.getElem?_eq_getElem hi]
    simp [hi]

/-- make([]T, 0, n) -/
theorem Own.made {α : Type} [Enc α] {w : World} {base n g : Nat} {e : TypeId} {F : Nat → Prop} (h : w.ownsRow base e (Enc.size α) (.slice (some ⟨g, 0, none⟩) 0 n) 0 []) : Own w F e (some g) ([] : List α) (.slice (some ⟨g, 0, none⟩) 0 n) := by
  rcases h.2 with ⟨h, _⟩ | ⟨g', cap, cur, hv, _, hh, h1, h2, h3, _⟩
  · cases h
  · cases hv
    exact .inr ⟨g, n, cur, [], rfl, rfl, h1, h2, hh, h3, rfl, by simp⟩
theorem Keep.of_grown {w w' : World} (h : w.grownBy w' none) : New w w' := ⟨h.os, h.tape, h.output, h.size, fun k hk _ => h.block k hk (by simp)⟩
theorem wpList_make {P : Program} {α : Type} [Enc α] {t e bytes : Nat} (E : ElemT P α t e bytes) {w : World} {ops : Array Oper} {rest : List Oper} {o : Oper} {a : Act} {Q : Exit → Act → World → Prop} (F : Nat → Prop)
    (hg : o.guard = none) (l c : Operand) (hop : o.op = Op.makeSlice t l c) (kl kc : IntKind) (C : Int) (n : Nat) (hl : a.eval l = .int kl 0) (hc : a.eval c = .int kc C) (hC : C = (n : Int)) (hb : bytes * n ≤ 281474976710656) (hn : n ≤ maxLen)
    (hK : ∀ w', Own w' F e (some w.heap.size) ([] : List α) (.slice (some ⟨w.heap.size, 0, none⟩) 0 n) → New w w' → wpList P ops Q rest (a.put o.dst (.slice (some ⟨w.heap.size, 0, none⟩) 0 n)) w') :
    wpList P ops Q (o :: rest) a w := by
  obtain ⟨i, z, hi, hz, h1, h2, h3⟩ := E.row
  subst h3
  exact wpList_make_own w hg l c t hop w.heap.size e i z (Enc.size α) E.ht hi hz h1 kl kc C n hl hc hC hb hn (Nat.le_refl _) fun w' ho hgr => hK w' (Own.made ho) (Keep.of_grown hgr)
theorem ret_int {k : IntKind} {a b : Int} (h : a = b) : Ending.returned (.int k a) = .returned (.int k b) := by rw [h]
theorem ret_bool {a b : Bool} (h : a = b) : Ending.returned (.bool a) = .returned (.bool b) := by rw [h]
/-- Element i of a slice: where its cells are. -/
theorem SlRep.elem {α : Type} [Enc α] {w : World} {F : Nat → Prop} {l : List α} {v : Value} (h : SlRep w F l v) (i : Nat) (hi : i < l.length) :
    ∃ b off c cs, v = .slice (some ⟨b, off, none⟩) l.length c ∧ b < w.heap.size ∧ F b ∧ Enc.rep w F l[i] cs ∧ ∀ (j : Nat) v, cs[j]? = some v → w.cell? ⟨b, off + i * Enc.size α + j, none⟩ = some v := by
  obtain ⟨a, c, xs, rfl, h1, h2, h3, h4⟩ := h
  obtain ⟨b, off, rfl, hF, hb, hc⟩ := h4.resolve_left (by rintro rfl; simp at hi)
  obtain ⟨cs, h5, h6⟩ := h3.at i hi
  refine ⟨b, off, c, cs, rfl, hb, hF, h5, fun j v hj => ?_⟩
  have := hc _ v (h6 j v hj)
  rwa [← Nat.add_assoc] at this
/-- Behind an append to a row of this call's own: what was there when the call began stands; the row is the call's own. -/
theorem app_step {w0 w w' : World} {b b' : Option Nat} (h1 : New w0 w) (h2 : ∀ g, b = some g → w0.heap.size ≤ g) (k : Keep (fun k => b = some k) w w') (e : b' = b ∨ b' = some w.heap.size) :
    New w0 w' ∧ Go.Aside (∀ g, b' = some g → w0.heap.size ≤ g) := by
  refine ⟨h1.then k (fun i hi e => absurd (h2 i e) (by omega)), fun g hg => ?_⟩
  rcases e with e | e
  · exact h2 g (e ▸ hg)
  · rw [e] at hg; cases hg; exact h1.size
theorem wrap_two (a b : UInt8) : wrap64 (wrap64 ((a.toNat : Int) * 256) + (b.toNat : Int)) = ((a.toNat * 256 + b.toNat : Nat) : Int) := by
  have ha := a.toNat_lt
  have hb := b.toNat_lt
  rw [wrap64_in (n := (a.toNat : Int) * 256) (by omega) (by omega), wrap64_in (by omega) (by omega)]
  omega
theorem byte_ne {x y : UInt8} (h : x ≠ y) : ((x.toNat : Int) == (y.toNat : Int)) = false := beq_eq_false_iff_ne.2 fun e => h (UInt8.toNat_inj.1 (Int.ofNat.inj e))
theorem byte_ne' {x y : UInt8} (h : x ≠ y) : ((x.toNat : Int) != (y.toNat : Int)) = true := by rw [bne, byte_ne h]; rfl
theorem byte_int (x : UInt8) : -1 ≤ (x.toNat : Int) ∧ (x.toNat : Int) ≤ 255 := by have := x.toNat_lt; omega
theorem two_le (x y : UInt8) : x.toNat * 256 + y.toNat ≤ 65535 := by have := x.toNat_lt; have := y.toNat_lt; omega

/-- What a cell holds, behind a name that the walk does not open. -/
def qc (w : World) (q j : Nat) : Value := (w.cell? ⟨q, j, none⟩).getD undef
/-- A block of n cells of this call's own, whatever they hold. -/
def Slab (w : World) (q n : Nat) : Prop := ∃ e cs, cs.length = n ∧ Row w q e cs
theorem Row.slab {w : World} {p : Nat} {e : TypeId} {cs : List Value} (h : Row w p e cs) (n : Nat) (hn : cs.length = n) : Slab w p n := ⟨e, cs, hn, h⟩
theorem Slab.cell {w : World} {q n : Nat} (h : Slab w q n) (j : Nat) (hj : j < n) : w.cell? ⟨q, j, none⟩ = some (qc w q j) := by
  obtain ⟨e, cs, hl, hr⟩ := h
  have := hr.cell j (List.getElem?_eq_getElem (by omega))
  rw [qc, this]; rfl
theorem Slab.frozen {w : World} {q n : Nat} (h : Slab w q n) (j : Nat) : w.frozen? ⟨q, j, none⟩ = false := by
  obtain ⟨e, cs, hl, hr⟩ := h
  exact hr.frozen j
theorem Slab.lt {w : World} {q n : Nat} (h : Slab w q n) : q < w.heap.size := by
  obtain ⟨e, cs, hl, hr⟩ := h
  exact hr.lt
theorem Slab.keep {M : Nat → Prop} {w w' : World} {q n : Nat} (h : Slab w q n) (k : Keep M w w') (hm : ¬ M q) : Slab w' q n := by
  obtain ⟨e, cs, hl, hr⟩ := h
  exact ⟨e, cs, hl, hr.keep k hm⟩
theorem Slab.new {w w' : World} {q n : Nat} (h : Slab w q n) (k : New w w') : Slab w' q n := h.keep k id
theorem Slab.set {w : World} {q n : Nat} (h : Slab w q n) (j : Nat) (v : Value) : Slab (w.setCell ⟨q, j, none⟩ v) q n := by
  obtain ⟨e, cs, hl, hr⟩ := h
  exact ⟨e, _, by simp [hl], hr.set j v⟩
theorem Slab.unset {w : World} {q n : Nat} {j : Nat} {v : Value} (h : Slab (w.setCell ⟨q, j, none⟩ v) q n) : Slab w q n := by
  obtain ⟨e, cs, hl, hr⟩ := h
  unfold Row at hr
  simp only [World.setCell, Array.getElem?_modify, if_true] at hr
  cases ho : w.heap[q]? with
  | none => simp [ho] at hr
  | some o =>
    rw [ho] at hr
    cases o with
    | cells c t fr =>
      simp at hr
      obtain ⟨h1, h2, h3⟩ := hr
      subst h2
      subst h3
      refine ⟨t, c.toList, ?_, by unfold Row; rw [ho]⟩
      have : (c.setIfInBounds j v).size = cs.length := by rw [h1]; simp
      simpa [← hl] using this
    | _ => simp at hr
end Go.LB
