import Derived.Test.YtohbipkmfhmibaaGreatDoorAE32
import Derived.Test.YtohbipkmfhmibaaGreatDoorLaid
import Derived.Lay
/-! Top: from a law's row to its reckoning. -/
set_option linter.unusedVariables false
namespace Go.AE
open Go.RowKit Go.LB Go.ChangeShapes Go.WideShapes Go.ChangeAt

/-- At the start: all that is there is read alone. -/
def E0 (ad : Nat → Addr) (ks : List Nat) (W : World) : Env := ⟨ad, (· ∈ ks), fun _ => none, fun _ => none, fun b _ => b < W.heap.size, fun b => ∃ k ∈ ks, (ad k).block = b⟩
/-- The listed sentinels. -/
structure Sents (et : TypeId) (ad : Nat → Addr) (ks : List Nat) (W : World) : Prop where
  cell : ∀ k ∈ ks, W.cell? ⟨k, 0, none⟩ = some (.iface et (.pointer (some (ad k))))
  row : ∀ k ∈ ks, ∃ c t, W.heap[(ad k).block]? = some (.cells c t (0, 0))
  ne : ∀ i ∈ ks, ∀ j ∈ ks, ad i = ad j → i = j
section
variable {C : Cfg} {et : TypeId} {ad : Nat → Addr} {ks : List Nat} {W : World}
theorem Sents.st (h : Sents et ad ks W) : St (E0 ad ks W) (hget []) (fun _ => False) W where
  box := fun n cs e => by cases e
  map := fun n es ck e => by cases e
  inj := fun n m b h => absurd rfl h
  zbox := fun n b o h => absurd rfl h
  zlt := fun b o h => h
  tok := fun n h => h.elim
  tokbox := fun n b e r m h => h.elim
  toktok := fun n m b e r e' r' h => h.elim
  F := fun b ⟨k, hk, hb⟩ => by
    obtain ⟨c, t, hc⟩ := h.row k hk
    refine ⟨by rw [← hb]; exact (Array.getElem?_eq_some_iff.1 hc).1, fun hm => ?_⟩
    rcases hm with ⟨n, h1, _⟩ | ⟨n, h1, _⟩
    · exact h1 rfl
    · exact h1
  gl := fun k hk => by
    obtain ⟨c, t, hc⟩ := h.row k hk
    exact ⟨_, c, t, rfl, ⟨k, hk, rfl⟩, hc, trivial⟩
  glinj := fun i j hi hj e => h.ne i hi j hj e
theorem Sents.pre (h : Sents et ad ks W) (hl : LaidOk C.laid (E0 ad ks W) W) (nm : Name) : CallPre C (E0 ad ks W) [] W nm :=
  ⟨trivial, h.st, hl, fun n h => absurd rfl h, fun n h => absurd rfl h⟩
/-- A variable's cells. -/
theorem rel_var {g : Nat} {cs : List T} (h : ∀ (i : Nat) x, cs[i]? = some x → ∃ v, W.cell? ⟨g, i, none⟩ = some v ∧ v.oneCell' = true ∧ Rel (E0 ad ks W) W x v) : Rel (E0 ad ks W) W (.ro cs 0) (.pointer (some ⟨g, 0, none⟩)) := by
  have e : ∀ i : Nat, W.cell? ⟨g, 0 + i, none⟩ = W.cell? ⟨g, i, none⟩ := fun i => by rw [Nat.zero_add]
  refine .ro (o := 0) (fun i => (W.cell? ⟨g, i, none⟩).getD undef) (fun i x hx => ?_) (fun i x hx => ?_)
  · obtain ⟨v, h1, h2, _⟩ := h i x hx
    refine ⟨World.block_lt_of_cell? _ _ h1, ?_, ?_⟩
    · rw [e, h1]; rfl
    · rw [h1]; exact h2
  · obtain ⟨v, h1, _, h3⟩ := h i x hx
    rw [h1]; exact h3
theorem rel_sent (h : Sents et ad ks W) {k : Nat} (hk : k ∈ ks) : Rel (E0 ad ks W) W (.ro [.ifc et (.gl k)] 0) (.pointer (some ⟨k, 0, none⟩)) := by
  refine rel_var fun i x hx => ?_
  cases i with
  | zero => cases hx; exact ⟨_, h.cell k hk, rfl, .ifc (.gl k hk)⟩
  | succ i => simp at hx
theorem rel_texts {g : Nat} {texts : List (List UInt8)} (h : ∀ (i : Nat) b, texts[i]? = some b → W.cell? ⟨g, i, none⟩ = some (.string (bstr b))) : Rel (E0 ad ks W) W (.ro (texts.map fun b => .v (.string (bstr b))) 0) (.pointer (some ⟨g, 0, none⟩)) := by
  refine rel_var fun i x hx => ?_
  rw [List.getElem?_map] at hx
  obtain ⟨b, hb, rfl⟩ := Option.map_eq_some_iff.1 hx
  exact ⟨_, h i b hb, rfl, .v rfl⟩
/-- A law that is reckoned to be true. -/
theorem law_top (hC : COk C) {tab : FuncId → Option RFn} (ht : TabOk C (DrawOk C) tab) {E : Env} {f : FuncId} {args : List T} {h' : Heap} (hev : evW C tab f [] args [] = some (.v (.bool true), h')) {vs : Array Value} (pre : CallPre C E [] W []) (hargs : RelL E W args vs.toList) :
    Calls C.P f vs W fun e W' => e = .returned (.bool true) ∧ New W W' := by
  refine ((evW_snd hC ht f [] args _ _ _ hev).2 E W vs pre hargs).mono ?_
  rintro e W' ⟨v, E', rfl, hr, hw, _⟩
  cases hr with
  | v _ =>
    refine ⟨rfl, hw.ext.keep.weaken fun b _ hm => ?_⟩
    rcases hm with ⟨n, h1, _⟩ | ⟨n, h1, _⟩
    · exact absurd rfl h1
    · exact h1
/-- What the row's list gives of the sentinels: 'ns' are the variables' names. -/
theorem sents_of {P : Program} {W : World} {nm : String} {ti tp te ts : TypeId} {ms : Array (String × TypeId)} {f : Field} (hi : P.underlying ti = some (.interface ms)) (hrow : ∀ u, P.typeName? 3 u = some nm → u = tp)
    (hp : P.underlying tp = some (.pointer te)) (he : P.underlying te = some (.struct #[f])) (hft : f.type = ts) (hfo : f.offset = 0) (hs : P.underlying ts = some .string) (hc : P.cellsOf te = 1) (hcs : P.cellsOf ts = 1)
    {L : List (String × DataW Unit)} (h : laidMet P L W) (ns : List (Nat × String × List UInt8)) (hL : ∀ x ∈ ns, sent nm x.2 ∈ L ∧ P.globalNamed x.2.1 = some x.1 ∧ (P.globals[x.1]?).map (·.type) = some ti) (hn : (ns.map (·.1)).Nodup) (hn2 : (ns.map (·.2.1)).Nodup) :
    ∃ ad, Sents tp ad (ns.map (·.1)) W := by
  obtain ⟨ps, hv, hnd, hrows⟩ := h
  obtain ⟨h1, h2⟩ := laid_sents hi hrow hp he hft hfo hs hc hcs L ps hv hnd hrows
  have inj : ∀ x ∈ ns, ∀ y ∈ ns, x.1 = y.1 → x = y := by
    intro x hx y hy e
    obtain ⟨i, hi⟩ := List.mem_iff_getElem?.1 hx
    obtain ⟨j, hj⟩ := List.mem_iff_getElem?.1 hy
    have hi' : (ns.map (·.1))[i]? = some x.1 := by rw [List.getElem?_map, hi]; rfl
    have hj' : (ns.map (·.1))[j]? = some x.1 := by rw [List.getElem?_map, hj, e]; rfl
    have := (List.getElem?_inj (List.getElem?_eq_some_iff.1 hi').1 hn).1 (hi'.trans hj'.symm)
    subst this
    exact Option.some.inj (hi.symm.trans hj)
  have inj2 : ∀ x ∈ ns, ∀ y ∈ ns, x.2.1 = y.2.1 → x = y := by
    intro x hx y hy e
    obtain ⟨i, hi⟩ := List.mem_iff_getElem?.1 hx
    obtain ⟨j, hj⟩ := List.mem_iff_getElem?.1 hy
    have hi' : (ns.map (·.2.1))[i]? = some x.2.1 := by rw [List.getElem?_map, hi]; rfl
    have hj' : (ns.map (·.2.1))[j]? = some x.2.1 := by rw [List.getElem?_map, hj, e]; rfl
    have := (List.getElem?_inj (List.getElem?_eq_some_iff.1 hi').1 hn2).1 (hi'.trans hj'.symm)
    subst this
    exact Option.some.inj (hi.symm.trans hj)
  have nameOf : ∀ x ∈ ns, (ns.find? (fun y => y.1 == x.1)) = some x := by
    intro x hx
    cases e : ns.find? (fun y => y.1 == x.1) with
    | none =>
      rw [List.find?_eq_none] at e
      exact absurd (beq_self_eq_true x.1) (e x hx)
    | some y =>
      have h3 := List.find?_some e
      have h4 := List.mem_of_find?_eq_some e
      rw [inj y h4 x hx (by simpa using h3)]
  refine ⟨fun k => ptrAt P W ((ns.find? (fun y => y.1 == k)).map (·.2.1) |>.getD ""), ?_, ?_, ?_⟩
  · intro k hk
    obtain ⟨x, hx, rfl⟩ := List.mem_map.1 hk
    obtain ⟨g1, g2, g3⟩ := hL x hx
    have := (h1 x.2 x.1 g1 g2 g3).1
    rw [nameOf x hx]
    exact World.var?_cell g2 this 0
  · intro k hk
    obtain ⟨x, hx, rfl⟩ := List.mem_map.1 hk
    obtain ⟨g1, g2, g3⟩ := hL x hx
    have hm := (h1 x.2 x.1 g1 g2 g3).2
    rw [nameOf x hx]
    exact (hrows _ _ hm).1
  · intro i hi j hj e
    obtain ⟨x, hx, rfl⟩ := List.mem_map.1 hi
    obtain ⟨y, hy, rfl⟩ := List.mem_map.1 hj
    obtain ⟨g1, g2, g3⟩ := hL x hx
    obtain ⟨k1, k2, k3⟩ := hL y hy
    simp only [nameOf x hx, nameOf y hy] at e
    by_cases hxy : x.2.1 = y.2.1
    · rw [inj2 x hx y hy hxy]
    · exact absurd e (h2 x.2 y.2 x.1 y.1 g1 k1 g2 g3 k2 k3 hxy)
end

/-- The witness, from a world whose shape is told. -/
theorem witness_row_shaped {H : Type} {enc : TypeId × Value → H} {C : Checked} {os : Os} {f : FuncId} {fn : Func} {s : OpenSpec} {conds : List PathCond} {apart : Bool} {laid : List (String × DataW Unit)} (modest : Bool) (w0 : World) (args : Array Value) (hos : w0.os = os)
    (hsh : (w0.forCall (fun _ _ => 0) ⟨#[], args, []⟩).Shaped C.prog)
    (hok : Input.okWideB C.prog (w0.forCall (fun _ _ => 0) ⟨#[], args, []⟩) f ⟨#[], args, []⟩ = true)
    (hrow : s.preRow enc C.prog fn conds apart laid (w0.forCall (fun _ _ => 0) ⟨#[], args, []⟩).memory args) :
    ∃ (w : World) (tape : Tape) (i : Input), w.os = os ∧ (w.forCall tape i).Shaped C.prog ∧ i.vars = [] ∧ Input.okWide C.prog (w.forCall tape i) .any w.heap.size f i ∧
      s.preRow enc C.prog fn conds apart laid (w.forCall tape i).memory i.args ∧ ({ modest := modest } : Assume).holds C.prog (lone (Frame.enter C.prog f i.args .normal) [] (w.forCall tape i)) :=
  ⟨w0, fun _ _ => 0, ⟨#[], args, []⟩, hos, hsh, (Input.okWide_of_okWideB (base := 0) hok).1, (Input.okWide_of_okWideB hok).2, hrow, by
    simp only [Assume.holds]
    exact ⟨by simp, by simp, fun _ => Modest.zero, by simp, by simp⟩⟩
end Go.AE
