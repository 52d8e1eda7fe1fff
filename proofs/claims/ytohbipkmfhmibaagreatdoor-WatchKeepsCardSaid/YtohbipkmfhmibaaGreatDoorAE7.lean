import Derived.Test.YtohbipkmfhmibaaGreatDoorAE6
import Derived.Deep.Upon
/-! AE7: values that are built, rows, append. -/
set_option linter.unusedVariables false
set_option linter.unusedSimpArgs false
namespace Go.AE
open Go.RowKit Go.LB

theorem setCells_row {b : Nat} {e : TypeId} {fz : Nat × Nat} : ∀ (vs : List Value) (o : Nat) (cur : Array Value) (w : World), w.heap[b]? = some (.cells cur e fz) → w.setCells b o vs = w.setRow b (putAt cur.toList o vs).toArray
  | [], o, cur, w, h => by
    simp only [World.setCells, putAt, Array.toArray_toList]
    exact (setRow_self w b cur e fz h).symm
  | v :: r, o, cur, w, h => by
    rw [World.setCells, setCell_eq_setRow w b o cur e fz v h, setCells_row r (o + 1) _ _ (setRow_heap w b cur _ e fz h), setRow_setRow, putAt, Array.toList_setIfInBounds]

def kl (k : Nat) (l : List T) : Bool := l.all fun x => x.cells.length == k
theorem kl_iff {k : Nat} {l : List T} : kl k l = true ↔ ∀ x ∈ l, x.cells.length = k := by simp [kl]
theorem flat_length {k : Nat} : ∀ {l : List T}, (∀ x ∈ l, x.cells.length = k) → (l.flatMap T.cells).length = l.length * k
  | [], _ => by simp
  | x :: l, h => by
    rw [List.flatMap_cons, List.length_append, flat_length (fun y hy => h y (by simp [hy])), h x (by simp), List.length_cons, Nat.add_mul, Nat.one_mul, Nat.add_comm]

section
variable {P : Program} {U : Name → Prop} {E : Env} {G : Name → Option Blk} {L : Name → Prop} {w : World}

/-! ### build -/
def eFill : List T → List (Nat × Nat × T) → Option (List T)
  | cs, [] => some cs
  | cs, (off, size, x) :: r => if x.cells.length = size ∧ off + size ≤ cs.length ∧ isTup x = false then eFill (putAt cs off x.cells) r else none
theorem foldl_put (off : Nat) : ∀ (l : List Value) (k : Nat) (us : Array Value), ((l.zipIdx k).foldl (fun (cs : Array Value) (x : Value × Nat) => cs.setIfInBounds (off + x.2) x.1) us).toList = putAt us.toList (off + k) l
  | [], k, us => rfl
  | v :: l, k, us => by
    rw [List.zipIdx_cons, List.foldl_cons, foldl_put off l (k + 1), putAt, Array.toList_setIfInBounds, Nat.add_assoc]
theorem fill_sound (place : Nat → Option (Nat × Nat)) : ∀ (qs : List (Nat × Nat × T)) (ps : List (Nat × Value)) (cs r : List T) (us : Array Value), ps.length = qs.length →
    (∀ (i : Nat) q p, qs[i]? = some q → ps[i]? = some p → place p.1 = some (q.1, q.2.1) ∧ Rel E w q.2.2 p.2) → RelL E w cs us.toList → (∀ u ∈ us.toList, u.oneCell' = true) → eFill cs qs = some r →
    ∃ vs, Instr.fill place us ps = some vs ∧ RelL E w r vs.toList ∧ (∀ u ∈ vs.toList, u.oneCell' = true)
  | [], [], cs, r, us, _, _, hc, h1, hr => by cases hr; exact ⟨us, rfl, hc, h1⟩
  | (off, size, x) :: qs, (i, v) :: ps, cs, r, us, hl, hq, hc, h1, hr => by
    obtain ⟨hp, hx⟩ := hq 0 _ _ rfl rfl
    simp only at hp hx
    simp only [eFill] at hr
    split at hr
    · rename_i hcond
      obtain ⟨c1, c2, c3⟩ := hcond
      obtain ⟨hxl, hx1⟩ := hx.cells (isTup_ne c3)
      have hsz : v.cells.size = size := by have := hxl.1; simp at this; omega
      have hus : us.size = cs.length := by have := hc.1; simpa using this
      simp only [Instr.fill, hp]
      rw [if_neg (by simp only [hsz, ne_eq, not_true_eq_false, decide_false, Bool.false_or, decide_eq_true_eq]; omega)]
      have hf : (v.cells.zipIdx.foldl (fun (cs : Array Value) (x : Value × Nat) => cs.setIfInBounds (off + x.2) x.1) us).toList = putAt us.toList off v.cells.toList := by
        rw [← Array.foldl_toList, Array.toList_zipIdx]
        exact foldl_put off v.cells.toList 0 us
      exact fill_sound place qs ps _ r _ (by simpa using hl) (fun j q p hj hj' => hq (j + 1) q p (by simpa using hj) (by simpa using hj')) (by rw [hf]; exact hc.putAt hxl off) (by rw [hf]; exact one_putAt off h1 hx1) hr
    · cases hr
  | [], _ :: _, _, _, _, hl, _, _, _, _ => by simp at hl
  | _ :: _, [], _, _, _, hl, _, _, _, _ => by simp at hl

/-! ### a row that is built -/
def eSets (k : Nat) : List T → List (Nat × T) → Option (List T)
  | l, [] => some l
  | l, (i, x) :: r => if x.cells.length = k ∧ i < l.length ∧ isTup x = false then eSets k (l.set i x) r else none
theorem putAt_app {α : Type} (a : List α) : ∀ (xs l : List α) (o : Nat), putAt (a ++ l) (a.length + o) xs = a ++ putAt l o xs
  | [], l, o => rfl
  | x :: xs, l, o => by
    rw [putAt, putAt, List.set_append_right (a.length + o) x (by omega), Nat.add_sub_cancel_left, Nat.add_assoc]
    exact putAt_app a xs _ _
theorem flat_set {k : Nat} : ∀ {l : List T} {i : Nat} {x : T}, (∀ y ∈ l, y.cells.length = k) → i < l.length → x.cells.length = k → (l.set i x).flatMap T.cells = putAt (l.flatMap T.cells) (i * k) x.cells
  | [], _, _, _, h, _ => by simp at h
  | y :: l, 0, x, hl, _, hx => by
    have hy := hl y (by simp)
    rw [List.set_cons_zero, List.flatMap_cons, List.flatMap_cons, Nat.zero_mul, putAt_eq _ _ _ (by rw [List.length_append]; omega), List.take_zero, List.nil_append, Nat.zero_add, hx, ← hy, List.drop_left]
  | y :: l, i + 1, x, hl, hi, hx => by
    have hy := hl y (by simp)
    have hi' : i < l.length := by simpa using hi
    rw [List.set_cons_succ, List.flatMap_cons, List.flatMap_cons, flat_set (fun z hz => hl z (by simp [hz])) hi' hx, show (i + 1) * k = y.cells.length + i * k by rw [Nat.add_mul, hy]; omega, putAt_app]
theorem sets_sound (k : Nat) : ∀ (qs : List (Nat × T)) (ps : List (Nat × Value)) (l r : List T) (us : Array Value), ps.length = qs.length →
    (∀ (i : Nat) q p, qs[i]? = some q → ps[i]? = some p → p.1 = q.1 ∧ Rel E w q.2 p.2) → (∀ y ∈ l, y.cells.length = k) → RelL E w (l.flatMap T.cells) us.toList → (∀ u ∈ us.toList, u.oneCell' = true) → eSets k l qs = some r →
    ∃ vs, Instr.fill (fun i => some (i * k, k)) us ps = some vs ∧ RelL E w (r.flatMap T.cells) vs.toList ∧ (∀ u ∈ vs.toList, u.oneCell' = true) ∧ (∀ y ∈ r, y.cells.length = k) ∧ r.length = l.length
  | [], [], l, r, us, _, _, hl, hc, h1, hr => by cases hr; exact ⟨us, rfl, hc, h1, hl, rfl⟩
  | (i, x) :: qs, (j, v) :: ps, l, r, us, hlen, hq, hl, hc, h1, hr => by
    obtain ⟨hp, hx⟩ := hq 0 _ _ rfl rfl
    simp only at hp hx
    subst hp
    simp only [eSets] at hr
    split at hr
    · rename_i hcond
      obtain ⟨c1, c2, c3⟩ := hcond
      obtain ⟨hxl, hx1⟩ := hx.cells (isTup_ne c3)
      have hsz : v.cells.size = k := by have := hxl.1; simp at this; omega
      have hus : us.size = l.length * k := by have := hc.1; rw [flat_length hl] at this; simpa using this
      have hm : j * k + k ≤ l.length * k := by rw [← Nat.succ_mul]; exact Nat.mul_le_mul_right _ c2
      simp only [Instr.fill]
      rw [if_neg (by simp only [hsz, ne_eq, not_true_eq_false, decide_false, Bool.false_or, decide_eq_true_eq]; omega)]
      have hf : (v.cells.zipIdx.foldl (fun (cs : Array Value) (x : Value × Nat) => cs.setIfInBounds (j * k + x.2) x.1) us).toList = putAt us.toList (j * k) v.cells.toList := by
        rw [← Array.foldl_toList, Array.toList_zipIdx]
        exact foldl_put (j * k) v.cells.toList 0 us
      have hl' : ∀ y ∈ l.set j x, y.cells.length = k := fun y hy => by
        rcases List.mem_or_eq_of_mem_set hy with h | h
        · exact hl y h
        · exact h ▸ c1
      obtain ⟨vs, e1, e2, e3, e4, e5⟩ := sets_sound k qs ps (l.set j x) r _ (by simpa using hlen) (fun j q p hj hj' => hq (j + 1) q p (by simpa using hj) (by simpa using hj')) hl' (by rw [hf, flat_set hl c2 c1]; exact hc.putAt hxl _) (by rw [hf]; exact one_putAt _ h1 hx1) hr
      exact ⟨vs, e1, e2, e3, e4, by rw [e5, List.length_set]⟩
    · cases hr
  | [], _ :: _, _, _, _, hl, _, _, _, _, _ => by simp at hl
  | _ :: _, [], _, _, _, hl, _, _, _, _, _ => by simp at hl

/-- A new row of this call's own. -/
theorem new_row (st : St E G L w) {w' : World} (hk0 : New w w') {nm : Name} (hn : E.τ nm = none) (hU : U nm) {k : Nat} (hk : 0 < k) {l : List T} {us : List Value} {b c : Nat} {vs : Array Value} {e : TypeId} (hl : ∀ x ∈ l, x.cells.length = k) (hr : RelL E w (l.flatMap T.cells) us) (h1 : ∀ u ∈ us, u.oneCell' = true)
    (hb : w.heap.size ≤ b) (hh : w'.heap[b]? = some (.cells vs e (0, 0))) (hv : vs.toList.take us.length = us) (hc : l.length ≤ c) (hm : c ≤ maxLen) (hsz : c * k ≤ vs.size) :
    ∃ E', Rel E' w' (.sl l (.own nm k)) (.slice (some ⟨b, 0, none⟩) l.length c) ∧ Walk U E G L w E' G (fun x => L x ∨ x = nm) w' := by
  have hfl := flat_length hl
  have hul : us.length = l.length * k := by rw [hr.1, hfl]
  have hck : l.length * k + (c - l.length) * k = c * k := by rw [← Nat.add_mul]; congr 1; omega
  have W := Walk.new_tok (U := U) st hk0 hn hU (b := b) (m := l.length * k) (r := (c - l.length) * k) hb hh (by omega)
  refine ⟨_, ?_, W⟩
  refine .sl (fun i => vs.getD i undef) hk hl hc hm ⟨rfl, (c - l.length) * k, Nat.le_refl _, by simp⟩ (fun i x hx => ?_) (fun i x hx => ?_)
  · have hi : i < l.length * k := by rw [← hfl]; exact (List.getElem?_eq_some_iff.1 hx).1
    have hiv : i < vs.size := by omega
    have e1 : vs.getD i undef = vs[i] := by simp [Array.getD, hiv]
    refine ⟨.inr ⟨rfl, by simpa using hi⟩, ?_, ?_⟩
    · rw [Nat.zero_add, cell_of_row w' b i vs e (0, 0) hh, e1, Array.getElem?_eq_getElem hiv]
    · rw [e1]
      refine h1 _ ?_
      rw [← hv]
      refine List.mem_of_getElem? (i := i) ?_
      rw [List.getElem?_take, if_pos (by omega)]
      simp [hiv]
  · obtain ⟨u, hu, hru⟩ := hr.get hx
    have hi : i < us.length := (List.getElem?_eq_some_iff.1 hu).1
    have hiv : i < vs.size := by omega
    have : vs.getD i undef = u := by
      rw [← hv, List.getElem?_take, if_pos hi] at hu
      simp [hiv] at hu
      simp [Array.getD, hiv, hu]
    rw [this]
    exact hru.ext W.ext

/-! ### append -/
/-- What a slice's value holds, as cells. -/
theorem sl_src (st : St E G L w) {P : Program} {tx e' : TypeId} {k : Nat} (hk : P.underlying tx = some (.slice e')) {m : List T} {t : Tag} {u : Value} (hm : ∀ x ∈ m, x.cells.length = k) (hu : Rel E w (.sl m t) u) :
    ∃ news, Go.Src P k tx u m.length news w ∧ RelL E w (m.flatMap T.cells) news := by
  have hfl := flat_length hm
  cases hu with
  | slnil => exact ⟨[], Src.ofNil w hk 0, RelL.nil _ _⟩
  | slno h hc h2 a hkk =>
    rename_i c
    refine ⟨[], ?_, RelL.nil _ _⟩
    cases a with
    | none => exact Src.ofNil w hk c
    | some a => exact Src.ofSlice w hk a 0 c [] (by simp) (by simp) (by simp)
  | sl cv hk0 hl hc hmx ht h1 h2 =>
    rename_i b o c k0
    have hlen : ((List.range (m.length * k)).map fun i => cv i).length = m.length * k := by simp
    refine ⟨(List.range (m.length * k)).map fun i => cv i, Src.ofSlice w hk _ _ _ _ hlen (fun j v hj => ?_) (fun v hv => ?_), ⟨by rw [hlen, hfl], fun i x v hx hv => ?_⟩⟩
    · rw [List.getElem?_map] at hj
      obtain ⟨i, hi, rfl⟩ := Option.map_eq_some_iff.1 hj
      have hjn : j < m.length * k := by have := (List.getElem?_eq_some_iff.1 hi).1; simpa using this
      rw [List.getElem?_range hjn] at hi; cases hi
      rw [Addr.add_mid]
      exact (h1 j _ (List.getElem?_eq_getElem (by rw [hfl]; exact hjn))).2.1
    · simp only [List.mem_map, List.mem_range] at hv
      obtain ⟨j, hj, rfl⟩ := hv
      exact (h1 j _ (List.getElem?_eq_getElem (by rw [hfl]; exact hj))).2.2
    · have hi : i < m.length * k := by rw [← hfl]; exact (List.getElem?_eq_some_iff.1 hx).1
      simp [hi] at hv
      subst hv
      exact h2 i x hx

def eApp (k lim : Nat) (nm : Name) (x : T) (m : List T) (live : List Name) : Option (T × List Name) :=
  match x with
  | .sl l t =>
    if l.length + m.length ≤ lim ∧ kl k l = true ∧ kl k m = true then
      match t with
      | .nil => some (.sl (l ++ m) (.own nm k), nm :: live)
      | .own n k' => if k' = k ∧ n ∈ live then some (.sl (l ++ m) (.own nm k), nm :: live.filter (· ≠ n)) else none
      | _ => none
    else none
  | _ => none

theorem eApp_sound {live live' : List Name} (st : St E G (· ∈ live) w) {t tx ty e : TypeId} {i : TypeInfo} {z : Value} {k lim : Nat} (ht : P.underlying t = some (.slice e)) (hi : P.info? e = some i) (hz : i.zero = some z) (hik : i.size = k) (hzk : z.cells.size = k) (hk : 0 < k)
    (hlim : lim * i.bytes ≤ 140737488355328) (hlim2 : lim ≤ maxLen) {nm : Name} (hn : E.τ nm = none) (hU : U nm) {a x : T} {m : List T} {u v : Value} {news : List Value} (ha : Rel E w a u) (hs : Go.Src P k tx v m.length news w) (hnews : RelL E w (m.flatMap T.cells) news)
    (hx : eApp k lim nm a m live = some (x, live')) :
    ∃ r E' w', (Builtin.append_ #[t, tx] ty #[u, v]).run P w = .ok r w' ∧ Rel E' w' x r ∧ Walk U E G (· ∈ live) w E' G (· ∈ live') w' := by
  subst hik
  unfold eApp at hx
  split at hx
  case h_2 => cases hx
  rename_i l tg
  split at hx
  case isFalse => cases hx
  rename_i hcond
  obtain ⟨hlm, hkl, hkm⟩ := hcond
  rw [kl_iff] at hkl hkm
  have hfl := flat_length hkl
  have hfm := flat_length hkm
  have hnl : news.length = m.length * i.size := by rw [hnews.1, hfm]
  have hb2 : (l.length + m.length) * i.bytes ≤ 140737488355328 := Nat.le_trans (Nat.mul_le_mul_right _ hlm) hlim
  have hmax : l.length + m.length ≤ maxLen := Nat.le_trans hlm hlim2
  have h63 : ((l.length + m.length : Nat) : Int) ≤ 9223372036854775807 := by simp only [maxLen] at hmax; omega
  -- a new row
  have grow : ∀ (base : Option Addr) (c : Nat) (olds : List Value), u = .slice base l.length c → (Builtin.firstCells i.size l.length (.slice base l.length c)).run P w.drew = .ok olds.toArray w.drew → RelL E w (l.flatMap T.cells) olds → (∀ u ∈ olds, u.oneCell' = true) → c < l.length + m.length →
      ∃ r E' w', (Builtin.append_ #[t, tx] ty #[u, v]).run P w = .ok r w' ∧ Rel E' w' (.sl (l ++ m) (.own nm i.size)) r ∧ Walk U E G (· ∈ live) w E' G (fun x => x ∈ live ∨ x = nm) w' := by
    rintro base c olds rfl hf ho h1o hc
    have hrun := run_append_grow_src (P := P) w t tx ty e i z ht hi hz base l.length c olds hf v m.length news hs hc h63 (growslice_fits hc hb2)
    have hcap := grownCap_ge w (l.length + m.length) c e
    have hcm := grownCap_le_maxLen w (l.length + m.length) c e hmax
    have hk' : New w (w.drew.alloc (.cells ((olds ++ news).toArray ++ Builtin.zeroCells z.cells (grownCap w (l.length + m.length) c e - (l.length + m.length))) e)) := (Keep.refl _ _).drew.alloc _
    have hol : olds.length = l.length * i.size := by rw [ho.1, hfl]
    obtain ⟨E', hr, hw⟩ := new_row (U := U) (us := olds ++ news) (c := grownCap w (l.length + m.length) c e) st hk' hn hU hk (l := l ++ m) (fun x hx => by
        rcases List.mem_append.1 hx with h | h
        · exact hkl x h
        · exact hkm x h) (by rw [List.flatMap_append]; exact ho.append hnews) (fun u hu => by
        rcases List.mem_append.1 hu with h | h
        · exact h1o u h
        · exact hs.one u h) (b := w.heap.size) (by omega) (heap_alloc_new w.drew _) (by simp only [Array.toList_append]; exact List.take_left) (by simpa using hcap) hcm
        (by simp only [Array.size_append, List.size_toArray, List.length_append, size_zeroCells, hzk, hol, hnl, ← Nat.add_mul]; apply Nat.mul_le_mul_right; omega)
    rw [List.length_append] at hr
    exact ⟨_, E', _, hrun, hr, hw⟩
  -- nothing is appended to nothing
  have none0 : ∀ (base : Option Addr) (c : Nat), u = .slice base 0 c → l = [] → m = [] → c ≤ maxLen → (c = 0 ∨ ∃ k', tg = .own nm k') → c = 0 →
      ∃ r E' w', (Builtin.append_ #[t, tx] ty #[u, v]).run P w = .ok r w' ∧ Rel E' w' (.sl (l ++ m) (.own nm i.size)) r ∧ Walk U E G (· ∈ live) w E' G (fun x => x ∈ live ∨ x = nm) w' := by
    rintro base c rfl rfl rfl hc _ rfl
    have hnil : news = [] := List.eq_nil_of_length_eq_zero (by simpa using hnl)
    subst hnil
    have hrun := run_append_nothing (P := P) w t tx ty e i ht hi base 0 0 (Nat.le_refl _) v hs
    have hgl : Walk U E G (· ∈ live) w E G (fun x => x ∈ live ∨ x = nm) w := by
      have st' : St E G (fun x => x ∈ live ∨ x = nm) w := by
        have hx : ∀ x b e r, (x ∈ live ∨ x = nm) → E.τ x = some (b, e, r) → x ∈ live := fun x b e r h1 h2 => h1.resolve_right (fun q => by subst q; rw [hn] at h2; cases h2)
        have hmine : ∀ b, Mine E G (fun x => x ∈ live ∨ x = nm) b → Mine E G (· ∈ live) b := fun b hb => by
          rcases hb with hb | ⟨x, h1, e, r, h2⟩
          · exact .inl hb
          · exact .inr ⟨x, hx x b e r h1 h2, e, r, h2⟩
        exact ⟨st.box, st.map, st.inj, st.zbox, st.zlt, fun x h1 b e r h2 => st.tok x (hx x b e r h1 h2) b e r h2, fun x b e r y h1 h2 => st.tokbox x b e r y (hx x b e r h1 h2) h2, fun x y b e r e' r' h1 h2 h3 h4 => st.toktok x y b e r e' r' (hx x b e r h1 h3) (hx y b e' r' h2 h4) h3 h4, fun b hF => ⟨(st.F b hF).1, fun hm => (st.F b hF).2 (hmine b hm)⟩, st.gl, st.glinj⟩
      refine ⟨st', Ext.refl _ _ _, fun b _ hb => ?_, fun _ _ x => .inl x, fun _ x => .inl x, fun _ x => .inl x, fun x (h : x ∈ live ∨ x = nm) => h.imp id fun (q : x = nm) => by rw [q]; exact hU⟩
      rcases hb with hb | ⟨x, h1, e, r, h2⟩
      · exact .inl hb
      · exact .inr ⟨x, h1.resolve_right (fun q => by subst q; rw [hn] at h2; cases h2), e, r, h2⟩
    exact ⟨_, E, w, hrun, .slno (by simp) (by simp [maxLen]) (fun _ _ _ => rfl) base (by simp), hgl⟩
  split at hx
  · -- nil
    cases hx
    have hmem : ∀ {E' w'}, Walk U E G (· ∈ live) w E' G (fun x => x ∈ live ∨ x = nm) w' → Walk U E G (· ∈ live) w E' G (· ∈ nm :: live) w' := fun W => W.less (fun _ _ h => h) (fun x hx => by simp at hx; exact hx.symm)
    have hul : u = .slice none 0 0 ∧ l = [] := by
      cases ha with
      | slnil => exact ⟨rfl, rfl⟩
      | slno h _ _ _ => exact absurd rfl h
      | sl _ _ _ _ _ ht _ _ => exact ht.elim
    obtain ⟨rfl, rfl⟩ := hul
    by_cases hm0 : m = []
    · obtain ⟨r, E', w', q1, q2, q3⟩ := none0 none 0 rfl rfl hm0 (by simp [maxLen]) (.inl rfl) rfl
      exact ⟨r, E', w', q1, q2, hmem q3⟩
    · obtain ⟨r, E', w', q1, q2, q3⟩ := grow none 0 [] rfl (run_firstCells_none w.drew _ _ _ _) (RelL.nil _ _) (by simp) (by have := List.length_pos_iff.2 hm0; simpa using this)
      exact ⟨r, E', w', q1, q2, hmem q3⟩
  · -- ours
    rename_i n k'
    split at hx
    case isFalse => cases hx
    rename_i hc
    obtain ⟨rfl, hlive⟩ := hc
    cases hx
    have hmem : ∀ {E' w'}, Walk U E G (· ∈ live) w E' G (fun x => x ∈ live ∨ x = nm) w' → Walk U E G (· ∈ live) w E' G (· ∈ nm :: live.filter (· ≠ n)) w' := fun W => W.less (fun _ _ h => h) (fun x hx => by simp at hx; rcases hx with hx | hx; exact .inr hx; exact .inl hx.1)
    cases ha with
    | slno h hcm h2 base =>
      obtain rfl := h2 _ _ rfl
      by_cases hm0 : m = []
      · obtain ⟨r, E', w', q1, q2, q3⟩ := none0 base 0 rfl rfl hm0 (by simp [maxLen]) (.inl rfl) rfl
        exact ⟨r, E', w', q1, q2, hmem q3⟩
      · obtain ⟨r, E', w', q1, q2, q3⟩ := grow base 0 [] rfl (by cases base with
          | none => exact run_firstCells_none w.drew _ _ _ _
          | some b => exact run_firstCells_some w.drew _ _ _ _ _ _ (by simp) (by simp)) (RelL.nil _ _) (by simp) (by have := List.length_pos_iff.2 hm0; simpa using this)
        exact ⟨r, E', w', q1, q2, hmem q3⟩
    | sl cv hk0 hl hlc hcm htag h1 h2 =>
      rename_i b o c k0
      obtain ⟨rfl, r, hr, hτ⟩ := htag
      by_cases hroom : l.length + m.length ≤ c
      · obtain ⟨⟨vs, el, hh, hvs⟩, hzz⟩ := st.tok n hlive b _ r hτ
        have hfit : news.length ≤ r := by
          rw [hnl]
          exact Nat.le_trans (Nat.mul_le_mul_right _ (by omega)) hr
        have hcell : ∀ j, j < news.length → w.cell? ⟨b, o + l.length * i.size + j, none⟩ = some (vs.getD (o + l.length * i.size + j) undef) := fun j hj => by
          have hlt : o + l.length * i.size + j < vs.size := by omega
          rw [cell_of_row w b _ vs el (0, 0) hh, Array.getElem?_eq_getElem hlt]
          simp [Array.getD, hlt]
        have hrun := run_append_room_src (P := P) w t tx ty e i ht hi b o l.length c v m.length news hs hroom (fun j hj => by rw [hcell j hj]; rfl) (fun j hj => by simp [World.frozen?, hh])
        have hsr := setCells_row news (o + l.length * i.size) vs w hh
        have hh' := setRow_heap w b vs (putAt vs.toList (o + l.length * i.size) news).toArray el (0, 0) hh
        have hsz' : (putAt vs.toList (o + l.length * i.size) news).toArray.size = vs.size := by simp [putAt_length]
        have W := Walk.tok_app (U := U) st hlive hτ hfit hn hU (keep_setRow w b (putAt vs.toList (o + l.length * i.size) news).toArray) (fun j hj => by
            rw [cell_of_row _ b j _ el (0, 0) hh', cell_of_row w b j vs el (0, 0) hh]
            rw [List.getElem?_toArray, putAt_get _ _ _ _ (by simp; omega), if_neg (by omega)]
            simp) hh' (by rw [hsz']; exact hvs)
        refine ⟨_, _, _, by rw [hrun, hsr], ?_, W.less (fun _ _ h => h) (fun x hx => by simp at hx; rcases hx with hx | hx; exact .inr hx; exact .inl ⟨hx.1, hx.2⟩)⟩
        have hlm' : (l ++ m).length = l.length + m.length := List.length_append
        rw [← hlm']
        have hflm : ((l ++ m).flatMap T.cells).length = (l.length + m.length) * i.size := by rw [List.flatMap_append, List.length_append, hfl, hfm, Nat.add_mul]
        refine .sl (fun j => if j < l.length * i.size then cv j else news.getD (j - l.length * i.size) undef) hk (fun x hx => by
            rcases List.mem_append.1 hx with h | h
            · exact hkl x h
            · exact hkm x h) (by rw [hlm']; exact hroom) hcm ⟨rfl, r - news.length, ?_, ?_⟩ (fun j x hx => ?_) (fun j x hx => ?_)
        · rw [hlm', hnl]
          have : (c - (l.length + m.length)) * i.size + m.length * i.size = (c - l.length) * i.size := by rw [← Nat.add_mul]; congr 1; omega
          omega
        · rw [hlm', Nat.add_mul, ← Nat.add_assoc, ← hnl]
          simp
        · have hj : j < (l.length + m.length) * i.size := by rw [← hflm]; exact (List.getElem?_eq_some_iff.1 hx).1
          rw [Nat.add_mul] at hj
          rw [List.flatMap_append] at hx
          by_cases hjl : j < l.length * i.size
          · rw [List.getElem?_append_left (by rw [hfl]; exact hjl)] at hx
            obtain ⟨z1, z2, z3⟩ := h1 j x hx
            simp only [hjl, if_true]
            exact ⟨.inl z1, (W.ext.zc _ _ z1).trans z2, z3⟩
          · rw [List.getElem?_append_right (by rw [hfl]; omega), hfl] at hx
            simp only [hjl, if_false]
            have hjn : j - l.length * i.size < news.length := by omega
            refine ⟨.inr ⟨by simp, by omega, by omega⟩, ?_, ?_⟩
            · rw [cell_of_row _ b _ _ el (0, 0) hh', List.getElem?_toArray, putAt_get _ _ _ _ (by simp; omega), if_pos (by omega), show o + j - (o + l.length * i.size) = j - l.length * i.size by omega, List.getD_eq_getElem?_getD, List.getElem?_eq_getElem hjn]
              rfl
            · rw [List.getD_eq_getElem?_getD, List.getElem?_eq_getElem hjn]
              exact hs.one _ (List.getElem_mem hjn)
        · rw [List.flatMap_append] at hx
          by_cases hjl : j < l.length * i.size
          · rw [List.getElem?_append_left (by rw [hfl]; exact hjl)] at hx
            simp only [hjl, if_true]
            exact (h2 j x hx).ext W.ext
          · rw [List.getElem?_append_right (by rw [hfl]; omega), hfl] at hx
            simp only [hjl, if_false]
            obtain ⟨u, hu, hru⟩ := hnews.get hx
            rw [List.getD_eq_getElem?_getD, hu]
            exact hru.ext W.ext
      · have hlen : ((List.range (l.length * i.size)).map fun j => cv j).length = l.length * i.size := by simp
        obtain ⟨r', E', w', q1, q2, q3⟩ := grow (some ⟨b, o, none⟩) c ((List.range (l.length * i.size)).map fun j => cv j) rfl
          (run_firstCells_some w.drew _ _ _ _ _ _ hlen (fun j v hj => by
            rw [List.getElem?_map] at hj
            obtain ⟨p, hp, rfl⟩ := Option.map_eq_some_iff.1 hj
            have hjn : j < l.length * i.size := by have := (List.getElem?_eq_some_iff.1 hp).1; simpa using this
            rw [List.getElem?_range hjn] at hp; cases hp
            rw [Addr.add_mid, World.cell?_drew]
            exact (h1 j _ (List.getElem?_eq_getElem (by rw [hfl]; exact hjn))).2.1))
          ⟨by rw [hlen, hfl], fun j x v hx hv => by
            have hj : j < l.length * i.size := by rw [← hfl]; exact (List.getElem?_eq_some_iff.1 hx).1
            simp [hj] at hv
            subst hv
            exact h2 j x hx⟩ (fun v hv => by
            simp only [List.mem_map, List.mem_range] at hv
            obtain ⟨j, hj, rfl⟩ := hv
            exact (h1 j _ (List.getElem?_eq_getElem (by rw [hfl]; exact hj))).2.2) (by omega)
        exact ⟨r', E', w', q1, q2, hmem q3⟩
  · cases hx
end
end Go.AE
