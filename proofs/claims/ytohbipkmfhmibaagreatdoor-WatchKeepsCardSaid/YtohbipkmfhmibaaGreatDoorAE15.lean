import Derived.Test.YtohbipkmfhmibaaGreatDoorAE14
/-! AE15: the other operations, continued; all of them but calls. -/
set_option linter.unusedVariables false
set_option linter.unusedSimpArgs false
namespace Go.AE
open Go.RowKit Go.LB
section
variable {C : Cfg} {E : Env} {h h' : Heap} {live live' : List Name} {w : World} {fr : Fr} {a : Act} {nm : Name} {o : Oper} {r : R} {x : T} {call : FuncId → Name → List T → Heap → Option (T × Heap)}

theorem run_buildSlice {P : Program} {t e : TypeId} {i : TypeInfo} {z : Value} {len : Nat} {parts : Array (Nat × Value)} {cells : Array Value} (ht : P.underlying t = some (.slice e)) (hi : P.info? e = some i) (hz : i.zero = some z) (hlen : len * i.size ≤ 16777216)
    (hf : Instr.fill (fun j => some (j * i.size, i.size)) (madeCells z.cells (len * i.size)) parts.toList = some cells) (w : World) : (Instr.buildSlice t len parts).run P w = .ok (.slice (some ⟨w.heap.size, 0, none⟩) len len) (w.alloc (.cells cells e)) := by
  have hn : ¬ (len * i.size > 2 ^ 24) := by omega
  have hn' : ¬ (16777216 < len * i.size) := by omega
  by_cases h0 : len * i.size = 0
  · have hm : madeCells z.cells (len * i.size) = #[] := by rw [h0]; simp [madeCells, Array.range_zero']
    rw [hm] at hf
    simp [Instr.buildSlice, run_underlying ht, sizeOf, typeInfo, hi, h0, hf, newRow, Array.range_zero']
  · simp only [madeCells] at hf
    simp [Instr.buildSlice, run_underlying ht, sizeOf, typeInfo, hi, zeroValue, hz, h0, hn', hf, newRow]
theorem snd_bsl (X : Ctx C E h live w fr a nm) {t : TypeId} {len : Nat} {ps : Array (Nat × Operand)} (ho : o.op = .buildSlice t len ps) (hr : res C o = some r) (hx : evR C call fr nm h live r = some (x, h', live')) : Good C nm o a E h live w x h' live' := by
  have he : execOp a.eval o = (do pure (Next.value (← Instr.buildSlice t len (ps.map fun (i, x) => (i, a.eval x))))) := by unfold execOp; rw [ho]
  unfold res at hr
  simp only [ho] at hr
  split at hr
  case h_2 => cases hr
  rename_i e hu
  obtain ⟨⟨k, lim, zt⟩, hel, hr⟩ := Option.bind_eq_some_iff.1 hr
  obtain ⟨i, z, hi, hz, hzt, hik, hzk, hk, _, _⟩ := elemI_ok hel
  subst hik
  split at hr
  case isFalse => cases hr
  rename_i hlen
  simp only at hlen
  obtain ⟨l, hl, rfl⟩ := Option.map_eq_some_iff.1 hr
  obtain ⟨m1, m2⟩ := mapM_get hl
  obtain ⟨qs, hqs, hx⟩ := Option.bind_eq_some_iff.1 hx
  obtain ⟨ls, hls, e2⟩ := Option.map_eq_some_iff.1 hx
  cases e2
  obtain ⟨g1, g2⟩ := eQs_get hqs
  obtain ⟨hzr, hnt⟩ := ofV_rel (E := E) (w := w) hzt
  obtain ⟨z1, z2⟩ := hzr.cells hnt
  have hP := rep_made (E := E) (w := w) hk hzk z1 len len (Nat.le_refl _)
  have hzl : zt.cells.length = i.size := by rw [← z1.1]; simpa using hzk
  have hu' : ∀ y ∈ List.replicate len zt, y.cells.length = i.size := fun y hy => by rw [(List.mem_replicate.1 hy).2]; exact hzl
  have hfl := flat_length hu'
  rw [List.length_replicate] at hfl
  have hL : RelL E w ((List.replicate len zt).flatMap T.cells) (madeCells z.cells (len * i.size)).toList := ⟨by rw [hfl]; simp [size_madeCells], hP.2⟩
  obtain ⟨vs, f1, f2, f3, f4, f5⟩ := sets_sound (E := E) (w := w) i.size qs (ps.map fun (i, x) => (i, a.eval x)).toList (List.replicate len zt) ls _ (by simp [g1, m1]) (fun j q p hq hp => by
    rw [Array.toList_map, List.getElem?_map] at hp
    obtain ⟨p0, hp0, rfl⟩ := Option.map_eq_some_iff.1 hp
    obtain ⟨b, hb, hb2⟩ := m2 j p0 (by simpa using hp0)
    obtain ⟨y0, hy0, rfl⟩ := Option.map_eq_some_iff.1 hb
    obtain ⟨y, hy, hy2⟩ := g2 j _ y0 hb2
    rw [hq] at hy2; cases hy2
    exact ⟨rfl, rel_strip (X.eO hy0 hy)⟩) hu' hL (made_one z2 (by omega)) hls
  have hrun := run_buildSlice (P := C.P) hu hi hz hlen f1 w
  rw [List.length_replicate] at f5
  have hsz : vs.size = len * i.size := by
    have := f2.1
    rw [flat_length f4, f5] at this
    simpa using this
  obtain ⟨E', hr, hw⟩ := new_row (U := (nm <+: ·)) X.st (w' := w.alloc (.cells vs e)) ((Keep.refl _ _).alloc _) X.τ0 (List.prefix_refl nm) hk f4 f2 f3 (b := w.heap.size) (c := len) (Nat.le_refl _) (heap_alloc_new w _) List.take_length (by rw [f5]; exact Nat.le_refl _) (by
      have : len ≤ len * i.size := Nat.le_mul_of_pos_right _ hk
      simp only [maxLen]; omega) (by rw [hsz]; exact Nat.le_refl _)
  rw [f5] at hr
  exact ⟨_, E', _, .inl (by rw [he]; exact run_v hrun), hr, hw.less (fun _ _ h => h) (fun x hx => by simp at hx; exact hx.symm)⟩

theorem tmm_sound {mx : Bool} {y z q : T} {u v : Value} (h : tmm mx y z = some q) (hy : Rel E w y u) (hz : Rel E w z v) : ∃ r, ((if mx then Builtin.max2 u v else Builtin.min2 u v : Sem Value)).run C.P w = .ok r w ∧ Rel E w q r := by
  unfold tmm at h
  split at h
  · cases h; cases hy; cases hz
    cases mx
    · exact ⟨_, by simp [Builtin.min2], .v rfl⟩
    · exact ⟨_, by simp [Builtin.max2], .v rfl⟩
  · cases h
theorem tmms_sound {mx : Bool} : ∀ {l : List T} {us : List Value} {y q : T} {u : Value}, tmms mx y l = some q → Rel E w y u → RelL E w l us → ∃ r, (us.foldlM (fun x y => if mx then Builtin.max2 x y else Builtin.min2 x y) u : Sem Value).run C.P w = .ok r w ∧ Rel E w q r
  | [], us, y, q, u, h, hy, hl => by cases h; rw [hl.nil_inv]; exact ⟨u, by simp, hy⟩
  | z :: l, us, y, q, u, h, hy, hl => by
    obtain ⟨v, vs, rfl, h1, h2⟩ := hl.cons_inv
    obtain ⟨p, hp, h⟩ := Option.bind_eq_some_iff.1 h
    obtain ⟨r, hr, hr2⟩ := tmm_sound (C := C) hp hy h1
    obtain ⟨s, hs, hs2⟩ := tmms_sound (mx := mx) (l := l) h hr2 h2
    exact ⟨s, by simp only [List.foldlM_cons, Sem.run_bind, hr, Result.andThen_ok]; exact hs, hs2⟩

theorem tsrc_sound (st : St E (hget h) (· ∈ live) w) {P : Program} {tx e' : TypeId} {k : Nat} (hk : P.underlying tx = some (.slice e')) {y : T} {m : List T} {u : Value} (hm : kl k m = true) (hy : Rel E w y u) (hs : tsrc k y h = some m) : ∃ news, Go.Src P k tx u m.length news w ∧ RelL E w (m.flatMap T.cells) news := by
  unfold tsrc at hs
  split at hs
  · cases hs
    exact sl_src st hk (kl_iff.1 hm) hy
  · rename_i n off len
    split at hs
    · rename_i hk1
      subst hk1
      split at hs
      · rename_i cs hg
        split at hs
        · rename_i hc
          obtain ⟨hle, hkl⟩ := hc
          cases hs
          cases hy with
          | msl hρ hcc hmx =>
          rename_i c b0
          obtain ⟨b, vs, e, q1, q2, q3, q4, q5, q6⟩ := st.box_at hg
          rw [hρ] at q1; cases q1
          have hlen : ((cs.drop off).take len).length = len := by rw [List.length_take, List.length_drop]; omega
          have get : ∀ (i : Nat) x, ((cs.drop off).take len)[i]? = some x → cs[off + i]? = some x := fun i x hx => by
            rw [List.getElem?_take] at hx
            split at hx
            · rwa [List.getElem?_drop] at hx
            · cases hx
          have hcell1 : ∀ (i : Nat) x, cs[i]? = some x → x.cells = [x] := fun i x hx => by
            cases x with
            | agg l => exact (agg_not_one (q6 i _ hx) (q5 i _ hx).2).elim
            | _ => rfl
          have hflat : ∀ l : List T, (∀ x ∈ l, x.cells = [x]) → l.flatMap T.cells = l := by
            intro l hl
            induction l with
            | nil => rfl
            | cons x l ih => rw [List.flatMap_cons, hl x (by simp), ih (fun y hy => hl y (by simp [hy]))]; rfl
          have hfl : ((cs.drop off).take len).flatMap T.cells = (cs.drop off).take len := hflat _ (fun x hx => by
            obtain ⟨i, hi, e⟩ := List.mem_iff_getElem.1 hx
            exact hcell1 _ x (get i x (by rw [← e]; exact List.getElem?_eq_getElem hi)))
          rw [hfl, hlen]
          refine ⟨(List.range len).map fun i => vs.getD (off + i) undef, Go.Src.ofSlice w hk _ _ _ _ (by simp) (fun j v hj => ?_) (fun v hv => ?_), ⟨by simp [hlen], fun i x v hx hv => ?_⟩⟩
          · rw [List.getElem?_map] at hj
            obtain ⟨i, hi, rfl⟩ := Option.map_eq_some_iff.1 hj
            have hjn : j < len := by have := (List.getElem?_eq_some_iff.1 hi).1; simpa using this
            rw [List.getElem?_range hjn] at hi; cases hi
            rw [Addr.add_mid]
            have := (q5 (off + j) _ (List.getElem?_eq_getElem (by omega))).1
            rwa [Nat.zero_add] at this
          · simp only [List.mem_map, List.mem_range] at hv
            obtain ⟨j, hj, rfl⟩ := hv
            exact (q5 (off + j) _ (List.getElem?_eq_getElem (by omega))).2
          · have hi : i < len := by rw [← hlen]; exact (List.getElem?_eq_some_iff.1 hx).1
            rw [List.getElem?_map, List.getElem?_range hi] at hv
            cases hv
            exact q6 _ _ (get i x hx)
        · cases hs
      · cases hs
    · cases hs
  · cases hs

theorem snd_builtin (X : Ctx C E h live w fr a nm) {c : Call} {b : Builtin} (hb : c.callee = .builtin b) (ho : o.op = .call c) (hr : resCall C c = some r) (hx : evR C call fr nm h live r = some (x, h', live')) : Good C nm o a E h live w x h' live' := by
  obtain ⟨callee, args, argTypes⟩ := c
  simp only at hb
  subst hb
  have he : execOp a.eval o = builtin b argTypes o.type (args.map fun | .const _ => true | _ => false) (args.map a.eval) := by
    unfold execOp
    rw [ho]
    simp [resolve, invoke]
    rfl
  unfold resCall at hr
  cases b <;> simp only at hr <;> try (cases hr; done)
  case append =>
    split at hr
    case h_2 => cases hr
    rename_i p q t tx hargs htys
    obtain ⟨p', hp, hr⟩ := Option.bind_eq_some_iff.1 hr
    obtain ⟨q', hq, hr⟩ := Option.bind_eq_some_iff.1 hr
    have ha : args = #[p, q] := by rw [← Array.toArray_toList (xs := args), hargs]
    have hta : argTypes = #[t, tx] := by rw [← Array.toArray_toList (xs := argTypes), htys]
    subst ha; subst hta
    split at hr
    · rename_i e e' ht htx
      obtain ⟨⟨k, lim, zt⟩, hel, rfl⟩ := Option.map_eq_some_iff.1 hr
      obtain ⟨i, z, hi, hz, hzt, hik, hzk, hk, hlim, hlim2⟩ := elemI_ok hel
      obtain ⟨u, hu, hx⟩ := Option.bind_eq_some_iff.1 hx
      obtain ⟨v, hv, hx⟩ := Option.bind_eq_some_iff.1 hx
      obtain ⟨m, hm, hx⟩ := Option.bind_eq_some_iff.1 hx
      obtain ⟨⟨y, lv⟩, hy, e2⟩ := Option.map_eq_some_iff.1 hx
      cases e2
      have hkm : kl k m = true := by
        unfold eApp at hy
        split at hy
        · split at hy
          · rename_i hc; exact hc.2.2
          · cases hy
        · cases hy
      obtain ⟨news, hs, hn⟩ := tsrc_sound X.st htx hkm (X.eO hq hv) hm
      obtain ⟨rr, E', w', q1, q2, q3⟩ := eApp_sound (U := (nm <+: ·)) (ty := o.type) X.st ht hi hz hik hzk hk hlim hlim2 X.τ0 (List.prefix_refl nm) (X.eO hp hu) hs hn hy
      exact ⟨rr, E', w', .inl (by rw [he]; simp only [builtin]; exact run_v (by simpa using q1)), q2, q3⟩
    · rename_i e ht htx
      obtain ⟨⟨k, lim, zt⟩, hel, hr⟩ := Option.bind_eq_some_iff.1 hr
      split at hr
      · rename_i hk1
        simp only at hk1
        subst hk1
        cases hr
        obtain ⟨i, z, hi, hz, hzt, hik, hzk, hk, hlim, hlim2⟩ := elemI_ok hel
        obtain ⟨u, hu, hx⟩ := Option.bind_eq_some_iff.1 hx
        obtain ⟨v, hv, hx⟩ := Option.bind_eq_some_iff.1 hx
        split at hx
        · rename_i s
          obtain ⟨⟨y, lv⟩, hy, e2⟩ := Option.map_eq_some_iff.1 hx
          cases e2
          have hrel := X.eO hq hv
          have hvs : a.eval q = .string s := by
            generalize a.eval q = z at hrel
            cases hrel; rfl
          obtain ⟨hs, hn⟩ := str_src (P := C.P) (E := E) (w := w) htx s
          obtain ⟨rr, E', w', q1, q2, q3⟩ := eApp_sound (U := (nm <+: ·)) (ty := o.type) X.st ht hi hz hik hzk hk hlim hlim2 X.τ0 (List.prefix_refl nm) (X.eO hp hu) hs hn hy
          refine ⟨rr, E', w', .inl ?_, q2, q3⟩
          rw [he]
          simp only [builtin]
          exact run_v (by simpa [hvs] using q1)
        · cases hx
      · cases hr
    · cases hr
  case len =>
    split at hr
    case h_2 => cases hr
    rename_i p t hargs htys
    obtain ⟨p', hp, hr⟩ := Option.bind_eq_some_iff.1 hr
    obtain ⟨k, hk, rfl⟩ := Option.map_eq_some_iff.1 hr
    have ha : args = #[p] := by rw [← Array.toArray_toList (xs := args), hargs]
    have hta : argTypes = #[t] := by rw [← Array.toArray_toList (xs := argTypes), htys]
    subst ha; subst hta
    obtain ⟨u, hu, hx⟩ := Option.bind_eq_some_iff.1 hx
    obtain ⟨y, hy, e2⟩ := Option.map_eq_some_iff.1 hx
    cases e2
    have hl : LenT C.P t k := by
      unfold resLen at hk
      cases hun : C.P.underlying t with
      | none => simp [hun] at hk
      | some d =>
        cases d with
        | string => simp [hun] at hk; subst hk; exact hun
        | slice e => simp [hun] at hk; subst hk; exact ⟨e, hun⟩
        | map kt e => simp [hun] at hk; subst hk; exact ⟨kt, e, hun⟩
        | array n e => simp [hun] at hk; subst hk; exact .inl ⟨e, hun⟩
        | pointer a1 =>
          cases hu2 : C.P.underlying a1 with
          | none => simp [hun, hu2] at hk
          | some d2 =>
            cases d2 with
            | array n e => simp [hun, hu2] at hk; subst hk; exact .inr ⟨a1, e, hun, hu2⟩
            | _ => simp [hun, hu2] at hk
        | _ => simp [hun] at hk
    obtain ⟨v, q1, q2⟩ := eLen_sound (P := C.P) (ty := o.type) X.st hl (X.eO hp hu) hy
    exact .pure X (by rw [he]; simp only [builtin]; exact run_v (by simpa using q1)) q2
  case copy =>
    split at hr
    case h_2 => cases hr
    rename_i p q t tx hargs htys
    obtain ⟨p', hp, hr⟩ := Option.bind_eq_some_iff.1 hr
    obtain ⟨q', hq, hr⟩ := Option.bind_eq_some_iff.1 hr
    have ha : args = #[p, q] := by rw [← Array.toArray_toList (xs := args), hargs]
    have hta : argTypes = #[t, tx] := by rw [← Array.toArray_toList (xs := argTypes), htys]
    subst ha; subst hta
    split at hr
    case h_2 => cases hr
    rename_i e e' ht htx
    split at hr
    case isFalse => cases hr
    rename_i hee
    subst hee
    obtain ⟨k, hk, hr⟩ := Option.bind_eq_some_iff.1 hr
    split at hr
    case isFalse => cases hr
    rename_i hk0
    cases hr
    obtain ⟨i, hi, hik⟩ := Option.map_eq_some_iff.1 hk
    obtain ⟨u, hu, hx⟩ := Option.bind_eq_some_iff.1 hx
    obtain ⟨v, hv, hx⟩ := Option.bind_eq_some_iff.1 hx
    split at hx
    case h_2 => cases hx
    rename_i m tg
    obtain ⟨⟨y, hh⟩, hy, e2⟩ := Option.map_eq_some_iff.1 hx
    cases e2
    obtain ⟨rr, w', q1, q2, q3⟩ := eCopy_sound (U := (nm <+: ·)) (ty := o.type) X.st ht htx hi hik hk0 (X.eO hp hu) (X.eO hq hv) hy
    exact ⟨rr, E, w', .inl (by rw [he]; simp only [builtin]; exact run_v (by simpa using q1)), q2, q3⟩
  case delete =>
    split at hr
    case h_2 => cases hr
    rename_i p q t tx hargs htys
    obtain ⟨p', hp, hr⟩ := Option.bind_eq_some_iff.1 hr
    obtain ⟨q', hq, hr⟩ := Option.bind_eq_some_iff.1 hr
    have ha : args = #[p, q] := by rw [← Array.toArray_toList (xs := args), hargs]
    have hta : argTypes = #[t, tx] := by rw [← Array.toArray_toList (xs := argTypes), htys]
    subst ha; subst hta
    split at hr
    case h_2 => cases hr
    rename_i kt e ht
    obtain ⟨ks, hks, rfl⟩ := Option.map_eq_some_iff.1 hr
    obtain ⟨u, hu, hx⟩ := Option.bind_eq_some_iff.1 hx
    obtain ⟨v, hv, hx⟩ := Option.bind_eq_some_iff.1 hx
    obtain ⟨hh, hy, e2⟩ := Option.map_eq_some_iff.1 hx
    cases e2
    obtain ⟨w', q1, q3⟩ := eDel_sound (U := (nm <+: ·)) (ty := o.type) (t2 := tx) X.st ht (d := 100) (by omega) hks (X.eO hp hu) (X.eO hq hv) hy
    exact ⟨_, E, w', .inl (by rw [he]; simp only [builtin]; exact run_v (by simpa using q1)), .tup rfl (by simp), q3⟩
  case max =>
    obtain ⟨xs, hxs, rfl⟩ := Option.map_eq_some_iff.1 hr
    obtain ⟨us, hus, hx⟩ := Option.bind_eq_some_iff.1 hx
    split at hx
    case h_2 => cases hx
    rename_i y l
    obtain ⟨z, hz, e2⟩ := Option.map_eq_some_iff.1 hx
    cases e2
    obtain ⟨v, vs, hvs, h1, h2⟩ := (X.eOs hxs hus).cons_inv
    obtain ⟨rr, q1, q2⟩ := tmms_sound (C := C) hz h1 h2
    refine .pure X (v := rr) ?_ q2
    rw [he]
    simp only [builtin]
    exact run_v (by simp only [Builtin.max_, hvs]; simpa using q1)
  case min =>
    obtain ⟨xs, hxs, rfl⟩ := Option.map_eq_some_iff.1 hr
    obtain ⟨us, hus, hx⟩ := Option.bind_eq_some_iff.1 hx
    split at hx
    case h_2 => cases hx
    rename_i y l
    obtain ⟨z, hz, e2⟩ := Option.map_eq_some_iff.1 hx
    cases e2
    obtain ⟨v, vs, hvs, h1, h2⟩ := (X.eOs hxs hus).cons_inv
    obtain ⟨rr, q1, q2⟩ := tmms_sound (C := C) hz h1 h2
    refine .pure X (v := rr) ?_ q2
    rw [he]
    simp only [builtin]
    exact run_v (by simp only [Builtin.min_, hvs]; simpa using q1)
end
end Go.AE
