import Derived.Test.YtohbipkmfhmibaaGreatDoorAE22
/-! AE23: each operation rests on what it touches alone. -/
set_option linter.unusedVariables false
set_option linter.unusedSimpArgs false
namespace Go.AE
open Go.RowKit Go.LB
section
variable {C : Cfg} {call : FuncId → Name → List T → Heap → Option (T × Heap)} {fr : Fr} {nm : Name}

theorem eLoad_act {n : Option Nat} {v : T} {hc : Nat} (hc1 : hc = 1 ∨ hc = 0 ∧ ∃ cs off, v = .ro cs off) : Act nm (fun _ => nP (some v)) hc 0 [] (fun h L => (eLoad n v h).map fun x => (x, h, L)) := by
  cases v
  case ptr m off =>
    have hc2 : hc = 1 := hc1.elim id (fun q => by obtain ⟨_, _, _, e⟩ := q; cases e)
    refine Act.read (by omega) (fun h h2 e => by simp only [eLoad, e]) (fun h x e => ?_)
    simp only [eLoad] at e
    cases hh : hget h m with
    | none => rw [hh] at e; cases e
    | some b => rfl
  case ro cs off => exact Act.map (o := tpart cs off n)
  all_goals exact Act.none0
theorem tsrc_act {k : Nat} {y : T} {f : List T → Heap → List Name → Res} {tc : Nat} {cs : List Name} (hf : ∀ m, Act nm (fun _ => []) 1 tc cs (f m)) : Act nm (fun _ => nS (some y)) 1 tc cs (fun h L => (tsrc k y h).bind fun m => f m h L) := by
  cases y
  case sl l t => exact hf l
  case msl n off len =>
    intro h L x h' L' e
    obtain ⟨m, hm, e⟩ := Option.bind_eq_some_iff.1 e
    obtain ⟨add, A⟩ := hf m h L x h' L' e
    have hs : (hget h n).isSome := by
      cases hh : hget h n with
      | none => simp only [tsrc, hh] at hm; split at hm <;> cases hm
      | some b => rfl
    refine ⟨add, by simpa [nS] using hs, A.same, A.new, fun n _ hn => A.out n (by simp) hn, A.take, A.add0, A.addU, A.tok, fun h2 L2 h3 h4 h5 => ?_⟩
    have e2 : tsrc k (.msl n off len) h2 = some m := by rw [← hm]; simp only [tsrc, h3 n (by simp [nS])]
    obtain ⟨_, h2', L2', q1, q2, q3, q4⟩ := A.tr h2 L2 (by simp) h4 h5
    refine ⟨rfl, h2', L2', ?_, ?_, fun n' _ hn => q3 n' (by simp) hn, q4⟩
    · show (tsrc k (.msl n off len) h2).bind _ = _
      rw [e2]; exact q1
    · intro n' hn
      rw [A.same (Nat.le_refl _)]
      rcases hn with hn | hn
      · have hn' : n' = n := by simpa [nS] using hn
        subst hn'
        by_cases hp : nm <+: n'
        · have := q2 n' (.inr hp); rw [A.same (Nat.le_refl _)] at this; exact this
        · rw [q3 n' (by simp) hp]; exact h3 n' (by simp [nS])
      · have := q2 n' (.inr hn); rw [A.same (Nat.le_refl _)] at this; exact this
  all_goals exact Act.none0

theorem Act.write2 {m : Name} {g : Heap → Option (T × Heap)} (hn : ∀ h, hget h m = none → g h = none) (hg : ∀ b, ∃ o : Option (T × Blk), ∀ h, hget h m = some b → g h = o.map fun r => (r.1, hset h m r.2)) : Act nm (fun _ => [m]) 3 0 [] (fun h L => (g h).map fun r => (r.1, r.2, L)) := by
  refine Act.write fun h x h' e => ?_
  cases hh : hget h m with
  | none => rw [hn h hh] at e; cases e
  | some b =>
    obtain ⟨o, ho⟩ := hg b
    rw [ho h hh] at e
    obtain ⟨⟨y, c⟩, hy, e⟩ := Option.map_eq_some_iff.1 e
    cases e
    exact ⟨rfl, c, rfl, fun h2 h2h => by rw [ho h2 h2h, hy]; rfl⟩
theorem Act.write3 {m : Name} {g : Heap → Option Heap} (hn : ∀ h, hget h m = none → g h = none) (hg : ∀ b, ∃ o : Option Blk, ∀ h, hget h m = some b → g h = o.map fun r => hset h m r) : Act nm (fun _ => [m]) 3 0 [] (fun h L => (g h).map fun r => (.tup [], r, L)) := by
  have := Act.write2 (nm := nm) (m := m) (g := fun h => (g h).map fun r => (T.tup [], r)) (fun h e => by rw [hn h e]; rfl) (fun b => by
    obtain ⟨o, ho⟩ := hg b
    exact ⟨o.map fun c => (.tup [], c), fun h e => by rw [ho h e]; cases o <;> rfl⟩)
  have e : (fun (h : Heap) (L : List Name) => ((g h).map fun r => (T.tup [], r)).map fun (r : T × Heap) => (r.1, r.2, L)) = fun h L => (g h).map fun r => (.tup [], r, L) := by
    funext h L; cases g h <;> rfl
  rw [← e]; exact this
theorem store_act {n : Nat} {a v : T} : Act nm (fun _ => nP (some a)) 3 0 [] (fun h L => (eStore n a v h).map fun h' => (.tup [], h', L)) := by
  cases a
  case ptr m off =>
    refine Act.write3 (fun h e => by simp [eStore, e]) (fun b => ?_)
    cases b with
    | map es ck => exact ⟨none, fun h e => by simp [eStore, e]⟩
    | box cs =>
      by_cases hc : v.cells.length = n ∧ off + n ≤ cs.length ∧ isTup v = false
      · exact ⟨some (.box (putAt cs off v.cells)), fun h e => by simp only [eStore, e, if_pos hc]; rfl⟩
      · exact ⟨none, fun h e => by simp only [eStore, e, if_neg hc]; rfl⟩
  all_goals exact Act.none0
theorem copy_act {k : Nat} {d : T} {m : List T} : Act nm (fun _ => nS (some d)) 3 0 [] (fun h L => (eCopy k d m h).map fun r => (r.1, r.2, L)) := by
  cases d
  case msl n off len =>
    refine Act.write2 (fun h e => by simp [eCopy, e]) (fun b => ?_)
    cases b with
    | map es ck => exact ⟨none, fun h e => by simp [eCopy, e]⟩
    | box cs =>
      by_cases hc : kl k m = true ∧ off + (min m.length len) * k ≤ cs.length
      · exact ⟨some (tI (min m.length len : Nat), .box (putAt cs off ((m.take (min m.length len)).flatMap T.cells))), fun h e => by simp only [eCopy, e, if_pos hc]; rfl⟩
      · exact ⟨none, fun h e => by simp only [eCopy, e, if_neg hc]; rfl⟩
  all_goals exact Act.none0
theorem mset_act {row : Bool} {ks : List CK} {m k x : T} : Act nm (fun _ => nM (some m)) 3 0 [] (fun h L => (eMapSet row ks m k x h).map fun h' => (.tup [], h', L)) := by
  cases m
  case map n =>
    refine Act.write3 (fun h e => by simp [eMapSet, e]) (fun b => ?_)
    cases b with
    | box cs => exact ⟨none, fun h e => by simp [eMapSet, e]⟩
    | map es ck =>
      by_cases hc : keyB row ks k = true ∧ esB row ks es = true ∧ isTup x = false
      · cases ht : tfind ks k es 0 with
        | none => exact ⟨none, fun h e => by simp only [eMapSet, e, if_pos hc, ht]; rfl⟩
        | some r =>
          cases r with
          | none => exact ⟨some (.map (es ++ [(k, x, ck)]) (ck + 1)), fun h e => by simp only [eMapSet, e, if_pos hc, ht]; rfl⟩
          | some q => obtain ⟨j, y, s⟩ := q; exact ⟨some (.map (es.set j (k, x, s)) ck), fun h e => by simp only [eMapSet, e, if_pos hc, ht]; rfl⟩
      · exact ⟨none, fun h e => by simp only [eMapSet, e, if_neg hc]; rfl⟩
  all_goals exact Act.none0
theorem ment_act {row : Bool} {ks : List CK} {z m k : T} : Act nm (fun _ => nM (some m)) 3 0 [] (fun h L => (eMapEntry row ks z m k h).map fun r => (r.1, r.2, L)) := by
  cases m
  case map n =>
    refine Act.write2 (fun h e => by simp [eMapEntry, e]) (fun b => ?_)
    cases b with
    | box cs => exact ⟨none, fun h e => by simp [eMapEntry, e]⟩
    | map es ck =>
      by_cases hc : keyB row ks k = true ∧ esB row ks es = true ∧ eqLT ks k.cells k.cells = some true
      · cases ht : tfind ks k es 0 with
        | none => exact ⟨none, fun h e => by simp only [eMapEntry, e, if_pos hc, ht]; rfl⟩
        | some r =>
          cases r with
          | none => exact ⟨some (.tup [z, tI ck], .map (es ++ [(k, z, ck)]) (ck + 1)), fun h e => by simp only [eMapEntry, e, if_pos hc, ht]; rfl⟩
          | some q => obtain ⟨j, y, s⟩ := q; exact ⟨some (.tup [y, tI s], .map (es.set j (k, y, s)) ck), fun h e => by simp only [eMapEntry, e, if_pos hc, ht]; rfl⟩
      · exact ⟨none, fun h e => by simp only [eMapEntry, e, if_neg hc]; rfl⟩
  all_goals exact Act.none0
theorem mst_act {m s x : T} : Act nm (fun _ => nM (some m)) 3 0 [] (fun h L => (eEntrySet m s x h).map fun h' => (.tup [], h', L)) := by
  cases m
  case map n =>
    cases s
    case v u =>
      cases u
      case int kk z =>
        refine Act.write3 (fun h e => by simp [eEntrySet, e]) (fun b => ?_)
        cases b with
        | box cs => exact ⟨none, fun h e => by simp [eEntrySet, e]⟩
        | map es ck =>
          cases ht : es.findIdx? (fun e => decide ((e.2.2 : Int) = z)) with
          | none => exact ⟨none, fun h e => by simp only [eEntrySet, e, ht]; rfl⟩
          | some j =>
            by_cases hc : isTup x = false
            · cases hj : es[j]? with
              | none => exact ⟨none, fun h e => by simp only [eEntrySet, e, ht, if_pos hc, hj]; rfl⟩
              | some q => exact ⟨some (.map (es.set j (q.1, x, q.2.2)) ck), fun h e => by simp only [eEntrySet, e, ht, if_pos hc, hj]; rfl⟩
            · exact ⟨none, fun h e => by simp only [eEntrySet, e, ht, if_neg hc]; rfl⟩
      all_goals exact Act.write3 (fun _ _ => rfl) (fun _ => ⟨none, fun _ _ => rfl⟩)
    all_goals exact Act.write3 (fun _ _ => rfl) (fun _ => ⟨none, fun _ _ => rfl⟩)
  all_goals exact Act.none0
theorem mdel_act {row : Bool} {ks : List CK} {m k : T} : Act nm (fun _ => nM (some m)) 3 0 [] (fun h L => (eDel row ks m k h).map fun h' => (.tup [], h', L)) := by
  cases m
  case map n =>
    refine Act.write3 (fun h e => by simp [eDel, e]) (fun b => ?_)
    cases b with
    | box cs => exact ⟨none, fun h e => by simp [eDel, e]⟩
    | map es ck =>
      by_cases hc : keyB row ks k = true ∧ esB row ks es = true
      · cases ht : tfind ks k es 0 with
        | none => exact ⟨none, fun h e => by simp only [eDel, e, if_pos hc, ht]; rfl⟩
        | some r =>
          cases r with
          | none => exact ⟨some (.map es ck), fun h e => by simp only [eDel, e, if_pos hc, ht]; rfl⟩
          | some q => obtain ⟨j, y, s⟩ := q; exact ⟨some (.map (es.eraseIdx j) ck), fun h e => by simp only [eDel, e, if_pos hc, ht]; rfl⟩
      · exact ⟨none, fun h e => by simp only [eDel, e, if_neg hc]; rfl⟩
  all_goals exact Act.none0
theorem look_act {row : Bool} {ks : List CK} {z m k : T} {ok : Bool} : Act nm (fun _ => nM (some m)) 1 0 [] (fun h L => (eLook row ks z ok m k h).map fun x => (x, h, L)) := by
  cases m
  case map n =>
    refine Act.read (by simp) (fun h h2 e => by simp only [eLook, mapOf, e]) (fun h x e => ?_)
    cases hh : hget h n with
    | none => simp [eLook, mapOf, hh] at e
    | some b => rfl
  case v u =>
    cases u
    case map o =>
      cases o with
      | none => exact Act.map (o := eLook row ks z ok (.v (.map none)) k [])
      | some b => exact Act.none0
    all_goals exact Act.none0
  all_goals exact Act.none0
theorem make_act {k lim : Nat} {z l c : T} : Act nm (fun _ => []) 3 2 [] (fun h L => eMake k lim nm z l c h L) := by
  show Act nm (fun _ => []) 3 2 [] (fun h L => (tle lim c).bind fun c => (tle c l).bind fun l => if l = 0 then some (.sl [] (.own nm k), h, nm :: L) else some (.msl nm 0 l, hnew h nm (.box ((List.replicate l z).flatMap T.cells)), L))
  refine Act.bind fun c _ => Act.bind fun l _ => Act.ite (fun _ => ?_) fun _ => ?_
  · exact Act.laid (ts := [nm]) (by simp) (by simp)
  · exact Act.mk (.inr rfl)
theorem len_act {k : LK} {x : T} : Act nm (fun _ => match k with | .map => nM (some x) | _ => []) (match k with | .map => 1 | _ => 0) 0 [] (fun h L => (eLen k x h).map fun x => (x, h, L)) := by
  cases k
  case map =>
    cases x
    case map n =>
      refine Act.read (by simp) (fun h h2 e => by simp only [eLen, e]) (fun h x e => ?_)
      simp only [eLen] at e
      cases hh : hget h n with
      | none => rw [hh] at e; cases e
      | some b => rfl
    case v u => cases u <;> first | exact Act.none0 | (rename_i z; cases z <;> first | exact Act.none0 | exact Act.val)
    all_goals exact Act.none0
  case str => cases x <;> first | exact Act.none0 | (rename_i u; cases u <;> first | exact Act.none0 | exact Act.val)
  case sl => cases x <;> first | exact Act.none0 | exact Act.val
  case arr => exact Act.val
theorem str_act {x : T} : Act nm (fun _ => nS (some x)) 1 0 [] (fun h L => (eStr x h).map fun x => (x, h, L)) := by
  cases x
  case sl l t => exact Act.map (o := (bytesOf l).map fun b => tS ⟨b.toArray⟩)
  case msl n off len =>
    refine Act.read (by simp) (fun h h2 e => by simp only [eStr, e]) (fun h x e => ?_)
    simp only [eStr] at e
    cases hh : hget h n with
    | none => rw [hh] at e; cases e
    | some b => rfl
  all_goals exact Act.none0
theorem free_act {f : FuncId} {xs : List T} (hf : ((C.ora f).isSome || C.mode f == 0) = true) {hc : Nat} : Act nm (fun _ => []) hc 2 [] (fun h L => eCall C call nm f xs h L) := by
  unfold eCall
  cases ho : C.ora f with
  | some g =>
    simp only
    cases hg : g nm xs with
    | none => exact Act.none0
    | some r => exact Act.laid (by simp) toksU_pre
  | none =>
    have hm : C.mode f = 0 := by simpa [ho] using hf
    simp only [hm, if_true]
    cases hg : call f nm xs [] with
    | none => exact Act.none0
    | some r => exact Act.laid (by simp) toksU_pre
theorem heap_act {f : FuncId} {xs : List T} (hf : ((C.ora f).isSome || C.mode f == 0) = false) : Act nm (fun h => (reach h xs).getD []) 3 2 [] (fun h L => eCall C call nm f xs h L) := by
  intro h L x h' L' e
  have hf1 : C.ora f = none := by cases ho : C.ora f <;> simp [ho] at hf ⊢
  have hf2 : C.mode f ≠ 0 := by intro q; simp [hf1, q] at hf
  have key : ∀ k L, eCall C call nm f xs k L = (reach k xs).bind fun s => (call f nm xs (subH k s)).bind fun r => (merge nm s r.2 k).map fun h' => (r.1, h', toksU nm r.1 ++ L) := fun k L => by
    simp only [eCall, hf1, if_neg hf2]
  simp only at e
  rw [key] at e
  obtain ⟨s, hs, e⟩ := Option.bind_eq_some_iff.1 e
  obtain ⟨⟨r, g⟩, hr, e⟩ := Option.bind_eq_some_iff.1 e
  obtain ⟨k, hm, e⟩ := Option.map_eq_some_iff.1 e
  cases e
  have hsome := reach_some hs
  have hval := hget_merge hm hsome
  have hns : (reach h xs).getD [] = s := by rw [hs]; rfl
  refine ⟨toksU nm r, ?_, fun q => absurd q (by simp), fun q => absurd rfl q, ?_, by simp, fun q => absurd q (by simp), toksU_pre, by simp, ?_⟩
  · simp only [hns]; exact hsome
  · intro n hn hp
    simp only [hns] at hn
    rw [hval, if_neg hn]
    cases e : hget h n with
    | some b => simp
    | none => simp [hp]
  · intro h2 L2 h3 h4 h5
    simp only [hns] at h3
    have hs2 := reach_congr hs h3
    have hsub : subH h2 s = subH h s := by
      unfold subH
      have : ∀ l : List Name, (∀ n ∈ l, hget h2 n = hget h n) → (l.filterMap fun n => (hget h2 n).map fun b => (n, b)) = l.filterMap fun n => (hget h n).map fun b => (n, b) := by
        intro l
        induction l with
        | nil => intro _; rfl
        | cons m l ih => intro hl; simp only [List.filterMap_cons, hl m (by simp), ih fun n hn => hl n (by simp [hn])]
      rw [this s h3]
    obtain ⟨k2, hm2⟩ : ∃ k2, merge nm s g h2 = some k2 := by
      unfold merge at hm ⊢
      split at hm
      · rename_i hc; exact ⟨_, by rw [if_pos hc]⟩
      · cases hm
    have hsome2 : ∀ n ∈ s, (hget h2 n).isSome := fun n hn => by rw [h3 n hn]; exact hsome n hn
    have hval2 := hget_merge hm2 hsome2
    refine ⟨by simp only [hns, hs2]; rfl, k2, toksU nm r ++ L2, ?_, ?_, ?_, by simp⟩
    · simp only
      rw [key, hs2]
      simp only [Option.bind_some, hsub, hr, hm2, Option.map_some]
    · intro n hn
      simp only [hns] at hn
      rw [hval, hval2]
      rcases hn with hn | hn
      · rw [if_pos hn, if_pos hn]
      · by_cases q : n ∈ s
        · rw [if_pos q, if_pos q]
        · rw [if_neg q, if_neg q, h4 n hn]
    · intro n hn hp
      simp only [hns] at hn
      rw [hval2, if_neg hn]
      cases e : hget h2 n with
      | some b => simp
      | none => simp [hp]
theorem call_act {f : FuncId} {xs : List T} : Act nm (fun h => if (C.ora f).isSome || C.mode f == 0 then [] else (reach h xs).getD []) 3 2 [] (fun h L => eCall C call nm f xs h L) := by
  cases hf : (C.ora f).isSome || C.mode f == 0 with
  | true => exact free_act hf
  | false => exact heap_act hf

theorem evR_act (r : R) : Act nm (fun h => fpn C fr h r) (hcl C r) (tcl r) (fpc fr r) (fun h L => evR C call fr nm h L r) := by
  cases r <;> simp only [evR]
  case load n a =>
    refine Act.bind fun v hv => ?_
    have e : (fun (h : Heap) => fpn C fr h (.load n a)) = fun _ => nP (some v) := by funext h; simp only [fpn, hv]
    rw [e]
    cases a with
    | t k => exact eLoad_act (.inl rfl)
    | c x =>
      cases hv
      cases v
      case ro cs off => exact eLoad_act (.inr ⟨rfl, cs, off, rfl⟩)
      all_goals exact eLoad_act (.inl rfl)
  case store n a b =>
    refine Act.bind fun v hv => Act.bind fun u hu => ?_
    have e : (fun (h : Heap) => fpn C fr h (.store n a b)) = fun _ => nP (some v) := by funext h; simp only [fpn, hv]
    rw [e]; exact store_act
  case copy k d s =>
    refine Act.bind fun v hv => Act.bind fun u hu => ?_
    have e : (fun (h : Heap) => fpn C fr h (.copy k d s)) = fun _ => nS (some v) := by funext h; simp only [fpn, hv]
    rw [e]
    cases u <;> first | exact Act.none0 | exact copy_act
  case mset row ks m k x =>
    refine Act.bind fun v hv => Act.bind fun u hu => Act.bind fun z hz => ?_
    have e : (fun (h : Heap) => fpn C fr h (.mset row ks m k x)) = fun _ => nM (some v) := by funext h; simp only [fpn, hv]
    rw [e]; exact mset_act
  case ment row ks z m k =>
    refine Act.bind fun v hv => Act.bind fun u hu => ?_
    have e : (fun (h : Heap) => fpn C fr h (.ment row ks z m k)) = fun _ => nM (some v) := by funext h; simp only [fpn, hv]
    rw [e]; exact ment_act
  case mst m s x =>
    refine Act.bind fun v hv => Act.bind fun u hu => Act.bind fun z hz => ?_
    have e : (fun (h : Heap) => fpn C fr h (.mst m s x)) = fun _ => nM (some v) := by funext h; simp only [fpn, hv]
    rw [e]; exact mst_act
  case mdel row ks m k =>
    refine Act.bind fun v hv => Act.bind fun u hu => ?_
    have e : (fun (h : Heap) => fpn C fr h (.mdel row ks m k)) = fun _ => nM (some v) := by funext h; simp only [fpn, hv]
    rw [e]; exact mdel_act
  case look row ks z ok m k =>
    refine Act.bind fun v hv => Act.bind fun u hu => ?_
    have e : (fun (h : Heap) => fpn C fr h (.look row ks z ok m k)) = fun _ => nM (some v) := by funext h; simp only [fpn, hv]
    rw [e]; exact look_act
  case len k x =>
    refine Act.bind fun v hv => ?_
    have := len_act (nm := nm) (k := k) (x := v)
    cases k with
    | map =>
      have e : (fun (h : Heap) => fpn C fr h (.len .map x)) = fun _ => nM (some v) := by funext h; simp only [fpn, hv]
      rw [e]; exact this
    | _ => exact this
  case cstr x =>
    refine Act.bind fun v hv => ?_
    have e : (fun (h : Heap) => fpn C fr h (.cstr x)) = fun _ => nS (some v) := by funext h; simp only [fpn, hv]
    rw [e]; exact str_act
  case app k lim x y =>
    refine Act.bind fun v hv => Act.bind fun u hu => ?_
    have e : (fun (h : Heap) => fpn C fr h (.app k lim x y)) = fun _ => nS (some u) := by funext h; simp only [fpn, hu]
    have e2 : fpc fr (.app k lim x y) = tkOf v := by
      simp only [fpc, hv]; cases v <;> first | rfl | (rename_i l t; cases t <;> rfl)
    rw [e, e2]; exact tsrc_act fun m => Act.app
  case apps lim x y =>
    refine Act.bind fun v hv => Act.bind fun u hu => ?_
    have e2 : fpc fr (.apps lim x y) = tkOf v := by
      simp only [fpc, hv]; cases v <;> first | rfl | (rename_i l t; cases t <;> rfl)
    rw [e2]
    cases u <;> first | exact Act.none0 | (rename_i z; cases z <;> first | exact Act.none0 | exact Act.app)
  case box x => exact Act.bind fun v hv => Act.ite (fun _ => Act.none0) fun _ => Act.mk (.inl rfl)
  case mkmap => exact Act.mk (.inl rfl)
  case mksl k lim z l c => exact Act.bind fun v hv => Act.bind fun u hu => make_act
  case bsl k len z ps =>
    refine Act.bind fun v hv => ?_
    cases eSets k (List.replicate len z) v with
    | none => exact Act.none0
    | some l => exact Act.laid (ts := [nm]) (by simp [tcl]) (by simp)
  case call f xs =>
    refine Act.bind fun v hv => ?_
    cases hf : (C.ora f).isSome || C.mode f == 0 with
    | true =>
      have e : (fun (h : Heap) => fpn C fr h (.call f xs)) = fun _ => [] := by funext h; simp only [fpn, hf, if_true]
      rw [e]; exact free_act hf
    | false =>
      have e : (fun (h : Heap) => fpn C fr h (.call f xs)) = fun h => (reach h (v.map strip)).getD [] := by funext h; simp only [fpn, hf, hv]; simp
      have e2 : hcl C (.call f xs) = 3 := by simp only [hcl, hf]; rfl
      rw [e, e2]; exact heap_act hf
  case callv g xs =>
    refine Act.bind fun v hv => Act.bind fun u hu => ?_
    cases v
    case fn f a b =>
      cases f
      case func f =>
        have e : (fun (h : Heap) => fpn C fr h (.callv g xs)) = fun h => if (C.ora f).isSome || C.mode f == 0 then [] else (reach h ((a ++ u ++ b).map strip)).getD [] := by funext h; simp only [fpn, hv, hu]
        rw [e]; exact call_act
      all_goals exact Act.none0
    all_goals exact Act.none0
  case pick c a b =>
    refine Act.bind fun v hv => Act.bind fun u hu => Act.bind fun z hz => ?_
    cases v <;> first | exact Act.none0 | (rename_i q; cases q <;> first | exact Act.none0 | exact Act.val)
  case nilc x =>
    refine Act.bind fun v hv => ?_
    cases v <;> first | exact Act.none0 | exact Act.val | (rename_i q _ _; cases q <;> first | exact Act.none0 | exact Act.val)
  case eqA neg ks x y =>
    refine Act.bind fun v hv => Act.bind fun u hu => ?_
    cases v <;> first | exact Act.none0 | (cases u <;> first | exact Act.none0 | exact Act.ite (fun _ => Act.map) fun _ => Act.none0)
  case cint k x =>
    refine Act.bind fun v hv => ?_
    cases v <;> first | exact Act.none0 | (rename_i q; cases q <;> first | exact Act.none0 | exact Act.val)
  case cid x =>
    refine Act.bind fun v hv => ?_
    cases v <;> first | exact Act.none0 | (rename_i q; cases q <;> first | exact Act.none0 | exact Act.val)
  case cbytes x =>
    refine Act.bind fun v hv => ?_
    cases v <;> first | exact Act.none0 | (rename_i q; cases q <;> first | exact Act.none0 | exact Act.ite (fun _ => Act.map) fun _ => Act.none0)
  case asrt t z ok x =>
    refine Act.bind fun v hv => ?_
    cases v <;> first | exact Act.none0 | exact Act.ite (fun _ => Act.val) (fun _ => Act.ite (fun _ => Act.val) fun _ => Act.none0) | (rename_i q; cases q <;> first | exact Act.none0 | exact Act.ite (fun _ => Act.val) fun _ => Act.none0)
  case ext x i =>
    refine Act.bind fun v hv => ?_
    cases v <;> first | exact Act.none0 | exact Act.map
  case mm mx xs =>
    refine Act.bind fun v hv => ?_
    cases v <;> first | exact Act.none0 | exact Act.map
  all_goals (repeat' (first | exact Act.val | exact Act.map | exact Act.none0 | (refine Act.bind fun _ _ => ?_) | (refine Act.ite (fun _ => ?_) fun _ => ?_)))
end
end Go.AE
