import Derived.Test.YtohbipkmfhmibaaGreatDoorAE13
/-! AE14: the other operations but calls. -/
set_option linter.unusedVariables false
set_option linter.unusedSimpArgs false
namespace Go.AE
open Go.RowKit Go.LB
section
variable {C : Cfg} {E : Env} {h h' : Heap} {live live' : List Name} {w : World} {fr : Fr} {a : Act} {nm : Name} {o : Oper} {r : R} {x : T} {call : FuncId → Name → List T → Heap → Option (T × Heap)}

theorem exec_v {P : Program} {op : Op} {s : Sem Value} {v : Value} {w w' : World} (ho : o.op = op) (he : execOp a.eval o = (do pure (Next.value (← s)))) (h : s.run P w = .ok v w') : (execOp a.eval o).run P w = .ok (.value v) w' := by
  rw [he]; exact run_v h

theorem snd_conv (X : Ctx C E h live w fr a nm) {src dst : TypeId} {p : Operand} (ho : o.op = .convert src dst p) (hr : resConv C src dst p = some r) (hx : evR C call fr nm h live r = some (x, h', live')) : Good C nm o a E h live w x h' live' := by
  have he : execOp a.eval o = (do pure (Next.value (← convert src dst (a.eval p)))) := by unfold execOp; rw [ho]
  unfold resConv at hr
  obtain ⟨p', hp, hr⟩ := Option.bind_eq_some_iff.1 hr
  split at hr
  · rename_i k0 k h1 h2
    cases hr
    obtain ⟨u, hu, hx⟩ := Option.bind_eq_some_iff.1 hx
    split at hx
    · cases hx
      have hrel := X.eO hp hu
      generalize hq : a.eval p = z at hrel he
      cases hrel
      exact .pure X (by rw [he]; exact run_v (by simp [convert, run_underlying h1, run_underlying h2, Conv.intToInt])) (.v rfl)
    · cases hx
  · rename_i h1 h2
    cases hr
    obtain ⟨u, hu, hx⟩ := Option.bind_eq_some_iff.1 hx
    split at hx
    · cases hx
      have hrel := X.eO hp hu
      generalize hq : a.eval p = z at hrel he
      cases hrel
      exact .pure X (by rw [he]; exact run_v (by simp [convert, run_underlying h1, run_underlying h2])) (.v rfl)
    · cases hx
  · rename_i e h1 h2
    split at hr
    · rename_i hb
      cases hr
      have h3 : C.P.underlying e = some (.int .u8) := hb
      obtain ⟨u, hu, hx⟩ := Option.bind_eq_some_iff.1 hx
      obtain ⟨z, hz, e2⟩ := Option.map_eq_some_iff.1 hx
      cases e2
      obtain ⟨v, q1, q2⟩ := eStr_sound X.st h1 h3 h2 (X.eO hp hu) hz
      exact .pure X (by rw [he]; exact run_v q1) q2
    · cases hr
  · rename_i e h1 h2
    split at hr
    · rename_i hb
      cases hr
      have h3 : C.P.underlying e = some (.int .u8) := hb
      obtain ⟨u, hu, hx⟩ := Option.bind_eq_some_iff.1 hx
      split at hx
      · split at hx
        · rename_i s hsz
          obtain ⟨z, hz, e2⟩ := Option.map_eq_some_iff.1 hx
          cases e2
          have hrel := X.eO hp hu
          obtain ⟨v, E', w', q1, q2, q3⟩ := eBytes_sound (U := (nm <+: ·)) X.st h1 h2 h3 hrel hz (fun s' hs' => by
            rw [hs'] at hrel; cases hrel; simp [maxLen]; omega)
          exact ⟨v, E', w', .inl (by rw [he]; exact run_v q1), q2, q3⟩
        · cases hx
      · cases hx
    · cases hr
  · cases hr

theorem snd_slice (X : Ctx C E h live w fr a nm) {t : TypeId} {p : Operand} {lo hi mx : Option Operand} (ho : o.op = .slice t p lo hi mx) (hr : resSlice C t p lo hi mx = some r) (hx : evR C call fr nm h live r = some (x, h', live')) : Good C nm o a E h live w x h' live' := by
  have he : execOp a.eval o = (do pure (Next.value (← Instr.sliceAt t (a.eval p) (lo.map a.eval) (hi.map a.eval) (mx.map a.eval)))) := by unfold execOp; rw [ho]
  unfold resSlice at hr
  obtain ⟨p', hp, hr⟩ := Option.bind_eq_some_iff.1 hr
  obtain ⟨l', hl, hr⟩ := Option.bind_eq_some_iff.1 hr
  obtain ⟨i', hi', hr⟩ := Option.bind_eq_some_iff.1 hr
  obtain ⟨m', hm, hr⟩ := Option.bind_eq_some_iff.1 hr
  have sa : ∀ d, C.P.underlying t = some d → (∀ n e, d ≠ .array n e) → ∀ u, (Instr.sliceAt t u (lo.map a.eval) (hi.map a.eval) (mx.map a.eval)).run C.P w = (Instr.slice t u (lo.map a.eval) (hi.map a.eval) (mx.map a.eval)).run C.P w := by
    intro d hd hn u
    unfold Instr.sliceAt
    rw [Sem.run_bind, run_underlying hd, Result.andThen_ok]
    cases d <;> first | rfl | exact absurd rfl (hn _ _)
  split at hr
  · rename_i ht
    split at hr
    · rename_i hmx
      cases hr
      have hmn : mx = none := by simpa using hmx
      subst hmn
      obtain ⟨u, hu, hx⟩ := Option.bind_eq_some_iff.1 hx
      obtain ⟨lv, hlv, hx⟩ := Option.bind_eq_some_iff.1 hx
      obtain ⟨iv, hiv, hx⟩ := Option.bind_eq_some_iff.1 hx
      obtain ⟨z, hz, e2⟩ := Option.map_eq_some_iff.1 hx
      cases e2
      obtain ⟨v, q1, q2⟩ := eSlStr_sound (P := C.P) ht (X.eO hp hu) (X.eOo hl hlv) (X.eOo hi' hiv) hz
      exact .pure X (by rw [he]; exact run_v (by rw [sa _ ht (by simp)]; exact q1)) q2
    · cases hr
  · rename_i e ht
    obtain ⟨k, hk, hr⟩ := Option.bind_eq_some_iff.1 hr
    split at hr
    · rename_i hk0
      cases hr
      obtain ⟨u, hu, hx⟩ := Option.bind_eq_some_iff.1 hx
      obtain ⟨lv, hlv, hx⟩ := Option.bind_eq_some_iff.1 hx
      obtain ⟨iv, hiv, hx⟩ := Option.bind_eq_some_iff.1 hx
      obtain ⟨mv, hmv, hx⟩ := Option.bind_eq_some_iff.1 hx
      obtain ⟨z, hz, e2⟩ := Option.map_eq_some_iff.1 hx
      cases e2
      obtain ⟨v, q1, q2⟩ := eSlX_sound (P := C.P) ht hk hk0 (X.eO hp hu) (X.eOo hl hlv) (X.eOo hi' hiv) (X.eOo hm hmv) hz
      exact .pure X (by rw [he]; exact run_v (by rw [sa _ ht (by simp)]; exact q1)) q2
    · cases hr
  · rename_i n e ht
    obtain ⟨k, hk, hr⟩ := Option.bind_eq_some_iff.1 hr
    split at hr
    · rename_i hn
      cases hr
      obtain ⟨u, hu, hx⟩ := Option.bind_eq_some_iff.1 hx
      obtain ⟨lv, hlv, hx⟩ := Option.bind_eq_some_iff.1 hx
      obtain ⟨iv, hiv, hx⟩ := Option.bind_eq_some_iff.1 hx
      obtain ⟨mv, hmv, hx⟩ := Option.bind_eq_some_iff.1 hx
      obtain ⟨z, hz, e2⟩ := Option.map_eq_some_iff.1 hx
      cases e2
      obtain ⟨v, q1, q2⟩ := eSlA_run (P := C.P) (t := t) (.inl rfl) ht hk hn (X.eO hp hu) (X.eOo hl hlv) (X.eOo hi' hiv) (X.eOo hm hmv) hz
      exact .pure X (by rw [he]; exact run_v q1) q2
    · cases hr
  · rename_i arr ht
    split at hr
    · rename_i n e ha
      obtain ⟨k, hk, hr⟩ := Option.bind_eq_some_iff.1 hr
      split at hr
      · rename_i hn
        cases hr
        obtain ⟨u, hu, hx⟩ := Option.bind_eq_some_iff.1 hx
        obtain ⟨lv, hlv, hx⟩ := Option.bind_eq_some_iff.1 hx
        obtain ⟨iv, hiv, hx⟩ := Option.bind_eq_some_iff.1 hx
        obtain ⟨mv, hmv, hx⟩ := Option.bind_eq_some_iff.1 hx
        obtain ⟨z, hz, e2⟩ := Option.map_eq_some_iff.1 hx
        cases e2
        obtain ⟨v, q1, q2⟩ := eSlA_run (P := C.P) (t := t) (.inr ht) ha hk hn (X.eO hp hu) (X.eOo hl hlv) (X.eOo hi' hiv) (X.eOo hm hmv) hz
        exact .pure X (by rw [he]; exact run_v q1) q2
      · cases hr
    · cases hr
  · cases hr

theorem zeroT_ok {P : Program} {t : TypeId} {z : T} (hz : zeroT P t = some z) : ∃ i v, P.info? t = some i ∧ i.zero = some v ∧ ofV v = some z := by
  unfold zeroT at hz
  obtain ⟨v, h1, h2⟩ := Option.bind_eq_some_iff.1 hz
  obtain ⟨i, h3, h4⟩ := Option.bind_eq_some_iff.1 h1
  exact ⟨i, v, h3, h4, h2⟩
theorem ofV_notup {v : Value} {z : T} (h : ofV v = some z) : isTup z = false := by
  have := (ofV_rel (E := ⟨fun _ => ⟨0, 0, none⟩, fun _ => False, fun _ => none, fun _ => none, fun _ _ => False, fun _ => False⟩) (w := default) h).2
  cases z <;> simp_all [isTup]
theorem ePs_get : ∀ {l : List (Nat × Nat × O)} {xs : List (Nat × Nat × T)}, ePs fr l = some xs → xs.length = l.length ∧ ∀ (i : Nat) p q z, l[i]? = some (p, q, z) → ∃ y, eO fr z = some y ∧ xs[i]? = some (p, q, y)
  | [], xs, h => by cases h; simp
  | (p0, q0, z0) :: l, xs, h => by
    obtain ⟨y, hy, h⟩ := Option.bind_eq_some_iff.1 h
    obtain ⟨ys, hys, rfl⟩ := Option.map_eq_some_iff.1 h
    obtain ⟨h1, h2⟩ := ePs_get hys
    refine ⟨by simp [h1], fun i p q z hi => ?_⟩
    cases i with
    | zero => simp at hi; obtain ⟨rfl, rfl, rfl⟩ := hi; exact ⟨y, hy, rfl⟩
    | succ i => exact h2 i p q z (by simpa using hi)
theorem eQs_get : ∀ {l : List (Nat × O)} {xs : List (Nat × T)}, eQs fr l = some xs → xs.length = l.length ∧ ∀ (i : Nat) p z, l[i]? = some (p, z) → ∃ y, eO fr z = some y ∧ xs[i]? = some (p, strip y)
  | [], xs, h => by cases h; simp
  | (p0, z0) :: l, xs, h => by
    obtain ⟨y, hy, h⟩ := Option.bind_eq_some_iff.1 h
    obtain ⟨ys, hys, rfl⟩ := Option.map_eq_some_iff.1 h
    obtain ⟨h1, h2⟩ := eQs_get hys
    refine ⟨by simp [h1], fun i p z hi => ?_⟩
    cases i with
    | zero => simp at hi; obtain ⟨rfl, rfl⟩ := hi; exact ⟨y, hy, rfl⟩
    | succ i => exact h2 i p z (by simpa using hi)
theorem rel_strip1 {y : T} {u : Value} (hr : Rel E w y u) : Rel E w (strip1 y) u := by
  unfold strip1
  split
  · cases hr with
    | slno h1 h2 h3 ad => exact .slno (by simp) h2 (by simp) ad (by simp)
    | sl cv hk hl hc hm ht g1 g2 => exact .sl cv hk hl hc hm trivial g1 g2
  · exact hr
theorem rel_strip {y : T} {u : Value} (hr : Rel E w y u) : Rel E w (strip y) u := by
  unfold strip
  split
  · cases hr with
    | agg h1 h0 h2 =>
      refine .agg (by simpa using h1) h0 fun i x u hx hu => ?_
      rw [List.getElem?_map] at hx
      obtain ⟨z, hz, rfl⟩ := Option.map_eq_some_iff.1 hx
      exact rel_strip1 (h2 i z u hz hu)
  · exact rel_strip1 hr

theorem snd_build (X : Ctx C E h live w fr a nm) {t : TypeId} {ps : Array (Nat × Operand)} (ho : o.op = .build t ps) (hr : res C o = some r) (hx : evR C call fr nm h live r = some (x, h', live')) : Good C nm o a E h live w x h' live' := by
  have he : execOp a.eval o = (do pure (Next.value (← Instr.build t (ps.map fun (i, x) => (i, a.eval x))))) := by unfold execOp; rw [ho]
  unfold res at hr
  simp only [ho] at hr
  have fin : ∀ {z : T} {places : Nat → Option (Nat × Nat)} {l : List (Nat × Nat × O)}, zeroT C.P t = some z → (∃ zs, z = .agg zs) →
      (∀ cells, (∀ i v, C.P.info? t = some i → i.zero = some v → Instr.fill places v.cells (ps.map fun (i, x) => (i, a.eval x)).toList = some cells) → C.P.built t (ps.map fun (i, x) => (i, a.eval x)).toList = some cells) →
      l.length = ps.size → (∀ (i : Nat) (p : Nat × Operand), ps[i]? = some p → ∃ q b, l[i]? = some (q, b) ∧ places p.1 = some (q, b.1) ∧ resO C.laid p.2 = some b.2) → r = .build z.cells l → Good C nm o a E h live w x h' live' := by
    rintro z places l hz ⟨zs, rfl⟩ hbuilt hlen hl rfl
    obtain ⟨qs, hqs, hx⟩ := Option.bind_eq_some_iff.1 hx
    obtain ⟨cs, hcs, e2⟩ := Option.map_eq_some_iff.1 hx
    cases e2
    obtain ⟨i, v, hi, hv, hzv⟩ := zeroT_ok hz
    obtain ⟨hzr, _⟩ := ofV_rel (E := E) (w := w) hzv
    obtain ⟨z1, z2⟩ := hzr.cells (by simp)
    obtain ⟨g1, g2⟩ := ePs_get hqs
    obtain ⟨vs, f1, f2, f3⟩ := fill_sound (E := E) (w := w) places qs (ps.map fun (i, x) => (i, a.eval x)).toList zs cs v.cells (by simp [g1, hlen]) (fun j q p hq hp => by
      rw [Array.toList_map, List.getElem?_map] at hp
      obtain ⟨p0, hp0, rfl⟩ := Option.map_eq_some_iff.1 hp
      obtain ⟨q0, b, hl0, hpl, hro⟩ := hl j p0 (by simpa using hp0)
      obtain ⟨y, hy, hy2⟩ := g2 j q0 b.1 b.2 hl0
      rw [hq] at hy2; cases hy2
      exact ⟨hpl, X.eO hro hy⟩) z1 z2 hcs
    have hb := hbuilt vs (fun i' v' hi' hv' => by rw [hi] at hi'; cases hi'; rw [hv] at hv'; cases hv'; exact f1)
    exact .pure X (by rw [he]; exact run_v (run_build (P := C.P) w t _ vs hb)) (.agg (by have := f2.1; simpa using this) f3 (fun i x u hx hu => f2.2 i x u hx (by simpa using hu)))
  split at hr
  · rename_i fs hu
    obtain ⟨z, hz, hr⟩ := Option.bind_eq_some_iff.1 hr
    obtain ⟨places, hpl, hr⟩ := Option.bind_eq_some_iff.1 hr
    obtain ⟨l, hl, rfl⟩ := Option.map_eq_some_iff.1 hr
    obtain ⟨m1, m2⟩ := mapM_get hl
    obtain ⟨i, v, hi, hv, hzv⟩ := zeroT_ok hz
    by_cases hag : ∃ zs, z = .agg zs
    · refine fin (places := (places.toArray[·]?)) hz hag (fun cells hc => ?_) (by simpa using m1) (fun j p hp => ?_) rfl
      · simp only [Program.built, hi, hu, hv, hpl]
        exact hc i v hi hv
      · obtain ⟨b, hb, hb2⟩ := m2 j p (by simpa using hp)
        obtain ⟨q, hq, hb⟩ := Option.bind_eq_some_iff.1 hb
        obtain ⟨y, hy, rfl⟩ := Option.map_eq_some_iff.1 hb
        exact ⟨q.1, (q.2, y), hb2, by simpa using hq, hy⟩
    · -- a struct's zero is an aggregate; else nothing can be put into it
      obtain ⟨qs, hqs, hx⟩ := Option.bind_eq_some_iff.1 hx
      obtain ⟨cs, hcs, e2⟩ := Option.map_eq_some_iff.1 hx
      cases e2
      obtain ⟨hzr, hnt⟩ := ofV_rel (E := E) (w := w) hzv
      obtain ⟨z1, z2⟩ := hzr.cells hnt
      obtain ⟨g1, g2⟩ := ePs_get hqs
      obtain ⟨vs, f1, f2, f3⟩ := fill_sound (E := E) (w := w) (places.toArray[·]?) qs (ps.map fun (i, x) => (i, a.eval x)).toList z.cells cs v.cells (by simp [g1, m1]) (fun j q p hq hp => by
        rw [Array.toList_map, List.getElem?_map] at hp
        obtain ⟨p0, hp0, rfl⟩ := Option.map_eq_some_iff.1 hp
        obtain ⟨b, hb, hb2⟩ := m2 j p0 (by simpa using hp0)
        obtain ⟨q0, hq0, hb⟩ := Option.bind_eq_some_iff.1 hb
        obtain ⟨y0, hy0, rfl⟩ := Option.map_eq_some_iff.1 hb
        obtain ⟨y, hy, hy2⟩ := g2 j q0.1 q0.2 y0 hb2
        rw [hq] at hy2; cases hy2
        exact ⟨by simpa using hq0, X.eO hy0 hy⟩) z1 z2 hcs
      have hb : C.P.built t (ps.map fun (i, x) => (i, a.eval x)).toList = some vs := by simp only [Program.built, hi, hu, hv, hpl]; exact f1
      exact .pure X (by rw [he]; exact run_v (run_build (P := C.P) w t _ vs hb)) (.agg (by have := f2.1; simpa using this) f3 (fun i x u hx hu => f2.2 i x u hx (by simpa using hu)))
  · rename_i n e hu
    obtain ⟨z, hz, hr⟩ := Option.bind_eq_some_iff.1 hr
    obtain ⟨k, hk, hr⟩ := Option.bind_eq_some_iff.1 hr
    obtain ⟨l, hl, rfl⟩ := Option.map_eq_some_iff.1 hr
    obtain ⟨m1, m2⟩ := mapM_get hl
    obtain ⟨i, v, hi, hv, hzv⟩ := zeroT_ok hz
    obtain ⟨ie, hie, hks⟩ := Option.map_eq_some_iff.1 hk
    obtain ⟨qs, hqs, hx⟩ := Option.bind_eq_some_iff.1 hx
    obtain ⟨cs, hcs, e2⟩ := Option.map_eq_some_iff.1 hx
    cases e2
    obtain ⟨hzr, hnt⟩ := ofV_rel (E := E) (w := w) hzv
    obtain ⟨z1, z2⟩ := hzr.cells hnt
    obtain ⟨g1, g2⟩ := ePs_get hqs
    obtain ⟨vs, f1, f2, f3⟩ := fill_sound (E := E) (w := w) (fun i => some (i * k, k)) qs (ps.map fun (i, x) => (i, a.eval x)).toList z.cells cs v.cells (by simp [g1, m1]) (fun j q p hq hp => by
      rw [Array.toList_map, List.getElem?_map] at hp
      obtain ⟨p0, hp0, rfl⟩ := Option.map_eq_some_iff.1 hp
      obtain ⟨b, hb, hb2⟩ := m2 j p0 (by simpa using hp0)
      obtain ⟨y0, hy0, rfl⟩ := Option.map_eq_some_iff.1 hb
      obtain ⟨y, hy, hy2⟩ := g2 j _ _ y0 hb2
      rw [hq] at hy2; cases hy2
      exact ⟨rfl, X.eO hy0 hy⟩) z1 z2 hcs
    have hb : C.P.built t (ps.map fun (i, x) => (i, a.eval x)).toList = some vs := by
      simp only [Program.built, hi, hu, hv, hie, hks]; exact f1
    exact .pure X (by rw [he]; exact run_v (run_build (P := C.P) w t _ vs hb)) (.agg (by have := f2.1; simpa using this) f3 (fun i x u hx hu => f2.2 i x u hx (by simpa using hu)))
  · cases hr
end
end Go.AE
