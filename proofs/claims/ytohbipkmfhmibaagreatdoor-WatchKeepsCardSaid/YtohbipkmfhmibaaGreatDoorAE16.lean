import Derived.Test.YtohbipkmfhmibaaGreatDoorAE15
/-! AE16: all operations but calls. -/
set_option linter.unusedVariables false
set_option linter.unusedSimpArgs false
namespace Go.AE
open Go.RowKit Go.LB
def isCall : R → Bool
  | .call _ _ | .callv _ _ => true
  | _ => false
section
variable {C : Cfg} {E : Env} {h h' : Heap} {live live' : List Name} {w : World} {fr : Fr} {a : Act} {nm : Name} {o : Oper} {r : R} {x : T} {call : FuncId → Name → List T → Heap → Option (T × Heap)}

theorem szOf_ne {P : Program} {t : TypeId} (hs : (szOf P t).getD 0 ≠ 0) : ∃ k, (P.info? t).map (·.size) = some (k + 1) := by
  unfold szOf at hs
  cases hi : P.info? t with
  | none => simp [hi] at hs
  | some i =>
    have : i.size ≠ 0 := by simpa [hi] using hs
    exact ⟨i.size - 1, by simp; omega⟩
theorem ho_exec {s : Sem Value} (he : execOp a.eval o = (do pure (Next.value (← s)))) {P : Program} {v : Value} {w w' : World} (h : s.run P w = .ok v w') : (execOp a.eval o).run P w = .ok (.value v) w' := by rw [he]; exact run_v h

theorem snd_simple (hC : ∀ t ∈ C.pts, PtrT C.P t) (X : Ctx C E h live w fr a nm) (hr : res C o = some r) (hnc : isCall r = false) (hx : evR C call fr nm h live r = some (x, h', live')) : Good C nm o a E h live w x h' live' := by
  have hr0 := hr
  unfold res at hr
  cases ho : o.op <;> rw [ho] at hr <;> simp only at hr <;> try (cases hr; done)
  case move p =>
    obtain ⟨p', hp, rfl⟩ := Option.map_eq_some_iff.1 hr
    obtain ⟨u, hu, e⟩ := Option.map_eq_some_iff.1 hx
    cases e
    exact .pure X (by unfold execOp; rw [ho]; rfl) (X.eO hp hu)
  case assign p =>
    obtain ⟨p', hp, rfl⟩ := Option.map_eq_some_iff.1 hr
    obtain ⟨u, hu, e⟩ := Option.map_eq_some_iff.1 hx
    cases e
    exact .pure X (by unfold execOp; rw [ho]; rfl) (X.eO hp hu)
  case pick c p q =>
    obtain ⟨c', hc, hr⟩ := Option.bind_eq_some_iff.1 hr
    obtain ⟨p', hp, hr⟩ := Option.bind_eq_some_iff.1 hr
    obtain ⟨q', hq, rfl⟩ := Option.map_eq_some_iff.1 hr
    obtain ⟨u, hu, hx⟩ := Option.bind_eq_some_iff.1 hx
    obtain ⟨v, hv, hx⟩ := Option.bind_eq_some_iff.1 hx
    obtain ⟨z, hz, hx⟩ := Option.bind_eq_some_iff.1 hx
    obtain ⟨b, rfl⟩ : ∃ b, u = .v (.bool b) := by
      split at hx
      · exact ⟨_, rfl⟩
      · cases hx
    have hrel := X.eO hc hu
    have hcb : a.eval c = .bool b := by
      generalize a.eval c = z at hrel
      cases hrel; rfl
    cases hx
    refine .pure X (v := if b then a.eval p else a.eval q) ?_ ?_
    · unfold execOp; rw [ho]; simp [hcb, asBool]
    · cases b
      · exact X.eO hq hz
      · exact X.eO hp hv
  case alloc e =>
    obtain ⟨z, hz, rfl⟩ := Option.map_eq_some_iff.1 hr
    obtain ⟨i, v, hi, hv, hzv⟩ := zeroT_ok hz
    have hnt := ofV_notup hzv
    change (if isTup z = true then none else some (T.ptr nm 0, hnew h nm (.box z.cells), live)) = some (x, h', live') at hx
    rw [if_neg (by simp [hnt])] at hx
    cases hx
    obtain ⟨q1, q2, q3⟩ := eBox_sound (P := C.P) (U := (nm <+: ·)) X.st X.ρ0 (List.prefix_refl nm) (e := e) (ofV_rel hzv).1 hnt
    refine ⟨_, _, _, .inl (ho_exec (s := Instr.alloc e true (.tuple #[])) (by unfold execOp; rw [ho]) ?_), q2, by rw [hget_hnew_fun]; exact q3⟩
    simp [Instr.alloc, zeroValue, typeInfo, hi, hv, q1]
  case box e p =>
    obtain ⟨p', hp, rfl⟩ := Option.map_eq_some_iff.1 hr
    obtain ⟨u, hu, hx⟩ := Option.bind_eq_some_iff.1 hx
    split at hx
    · cases hx
    rename_i hnt
    cases hx
    obtain ⟨q1, q2, q3⟩ := eBox_sound (P := C.P) (U := (nm <+: ·)) X.st X.ρ0 (List.prefix_refl nm) (e := e) (X.eO hp hu) (by simpa using hnt)
    refine ⟨_, _, _, .inl (ho_exec (s := Instr.box e (a.eval p)) (by unfold execOp; rw [ho]) ?_), q2, by rw [hget_hnew_fun]; exact q3⟩
    simp [Instr.box, q1]
  case build t ps => exact snd_build X ho hr0 hx
  case buildSlice t len ps => exact snd_bsl X ho hr0 hx
  case load t p =>
    obtain ⟨n, hn, hr⟩ := Option.bind_eq_some_iff.1 hr
    obtain ⟨p', hp, rfl⟩ := Option.map_eq_some_iff.1 hr
    obtain ⟨u, hu, hx⟩ := Option.bind_eq_some_iff.1 hx
    obtain ⟨y, hy, e⟩ := Option.map_eq_some_iff.1 hx
    cases e
    obtain ⟨v, q1, q2⟩ := eLoad_sound (P := C.P) X.st (shp_ok hn) (X.eO hp hu) hy
    exact .pure X (ho_exec (s := Instr.loadAt t (a.eval p)) (by unfold execOp; rw [ho]) q1) q2
  case store t p q =>
    obtain ⟨n, hn, hr⟩ := Option.bind_eq_some_iff.1 hr
    obtain ⟨p', hp, hr⟩ := Option.bind_eq_some_iff.1 hr
    obtain ⟨q', hq, rfl⟩ := Option.map_eq_some_iff.1 hr
    obtain ⟨u, hu, hx⟩ := Option.bind_eq_some_iff.1 hx
    obtain ⟨v, hv, hx⟩ := Option.bind_eq_some_iff.1 hx
    obtain ⟨y, hy, e⟩ := Option.map_eq_some_iff.1 hx
    cases e
    obtain ⟨w', q1, q2⟩ := eStore_sound (P := C.P) (U := (nm <+: ·)) X.st hn (X.eO hp hu) (X.eO hq hv) hy
    exact .skip (by unfold execOp; rw [ho]; exact run_u q1) q2
  case nilCheck p =>
    obtain ⟨p', hp, rfl⟩ := Option.map_eq_some_iff.1 hr
    obtain ⟨u, hu, hx⟩ := Option.bind_eq_some_iff.1 hx
    have hrel := X.eO hp hu
    generalize hq : a.eval p = z at hrel
    have he : ∀ z', a.eval p = z' → (∀ y, z' = .pointer y → y ≠ none) → (∀ n f c, z' ≠ .func (.method n) f c) → z' ≠ .nilIface → z' ≠ .nilFunc → (execOp a.eval o).run C.P w = .ok (.value z') w := by
      rintro z' rfl h1 h2 h3 h4
      unfold execOp
      rw [ho]
      simp only
      split <;> first | (rename_i e; exact absurd rfl (h1 _ e)) | (rename_i e; exact absurd e h3) | (rename_i e; exact absurd e h4) | (rename_i e; exact absurd e (h2 _ _ _)) | rfl
    cases hrel <;> (try simp only at hx) <;> try (cases hx; done)
    · cases hx; rename_i k hk; exact .pure X (he _ hq (by simp) (by simp) (by simp) (by simp)) (.gl k hk)
    · cases hx; rename_i hb; exact .pure X (he _ hq (by simp) (by simp) (by simp) (by simp)) (.ptr hb)
    · cases hx; rename_i cv h1 h2; exact .pure X (he _ hq (by simp) (by simp) (by simp) (by simp)) (.ro cv h1 h2)
    · rename_i f0 first cap fv cv h1 h2 h3 h4
      cases f0 with
      | func f => cases hx; exact .pure X (he _ hq (by simp) (by simp) (by simp) (by simp)) (.fn h1 h2 h3 h4)
      | _ => simp at hx
  case binOp op xt p q yt => exact snd_binOp hC X ho hr hx
  case unOp op ty p =>
    obtain ⟨p', hp, rfl⟩ := Option.map_eq_some_iff.1 hr
    obtain ⟨u, hu, hx⟩ := Option.bind_eq_some_iff.1 hx
    obtain ⟨y, hy, e⟩ := Option.map_eq_some_iff.1 hx
    cases e
    obtain ⟨v, q1, q2⟩ := tun_sound (P := C.P) (w := w) hy (X.eO hp hu)
    exact .pure X (ho_exec (s := Op.unary op (a.eval p)) (by unfold execOp; rw [ho]) q1) q2
  case convert src dst p => exact snd_conv X ho hr hx
  case makeInterface t p =>
    split at hr
    · cases hr
    · cases hr
    rename_i d hni hd
    obtain ⟨p', hp, rfl⟩ := Option.map_eq_some_iff.1 hr
    obtain ⟨u, hu, e⟩ := Option.map_eq_some_iff.1 hx
    cases e
    refine .pure X (ho_exec (s := Instr.makeInterface t (a.eval p)) (v := .iface t (a.eval p)) (by unfold execOp; rw [ho]) ?_) (.ifc (X.eO hp hu))
    unfold Instr.makeInterface
    rw [Sem.run_bind, run_underlying hd, Result.andThen_ok]
    cases d <;> first | rfl | exact absurd rfl (hni _)
  case makeFunc f first cap =>
    obtain ⟨p', hp, hr⟩ := Option.bind_eq_some_iff.1 hr
    obtain ⟨q', hq, rfl⟩ := Option.map_eq_some_iff.1 hr
    obtain ⟨us, hus, hx⟩ := Option.bind_eq_some_iff.1 hx
    obtain ⟨vs, hvs, e⟩ := Option.map_eq_some_iff.1 hx
    cases e
    have r1 := X.eOs hp hus
    have r2 := X.eOs hq hvs
    refine .pure X (ho_exec (s := Instr.makeFunc f (first.map a.eval) (cap.map a.eval)) (v := .func f (first.map a.eval) (cap.map a.eval)) (by unfold execOp; rw [ho]) rfl) ?_
    exact .fn (by have := r1.1; simpa using this) (by have := r2.1; simpa using this) (fun i x u hx hu => r1.2 i x u hx (by simpa using hu)) (fun i x u hx hu => r2.2 i x u hx (by simpa using hu))
  case makeMap t q =>
    cases q with
    | some _ => cases hr
    | none =>
      cases hr
      cases hx
      obtain ⟨q1, q2, q3⟩ := eMkMap_sound (P := C.P) (U := (nm <+: ·)) X.st X.ρ0 (List.prefix_refl nm) t
      exact ⟨_, _, _, .inl (ho_exec (s := Instr.makeMap t none) (by unfold execOp; rw [ho]; rfl) q1), q2, by rw [hget_hnew_fun]; exact q3⟩
  case makeSlice t l c =>
    split at hr
    case h_2 => cases hr
    rename_i e ht
    obtain ⟨⟨k, lim, zt⟩, hel, hr⟩ := Option.bind_eq_some_iff.1 hr
    obtain ⟨i, z, hi, hz, hzt, hik, hzk, hk, hlim, hlim2⟩ := elemI_ok hel
    obtain ⟨l', hl, hr⟩ := Option.bind_eq_some_iff.1 hr
    obtain ⟨c', hc, rfl⟩ := Option.map_eq_some_iff.1 hr
    obtain ⟨u, hu, hx⟩ := Option.bind_eq_some_iff.1 hx
    obtain ⟨v, hv, hx⟩ := Option.bind_eq_some_iff.1 hx
    obtain ⟨hzr, hnt⟩ := ofV_rel (E := E) (w := w) hzt
    obtain ⟨z1, z2⟩ := hzr.cells hnt
    obtain ⟨vv, E', w', q1, q2, q3⟩ := eMake_sound (U := (nm <+: ·)) X.st ht hi hz hik hzk hk z1 z2 hlim hlim2 X.τ0 X.ρ0 (List.prefix_refl nm) (X.eO hl hu) (X.eO hc hv) hx
    exact ⟨vv, E', w', .inl (ho_exec (s := Instr.makeSlice t (a.eval l) (a.eval c)) (by unfold execOp; rw [ho]) q1), q2, q3⟩
  case slice t p lo hi mx => exact snd_slice X ho hr hx
  case fieldAddr s p i =>
    split at hr
    case h_2 => cases hr
    rename_i fs hs
    obtain ⟨f, hf, hr⟩ := Option.bind_eq_some_iff.1 hr
    split at hr
    case isFalse => cases hr
    rename_i hz
    obtain ⟨p', hp, rfl⟩ := Option.map_eq_some_iff.1 hr
    obtain ⟨u, hu, hx⟩ := Option.bind_eq_some_iff.1 hx
    obtain ⟨y, hy, e⟩ := Option.map_eq_some_iff.1 hx
    cases e
    obtain ⟨v, q1, q2⟩ := eFieldAddr_sound (P := C.P) (w := w) hs hf (szOf_ne hz) (X.eO hp hu) hy
    exact .pure X (ho_exec (s := Instr.fieldAt s (a.eval p) i) (by unfold execOp; rw [ho]) q1) q2
  case field s p i =>
    split at hr
    case h_2 => cases hr
    rename_i fs hs
    obtain ⟨f, hf, hr⟩ := Option.bind_eq_some_iff.1 hr
    obtain ⟨n, hn, hr⟩ := Option.bind_eq_some_iff.1 hr
    obtain ⟨p', hp, rfl⟩ := Option.map_eq_some_iff.1 hr
    obtain ⟨u, hu, hx⟩ := Option.bind_eq_some_iff.1 hx
    obtain ⟨y, hy, e⟩ := Option.map_eq_some_iff.1 hx
    cases e
    obtain ⟨v, q1, q2⟩ := eField_sound (P := C.P) (w := w) hs hf (shp_ok hn) (X.eO hp hu) hy
    exact .pure X (ho_exec (s := Instr.field s (a.eval p) i) (by unfold execOp; rw [ho]) q1) q2
  case indexAddr t p i =>
    obtain ⟨p', hp, hr⟩ := Option.bind_eq_some_iff.1 hr
    obtain ⟨i', hi, hr⟩ := Option.bind_eq_some_iff.1 hr
    split at hr
    · rename_i n e ht
      obtain ⟨k, hk, rfl⟩ := Option.map_eq_some_iff.1 hr
      obtain ⟨u, hu, hx⟩ := Option.bind_eq_some_iff.1 hx
      obtain ⟨v, hv, hx⟩ := Option.bind_eq_some_iff.1 hx
      obtain ⟨y, hy, e⟩ := Option.map_eq_some_iff.1 hx
      cases e
      obtain ⟨v, q1, q2⟩ := eIdxA_sound (P := C.P) (w := w) ht hk (X.eO hp hu) (X.eO hi hv) hy
      exact .pure X (ho_exec (s := Instr.indexAt t (a.eval p) (a.eval i)) (by unfold execOp; rw [ho]) q1) q2
    · rename_i e ht
      obtain ⟨k, hk, rfl⟩ := Option.map_eq_some_iff.1 hr
      obtain ⟨u, hu, hx⟩ := Option.bind_eq_some_iff.1 hx
      obtain ⟨v, hv, hx⟩ := Option.bind_eq_some_iff.1 hx
      obtain ⟨y, hy, e⟩ := Option.map_eq_some_iff.1 hx
      cases e
      obtain ⟨v, q1, q2⟩ := eIdxS_sound (P := C.P) (w := w) ht hk (X.eO hp hu) (X.eO hi hv) hy
      exact .pure X (ho_exec (s := Instr.indexAt t (a.eval p) (a.eval i)) (by unfold execOp; rw [ho]) q1) q2
    · cases hr
  case index t p i =>
    obtain ⟨p', hp, hr⟩ := Option.bind_eq_some_iff.1 hr
    obtain ⟨i', hi, hr⟩ := Option.bind_eq_some_iff.1 hr
    split at hr
    · rename_i n e ht
      obtain ⟨k, hk, hr⟩ := Option.bind_eq_some_iff.1 hr
      obtain ⟨s, hs, rfl⟩ := Option.map_eq_some_iff.1 hr
      obtain ⟨u, hu, hx⟩ := Option.bind_eq_some_iff.1 hx
      obtain ⟨v, hv, hx⟩ := Option.bind_eq_some_iff.1 hx
      obtain ⟨y, hy, e⟩ := Option.map_eq_some_iff.1 hx
      cases e
      obtain ⟨v, q1, q2⟩ := eIdxV_sound (P := C.P) (w := w) ht hk (shp_ok hs) (X.eO hp hu) (X.eO hi hv) hy
      exact .pure X (ho_exec (s := Instr.index t (a.eval p) (a.eval i)) (by unfold execOp; rw [ho]) q1) q2
    · rename_i ht
      cases hr
      obtain ⟨u, hu, hx⟩ := Option.bind_eq_some_iff.1 hx
      obtain ⟨v, hv, hx⟩ := Option.bind_eq_some_iff.1 hx
      obtain ⟨y, hy, e⟩ := Option.map_eq_some_iff.1 hx
      cases e
      obtain ⟨v, q1, q2⟩ := eIdxStr_sound (P := C.P) (w := w) ht (X.eO hp hu) (X.eO hi hv) hy
      exact .pure X (ho_exec (s := Instr.index t (a.eval p) (a.eval i)) (by unfold execOp; rw [ho]) q1) q2
    · cases hr
  case lookup t p i ok =>
    obtain ⟨p', hp, hr⟩ := Option.bind_eq_some_iff.1 hr
    obtain ⟨i', hi, hr⟩ := Option.bind_eq_some_iff.1 hr
    split at hr
    case h_2 => cases hr
    rename_i kt e ht
    obtain ⟨ks, hks, hr⟩ := Option.bind_eq_some_iff.1 hr
    obtain ⟨z, hz, rfl⟩ := Option.map_eq_some_iff.1 hr
    obtain ⟨ie, zv, hie, hzv, hzt⟩ := zeroT_ok hz
    obtain ⟨u, hu, hx⟩ := Option.bind_eq_some_iff.1 hx
    obtain ⟨v, hv, hx⟩ := Option.bind_eq_some_iff.1 hx
    obtain ⟨y, hy, e⟩ := Option.map_eq_some_iff.1 hx
    cases e
    obtain ⟨v, q1, q2⟩ := eLook_sound (P := C.P) X.st ht hie hzv (ofV_rel hzt).1 (d := 100) (by omega) hks (X.eO hp hu) (X.eO hi hv) hy
    exact .pure X (ho_exec (s := Instr.lookup t (a.eval p) (a.eval i) ok) (by unfold execOp; rw [ho]) q1) q2
  case mapUpdate t m k v =>
    obtain ⟨m', hm, hr⟩ := Option.bind_eq_some_iff.1 hr
    obtain ⟨k', hk, hr⟩ := Option.bind_eq_some_iff.1 hr
    obtain ⟨v', hv, hr⟩ := Option.bind_eq_some_iff.1 hr
    split at hr
    case h_2 => cases hr
    rename_i kt e ht
    obtain ⟨ks, hks, rfl⟩ := Option.map_eq_some_iff.1 hr
    obtain ⟨u1, hu1, hx⟩ := Option.bind_eq_some_iff.1 hx
    obtain ⟨u2, hu2, hx⟩ := Option.bind_eq_some_iff.1 hx
    obtain ⟨u3, hu3, hx⟩ := Option.bind_eq_some_iff.1 hx
    obtain ⟨y, hy, e⟩ := Option.map_eq_some_iff.1 hx
    cases e
    obtain ⟨w', q1, q2⟩ := eMapSet_sound (P := C.P) (U := (nm <+: ·)) X.st ht (d := 100) (by omega) hks (X.eO hm hu1) (X.eO hk hu2) (X.eO hv hu3) hy
    exact .skip (by unfold execOp; rw [ho]; exact run_u q1) q2
  case insert t m k v =>
    obtain ⟨m', hm, hr⟩ := Option.bind_eq_some_iff.1 hr
    obtain ⟨k', hk, hr⟩ := Option.bind_eq_some_iff.1 hr
    obtain ⟨v', hv, hr⟩ := Option.bind_eq_some_iff.1 hr
    split at hr
    case h_2 => cases hr
    rename_i kt e ht
    obtain ⟨ks, hks, rfl⟩ := Option.map_eq_some_iff.1 hr
    obtain ⟨u1, hu1, hx⟩ := Option.bind_eq_some_iff.1 hx
    obtain ⟨u2, hu2, hx⟩ := Option.bind_eq_some_iff.1 hx
    obtain ⟨u3, hu3, hx⟩ := Option.bind_eq_some_iff.1 hx
    obtain ⟨y, hy, e⟩ := Option.map_eq_some_iff.1 hx
    cases e
    obtain ⟨w', q1, q2⟩ := eMapSet_sound (P := C.P) (U := (nm <+: ·)) X.st ht (d := 100) (by omega) hks (X.eO hm hu1) (X.eO hk hu2) (X.eO hv hu3) hy
    exact .skip (by unfold execOp; rw [ho]; exact run_u q1) q2
  case mapEntry t m k =>
    obtain ⟨m', hm, hr⟩ := Option.bind_eq_some_iff.1 hr
    obtain ⟨k', hk, hr⟩ := Option.bind_eq_some_iff.1 hr
    split at hr
    case h_2 => cases hr
    rename_i kt e ht
    obtain ⟨ks, hks, hr⟩ := Option.bind_eq_some_iff.1 hr
    obtain ⟨z, hz, rfl⟩ := Option.map_eq_some_iff.1 hr
    obtain ⟨ie, zv, hie, hzv, hzt⟩ := zeroT_ok hz
    obtain ⟨u1, hu1, hx⟩ := Option.bind_eq_some_iff.1 hx
    obtain ⟨u2, hu2, hx⟩ := Option.bind_eq_some_iff.1 hx
    obtain ⟨⟨y, hh⟩, hy, e⟩ := Option.map_eq_some_iff.1 hx
    cases e
    obtain ⟨v, w', q1, q2, q3⟩ := eMapEntry_sound (P := C.P) (U := (nm <+: ·)) X.st ht hie hzv (ofV_rel hzt).1 (d := 100) (by omega) hks (X.eO hm hu1) (X.eO hk hu2) hy
    exact ⟨v, E, w', .inl (ho_exec (s := Instr.mapEntry t (a.eval m) (a.eval k)) (by unfold execOp; rw [ho]) q1), q2, q3⟩
  case entryStore t m s v =>
    obtain ⟨m', hm, hr⟩ := Option.bind_eq_some_iff.1 hr
    obtain ⟨s', hs, hr⟩ := Option.bind_eq_some_iff.1 hr
    obtain ⟨v', hv, rfl⟩ := Option.map_eq_some_iff.1 hr
    obtain ⟨u1, hu1, hx⟩ := Option.bind_eq_some_iff.1 hx
    obtain ⟨u2, hu2, hx⟩ := Option.bind_eq_some_iff.1 hx
    obtain ⟨u3, hu3, hx⟩ := Option.bind_eq_some_iff.1 hx
    obtain ⟨y, hy, e⟩ := Option.map_eq_some_iff.1 hx
    cases e
    obtain ⟨w', q1, q2⟩ := eEntrySet_sound (P := C.P) (U := (nm <+: ·)) (t := t) X.st (X.eO hm hu1) (X.eO hs hu2) (X.eO hv hu3) hy
    exact .skip (by unfold execOp; rw [ho]; exact run_u q1) q2
  case typeAssert p xt t ok =>
    split at hr
    · cases hr
    · cases hr
    rename_i d hni hd
    obtain ⟨p', hp, hr⟩ := Option.bind_eq_some_iff.1 hr
    obtain ⟨z, hz, rfl⟩ := Option.map_eq_some_iff.1 hr
    obtain ⟨ie, zv, hie, hzv, hzt⟩ := zeroT_ok hz
    obtain ⟨u, hu, hx⟩ := Option.bind_eq_some_iff.1 hx
    have hrel := X.eO hp hu
    have hzr : (zeroValue t).run C.P w = .ok zv w := by simp [zeroValue, typeInfo, hie, hzv]
    have he : execOp a.eval o = (do pure (Next.value (← Instr.typeAssert (a.eval p) xt t ok))) := by unfold execOp; rw [ho]
    have run1 : ∀ t1 v1, (Instr.typeAssert (.iface t1 v1) xt t ok).run C.P w = (if t1 = t then .ok (if ok then .tuple #[v1, .bool true] else v1) w else (if ok then .ok (.tuple #[zv, .bool false]) w else (runtimePanic (α := Value) (.typeAssertion (some xt) (some t1) t "")).run C.P w)) := by
      intro t1 v1
      unfold Instr.typeAssert
      rw [Sem.run_bind, run_underlying hd, Result.andThen_ok]
      cases d <;> first | exact absurd rfl (hni _) | (simp only []; split <;> (cases ok <;> simp [hzr]))
    have run2 : ok = true → (Instr.typeAssert .nilIface xt t ok).run C.P w = .ok (.tuple #[zv, .bool false]) w := by
      rintro rfl
      unfold Instr.typeAssert
      rw [Sem.run_bind, run_underlying hd, Result.andThen_ok]
      cases d <;> first | exact absurd rfl (hni _) | simp [hzr]
    generalize a.eval p = q at hrel he
    split at hx
    · rename_i t1 y
      cases hrel with
      | ifc hy =>
      rename_i v1
      split at hx
      · rename_i ht
        cases hx
        refine .pure X (by rw [he]; exact run_v (by rw [run1, if_pos ht])) ?_
        cases ok
        · exact hy
        · exact rel_tup2 hy (.v rfl)
      · rename_i ht
        split at hx
        · rename_i hok
          cases hx
          exact .pure X (by rw [he]; exact run_v (by rw [run1, if_neg ht, if_pos hok])) (rel_tup2 (ofV_rel hzt).1 (.v rfl))
        · cases hx
    · cases hrel
      split at hx
      · rename_i hok
        cases hx
        exact .pure X (by rw [he]; exact run_v (run2 hok)) (rel_tup2 (ofV_rel hzt).1 (.v rfl))
      · cases hx
    · cases hx
  case extract p i =>
    obtain ⟨p', hp, rfl⟩ := Option.map_eq_some_iff.1 hr
    obtain ⟨u, hu, hx⟩ := Option.bind_eq_some_iff.1 hx
    have hrel := X.eO hp hu
    have he : execOp a.eval o = (do pure (Next.value (← Instr.extract (a.eval p) i))) := by unfold execOp; rw [ho]
    generalize a.eval p = q at hrel he
    split at hx
    case h_2 => cases hx
    obtain ⟨y, hy, e⟩ := Option.map_eq_some_iff.1 hx
    cases e
    cases hrel with
    | tup h1 h2 =>
      rename_i vs
      have hlt : i < vs.size := by rw [h1]; exact (List.getElem?_eq_some_iff.1 hy).1
      exact .pure X (by rw [he]; exact run_v (by simp [Instr.extract, hlt])) (h2 i _ _ hy (Array.getElem?_eq_getElem hlt))
  case call c =>
    cases hcb : c.callee with
    | builtin b => exact snd_builtin X hcb ho hr hx
    | value f =>
      unfold resCall at hr
      rw [hcb] at hr
      cases f with
      | func g => obtain ⟨xs, _, rfl⟩ := Option.map_eq_some_iff.1 hr; simp [isCall] at hnc
      | _ =>
        simp only at hr
        obtain ⟨g, _, hr⟩ := Option.bind_eq_some_iff.1 hr
        obtain ⟨xs, _, rfl⟩ := Option.map_eq_some_iff.1 hr
        simp [isCall] at hnc
    | invoke a b => unfold resCall at hr; rw [hcb] at hr; simp at hr
end
end Go.AE
