import Derived.Test.YtohbipkmfhmibaaGreatDoorAE8
/-! AE9: lengths, texts and bytes, make, copy, interfaces, functions. -/
set_option linter.unusedVariables false
set_option linter.unusedSimpArgs false
namespace Go.AE
open Go.RowKit Go.LB
section
variable {P : Program} {U : Name → Prop} {E : Env} {h : Heap} {G : Name → Option Blk} {L : Name → Prop} {w : World}

/-! ### len -/
inductive LK where
  | str | sl | map
  | arr (n : Nat)
  deriving DecidableEq, Inhabited
def eLen (k : LK) (x : T) (h : Heap) : Option T :=
  match k, x with
  | .arr n, _ => some (tI n)
  | .str, .v (.string s) => some (tI s.size)
  | .sl, .sl l _ => some (tI l.length)
  | .sl, .msl _ _ n => some (tI n)
  | .map, .v (.map none) => some (tI 0)
  | .map, .map n => match hget h n with | some (.map es _) => some (tI es.length) | _ => none
  | _, _ => none
def LenT (P : Program) (t : TypeId) : LK → Prop
  | .str => P.underlying t = some .string
  | .sl => ∃ e, P.underlying t = some (.slice e)
  | .map => ∃ k e, P.underlying t = some (.map k e)
  | .arr n => (∃ e, P.underlying t = some (.array n e)) ∨ ∃ a e, P.underlying t = some (.pointer a) ∧ P.underlying a = some (.array n e)
theorem eLen_sound (st : St E (hget h) L w) {t ty : TypeId} {lk : LK} (hl : LenT P t lk) {a x : T} {u : Value} (ha : Rel E w a u) (hx : eLen lk a h = some x) : ∃ v, (Builtin.len_ #[t] ty #[u]).run P w = .ok v w ∧ Rel E w x v := by
  unfold eLen at hx
  split at hx
  · cases hx
    rename_i n
    rcases hl with ⟨e, he⟩ | ⟨b, e, h1, h2⟩
    · refine ⟨.int .i64 n, ?_, .v rfl⟩
      simp only [Builtin.len_, List.getElem?_toArray, List.getElem?_cons_zero, Sem.run_bind, run_underlying he, Result.andThen_ok]
      simp [goInt]
    · refine ⟨.int .i64 n, ?_, .v rfl⟩
      simp only [Builtin.len_, List.getElem?_toArray, List.getElem?_cons_zero, Sem.run_bind, run_underlying h1, Result.andThen_ok]
      simp [goInt, run_underlying h2]
  · cases hx; cases ha
    exact ⟨_, by simp [Builtin.len_, run_underlying hl, goInt], .v rfl⟩
  · cases hx
    obtain ⟨e, he⟩ := hl
    cases ha with
    | slnil => exact ⟨_, by simp [Builtin.len_, run_underlying he, goInt], .v rfl⟩
    | slno h1 h2 h3 h4 => exact ⟨_, by simp [Builtin.len_, run_underlying he, goInt], .v rfl⟩
    | sl cv hk1 hl hc hm htag g1 g2 => exact ⟨_, by simp [Builtin.len_, run_underlying he, goInt], .v rfl⟩
  · cases hx
    obtain ⟨e, he⟩ := hl
    cases ha with
    | msl hb hc hm => exact ⟨_, by simp [Builtin.len_, run_underlying he, goInt], .v rfl⟩
  · cases hx
    obtain ⟨k, e, he⟩ := hl
    cases ha
    exact ⟨_, by simp [Builtin.len_, run_underlying he, goInt], .v rfl⟩
  · obtain ⟨k, e, he⟩ := hl
    cases ha with
    | map hb =>
    split at hx
    · rename_i es ck hg
      cases hx
      obtain ⟨b, ves, h1, h2, h3, h4⟩ := st.map _ _ _ hg
      rw [hb] at h1; cases h1
      refine ⟨.int .i64 es.length, ?_, .v rfl⟩
      simp [Builtin.len_, run_underlying he, goInt, getObj, Sem.run, h2, h3]
    · cases hx
  · cases hx

/-! ### Texts and bytes -/
def byteOf? : T → Option UInt8
  | .v (.int .u8 n) => if 0 ≤ n ∧ n < 256 then some (UInt8.ofNat n.toNat) else none
  | _ => none
def bytesOf (l : List T) : Option (List UInt8) := l.mapM byteOf?
def encB (b : UInt8) : T := .v (.int .u8 (b.toNat : Int))
theorem byteOf_enc (b : UInt8) : byteOf? (encB b) = some b := by
  have := b.toNat_lt
  simp only [byteOf?, encB]
  rw [if_pos (by omega)]
  simp
theorem byteOf_val {x : T} {b : UInt8} {u : Value} (h : byteOf? x = some b) (hx : Rel E w x u) : u = .int .u8 (b.toNat : Int) ∧ x.cells = [x] := by
  unfold byteOf? at h
  split at h
  · split at h
    · rename_i n hn
      cases h; cases hx
      refine ⟨?_, rfl⟩
      congr 1
      rw [UInt8.toNat_ofNat_of_lt' (by show n.toNat < 256; omega)]
      omega
    · cases h
  · cases h
def eStr (x : T) (h : Heap) : Option T :=
  match x with
  | .sl l _ => (bytesOf l).map fun b => tS ⟨b.toArray⟩
  | .msl n off len => match hget h n with
    | some (.box cs) => if off + len ≤ cs.length then (bytesOf ((cs.drop off).take len)).map fun b => tS ⟨b.toArray⟩ else none
    | _ => none
  | _ => none
theorem bytes_str {src e dst : TypeId} (hs : P.underlying src = some (.slice e)) (he : P.underlying e = some (.int .u8)) (hd : P.underlying dst = some .string) {l : List T} {bs : List UInt8} (hb : bytesOf l = some bs) {b o c : Nat} {cv : Nat → Value}
    (h1 : ∀ (i : Nat) x, l[i]? = some x → w.cell? ⟨b, o + i, none⟩ = some (cv i)) (h2 : ∀ (i : Nat) x, l[i]? = some x → Rel E w x (cv i)) :
    (convert src dst (.slice (some ⟨b, o, none⟩) l.length c)).run P w = .ok (.string ⟨bs.toArray⟩) w := by
  obtain ⟨hlen, hget⟩ := mapM_get hb
  have := run_convert_bytes_arg (P := P) w src e hs he b o l.length c (bs.map fun b => (b.toNat : Int)) (by simp [hlen]) (fun i hi => by
    obtain ⟨y, hy, hy2⟩ := hget i l[i] (List.getElem?_eq_getElem hi)
    rw [h1 i _ (List.getElem?_eq_getElem hi), (byteOf_val hy (h2 i _ (List.getElem?_eq_getElem hi))).1, List.getD_eq_getElem?_getD, List.getElem?_map, hy2]
    rfl) dst hd
  rw [this, strOfNums_bytes]
  rfl
theorem eStr_sound (st : St E (hget h) L w) {src e dst : TypeId} (hs : P.underlying src = some (.slice e)) (he : P.underlying e = some (.int .u8)) (hd : P.underlying dst = some .string) {a x : T} {u : Value} (ha : Rel E w a u) (hx : eStr a h = some x) :
    ∃ v, (convert src dst u).run P w = .ok v w ∧ Rel E w x v := by
  unfold eStr at hx
  split at hx
  · rename_i l t
    obtain ⟨bs, hb, rfl⟩ := Option.map_eq_some_iff.1 hx
    cases ha with
    | slnil =>
      simp [bytesOf] at hb; subst hb
      exact ⟨_, run_convert_bytes_nil w src e hs he 0 0 dst hd, .v rfl⟩
    | slno h1 h2 h3 ad hkk =>
      simp [bytesOf] at hb; subst hb
      cases ad with
      | none => exact ⟨_, run_convert_bytes_nil w src e hs he 0 _ dst hd, .v rfl⟩
      | some ad =>
        rename_i c
        refine ⟨.string ⟨#[]⟩, ?_, .v rfl⟩
        rw [run_convert_bytes_string w src dst e _ _ c hs he hd]
        exact run_bytesToString w ad 0 c [] (by simp [loadCells, loadCellsFrom])
    | sl cv hk1 hl hc hm htag g1 g2 =>
      obtain ⟨hlen, hgt⟩ := mapM_get hb
      have hcells : l.flatMap T.cells = l := by
        have : ∀ x ∈ l, x.cells = [x] := fun x hx => by
          obtain ⟨i, hi, e⟩ := List.mem_iff_getElem.1 hx
          obtain ⟨y, hy, _⟩ := hgt i x (by rw [← e]; exact List.getElem?_eq_getElem hi)
          unfold byteOf? at hy
          split at hy
          · rfl
          · cases hy
        clear g1 g2 hl hb hgt hlen htag hc hx
        induction l with
        | nil => rfl
        | cons x l ih => rw [List.flatMap_cons, this x (by simp), ih (fun y hy => this y (by simp [hy]))]; rfl
      rw [hcells] at g1 g2
      exact ⟨_, bytes_str hs he hd hb (fun i x hx => (g1 i x hx).2.1) g2, .v rfl⟩
  · rename_i n off len
    split at hx
    · rename_i cs hg
      split at hx
      · rename_i hle
        obtain ⟨bs, hb, rfl⟩ := Option.map_eq_some_iff.1 hx
        cases ha with
        | msl hρ hc hm =>
        rename_i c b0
        obtain ⟨b, vs, e', q1, _, _, _, q2, q3⟩ := st.box_at hg
        rw [hρ] at q1; cases q1
        have hlen : ((cs.drop off).take len).length = len := by rw [List.length_take, List.length_drop]; omega
        have get : ∀ (i : Nat) x, ((cs.drop off).take len)[i]? = some x → cs[off + i]? = some x := fun i x hx => by
          rw [List.getElem?_take] at hx
          split at hx
          · rwa [List.getElem?_drop] at hx
          · cases hx
        have := bytes_str (P := P) (o := off) (c := c) (cv := fun i => vs.getD (off + i) undef) hs he hd hb (fun i x hx => by have := (q2 _ _ (get i x hx)).1; rwa [Nat.zero_add] at this) (fun i x hx => q3 _ _ (get i x hx))
        rw [hlen] at this
        exact ⟨_, this, .v rfl⟩
      · cases hx
    · cases hx
  · cases hx
/-- A text's bytes. -/
def eBytes (x : T) : Option T :=
  match x with
  | .v (.string s) => some (.sl (s.data.toList.map encB) .no)
  | _ => none
theorem getElem_bytesRow {s : ByteArray} {c i : Nat} (hi : i < s.size) : (bytesRow s c)[i]? = some (.int .u8 ((s.data.toList[i]'hi).toNat : Int)) := by
  have hi' : i < s.data.size := hi
  simp [bytesRow, Array.getElem?_append, hi, hi']
theorem eBytes_sound (st : St E G L w) {src dst e : TypeId} (hs : P.underlying src = some .string) (hd : P.underlying dst = some (.slice e)) (he : P.underlying e = some (.int .u8)) {a x : T} {u : Value} (ha : Rel E w a u) (hx : eBytes a = some x) (hsz : ∀ s, u = .string s → s.size ≤ maxLen) :
    ∃ v E' w', (convert src dst u).run P w = .ok v w' ∧ Rel E' w' x v ∧ Walk U E G L w E' G L w' := by
  unfold eBytes at hx
  split at hx
  · rename_i s
    cases hx; cases ha
    have hrun := run_bytes_of_string (P := P) w src dst e s hs hd he
    have hsm := hsz s rfl
    have hcap := grownCap_ge w s.size 0 e
    have hcm := grownCap_le_maxLen w s.size 0 e hsm
    have hk : New w (w.drew.alloc (.cells (bytesRow s (grownCap w s.size 0 e)) e ((bytesRow s (grownCap w s.size 0 e)).size, (bytesRow s (grownCap w s.size 0 e)).size + 1))) := (Keep.refl _ _).drew.alloc _
    have W := Walk.new_frozen (U := U) st hk (b := w.heap.size) (Nat.le_refl _) (by simp)
    refine ⟨_, _, _, hrun, ?_, W⟩
    have hl : (s.data.toList.map encB).length = s.size := by rw [List.length_map]; rfl
    have hfl : (s.data.toList.map encB).flatMap T.cells = s.data.toList.map encB := by
      generalize s.data.toList = l
      induction l with
      | nil => rfl
      | cons x l ih => rw [List.map_cons, List.flatMap_cons, ih]; rfl
    have get : ∀ (i : Nat) x, (s.data.toList.map encB)[i]? = some x → ∃ h : i < s.size, x = encB (s.data.toList[i]'h) := fun i x hx => by
      have hi : i < s.size := by rw [← hl]; exact (List.getElem?_eq_some_iff.1 hx).1
      refine ⟨hi, ?_⟩
      rw [List.getElem?_map, List.getElem?_eq_getElem hi] at hx
      simpa using hx.symm
    have := Rel.sl (E := { E with Z := fun c o => E.Z c o ∨ c = w.heap.size }) (w := w.drew.alloc (.cells (bytesRow s (grownCap w s.size 0 e)) e ((bytesRow s (grownCap w s.size 0 e)).size, (bytesRow s (grownCap w s.size 0 e)).size + 1)))
      (l := s.data.toList.map encB) (t := .no) (b := w.heap.size) (o := 0) (c := grownCap w s.size 0 e) (k := 1) (fun i => .int .u8 ((s.data.toList.getD i 0).toNat : Int)) (by omega) (fun x hx => by
        obtain ⟨y, _, rfl⟩ := List.mem_map.1 hx; rfl) (by rw [hl]; exact hcap) hcm trivial (fun i x hx => by
        rw [hfl] at hx
        obtain ⟨hi, rfl⟩ := get i x hx
        refine ⟨.inr rfl, ?_, rfl⟩
        rw [Nat.zero_add, cell_of_row _ w.heap.size i _ e _ (heap_alloc_new w.drew _), getElem_bytesRow hi, List.getD_eq_getElem?_getD, List.getElem?_eq_getElem hi]
        rfl) (fun i x hx => by
        rw [hfl] at hx
        obtain ⟨hi, rfl⟩ := get i x hx
        rw [List.getD_eq_getElem?_getD, List.getElem?_eq_getElem hi]
        exact .v rfl)
    rwa [hl] at this
  · cases hx
/-- A text as what is appended. -/
theorem str_src {tx : TypeId} (hk : P.underlying tx = some .string) (s : ByteArray) : Go.Src P 1 tx (.string s) (s.data.toList.map encB).length (byteCells s) w ∧ RelL E w ((s.data.toList.map encB).flatMap T.cells) (byteCells s) := by
  have hfl : (s.data.toList.map encB).flatMap T.cells = s.data.toList.map encB := by
    generalize s.data.toList = l
    induction l with
    | nil => rfl
    | cons x l ih => rw [List.map_cons, List.flatMap_cons, ih]; rfl
  refine ⟨?_, by rw [hfl]; simp [byteCells], fun i x u hx hu => ?_⟩
  · rw [List.length_map]; exact Src.ofString w hk s
  · rw [hfl, List.getElem?_map] at hx
    unfold byteCells at hu
    rw [List.getElem?_map] at hu
    obtain ⟨y, hy, rfl⟩ := Option.map_eq_some_iff.1 hx
    obtain ⟨z, hz, rfl⟩ := Option.map_eq_some_iff.1 hu
    rw [hy] at hz; cases hz
    exact .v rfl

/-! ### make -/
theorem madeCells_get {z : Array Value} {n i : Nat} (hi : i < n) (hz : 0 < z.size) : (madeCells z n)[i]? = z[i % z.size]? := by
  have hm : i % z.size < z.size := Nat.mod_lt _ hz
  simp [madeCells, hi, hm]
theorem rep_made {zero : T} {z : Value} {k : Nat} (hk : 0 < k) (hzk : z.cells.size = k) (hzero : RelL E w zero.cells z.cells.toList) (n c : Nat) (hc : n ≤ c) : RelP E w ((List.replicate n zero).flatMap T.cells) (madeCells z.cells (c * k)).toList := by
  have hzl : zero.cells.length = k := by rw [← hzero.1]; simpa using hzk
  have hu : ∀ x ∈ List.replicate n zero, x.cells.length = k := fun x hx => by rw [(List.mem_replicate.1 hx).2]; exact hzl
  have hfl := flat_length hu
  rw [List.length_replicate] at hfl
  have hnc : n * k ≤ c * k := Nat.mul_le_mul_right _ hc
  refine ⟨by rw [hfl]; simpa [size_madeCells] using hnc, fun i x u hx hu' => ?_⟩
  have hi : i < n * k := by rw [← hfl]; exact (List.getElem?_eq_some_iff.1 hx).1
  have hd : i / k < n := Nat.div_lt_of_lt_mul (by rw [Nat.mul_comm]; exact hi)
  have hx' := flat_get hu (j := i / k) (x := zero) (by rw [List.getElem?_replicate, if_pos hd]) (Nat.mod_lt i hk)
  rw [Nat.mul_comm, Nat.div_add_mod] at hx'
  rw [hx] at hx'
  rw [Array.getElem?_toList, madeCells_get (by omega) (by omega), hzk] at hu'
  exact hzero.2 _ x u hx'.symm (by simpa using hu')
theorem made_one {z : Value} {n : Nat} (h : ∀ u ∈ z.cells.toList, u.oneCell' = true) (hz : 0 < z.cells.size) : ∀ u ∈ (madeCells z.cells n).toList, u.oneCell' = true := by
  intro u hu
  obtain ⟨i, hi, e⟩ := List.mem_iff_getElem.1 hu
  have hi' : i < n := by simpa [size_madeCells] using hi
  have : (madeCells z.cells n)[i]? = some u := by rw [← e]; simp
  rw [madeCells_get hi' hz] at this
  exact h u (by have := Array.mem_of_getElem? this; simpa using this)
def eMake (k lim : Nat) (nm : Name) (zero l c : T) (h : Heap) (live : List Name) : Option (T × Heap × List Name) :=
  (tle lim c).bind fun c => (tle c l).bind fun l =>
    if l = 0 then some (.sl [] (.own nm k), h, nm :: live) else some (.msl nm 0 l, hnew h nm (.box ((List.replicate l zero).flatMap T.cells)), live)
theorem eMake_sound {live live' : List Name} {h' : Heap} (st : St E (hget h) (· ∈ live) w) {t e : TypeId} {i : TypeInfo} {z : Value} {k lim : Nat} {zero : T} (ht : P.underlying t = some (.slice e)) (hi : P.info? e = some i) (hz : i.zero = some z) (hik : i.size = k) (hzk : z.cells.size = k) (hk : 0 < k)
    (hzero : RelL E w zero.cells z.cells.toList) (hz1 : ∀ u ∈ z.cells.toList, u.oneCell' = true) (hlim : lim * i.bytes ≤ 140737488355328) (hlim2 : lim ≤ maxLen) {nm : Name} (hnτ : E.τ nm = none) (hnρ : E.ρ nm = none) (hU : U nm) {l c x : T} {ul uc : Value} (hl : Rel E w l ul) (hc : Rel E w c uc)
    (hx : eMake k lim nm zero l c h live = some (x, h', live')) :
    ∃ v E' w', (Instr.makeSlice t ul uc).run P w = .ok v w' ∧ Rel E' w' x v ∧ Walk U E (hget h) (· ∈ live) w E' (hget h') (· ∈ live') w' := by
  subst hik
  obtain ⟨cn, hcn, hx⟩ := Option.bind_eq_some_iff.1 hx
  obtain ⟨ln, hln, hx⟩ := Option.bind_eq_some_iff.1 hx
  obtain ⟨kc, zc, rfl, c0, c1, c2, c3⟩ := tle_sound hcn hc
  obtain ⟨kl, zl, rfl, l0, l1, l2, l3⟩ := tle_sound hln hl
  have hbn : cn * i.bytes ≤ 140737488355328 := Nat.le_trans (Nat.mul_le_mul_right _ c3) hlim
  have hb : (i.bytes : Int) * zc ≤ 281474976710656 := by
    have e : zc = (cn : Int) := by omega
    rw [e, ← Int.natCast_mul, Nat.mul_comm]; omega
  have hmx : cn ≤ maxLen := Nat.le_trans c3 hlim2
  have hrun := run_make (P := P) w t e i z ht hi hz kl kc zl zc l0 (by omega) hb (by simp only [maxLen] at hmx; omega)
  rw [l2, c2] at hrun
  have hk0 : New w (w.alloc (.cells (madeCells z.cells (cn * i.size)) e)) := (Keep.refl _ _).alloc _
  split at hx
  · rename_i hl0
    subst hl0
    cases hx
    obtain ⟨E', hr, hw⟩ := new_row (U := U) st hk0 hnτ hU hk (l := []) (us := []) (c := cn) (by simp) (RelL.nil _ _) (by simp) (b := w.heap.size) (Nat.le_refl _) (heap_alloc_new w _) (by simp) (by simp) hmx (by rw [size_madeCells]; exact Nat.le_refl _)
    exact ⟨_, E', _, hrun, hr, hw.less (fun _ _ h => h) (fun x hx => by simp at hx; exact hx.symm)⟩
  · cases hx
    have W := Walk.alloc_blk (U := U) st hnρ hU (.box ((List.replicate ln zero).flatMap T.cells)) (.cells (madeCells z.cells (cn * i.size)) e) (fun cs e2 => by
      cases e2
      exact ⟨_, _, rfl, rep_made hk hzk hzero ln cn l3, made_one hz1 (by omega)⟩) (fun _ _ e2 => by cases e2)
    rw [← hget_hnew_fun] at W
    exact ⟨_, _, _, hrun, .msl (by simp) l3 hmx, W⟩

/-! ### copy -/
def eCopy (k : Nat) (d : T) (m : List T) (h : Heap) : Option (T × Heap) :=
  match d with
  | .msl n off len =>
    match hget h n with
    | some (.box cs) => if kl k m = true ∧ off + (min m.length len) * k ≤ cs.length then some (tI (min m.length len : Nat), hset h n (.box (putAt cs off ((m.take (min m.length len)).flatMap T.cells)))) else none
    | _ => none
  | _ => none
theorem Rel.take {l : List T} {t : Tag} {ad : Option Addr} {n c : Nat} (hr : Rel E w (.sl l t) (.slice ad n c)) {k : Nat} (hk : ∀ x ∈ l, x.cells.length = k) (hk0 : 0 < k) (q : Nat) (hq : q ≤ l.length) : Rel E w (.sl (l.take q) .no) (.slice ad q c) := by
  have hn : n = l.length ∧ l.length ≤ c ∧ c ≤ maxLen := by
    cases hr with
    | slnil => simp [maxLen]
    | slno h1 h2 h3 h4 => exact ⟨rfl, Nat.zero_le _, h2⟩
    | sl cv hk1 hl hc hm htag g1 g2 => exact ⟨rfl, hc, hm⟩
  obtain ⟨rfl, hc, hm⟩ := hn
  by_cases ht : t = .nil
  · subst ht
    cases hr with
    | slnil => simp at hq; subst hq; exact .slno (t := .no) (by simp) (by simp [maxLen]) (by simp) _ (by simp)
    | slno h1 _ _ _ => exact absurd rfl h1
    | sl cv hk1 hl hc hm htag g1 g2 => exact htag.elim
  · have := Rel.sub (a := 0) (b := q) (c' := c) (ad' := ad) hr hk hk0 ht (Nat.zero_le _) hq (by omega) hm (fun _ => by cases ad <;> simp [Addr.add])
    simpa using this
theorem eCopy_sound (st : St E (hget h) L w) {dT sT ty e : TypeId} {i : TypeInfo} {k : Nat} (hd : P.underlying dT = some (.slice e)) (hs : P.underlying sT = some (.slice e)) (hi : P.info? e = some i) (hik : i.size = k) (hk : 0 < k) {d x : T} {m : List T} {t : Tag} {u v : Value} {h' : Heap}
    (hu : Rel E w d u) (hv : Rel E w (.sl m t) v) (hx : eCopy k d m h = some (x, h')) :
    ∃ r w', (Builtin.copy_ #[dT, sT] ty #[u, v]).run P w = .ok r w' ∧ Rel E w' x r ∧ Walk U E (hget h) L w E (hget h') L w' := by
  subst hik
  unfold eCopy at hx
  split at hx
  · rename_i n off len
    split at hx
    · rename_i cs hg
      split at hx
      · rename_i hc
        obtain ⟨hkl, hle⟩ := hc
        rw [kl_iff] at hkl
        cases hx
        cases hu with
        | msl hρ hc hm =>
        rename_i c b0
        have hshape : ∃ ad cc, v = .slice ad m.length cc := by
          cases hv with
          | slnil => exact ⟨_, _, rfl⟩
          | slno h1 h2 h3 h4 => exact ⟨_, _, rfl⟩
          | sl cv hk1 hl hc hm htag g1 g2 => exact ⟨_, _, rfl⟩
        obtain ⟨ad, cc, rfl⟩ := hshape
        have hv' := Rel.take hv hkl hk (min m.length len) (Nat.min_le_left _ _)
        have hml : (m.take (min m.length len)).length = min m.length len := by rw [List.length_take]; omega
        obtain ⟨news, hsrc, hnews⟩ := sl_src (k := i.size) st hs (fun x hx => hkl x (List.mem_of_mem_take hx)) hv'
        rw [hml] at hsrc
        have hfc : (Builtin.firstCells i.size (min m.length len) (.slice ad m.length cc)).run P w = .ok news.toArray w := by
          have := hsrc.cells
          cases ad <;> simpa [Builtin.firstCells] using this
        obtain ⟨w', hst, hw⟩ := write_sound (P := P) (U := U) st hg hρ hnews hsrc.one (off := off) (by rw [flat_length (k := i.size) (fun x hx => hkl x (List.mem_of_mem_take hx)), hml]; exact hle)
        refine ⟨.int .i64 (min m.length len : Nat), w', ?_, .v rfl, hw⟩
        have hmin : Nat.min m.length len = min m.length len := rfl
        simp only [Builtin.copy_, List.getElem?_toArray, List.getElem?_cons_zero, List.getElem?_cons_succ, Sem.run_bind, run_underlying hd, Result.andThen_ok, Builtin.lenOf, Sem.run_pure, sizeOf, typeInfo, run_program, hi, hmin, hfc, hst, goInt]
      · cases hx
    · cases hx
  · cases hx
end
end Go.AE
