/- 'linkboylaw14.EventWords' returns true for every input, and its argument reads behind the call as it read before. Conditions: the listed package-level variables (api.ErrRange, ErrLong, ErrForm, ErrKind, ErrVersion, event.words, and two tables of unicode/utf8) hold what the program's text lays; the card ties them. -/
import Derived.Test.YtlkofikfmihlbaaGreatDoorWordsRows1
import Derived.Test.YtlkofikfmihlbaaGreatDoorTop
import Derived.Test.YtlkofikfmihlbaaGreatDoorCards
import Derived.Test.YtlkofikfmihlbaaGreatDoorTie
import Derived.MakeChecks
import Derived.Lib.AppendZerosOnto
set_option linter.unusedVariables false
set_option linter.unusedSimpArgs false
set_option maxHeartbeats 1000000
namespace Go.LB
/-- append by its run. -/
theorem wpList_append_run {P : Program} {w w' : World} {ops : Array Oper} {rest : List Oper} {o : Oper} {a : Act} {Q : Exit → Act → World → Prop} {v x v' : Value} {ts : Array TypeId} {ty : TypeId}
    (hg : o.guard = none) (s y : Operand) (hop : o.op = Op.call { callee := Callee.builtin Builtin.append, args := #[s, y], argTypes := ts }) (ht : o.type = ty) (hs : a.eval s = v) (hx : a.eval y = x)
    (hrun : (Builtin.append_ ts ty #[v, x]).run P w = .ok v' w') (hK : wpList P ops Q rest (a.put o.dst v') w') : wpList P ops Q (o :: rest) a w := by
  refine wpList_plain hg fun K hK' => ?_
  subst ht
  unfold Oper.wp execOp
  simp only [hop, resolve, invoke, builtin, Sem.run_bind, Sem.run_pure, Result.andThen_ok, List.map_toArray, List.map_cons, List.map_nil, hs, hx, hrun]
  exact hK' _ _ hK
end Go.LB
namespace Go.AE.Words
open Go.RowKit Go.LB Go.ChangeShapes Go.WideShapes Go.ChangeAt Go.Proofs Go.Proofs.YtlkofikfmihlbaaGreatDoor
open Go (Act)

set_option maxRecDepth 100000 in
theorem grow_any (n : Nat) (w : World) (h0 : 0 < n) (hn : n ≤ 1048576) :
    Calls Tryz.prog 180 #[.slice none 0 0, .int .i64 (n : Int)] w fun e w' => ∃ v g, e = .returned v ∧ Own w' (fun _ => False) 5 (some g) ([] : List UInt8) v ∧ New w w' ∧ w.heap.size ≤ g := by
  have hrun : ∃ v w', (Builtin.append_ #[68, 3] 68 #[.slice none 0 0, .int .i64 (n : Int)]).run Tryz.prog w = .ok v w' ∧ ∃ (c : Nat) (cur : Array Value), v = .slice (some ⟨w.heap.size, 0, none⟩) n c ∧ n ≤ c ∧ c ≤ maxLen ∧ cur.size = c ∧ w'.heap[w.heap.size]? = some (.cells cur 5 (0, 0)) ∧ New w w' := by
    obtain ⟨i, hi, hz⟩ : ∃ i, Tryz.prog.info? 5 = some i ∧ (i.zero, i.size, i.bytes) = (some (.int .u8 0), 1, 1) := by
      have : (Tryz.prog.info? 5).map (fun i => (i.zero, i.size, i.bytes)) = some (some (.int .u8 0), 1, 1) := by kernel_rfl
      obtain ⟨i, h1, h2⟩ := Option.map_eq_some_iff.1 this
      exact ⟨i, h1, h2⟩
    obtain ⟨z1, z2, z3⟩ : i.zero = some (.int .u8 0) ∧ i.size = 1 ∧ i.bytes = 1 := by simpa using hz
    have h := Go.Lib.run_append_grow_zeros (P := Tryz.prog) w 68 3 68 5 i (.int .u8 0) .i64 .i64 Tryz.underlying68 Tryz.underlying3 hi z1 none 0 0 [] (by simp [Builtin.firstCells]) n h0 (by omega) (by omega) (by omega) (by rw [z3]; omega) (growslice_fits (by omega) (by rw [z3]; omega))
    have hge := grownCap_ge w (0 + n) 0 5
    have hle := grownCap_le_maxLen w (0 + n) 0 5 (by simp only [maxLen]; omega)
    refine ⟨_, _, h, _, _, by rw [Nat.zero_add], by omega, hle, ?_, heap_alloc_new w.drew _, ((Keep.refl _ _).drew).alloc _⟩
    rw [Nat.zero_add] at hge
    simp [size_zeroCells, Value.cells]
    omega
  obtain ⟨v, w', hrun, c, cur, rfl, h1, h2, h3, h4, k⟩ := hrun
  refine calls_hide fun R hR => ?_
  go_enter Tryz.func180, Tryz.ntmps180
  go_wp2_with (at_builtin; refine wpList_append_run rfl _ _ rfl rfl rfl rfl hrun ?_)
  exact hR.out _ _ ⟨_, w.heap.size, rfl, .inr ⟨_, c, cur, [], rfl, rfl, Nat.zero_le _, h2, h4, by rw [h3]; exact (Nat.mul_one c).symm, rfl, rfl⟩, k, Nat.le_refl _⟩

theorem mixed : C.P.follows .mixedOrders = true := by kernel_rfl
theorem enter {f : FuncId} {fn : Func} (h : Tryz.prog.funcs[f]? = some fn) (h1 : (fn.name == "runtime.NumGoroutine") = false) (h2 : fn.body.isNone = false) : Enterable C.P f := ⟨fn, h, h1, h2⟩
theorem cok : COk C where
  pts := fun t ht => by
    obtain rfl : t = 296 := by simpa [C] using ht
    obtain ⟨i, hi, hcmp⟩ := Option.map_eq_some_iff.1 (show (Tryz.prog.info? 296).map (·.comparable) = some true by kernel_rfl)
    obtain ⟨j, hj, hjs⟩ := Option.map_eq_some_iff.1 (show (Tryz.prog.info? 321).map (·.size) = some 1 by kernel_rfl)
    exact ⟨i, _, j, hi, hcmp, Tryz.underlying296, hj, by omega⟩
  ora := fun f g hg => by
    simp only [C] at hg
    split at hg
    · rename_i e
      subst e
      cases hg
      exact grow_snd (enter Tryz.func180 (by kernel_rfl) (by kernel_rfl)) grow_any
    · cases hg
theorem tok : TabOk C (DrawOk C) tab := tab_ok mixed

set_option maxRecDepth 100000 in
theorem alive_ev : evF C tab 300 35 [1, 0] [] [] = some (.v (.bool true), []) := by kernel_rfl
theorem alive_w : evW C tab 35 [1, 0] [] [] = some (.v (.bool true), []) := evW_iff.2 ⟨300, alive_ev⟩
theorem within (nm : Name) (k : Int) : evW C tab 103 nm [.v (.int .i64 k)] [] = some (.v (.bool (decide (1 ≤ k) && decide (k ≤ 9))), []) := by
  rw [ev_fn tab103]
  by_cases h : 1 ≤ k <;> simp [r103, h, tB, ev_seq, ev_reg, ev_cond, ev_block, sq_nil, sq_op, sq_gd, gd, evR, eO, eOs, eQs, ePs, fget, fset, put, argF, tbin, isB, tB, tI, tS, fnK_ret, fnK_norm, eRVs, eRV, finF, keepN, ptrR2, ptrR1, ptrR0, topOf, dropK, pushK, pushL, sealT, seal0, seal1, tupOf, condK_true, condK_false, seqK_norm, seqK_ret, seqK_exit, blkK_norm, blkK_ret, blkK_exit, regK_some, opK_some, gdK_true, gdK_false, tun, freeK_some, toksU, toks, strip, strip1]
theorem word_out (nm : Name) (k : Int) (h : ¬ (1 ≤ k ∧ k ≤ 9)) : evW C tab 36 nm [.v (.int .i64 k)] [] = some (.v (.string ⟨⟨[]⟩⟩), []) := by
  have hb : (decide (1 ≤ k) && decide (k ≤ 9)) = false := by simp; omega
  rw [ev_fn tab36]
  simp [r36, call103, within, hb, ev_seq, ev_reg, ev_cond, ev_block, sq_nil, sq_op, sq_gd, gd, evR, eO, eOs, eQs, ePs, fget, fset, put, argF, tbin, isB, tB, tI, tS, fnK_ret, fnK_norm, eRVs, eRV, finF, keepN, ptrR2, ptrR1, ptrR0, topOf, dropK, pushK, pushL, sealT, seal0, seal1, tupOf, condK_true, condK_false, seqK_norm, seqK_ret, seqK_exit, blkK_norm, blkK_ret, blkK_exit, regK_some, opK_some, gdK_true, gdK_false, tun, freeK_some, toksU, toks, strip, strip1]
theorem law_ev (k : Int) : ∃ h, evW C tab 6 [] [.v (.int .i64 k)] [] = some (.v (.bool true), h) := by
  have conc : ∀ k : Int, evF C tab 300 6 [] [.v (.int .i64 k)] [] = some (.v (.bool true), []) → ∃ h, evW C tab 6 [] [.v (.int .i64 k)] [] = some (.v (.bool true), h) := fun k h => ⟨[], evW_iff.2 ⟨300, h⟩⟩
  by_cases h1 : 1 ≤ k
  · by_cases h9 : k ≤ 9
    · have : k = 1 ∨ k = 2 ∨ k = 3 ∨ k = 4 ∨ k = 5 ∨ k = 6 ∨ k = 7 ∨ k = 8 ∨ k = 9 := by omega
      rcases this with rfl | rfl | rfl | rfl | rfl | rfl | rfl | rfl | rfl
      · exact conc 1 (by kernel_rfl)
      · exact conc 2 (by kernel_rfl)
      · exact conc 3 (by kernel_rfl)
      · exact conc 4 (by kernel_rfl)
      · exact conc 5 (by kernel_rfl)
      · exact conc 6 (by kernel_rfl)
      · exact conc 7 (by kernel_rfl)
      · exact conc 8 (by kernel_rfl)
      · exact conc 9 (by kernel_rfl)
    · refine ⟨[], ?_⟩
      rw [ev_fn tab6]
      simp [r6, h1, h9, call35, call36, alive_w, within, word_out, ev_seq, ev_reg, ev_cond, ev_block, sq_nil, sq_op, sq_gd, gd, evR, eO, eOs, eQs, ePs, fget, fset, put, argF, tbin, isB, tB, tI, tS, fnK_ret, fnK_norm, eRVs, eRV, finF, keepN, ptrR2, ptrR1, ptrR0, topOf, dropK, pushK, pushL, sealT, seal0, seal1, tupOf, condK_true, condK_false, seqK_norm, seqK_ret, seqK_exit, blkK_norm, blkK_ret, blkK_exit, regK_some, opK_some, gdK_true, gdK_false, tun, freeK_some, toksU, toks, strip, strip1]
  · refine ⟨[], ?_⟩
    rw [ev_fn tab6]
    simp [r6, h1, call35, call36, alive_w, within, word_out, ev_seq, ev_reg, ev_cond, ev_block, sq_nil, sq_op, sq_gd, gd, evR, eO, eOs, eQs, ePs, fget, fset, put, argF, tbin, isB, tB, tI, tS, fnK_ret, fnK_norm, eRVs, eRV, finF, keepN, ptrR2, ptrR1, ptrR0, topOf, dropK, pushK, pushL, sealT, seal0, seal1, tupOf, condK_true, condK_false, seqK_norm, seqK_ret, seqK_exit, blkK_norm, blkK_ret, blkK_exit, regK_some, opK_some, gdK_true, gdK_false, tun, freeK_some, toksU, toks, strip, strip1]
/-! The row. -/
theorem own : ownKnob Tryz.prog.godebug = none := by kernel_rfl
theorem laidOut : laidOutB Tryz.prog = true := by kernel_rfl
theorem star : "*" ++ "errors.errorString" = "*errors.errorString" := by decide
theorem errRow (u : TypeId) (h : Tryz.prog.typeName? 3 u = some "*errors.errorString") : u = 296 :=
  typeName_ptr_named (nm := "errors.errorString") (by rw [star]; kernel_rfl) (by kernel_rfl) (by decide) u (by rw [star]; exact h)
def ns : List (Nat × String × List UInt8) := [(0, "linkboy/api.ErrRange", [97, 32, 110, 117, 109, 98, 101, 114, 32, 105, 115, 32, 111, 117, 116, 32, 111, 102, 32, 105, 116, 115, 32, 114, 97, 110, 103, 101]), (2, "linkboy/api.ErrLong", [116, 104, 101, 114, 101, 32, 105, 115, 32, 109, 111, 114, 101, 32, 116, 104, 97, 110, 32, 109, 97, 121, 32, 98, 101]), (3, "linkboy/api.ErrForm", [105, 116, 32, 105, 115, 32, 110, 111, 116, 32, 111, 102, 32, 105, 116, 115, 32, 102, 111, 114, 109]), (6, "linkboy/api.ErrKind", [105, 116, 32, 105, 115, 32, 111, 102, 32, 97, 110, 111, 116, 104, 101, 114, 32, 107, 105, 110, 100]), (8, "linkboy/api.ErrVersion", [116, 104, 101, 32, 118, 101, 114, 115, 105, 111, 110, 32, 105, 115, 32, 110, 111, 116, 32, 111, 110, 101])]
def texts : List (List UInt8) := [[], [112, 117, 116, 45, 115, 101, 114, 118, 105, 99, 101], [112, 117, 116, 45, 115, 108, 105, 99, 101], [112, 117, 116, 45, 110, 111, 100, 101], [100, 114, 111, 112, 45, 115, 101, 114, 118, 105, 99, 101], [100, 114, 111, 112, 45, 115, 108, 105, 99, 101], [100, 114, 111, 112, 45, 110, 111, 100, 101], [98, 111, 111, 107, 109, 97, 114, 107], [114, 101, 108, 105, 115, 116], [108, 105, 115, 116, 101, 100]]
theorem listed {W : World} (h : laidMetH Tryz.prog Rows.eventWordsRow.laid W) : ∃ ad, Sents 296 ad (ns.map (·.1)) W ∧ LaidOk C.laid (E0 ad (ns.map (·.1)) W) W := by
  have h0 : laidMet Tryz.prog Rows.eventWordsRow.laid W := by
    rw [← MakeChecks.laidMetH_plain Tryz.prog Rows.eventWordsRow.laid W (by kernel_rfl)]; exact h
  have hs := laid_strings (texts := texts) h0.tail.tail.tail.tail.tail.tail (show Tryz.prog.globalNamed "linkboy/event.words" = some 18 by kernel_rfl) (show _ = some 152 by kernel_rfl) Tryz.underlying152 Tryz.underlying9 (by kernel_rfl)
  obtain ⟨ad, hS⟩ := sents_of Tryz.underlying44 errRow Tryz.underlying296 Tryz.underlying321 rfl rfl Tryz.underlying9 (by kernel_rfl) (by kernel_rfl) h0 ns (by
    intro x hx
    simp only [ns, List.mem_cons, List.not_mem_nil, or_false] at hx
    rcases hx with rfl | rfl | rfl | rfl | rfl
    · exact ⟨List.mem_of_getElem? (i := 1) rfl, by kernel_rfl, by kernel_rfl⟩
    · exact ⟨List.mem_of_getElem? (i := 2) rfl, by kernel_rfl, by kernel_rfl⟩
    · exact ⟨List.mem_of_getElem? (i := 3) rfl, by kernel_rfl, by kernel_rfl⟩
    · exact ⟨List.mem_of_getElem? (i := 4) rfl, by kernel_rfl, by kernel_rfl⟩
    · exact ⟨List.mem_of_getElem? (i := 5) rfl, by kernel_rfl, by kernel_rfl⟩) (by decide) (by decide)
  refine ⟨ad, hS, fun g cs hg => ?_⟩
  simp only [C] at hg
  split at hg
  · rename_i hk
    cases hg
    exact rel_sent hS (by simpa [ns] using hk)
  · split at hg
    · rename_i e
      subst e
      cases hg
      exact rel_texts (texts := texts) hs
    · cases hg
set_option maxRecDepth 100000 in
theorem contract (H : Type) (enc : TypeId × Value → H) (W : World) (base : Nat) (args : Array Value) (ds gs : List (DataW H)) (before : List MemPlace)
    (hval : ∀ (j : Nat) t v, Tryz.f6.params[j]? = some t → args[j]? = some v → Value.okWide Tryz.prog W .any base t v)
    (hW : DataW.Whole enc Tryz.prog Tryz.f6.params.toList Rows.eventWordsSpec.vars false W args.toList ds gs before) (hL : laidMetH Tryz.prog Rows.eventWordsRow.laid W) :
    Calls Tryz.prog 6 args W fun e W' => ∃ v, e = .returned v ∧ Rows.eventWordsSpec.post enc Tryz.prog Tryz.f6 false true false false W args v W' := by
  have hW' := hW
  obtain ⟨p, q, hA0, hV, rfl, hfz, hnd⟩ := hW
  have hA : DataW.TrodAll enc Tryz.prog W 0 (fun _ => true) true Tryz.f6.params.toList args.toList ds p := hA0
  rw [Tryz.params6] at hA hval
  obtain ⟨v0, vs0, d0, ds0, p0, q0, hargs, rfl, rfl, h0, r0⟩ := trodAll_cons hA
  obtain ⟨rfl, rfl, rfl⟩ := trodAll_nil r0
  obtain rfl : args = #[v0] := by cases args; simp_all
  obtain ⟨rfl, rfl⟩ := trodVars_none hV
  obtain ⟨n, rfl, rfl, rfl, wf⟩ := open_int Tryz.underlying3 (hval 0 3 v0 rfl rfl) h0
  have hn : -9223372036854775808 ≤ n ∧ n ≤ 9223372036854775807 := by simpa [Lit.wf, IntKind.min, IntKind.max, IntKind.signed, IntKind.bits] using wf
  obtain ⟨ad, hS, hLa⟩ := listed hL
  obtain ⟨h', hev⟩ := law_ev n
  refine (law_top cok tok hev (hS.pre hLa []) (vs := #[.int .i64 n]) (RelL.cons (.v rfl) (RelL.nil _ _))).mono fun e W' ⟨he, hk⟩ => ?_
  subst he
  exact ⟨_, rfl, post_law laidOut (by kernel_rfl) rfl Tryz.underlying4 rfl ⟨rfl, rfl, rfl⟩ hW' hk⟩

theorem laid_met (os : Os) : laidMetH Tryz.prog Rows.eventWordsRow.laid ((World.laidAll Tryz.prog os Rows.eventWordsRow.laid).forCall (fun _ _ => 0) ⟨#[], #[.int .i64 0], []⟩).memory :=
  by rw [MakeChecks.laidMetH_plain _ _ _ (by kernel_rfl)]; exact laidMet_laidAll _ (by kernel_rfl) (by kernel_rfl)
theorem reads (os : Os) {H : Type} (enc : TypeId × Value → H) : ∃ places, DataW.whole enc Tryz.prog ((World.laidAll Tryz.prog os Rows.eventWordsRow.laid).forCall (fun _ _ => 0) ⟨#[], #[.int .i64 0], []⟩).memory Tryz.f6.params.toList Rows.eventWordsSpec.vars false #[Value.int .i64 0].toList 8 = some ([.lit (.int .i64 0)], [], places) :=
  ⟨[], by kernel_rfl⟩

set_option maxRecDepth 100000 in
theorem lifted (os : Os) (started : os.Started) (H : Type) (enc : TypeId × Value → H) (F : Stop.Interp) :
    ReturnsInHanded {} Tryz.checked os 6 .any ((OpenSpec.ofChange Rows.eventWordsSpec).preRow enc Tryz.prog Tryz.f6 Rows.eventWordsRow.domain false Rows.eventWordsRow.laid) (((OpenSpec.ofChange Rows.eventWordsSpec).at F).post enc Tryz.prog Tryz.f6 false true false false) := by
  obtain ⟨places, hx⟩ := reads os enc
  refine returnsInHanded_of_row (C := Tryz.checked) (s := OpenSpec.ofChange Rows.eventWordsSpec) own started (by kernel_rfl) Tryz.func6
    (witness_row_shaped (enc := enc) (C := Tryz.checked) false (World.laidAll Tryz.prog os Rows.eventWordsRow.laid) #[.int .i64 0] (World.laidAll_os _ _ _) (World.shaped_of_ZipB (by kernel_rfl) (by kernel_rfl)) (by kernel_rfl)
      (OpenSpec.preRow_of_cond 8 hx (by kernel_rfl) (fun k hk => by cases hk) (by kernel_rfl) (laid_met os))) ?_
  intro W base args ds gs before hval hW _ _ _ hL _ _
  exact contract H enc W base args ds gs before hval hW hL

theorem said : Rows.EventWordsSaid :=
  OpenClaim.holds_of_cond 6 Tryz.f6 rfl rfl rfl rfl rfl rfl rfl ⟨rfl, rfl, rfl, rfl, rfl⟩ rfl rfl rfl rfl rfl (by kernel_rfl) Tryz.func6 (by kernel_rfl)
    (of_decide_eq_true (by kernel_rfl)) (by unfold Func.isWrapper; first | (rw [if_pos (by decide +kernel)]; kernel_rfl) | (rw [if_neg (by decide +kernel)]; exact ⟨rfl, rfl⟩))
    (fun os started H enc _ F => by rw [OpenClaim.pre_eq_preRow]; exact lifted os started H enc F)

theorem plain (f : FuncId) (fn : Func) (hf : Tryz.pinned.checked.prog.funcNamed "linkboy/linkboylaw14.EventWords" = some f) (hfn : Tryz.pinned.checked.prog.funcs[f]? = some fn) :
    true = Tryz.pinned.checked.prog.looks [] ∧ ∀ (j : Nat) t, fn.params[j]? = some t → Tryz.pinned.checked.prog.wantsStandIn t = false := by
  obtain rfl : f = 6 := Option.some.inj ((show Tryz.prog.funcNamed "linkboy/linkboylaw14.EventWords" = some 6 by kernel_rfl).symm.trans hf) |>.symm
  obtain rfl : fn = Tryz.f6 := (Option.some.inj (Tryz.func6.symm.trans hfn)).symm
  refine ⟨by kernel_rfl, fun j t ht => ?_⟩
  rw [Tryz.params6] at ht
  obtain rfl : t = 3 := by simpa using Array.mem_of_getElem? ht
  exact (show Tryz.prog.wantsStandIn 3 = false by kernel_rfl)

theorem card : Rows.EventWordsCardSaid :=
  Claim7.holds_tied_plain_at .later [] _ _ _ _ said (fun _ h => by cases h) (by kernel_rfl) (fun _ h => by cases h) eventWords_row_tie rfl ⟨rfl, rfl⟩ (by kernel_rfl) rfl plain (by kernel_rfl)
end Go.AE.Words
namespace Go.Proofs.YtlkofikfmihlbaaGreatDoor.Words
theorem card : Rows.EventWordsCardSaid := Go.AE.Words.card
#print axioms card
end Go.Proofs.YtlkofikfmihlbaaGreatDoor.Words
