/- 'linkboylaw42.WatchKeeps' returns true for every input, and its argument reads behind the call as it read before. Conditions: the listed package-level variables (api.ErrRange, ErrForm, ErrStale, ErrState, watch.words, and two tables of unicode/utf8) hold what the program's text lays; the card ties them. -/
import Derived.Test.YtohbipkmfhmibaaGreatDoorK12
import Derived.Test.YtohbipkmfhmibaaGreatDoorTop
import Derived.Test.YtohbipkmfhmibaaGreatDoorCards
import Derived.Test.YtohbipkmfhmibaaGreatDoorTie
import Derived.MakeChecks
set_option linter.unusedVariables false
set_option linter.unusedSimpArgs false
set_option maxHeartbeats 1000000
namespace Go.AE.W
open Go.RowKit Go.LB Go.ChangeShapes Go.WideShapes Go.ChangeAt Go.Proofs Go.Proofs.YtohbipkmfhmibaaGreatDoor

theorem mixed : C.P.follows .mixedOrders = true := by kernel_rfl
theorem cok : COk C where
  pts := fun t ht => by
    obtain rfl : t = 295 := by simpa [C] using ht
    obtain ⟨i, hi, hcmp⟩ := Option.map_eq_some_iff.1 (show (Tryz.prog.info? 295).map (·.comparable) = some true by kernel_rfl)
    obtain ⟨j, hj, hjs⟩ := Option.map_eq_some_iff.1 (show (Tryz.prog.info? 320).map (·.size) = some 1 by kernel_rfl)
    exact ⟨i, _, j, hi, hcmp, Tryz.underlying295, hj, by omega⟩
  ora := fun f g hg => by simp [C] at hg
theorem tok : TabOk C (DrawOk C) tab := tab_ok mixed
/-! What the types' values open to. -/
theorem oB : Opens Tryz.prog Bool 4 := Opens.bool Tryz.underlying4 (by kernel_rfl)
theorem oI : Opens Tryz.prog Int 3 := Opens.int Tryz.underlying3 (by kernel_rfl)
theorem oZ : Opens Tryz.prog ByteArray 9 := Opens.str Tryz.underlying9 (by kernel_rfl)
theorem o8 : Opens Tryz.prog UInt8 5 := Opens.byte Tryz.underlying5 (by kernel_rfl)
theorem o16 : Opens Tryz.prog (Fix 16 UInt8) 132 := Opens.array Tryz.underlying132 (by kernel_rfl) o8
theorem oA : Opens Tryz.prog EA 134 := Opens.struct Tryz.underlying134 (by kernel_rfl) (OpensFields.cons oB rfl (OpensFields.one o16))
theorem oC : Opens Tryz.prog EC 193 := Opens.struct Tryz.underlying193 (by kernel_rfl) (OpensFields.cons oA rfl (OpensFields.one oI))
theorem oP : Opens Tryz.prog EP 151 := Opens.struct Tryz.underlying151 (by kernel_rfl) (OpensFields.cons oZ rfl (OpensFields.cons oI rfl (OpensFields.cons oI rfl (OpensFields.one oI))))
theorem oK : Opens Tryz.prog EK 27 := Opens.struct Tryz.underlying27 (by kernel_rfl) (OpensFields.cons oZ rfl (OpensFields.one oZ))
theorem oAs : Opens Tryz.prog (List EA) 28 := Opens.slice Tryz.underlying28 (by kernel_rfl) (by decide) oA
theorem oCs : Opens Tryz.prog (List EC) 29 := Opens.slice Tryz.underlying29 (by kernel_rfl) (by decide) oC
theorem oPs : Opens Tryz.prog (List EP) 30 := Opens.slice Tryz.underlying30 (by kernel_rfl) (by decide) oP
theorem oZs : Opens Tryz.prog (List ByteArray) 152 := Opens.slice Tryz.underlying152 (by kernel_rfl) (by decide) oZ
theorem oE : Opens Tryz.prog EE 154 := Opens.struct Tryz.underlying154 (by kernel_rfl) (OpensFields.cons oA rfl (OpensFields.cons oZ rfl (OpensFields.cons oB rfl (OpensFields.cons oB rfl (OpensFields.cons oB rfl (OpensFields.one oZs))))))
theorem oEs : Opens Tryz.prog (List EE) 33 := Opens.slice Tryz.underlying33 (by kernel_rfl) (by decide) oE
theorem oS : Opens Tryz.prog ES 32 := Opens.struct Tryz.underlying32 (by kernel_rfl) (OpensFields.cons oK rfl (OpensFields.cons oI rfl (OpensFields.cons oAs rfl (OpensFields.cons oAs rfl (OpensFields.cons oAs rfl (OpensFields.cons oCs rfl (OpensFields.cons oPs rfl (OpensFields.cons oB rfl (OpensFields.cons oB rfl (OpensFields.cons oB rfl (OpensFields.cons oI rfl (OpensFields.one oB))))))))))))
theorem oSl : Opens Tryz.prog EL 35 := Opens.struct Tryz.underlying35 (by kernel_rfl) (OpensFields.cons oK rfl (OpensFields.cons oZ rfl (OpensFields.cons oB rfl (OpensFields.cons oPs rfl (OpensFields.one oEs)))))
theorem oN : Opens Tryz.prog EN 37 := Opens.struct Tryz.underlying37 (by kernel_rfl) (OpensFields.cons oZ rfl (OpensFields.cons oZ rfl (OpensFields.one oAs)))
theorem oV : Opens Tryz.prog EV 39 := Opens.struct Tryz.underlying39 (by kernel_rfl) (OpensFields.cons oI rfl (OpensFields.cons oI rfl (OpensFields.cons oS rfl (OpensFields.cons oSl rfl (OpensFields.cons oN rfl (OpensFields.cons oK rfl (OpensFields.one oZ)))))))
theorem oT : Opens Tryz.prog ET 41 := Opens.struct Tryz.underlying41 (by kernel_rfl) (OpensFields.cons oI rfl (OpensFields.cons oI rfl (OpensFields.one oV)))
theorem oTs : Opens Tryz.prog (List ET) 22 := Opens.slice Tryz.underlying22 (by kernel_rfl) (by decide) oT
/-! The row. -/
theorem own : ownKnob Tryz.prog.godebug = none := by kernel_rfl
theorem laidOut : laidOutB Tryz.prog = true := by kernel_rfl
theorem star : "*" ++ "errors.errorString" = "*errors.errorString" := by decide
theorem errRow (u : TypeId) (h : Tryz.prog.typeName? 3 u = some "*errors.errorString") : u = 295 :=
  typeName_ptr_named (nm := "errors.errorString") (by rw [star]; kernel_rfl) (by kernel_rfl) (by decide) u (by rw [star]; exact h)
def ns : List (Nat × String × List UInt8) := [(0, "linkboy/api.ErrRange", [97, 32, 110, 117, 109, 98, 101, 114, 32, 105, 115, 32, 111, 117, 116, 32, 111, 102, 32, 105, 116, 115, 32, 114, 97, 110, 103, 101]), (3, "linkboy/api.ErrForm", [105, 116, 32, 105, 115, 32, 110, 111, 116, 32, 111, 102, 32, 105, 116, 115, 32, 102, 111, 114, 109]), (9, "linkboy/api.ErrStale", [105, 116, 32, 105, 115, 32, 111, 108, 100, 101, 114, 32, 116, 104, 97, 110, 32, 119, 104, 97, 116, 32, 105, 115, 32, 107, 110, 111, 119, 110]), (14, "linkboy/api.ErrState", [105, 116, 32, 99, 97, 110, 32, 110, 111, 116, 32, 98, 101, 32, 100, 111, 110, 101, 32, 105, 110, 32, 116, 104, 105, 115, 32, 115, 116, 97, 116, 101])]
def texts : List (List UInt8) := [[105, 100, 108, 101], [108, 105, 115, 116, 105, 110, 103], [119, 97, 116, 99, 104, 105, 110, 103], [119, 97, 105, 116, 105, 110, 103]]
theorem listed {W : World} (h : laidMetH Tryz.prog Rows.watchKeepsRow.laid W) : ∃ ad, Sents 295 ad (ns.map (·.1)) W ∧ LaidOk C.laid (E0 ad (ns.map (·.1)) W) W := by
  have h0 : laidMet Tryz.prog Rows.watchKeepsRow.laid W := by
    rw [← MakeChecks.laidMetH_plain Tryz.prog Rows.watchKeepsRow.laid W (by kernel_rfl)]; exact h
  have hs := laid_strings (texts := texts) h0.tail.tail.tail.tail.tail (show Tryz.prog.globalNamed "linkboy/watch.words" = some 18 by kernel_rfl) (show _ = some 215 by kernel_rfl) Tryz.underlying215 Tryz.underlying9 (by kernel_rfl)
  obtain ⟨ad, hS⟩ := sents_of Tryz.underlying44 errRow Tryz.underlying295 Tryz.underlying320 rfl rfl Tryz.underlying9 (by kernel_rfl) (by kernel_rfl) h0 ns (by
    intro x hx
    simp only [ns, List.mem_cons, List.not_mem_nil, or_false] at hx
    rcases hx with rfl | rfl | rfl | rfl
    · exact ⟨List.mem_of_getElem? (i := 1) rfl, by kernel_rfl, by kernel_rfl⟩
    · exact ⟨List.mem_of_getElem? (i := 2) rfl, by kernel_rfl, by kernel_rfl⟩
    · exact ⟨List.mem_of_getElem? (i := 3) rfl, by kernel_rfl, by kernel_rfl⟩
    · exact ⟨List.mem_of_getElem? (i := 4) rfl, by kernel_rfl, by kernel_rfl⟩) (by decide) (by decide)
  refine ⟨ad, hS, fun g cs hg => ?_⟩
  simp only [C] at hg
  split at hg
  · rename_i hk
    cases hg
    exact rel_sent hS (by simpa [ns] using hk)
  · split at hg
    · rename_i e
      subst e
      cases hg
      exact rel_texts (texts := texts) hs
    · cases hg
set_option maxRecDepth 100000 in
theorem contract (H : Type) (enc : TypeId × Value → H) (W : World) (base : Nat) (args : Array Value) (ds gs : List (DataW H)) (before : List MemPlace)
    (hval : ∀ (j : Nat) t v, Tryz.f3.params[j]? = some t → args[j]? = some v → Value.okWide Tryz.prog W .any base t v)
    (hW : DataW.Whole enc Tryz.prog Tryz.f3.params.toList Rows.watchKeepsSpec.vars false W args.toList ds gs before) (hL : laidMetH Tryz.prog Rows.watchKeepsRow.laid W) :
    Calls Tryz.prog 3 args W fun e W' => ∃ v, e = .returned v ∧ Rows.watchKeepsSpec.post enc Tryz.prog Tryz.f3 false true false false W args v W' := by
  have hW' := hW
  obtain ⟨p, q, hA0, hV, rfl, hfz, hnd⟩ := hW
  have hA : DataW.TrodAll enc Tryz.prog W 0 (fun _ => true) true Tryz.f3.params.toList args.toList ds p := hA0
  rw [Tryz.params3] at hA hval
  obtain ⟨v0, vs0, d0, ds0, p0, q0, hargs, rfl, rfl, h0, r0⟩ := trodAll_cons hA
  obtain ⟨rfl, rfl, rfl⟩ := trodAll_nil r0
  obtain rfl : args = #[v0] := by cases args; simp_all
  obtain ⟨rfl, rfl⟩ := trodVars_none hV
  obtain ⟨l, hl⟩ := open_slice_arg oTs Tryz.underlying22 (hval 0 22 v0 rfl rfl) h0
  have hok : TEnc.ok l := TEnc.okr hl.rep
  obtain ⟨ad, hS, hLa⟩ := listed hL
  obtain ⟨h', hev⟩ := law_c [] (l.map cT) .no (by simp) (by rw [List.length_map]; exact hok.1) (fun a ha => by
    obtain ⟨x, hx, rfl⟩ := List.mem_map.1 ha
    exact lies_of x (hok.2 x hx))
  have hrel : Rel (E0 ad (ns.map (·.1)) W) W (.sl ((l.map cT).map Act.t) .no) v0 := by
    rw [← acts_sl]; exact rel_sl hl
  refine (law_top cok tok hev (hS.pre hLa []) (vs := #[v0]) (RelL.cons hrel (RelL.nil _ _))).mono fun e W' ⟨he, hk⟩ => ?_
  subst he
  exact ⟨_, rfl, post_law laidOut (by kernel_rfl) rfl Tryz.underlying4 rfl ⟨rfl, rfl, rfl⟩ hW' hk⟩

end Go.AE.W
