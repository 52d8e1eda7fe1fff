import Derived.Test.YtcifkcijohlamaaWalk4
namespace Go.Proofs.Ytcifkcijohlamaa
open Go.RowKit Go.LB
set_option linter.unusedVariables false
set_option maxHeartbeats 400000

theorem E26 : ElemT Try.prog Act 26 35 40 := ElemT.of 3 rfl Try.underlying26 (by kernel_rfl) (by decide)

theorem least_any (a b : Int) (w : World) : Calls Try.prog 13 #[.int .i64 a, .int .i64 b] w fun e w' => e = .returned (.int .i64 (min a b)) ∧ w = w' := by
  refine calls_hide fun R hR => ?_
  go_enter Try.func13, Try.ntmps13
  go_wp2
  all_goals refine hR.out _ _ ⟨ret_int ?_, rfl⟩
  all_goals omega

theorem get_any (F : Nat → Prop) (l : List UInt8) (v : Value) (i0 : Int) (w : World) (hi0 : 0 ≤ i0) (hv : SlRep w F l v) :
    Calls Try.prog 12 #[v, .int .i64 i0] w fun e w' => ∃ x : UInt8, e = .returned (.int .i64 (x.toNat : Int)) ∧ w = w' ∧ Hid (x = l.getD i0.toNat 0) := by
  obtain ⟨i, rfl⟩ := Int.eq_ofNat_of_zero_le hi0
  rw [Int.toNat_natCast]
  refine calls_hide fun R hR => ?_
  by_cases hi : i < l.length
  · obtain ⟨b, off, c, rfl, hb, _, hc⟩ := hv.byte_cells (by rintro rfl; simp at hi)
    have h0 := hc i hi
    have hx := (l.getD i 0).toNat_lt
    have hw : wrap64 ((l.getD i 0).toNat : Int) = (l.getD i 0).toNat := wrap64_in (by omega) (by omega)
    generalize hxx : l.getD i 0 = x at h0 hx hw
    have Hx := Lib.hid hxx
    clear hv hc hxx
    go_enter Try.func12, Try.ntmps12
    go_wp2
    exact hR.out _ _ ⟨x, rfl, rfl, Hx.out.symm⟩
  · have hz : 0 = l.getD i 0 := by rw [List.getD_eq_getElem?_getD, List.getElem?_eq_none (by omega)]; rfl
    obtain ⟨a, c, rfl, _, _⟩ := hv.shape
    have Hz := Lib.hid hz
    clear hz hv
    go_enter Try.func12, Try.ntmps12
    go_wp2
    exact hR.out _ _ ⟨0, rfl, rfl, Hz.out⟩

/-- The cells of an act. -/
theorem act_cells {w : World} {F : Nat → Prop} {a : Act} {cs : List Value} (h : Enc.rep w F a cs) :
    ∃ v, cs = [.int .i64 a.kind, .int .i64 a.n, v] ∧ SlRep w F a.bytes v := by
  obtain ⟨_, _, ⟨rfl, _⟩, ⟨_, _, ⟨rfl, _⟩, ⟨v, rfl, h⟩, rfl⟩, rfl⟩ := h
  exact ⟨v, rfl, h⟩
theorem act_fits {w : World} {F : Nat → Prop} {a : Act} {cs : List Value} (h : Enc.rep w F a cs) :
    -9223372036854775808 ≤ a.kind ∧ a.kind ≤ 9223372036854775807 ∧ -9223372036854775808 ≤ a.n ∧ a.n ≤ 9223372036854775807 := by
  obtain ⟨_, _, ⟨rfl, h1, h2⟩, ⟨_, _, ⟨rfl, h3, h4⟩, _, rfl⟩, rfl⟩ := h
  exact ⟨h1, h2, h3, h4⟩

def POf (w : World) (F : Nat → Prop) (l : List Act) : Ending → World → Prop := fun e w' =>
  ∃ v, e = .returned v ∧ SlRep w' (fun k => F k ∨ w.heap.size ≤ k) l v ∧ New w w'

theorem of_any (F : Nat → Prop) (l : List Act) (v : Value) (w : World) (hl : l.length ≤ 3000) (hv : SlRep w F l v) :
    Calls Try.prog 7 #[v] w (POf w F l) := by
  have hv' : SlRep w (fun k => F k ∧ k < w.heap.size) l v := hv.sub fun k h1 h2 => ⟨h2, h1⟩
  obtain ⟨a, c, rfl, hlc, hc⟩ := hv.shape
  clear hv
  have k0 : New w (w.alloc (.cells #[] 35)) := (Keep.refl _ _).alloc _
  refine calls_hide fun R hR => ?_
  go_enter Try.func7, Try.ntmps7
  go_wp2
  go_loopw [3, 9] (fun ov i wr => ∃ (k : Nat) (b : Option Nat), k ≤ l.length ∧ i = .int .i64 (k : Int) ∧ Own wr (fun k => F k ∧ k < w.heap.size) 35 b (l.take k) ov ∧ New w wr ∧ Aside (∀ g, b = some g → w.heap.size ≤ g)) (fun _ i _ => l.length - (intOf i).toNat)
  case atStart => exact ⟨0, none, by omega, rfl, Own.nil _ _ _ _, k0, by simp [Aside]⟩
  case round =>
    obtain ⟨k, b, hk, rfl, h1, h2, h3⟩ := hrel
    by_cases hlt : k < l.length
    · obtain ⟨b0, off, c0, cs, e0, hb, hF, hrep, hcell⟩ := (hv'.new h2).elem k hlt
      obtain rfl : a = some ⟨b0, off, none⟩ := by injection e0
      obtain ⟨u, rfl, hu⟩ := act_cells hrep
      have x0 : wr.cell? ⟨b0, off + k * 3, none⟩ = some _ := hcell 0 _ rfl
      have x1 : wr.cell? ⟨b0, off + k * 3 + 1, none⟩ = some _ := hcell 1 _ rfl
      have x2 : wr.cell? ⟨b0, off + k * 3 + 2, none⟩ = some _ := hcell 2 _ rfl
      have htk : l.take (k + 1) = l.take k ++ [l[k]] := by rw [List.take_succ_eq_append_getElem hlt]
      have hlk : (l.take k).length = k := by simp; omega
      generalize l[k] = act at *
      obtain ⟨ua, uc, rfl, _, _⟩ := hu.shape
      have Hrep := Lib.hid hrep
      have Htk := Lib.hid htk
      clear hrep htk hcell hu e0
      go_wp2_with (at_builtin; go_loud (refine wpList_app E26 rfl _ _ rfl rfl rfl ((h1.new ((Keep.refl _ _).alloc _)).new ((Keep.refl _ _).alloc _)) (Src.built (m := [act]) (Reps.single (Enc.sub (rep_new Hrep.out ((Keep.refl _ _).alloc _)) fun i _ hi => ⟨hi, fun e => absurd (h3.out _ e) (Nat.not_le.2 hi.2)⟩)) _ _ rfl _ (by simp)) ?_ ?_ ?_))
      · simp; omega
      · simp [maxLen]; omega
      intro v2 w2 b2 q1 q2 q3 q4
      obtain ⟨r1, r2⟩ := app_step ((h2.alloc _).alloc _) h3.out q2 (by simpa using q3)
      rw [← Htk.out] at q1
      clear q2 q3 q4 x0 x1 x2 h1 h2 h3 Hrep Htk
      go_wp2
      go_roundw
      case rel => exact ⟨k + 1, b2, by omega, by go_num, q1, r1, r2⟩
      case measure => simp [intOf]; omega
    · have hk' : k = l.length := by omega
      have h1' := h1.or
      rw [hk', List.take_length] at h1'
      have H := Lib.hid (h1'.sub fun i _ h => (h.imp (fun h => h.1) (fun h => h3.out i h) : F i ∨ w.heap.size ≤ i))
      clear h1 h1' hk'
      go_wp2
      exact hR.out _ _ ⟨_, rfl, H.out, h2⟩

theorem act_rep3 {w : World} {F : Nat → Prop} {k n : Int} {bs : List UInt8} {v : Value} (h1 : -1 ≤ k ∧ k ≤ 255) (h2 : -1 ≤ n ∧ n ≤ 65535) (h : SlRep w F bs v) : Enc.rep w F (⟨k, n, bs⟩ : Act) [.int .i64 k, .int .i64 n, v] :=
  act_rep (a := ⟨k, n, bs⟩) h h1 h2

set_option maxHeartbeats 4000000 in
set_option maxRecDepth 100000 in
/-- What the reference decodes. -/
theorem refdecode_any (F : Nat → Prop) (l : List UInt8) (v : Value) (w : World) (hl : l.length ≤ 3000) (hv : SlRep w F l v) :
    Calls Try.prog 9 #[v] w (POf w F (dec l)) := by
  have hv' : SlRep w (fun k => F k ∧ k < w.heap.size) l v := hv.sub fun k h1 h2 => ⟨h2, h1⟩
  obtain ⟨a, c, rfl, hlc, hc⟩ := hv.shape
  clear hv
  have k0 : New w (w.alloc (.cells #[] 35)) := (Keep.refl _ _).alloc _
  refine calls_hide fun R hR => ?_
  go_enter Try.func9, Try.ntmps9
  go_wp2
  go_loopw [3, 4] (fun ov i wr => ∃ (k : Nat) (acts : List Act) (b : Option Nat), k ≤ l.length + 2 ∧ i = .int .i64 (k : Int) ∧ acts.length ≤ k ∧ Aside (dec l = acts ++ dec (l.drop k)) ∧ Own wr (fun k => F k ∧ k < w.heap.size) 35 b acts ov ∧ New w wr ∧ Aside (∀ g, b = some g → w.heap.size ≤ g)) (fun _ i _ => l.length + 2 - (intOf i).toNat)
  case atStart => exact ⟨0, [], none, by omega, rfl, by simp, by simp [Aside], Own.nil _ _ _ _, k0, by simp [Aside]⟩
  case round =>
    obtain ⟨k, acts, b, hk, rfl, hal, hd, h1, h2, h3⟩ := hrel
    by_cases hlt : k < l.length
    · obtain ⟨b0, off, c0, e0, hb, hF, hcell⟩ := (hv'.new h2).byte_cells (by rintro rfl; simp at hlt)
      obtain rfl : a = some ⟨b0, off, none⟩ := by injection e0
      have x0 := hcell k hlt
      have hx := (l.getD k 0).toNat_lt
      have hdr : l.drop k = l.getD k 0 :: l.drop (k + 1) := by
        rw [List.drop_eq_getElem_cons hlt, List.getD_eq_getElem?_getD, List.getElem?_eq_getElem hlt]; rfl
      have hd' := hd.out
      rw [hdr] at hd'
      generalize l.getD k 0 = x at *
      have hw : wrap64 (x.toNat : Int) = x.toNat := wrap64_in (by omega) (by omega)
      have Hc := Lib.hid hcell
      clear hcell e0
      have Hd := Lib.hid hd'
      clear hd hd' hdr
      have hvr := hv'.new h2
      have hg : ∀ i : Nat, (l.drop (k + 1)).getD i 0 = l.getD (k + 1 + i) 0 := fun i => by simp
      have hg' : ∀ i : Nat, (l.drop (k + 1)).getD i 255 = l.getD (k + 1 + i) 255 := fun i => by simp
      by_cases hk13 : x = 1 ∨ x = 3
      · have hk' : ((x.toNat : Int) == 1) = true ∨ ((x.toNat : Int) == 1) = false ∧ ((x.toNat : Int) == 3) = true := by
          rcases hk13 with rfl | rfl
          · left; rfl
          · right; exact ⟨rfl, rfl⟩
        have hd2 := Hd.out
        rw [show dec (x :: l.drop (k + 1)) = (actOf x (l.drop (k + 1))).1 :: dec (actOf x (l.drop (k + 1))).2 by rw [dec]] at hd2
        have hA : actOf x (l.drop (k + 1)) = (⟨x.toNat, 0, ((l.drop (k + 1)).drop 2).take (num2 (l.drop (k + 1)))⟩, ((l.drop (k + 1)).drop 2).drop (num2 (l.drop (k + 1)))) := by
          unfold actOf; rw [if_pos hk13]
        rw [hA, show num2 (l.drop (k + 1)) = (l.getD (k + 1) 0).toNat * 256 + (l.getD (k + 1 + 1) 0).toNat by unfold num2; rw [hg, hg]] at hd2
        clear hA Hd hk13 hg hg'
        have Hd2 := Lib.hid hd2
        clear hd2
        rcases hk' with hk' | ⟨hk', hk''⟩
        all_goals
          go_wp2_with fail
          refine (get_any _ l _ _ _ (by omega) (hvr.new ((Keep.refl _ _).alloc _))).mono ?_
          rintro e _ ⟨a1, rfl, rfl, ha1⟩
          rw [show ((k : Int) + 1).toNat = k + 1 by omega] at ha1
          go_wp2_with fail
          refine (get_any _ l _ _ _ (by omega) (hvr.new ((Keep.refl _ _).alloc _))).mono ?_
          rintro e _ ⟨a2, rfl, rfl, ha2⟩
          rw [show ((k : Int) + 1 + 1).toNat = k + 1 + 1 by omega] at ha2
          have y1 := a1.toNat_lt
          have y2 := a2.toNat_lt
          go_wp2_with fail
          refine (least_any _ _ _).mono ?_
          rintro e _ ⟨rfl, rfl⟩
          obtain ⟨t, ht, ht'⟩ : ∃ t : Nat, min ((k : Int) + 1 + 2) (l.length : Int) = t ∧ t = min (k + 3) l.length := ⟨_, by omega, rfl⟩
          rw [ht]
          clear ht
          have ht1 : t ≤ l.length := by omega
          have ht2 : k < t := by omega
          have Ht := Lib.hid ht'
          clear ht'
          have hwn : Hid (wrap64 ((t : Int) + wrap64 (wrap64 ((a1.toNat : Int) * 256) + (a2.toNat : Int))) = ((t + (a1.toNat * 256 + a2.toNat) : Nat) : Int)) := by
            refine Lib.hid ?_
            rw [wrap_two, wrap64_in (by omega) (by omega)]
            omega
          go_wp2_with fail
          rw [hwn.out]
          clear hwn
          refine (least_any _ _ _).mono ?_
          rintro e _ ⟨rfl, rfl⟩
          obtain ⟨n, hn⟩ : ∃ n : Nat, n = a1.toNat * 256 + a2.toNat := ⟨_, rfl⟩
          obtain ⟨m, hm, hm'⟩ : ∃ m : Nat, min ((t + (a1.toNat * 256 + a2.toNat) : Nat) : Int) (l.length : Int) = m ∧ m = min (t + n) l.length := ⟨_, by omega, rfl⟩
          rw [hm]
          clear hm
          have hm1 : t ≤ m := by omega
          have hm2 : m ≤ l.length := by omega
          have hbytes : ((l.drop (k + 1)).drop 2).take n = (l.drop t).take (m - t) := by
            rw [List.drop_drop, Ht.out, hm', Ht.out]
            rcases Nat.le_total (k + 3) l.length with h | h
            · rw [Nat.min_eq_left h, show k + 1 + 2 = k + 3 by omega]
              rcases Nat.le_total (k + 3 + n) l.length with h' | h'
              · rw [Nat.min_eq_left h']; congr 1; omega
              · rw [Nat.min_eq_right h', List.take_of_length_le (by simp; omega), List.take_of_length_le (by simp)]
            · rw [List.drop_eq_nil_of_le (by omega), List.drop_eq_nil_of_le (by omega)]; simp
          have hrest : ((l.drop (k + 1)).drop 2).drop n = l.drop m := by
            rw [List.drop_drop, List.drop_drop, hm', Ht.out]
            rcases Nat.le_total (k + 3) l.length with h | h
            · rw [Nat.min_eq_left h]
              rcases Nat.le_total (k + 3 + n) l.length with h' | h'
              · rw [Nat.min_eq_left h']; congr 1; omega
              · rw [Nat.min_eq_right h', List.drop_eq_nil_of_le (by omega), List.drop_eq_nil_of_le (by omega)]
            · rw [List.drop_eq_nil_of_le (by omega), List.drop_eq_nil_of_le (by omega)]
          have Hd3 : Hid (Aside (dec l = (acts ++ [(⟨x.toNat, 0, (l.drop t).take (m - t)⟩ : Act)]) ++ dec (l.drop m))) := by
            have h := Hd2.out
            rw [← ha1.out, ← ha2.out, ← hn, hbytes, hrest] at h
            exact Lib.hid (show _ = _ by rw [h, List.append_assoc]; rfl)
          clear hbytes hrest hm' Ht Hd2 ha1 ha2 hn
          rcases Nat.lt_or_ge t c with hct | hct
          · have hrep : Enc.rep wr (fun k => F k ∧ k < w.heap.size) (⟨x.toNat, 0, (l.drop t).take (m - t)⟩ : Act) [.int .i64 x.toNat, .int .i64 0, .slice (some ⟨b0, off + t, none⟩) (m - t) (c - t)] := by
              exact act_rep3 (by omega) (by omega) (hvr.cut t (m - t) (c - t) (some ⟨b0, off + t, none⟩) (by omega) (by omega) (by omega) (fun _ => by simp [Enc.size, Addr.add_lit]))
            have hne : c ≠ t := by omega
            go_wp2_with (at_builtin; refine wpList_app E26 rfl _ _ rfl rfl rfl ((h1.new ((Keep.refl _ _).alloc _)).new ((Keep.refl _ _).alloc _)) (Src.built (m := [⟨x.toNat, 0, (l.drop t).take (m - t)⟩]) (Reps.single (Enc.sub (rep_new hrep ((Keep.refl _ _).alloc _)) fun i _ hi => ⟨hi, fun e => absurd (h3.out _ e) (Nat.not_le.2 hi.2)⟩)) _ _ rfl _ (by simp)) ?_ ?_ ?_)
            · simp; omega
            · simp [maxLen]; omega
            intro v2 w2 b2 q1 q2 q3 q4
            obtain ⟨r1, r2⟩ := app_step ((h2.alloc _).alloc _) h3.out q2 (by simpa using q3)
            clear q2 q3 q4 x0 h1 h2 h3 hrep
            go_wp2
            go_roundw
            case rel => exact ⟨m, acts ++ [⟨x.toNat, 0, (l.drop t).take (m - t)⟩], b2, by omega, by go_num, by simp; omega, Hd3.out, q1, r1, r2⟩
            case measure => simp [intOf]; omega
          · have hrep : Enc.rep wr (fun k => F k ∧ k < w.heap.size) (⟨x.toNat, 0, (l.drop t).take 0⟩ : Act) [.int .i64 x.toNat, .int .i64 0, .slice (some ⟨b0, off, none⟩) 0 0] := by
              exact act_rep3 (by omega) (by omega) (hvr.cut t 0 0 (some ⟨b0, off, none⟩) (by omega) (by omega) (by omega) (fun h => by omega))
            obtain rfl : c = t := by omega
            obtain rfl : m = c := by omega
            rw [Nat.sub_self] at Hd3
            go_wp2_with (at_builtin; refine wpList_app E26 rfl _ _ rfl rfl rfl ((h1.new ((Keep.refl _ _).alloc _)).new ((Keep.refl _ _).alloc _)) (Src.built (m := [⟨x.toNat, 0, (l.drop m).take 0⟩]) (Reps.single (Enc.sub (rep_new hrep ((Keep.refl _ _).alloc _)) fun i _ hi => ⟨hi, fun e => absurd (h3.out _ e) (Nat.not_le.2 hi.2)⟩)) _ _ rfl _ (by simp)) ?_ ?_ ?_)
            · simp; omega
            · simp [maxLen]; omega
            intro v2 w2 b2 q1 q2 q3 q4
            obtain ⟨r1, r2⟩ := app_step ((h2.alloc _).alloc _) h3.out q2 (by simpa using q3)
            clear q2 q3 q4 x0 h1 h2 h3 hrep
            go_wp2
            go_roundw
            case rel => exact ⟨m, acts ++ [⟨x.toNat, 0, (l.drop m).take 0⟩], b2, by omega, by go_num, by simp; omega, Hd3.out, q1, r1, r2⟩
            case measure => simp [intOf]; omega
      · have n1 : ((x.toNat : Int) == 1) = false := byte_ne fun h => hk13 (.inl h)
        have n3 : ((x.toNat : Int) == 3) = false := byte_ne fun h => hk13 (.inr h)
        have hd2 := Hd.out
        rw [show dec (x :: l.drop (k + 1)) = (actOf x (l.drop (k + 1))).1 :: dec (actOf x (l.drop (k + 1))).2 by rw [dec]] at hd2
        clear Hd
        by_cases hk2 : x = 2
        · subst hk2
          have hA : actOf 2 (l.drop (k + 1)) = (⟨2, fail1 (l.drop (k + 1)), []⟩, (l.drop (k + 1)).drop 1) := rfl
          rw [hA, List.drop_drop] at hd2
          clear hA hk13 hg
          have hf : fail1 (l.drop (k + 1)) = if l.getD (k + 1) 255 = 255 then -1 else ((l.getD (k + 1) 255).toNat : Int) := by unfold fail1; rw [hg' 0]
          rw [hf] at hd2
          clear hf hg'
          by_cases hlt2 : k + 1 < l.length
          · have y0 : wr.cell? ⟨b0, off + (k + 1), none⟩ = some (.int .u8 ((l.getD (k + 1) 0).toNat : Int)) := Hc.out (k + 1) hlt2
            have e255 : l.getD (k + 1) 255 = l.getD (k + 1) 0 := by simp [hlt2]
            rw [e255] at hd2
            clear e255
            generalize l.getD (k + 1) 0 = y at *
            have hy := y.toNat_lt
            have hwy : wrap64 (y.toNat : Int) = y.toNat := wrap64_in (by omega) (by omega)
            have hi1 : ((k : Int) + 1).toNat = k + 1 := by omega
            have hi2 : decide ((k : Int) + 1 < l.length) = true := by simp; omega
            have hi3 : (0 : Int) ≤ (k : Int) + 1 := by omega
            have hi4 : (k : Int) + 1 < l.length := by omega
            by_cases hy255 : y = 255
            · subst hy255
              rw [if_pos rfl] at hd2
              have Hd3 : Hid (Aside (dec l = (acts ++ [(⟨2, -1, []⟩ : Act)]) ++ dec (l.drop (k + 1 + 1)))) := Lib.hid (show _ = _ by rw [hd2, List.append_assoc]; rfl)
              clear hd2
              have hrep : Enc.rep wr (fun k => F k ∧ k < w.heap.size) (⟨2, -1, []⟩ : Act) [.int .i64 2, .int .i64 (-1), .slice none 0 0] := act_rep3 (by decide) (by decide) (SlRep.nil _ _)
              go_wp2_with (at_builtin; refine wpList_app E26 rfl _ _ rfl rfl rfl ((h1.new ((Keep.refl _ _).alloc _)).new ((Keep.refl _ _).alloc _)) (Src.built (m := [(⟨2, -1, []⟩ : Act)]) (Reps.single (Enc.sub (rep_new hrep ((Keep.refl _ _).alloc _)) fun i _ hi => ⟨hi, fun e => absurd (h3.out _ e) (Nat.not_le.2 hi.2)⟩)) _ _ rfl _ (by simp)) ?_ ?_ ?_)
              · simp; omega
              · simp [maxLen]; omega
              intro v2 w2 b2 q1 q2 q3 q4
              obtain ⟨r1, r2⟩ := app_step ((h2.alloc _).alloc _) h3.out q2 (by simpa using q3)
              clear q2 q3 q4 x0 h1 h2 h3 hrep
              go_wp2
              go_roundw
              case rel => exact ⟨k + 1 + 1, acts ++ [(⟨2, -1, []⟩ : Act)], b2, by omega, by go_num, by simp; omega, Hd3.out, q1, r1, r2⟩
              case measure => simp [intOf]; omega
            · rw [if_neg hy255] at hd2
              have hyb : ((y.toNat : Int) == 255) = false := byte_ne hy255
              have hyb' : ((y.toNat : Int) != 255) = true := byte_ne' hy255
              clear hy255
              have Hd3 : Hid (Aside (dec l = (acts ++ [(⟨2, y.toNat, []⟩ : Act)]) ++ dec (l.drop (k + 1 + 1)))) := Lib.hid (show _ = _ by rw [hd2, List.append_assoc]; rfl)
              clear hd2
              have hrep : Enc.rep wr (fun k => F k ∧ k < w.heap.size) (⟨2, y.toNat, []⟩ : Act) [.int .i64 2, .int .i64 y.toNat, .slice none 0 0] := act_rep3 (by decide) ⟨(byte_int y).1, Int.le_trans (byte_int y).2 (by decide)⟩ (SlRep.nil _ _)
              go_wp2_with (at_builtin; refine wpList_app E26 rfl _ _ rfl rfl rfl ((h1.new ((Keep.refl _ _).alloc _)).new ((Keep.refl _ _).alloc _)) (Src.built (m := [(⟨2, y.toNat, []⟩ : Act)]) (Reps.single (Enc.sub (rep_new hrep ((Keep.refl _ _).alloc _)) fun i _ hi => ⟨hi, fun e => absurd (h3.out _ e) (Nat.not_le.2 hi.2)⟩)) _ _ rfl _ (by simp)) ?_ ?_ ?_)
              · simp; omega
              · simp [maxLen]; omega
              intro v2 w2 b2 q1 q2 q3 q4
              obtain ⟨r1, r2⟩ := app_step ((h2.alloc _).alloc _) h3.out q2 (by simpa using q3)
              clear q2 q3 q4 x0 h1 h2 h3 hrep
              go_wp2
              go_roundw
              case rel => exact ⟨k + 1 + 1, acts ++ [(⟨2, y.toNat, []⟩ : Act)], b2, by omega, by go_num, by simp; omega, Hd3.out, q1, r1, r2⟩
              case measure => simp [intOf]; omega
          · have e255 : l.getD (k + 1) 255 = 255 := by rw [List.getD_eq_getElem?_getD, List.getElem?_eq_none (by omega)]; rfl
            rw [e255, if_pos rfl] at hd2
            clear e255
            have hi2 : decide ((k : Int) + 1 < l.length) = false := by simp; omega
            have Hd3 : Hid (Aside (dec l = (acts ++ [(⟨2, -1, []⟩ : Act)]) ++ dec (l.drop (k + 1 + 1)))) := Lib.hid (show _ = _ by rw [hd2, List.append_assoc]; rfl)
            clear hd2
            have hrep : Enc.rep wr (fun k => F k ∧ k < w.heap.size) (⟨2, -1, []⟩ : Act) [.int .i64 2, .int .i64 (-1), .slice none 0 0] := act_rep3 (by decide) (by decide) (SlRep.nil _ _)
            go_wp2_with (at_builtin; refine wpList_app E26 rfl _ _ rfl rfl rfl ((h1.new ((Keep.refl _ _).alloc _)).new ((Keep.refl _ _).alloc _)) (Src.built (m := [(⟨2, -1, []⟩ : Act)]) (Reps.single (Enc.sub (rep_new hrep ((Keep.refl _ _).alloc _)) fun i _ hi => ⟨hi, fun e => absurd (h3.out _ e) (Nat.not_le.2 hi.2)⟩)) _ _ rfl _ (by simp)) ?_ ?_ ?_)
            · simp; omega
            · simp [maxLen]; omega
            intro v2 w2 b2 q1 q2 q3 q4
            obtain ⟨r1, r2⟩ := app_step ((h2.alloc _).alloc _) h3.out q2 (by simpa using q3)
            clear q2 q3 q4 x0 h1 h2 h3 hrep
            go_wp2
            go_roundw
            case rel => exact ⟨k + 1 + 1, acts ++ [(⟨2, -1, []⟩ : Act)], b2, by omega, by go_num, by simp; omega, Hd3.out, q1, r1, r2⟩
            case measure => simp [intOf]; omega
        · have n2 : ((x.toNat : Int) == 2) = false := byte_ne hk2
          by_cases hk4 : x = 4
          · subst hk4
            have hA : actOf 4 (l.drop (k + 1)) = (⟨4, num2 (l.drop (k + 1)), []⟩, (l.drop (k + 1)).drop 2) := rfl
            rw [hA, List.drop_drop, show num2 (l.drop (k + 1)) = (l.getD (k + 1) 0).toNat * 256 + (l.getD (k + 1 + 1) 0).toNat by unfold num2; rw [hg, hg]] at hd2
            clear hA hk13 hk2 hg hg'
            have Hd2 := Lib.hid hd2
            clear hd2
            go_wp2_with fail
            refine (get_any _ l _ _ _ (by omega) (hvr.new ((Keep.refl _ _).alloc _))).mono ?_
            rintro e _ ⟨a1, rfl, rfl, ha1⟩
            rw [show ((k : Int) + 1).toNat = k + 1 by omega] at ha1
            go_wp2_with fail
            refine (get_any _ l _ _ _ (by omega) (hvr.new ((Keep.refl _ _).alloc _))).mono ?_
            rintro e _ ⟨a2, rfl, rfl, ha2⟩
            rw [show ((k : Int) + 1 + 1).toNat = k + 1 + 1 by omega] at ha2
            have hd2 := Hd2.out
            rw [← ha1.out, ← ha2.out] at hd2
            have y1 := a1.toNat_lt
            have y2 := a2.toNat_lt
            have hwt := wrap_two a1 a2
            clear Hd2 ha1 ha2
            have hn := two_le a1 a2
            generalize a1.toNat * 256 + a2.toNat = n at *
            have Hd3 : Hid (Aside (dec l = (acts ++ [(⟨4, n, []⟩ : Act)]) ++ dec (l.drop (k + 1 + 2)))) := Lib.hid (show _ = _ by rw [hd2, List.append_assoc]; rfl)
            clear hd2
            have hrep : Enc.rep wr (fun k => F k ∧ k < w.heap.size) (⟨4, n, []⟩ : Act) [.int .i64 4, .int .i64 n, .slice none 0 0] := act_rep3 (by decide) (by omega) (SlRep.nil _ _)
            go_wp2_with (at_builtin; refine wpList_app E26 rfl _ _ rfl rfl rfl ((h1.new ((Keep.refl _ _).alloc _)).new ((Keep.refl _ _).alloc _)) (Src.built (m := [(⟨4, n, []⟩ : Act)]) (Reps.single (Enc.sub (rep_new hrep ((Keep.refl _ _).alloc _)) fun i _ hi => ⟨hi, fun e => absurd (h3.out _ e) (Nat.not_le.2 hi.2)⟩)) _ _ rfl _ (by simp)) ?_ ?_ ?_)
            · simp; omega
            · simp [maxLen]; omega
            intro v2 w2 b2 q1 q2 q3 q4
            obtain ⟨r1, r2⟩ := app_step ((h2.alloc _).alloc _) h3.out q2 (by simpa using q3)
            clear q2 q3 q4 x0 h1 h2 h3 hrep
            go_wp2
            go_roundw
            case rel => exact ⟨k + 1 + 2, acts ++ [(⟨4, n, []⟩ : Act)], b2, by omega, by go_num, by simp; omega, Hd3.out, q1, r1, r2⟩
            case measure => simp [intOf]; omega
          · have n4 : ((x.toNat : Int) == 4) = false := byte_ne hk4
            have hA : actOf x (l.drop (k + 1)) = (⟨x.toNat, 0, []⟩, l.drop (k + 1)) := by
              unfold actOf; rw [if_neg hk13, if_neg hk2, if_neg hk4]
            rw [hA] at hd2
            clear hA hk13 hk2 hk4 hg hg'
            have Hd3 : Hid (Aside (dec l = (acts ++ [(⟨x.toNat, 0, []⟩ : Act)]) ++ dec (l.drop (k + 1)))) := Lib.hid (show _ = _ by rw [hd2, List.append_assoc]; rfl)
            clear hd2
            have hrep : Enc.rep wr (fun k => F k ∧ k < w.heap.size) (⟨x.toNat, 0, []⟩ : Act) [.int .i64 x.toNat, .int .i64 0, .slice none 0 0] := act_rep3 (by omega) (by omega) (SlRep.nil _ _)
            go_wp2_with (at_builtin; refine wpList_app E26 rfl _ _ rfl rfl rfl ((h1.new ((Keep.refl _ _).alloc _)).new ((Keep.refl _ _).alloc _)) (Src.built (m := [(⟨x.toNat, 0, []⟩ : Act)]) (Reps.single (Enc.sub (rep_new hrep ((Keep.refl _ _).alloc _)) fun i _ hi => ⟨hi, fun e => absurd (h3.out _ e) (Nat.not_le.2 hi.2)⟩)) _ _ rfl _ (by simp)) ?_ ?_ ?_)
            · simp; omega
            · simp [maxLen]; omega
            intro v2 w2 b2 q1 q2 q3 q4
            obtain ⟨r1, r2⟩ := app_step ((h2.alloc _).alloc _) h3.out q2 (by simpa using q3)
            clear q2 q3 q4 x0 h1 h2 h3 hrep
            go_wp2
            go_roundw
            case rel => exact ⟨k + 1, acts ++ [(⟨x.toNat, 0, []⟩ : Act)], b2, by omega, by go_num, by simp; omega, Hd3.out, q1, r1, r2⟩
            case measure => simp [intOf]; omega
    · have hnil : dec (l.drop k) = [] := by rw [List.drop_eq_nil_of_le (by omega)]; unfold dec; rfl
      have hd' := hd.out
      rw [hnil, List.append_nil] at hd'
      have h1' := h1.or
      rw [← hd'] at h1'
      have H := Lib.hid (h1'.sub fun i _ h => (h.imp (fun h => h.1) (fun h => h3.out i h) : F i ∨ w.heap.size ≤ i))
      clear h1 h1' hd hd' hnil
      go_wp2
      exact hR.out _ _ ⟨_, rfl, H.out, h2⟩
end Go.Proofs.Ytcifkcijohlamaa
