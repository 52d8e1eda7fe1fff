import Derived.Test.YtcifkcijohlamaaWalk5
namespace Go.Proofs.Ytcifkcijohlamaa
open Go.RowKit Go.LB
set_option linter.unusedVariables false
set_option maxHeartbeats 1000000

theorem same_true (F G : Nat → Prop) (l : List Act) (v u : Value) (w : World) (hl : l.length ≤ 3000) (hv : SlRep w F l v) (hu : SlRep w G l u) :
    Calls Try.prog 6 #[v, u] w fun e w' => e = .returned (.bool true) ∧ New w w' := by
  obtain ⟨a, c, rfl, hlc, hc⟩ := hv.shape
  obtain ⟨a', c', rfl, hlc', hc'⟩ := hu.shape
  refine calls_hide fun R hR => ?_
  go_enter Try.func6, Try.ntmps6
  go_wp2
  go_loopw [13] (fun i wr => ∃ (k n : Nat), k ≤ l.length ∧ i = .int .i64 (k : Int) ∧ wr = w.drewN n) (fun i _ => l.length - (intOf i).toNat)
  case atStart => exact ⟨0, 0, by omega, rfl, rfl⟩
  case round =>
    obtain ⟨k, n, hk, rfl, rfl⟩ := hrel
    by_cases hlt : k < l.length
    · obtain ⟨b0, off, c0, cs, e0, hb, hF, hrep, hcell⟩ := hv.elem k hlt
      obtain rfl : a = some ⟨b0, off, none⟩ := by injection e0
      obtain ⟨b0', off', c0', cs', e0', hb', hF', hrep', hcell'⟩ := hu.elem k hlt
      obtain rfl : a' = some ⟨b0', off', none⟩ := by injection e0'
      obtain ⟨x, rfl, hx⟩ := act_cells hrep
      obtain ⟨y, rfl, hy⟩ := act_cells hrep'
      have x0 : w.cell? ⟨b0, off + k * 3, none⟩ = some _ := hcell 0 _ rfl
      have x1 : w.cell? ⟨b0, off + k * 3 + 1, none⟩ = some _ := hcell 1 _ rfl
      have x2 : w.cell? ⟨b0, off + k * 3 + 2, none⟩ = some _ := hcell 2 _ rfl
      have y0 : w.cell? ⟨b0', off' + k * 3, none⟩ = some _ := hcell' 0 _ rfl
      have y1 : w.cell? ⟨b0', off' + k * 3 + 1, none⟩ = some _ := hcell' 1 _ rfl
      have y2 : w.cell? ⟨b0', off' + k * 3 + 2, none⟩ = some _ := hcell' 2 _ rfl
      have s1 : ∀ n, (convert 22 9 x).run Try.prog (w.drewN n) = .ok (.string (bstr l[k].bytes)) (w.drewN n) := fun n => run_str 22 5 9 Try.underlying22 Try.underlying5 Try.underlying9 (hx.new ((Keep.refl _ _).drewN n))
      have s2 : ∀ n, (convert 22 9 y).run Try.prog (w.drewN n) = .ok (.string (bstr l[k].bytes)) (w.drewN n) := fun n => run_str 22 5 9 Try.underlying22 Try.underlying5 Try.underlying9 (hy.new ((Keep.refl _ _).drewN n))
      generalize l[k] = act at *
      obtain ⟨xa, xc, rfl, _, _⟩ := hx.shape
      obtain ⟨ya, yc, rfl, _, _⟩ := hy.shape
      have p1 : (k : Int) < l.length := by omega
      clear hcell hcell' hrep hrep' hx hy e0 e0' hv hu
      go_wp2
      go_quiet (fail)
      go_wp2
      exact ⟨⟨k + 1, n + nq, by omega, by go_num, rfl⟩, by simp [intOf]; omega⟩
    · go_wp2
      exact hR.out _ _ ⟨rfl, (Keep.refl _ _).drewN _⟩

theorem alive_any (w : World) : Calls Try.prog 4 #[] w fun e w' => e = .returned (.bool true) ∧ New w w' := by
  have hd : dec [2, 255] = [⟨2, -1, []⟩] := by
    rw [dec, show actOf 2 [255] = (⟨2, -1, []⟩, []) from rfl, dec]
  have kA : New w (w.alloc (.cells #[.int .u8 2, .int .u8 255] 5)) := (Keep.refl _ _).alloc _
  have hv : SlRep (w.alloc (.cells #[.int .u8 2, .int .u8 255] 5)) (fun _ => True) ([2, 255] : List UInt8) (.slice (some ⟨w.heap.size, 0, none⟩) 2 2) :=
    ⟨_, 2, _, rfl, by decide, by simp [maxLen], reps_bytes.2 rfl, .inr ⟨w.heap.size, 0, rfl, trivial, by simp, fun j v hj => by rw [World.cell?_alloc_at _ _ _ _ rfl]; simpa using hj⟩⟩
  refine calls_hide fun R hR => ?_
  go_enter Try.func4, Try.ntmps4
  go_wp2_with fail
  refine (decode_any _ [2, 255] _ _ (by simp) hv).mono ?_
  rintro e w1 ⟨v, b, rfl, h1, k1⟩
  rw [hd] at h1
  have k2 := kA.trans k1
  obtain ⟨b0, off, c, cs, rfl, _, _, hrep, hcell⟩ := h1.any.elem 0 (by simp)
  obtain ⟨x, rfl, hx⟩ := act_cells hrep
  have x0 : w1.cell? ⟨b0, off, none⟩ = some (.int .i64 2) := by have := hcell 0 _ rfl; simpa using this
  have x1 : w1.cell? ⟨b0, off + 1, none⟩ = some (.int .i64 (-1)) := by have := hcell 1 _ rfl; simpa using this
  clear hcell hrep hx h1 k1 hv kA hd
  go_wp2
  exact hR.out _ _ ⟨rfl, k2⟩

theorem law_any (F : Nat → Prop) (l : List UInt8) (v : Value) (w : World) (hv : SlRep w F l v) :
    Calls Try.prog 3 #[v] w fun e w' => e = .returned (.bool true) ∧ New w w' := by
  have H := Lib.hid hv
  obtain ⟨a, c, rfl, hlc, hc⟩ := hv.shape
  unfold maxLen at hc
  clear hv
  refine calls_hide fun R hR => ?_
  go_enter Try.func3, Try.ntmps3
  go_wp2_with fail
  refine (alive_any w).mono ?_
  rintro e w1 ⟨rfl, k1⟩
  by_cases hl : l.length ≤ 3000
  · go_wp2_with fail
    refine (bytes_any F l _ w1 hl (H.out.new k1)).mono ?_
    rintro e w2 ⟨v2, rfl, k2, hm⟩
    have hm' := hm
    obtain ⟨a2, c2, rfl, q1, q2, q3⟩ := hm'
    have hin : SlRep w2 (fun _ => True) l (.slice a2 l.length c2) := by
      have := q3.take l.length c2 (by simp) (by omega) q2
      rwa [List.take_left] at this
    clear q3
    go_wp2_with fail
    refine (decode_any _ l _ _ hl hin).mono ?_
    rintro e w3 ⟨v3, b3, rfl, h3, k3⟩
    have hd := dec_len l
    go_wp2_with fail
    refine (of_any _ (dec l) _ _ (by omega) h3.or).mono ?_
    rintro e w4 ⟨v4, rfl, h4, k4⟩
    have kk : New w w4 := ((k1.trans k2).trans k3).trans k4
    go_wp2_with fail
    refine (refdecode_any F l _ _ hl (H.out.new kk)).mono ?_
    rintro e w5 ⟨v5, rfl, h5, k5⟩
    go_wp2_with fail
    refine (same_true _ _ (dec l) _ _ _ (by omega) (h4.new k5) h5).mono ?_
    rintro e w6 ⟨rfl, k6⟩
    have hm6 : Marked w6 l (.slice a2 l.length c2) := by
      obtain ⟨a', c', e', r1, r2, r3⟩ := hm
      exact ⟨a', c', e', r1, r2, r3.new (((k3.trans k4).trans k5).trans k6)⟩
    go_wp2_with fail
    refine (kept_any F l _ _ _ hl hm6 (H.out.new ((kk.trans k5).trans k6))).mono ?_
    rintro e w7 ⟨rfl, k7⟩
    go_wp2
    exact hR.out _ _ ⟨rfl, ((kk.trans k5).trans k6).trans k7⟩
  · have hgt : decide ((3000 : Int) < l.length) = true := by simp; omega
    go_wp2
    exact hR.out _ _ ⟨rfl, k1⟩
end Go.Proofs.Ytcifkcijohlamaa
