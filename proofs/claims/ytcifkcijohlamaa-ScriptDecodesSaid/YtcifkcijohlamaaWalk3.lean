import Derived.Test.YtcifkcijohlamaaWalk2
import Derived.Deep.LoopGhost
namespace Go.Proofs.Ytcifkcijohlamaa
open Go.RowKit Go.LB
set_option linter.unusedVariables false
set_option maxHeartbeats 400000

theorem E28 : ElemT Try.prog Act 28 34 40 := ElemT.of 3 rfl Try.underlying28 (by kernel_rfl) (by decide)

theorem actOf_len (k : UInt8) (l : List UInt8) : (actOf k l).2.length ≤ l.length := by
  unfold actOf
  repeat' split
  all_goals simp
  all_goals omega
theorem actOf_fits (k : UInt8) (l : List UInt8) : -1 ≤ (actOf k l).1.kind ∧ (actOf k l).1.kind ≤ 255 ∧ -1 ≤ (actOf k l).1.n ∧ (actOf k l).1.n ≤ 65535 ∧ (actOf k l).1.bytes.length ≤ l.length := by
  have h0 := k.toNat_lt
  have h1 : num2 l ≤ 65535 := by
    have := (l.getD 0 0).toNat_lt
    have := (l.getD 1 0).toNat_lt
    unfold num2
    omega
  have h2 : -1 ≤ fail1 l ∧ fail1 l ≤ 255 := by
    have := (l.getD 0 255).toNat_lt
    unfold fail1
    split <;> omega
  unfold actOf
  repeat' split
  all_goals simp
  all_goals omega
def dec : List UInt8 → List Act
  | [] => []
  | k :: l => (actOf k l).1 :: dec (actOf k l).2
termination_by l => l.length
decreasing_by
  have := actOf_len k l
  simp
  omega
theorem dec_len (l : List UInt8) : (dec l).length ≤ l.length := by
  fun_induction dec l with
  | case1 => simp
  | case2 k l ih =>
    have := actOf_len k l
    simp
    omega

theorem act_rep {w : World} {F : Nat → Prop} {a : Act} {v : Value} (h : SlRep w F a.bytes v) (h1 : -1 ≤ a.kind ∧ a.kind ≤ 255) (h2 : -1 ≤ a.n ∧ a.n ≤ 65535) : Enc.rep w F a [.int .i64 a.kind, .int .i64 a.n, v] :=
  rep_pair (rep_int (by omega) (by omega)) (rep_pair (rep_int (by omega) (by omega)) h.rep)

theorem Rd.keep {M : Nat → Prop} {w w' : World} {F : Nat → Prop} {r : Nat} {l : List UInt8} (h : Rd w F r l) (k : Keep M w w') (hr : ¬ M r) (hm : ∀ i, F i → ¬ M i) : Rd w' F r l := by
  obtain ⟨u, h1, h2, h3, h4, h5⟩ := h
  exact ⟨u, by rw [k.cell (p := ⟨r, 0, none⟩) h5 hr]; exact h1, by rw [k.frozen (p := ⟨r, 0, none⟩) h5 hr]; exact h2, h3.keep k (fun i _ hi => hm i hi), h4, Nat.lt_of_lt_of_le h5 k.size⟩

def PDec (w : World) (l : List UInt8) : Ending → World → Prop := fun e w' =>
  ∃ v b, e = .returned v ∧ Own w' (fun k => w.heap.size ≤ k) 34 b (dec l) v ∧ New w w'

theorem decode_any (F : Nat → Prop) (l : List UInt8) (v : Value) (w : World) (hl : l.length ≤ 3000) (hv : SlRep w F l v) :
   Calls Try.prog 8 #[v] w (PDec w l) := by
  have hv0 : SlRep (w.alloc (.cells #[v] 38)) (fun k => k < w.heap.size) l v := (hv.sub (fun _ h _ => h)).new ((Keep.refl _ _).alloc _)
  obtain ⟨a, c, rfl, hlc, hc⟩ := hv.shape
  have hr := Row.alloc w 38 [.slice a l.length c]
  have hrd : Rd (w.alloc (.cells #[.slice a l.length c] 38)) (fun k => k < w.heap.size) w.heap.size l := ⟨_, hr.cell 0 rfl, hr.frozen 0, hv0, fun k h => by omega, hr.lt⟩
  have k0 : New w (w.alloc (.cells #[.slice a l.length c] 38)) := (Keep.refl _ _).alloc _
  clear hv hv0 hr hlc hc
  refine calls_hide fun R hR => ?_
  go_enter Try.func8, Try.ntmps8
  go_wp2
  go_loopg [3] l.length (fun n ov wr => ∃ l' acts b, Rd wr (fun k => k < w.heap.size) w.heap.size l' ∧ l'.length ≤ n ∧ n ≤ 3000 ∧ acts.length + l'.length ≤ 3000 ∧ Aside (dec l = acts ++ dec l') ∧ Own wr (fun k => w.heap.size < k) 34 b acts ov ∧ New w wr ∧ Aside (∀ g, b = some g → w.heap.size < g))
  case atStart => exact ⟨l, [], none, hrd, Nat.le_refl _, hl, by simpa using hl, by simp [Aside], Own.nil _ _ _ _, k0, by simp [Aside]⟩
  case round =>
    clear hrd k0
    obtain ⟨l', acts, b, h1, h2, h3, h4, h5, h6, h7, h8⟩ := hrel
    obtain ⟨vv, q1, q2, q3, q4, q5⟩ := h1
    have h1 : Rd wr (fun k => k < w.heap.size) w.heap.size l' := ⟨vv, q1, q2, q3, q4, q5⟩
    obtain ⟨a', c', rfl, q6, q7⟩ := q3.shape
    cases l' with
    | nil =>
      clear q2 q4 q5
      go_wp2
      exact hR.out _ _ ⟨_, b, rfl, by have := h5.out; rw [show dec [] = [] by unfold dec; rfl, List.append_nil] at this; rw [this]; exact h6.sub (fun _ _ h => Nat.le_of_lt h), h7⟩
    | cons k l' =>
      have hpos : (0 : Int) < ((k :: l').length : Int) := by simp
      go_wp2_with fail
      refine (act_rd w.heap.size (fun k => k < w.heap.size) k l' wr (by omega) h1 (fun i hi => by have := h7.size; omega)).mono ?_
      rintro e w1 ⟨u, rfl, g1, g2, g3⟩
      have hb1 := actOf_fits k l'
      have hb2 := actOf_len k l'
      have hd := h5.out
      rw [show dec (k :: l') = (actOf k l').1 :: dec (actOf k l').2 by rw [dec]] at hd
      generalize (actOf k l').1 = act at *
      generalize (actOf k l').2 = rest at *
      have h6' : Own w1 (fun k => w.heap.size < k) 34 b acts u3 := h6.keep g3 (fun i _ h e => by subst e; exact h.elim (by omega) (fun h => absurd (h8.out _ h) (by omega)))
      have hsub : ∀ k, k < w1.heap.size → wr.heap.size ≤ k → w.heap.size < k ∧ b ≠ some k := fun k _ hk => ⟨by omega, fun e => by subst e; have := h6.lt; omega⟩
      obtain ⟨ua, uc, rfl, ub1, ub2⟩ := g1.shape
      go_wp2_with (at_builtin; refine wpList_app E28 rfl _ _ rfl rfl rfl (h6'.new ((Keep.refl _ _).alloc _)) (Src.built (m := [act]) (Reps.single (act_rep (g1.sub hsub) ⟨hb1.1, hb1.2.1⟩ ⟨hb1.2.2.1, hb1.2.2.2.1⟩)) _ _ rfl _ (by simp)) ?_ ?_ ?_)
      · simp at h4 ⊢; omega
      · simp at h4 ⊢; simp [maxLen]; omega
      intro v' w2 b' r1 r2 r3 r4
      have kw : New w w2 := (h7.then g3 (fun i h e => absurd h (by omega))).then ((Keep.refl _ _).alloc _ |>.then r2 (fun _ _ h => h)) (fun i h e => absurd (h8.out i e) (by omega))
      have rd2 : Rd w2 (fun k => k < w.heap.size) w.heap.size rest :=
        (g2.new ((Keep.refl _ _).alloc (.cells [.int .i64 act.kind, .int .i64 act.n, .slice ua act.bytes.length uc].toArray 34))).keep r2 (fun e => absurd (h8.out _ e) (by omega)) (fun i hi e => absurd (h8.out _ e) (by omega))
      have hb' : ∀ g, b' = some g → w.heap.size < g := by
        intro g hg
        rcases r3 with r3 | r3
        · exact h8.out g (r3 ▸ hg)
        · have := g3.size; rw [r3] at hg; cases hg; simp; omega
      have Hd := Lib.hid hd
      clear h1 h5 h6 h7 h8 q1 q2 q3 q4 q5 q6 q7 g1 g2 g3 h6' hsub r2 r3 r4 hd
      have Hb := Lib.hid hb'
      clear hb'
      go_wp2
      go_roundg rest.length
      case measure => simp at h2; omega
      case rel => exact ⟨rest, acts ++ [act], b', rd2, Nat.le_refl _, by simp at h2; omega, by simp at h4 ⊢; omega, by rw [Hd.out]; simp [Aside], r1, kw, Hb.out⟩
end Go.Proofs.Ytcifkcijohlamaa
