import Derived.Test.YtcifkcijohlamaaWalk3
import Derived.Deep.QuietTactic
import Derived.BigQuiet
namespace Go.Proofs.Ytcifkcijohlamaa
open Go.RowKit Go.LB
set_option linter.unusedVariables false
set_option maxHeartbeats 400000

def marks : List UInt8 := [201, 202, 203, 204, 205, 206]
/-- A copy with marked room behind. -/
def Marked (w : World) (l : List UInt8) (v : Value) : Prop := ∃ a c, v = .slice a l.length c ∧ l.length + 6 ≤ c ∧ c ≤ maxLen ∧ SlRep w (fun _ => True) (l ++ marks) (.slice a (l.length + 6) c)
def PBytes (w : World) (l : List UInt8) : Ending → World → Prop := fun e w' => ∃ v, e = .returned v ∧ New w w' ∧ Marked w' l v

theorem bytes_any (F : Nat → Prop) (l : List UInt8) (v : Value) (w : World) (hl : l.length ≤ 3000) (hv : SlRep w F l v) :
   Calls Try.prog 5 #[v] w (PBytes w l) := by
  have H := Lib.hid hv
  obtain ⟨a, c, rfl, hlc, hc⟩ := hv.shape
  clear hv
  refine calls_hide fun R hR => ?_
  go_enter Try.func5, Try.ntmps5
  go_wp2_with (at_make; refine wpList_make E22 (fun _ => False) rfl _ _ rfl .i64 .i64 _ (l.length + 6) rfl rfl ?_ ?_ ?_ ?_)
  · simp
  · omega
  · simp [maxLen]; omega
  intro w1 h1 k1
  go_wp2_with (at_builtin; refine wpList_app E22 rfl _ _ rfl rfl rfl h1 (H.out.new k1).src.bytes ?_ ?_ ?_)
  · simp; omega
  · simp [maxLen]; omega
  intro v2 w2 b2 h2 k2 e2 n2
  go_wp2_with (at_builtin; refine wpList_app E22 rfl _ _ rfl rfl rfl (h2.new ((Keep.refl _ _).alloc _)) (Src.built (m := marks) (reps_bytes.2 rfl) _ _ rfl _ (by simp)) ?_ ?_ ?_)
  · simp [marks]; omega
  · simp [maxLen, marks]; omega
  intro v3 w3 b3 h3 k3 e3 n3
  have k03 : New w w3 := by
    have a1 : New w w2 := k1.then k2 (fun i hi e => by cases e; omega)
    exact (a1.alloc _).then k3 (fun i hi e => by
      rcases e2 with e2 | e2
      · rw [e2] at e; cases e; omega
      · have := k1.size; rw [e2] at e; cases e; omega)
  have h3' := h3.any
  have hlen : (l ++ marks).length = l.length + 6 := by simp [marks]
  obtain ⟨a3, c3, rfl, q1, q2⟩ := h3'.shape
  have H3 := Lib.hid h3'
  rw [hlen] at q1 ⊢
  clear h1 h2 h3 k1 k2 k3 e2 e3 n2 n3 h3'
  unfold maxLen at q2 hc
  go_wp2
  exact hR.out _ _ ⟨_, rfl, k03, a3, c3, rfl, q1, q2, by have := H3.out; rwa [hlen] at this⟩

theorem kept_any (F : Nat → Prop) (l : List UInt8) (v u : Value) (w : World) (hl : l.length ≤ 3000) (hv : Marked w l v) (hu : SlRep w F l u) :
   Calls Try.prog 10 #[v, u] w fun e w' => e = .returned (.bool true) ∧ New w w' := by
  have HU := Lib.hid hu
  obtain ⟨a', c', rfl, hlc', hc'⟩ := hu.shape
  clear hu
  obtain ⟨a, c, rfl, h1, h2, h3⟩ := hv
  have hlen : (l ++ marks).length = l.length + 6 := by simp [marks]
  have h3' := h3
  rw [← hlen] at h3'
  obtain ⟨b, off, c0, e0, hb, _, hcell⟩ := h3.byte_cells (by simp [marks])
  obtain rfl : a = some ⟨b, off, none⟩ := by injection e0
  have hs1 : ∀ n, (convert 22 9 (.slice (some ⟨b, off, none⟩) l.length c)).run Try.prog (w.drewN n) = .ok (.string (bstr l)) (w.drewN n) := fun n => by
    have h4 := (h3.take l.length c (by omega) (by omega) h2).new ((Keep.refl _ _).drewN n)
    rw [List.take_left] at h4
    exact run_str 22 5 9 Try.underlying22 Try.underlying5 Try.underlying9 h4
  have hs2 : ∀ n, (convert 22 9 (.slice a' l.length c')).run Try.prog (w.drewN n) = .ok (.string (bstr l)) (w.drewN n) := fun n => run_str 22 5 9 Try.underlying22 Try.underlying5 Try.underlying9 (HU.out.new ((Keep.refl _ _).drewN n))
  unfold maxLen at h2 hc'
  have hlt : decide ((c : Int) < (l.length : Int) + 6) = false := by simp; omega
  clear h3 h3'
  have HC := Lib.hid hcell
  clear hcell
  go_enter Try.func10, Try.ntmps10
  go_wp2
  go_quiet (fail)
  go_wp2
  go_loopw [6] (fun i wr => ∃ k m : Nat, k ≤ 6 ∧ i = .int .i64 (k : Int) ∧ wr = w.drewN m) (fun i _ => 6 - (intOf i).toNat)
  case atStart => exact ⟨0, nq, by omega, rfl, rfl⟩
  case round =>
    clear hs1 hs2 hlt
    obtain ⟨k, m, hk, rfl, rfl⟩ := hrel
    by_cases hlt : k < 6
    · have hcell := HC.out (l.length + k) (by omega)
      have hval : (l ++ marks).getD (l.length + k) 0 = UInt8.ofNat (201 + k) := by
        rw [List.getD_eq_getElem?_getD, List.getElem?_append_right (by omega), Nat.add_sub_cancel_left]
        match k, hlt with
        | 0, _ | 1, _ | 2, _ | 3, _ | 4, _ | 5, _ => rfl
      have hn : ((UInt8.ofNat (201 + k)).toNat : Int) = 201 + k := by
        match k, hlt with
        | 0, _ | 1, _ | 2, _ | 3, _ | 4, _ | 5, _ => rfl
      rw [hval, hn] at hcell
      have hw8 : IntKind.wrap .u8 (201 + (k : Int)) = 201 + k := by
        match k, hlt with
        | 0, _ | 1, _ | 2, _ | 3, _ | 4, _ | 5, _ => rfl
      have i1 : (l.length : Int) + k < c := by omega
      have i2 : (0 : Int) ≤ (l.length : Int) + k := by omega
      have i3 : ((l.length : Int) + k).toNat = l.length + k := by omega
      have hw2 : IntKind.wrap .i64 ((l.length : Int) + k) = l.length + k := IntWalk.i64_in _ (by omega)
      clear hval hn
      go_wp2
      exact ⟨⟨k + 1, m, by omega, by go_num, rfl⟩, by simp [intOf]; omega⟩
    · go_wp2
      go_ret
      exact ⟨rfl, (Keep.refl _ _).drewN _⟩
end Go.Proofs.Ytcifkcijohlamaa
