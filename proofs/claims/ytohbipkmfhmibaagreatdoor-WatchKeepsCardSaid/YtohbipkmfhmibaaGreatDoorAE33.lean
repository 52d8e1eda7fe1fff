import Derived.Test.YtohbipkmfhmibaaGreatDoorAE32
/-! AE33: calls, by rewriting. -/
set_option linter.unusedVariables false
namespace Go.AE
open Go.RowKit Go.LB
section
variable {C : Cfg} {call : CallT} {nm : Name} {f : FuncId} {xs : List T} {h h' : Heap} {L : List Name} {r : T} {g : Heap} {s : List Name}
def freeK (nm : Name) (h : Heap) (L : List Name) (r : Option (T × Heap)) : Res := r.map fun r => (r.1, h, toksU nm r.1 ++ L)
theorem freeK_some : freeK nm h L (some (r, g)) = some (r, h, toksU nm r ++ L) := rfl
theorem call_free (h1 : C.ora f = none) (h2 : C.mode f = 0) : eCall C call nm f xs h L = freeK nm h L (call f nm xs []) := by
  simp only [eCall, h1, h2, if_true]; rfl
def oraK (nm : Name) (h : Heap) (L : List Name) (r : Option T) : Res := r.map fun r => (r, h, toksU nm r ++ L)
theorem oraK_some : oraK nm h L (some r) = some (r, h, toksU nm r ++ L) := rfl
theorem call_ora {o : Name → List T → Option T} (h1 : C.ora f = some o) : eCall C call nm f xs h L = oraK nm h L (o nm xs) := by
  simp only [eCall, h1]; rfl
def heapK (call : CallT) (nm : Name) (f : FuncId) (xs : List T) (h : Heap) (L : List Name) (s : Option (List Name)) : Res := s.bind fun s => (call f nm xs (subH h s)).bind fun r => (merge nm s r.2 h).map fun h' => (r.1, h', toksU nm r.1 ++ L)
def heapR (nm : Name) (s : List Name) (h : Heap) (L : List Name) (r : Option (T × Heap)) : Res := r.bind fun r => (merge nm s r.2 h).map fun h' => (r.1, h', toksU nm r.1 ++ L)
def heapM (nm : Name) (r : T) (L : List Name) (h : Option Heap) : Res := h.map fun h' => (r, h', toksU nm r ++ L)
theorem heapK_some : heapK call nm f xs h L (some s) = heapR nm s h L (call f nm xs (subH h s)) := rfl
theorem heapR_some : heapR nm s h L (some (r, g)) = heapM nm r L (merge nm s g h) := rfl
theorem heapM_some : heapM nm r L (some h') = some (r, h', toksU nm r ++ L) := rfl
theorem call_heap (h1 : C.ora f = none) (h2 : C.mode f ≠ 0) : eCall C call nm f xs h L = heapK call nm f xs h L (reach h xs) := by
  simp only [eCall, h1, if_neg h2]; rfl
end
end Go.AE
