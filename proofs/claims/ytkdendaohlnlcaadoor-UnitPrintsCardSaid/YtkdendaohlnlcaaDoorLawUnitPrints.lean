/- The law of UnitPrints answers true, whatever the unit is. No condition. -/
import Derived.Test.YtkdendaohlnlcaaDoorR09c
namespace Go.Proofs.YtkdendaohlnlcaaDoor.Av
set_option linter.unusedVariables false
set_option linter.unusedSimpArgs false
set_option maxRecDepth 4000
set_option maxHeartbeats 1000000
variable {w0 : Base} {k : List Nat} {H : Hp}
def specLP : Spec := (Spec.no.add 4 (sp1 (dA cU) (fun u => u.okN) fun u => .tup [.str (T u.printT), .int .i64 u.printE])).add 5 (sp1 (dA cU) (fun u => u.okN) fun u => .tup [.str (T u.printT), .int .i64 u.printE])
theorem specLP_ok (hw : TabW w0) : SpecOk Tryd.prog w0 specLP := (Spec.no_ok.add (sp1_ok fun u h k H => printU_call hw u h)).add (sp1_ok fun u h k H => printR_call hw u h.1)
theorem unitPrints_call (hw : TabW w0) (u : U) (hok : u.okN) : CallAt Tryd.prog w0 k 3 [(dA cU).enc u] H H (.bool true) := by
  refine callAt tabOk (specLP_ok hw) mixed Tryd.func3 rfl rfl Tryd.results3 Tryd.ntmps3 (by simp) [] ?_
  intro hfr t hl ht
  simp only [At, dA, cU, U.cells] at ht
  simp (config := {contextual := true, maxSteps := 5000000}) only [go_sem, Nat.reduceAdd, Nat.reduceLT, Nat.reduceBEq, Nat.reduceSub, Nat.reduceMul, Nat.reduceLeDiff, Int.reduceToNat, Nat.reduceEqDiff, Nat.reduceMod, ht, hl, specLP]
  simp [hok]
end Go.Proofs.YtkdendaohlnlcaaDoor.Av
