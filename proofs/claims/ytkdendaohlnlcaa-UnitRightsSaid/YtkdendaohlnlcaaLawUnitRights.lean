/- The law of UnitRights answers true, whatever the unit is. No condition. -/
import Derived.Test.YtkdendaohlnlcaaBr
namespace Go.Proofs.Ytkdendaohlnlcaa.Av
set_option linter.unusedVariables false
set_option linter.unusedSimpArgs false
set_option maxRecDepth 4000
set_option maxHeartbeats 1000000
variable {w0 : Base} {k : List Nat} {H : Hp}
def specLR : Spec := (Spec.no.add 7 (sp1 (dA cU) (fun u => u.okN) fun u => .int .i64 u.right)).add 8 (sp1 (dA cU) (fun u => u.okN) fun u => .int .i64 u.right)
theorem specLR_ok : SpecOk Try.prog w0 specLR := (Spec.no_ok.add (sp1_ok fun u h k H => right_call u h)).add (sp1_ok fun u h k H => right09_call u h.1)
theorem unitRights_call (u : U) (hok : u.okN) : CallAt Try.prog w0 k 4 [(dA cU).enc u] H H (.bool true) := by
  refine callAt tabOk specLR_ok mixed Try.func4 rfl rfl Try.results4 Try.ntmps4 (by simp) [] ?_
  intro hfr t hl ht
  simp only [At, dA, cU, U.cells] at ht
  simp (config := {contextual := true, maxSteps := 5000000}) only [go_sem, Nat.reduceAdd, Nat.reduceLT, Nat.reduceBEq, Nat.reduceSub, Nat.reduceMul, Nat.reduceLeDiff, Int.reduceToNat, Nat.reduceEqDiff, ht, hl, specLR]
  exact ⟨rfl, hok, hok, List.Pairwise.nil, by simp⟩
end Go.Proofs.Ytkdendaohlnlcaa.Av
