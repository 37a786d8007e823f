/- What organonref03.Text answers. No condition. -/
import Derived.Test.YtkdendaohlnlcaaDoorR03
namespace Go.Proofs.YtkdendaohlnlcaaDoor.Av
set_option linter.unusedVariables false
set_option linter.unusedSimpArgs false
set_option maxRecDepth 4000
set_option maxHeartbeats 1000000
variable {w0 : Base} {k : List Nat} {H : Hp}
theorem specTx_ok (hI : SpecOk Tryd.prog w0 specIt) : ∀ N, SpecOk Tryd.prog w0 (specTx N)
  | 0 => hI.add (sp1_ok fun e h k H => absurd h.1 (by omega))
  | N + 1 => hI.add (sp1_ok fun e h k H => text_step N (specLs_ok N (specTx_ok hI N)) e h)
theorem text03_call (hI : SpecOk Tryd.prog w0 specIt) (e : E) (hs : e.sz ≤ 1000) (h : e.sh = true) : CallAt Tryd.prog w0 k 15 [e.av] H H (.str (T e.txt)) :=
  text_step 1000 (specLs_ok 1000 (specTx_ok hI 1000)) e ⟨by omega, by omega, h⟩
end Go.Proofs.YtkdendaohlnlcaaDoor.Av
