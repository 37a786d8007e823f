/- For every unit, unit.Right answers what the reference of layer 9 answers: the row UnitRights holds. No condition. -/
import Derived.Test.YtkdendaohlnlcaaRows
import Derived.Test.YtkdendaohlnlcaaLawUnitRights
import Derived.WalkKit
import Derived.ProofKit
import Derived.OpenShut
import Derived.ShutString
import Derived.ChangeOld
import Derived.Below
import Derived.SizedLaws
import Derived.Carry
namespace Go.Proofs.Ytkdendaohlnlcaa.unitRights
open Go.ChangeShapes Go.WideShapes Go.ChangeAt Go.RowKit
set_option linter.unusedVariables false
theorem own : ownKnob Try.prog.godebug = none := by kernel_rfl
theorem laid : laidOutB Try.prog = true := by kernel_rfl
theorem calls (W : World) (args : Array Value) (u : Av.U) (hok : u.okN) (hr : Av.RepL (Av.ghOf W) [(Av.dA Av.cU).enc u] args.toList) :
    Calls Try.prog 4 args W fun e W' => e = .returned (.bool true) ∧ Below W.heap.size W W' := by
  refine (Av.unitRights_call (w0 := ⟨W, Av.ghOf W⟩) (k := []) (H := fun _ => none) u hok).2 (Av.ghOf W) W args (Av.sim_start W) (fun _ _ => ⟨rfl, rfl⟩) hr _ fun G' w' V _ _ hs hv => ?_
  simp only [Av.Rep] at hv
  subst hv
  exact ⟨rfl, hs.below⟩
set_option maxRecDepth 100000 in
theorem lifted (os : Os) (started : os.Started) (H : Type) (enc : TypeId × Value → H) :
    ReturnsInHanded {} Try.checked os 4 .any (Rows.unitRightsSpec.pre6 enc Try.prog Try.f4 Rows.unitRightsRow.domain false) (Rows.unitRightsSpec.post enc Try.prog Try.f4 false true false false) := by
  refine returnsInHanded_of_change_sized (C := Try.checked) own started (by kernel_rfl) Try.func4
    (ChangeSpec.witness6 (enc := enc) (C := Try.checked) false ⟨#[], #[.agg #[.slice none 0 0, .int .i64 0, .int .i64 0, .slice none 0 0, .slice none 0 0]], []⟩ 8 (by kernel_rfl) (by kernel_rfl) (by kernel_rfl) (by kernel_rfl)) ?_
  intro W base args ds gs before hval0 hW hcnd hsz0 _
  have hval : ∀ (j : Nat) t v, Try.f4.params[j]? = some t → args[j]? = some v → Value.okWide Try.prog W .any base t v := hval0
  have hW' := hW
  obtain ⟨p, q, hA0, hV, rfl, hfz, hnd⟩ := hW
  have hA : DataW.TrodAll enc Try.prog W 0 (fun _ => true) true Try.f4.params.toList args.toList ds p := hA0
  rw [Try.params4] at hA hval
  obtain ⟨v0, vs0, d0, ds0, p0, q0, hargs, rfl, rfl, h0, r0⟩ := trodAll_cons hA
  obtain ⟨rfl, rfl, rfl⟩ := trodAll_nil r0
  obtain rfl : args = #[v0] := by cases args; simp_all
  obtain ⟨rfl, rfl⟩ := trodVars_none hV
  have hlt : ∀ x ∈ p0, x.block < W.heap.size := fun x hx => by simpa using hW'.lt x (by simpa using hx)
  obtain ⟨fuel, hf⟩ := h0
  obtain ⟨u, hok, hr⟩ := Av.trodU _ _ _ hf
  have hv0 := hval 0 29 v0 rfl rfl
  unfold Value.okWide at hv0
  rw [Try.underlying29] at hv0
  obtain ⟨cs, rfl, _, _⟩ := hv0
  clear hA0 hval0 hsz0
  refine (calls W _ u hok (Av.repL_one (by simp only [Av.dA, Av.Rep]; exact ⟨cs.toList, by simp, by simpa [Value.cells] using hr⟩))).mono fun e W' ⟨he, bel⟩ => ?_
  subst he
  exact ⟨_, rfl, _, _, _, [], _, [], hW', trodAll_mk1 (shut_bool Try.underlying4 _), (trodAll_cons_mk (Below.trod laid (by kernel_rfl) (of_decide_eq_true (by kernel_rfl)) ⟨fuel, hf⟩ bel hlt) trodAll_mk0), rfl, bel.frame _, fun h => by cases h⟩
theorem over : Rows.unitRightsRow.holds Try.pinned (OpenSpec.ofChange Rows.unitRightsSpec) :=
  OpenClaim.holds_of_wide 4 Try.f4 rfl rfl rfl rfl rfl rfl rfl ⟨rfl, rfl, rfl, rfl, rfl⟩ rfl rfl rfl rfl rfl (by kernel_rfl) Try.func4 (by kernel_rfl)
    (of_decide_eq_true (by kernel_rfl)) (by unfold Func.isWrapper; first | (rw [if_pos (by decide +kernel)]; kernel_rfl) | (rw [if_neg (by decide +kernel)]; exact ⟨rfl, rfl⟩))
    (fun os started H enc _ => lifted os started H enc)
end Go.Proofs.Ytkdendaohlnlcaa.unitRights
namespace Go.Proofs.Ytkdendaohlnlcaa
/-- The row, under a short name, for the claim. -/
theorem unitRights_holds : Rows.UnitRightsSaid := unitRights.over
#print axioms unitRights_holds
end Go.Proofs.Ytkdendaohlnlcaa
