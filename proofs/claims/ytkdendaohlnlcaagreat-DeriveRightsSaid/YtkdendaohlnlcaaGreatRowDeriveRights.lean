/- For every proof, derive.Right answers what the reference of layer 22 answers: the row DeriveRights holds. No condition. -/
import Derived.Test.YtkdendaohlnlcaaGreatRows
import Derived.Test.YtkdendaohlnlcaaGreatMf
import Derived.WalkKit
import Derived.ProofKit
import Derived.OpenShut
import Derived.ShutString
import Derived.ChangeOld
import Derived.Below
import Derived.SizedLaws
import Derived.Carry
namespace Go.Proofs.YtkdendaohlnlcaaGreat.deriveRights
open Go.ChangeShapes Go.WideShapes Go.ChangeAt Go.RowKit
set_option linter.unusedVariables false
theorem own : ownKnob Tryz.prog.godebug = none := by kernel_rfl
theorem laid : laidOutB Tryz.prog = true := by kernel_rfl
theorem calls (W : World) (args : Array Value) (u : List Av.Line) (hok : (u.length : Int) ≤ 9223372036854775807 ∧ ∀ x ∈ u, x.says.ok) (hr : Av.RepL (Av.ghOf W) [(Av.dL Av.cLine).enc u] args.toList) :
    Calls Tryz.prog 3 args W fun e W' => e = .returned (.bool true) ∧ Below W.heap.size W W' := by
  refine ((Av.deriveRights_call (w0 := ⟨W, Av.ghOf W⟩) (k := []) (H := fun _ => none) u hok.1 hok.2).body Tryz.func3 rfl).2 (Av.ghOf W) W args (Av.sim_start W) (fun _ _ => ⟨rfl, rfl⟩) hr _ fun G' w' V _ _ hs hv => ?_
  simp only [Av.Rep] at hv
  subst hv
  exact ⟨rfl, hs.below⟩
set_option maxRecDepth 100000 in
theorem lifted (os : Os) (started : os.Started) (H : Type) (enc : TypeId × Value → H) :
    ReturnsInHanded {} Tryz.checked os 3 .any (Rows.deriveRightsSpec.pre6 enc Tryz.prog Tryz.f3 Rows.deriveRightsRow.domain false) (Rows.deriveRightsSpec.post enc Tryz.prog Tryz.f3 false true false false) := by
  refine returnsInHanded_of_change_sized (C := Tryz.checked) own started (by kernel_rfl) Tryz.func3
    (ChangeSpec.witness6 (enc := enc) (C := Tryz.checked) false ⟨#[], #[.slice none 0 0], []⟩ 8 (by kernel_rfl) (by kernel_rfl) (by kernel_rfl) (by kernel_rfl)) ?_
  intro W base args ds gs before hval0 hW hcnd hsz0 _
  have hval : ∀ (j : Nat) t v, Tryz.f3.params[j]? = some t → args[j]? = some v → Value.okWide Tryz.prog W .any base t v := hval0
  have hW' := hW
  obtain ⟨p, q, hA0, hV, rfl, hfz, hnd⟩ := hW
  have hA : DataW.TrodAll enc Tryz.prog W 0 (fun _ => true) true Tryz.f3.params.toList args.toList ds p := hA0
  rw [Tryz.params3] at hA hval
  obtain ⟨v0, vs0, d0, ds0, p0, q0, hargs, rfl, rfl, h0, r0⟩ := trodAll_cons hA
  obtain ⟨rfl, rfl, rfl⟩ := trodAll_nil r0
  obtain rfl : args = #[v0] := by cases args; simp_all
  obtain ⟨rfl, rfl⟩ := trodVars_none hV
  have hlt : ∀ x ∈ p0, x.block < W.heap.size := fun x hx => by simpa using hW'.lt x (by simpa using hx)
  obtain ⟨fuel, hf⟩ := h0
  obtain ⟨u, hok, hr⟩ := Av.trodLs _ _ _ hf
  have hv0 := hval 0 22 v0 rfl rfl
  unfold Value.okWide at hv0
  rw [Tryz.underlying22] at hv0
  have hc : v0.cells.toList = [v0] := by
    cases v0 with
    | agg cs =>
      exfalso
      have h2 : Cell.okWide Tryz.prog W .any base 22 (.agg cs) := hv0
      unfold Cell.okWide at h2
      rw [Tryz.underlying22] at h2
      have h3 : Cell.ok Tryz.prog W .any base 22 (.agg cs) := h2
      unfold Cell.ok at h3
      rw [Tryz.underlying22] at h3
      exact h3
    | _ => rfl
  rw [hc] at hr
  clear hA0 hval0 hsz0
  refine (calls W _ u hok hr).mono fun e W' ⟨he, bel⟩ => ?_
  subst he
  exact ⟨_, rfl, _, _, _, [], _, [], hW', trodAll_mk1 (shut_bool Tryz.underlying4 _), (trodAll_cons_mk (Below.trod laid (by kernel_rfl) (of_decide_eq_true (by kernel_rfl)) ⟨fuel, hf⟩ bel hlt) trodAll_mk0), rfl, bel.frame _, fun h => by cases h⟩
theorem over : Rows.deriveRightsRow.holds Tryz.pinned (OpenSpec.ofChange Rows.deriveRightsSpec) :=
  OpenClaim.holds_of_wide 3 Tryz.f3 rfl rfl rfl rfl rfl rfl rfl ⟨rfl, rfl, rfl, rfl, rfl⟩ rfl rfl rfl rfl rfl (by kernel_rfl) Tryz.func3 (by kernel_rfl)
    (of_decide_eq_true (by kernel_rfl)) (by unfold Func.isWrapper; first | (rw [if_pos (by decide +kernel)]; kernel_rfl) | (rw [if_neg (by decide +kernel)]; exact ⟨rfl, rfl⟩))
    (fun os started H enc _ => lifted os started H enc)
end Go.Proofs.YtkdendaohlnlcaaGreat.deriveRights
namespace Go.Proofs.YtkdendaohlnlcaaGreat
/-- The row, under a short name, for the claim. -/
theorem deriveRights_holds : Rows.DeriveRightsSaid := deriveRights.over
#print axioms deriveRights_holds
end Go.Proofs.YtkdendaohlnlcaaGreat
