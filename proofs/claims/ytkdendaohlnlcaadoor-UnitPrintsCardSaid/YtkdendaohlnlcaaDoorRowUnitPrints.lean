/- For every unit, unit.Print answers what the reference of layer 9 answers: the row UnitPrints holds, and its card. No condition. -/
import Derived.Test.YtkdendaohlnlcaaDoorRows
import Derived.Test.YtkdendaohlnlcaaDoorCards
import Derived.Test.YtkdendaohlnlcaaDoorTie
import Derived.Test.YtkdendaohlnlcaaDoorLawUnitPrints
import Derived.Test.YtkdendaohlnlcaaDoorBr
import Derived.WalkKit
import Derived.ProofKit
import Derived.OpenShut
import Derived.ShutString
import Derived.ChangeOld
import Derived.Below
import Derived.SizedLaws
import Derived.Carry
import Derived.Deep.DeepHandedRow
import Derived.Lib.LaidTab
import Derived.Stop.LaidErr
import Derived.SevenTiedAt
namespace Go.Proofs.YtkdendaohlnlcaaDoor.unitPrints
open Go.ChangeShapes Go.WideShapes Go.ChangeAt Go.RowKit
set_option linter.unusedVariables false
theorem own : ownKnob Tryd.prog.godebug = none := by kernel_rfl
theorem laidOut : laidOutB Tryd.prog = true := by kernel_rfl
theorem calls (W : World) (args : Array Value) (u : Av.U) (hok : u.okN) (hw : Av.TabW ⟨W, Av.ghOf W⟩) (hr : Av.RepL (Av.ghOf W) [(Av.dA Av.cU).enc u] args.toList) :
    Calls Tryd.prog 3 args W fun e W' => e = .returned (.bool true) ∧ Below W.heap.size W W' := by
  refine ((Av.unitPrints_call (w0 := ⟨W, Av.ghOf W⟩) (k := []) (H := fun _ => none) hw u hok).body Tryd.func3 rfl).2 (Av.ghOf W) W args (Av.sim_start W) (fun _ _ => ⟨rfl, rfl⟩) hr _ fun G' w' V _ _ hs hv => ?_
  simp only [Av.Rep] at hv
  subst hv
  exact ⟨rfl, hs.below⟩
/-- What a listed table holds. -/
def litsOf : DataW Unit → Array Value
  | .agg l => (l.map fun x => match x with
    | .lit y => y.value
    | _ => .int .u8 0).toArray
  | _ => #[]
def put (d : DataW Unit) : Obj → Obj
  | .cells _ t frozen => .cells (litsOf d) t frozen
  | o => o
/-- The settled world, the listed tables as their initialisers lay them: the witness. -/
noncomputable def laidWorld (os : Os) : World :=
  { World.holding Tryd.prog os ⟨#[], #[], []⟩ with heap := (((World.holding Tryd.prog os ⟨#[], #[], []⟩).heap.modify 1 (put Rows.laid_internal_strconv_uint64pow10)).modify
    2 (put Rows.laid_math_bits_deBruijn32tab)).modify 3 (put Rows.laid_math_bits_deBruijn64tab) }
theorem laid_met (os : Os) (args : Array Value) : laidMet Tryd.prog Rows.unitPrintsRow.laid ((laidWorld os).forCall (fun _ _ => 0) ⟨#[], args, []⟩).memory :=
  laidMet_of_run' 8 (by kernel_rfl) (by kernel_rfl)
theorem witness_row (os : Os) {H : Type} (enc : TypeId × Value → H) :
    (OpenSpec.ofChange Rows.unitPrintsSpec).preRow enc Tryd.prog Tryd.f3 Rows.unitPrintsRow.domain false Rows.unitPrintsRow.laid ((laidWorld os).forCall (fun _ _ => 0) ⟨#[], #[.agg #[.slice none 0 0, .int .i64 0, .int .i64 0, .slice none 0 0, .slice none 0 0]], []⟩).memory #[.agg #[.slice none 0 0, .int .i64 0, .int .i64 0, .slice none 0 0, .slice none 0 0]] := by
  have hw : (DataW.whole enc Tryd.prog ((laidWorld os).forCall (fun _ _ => 0) ⟨#[], #[.agg #[.slice none 0 0, .int .i64 0, .int .i64 0, .slice none 0 0, .slice none 0 0]], []⟩).memory Tryd.f3.params.toList (OpenSpec.ofChange Rows.unitPrintsSpec).vars false #[Value.agg #[.slice none 0 0, .int .i64 0, .int .i64 0, .slice none 0 0, .slice none 0 0]].toList 8).map (fun x => (x.1, x.2.1)) =
      some ([.agg [.nil, .agg [.lit (.int .i64 0), .lit (.int .i64 0), .nil], .nil]], []) := by kernel_rfl
  obtain ⟨⟨x1, x2, x3⟩, hx, hx1⟩ := Option.map_eq_some_iff.1 hw
  simp only [Prod.mk.injEq] at hx1
  obtain ⟨rfl, rfl⟩ := hx1
  exact OpenSpec.preRow_of_cond 8 hx (by kernel_rfl) (fun k hk => by cases hk) (by kernel_rfl) (laid_met os _)
set_option maxRecDepth 100000 in
theorem lifted (os : Os) (started : os.Started) (H : Type) (enc : TypeId × Value → H) (F : Stop.Interp) :
    ReturnsInHanded {} Tryd.checked os 3 .any ((OpenSpec.ofChange Rows.unitPrintsSpec).preRow enc Tryd.prog Tryd.f3 Rows.unitPrintsRow.domain false Rows.unitPrintsRow.laid) (((OpenSpec.ofChange Rows.unitPrintsSpec).at F).post enc Tryd.prog Tryd.f3 false true false false) := by
  refine returnsInHanded_of_row (C := Tryd.checked) (s := OpenSpec.ofChange Rows.unitPrintsSpec) own started (by kernel_rfl) Tryd.func3
    (witness_row_at (enc := enc) (C := Tryd.checked) false (laidWorld os) #[.agg #[.slice none 0 0, .int .i64 0, .int .i64 0, .slice none 0 0, .slice none 0 0]] rfl (by kernel_rfl) (by kernel_rfl) (by kernel_rfl) (witness_row os enc)) ?_
  intro W base args ds gs before hval0 hW _ _ hsz0 hL _ _
  have hval : ∀ (j : Nat) t v, Tryd.f3.params[j]? = some t → args[j]? = some v → Value.okWide Tryd.prog W .any base t v := hval0
  have hW' := hW
  obtain ⟨p, q, hA0, hV, rfl, hfz, hnd⟩ := hW
  have hA : DataW.TrodAll enc Tryd.prog W 0 (fun _ => true) true Tryd.f3.params.toList args.toList ds p := hA0
  rw [Tryd.params3] at hA hval
  obtain ⟨v0, vs0, d0, ds0, p0, q0, hargs, rfl, rfl, h0, r0⟩ := trodAll_cons hA
  obtain ⟨rfl, rfl, rfl⟩ := trodAll_nil r0
  obtain rfl : args = #[v0] := by cases args; simp_all
  obtain ⟨rfl, rfl⟩ := trodVars_none hV
  have hlt : ∀ x ∈ p0, x.block < W.heap.size := fun x hx => by simpa using hW'.lt x (by simpa using hx)
  obtain ⟨fuel, hf⟩ := h0
  obtain ⟨u, hok, hr⟩ := Av.trodU _ _ _ hf
  have hv0 := hval 0 28 v0 rfl rfl
  unfold Value.okWide at hv0
  rw [Tryd.underlying28] at hv0
  obtain ⟨cs, rfl, _, _⟩ := hv0
  clear hA0 hval0 hsz0
  have htab : Av.TabW ⟨W, Av.ghOf W⟩ := Lib.tabIs_of_head (name := "internal/strconv.uint64pow10") (rest := []) (g := 1) (by kernel_rfl) (by kernel_rfl) Tryd.underlying86 Tryd.underlying77 (by kernel_rfl) (by kernel_rfl) (laidMet.tail (laidMet.tail hL))
  refine (calls W _ u hok htab (Av.repL_one (by simp only [Av.dA, Av.Rep]; exact ⟨cs.toList, by simp, by simpa [Value.cells] using hr⟩))).mono fun e W' ⟨he, bel⟩ => ?_
  subst he
  exact ⟨_, rfl, _, _, _, [], _, [], hW', trodAll_mk1 (shut_bool Tryd.underlying4 _), (trodAll_cons_mk (Below.trod laidOut (by kernel_rfl) (of_decide_eq_true (by kernel_rfl)) ⟨fuel, hf⟩ bel hlt) trodAll_mk0), rfl, bel.frame _, fun h => by cases h⟩
theorem over : Rows.unitPrintsRow.holds Tryd.pinned (OpenSpec.ofChange Rows.unitPrintsSpec) :=
  OpenClaim.holds_of_cond 3 Tryd.f3 rfl rfl rfl rfl rfl rfl rfl ⟨rfl, rfl, rfl, rfl, rfl⟩ rfl rfl rfl rfl rfl (by kernel_rfl) Tryd.func3 (by kernel_rfl)
    (of_decide_eq_true (by kernel_rfl)) (by unfold Func.isWrapper; first | (rw [if_pos (by decide +kernel)]; kernel_rfl) | (rw [if_neg (by decide +kernel)]; exact ⟨rfl, rfl⟩))
    (fun os started H enc _ F0 => by rw [OpenClaim.pre_eq_preRow]; exact lifted os started H enc F0)
end Go.Proofs.YtkdendaohlnlcaaDoor.unitPrints
namespace Go.Proofs.YtkdendaohlnlcaaDoor
/-- The card, under a short name, for the claim. -/
theorem unitPrints_holds : Rows.UnitPrintsCardSaid :=
  Claim7.holds_tied_plain_at .later [] [.data, .data, .data] true _ _
    unitPrints.over (fun _ h => by cases h) (by kernel_rfl) (fun _ h => by cases h) unitPrints_row_tie rfl ⟨rfl, rfl⟩ (by kernel_rfl) rfl
    (fun f fn hf hfn => by
      obtain rfl : f = 3 := Option.some.inj ((show Tryd.prog.funcNamed "organon/organonlaw09.UnitPrints" = some 3 by kernel_rfl).symm.trans hf) |>.symm
      obtain rfl : fn = Tryd.f3 := (Option.some.inj (Tryd.func3.symm.trans hfn)).symm
      exact ⟨by kernel_rfl, fun j t ht => by
        rw [Tryd.params3] at ht
        have h3 : t = 28 := by
          rcases j with _ | j
          · simpa using ht.symm
          · simp at ht
        subst h3
        exact (show Tryd.prog.wantsStandIn 28 = false by kernel_rfl)⟩)
    (by kernel_rfl)
#print axioms unitPrints_holds
end Go.Proofs.YtkdendaohlnlcaaDoor
