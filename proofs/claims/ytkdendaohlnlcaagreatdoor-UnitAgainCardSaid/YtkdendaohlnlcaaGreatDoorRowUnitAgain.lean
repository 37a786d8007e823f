/- The law UnitAgain answers true at every input: the row holds, and its card. No condition. -/
import Derived.Test.YtkdendaohlnlcaaGreatDoorRows
import Derived.Test.YtkdendaohlnlcaaGreatDoorCards
import Derived.Test.YtkdendaohlnlcaaGreatDoorTie
import Derived.Test.YtkdendaohlnlcaaGreatDoorMf
import Derived.WalkKit
import Derived.ProofKit
import Derived.OpenShut
import Derived.ShutString
import Derived.ChangeOld
import Derived.ChangeMaps5
import Derived.Below
import Derived.SizedLaws
import Derived.Carry
import Derived.Deep.DeepHandedRow
import Derived.Lib.LaidTab
import Derived.Stop.LaidErr
import Derived.SevenTiedAt
import Derived.Shelf.LaysM
namespace Go.Proofs.YtkdendaohlnlcaaGreatDoor.unitAgain
open Go.ChangeShapes Go.WideShapes Go.ChangeAt Go.RowKit
open Go.ChangeMaps (open_string shut_string)
set_option linter.unusedVariables false
theorem own : ownKnob Tryz.prog.godebug = none := by kernel_rfl
theorem laidOut : laidOutB Tryz.prog = true := by kernel_rfl
theorem calls (W : World) (args : Array Value) (hmax : Av.MaxW ⟨W, Av.ghOf W⟩) (htab : Av.TabW ⟨W, Av.ghOf W⟩) (s0 : ByteArray) (hs0 : s0.size ≤ 140737488355328) (hr : Av.RepL (Av.ghOf W) [.str s0] args.toList) :
    Calls Tryz.prog 7 args W fun e W' => e = .returned (.bool true) ∧ Below W.heap.size W W' := by
  refine ((Av.unitAgain_call (w0 := ⟨W, Av.ghOf W⟩) (k := []) (H := fun _ => none) hmax htab s0).body Tryz.func7 rfl).2 (Av.ghOf W) W args (Av.sim_start W) (fun _ _ => ⟨rfl, rfl⟩) hr _ fun G' w' V _ _ hs hv => ?_
  simp only [Av.Rep] at hv
  subst hv
  exact ⟨rfl, hs.below⟩
/-- What a listed table holds. -/
def litOf : DataW Unit → List Value
  | .lit y => [y.value]
  | .agg l => l.map fun x => match x with
    | .lit y => y.value
    | _ => .int .u8 0
  | _ => []
def litsOf : DataW Unit → Array Value
  | .agg l => (l.flatMap litOf).toArray
  | _ => #[]
def put (d : DataW Unit) : Obj → Obj
  | .cells _ t frozen => .cells (litsOf d) t frozen
  | o => o
/-- The settled world, the listed tables as their initialisers lay them: the witness. -/
noncomputable def laidWorld (os : Os) : World :=
  { World.holding Tryz.prog os ⟨#[], #[], []⟩ with heap := (((((World.holding Tryz.prog os ⟨#[], #[], []⟩).heap.modify 1 (put Rows.laid_internal_strconv_uint64pow10)).modify
    4 (put Rows.laid_math_bits_deBruijn32tab)).modify 5 (put Rows.laid_math_bits_deBruijn64tab)).modify 3 (put Rows.laid_unicode_utf8_acceptRanges)).modify 2 (put Rows.laid_unicode_utf8_first) }
theorem laid_met (os : Os) (args : Array Value) : laidMet Tryz.prog Rows.unitAgainRow.laid ((laidWorld os).forCall (fun _ _ => 0) ⟨#[], args, []⟩).memory :=
  laidMet_of_run' 8 (by kernel_rfl) (by kernel_rfl)
theorem witness_row (os : Os) {H : Type} (enc : TypeId × Value → H) :
    (OpenSpec.ofChange Rows.unitAgainSpec).preRow enc Tryz.prog Tryz.f7 Rows.unitAgainRow.domain false Rows.unitAgainRow.laid ((laidWorld os).forCall (fun _ _ => 0) ⟨#[], #[.string ⟨#[]⟩], []⟩).memory #[.string ⟨#[]⟩] := by
  have hw : (DataW.whole enc Tryz.prog ((laidWorld os).forCall (fun _ _ => 0) ⟨#[], #[.string ⟨#[]⟩], []⟩).memory Tryz.f7.params.toList (OpenSpec.ofChange Rows.unitAgainSpec).vars false #[Value.string ⟨#[]⟩].toList 8).map (fun x => (x.1, x.2.1)) =
      some ([.lit (.string [])], []) := by kernel_rfl
  obtain ⟨⟨x1, x2, x3⟩, hx, hx1⟩ := Option.map_eq_some_iff.1 hw
  simp only [Prod.mk.injEq] at hx1
  obtain ⟨rfl, rfl⟩ := hx1
  exact OpenSpec.preRow_of_cond 8 hx (by kernel_rfl) (fun k hk => by cases hk) (by kernel_rfl) (laid_met os _)
set_option maxRecDepth 100000 in
theorem lifted (os : Os) (started : os.Started) (H : Type) (enc : TypeId × Value → H) (F : Stop.Interp) :
    ReturnsInHanded {} Tryz.checked os 7 .any ((OpenSpec.ofChange Rows.unitAgainSpec).preRow enc Tryz.prog Tryz.f7 Rows.unitAgainRow.domain false Rows.unitAgainRow.laid) (((OpenSpec.ofChange Rows.unitAgainSpec).at F).post enc Tryz.prog Tryz.f7 false true false false) := by
  refine returnsInHanded_of_row (C := Tryz.checked) (s := OpenSpec.ofChange Rows.unitAgainSpec) own started (by kernel_rfl) Tryz.func7
    (witness_row_at (enc := enc) (C := Tryz.checked) false (laidWorld os) #[.string ⟨#[]⟩] rfl (by kernel_rfl) (by kernel_rfl) (by kernel_rfl) (witness_row os enc)) ?_
  intro W base args ds gs before hval0 hW _ _ hsz0 hL hsh _
  have hval : ∀ (j : Nat) t v, Tryz.f7.params[j]? = some t → args[j]? = some v → Value.okWide Tryz.prog W .any base t v := hval0
  have hW' := hW
  obtain ⟨p, q, hA0, hV, rfl, hfz, hnd⟩ := hW
  have hA : DataW.TrodAll enc Tryz.prog W 0 (fun _ => true) true Tryz.f7.params.toList args.toList ds p := hA0
  have hsz : (DataW.weightsEach Tryz.prog (Tryz.f7.params.toList ++ (OpenSpec.ofChange Rows.unitAgainSpec).bare.plain.varTypes Tryz.prog) (ds ++ gs)).all (· ≤ reachBytes) = true := hsz0
  rw [Tryz.params7] at hA hval hsz
  obtain ⟨v0, vs0, d0, ds0, p0, q0, hargs0, rfl, rfl, h0, r0⟩ := trodAll_cons hA
  obtain ⟨rfl, rfl, rfl⟩ := trodAll_nil r0
  obtain rfl : args = #[v0] := by cases args; simp_all
  obtain ⟨rfl, rfl⟩ := trodVars_none hV
  have hlt0 : ∀ x ∈ p0, x.block < W.heap.size := fun x hx => hW'.lt x (by simp [hx])
  obtain ⟨s0, rfl⟩ := okWide_string Tryz.underlying9 (hval 0 9 v0 rfl rfl)
  have hsz10 : s0.size ≤ 140737488355328 := by
    obtain ⟨s', e1, e2, _, _⟩ := open_string Tryz.underlying9 (hval 0 9 (.string s0) rfl rfl) h0
    cases e1
    have := sized_string hsz (j := 0) (t := 9) rfl (by rw [e2]; rfl)
    have h47 := reachBytes_lt
    rw [Lib.size_eq]
    omega
  obtain ⟨fuel0, hf0⟩ := h0
  clear hA0 hval0 hsz0
  have hmax : Av.MaxW ⟨W, Av.ghOf W⟩ := Go.Proofs.cell_of_shapedOpen_int (zero := #[.int .i64 0]) (t := 3) hsh (of_decide_eq_true (by kernel_rfl)) (by kernel_rfl) rfl (by kernel_rfl) (by kernel_rfl) Tryz.underlying3
  have htab : Av.TabW ⟨W, Av.ghOf W⟩ := Lib.tabIs_of_head (name := "internal/strconv.uint64pow10") (rest := [("unicode/utf8.acceptRanges", Rows.laid_unicode_utf8_acceptRanges), ("unicode/utf8.first", Rows.laid_unicode_utf8_first)]) (g := 1) (by kernel_rfl) (by kernel_rfl) Tryz.underlying169 Tryz.underlying151 (by kernel_rfl) (by kernel_rfl) (laidMet.tail (laidMet.tail hL))
  refine (calls W _ hmax htab s0 hsz10 (by simp [Av.RepL, Av.Rep])).mono fun e W' ⟨he, bel⟩ => ?_
  subst he
  exact ⟨_, rfl, _, _, _, [], _, [], hW', trodAll_mk1 (shut_bool Tryz.underlying4 _), (trodAll_cons_mk (Below.trod laidOut (by kernel_rfl) (of_decide_eq_true (by kernel_rfl)) ⟨fuel0, hf0⟩ bel hlt0) trodAll_mk0), rfl, bel.frame _, fun h => by cases h⟩
theorem over : Rows.unitAgainRow.holds Tryz.pinned (OpenSpec.ofChange Rows.unitAgainSpec) :=
  OpenClaim.holds_of_cond 7 Tryz.f7 rfl rfl rfl rfl rfl rfl rfl ⟨rfl, rfl, rfl, rfl, rfl⟩ rfl rfl rfl rfl rfl (by kernel_rfl) Tryz.func7 (by kernel_rfl)
    (of_decide_eq_true (by kernel_rfl)) (by unfold Func.isWrapper; first | (rw [if_pos (by decide +kernel)]; kernel_rfl) | (rw [if_neg (by decide +kernel)]; exact ⟨rfl, rfl⟩))
    (fun os started H enc _ F0 => by rw [OpenClaim.pre_eq_preRow]; exact lifted os started H enc F0)
end Go.Proofs.YtkdendaohlnlcaaGreatDoor.unitAgain
namespace Go.Proofs.YtkdendaohlnlcaaGreatDoor
/-- The card, under a short name, for the claim. -/
theorem unitAgain_holds : Rows.UnitAgainCardSaid :=
  Claim7.holds_tied_plain_at .later [] [.data, .data, .data, .data, .pinned] true _ _
    unitAgain.over (fun _ h => by cases h) (by kernel_rfl) (fun _ h => by cases h) unitAgain_row_tie rfl ⟨rfl, rfl⟩ (by kernel_rfl) rfl
    (fun f fn hf hfn => by
      obtain rfl : f = 7 := Option.some.inj ((show Tryz.prog.funcNamed "organon/organonlaw09.UnitAgain" = some 7 by kernel_rfl).symm.trans hf) |>.symm
      obtain rfl : fn = Tryz.f7 := (Option.some.inj (Tryz.func7.symm.trans hfn)).symm
      exact ⟨by kernel_rfl, fun j t ht => by
        rw [Tryz.params7] at ht
        have h3 : t = 9 := by
          rcases j with _ | j
          · simpa using ht.symm
          · simp at ht
        subst h3
        exact (show Tryz.prog.wantsStandIn 9 = false by kernel_rfl)⟩)
    (by kernel_rfl)
#print axioms unitAgain_holds
end Go.Proofs.YtkdendaohlnlcaaGreatDoor
