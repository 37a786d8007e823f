/- A part of the theory and of the contracts: G12, G13, P02, P02b, Tk6, G14, U2, Bd, Lb, U3, U4, Lk, U5, R08, R08b, U6. No condition. -/
import Derived.Test.YtkdendaohlnlcaaGreatDoorMc
import Derived.Test.YtkdendaohlnlcaaGreatDoorMb
import Derived.WalkSmall
import Derived.Lib.ItoaLen
/- What the program's reader does with formulas, whole. No condition. -/
namespace Go.Proofs.YtkdendaohlnlcaaGreatDoor.Av
set_option linter.unusedVariables false
set_option linter.unusedSimpArgs false
set_option maxRecDepth 4000
set_option maxHeartbeats 1000000
variable {w0 : Base} {k : List Nat} {H : Hp}
theorem nxT {l : List Tk} {i : Nat} {c : Int} (h : sgn l i c = true) : nx l i c = i + 1 := by rw [nx, if_pos h]
theorem nxF {l : List Tk} {i : Nat} {c : Int} (h : sgn l i c = false) : nx l i c = i := by rw [nx, if_neg (by simp [h])]
theorem formP_step (l : List Tk) (hl8 : l.length ≤ 8000) (en m : Nat) (hF : FormP w0 l en m) : FormP w0 l en (m + 1) := by
  intro i id k H hi hi2 hz hH
  refine callO tabOk Spec.no_ok mixed Tryz.func81 rfl rfl Tryz.results81 Tryz.ntmps81 (by simp) [] ?_
  intro hfr t hl ht
  simp only [At, Nat.reduceAdd, List.cons_append, List.nil_append] at ht
  have fN : ∀ (a b : Nat) z ty, H ⟨z, a :: b :: k, ty⟩ = none := fun a b z ty => hfr _ (sfx2 _ _ _)
  have hidn : ∀ (a b : Nat) z ty, (⟨z, a :: b :: k, ty⟩ : Id) ≠ id := fun a b z ty he => by have := fN a b z ty; rw [he, hH] at this; cases this
  have hA : ∀ (a b : Nat) z ty, ((⟨z, a :: b :: k, ty⟩ : Id) = id) = False := fun a b z ty => by simp only [hidn]
  have hB : ∀ (a b : Nat) z ty, (id = (⟨z, a :: b :: k, ty⟩ : Id)) = False := fun a b z ty => by simp only [(hidn a b z ty).symm]
  have hT : TermP w0 l en (l.length + 1) := termP l hl8 en _
  rw [fmF]
  simp (config := {contextual := true, maxSteps := 5000000}) only [go_sem, false_and, Nat.reduceAdd, Nat.reduceLT, Nat.reduceBEq, Nat.reduceSub, Nat.reduceMul, Nat.reduceLeDiff, Int.reduceToNat, Nat.reduceEqDiff, Nat.reduceMod, ht, hl, hA, hB]
  refine callK_intro (take_call id hz l hl8 en i hi2 33 (by decide) (by simp (config := {contextual := true, maxSteps := 5000000}) only [go_sem, false_and, Nat.reduceAdd, Nat.reduceLT, Nat.reduceBEq, Nat.reduceSub, Nat.reduceMul, Nat.reduceLeDiff, Int.reduceToNat, Nat.reduceEqDiff, Nat.reduceMod, hA, hB, hH])) ?_
  cases h1 : sgn l i 33 with
  | true =>
    have hlt := sgn_lt h1
    rw [nxT h1, if_pos rfl]
    simp (config := {contextual := true, maxSteps := 5000000}) only [go_sem, false_and, Nat.reduceAdd, Nat.reduceLT, Nat.reduceBEq, Nat.reduceSub, Nat.reduceMul, Nat.reduceLeDiff, Int.reduceToNat, Nat.reduceEqDiff, Nat.reduceMod, ht, hl, hA, hB]
    refine callK_out (hF (i + 1) id _ _ (by omega) (by omega) hz (by simp (config := {contextual := true, maxSteps := 5000000}) only [go_sem, false_and, Nat.reduceAdd, Nat.reduceLT, Nat.reduceBEq, Nat.reduceSub, Nat.reduceMul, Nat.reduceLeDiff, Int.reduceToNat, Nat.reduceEqDiff, Nat.reduceMod, hA, hB])) ?_
    cases hg : fmF l m (i + 1) with
    | no q =>
      simp only [Got.out, Got.pos]
      simp (config := {contextual := true, maxSteps := 5000000}) only [go_sem, false_and, Nat.reduceAdd, Nat.reduceLT, Nat.reduceBEq, Nat.reduceSub, Nat.reduceMul, Nat.reduceLeDiff, Int.reduceToNat, Nat.reduceEqDiff, Nat.reduceMod, ht, hl, hA, hB]
      exact ⟨_, rfl, Weak.refl _, (le_of (by (first | rfl | exact hH | (simp (config := {contextual := true, maxSteps := 5000000}) only [go_sem, false_and, Nat.reduceAdd, Nat.reduceLT, Nat.reduceBEq, Nat.reduceSub, Nat.reduceMul, Nat.reduceLeDiff, Int.reduceToNat, Nat.reduceEqDiff, Nat.reduceMod, hA, hB]; done) | (simp (config := {contextual := true, maxSteps := 5000000}) only [go_sem, false_and, Nat.reduceAdd, Nat.reduceLT, Nat.reduceBEq, Nat.reduceSub, Nat.reduceMul, Nat.reduceLeDiff, Int.reduceToNat, Nat.reduceEqDiff, Nat.reduceMod, hA, hB]; exact hH) | (simp (config := {contextual := true, maxSteps := 5000000}) only [go_sem, false_and, Nat.reduceAdd, Nat.reduceLT, Nat.reduceBEq, Nat.reduceSub, Nat.reduceMul, Nat.reduceLeDiff, Int.reduceToNat, Nat.reduceEqDiff, Nat.reduceMod, hA, hB]; rfl))) (by repeat (first | exact LeX.refl | refine LeX.same ?_ | refine LeX.new ?_ (fN _ _ _ _))))⟩
    | ok x q =>
      simp only [Got.out, Got.pos]
      simp (config := {contextual := true, maxSteps := 5000000}) only [go_sem, false_and, Nat.reduceAdd, Nat.reduceLT, Nat.reduceBEq, Nat.reduceSub, Nat.reduceMul, Nat.reduceLeDiff, Int.reduceToNat, Nat.reduceEqDiff, Nat.reduceMod, ht, hl, hA, hB, strip]
      exact ⟨_, rfl, mk1_weak, (le_of (by (first | rfl | exact hH | (simp (config := {contextual := true, maxSteps := 5000000}) only [go_sem, false_and, Nat.reduceAdd, Nat.reduceLT, Nat.reduceBEq, Nat.reduceSub, Nat.reduceMul, Nat.reduceLeDiff, Int.reduceToNat, Nat.reduceEqDiff, Nat.reduceMod, hA, hB]; done) | (simp (config := {contextual := true, maxSteps := 5000000}) only [go_sem, false_and, Nat.reduceAdd, Nat.reduceLT, Nat.reduceBEq, Nat.reduceSub, Nat.reduceMul, Nat.reduceLeDiff, Int.reduceToNat, Nat.reduceEqDiff, Nat.reduceMod, hA, hB]; exact hH) | (simp (config := {contextual := true, maxSteps := 5000000}) only [go_sem, false_and, Nat.reduceAdd, Nat.reduceLT, Nat.reduceBEq, Nat.reduceSub, Nat.reduceMul, Nat.reduceLeDiff, Int.reduceToNat, Nat.reduceEqDiff, Nat.reduceMod, hA, hB]; rfl))) (by repeat (first | exact LeX.refl | refine LeX.same ?_ | refine LeX.new ?_ (fN _ _ _ _))))⟩
  | false =>
  rw [nxF h1, if_neg (by simp)]
  simp (config := {contextual := true, maxSteps := 5000000}) only [go_sem, false_and, Nat.reduceAdd, Nat.reduceLT, Nat.reduceBEq, Nat.reduceSub, Nat.reduceMul, Nat.reduceLeDiff, Int.reduceToNat, Nat.reduceEqDiff, Nat.reduceMod, ht, hl, hA, hB]
  refine callK_intro (take_call id hz l hl8 en i hi2 64 (by decide) (by simp (config := {contextual := true, maxSteps := 5000000}) only [go_sem, false_and, Nat.reduceAdd, Nat.reduceLT, Nat.reduceBEq, Nat.reduceSub, Nat.reduceMul, Nat.reduceLeDiff, Int.reduceToNat, Nat.reduceEqDiff, Nat.reduceMod, hA, hB, hH])) ?_
  cases h2 : sgn l i 64 with
  | true =>
    have hlt := sgn_lt h2
    rw [nxT h2, if_pos rfl]
    simp (config := {contextual := true, maxSteps := 5000000}) only [go_sem, false_and, Nat.reduceAdd, Nat.reduceLT, Nat.reduceBEq, Nat.reduceSub, Nat.reduceMul, Nat.reduceLeDiff, Int.reduceToNat, Nat.reduceEqDiff, Nat.reduceMod, ht, hl, hA, hB]
    refine callK_out (bound_step l hl8 en m hF 7 (i + 1) id (by omega) (by omega) hz (by simp (config := {contextual := true, maxSteps := 5000000}) only [go_sem, false_and, Nat.reduceAdd, Nat.reduceLT, Nat.reduceBEq, Nat.reduceSub, Nat.reduceMul, Nat.reduceLeDiff, Int.reduceToNat, Nat.reduceEqDiff, Nat.reduceMod, hA, hB])) ?_
    cases hg : fQ l (fmF l m) 7 (i + 1) with
    | no q =>
      simp only [Got.out, Got.pos]
      simp (config := {contextual := true, maxSteps := 5000000}) only [go_sem, false_and, Nat.reduceAdd, Nat.reduceLT, Nat.reduceBEq, Nat.reduceSub, Nat.reduceMul, Nat.reduceLeDiff, Int.reduceToNat, Nat.reduceEqDiff, Nat.reduceMod, ht, hl, hA, hB]
      exact ⟨_, rfl, Weak.refl _, (le_of (by (first | rfl | exact hH | (simp (config := {contextual := true, maxSteps := 5000000}) only [go_sem, false_and, Nat.reduceAdd, Nat.reduceLT, Nat.reduceBEq, Nat.reduceSub, Nat.reduceMul, Nat.reduceLeDiff, Int.reduceToNat, Nat.reduceEqDiff, Nat.reduceMod, hA, hB]; done) | (simp (config := {contextual := true, maxSteps := 5000000}) only [go_sem, false_and, Nat.reduceAdd, Nat.reduceLT, Nat.reduceBEq, Nat.reduceSub, Nat.reduceMul, Nat.reduceLeDiff, Int.reduceToNat, Nat.reduceEqDiff, Nat.reduceMod, hA, hB]; exact hH) | (simp (config := {contextual := true, maxSteps := 5000000}) only [go_sem, false_and, Nat.reduceAdd, Nat.reduceLT, Nat.reduceBEq, Nat.reduceSub, Nat.reduceMul, Nat.reduceLeDiff, Int.reduceToNat, Nat.reduceEqDiff, Nat.reduceMod, hA, hB]; rfl))) (by repeat (first | exact LeX.refl | refine LeX.same ?_ | refine LeX.new ?_ (fN _ _ _ _))))⟩
    | ok x q =>
      simp only [Got.out, Got.pos]
      simp (config := {contextual := true, maxSteps := 5000000}) only [go_sem, false_and, Nat.reduceAdd, Nat.reduceLT, Nat.reduceBEq, Nat.reduceSub, Nat.reduceMul, Nat.reduceLeDiff, Int.reduceToNat, Nat.reduceEqDiff, Nat.reduceMod, ht, hl, hA, hB, strip]
      exact ⟨_, rfl, Weak.refl _, (le_of (by (first | rfl | exact hH | (simp (config := {contextual := true, maxSteps := 5000000}) only [go_sem, false_and, Nat.reduceAdd, Nat.reduceLT, Nat.reduceBEq, Nat.reduceSub, Nat.reduceMul, Nat.reduceLeDiff, Int.reduceToNat, Nat.reduceEqDiff, Nat.reduceMod, hA, hB]; done) | (simp (config := {contextual := true, maxSteps := 5000000}) only [go_sem, false_and, Nat.reduceAdd, Nat.reduceLT, Nat.reduceBEq, Nat.reduceSub, Nat.reduceMul, Nat.reduceLeDiff, Int.reduceToNat, Nat.reduceEqDiff, Nat.reduceMod, hA, hB]; exact hH) | (simp (config := {contextual := true, maxSteps := 5000000}) only [go_sem, false_and, Nat.reduceAdd, Nat.reduceLT, Nat.reduceBEq, Nat.reduceSub, Nat.reduceMul, Nat.reduceLeDiff, Int.reduceToNat, Nat.reduceEqDiff, Nat.reduceMod, hA, hB]; rfl))) (by repeat (first | exact LeX.refl | refine LeX.same ?_ | refine LeX.new ?_ (fN _ _ _ _))))⟩
  | false =>
  rw [nxF h2, if_neg (by simp)]
  simp (config := {contextual := true, maxSteps := 5000000}) only [go_sem, false_and, Nat.reduceAdd, Nat.reduceLT, Nat.reduceBEq, Nat.reduceSub, Nat.reduceMul, Nat.reduceLeDiff, Int.reduceToNat, Nat.reduceEqDiff, Nat.reduceMod, ht, hl, hA, hB]
  refine callK_intro (take_call id hz l hl8 en i hi2 63 (by decide) (by simp (config := {contextual := true, maxSteps := 5000000}) only [go_sem, false_and, Nat.reduceAdd, Nat.reduceLT, Nat.reduceBEq, Nat.reduceSub, Nat.reduceMul, Nat.reduceLeDiff, Int.reduceToNat, Nat.reduceEqDiff, Nat.reduceMod, hA, hB, hH])) ?_
  cases h3 : sgn l i 63 with
  | true =>
    have hlt := sgn_lt h3
    rw [nxT h3, if_pos rfl]
    simp (config := {contextual := true, maxSteps := 5000000}) only [go_sem, false_and, Nat.reduceAdd, Nat.reduceLT, Nat.reduceBEq, Nat.reduceSub, Nat.reduceMul, Nat.reduceLeDiff, Int.reduceToNat, Nat.reduceEqDiff, Nat.reduceMod, ht, hl, hA, hB]
    refine callK_out (bound_step l hl8 en m hF 10 (i + 1) id (by omega) (by omega) hz (by simp (config := {contextual := true, maxSteps := 5000000}) only [go_sem, false_and, Nat.reduceAdd, Nat.reduceLT, Nat.reduceBEq, Nat.reduceSub, Nat.reduceMul, Nat.reduceLeDiff, Int.reduceToNat, Nat.reduceEqDiff, Nat.reduceMod, hA, hB])) ?_
    cases hg : fQ l (fmF l m) 10 (i + 1) with
    | no q =>
      simp only [Got.out, Got.pos]
      simp (config := {contextual := true, maxSteps := 5000000}) only [go_sem, false_and, Nat.reduceAdd, Nat.reduceLT, Nat.reduceBEq, Nat.reduceSub, Nat.reduceMul, Nat.reduceLeDiff, Int.reduceToNat, Nat.reduceEqDiff, Nat.reduceMod, ht, hl, hA, hB]
      exact ⟨_, rfl, Weak.refl _, (le_of (by (first | rfl | exact hH | (simp (config := {contextual := true, maxSteps := 5000000}) only [go_sem, false_and, Nat.reduceAdd, Nat.reduceLT, Nat.reduceBEq, Nat.reduceSub, Nat.reduceMul, Nat.reduceLeDiff, Int.reduceToNat, Nat.reduceEqDiff, Nat.reduceMod, hA, hB]; done) | (simp (config := {contextual := true, maxSteps := 5000000}) only [go_sem, false_and, Nat.reduceAdd, Nat.reduceLT, Nat.reduceBEq, Nat.reduceSub, Nat.reduceMul, Nat.reduceLeDiff, Int.reduceToNat, Nat.reduceEqDiff, Nat.reduceMod, hA, hB]; exact hH) | (simp (config := {contextual := true, maxSteps := 5000000}) only [go_sem, false_and, Nat.reduceAdd, Nat.reduceLT, Nat.reduceBEq, Nat.reduceSub, Nat.reduceMul, Nat.reduceLeDiff, Int.reduceToNat, Nat.reduceEqDiff, Nat.reduceMod, hA, hB]; rfl))) (by repeat (first | exact LeX.refl | refine LeX.same ?_ | refine LeX.new ?_ (fN _ _ _ _))))⟩
    | ok x q =>
      simp only [Got.out, Got.pos]
      simp (config := {contextual := true, maxSteps := 5000000}) only [go_sem, false_and, Nat.reduceAdd, Nat.reduceLT, Nat.reduceBEq, Nat.reduceSub, Nat.reduceMul, Nat.reduceLeDiff, Int.reduceToNat, Nat.reduceEqDiff, Nat.reduceMod, ht, hl, hA, hB, strip]
      exact ⟨_, rfl, Weak.refl _, (le_of (by (first | rfl | exact hH | (simp (config := {contextual := true, maxSteps := 5000000}) only [go_sem, false_and, Nat.reduceAdd, Nat.reduceLT, Nat.reduceBEq, Nat.reduceSub, Nat.reduceMul, Nat.reduceLeDiff, Int.reduceToNat, Nat.reduceEqDiff, Nat.reduceMod, hA, hB]; done) | (simp (config := {contextual := true, maxSteps := 5000000}) only [go_sem, false_and, Nat.reduceAdd, Nat.reduceLT, Nat.reduceBEq, Nat.reduceSub, Nat.reduceMul, Nat.reduceLeDiff, Int.reduceToNat, Nat.reduceEqDiff, Nat.reduceMod, hA, hB]; exact hH) | (simp (config := {contextual := true, maxSteps := 5000000}) only [go_sem, false_and, Nat.reduceAdd, Nat.reduceLT, Nat.reduceBEq, Nat.reduceSub, Nat.reduceMul, Nat.reduceLeDiff, Int.reduceToNat, Nat.reduceEqDiff, Nat.reduceMod, hA, hB]; rfl))) (by repeat (first | exact LeX.refl | refine LeX.same ?_ | refine LeX.new ?_ (fN _ _ _ _))))⟩
  | false =>
  rw [nxF h3, if_neg (by simp)]
  simp (config := {contextual := true, maxSteps := 5000000}) only [go_sem, false_and, Nat.reduceAdd, Nat.reduceLT, Nat.reduceBEq, Nat.reduceSub, Nat.reduceMul, Nat.reduceLeDiff, Int.reduceToNat, Nat.reduceEqDiff, Nat.reduceMod, ht, hl, hA, hB]
  refine callK_intro (take_call id hz l hl8 en i hi2 40 (by decide) (by simp (config := {contextual := true, maxSteps := 5000000}) only [go_sem, false_and, Nat.reduceAdd, Nat.reduceLT, Nat.reduceBEq, Nat.reduceSub, Nat.reduceMul, Nat.reduceLeDiff, Int.reduceToNat, Nat.reduceEqDiff, Nat.reduceMod, hA, hB, hH])) ?_
  cases h4 : sgn l i 40 with
  | true =>
    have hlt := sgn_lt h4
    rw [nxT h4, if_pos rfl]
    simp (config := {contextual := true, maxSteps := 5000000}) only [go_sem, false_and, Nat.reduceAdd, Nat.reduceLT, Nat.reduceBEq, Nat.reduceSub, Nat.reduceMul, Nat.reduceLeDiff, Int.reduceToNat, Nat.reduceEqDiff, Nat.reduceMod, ht, hl, hA, hB]
    refine callK_out (hF (i + 1) id _ _ (by omega) (by omega) hz (by simp (config := {contextual := true, maxSteps := 5000000}) only [go_sem, false_and, Nat.reduceAdd, Nat.reduceLT, Nat.reduceBEq, Nat.reduceSub, Nat.reduceMul, Nat.reduceLeDiff, Int.reduceToNat, Nat.reduceEqDiff, Nat.reduceMod, hA, hB])) ?_
    have hb := fmF_le l m (i + 1) (by omega)
    unfold fP
    cases hg : fmF l m (i + 1) with
    | no q =>
      simp only [Got.out, Got.pos]
      simp (config := {contextual := true, maxSteps := 5000000}) only [go_sem, false_and, Nat.reduceAdd, Nat.reduceLT, Nat.reduceBEq, Nat.reduceSub, Nat.reduceMul, Nat.reduceLeDiff, Int.reduceToNat, Nat.reduceEqDiff, Nat.reduceMod, ht, hl, hA, hB]
      exact ⟨_, rfl, Weak.refl _, (le_of (by (first | rfl | exact hH | (simp (config := {contextual := true, maxSteps := 5000000}) only [go_sem, false_and, Nat.reduceAdd, Nat.reduceLT, Nat.reduceBEq, Nat.reduceSub, Nat.reduceMul, Nat.reduceLeDiff, Int.reduceToNat, Nat.reduceEqDiff, Nat.reduceMod, hA, hB]; done) | (simp (config := {contextual := true, maxSteps := 5000000}) only [go_sem, false_and, Nat.reduceAdd, Nat.reduceLT, Nat.reduceBEq, Nat.reduceSub, Nat.reduceMul, Nat.reduceLeDiff, Int.reduceToNat, Nat.reduceEqDiff, Nat.reduceMod, hA, hB]; exact hH) | (simp (config := {contextual := true, maxSteps := 5000000}) only [go_sem, false_and, Nat.reduceAdd, Nat.reduceLT, Nat.reduceBEq, Nat.reduceSub, Nat.reduceMul, Nat.reduceLeDiff, Int.reduceToNat, Nat.reduceEqDiff, Nat.reduceMod, hA, hB]; rfl))) (by repeat (first | exact LeX.refl | refine LeX.same ?_ | refine LeX.new ?_ (fN _ _ _ _))))⟩
    | ok x q =>
      rw [hg] at hb
      simp only [Got.pos] at hb
      simp only [Got.out, Got.pos]
      simp (config := {contextual := true, maxSteps := 5000000}) only [go_sem, false_and, Nat.reduceAdd, Nat.reduceLT, Nat.reduceBEq, Nat.reduceSub, Nat.reduceMul, Nat.reduceLeDiff, Int.reduceToNat, Nat.reduceEqDiff, Nat.reduceMod, ht, hl, hA, hB, strip]
      refine callK_out (jointR_call id hz l hl8 en q hb.2 (by simp (config := {contextual := true, maxSteps := 5000000}) only [go_sem, false_and, Nat.reduceAdd, Nat.reduceLT, Nat.reduceBEq, Nat.reduceSub, Nat.reduceMul, Nat.reduceLeDiff, Int.reduceToNat, Nat.reduceEqDiff, Nat.reduceMod, hA, hB])) ?_
      by_cases hj : jnt l q = 0
      · rw [if_pos hj, if_pos hj, if_pos hj]
        simp (config := {contextual := true, maxSteps := 5000000}) only [go_sem, false_and, Nat.reduceAdd, Nat.reduceLT, Nat.reduceBEq, Nat.reduceSub, Nat.reduceMul, Nat.reduceLeDiff, Int.reduceToNat, Nat.reduceEqDiff, Nat.reduceMod, ht, hl, hA, hB]
        exact ⟨_, rfl, Weak.refl _, (le_of (by (first | rfl | exact hH | (simp (config := {contextual := true, maxSteps := 5000000}) only [go_sem, false_and, Nat.reduceAdd, Nat.reduceLT, Nat.reduceBEq, Nat.reduceSub, Nat.reduceMul, Nat.reduceLeDiff, Int.reduceToNat, Nat.reduceEqDiff, Nat.reduceMod, hA, hB]; done) | (simp (config := {contextual := true, maxSteps := 5000000}) only [go_sem, false_and, Nat.reduceAdd, Nat.reduceLT, Nat.reduceBEq, Nat.reduceSub, Nat.reduceMul, Nat.reduceLeDiff, Int.reduceToNat, Nat.reduceEqDiff, Nat.reduceMod, hA, hB]; exact hH) | (simp (config := {contextual := true, maxSteps := 5000000}) only [go_sem, false_and, Nat.reduceAdd, Nat.reduceLT, Nat.reduceBEq, Nat.reduceSub, Nat.reduceMul, Nat.reduceLeDiff, Int.reduceToNat, Nat.reduceEqDiff, Nat.reduceMod, hA, hB]; rfl))) (by repeat (first | exact LeX.refl | refine LeX.same ?_ | refine LeX.new ?_ (fN _ _ _ _))))⟩
      · have hlt2 := jnt_lt hj
        rw [if_neg hj, if_neg hj, if_neg hj]
        simp (config := {contextual := true, maxSteps := 5000000}) only [go_sem, false_and, Nat.reduceAdd, Nat.reduceLT, Nat.reduceBEq, Nat.reduceSub, Nat.reduceMul, Nat.reduceLeDiff, Int.reduceToNat, Nat.reduceEqDiff, Nat.reduceMod, ht, hl, hA, hB]
        refine callK_out (hF (q + 1) id _ _ (by omega) (by omega) hz (by simp (config := {contextual := true, maxSteps := 5000000}) only [go_sem, false_and, Nat.reduceAdd, Nat.reduceLT, Nat.reduceBEq, Nat.reduceSub, Nat.reduceMul, Nat.reduceLeDiff, Int.reduceToNat, Nat.reduceEqDiff, Nat.reduceMod, hA, hB])) ?_
        have hb2 := fmF_le l m (q + 1) (by omega)
        cases hg2 : fmF l m (q + 1) with
        | no r =>
          simp only [Got.out, Got.pos]
          simp (config := {contextual := true, maxSteps := 5000000}) only [go_sem, false_and, Nat.reduceAdd, Nat.reduceLT, Nat.reduceBEq, Nat.reduceSub, Nat.reduceMul, Nat.reduceLeDiff, Int.reduceToNat, Nat.reduceEqDiff, Nat.reduceMod, ht, hl, hA, hB]
          exact ⟨_, rfl, Weak.refl _, (le_of (by (first | rfl | exact hH | (simp (config := {contextual := true, maxSteps := 5000000}) only [go_sem, false_and, Nat.reduceAdd, Nat.reduceLT, Nat.reduceBEq, Nat.reduceSub, Nat.reduceMul, Nat.reduceLeDiff, Int.reduceToNat, Nat.reduceEqDiff, Nat.reduceMod, hA, hB]; done) | (simp (config := {contextual := true, maxSteps := 5000000}) only [go_sem, false_and, Nat.reduceAdd, Nat.reduceLT, Nat.reduceBEq, Nat.reduceSub, Nat.reduceMul, Nat.reduceLeDiff, Int.reduceToNat, Nat.reduceEqDiff, Nat.reduceMod, hA, hB]; exact hH) | (simp (config := {contextual := true, maxSteps := 5000000}) only [go_sem, false_and, Nat.reduceAdd, Nat.reduceLT, Nat.reduceBEq, Nat.reduceSub, Nat.reduceMul, Nat.reduceLeDiff, Int.reduceToNat, Nat.reduceEqDiff, Nat.reduceMod, hA, hB]; rfl))) (by repeat (first | exact LeX.refl | refine LeX.same ?_ | refine LeX.new ?_ (fN _ _ _ _))))⟩
        | ok y r =>
          rw [hg2] at hb2
          simp only [Got.pos] at hb2
          simp only [Got.out, Got.pos]
          simp (config := {contextual := true, maxSteps := 5000000}) only [go_sem, false_and, Nat.reduceAdd, Nat.reduceLT, Nat.reduceBEq, Nat.reduceSub, Nat.reduceMul, Nat.reduceLeDiff, Int.reduceToNat, Nat.reduceEqDiff, Nat.reduceMod, ht, hl, hA, hB, strip]
          refine callK_out (must_call id hz l hl8 en r hb2.2 41 (by decide) (by simp (config := {contextual := true, maxSteps := 5000000}) only [go_sem, false_and, Nat.reduceAdd, Nat.reduceLT, Nat.reduceBEq, Nat.reduceSub, Nat.reduceMul, Nat.reduceLeDiff, Int.reduceToNat, Nat.reduceEqDiff, Nat.reduceMod, hA, hB])) ?_
          cases h5 : sgn l r 41 with
          | true =>
            rw [nxT h5, if_pos rfl, if_pos rfl]
            simp (config := {contextual := true, maxSteps := 5000000}) only [go_sem, false_and, Nat.reduceAdd, Nat.reduceLT, Nat.reduceBEq, Nat.reduceSub, Nat.reduceMul, Nat.reduceLeDiff, Int.reduceToNat, Nat.reduceEqDiff, Nat.reduceMod, ht, hl, hA, hB, strip]
            exact ⟨_, rfl, mk2_weak, (le_of (by (first | rfl | exact hH | (simp (config := {contextual := true, maxSteps := 5000000}) only [go_sem, false_and, Nat.reduceAdd, Nat.reduceLT, Nat.reduceBEq, Nat.reduceSub, Nat.reduceMul, Nat.reduceLeDiff, Int.reduceToNat, Nat.reduceEqDiff, Nat.reduceMod, hA, hB]; done) | (simp (config := {contextual := true, maxSteps := 5000000}) only [go_sem, false_and, Nat.reduceAdd, Nat.reduceLT, Nat.reduceBEq, Nat.reduceSub, Nat.reduceMul, Nat.reduceLeDiff, Int.reduceToNat, Nat.reduceEqDiff, Nat.reduceMod, hA, hB]; exact hH) | (simp (config := {contextual := true, maxSteps := 5000000}) only [go_sem, false_and, Nat.reduceAdd, Nat.reduceLT, Nat.reduceBEq, Nat.reduceSub, Nat.reduceMul, Nat.reduceLeDiff, Int.reduceToNat, Nat.reduceEqDiff, Nat.reduceMod, hA, hB]; rfl))) (by repeat (first | exact LeX.refl | refine LeX.same ?_ | refine LeX.new ?_ (fN _ _ _ _))))⟩
          | false =>
            rw [nxF h5, if_neg (by simp), if_neg (by simp)]
            simp (config := {contextual := true, maxSteps := 5000000}) only [go_sem, false_and, Nat.reduceAdd, Nat.reduceLT, Nat.reduceBEq, Nat.reduceSub, Nat.reduceMul, Nat.reduceLeDiff, Int.reduceToNat, Nat.reduceEqDiff, Nat.reduceMod, ht, hl, hA, hB]
            exact ⟨_, rfl, Weak.refl _, (le_of (by (first | rfl | exact hH | (simp (config := {contextual := true, maxSteps := 5000000}) only [go_sem, false_and, Nat.reduceAdd, Nat.reduceLT, Nat.reduceBEq, Nat.reduceSub, Nat.reduceMul, Nat.reduceLeDiff, Int.reduceToNat, Nat.reduceEqDiff, Nat.reduceMod, hA, hB]; done) | (simp (config := {contextual := true, maxSteps := 5000000}) only [go_sem, false_and, Nat.reduceAdd, Nat.reduceLT, Nat.reduceBEq, Nat.reduceSub, Nat.reduceMul, Nat.reduceLeDiff, Int.reduceToNat, Nat.reduceEqDiff, Nat.reduceMod, hA, hB]; exact hH) | (simp (config := {contextual := true, maxSteps := 5000000}) only [go_sem, false_and, Nat.reduceAdd, Nat.reduceLT, Nat.reduceBEq, Nat.reduceSub, Nat.reduceMul, Nat.reduceLeDiff, Int.reduceToNat, Nat.reduceEqDiff, Nat.reduceMod, hA, hB]; rfl))) (by repeat (first | exact LeX.refl | refine LeX.same ?_ | refine LeX.new ?_ (fN _ _ _ _))))⟩
  | false =>
  rw [nxF h4, if_neg (by simp)]
  simp (config := {contextual := true, maxSteps := 5000000}) only [go_sem, false_and, Nat.reduceAdd, Nat.reduceLT, Nat.reduceBEq, Nat.reduceSub, Nat.reduceMul, Nat.reduceLeDiff, Int.reduceToNat, Nat.reduceEqDiff, Nat.reduceMod, ht, hl, hA, hB]
  refine callK_intro (is_call id l en i 3 (by decide) (by simp (config := {contextual := true, maxSteps := 5000000}) only [go_sem, false_and, Nat.reduceAdd, Nat.reduceLT, Nat.reduceBEq, Nat.reduceSub, Nat.reduceMul, Nat.reduceLeDiff, Int.reduceToNat, Nat.reduceEqDiff, Nat.reduceMod, hA, hB, hH])) ?_
  by_cases h5 : kAt l i = 3
  · have e1 : (kAt l i == 3) = true := by simpa using h5
    have hlt := kAt_lt (l := l) (p := i) (by omega)
    rw [if_pos h5]
    simp (config := {contextual := true, maxSteps := 5000000}) only [go_sem, false_and, Nat.reduceAdd, Nat.reduceLT, Nat.reduceBEq, Nat.reduceSub, Nat.reduceMul, Nat.reduceLeDiff, Int.reduceToNat, Nat.reduceEqDiff, Nat.reduceMod, ht, hl, hA, hB, e1]
    refine callK_out (numberR_call id hz l hl8 en i hi2 3 (by decide) (by simp (config := {contextual := true, maxSteps := 5000000}) only [go_sem, false_and, Nat.reduceAdd, Nat.reduceLT, Nat.reduceBEq, Nat.reduceSub, Nat.reduceMul, Nat.reduceLeDiff, Int.reduceToNat, Nat.reduceEqDiff, Nat.reduceMod, hA, hB, hH])) ?_
    rw [if_pos h5, if_pos h5]
    simp (config := {contextual := true, maxSteps := 5000000}) only [go_sem, false_and, Nat.reduceAdd, Nat.reduceLT, Nat.reduceBEq, Nat.reduceSub, Nat.reduceMul, Nat.reduceLeDiff, Int.reduceToNat, Nat.reduceEqDiff, Nat.reduceMod, ht, hl, hA, hB]
    refine callK_out (argsP_step l hl8 en _ hT (i + 1) id (by omega) (by omega) hz (by simp (config := {contextual := true, maxSteps := 5000000}) only [go_sem, false_and, Nat.reduceAdd, Nat.reduceLT, Nat.reduceBEq, Nat.reduceSub, Nat.reduceMul, Nat.reduceLeDiff, Int.reduceToNat, Nat.reduceEqDiff, Nat.reduceMod, hA, hB])) ?_
    rw [argG_as (kd := 3), as_pos]
    show _
    cases hg : argG l (tmL l) 0 0 (i + 1) with
    | no q =>
      have hg' : argG l (tmF l (l.length + 1)) 0 0 (i + 1) = .no q := hg
      rw [hg']
      simp only [kidsOut, Got.as, Got.out, Got.pos]
      simp (config := {contextual := true, maxSteps := 5000000}) only [go_sem, false_and, Nat.reduceAdd, Nat.reduceLT, Nat.reduceBEq, Nat.reduceSub, Nat.reduceMul, Nat.reduceLeDiff, Int.reduceToNat, Nat.reduceEqDiff, Nat.reduceMod, ht, hl, hA, hB]
      exact ⟨_, rfl, Weak.refl _, (le_of (by (first | rfl | exact hH | (simp (config := {contextual := true, maxSteps := 5000000}) only [go_sem, false_and, Nat.reduceAdd, Nat.reduceLT, Nat.reduceBEq, Nat.reduceSub, Nat.reduceMul, Nat.reduceLeDiff, Int.reduceToNat, Nat.reduceEqDiff, Nat.reduceMod, hA, hB]; done) | (simp (config := {contextual := true, maxSteps := 5000000}) only [go_sem, false_and, Nat.reduceAdd, Nat.reduceLT, Nat.reduceBEq, Nat.reduceSub, Nat.reduceMul, Nat.reduceLeDiff, Int.reduceToNat, Nat.reduceEqDiff, Nat.reduceMod, hA, hB]; exact hH) | (simp (config := {contextual := true, maxSteps := 5000000}) only [go_sem, false_and, Nat.reduceAdd, Nat.reduceLT, Nat.reduceBEq, Nat.reduceSub, Nat.reduceMul, Nat.reduceLeDiff, Int.reduceToNat, Nat.reduceEqDiff, Nat.reduceMod, hA, hB]; rfl))) (by repeat (first | exact LeX.refl | refine LeX.same ?_ | refine LeX.new ?_ (fN _ _ _ _))))⟩
    | ok x q =>
      have hg' : argG l (tmF l (l.length + 1)) 0 0 (i + 1) = .ok x q := hg
      rw [hg']
      simp only [kidsOut, Got.as, Got.out, Got.pos]
      simp (config := {contextual := true, maxSteps := 5000000}) only [go_sem, false_and, Nat.reduceAdd, Nat.reduceLT, Nat.reduceBEq, Nat.reduceSub, Nat.reduceMul, Nat.reduceLeDiff, Int.reduceToNat, Nat.reduceEqDiff, Nat.reduceMod, ht, hl, hA, hB]
      exact ⟨_, rfl, Weak.refl _, (le_of (by (first | rfl | exact hH | (simp (config := {contextual := true, maxSteps := 5000000}) only [go_sem, false_and, Nat.reduceAdd, Nat.reduceLT, Nat.reduceBEq, Nat.reduceSub, Nat.reduceMul, Nat.reduceLeDiff, Int.reduceToNat, Nat.reduceEqDiff, Nat.reduceMod, hA, hB]; done) | (simp (config := {contextual := true, maxSteps := 5000000}) only [go_sem, false_and, Nat.reduceAdd, Nat.reduceLT, Nat.reduceBEq, Nat.reduceSub, Nat.reduceMul, Nat.reduceLeDiff, Int.reduceToNat, Nat.reduceEqDiff, Nat.reduceMod, hA, hB]; exact hH) | (simp (config := {contextual := true, maxSteps := 5000000}) only [go_sem, false_and, Nat.reduceAdd, Nat.reduceLT, Nat.reduceBEq, Nat.reduceSub, Nat.reduceMul, Nat.reduceLeDiff, Int.reduceToNat, Nat.reduceEqDiff, Nat.reduceMod, hA, hB]; rfl))) (by repeat (first | exact LeX.refl | refine LeX.same ?_ | refine LeX.new ?_ (fN _ _ _ _))))⟩
  · have e1 : (kAt l i == 3) = false := by simpa using h5
    rw [if_neg h5]
    simp (config := {contextual := true, maxSteps := 5000000}) only [go_sem, false_and, Nat.reduceAdd, Nat.reduceLT, Nat.reduceBEq, Nat.reduceSub, Nat.reduceMul, Nat.reduceLeDiff, Int.reduceToNat, Nat.reduceEqDiff, Nat.reduceMod, ht, hl, hA, hB, e1]
    refine callK_out (hT i id _ _ (by omega) (by omega) hz (by simp (config := {contextual := true, maxSteps := 5000000}) only [go_sem, false_and, Nat.reduceAdd, Nat.reduceLT, Nat.reduceBEq, Nat.reduceSub, Nat.reduceMul, Nat.reduceLeDiff, Int.reduceToNat, Nat.reduceEqDiff, Nat.reduceMod, hA, hB, hH])) ?_
    have hb := tmF_le l (l.length + 1) i (by omega)
    unfold fE tmL
    cases hg : tmF l (l.length + 1) i with
    | no q =>
      simp only [Got.out, Got.pos]
      simp (config := {contextual := true, maxSteps := 5000000}) only [go_sem, false_and, Nat.reduceAdd, Nat.reduceLT, Nat.reduceBEq, Nat.reduceSub, Nat.reduceMul, Nat.reduceLeDiff, Int.reduceToNat, Nat.reduceEqDiff, Nat.reduceMod, ht, hl, hA, hB]
      exact ⟨_, rfl, Weak.refl _, (le_of (by (first | rfl | exact hH | (simp (config := {contextual := true, maxSteps := 5000000}) only [go_sem, false_and, Nat.reduceAdd, Nat.reduceLT, Nat.reduceBEq, Nat.reduceSub, Nat.reduceMul, Nat.reduceLeDiff, Int.reduceToNat, Nat.reduceEqDiff, Nat.reduceMod, hA, hB]; done) | (simp (config := {contextual := true, maxSteps := 5000000}) only [go_sem, false_and, Nat.reduceAdd, Nat.reduceLT, Nat.reduceBEq, Nat.reduceSub, Nat.reduceMul, Nat.reduceLeDiff, Int.reduceToNat, Nat.reduceEqDiff, Nat.reduceMod, hA, hB]; exact hH) | (simp (config := {contextual := true, maxSteps := 5000000}) only [go_sem, false_and, Nat.reduceAdd, Nat.reduceLT, Nat.reduceBEq, Nat.reduceSub, Nat.reduceMul, Nat.reduceLeDiff, Int.reduceToNat, Nat.reduceEqDiff, Nat.reduceMod, hA, hB]; rfl))) (by repeat (first | exact LeX.refl | refine LeX.same ?_ | refine LeX.new ?_ (fN _ _ _ _))))⟩
    | ok x q =>
      rw [hg] at hb
      simp only [Got.pos] at hb
      simp only [Got.out, Got.pos]
      simp (config := {contextual := true, maxSteps := 5000000}) only [go_sem, false_and, Nat.reduceAdd, Nat.reduceLT, Nat.reduceBEq, Nat.reduceSub, Nat.reduceMul, Nat.reduceLeDiff, Int.reduceToNat, Nat.reduceEqDiff, Nat.reduceMod, ht, hl, hA, hB, strip]
      refine callK_out (must_call id hz l hl8 en q hb.2 61 (by decide) (by simp (config := {contextual := true, maxSteps := 5000000}) only [go_sem, false_and, Nat.reduceAdd, Nat.reduceLT, Nat.reduceBEq, Nat.reduceSub, Nat.reduceMul, Nat.reduceLeDiff, Int.reduceToNat, Nat.reduceEqDiff, Nat.reduceMod, hA, hB])) ?_
      cases h6 : sgn l q 61 with
      | true =>
        have hlt := sgn_lt h6
        rw [nxT h6, if_pos rfl, if_pos rfl]
        simp (config := {contextual := true, maxSteps := 5000000}) only [go_sem, false_and, Nat.reduceAdd, Nat.reduceLT, Nat.reduceBEq, Nat.reduceSub, Nat.reduceMul, Nat.reduceLeDiff, Int.reduceToNat, Nat.reduceEqDiff, Nat.reduceMod, ht, hl, hA, hB, strip]
        refine ⟨by kernel_rfl, callK_out (hT (q + 1) id _ _ (by omega) (by omega) hz (by simp (config := {contextual := true, maxSteps := 5000000}) only [go_sem, false_and, Nat.reduceAdd, Nat.reduceLT, Nat.reduceBEq, Nat.reduceSub, Nat.reduceMul, Nat.reduceLeDiff, Int.reduceToNat, Nat.reduceEqDiff, Nat.reduceMod, hA, hB])) ?_⟩
        cases hg2 : tmF l (l.length + 1) (q + 1) with
        | no r =>
          simp only [Got.out, Got.pos]
          simp (config := {contextual := true, maxSteps := 5000000}) only [go_sem, false_and, Nat.reduceAdd, Nat.reduceLT, Nat.reduceBEq, Nat.reduceSub, Nat.reduceMul, Nat.reduceLeDiff, Int.reduceToNat, Nat.reduceEqDiff, Nat.reduceMod, ht, hl, hA, hB]
          exact ⟨by kernel_rfl, by (refine pw_of ?_; (repeat' (first | exact trivial | apply And.intro)); all_goals (first | exact .inr rfl | exact .inr trivial | exact .inr (by show _ = _; simp (config := {contextual := true, maxSteps := 5000000}) only [go_sem, false_and, Nat.reduceAdd, Nat.reduceLT, Nat.reduceBEq, Nat.reduceSub, Nat.reduceMul, Nat.reduceLeDiff, Int.reduceToNat, Nat.reduceEqDiff, Nat.reduceMod, hA, hB]) | exact .inl (by kernel_rfl))), _, rfl, Weak.refl _, (le_of (by (first | rfl | exact hH | (simp (config := {contextual := true, maxSteps := 5000000}) only [go_sem, false_and, Nat.reduceAdd, Nat.reduceLT, Nat.reduceBEq, Nat.reduceSub, Nat.reduceMul, Nat.reduceLeDiff, Int.reduceToNat, Nat.reduceEqDiff, Nat.reduceMod, hA, hB]; done) | (simp (config := {contextual := true, maxSteps := 5000000}) only [go_sem, false_and, Nat.reduceAdd, Nat.reduceLT, Nat.reduceBEq, Nat.reduceSub, Nat.reduceMul, Nat.reduceLeDiff, Int.reduceToNat, Nat.reduceEqDiff, Nat.reduceMod, hA, hB]; exact hH) | (simp (config := {contextual := true, maxSteps := 5000000}) only [go_sem, false_and, Nat.reduceAdd, Nat.reduceLT, Nat.reduceBEq, Nat.reduceSub, Nat.reduceMul, Nat.reduceLeDiff, Int.reduceToNat, Nat.reduceEqDiff, Nat.reduceMod, hA, hB]; rfl))) (by repeat (first | exact LeX.refl | refine LeX.same ?_ | refine LeX.new ?_ (fN _ _ _ _))))⟩
        | ok y r =>
          simp only [Got.out, Got.pos]
          simp (config := {contextual := true, maxSteps := 5000000}) only [go_sem, false_and, Nat.reduceAdd, Nat.reduceLT, Nat.reduceBEq, Nat.reduceSub, Nat.reduceMul, Nat.reduceLeDiff, Int.reduceToNat, Nat.reduceEqDiff, Nat.reduceMod, ht, hl, hA, hB, strip]
          exact ⟨by (refine pw_of ?_; (repeat' (first | exact trivial | apply And.intro)); all_goals (first | exact .inr rfl | exact .inr trivial | exact .inr (by show _ = _; simp (config := {contextual := true, maxSteps := 5000000}) only [go_sem, false_and, Nat.reduceAdd, Nat.reduceLT, Nat.reduceBEq, Nat.reduceSub, Nat.reduceMul, Nat.reduceLeDiff, Int.reduceToNat, Nat.reduceEqDiff, Nat.reduceMod, hA, hB]) | exact .inl (by kernel_rfl))), _, rfl, mk2_weak, (le_of (by (first | rfl | exact hH | (simp (config := {contextual := true, maxSteps := 5000000}) only [go_sem, false_and, Nat.reduceAdd, Nat.reduceLT, Nat.reduceBEq, Nat.reduceSub, Nat.reduceMul, Nat.reduceLeDiff, Int.reduceToNat, Nat.reduceEqDiff, Nat.reduceMod, hA, hB]; done) | (simp (config := {contextual := true, maxSteps := 5000000}) only [go_sem, false_and, Nat.reduceAdd, Nat.reduceLT, Nat.reduceBEq, Nat.reduceSub, Nat.reduceMul, Nat.reduceLeDiff, Int.reduceToNat, Nat.reduceEqDiff, Nat.reduceMod, hA, hB]; exact hH) | (simp (config := {contextual := true, maxSteps := 5000000}) only [go_sem, false_and, Nat.reduceAdd, Nat.reduceLT, Nat.reduceBEq, Nat.reduceSub, Nat.reduceMul, Nat.reduceLeDiff, Int.reduceToNat, Nat.reduceEqDiff, Nat.reduceMod, hA, hB]; rfl))) (by repeat (first | exact LeX.refl | refine LeX.same ?_ | refine LeX.new ?_ (fN _ _ _ _))))⟩
      | false =>
        rw [nxF h6, if_neg (by simp), if_neg (by simp)]
        simp (config := {contextual := true, maxSteps := 5000000}) only [go_sem, false_and, Nat.reduceAdd, Nat.reduceLT, Nat.reduceBEq, Nat.reduceSub, Nat.reduceMul, Nat.reduceLeDiff, Int.reduceToNat, Nat.reduceEqDiff, Nat.reduceMod, ht, hl, hA, hB]
        exact ⟨_, rfl, Weak.refl _, (le_of (by (first | rfl | exact hH | (simp (config := {contextual := true, maxSteps := 5000000}) only [go_sem, false_and, Nat.reduceAdd, Nat.reduceLT, Nat.reduceBEq, Nat.reduceSub, Nat.reduceMul, Nat.reduceLeDiff, Int.reduceToNat, Nat.reduceEqDiff, Nat.reduceMod, hA, hB]; done) | (simp (config := {contextual := true, maxSteps := 5000000}) only [go_sem, false_and, Nat.reduceAdd, Nat.reduceLT, Nat.reduceBEq, Nat.reduceSub, Nat.reduceMul, Nat.reduceLeDiff, Int.reduceToNat, Nat.reduceEqDiff, Nat.reduceMod, hA, hB]; exact hH) | (simp (config := {contextual := true, maxSteps := 5000000}) only [go_sem, false_and, Nat.reduceAdd, Nat.reduceLT, Nat.reduceBEq, Nat.reduceSub, Nat.reduceMul, Nat.reduceLeDiff, Int.reduceToNat, Nat.reduceEqDiff, Nat.reduceMod, hA, hB]; rfl))) (by repeat (first | exact LeX.refl | refine LeX.same ?_ | refine LeX.new ?_ (fN _ _ _ _))))⟩
theorem formP (l : List Tk) (hl8 : l.length ≤ 8000) (en : Nat) : ∀ m, FormP w0 l en m
  | 0 => fun i id k H h1 h2 _ _ => by omega
  | m + 1 => formP_step l hl8 en m (formP l hl8 en m)
end Go.Proofs.YtkdendaohlnlcaaGreatDoor.Av

/- What the closure that recovers does. No condition. -/
namespace Go.Proofs.YtkdendaohlnlcaaGreatDoor.Av
set_option linter.unusedVariables false
set_option linter.unusedSimpArgs false
set_option maxRecDepth 4000
set_option maxHeartbeats 1000000
variable {w0 : Base} {k : List Nat} {H : Hp}
theorem Hp.Le.both {A B : Hp} {i : Id} {e : Option Ent} (h : A.Le B) : (A.upd i e).Le (B.upd i e) := by
  intro j x hj
  by_cases hji : j = i
  · subst hji
    rw [Hp.upd_same] at hj ⊢
    exact hj
  · rw [Hp.upd_ne _ _ hji] at hj ⊢
    exact h j x hj
theorem read1_none (i4 i5 i6 : Id) : DefAt Tryz.prog w0 k 113 [.ptr i4 0, .ptr i5 0, .ptr i6 0] H H none := by
  refine defAt_of_code Tryz.func113 rfl rfl (nt := 20) rfl rfl rfl rfl rfl rfl rfl (by decide) (by decide) (by simp) ?_ (by simp) (by simp)
  intro hfr t hl ht
  simp only [At, Nat.reduceAdd, List.cons_append, List.nil_append] at ht
  refine CodeOk.vc tabOk Spec.no_ok mixed [] ?_
  simp (config := {contextual := true, maxSteps := 5000000}) only [go_sem, false_and, Nat.reduceAdd, Nat.reduceLT, Nat.reduceBEq, Nat.reduceSub, Nat.reduceMul, Nat.reduceLeDiff, Int.reduceToNat, Nat.reduceEqDiff, Nat.reduceMod, ht, hl, ovA]
theorem read1_some (i4 i5 i6 : Id) (h4 : i4.sz = 3) (h5 : i5.sz = 1) (h6 : i6.sz = 1) (l : List Tk) (en q : Nat) {e4 e5 e6 : Ent} (g4 : H i4 = some e4) (g5 : H i5 = some e5) (g6 : H i6 = some e6) : DefAt Tryz.prog w0 k 113 [.ptr i4 0, .ptr i5 0, .ptr i6 0] H
    (((H.upd i4 (some (.cells [.int .i64 0, .int .i64 0, .list .nil []]))).upd i5 (some (.cells [.int .i64 32]))).upd i6 (some (.cells [.int .i64 (posOf l en q)]))) (some (stopV l en q)) := by
  refine defAt_of_code Tryz.func113 rfl rfl (nt := 20) rfl rfl rfl rfl rfl rfl rfl (by decide) (by decide) (by simp) ?_ (by simp) (by simp)
  intro hfr t hl ht
  simp only [At, Nat.reduceAdd, List.cons_append, List.nil_append] at ht
  refine CodeOk.vc tabOk Spec.no_ok mixed [] ?_
  have hn : H ⟨1, 5 :: 1 :: k, 133⟩ = none := hfr _ (sfx2 _ _ _)
  have hA : ((⟨1, 5 :: 1 :: k, 133⟩ : Id) = i4) = False := by simp only [eq_iff_iff, iff_false]; intro he; rw [he, g4] at hn; cases hn
  have hB : ((⟨1, 5 :: 1 :: k, 133⟩ : Id) = i5) = False := by simp only [eq_iff_iff, iff_false]; intro he; rw [he, g5] at hn; cases hn
  have hC : ((⟨1, 5 :: 1 :: k, 133⟩ : Id) = i6) = False := by simp only [eq_iff_iff, iff_false]; intro he; rw [he, g6] at hn; cases hn
  have hB := And.intro hB hC
  simp (config := {contextual := true, maxSteps := 5000000}) only [go_sem, false_and, Nat.reduceAdd, Nat.reduceLT, Nat.reduceBEq, Nat.reduceSub, Nat.reduceMul, Nat.reduceLeDiff, Int.reduceToNat, Nat.reduceEqDiff, Nat.reduceMod, ht, hl, ovA, stopV, h4, h5, h6]
  exact ⟨by kernel_rfl, by (refine pw_of ?_; (repeat' (first | exact trivial | apply And.intro)); all_goals (first | exact .inr rfl | exact .inr trivial | exact .inr (by show _ = _; simp (config := {contextual := true, maxSteps := 5000000}) only [go_sem, false_and, Nat.reduceAdd, Nat.reduceLT, Nat.reduceBEq, Nat.reduceSub, Nat.reduceMul, Nat.reduceLeDiff, Int.reduceToNat, Nat.reduceEqDiff, Nat.reduceMod, hA, hB]) | exact .inl (by kernel_rfl))), (((Hp.le_upd (Hp.Le.refl _) hn).both).both).both⟩
end Go.Proofs.YtkdendaohlnlcaaGreatDoor.Av

/- What the functions of package expr answer. No condition. -/
namespace Go.Proofs.YtkdendaohlnlcaaGreatDoor.Av
set_option linter.unusedVariables false
set_option linter.unusedSimpArgs false
set_option maxRecDepth 4000
set_option maxHeartbeats 1000000
variable {w0 : Base} {k : List Nat} {H : Hp}

mutual
def E.nd (d : Int) : E → List (Int × E)
  | .mk k i ks => (d, .mk k i ks) :: E.ndL (IntKind.i64.wrap (d + 1)) ks
def E.ndL (d : Int) : List E → List (Int × E)
  | [] => []
  | e :: es => E.nd d e ++ E.ndL d es
end
theorem E.nd_eq (d : Int) (e : E) : e.nd d = (d, e) :: E.ndL (IntKind.i64.wrap (d + 1)) e.kids := by cases e; simp [E.nd, E.kids]

def allT (b : Nat → Bool) : Nat → Nat → Bool
  | _, 0 => true
  | j, n + 1 => b j && allT b (j + 1) n
theorem allT_iff (b : Nat → Bool) : ∀ (n j : Nat), allT b j n = true ↔ ∀ i, i < n → b (j + i) = true
  | 0, j => by simp [allT]
  | n + 1, j => by
    rw [allT, Bool.and_eq_true, allT_iff b n (j + 1)]
    constructor
    · rintro ⟨h1, h2⟩ i hi
      cases i with
      | zero => exact h1
      | succ i =>
        have := h2 i (by omega)
        rwa [show j + 1 + i = j + (i + 1) by omega] at this
    · intro h
      refine ⟨h 0 (by omega), fun i hi => ?_⟩
      rw [show j + 1 + i = j + (i + 1) by omega]
      exact h (i + 1) (by omega)
theorem allT_add (b : Nat → Bool) : ∀ (n m j : Nat), allT b j (n + m) = (allT b j n && allT b (j + n) m)
  | 0, m, j => by simp [allT]
  | n + 1, m, j => by
    rw [show n + 1 + m = (n + m) + 1 by omega, allT, allT, allT_add b n m (j + 1), show j + 1 + n = j + (n + 1) by omega, Bool.and_assoc]
theorem stops_add (b : Nat → Bool) : ∀ (n m j : Nat), stops b j (n + m) = if allT b j n then stops b (j + n) m else stops b j n
  | 0, m, j => by simp [allT]
  | n + 1, m, j => by
    rw [show n + 1 + m = (n + m) + 1 by omega, stops, allT, stops, stops_add b n m (j + 1), show j + 1 + n = j + (n + 1) by omega]
    cases b j <;> simp
theorem stops_of_allT (b : Nat → Bool) (n j : Nat) (h : allT b j n = true) : stops b j n = j + n := stops_all b n j fun i h1 h2 => by
  have := (allT_iff b n j).1 h (i - j) (by omega)
  rwa [show j + (i - j) = i by omega] at this

def Tells (P : Program) (w0 : Base) (k : List Nat) (l : Nat) (Hs : Nat → Hp) (b : Nat → Bool) (n0 : Nat) (xs : List (Int × E)) : Prop :=
  ∀ j x, xs[j]? = some x → (∀ i, i < j → b (n0 + i) = true) → ∀ key, k <:+ key → YieldIn P w0 key l [.int .i64 x.1, x.2.av] (Hs (n0 + j)) (Hs (n0 + j + 1)) (.bool (b (n0 + j)))

theorem E.ndL_take (d : Int) : ∀ (l : List E) (i : Nat) (x : E), l[i]? = some x → E.ndL d (l.take (i + 1)) = E.ndL d (l.take i) ++ E.nd d x
  | [], i, x, h => by simp at h
  | y :: l, 0, x, h => by simp at h; subst h; simp [E.ndL]
  | y :: l, i + 1, x, h => by
    simp only [List.getElem?_cons_succ] at h
    simp only [List.take_succ_cons, E.ndL, E.ndL_take d l i x h, List.append_assoc]
theorem E.ndL_split (d : Int) : ∀ (l : List E) (i : Nat) (x : E), l[i]? = some x → ∃ rest, E.ndL d l = E.ndL d (l.take i) ++ (E.nd d x ++ rest)
  | [], i, x, h => by simp at h
  | y :: l, 0, x, h => by simp at h; subst h; exact ⟨E.ndL d l, by simp [E.ndL]⟩
  | y :: l, i + 1, x, h => by
    simp only [List.getElem?_cons_succ] at h
    obtain ⟨rest, hr⟩ := E.ndL_split d l i x h
    exact ⟨rest, by simp only [List.take_succ_cons, E.ndL, hr, List.append_assoc]⟩
theorem tell_step (N : Nat) (ih : ∀ (e : E), e.sz < N → e.ok → ∀ (w0 : Base) (k : List Nat) (l : Nat) (d : Int) (Hs : Nat → Hp) (b : Nat → Bool) (n0 : Nat), Tells Tryz.prog w0 k l Hs b n0 (e.nd d) → (∀ j i, k <:+ i.key → Hs j i = none) →
      CallAt Tryz.prog w0 k 145 [e.av, .int .i64 d, .clo (.yield l) [] []] (Hs n0) (Hs (stops b n0 (e.nd d).length)) (.bool (allT b n0 (e.nd d).length)))
    (e : E) (he : e.sz < N + 1) (hok : e.ok) (w0 : Base) (k : List Nat) (l : Nat) (d : Int) (Hs : Nat → Hp) (b : Nat → Bool) (n0 : Nat) (hT : Tells Tryz.prog w0 k l Hs b n0 (e.nd d)) (hfree : ∀ j i, k <:+ i.key → Hs j i = none) :
    CallAt Tryz.prog w0 k 145 [e.av, .int .i64 d, .clo (.yield l) [] []] (Hs n0) (Hs (stops b n0 (e.nd d).length)) (.bool (allT b n0 (e.nd d).length)) := by
  refine callAt tabOk Spec.no_ok mixed Tryz.func145 rfl rfl Tryz.results145 Tryz.ntmps145 (by simp) [] ?_
  intro hfr t hl ht
  simp only [At, Nat.reduceAdd, List.cons_append, List.nil_append] at ht
  simp (config := {contextual := true, maxSteps := 5000000}) only [go_sem, false_and, Nat.reduceAdd, Nat.reduceLT, Nat.reduceBEq, Nat.reduceSub, Nat.reduceMul, Nat.reduceLeDiff, Int.reduceToNat, Nat.reduceEqDiff, Nat.reduceMod, ht, hl, Spec.no]
  have hnd := e.nd_eq d
  refine yieldK_intro (hT 0 (d, e) (by rw [hnd]; rfl) (fun i hi => by omega) _ (sfx2 _ _ _)) (Hp.Le.refl _) ?_
  simp (config := {contextual := true, maxSteps := 5000000}) only [go_sem, false_and, Nat.reduceAdd, Nat.reduceLT, Nat.reduceBEq, Nat.reduceSub, Nat.reduceMul, Nat.reduceLeDiff, Int.reduceToNat, Nat.reduceEqDiff, Nat.reduceMod, ht, hl, Spec.no, Nat.add_zero]
  have hlen : (e.nd d).length = 1 + (E.ndL (IntKind.i64.wrap (d + 1)) e.kids).length := by rw [hnd]; simp; omega
  refine ⟨fun a => ?_, fun a => ?_⟩
  · have ha : b n0 = false := by simpa using a
    rw [hlen, Nat.add_comm, allT, stops, ha]
    simp [Hp.Le.refl]
  · have ha : b n0 = true := by simpa using a
    refine loop_inv tabOk Spec.no_ok mixed [] (fun j x => ∃ i : Nat, x.tmps.length = 28 ∧ x.tmps.getD 1 AV.undef = .int .i64 d ∧ x.tmps.getD 2 AV.undef = .clo (.yield l) [] [] ∧ x.tmps.getD 15 AV.undef = .list .none (e.kids.map E.cells) ∧
      x.tmps.getD 16 AV.undef = .int .i64 e.kids.length ∧ x.tmps.getD 17 AV.undef = .int .i64 i ∧ i + j = e.kids.length ∧ allT b n0 (1 + (E.ndL (IntKind.i64.wrap (d + 1)) (e.kids.take i)).length) = true ∧
      (Hs (n0 + (1 + (E.ndL (IntKind.i64.wrap (d + 1)) (e.kids.take i)).length))).Le x.H) e.kids.length ⟨0, ?_⟩ ?_
    · simp (config := {contextual := true, maxSteps := 5000000}) only [go_sem, false_and, Nat.reduceAdd, Nat.reduceLT, Nat.reduceBEq, Nat.reduceSub, Nat.reduceMul, Nat.reduceLeDiff, Int.reduceToNat, Nat.reduceEqDiff, Nat.reduceMod, ht, hl]
      simp [E.ndL, allT, ha, Hp.Le.refl]
    · rintro j ⟨t, n, H'⟩ ⟨i, hl, h1, h2, h15, h16, h17, hij, hall, hH⟩
      simp only at hl h1 h2 h15 h16 h17 hH
      by_cases hi : i < e.kids.length
      · have hd : decide ((i : Int) < (e.kids.length : Int)) = true := by simp [hi]
        have hw2 : IntKind.i64.wrap ((i : Int) + 1) = ((i + 1 : Nat) : Int) := by
          have := E.ok_len hok
          rw [wrap_i64] <;> omega
        obtain ⟨x, hx, hex⟩ := E.kid e hi
        obtain ⟨rest, hrest⟩ := E.ndL_split (IntKind.i64.wrap (d + 1)) e.kids i x hx
        have htk := E.ndL_take (IntKind.i64.wrap (d + 1)) e.kids i x hx
        simp (config := {contextual := true, maxSteps := 5000000}) only [go_sem, false_and, Nat.reduceAdd, Nat.reduceLT, Nat.reduceBEq, Nat.reduceSub, Nat.reduceMul, Nat.reduceLeDiff, Int.reduceToNat, Nat.reduceEqDiff, Nat.reduceMod, hex, Spec.no, h1, h2, h15, h16, h17, hl, hd]
        refine ⟨⟨by omega, by omega⟩, ?_⟩
        refine callK_pre (ih x (by have := E.kid_sz hx; omega) (E.ok_kid hok hx) w0 _ l (IntKind.i64.wrap (d + 1)) Hs b (n0 + (1 + (E.ndL (IntKind.i64.wrap (d + 1)) (e.kids.take i)).length)) (fun q y hy hb key hkey => ?_) (fun q z hz => hfree q z ((sfx2 _ _ _).trans hz))) (Hp.le_upd hH (hfree _ _ (sfx2 _ _ _))) ?_
        · have hidx : (e.nd d)[1 + (E.ndL (IntKind.i64.wrap (d + 1)) (e.kids.take i)).length + q]? = some y := by
            rw [hnd, hrest, show 1 + (E.ndL (IntKind.i64.wrap (d + 1)) (e.kids.take i)).length + q = ((E.ndL (IntKind.i64.wrap (d + 1)) (e.kids.take i)).length + q) + 1 by omega, List.getElem?_cons_succ, List.getElem?_append_right (by omega), Nat.add_sub_cancel_left]
            rw [List.getElem?_append_left (List.getElem?_eq_some_iff.1 hy).1]
            exact hy
          have := hT _ y hidx (fun i' hi' => by
            by_cases h : i' < 1 + (E.ndL (IntKind.i64.wrap (d + 1)) (e.kids.take i)).length
            · exact (allT_iff b _ _).1 hall i' h
            · have := hb (i' - (1 + (E.ndL (IntKind.i64.wrap (d + 1)) (e.kids.take i)).length)) (by omega)
              rwa [show n0 + (1 + (E.ndL (IntKind.i64.wrap (d + 1)) (e.kids.take i)).length) + (i' - (1 + (E.ndL (IntKind.i64.wrap (d + 1)) (e.kids.take i)).length)) = n0 + i' by omega] at this) key ((sfx2 _ _ _).trans hkey)
          rwa [← Nat.add_assoc] at this
        · simp (config := {contextual := true, maxSteps := 5000000}) only [go_sem, false_and, Nat.reduceAdd, Nat.reduceLT, Nat.reduceBEq, Nat.reduceSub, Nat.reduceMul, Nat.reduceLeDiff, Int.reduceToNat, Nat.reduceEqDiff, Nat.reduceMod, hex, Spec.no, h1, h2, h15, h16, h17, hl, hd, hw2]
          have htot : (e.nd d).length = (1 + (E.ndL (IntKind.i64.wrap (d + 1)) (e.kids.take i)).length) + ((E.nd (IntKind.i64.wrap (d + 1)) x).length + rest.length) := by
            rw [hlen, hrest]
            simp only [List.length_append]
            omega
          refine ⟨fun a => ?_, fun a => ⟨j - 1, by omega, i + 1, rfl, by omega, ?_, ?_⟩⟩
          · have ha' : allT b (n0 + (1 + (E.ndL (IntKind.i64.wrap (d + 1)) (e.kids.take i)).length)) (E.nd (IntKind.i64.wrap (d + 1)) x).length = false := by simpa using a
            rw [htot, allT_add, stops_add, hall, allT_add, stops_add, ha']
            simp [Hp.Le.refl]
          · have ha' : allT b (n0 + (1 + (E.ndL (IntKind.i64.wrap (d + 1)) (e.kids.take i)).length)) (E.nd (IntKind.i64.wrap (d + 1)) x).length = true := by simpa using a
            rw [htk, List.length_append, ← Nat.add_assoc, allT_add, hall, ha']
            rfl
          · have ha' : allT b (n0 + (1 + (E.ndL (IntKind.i64.wrap (d + 1)) (e.kids.take i)).length)) (E.nd (IntKind.i64.wrap (d + 1)) x).length = true := by simpa using a
            rw [htk, List.length_append, stops_of_allT b _ _ ha', show n0 + (1 + (E.ndL (IntKind.i64.wrap (d + 1)) (e.kids.take i)).length) + (E.nd (IntKind.i64.wrap (d + 1)) x).length = n0 + (1 + ((E.ndL (IntKind.i64.wrap (d + 1)) (e.kids.take i)).length + (E.nd (IntKind.i64.wrap (d + 1)) x).length)) by omega]
            exact Hp.Le.refl _
      · have hd : decide ((i : Int) < (e.kids.length : Int)) = false := by simp; omega
        simp (config := {contextual := true, maxSteps := 5000000}) only [go_sem, false_and, Nat.reduceAdd, Nat.reduceLT, Nat.reduceBEq, Nat.reduceSub, Nat.reduceMul, Nat.reduceLeDiff, Int.reduceToNat, Nat.reduceEqDiff, Nat.reduceMod, h1, h2, h15, h16, h17, hl, hd]
        rw [List.take_of_length_le (by omega), ← hlen] at hall hH
        rw [stops_of_allT b _ _ hall]
        exact ⟨hall.symm, hH⟩
theorem tell_ok : ∀ (N : Nat) (e : E), e.sz < N → e.ok → ∀ (w0 : Base) (k : List Nat) (l : Nat) (d : Int) (Hs : Nat → Hp) (b : Nat → Bool) (n0 : Nat), Tells Tryz.prog w0 k l Hs b n0 (e.nd d) → (∀ j i, k <:+ i.key → Hs j i = none) →
      CallAt Tryz.prog w0 k 145 [e.av, .int .i64 d, .clo (.yield l) [] []] (Hs n0) (Hs (stops b n0 (e.nd d).length)) (.bool (allT b n0 (e.nd d).length))
  | 0, e, h => by omega
  | N + 1, e, h => fun hok w0 k l d Hs b n0 hT hfree => tell_step N (tell_ok N) e h hok w0 k l d Hs b n0 hT hfree
/-- The elements that a range over an expression's nodes tells. -/
def E.told (e : E) : List (List AV) := (e.nd 1).map fun x => [.int .i64 x.1, x.2.av]
theorem nodes_iter (e : E) (hok : e.ok) : Iter Tryz.prog 144 [.sptr e.cells] e.told := by
  intro w0 l k Hs b hY hfree
  refine ⟨.tup [], ?_⟩
  have hlen : e.told.length = (e.nd 1).length := by simp [E.told]
  rw [hlen]
  refine bodyAt tabOk Spec.no_ok mixed Tryz.func144 rfl rfl Tryz.results144 Tryz.ntmps144 (by simp) [] ?_
  intro hfr t hl ht
  simp only [At, Nat.reduceAdd, List.cons_append, List.nil_append] at ht
  simp (config := {contextual := true, maxSteps := 5000000}) only [go_sem, false_and, Nat.reduceAdd, Nat.reduceLT, Nat.reduceBEq, Nat.reduceSub, Nat.reduceMul, Nat.reduceLeDiff, Int.reduceToNat, Nat.reduceEqDiff, Nat.reduceMod, ht, hl, Spec.no, E.cells_eq]
  refine callK_pre (tell_ok (e.sz + 1) e (Nat.lt_succ_self _) hok w0 _ l 1 Hs b 0 (fun j x hx hb key hkey => ?_) (fun q z hz => hfree q z ((sfx2 _ _ _).trans hz))) (Hp.Le.refl _) ?_
  · have := hY j [.int .i64 x.1, x.2.av] (by simp only [E.told, List.getElem?_map, hx]; rfl) (fun i hi => by simpa using hb i hi) key ((sfx2 _ _ _).trans hkey)
    simpa using this
  · simp (config := {contextual := true, maxSteps := 5000000}) only [go_sem, false_and, Nat.reduceAdd, Nat.reduceLT, Nat.reduceBEq, Nat.reduceSub, Nat.reduceMul, Nat.reduceLeDiff, Int.reduceToNat, Nat.reduceEqDiff, Nat.reduceMod, ht, hl]

mutual
theorem E.nd_len : ∀ (e : E) (d : Int), (e.nd d).length = e.sz
  | .mk k i ks, d => by simp only [E.nd, E.sz, List.length_cons, E.ndL_len ks]; omega
theorem E.ndL_len : ∀ (l : List E) (d : Int), (E.ndL d l).length = E.szL l
  | [], d => rfl
  | e :: es, d => by simp only [E.ndL, E.szL, List.length_append, E.nd_len e d, E.ndL_len es d]
end
theorem E.told_length (e : E) : e.told.length = e.sz := by simp [E.told, E.nd_len]
theorem notKey {a n m : Nat} {k : List Nat} {i : Id} (h : (n :: k) <:+ i.key) (hm : n ≠ m) {sz : Nat} {ty : TypeId} : i ≠ ⟨sz, a :: m :: k, ty⟩ := by
  rintro rfl
  have := (List.suffix_of_suffix_length_le h (List.suffix_cons a (m :: k)) (by simp)).eq_of_length (by simp)
  simp at this
  exact hm this

theorem nodes_call (e : E) : CallAt Tryz.prog w0 k 104 [e.av] H H (.clo (.func 144) [] [.sptr [.int .i64 e.kind, .int .i64 e.id, .list .none (e.kids.map E.cells)]]) := by
  refine callAt tabOk Spec.no_ok mixed Tryz.func104 rfl rfl Tryz.results104 Tryz.ntmps104 (by simp) [] ?_
  intro hfr t hl ht
  simp only [At, Nat.reduceAdd, List.cons_append, List.nil_append] at ht
  simp (config := {contextual := true, maxSteps := 5000000}) only [go_sem, false_and, Nat.reduceAdd, Nat.reduceLT, Nat.reduceBEq, Nat.reduceSub, Nat.reduceMul, Nat.reduceLeDiff, Int.reduceToNat, Nat.reduceEqDiff, Nat.reduceMod, ht, hl]
def specX0 : Spec := Spec.no.add 104 (sp1 dE (fun _ => True) fun e => .clo (.func 144) [] [.sptr [.int .i64 e.kind, .int .i64 e.id, .list .none (e.kids.map E.cells)]])
theorem specX0_ok : SpecOk Tryz.prog w0 specX0 := Spec.no_ok.add (sp1_ok fun e _ k H => nodes_call e)
theorem told_len (e : E) : ∀ x ∈ e.told, x.length = 2 := fun x hx => by
  obtain ⟨y, _, rfl⟩ := List.mem_map.1 hx
  rfl
theorem sizeX_call (e : E) (hok : e.ok) : CallAt Tryz.prog w0 k 74 [e.av] H H (.int .i64 (min (e.sz : Int) 1001)) := by
  refine callAt tabOk specX0_ok mixed Tryz.func74 rfl rfl Tryz.results74 Tryz.ntmps74 (by simp) [] ?_
  intro hfr t hl ht
  simp only [At, Nat.reduceAdd, List.cons_append, List.nil_append] at ht
  simp (config := {contextual := true, maxSteps := 5000000}) only [go_sem, false_and, Nat.reduceAdd, Nat.reduceLT, Nat.reduceBEq, Nat.reduceSub, Nat.reduceMul, Nat.reduceLeDiff, Int.reduceToNat, Nat.reduceEqDiff, Nat.reduceMod, ht, hl, specX0]
  have hid : H ⟨1, 0 :: 1 :: k, 3⟩ = none := hfr _ (sfx2 _ _ _)
  refine rangeDet (gf := 144) (caps := [.sptr e.cells]) (xs := e.told) (by simp (config := {contextual := true, maxSteps := 5000000}) only [go_sem, false_and, Nat.reduceAdd, Nat.reduceLT, Nat.reduceBEq, Nat.reduceSub, Nat.reduceMul, Nat.reduceLeDiff, Int.reduceToNat, Nat.reduceEqDiff, Nat.reduceMod, ht, hl, E.cells_eq]) (nodes_iter e hok) (told_len e)
    (fun j => H.upd ⟨1, 0 :: 1 :: k, 3⟩ (some (.cells [.int .i64 (j : Nat)]))) (fun j => if 1000 ≤ j then some (.exit 0) else none) (fun j => by split <;> simp) (fun j v => by split <;> simp) rfl
    (fun j i hi => by rw [Hp.upd_ne _ _ (notKey hi (by decide))]; exact hfr i ((List.suffix_cons _ _).trans hi)) ?_ (fun ha => ?_) (fun j c hj hp hc => ?_)
  · intro j x hx hp l key w0' hw0 hkey
    refine vc_sound (tab := tab) (Sp := Spec.no) (mb := []) tabOk Spec.no_ok mixed _ _ _ ?_
    obtain ⟨y, hy, rfl⟩ : ∃ y : Int × E, (e.nd 1)[j]? = some y ∧ x = [.int .i64 y.1, y.2.av] := by
      simp only [E.told, List.getElem?_map, Option.map_eq_some_iff] at hx
      obtain ⟨y, h1, h2⟩ := hx
      exact ⟨y, h1, h2.symm⟩
    simp (config := {contextual := true, maxSteps := 5000000}) only [go_sem, false_and, Nat.reduceAdd, Nat.reduceLT, Nat.reduceBEq, Nat.reduceSub, Nat.reduceMul, Nat.reduceLeDiff, Int.reduceToNat, Nat.reduceEqDiff, Nat.reduceMod, ht, hl, setPs]
    intro w0'' hw0'
    refine vc_sound (tab := tab) (Sp := Spec.no) (mb := []) tabOk Spec.no_ok mixed _ _ _ ?_
    have hj : j < 1001 := by
      rcases Nat.lt_or_ge j 1001 with h | h
      · exact h
      · have := hp 1000 (by omega)
        simp at this
    have hw : IntKind.i64.wrap ((j : Int) + 1) = ((j + 1 : Nat) : Int) := by rw [wrap_i64] <;> omega
    simp (config := {contextual := true, maxSteps := 5000000}) only [go_sem, false_and, Nat.reduceAdd, Nat.reduceLT, Nat.reduceBEq, Nat.reduceSub, Nat.reduceMul, Nat.reduceLeDiff, Int.reduceToNat, Nat.reduceEqDiff, Nat.reduceMod, ht, hl, hw]
    refine ⟨fun a => ?_, fun a => ?_⟩ <;> simp only [decide_eq_true_eq, decide_eq_false_iff_not] at a
    · rw [if_pos (by omega)]
      rfl
    · rw [if_neg (by omega)]
      rfl
  · simp (config := {contextual := true, maxSteps := 5000000}) only [go_sem, false_and, Nat.reduceAdd, Nat.reduceLT, Nat.reduceBEq, Nat.reduceSub, Nat.reduceMul, Nat.reduceLeDiff, Int.reduceToNat, Nat.reduceEqDiff, Nat.reduceMod, ht, hl]
    refine ⟨?_, Hp.le_upd (Hp.Le.refl _) hid⟩
    rw [E.told_length] at ha ⊢
    have : e.sz ≤ 1000 := by
      rcases Nat.lt_or_ge 1000 e.sz with h | h
      · have := ha 1000 h
        simp at this
      · exact h
    omega
  · have hj0 : j = 1000 := by
      split at hc
      · rcases Nat.lt_or_ge 1000 j with h | h
        · have := hp 1000 h
          simp at this
        · omega
      · cases hc
    subst hj0
    simp only [Nat.le_refl, if_true, Option.some.injEq] at hc
    subst hc
    simp (config := {contextual := true, maxSteps := 5000000}) only [go_sem, false_and, Nat.reduceAdd, Nat.reduceLT, Nat.reduceBEq, Nat.reduceSub, Nat.reduceMul, Nat.reduceLeDiff, Int.reduceToNat, Nat.reduceEqDiff, Nat.reduceMod, ht, hl]
    refine ⟨?_, Hp.le_upd (Hp.Le.refl _) hid⟩
    rw [E.told_length] at hj
    omega
def specX1 : Spec := specX0.add 74 (sp1 dE (fun e => e.ok) fun e => .int .i64 (min (e.sz : Int) 1001))
theorem specX1_ok : SpecOk Tryz.prog w0 specX1 := specX0_ok.add (sp1_ok fun e h k H => sizeX_call e h)

/-! depths -/
mutual
def E.tn (d : Nat) : E → List Nat
  | .mk _ _ ks => d :: E.tnL (d + 1) ks
def E.tnL (d : Nat) : List E → List Nat
  | [] => []
  | e :: es => E.tn d e ++ E.tnL d es
end
theorem wrap_wrap (n : Int) : IntKind.i64.wrap (IntKind.i64.wrap n + 1) = IntKind.i64.wrap (n + 1) := by
  rw [IntKind.wrap_i64, IntKind.wrap_i64, IntKind.wrap_i64]
  omega
mutual
theorem E.nd_tn : ∀ (e : E) (d : Nat), (e.nd (IntKind.i64.wrap d)).map (·.1) = (e.tn d).map fun n : Nat => IntKind.i64.wrap n
  | .mk k i ks, d => by
    simp only [E.nd, E.tn, List.map_cons, wrap_wrap]
    have := E.ndL_tnL ks (d + 1)
    simp only [Int.natCast_add, Int.natCast_one] at this
    rw [this]
theorem E.ndL_tnL : ∀ (l : List E) (d : Nat), (E.ndL (IntKind.i64.wrap d) l).map (·.1) = (E.tnL d l).map fun n : Nat => IntKind.i64.wrap n
  | [], d => rfl
  | e :: es, d => by simp only [E.ndL, E.tnL, List.map_append, E.nd_tn e d, E.ndL_tnL es d]
end
def maxL : List Nat → Nat
  | [] => 0
  | x :: l => max x (maxL l)
theorem maxL_append : ∀ l m : List Nat, maxL (l ++ m) = max (maxL l) (maxL m)
  | [], m => by simp [maxL]
  | x :: l, m => by simp only [List.cons_append, maxL, maxL_append l m]; omega
mutual
theorem E.tn_max : ∀ (e : E) (d : Nat), maxL (e.tn d) + 1 = d + e.dp
  | .mk k i ks, d => by
    simp only [E.tn, E.dp, maxL]
    have := E.tnL_max ks (d + 1)
    split at this <;> omega
theorem E.tnL_max : ∀ (l : List E) (d : Nat), if l = [] then maxL (E.tnL d l) = 0 ∧ E.dpL l = 0 else maxL (E.tnL d l) + 1 = d + E.dpL l
  | [], d => by simp [E.tnL, maxL, E.dpL]
  | e :: es, d => by
    have h1 := E.tn_max e d
    have h2 := E.tnL_max es d
    have h3 := e.dp_pos
    simp only [E.tnL, maxL_append, E.dpL]
    rw [if_neg (by simp)]
    split at h2 <;> omega
end
mutual
theorem E.tn_step : ∀ (e : E) (d j v : Nat), (e.tn d)[j]? = some v → (j = 0 ∧ v = d) ∨ ∃ i u, i < j ∧ (e.tn d)[i]? = some u ∧ v = u + 1
  | .mk k i ks, d, 0, v, h => by simp [E.tn] at h; exact .inl ⟨rfl, h.symm⟩
  | .mk k i ks, d, j + 1, v, h => by
    simp only [E.tn, List.getElem?_cons_succ] at h
    rcases E.tnL_step ks (d + 1) j v h with h1 | ⟨q, u, h1, h2, h3⟩
    · exact .inr ⟨0, d, by omega, by simp [E.tn], h1⟩
    · exact .inr ⟨q + 1, u, by omega, by simpa [E.tn] using h2, h3⟩
theorem E.tnL_step : ∀ (l : List E) (d j v : Nat), (E.tnL d l)[j]? = some v → v = d ∨ ∃ i u, i < j ∧ (E.tnL d l)[i]? = some u ∧ v = u + 1
  | [], d, j, v, h => by simp [E.tnL] at h
  | e :: es, d, j, v, h => by
    simp only [E.tnL] at h ⊢
    by_cases hj : j < (E.tn d e).length
    · rw [List.getElem?_append_left hj] at h
      rcases E.tn_step e d j v h with h1 | ⟨q, u, h1, h2, h3⟩
      · exact .inl h1.2
      · exact .inr ⟨q, u, h1, by rw [List.getElem?_append_left (by omega)]; exact h2, h3⟩
    · rw [List.getElem?_append_right (by omega)] at h
      rcases E.tnL_step es d _ v h with h1 | ⟨q, u, h1, h2, h3⟩
      · exact .inl h1
      · exact .inr ⟨q + (E.tn d e).length, u, by omega, by rw [List.getElem?_append_right (by omega), Nat.add_sub_cancel]; exact h2, h3⟩
end
theorem maxL_take (l : List Nat) {j v : Nat} (h : l[j]? = some v) : maxL (l.take (j + 1)) = max (maxL (l.take j)) v := by
  rw [List.take_add_one, h, maxL_append]
  simp [maxL]
theorem maxL_mem : ∀ {l : List Nat} {v : Nat}, v ∈ l → v ≤ maxL l
  | x :: l, v, h => by
    rcases List.mem_cons.1 h with rfl | h
    · simp only [maxL]; omega
    · have := maxL_mem h
      simp only [maxL]; omega
theorem maxL_take_le (l : List Nat) (j : Nat) : maxL (l.take j) ≤ maxL l := by
  have := maxL_append (l.take j) (l.drop j)
  rw [List.take_append_drop] at this
  omega
theorem told_at (e : E) {j : Nat} {x : List AV} (hx : e.told[j]? = some x) : ∃ y : Int × E, (e.nd 1)[j]? = some y ∧ x = [.int .i64 y.1, y.2.av] := by
  simp only [E.told, List.getElem?_map, Option.map_eq_some_iff] at hx
  obtain ⟨y, h1, h2⟩ := hx
  exact ⟨y, h1, h2.symm⟩
theorem nd_depth (e : E) {j : Nat} {y : Int × E} (h : (e.nd 1)[j]? = some y) : ∃ v, (e.tn 1)[j]? = some v ∧ y.1 = IntKind.i64.wrap (v : Int) := by
  have h1 := E.nd_tn e 1
  have h2 : ((e.nd (IntKind.i64.wrap (1 : Nat))).map (·.1))[j]? = some y.1 := by
    rw [List.getElem?_map, show IntKind.i64.wrap ((1 : Nat) : Int) = 1 from by rw [wrap_i64] <;> omega, h]
    rfl
  rw [h1, List.getElem?_map, Option.map_eq_some_iff] at h2
  obtain ⟨v, h3, h4⟩ := h2
  exact ⟨v, h3, h4.symm⟩
theorem tn_len (e : E) : (e.tn 1).length = e.sz := by
  have := congrArg List.length (E.nd_tn e 1)
  simpa [E.nd_len] using this.symm
theorem depthX_call (e : E) (hok : e.ok) : CallAt Tryz.prog w0 k 75 [e.av] H H (.int .i64 (min (e.dp : Int) 101)) := by
  refine callAt tabOk specX1_ok mixed Tryz.func75 rfl rfl Tryz.results75 Tryz.ntmps75 (by simp) [] ?_
  intro hfr t hl ht
  simp only [At, Nat.reduceAdd, List.cons_append, List.nil_append] at ht
  simp (config := {contextual := true, maxSteps := 5000000}) only [go_sem, false_and, Nat.reduceAdd, Nat.reduceLT, Nat.reduceBEq, Nat.reduceSub, Nat.reduceMul, Nat.reduceLeDiff, Int.reduceToNat, Nat.reduceEqDiff, Nat.reduceMod, ht, hl, specX1, specX0]
  have hid : H ⟨1, 0 :: 1 :: k, 3⟩ = none := hfr _ (sfx2 _ _ _)
  have hmax : maxL (e.tn 1) = e.dp := by have := E.tn_max e 1; omega
  have hprev : ∀ j, (∀ i, i < j → (if 100 < maxL ((e.tn 1).take (i + 1)) then some (AEx.exit 0) else none) = none) → maxL ((e.tn 1).take j) ≤ 100 := fun j hp => by
    cases j with
    | zero => simp [maxL]
    | succ j =>
      have := hp j (by omega)
      rcases Nat.lt_or_ge 100 (maxL ((e.tn 1).take (j + 1))) with h | h
      · rw [if_pos h] at this; cases this
      · exact h
  have hnext : ∀ j v, maxL ((e.tn 1).take j) ≤ 100 → (e.tn 1)[j]? = some v → v ≤ 101 := fun j v hm hv => by
    rcases E.tn_step e 1 j v hv with ⟨_, h⟩ | ⟨i, u, h1, h2, h3⟩
    · omega
    · have : u ≤ maxL ((e.tn 1).take j) := maxL_mem (List.mem_of_getElem? (by rw [List.getElem?_take_of_lt h1]; exact h2))
      omega
  refine rangeDet (gf := 144) (caps := [.sptr e.cells]) (xs := e.told) (by simp (config := {contextual := true, maxSteps := 5000000}) only [go_sem, false_and, Nat.reduceAdd, Nat.reduceLT, Nat.reduceBEq, Nat.reduceSub, Nat.reduceMul, Nat.reduceLeDiff, Int.reduceToNat, Nat.reduceEqDiff, Nat.reduceMod, ht, hl, E.cells_eq]) (nodes_iter e hok) (told_len e)
    (fun j => H.upd ⟨1, 0 :: 1 :: k, 3⟩ (some (.cells [.int .i64 (maxL ((e.tn 1).take j) : Nat)]))) (fun j => if 100 < maxL ((e.tn 1).take (j + 1)) then some (.exit 0) else none) (fun j => by split <;> simp) (fun j v => by split <;> simp) rfl
    (fun j i hi => by rw [Hp.upd_ne _ _ (notKey hi (by decide))]; exact hfr i ((List.suffix_cons _ _).trans hi)) ?_ (fun ha => ?_) (fun j c hj hp hc => ?_)
  · intro j x hx hp l key w0' hw0 hkey
    refine vc_sound (tab := tab) (Sp := Spec.no) (mb := []) tabOk Spec.no_ok mixed _ _ _ ?_
    obtain ⟨y, hy, rfl⟩ := told_at e hx
    obtain ⟨v, hv, hyv⟩ := nd_depth e hy
    have hm := hprev j hp
    have hv1 := hnext j v hm hv
    have hw : y.1 = (v : Int) := by rw [hyv, wrap_i64] <;> omega
    have hmt := maxL_take _ hv
    simp (config := {contextual := true, maxSteps := 5000000}) only [go_sem, false_and, Nat.reduceAdd, Nat.reduceLT, Nat.reduceBEq, Nat.reduceSub, Nat.reduceMul, Nat.reduceLeDiff, Int.reduceToNat, Nat.reduceEqDiff, Nat.reduceMod, ht, hl, setPs, hw]
    intro w0'' hw0'
    refine vc_sound (tab := tab) (Sp := Spec.no) (mb := []) tabOk Spec.no_ok mixed _ _ _ ?_
    simp (config := {contextual := true, maxSteps := 5000000}) only [go_sem, false_and, Nat.reduceAdd, Nat.reduceLT, Nat.reduceBEq, Nat.reduceSub, Nat.reduceMul, Nat.reduceLeDiff, Int.reduceToNat, Nat.reduceEqDiff, Nat.reduceMod, ht, hl, hw]
    have hif : (if (maxL ((e.tn 1).take j) : Int) < (v : Int) then (v : Int) else (maxL ((e.tn 1).take j) : Int)) = ((max (maxL ((e.tn 1).take j)) v : Nat) : Int) := by split <;> omega
    rw [hif, hmt]
    refine ⟨fun a => ⟨?_, Hp.Le.refl _⟩, fun a => ⟨?_, Hp.Le.refl _⟩⟩ <;> simp only [decide_eq_true_eq, decide_eq_false_iff_not] at a
    · rw [if_pos (by omega)]
      rfl
    · rw [if_neg (by omega)]
      rfl
  · simp (config := {contextual := true, maxSteps := 5000000}) only [go_sem, false_and, Nat.reduceAdd, Nat.reduceLT, Nat.reduceBEq, Nat.reduceSub, Nat.reduceMul, Nat.reduceLeDiff, Int.reduceToNat, Nat.reduceEqDiff, Nat.reduceMod, ht, hl]
    refine ⟨?_, Hp.le_upd (Hp.Le.refl _) hid⟩
    rw [E.told_length] at ha ⊢
    have := hprev _ ha
    rw [List.take_of_length_le (by rw [tn_len]; omega)] at this ⊢
    omega
  · have hm := hprev j hp
    rw [E.told_length, ← tn_len] at hj
    have hv : (e.tn 1)[j]? = some (e.tn 1)[j] := by simp [hj]
    have hv1 := hnext j _ hm hv
    have hmt := maxL_take _ hv
    have hle := maxL_take_le (e.tn 1) (j + 1)
    split at hc
    · cases hc
      simp (config := {contextual := true, maxSteps := 5000000}) only [go_sem, false_and, Nat.reduceAdd, Nat.reduceLT, Nat.reduceBEq, Nat.reduceSub, Nat.reduceMul, Nat.reduceLeDiff, Int.reduceToNat, Nat.reduceEqDiff, Nat.reduceMod, ht, hl]
      refine ⟨?_, Hp.le_upd (Hp.Le.refl _) hid⟩
      omega
    · cases hc
def specX2 : Spec := specX1.add 75 (sp1 dE (fun e => e.ok) fun e => .int .i64 (min (e.dp : Int) 101))
theorem specX2_ok : SpecOk Tryz.prog w0 specX2 := specX1_ok.add (sp1_ok fun e h k H => depthX_call e h)
theorem isTerm_call (e : E) : CallAt Tryz.prog w0 k 107 [e.av] H H (.bool e.term) := by
  refine callAt tabOk Spec.no_ok mixed Tryz.func107 rfl rfl Tryz.results107 Tryz.ntmps107 (by simp) [] ?_
  intro hfr t hl ht
  simp only [At, Nat.reduceAdd, List.cons_append, List.nil_append] at ht
  simp (config := {contextual := true, maxSteps := 5000000}) only [go_sem, false_and, Nat.reduceAdd, Nat.reduceLT, Nat.reduceBEq, Nat.reduceSub, Nat.reduceMul, Nat.reduceLeDiff, Int.reduceToNat, Nat.reduceEqDiff, Nat.reduceMod, ht, hl]
  simp +contextual [E.term] <;> grind
def specKA : Spec := Spec.no.add 107 (sp1 dE (fun _ => True) fun e => .bool e.term)
theorem specKA_ok : SpecOk Tryz.prog w0 specKA := Spec.no_ok.add (sp1_ok fun e _ k H => isTerm_call e)
theorem kidsAre_call (e : E) (l m : Int) (ts : Bool) (h1 : m ≤ 99) :
    CallAt Tryz.prog w0 k 146 [e.av, .int .i64 l, .int .i64 m, .bool ts] H H (.bool (decide (l ≤ e.kids.length) && decide (e.kids.length ≤ m) && e.kids.all fun x => x.term == ts)) := by
  refine callAt tabOk specKA_ok mixed Tryz.func146 rfl rfl Tryz.results146 Tryz.ntmps146 (by simp) [] ?_
  intro hfr t hl ht
  simp only [At, Nat.reduceAdd, List.cons_append, List.nil_append] at ht
  simp (config := {contextual := true, maxSteps := 5000000}) only [go_sem, false_and, Nat.reduceAdd, Nat.reduceLT, Nat.reduceBEq, Nat.reduceSub, Nat.reduceMul, Nat.reduceLeDiff, Int.reduceToNat, Nat.reduceEqDiff, Nat.reduceMod, ht, hl]
  refine ⟨fun a => ⟨fun b => ?_, fun b => ?_⟩, fun a => ?_⟩ <;> simp only [decide_eq_true_eq, decide_eq_false_iff_not] at a
  · simp only [decide_eq_true_eq] at b
    have : decide ((e.kids.length : Int) ≤ m) = false := by simp; omega
    simp [this]
  · simp only [decide_eq_false_iff_not] at b
    have d1 : decide (l ≤ (e.kids.length : Int)) = true := by simp; omega
    have d2 : decide ((e.kids.length : Int) ≤ m) = true := by simp; omega
    simp only [d1, d2, Bool.true_and]
    refine loop_inv tabOk specKA_ok mixed [] (fun j x => ∃ i : Nat, x.tmps.length = 35 ∧ x.tmps.getD 3 AV.undef = .bool ts ∧ (∀ i' x, i' < i → e.kids[i']? = some x → (x.term == ts) = true) ∧
      x.tmps.getD 24 AV.undef = .list .none (e.kids.map E.cells) ∧ x.tmps.getD 25 AV.undef = .int .i64 e.kids.length ∧ x.tmps.getD 26 AV.undef = .int .i64 i ∧ H.Le x.H ∧ i + j = e.kids.length) e.kids.length ⟨0, ?_⟩ ?_
    · simp (config := {contextual := true, maxSteps := 5000000}) only [go_sem, false_and, Nat.reduceAdd, Nat.reduceLT, Nat.reduceBEq, Nat.reduceSub, Nat.reduceMul, Nat.reduceLeDiff, Int.reduceToNat, Nat.reduceEqDiff, Nat.reduceMod, ht, hl]
      simp
    · rintro j ⟨t, n, H'⟩ ⟨i, hl, h3', hall, h24, h25, h26, hH, hij⟩
      simp only at hl h3' h24 h25 h26 hH
      by_cases hi : i < e.kids.length
      · have hd : decide ((i : Int) < (e.kids.length : Int)) = true := by simp [hi]
        have hw2 : IntKind.i64.wrap ((i : Int) + 1) = ((i + 1 : Nat) : Int) := by rw [wrap_i64] <;> omega
        obtain ⟨x, hx, he⟩ := E.kid e hi
        simp (config := {contextual := true, maxSteps := 5000000}) only [go_sem, false_and, Nat.reduceAdd, Nat.reduceLT, Nat.reduceBEq, Nat.reduceSub, Nat.reduceMul, Nat.reduceLeDiff, Int.reduceToNat, Nat.reduceEqDiff, Nat.reduceMod, he, specKA, h3', h24, h25, h26, hl, hd, hw2]
        have hn : H ⟨3, 2 :: (n + 1) :: k, 25⟩ = none := hfr _ (sfx2 _ _ _)
        have hle : ∀ a, H.Le (H'.upd ⟨3, 2 :: (n + 1) :: k, 25⟩ a) := fun a => Hp.le_upd hH hn
        have bad : (x.term == ts) = false → (false = e.kids.all fun x => x.term == ts) := fun h => by
          symm
          rw [List.all_eq_false]
          exact ⟨x, List.mem_of_getElem? hx, by simp [h]⟩
        refine ⟨⟨by omega, by omega⟩, fun a => ⟨bad (by simp_all), hle _⟩, fun a => ⟨j - 1, by omega, i + 1, fun i' y hi' hy => ?_, rfl, hle _, by omega⟩⟩
        by_cases e : i' = i
        · subst e
          rw [hx] at hy
          cases hy
          simp_all
        · exact hall i' y (by omega) hy
      · have hd : decide ((i : Int) < (e.kids.length : Int)) = false := by simp; omega
        simp (config := {contextual := true, maxSteps := 5000000}) only [go_sem, false_and, Nat.reduceAdd, Nat.reduceLT, Nat.reduceBEq, Nat.reduceSub, Nat.reduceMul, Nat.reduceLeDiff, Int.reduceToNat, Nat.reduceEqDiff, Nat.reduceMod, h3', h24, h25, h26, hl, hd]
        refine ⟨?_, hH⟩
        symm
        rw [List.all_eq_true]
        intro x hx
        obtain ⟨i', hi', hx'⟩ := List.getElem_of_mem hx
        exact hall i' x (by omega) (by rw [← hx']; simp)
  · have : decide (l ≤ (e.kids.length : Int)) = false := by simp; omega
    simp [this]
def specKB : Spec := Spec.no.add 146 (sp4 dE dI dI dB (fun _ _ m _ => m ≤ 99) fun e l m t => .bool (decide (l ≤ e.kids.length) && decide (e.kids.length ≤ m) && e.kids.all fun x => x.term == t))
theorem specKB_ok : SpecOk Tryz.prog w0 specKB := Spec.no_ok.add (sp4_ok fun e l m t h k H => kidsAre_call e l m t h)
theorem E.loc_all (e : E) : e.loc = match E.want e.kind with
    | some (mx, l, m, t) => decide (0 ≤ e.id) && decide (e.id ≤ mx) && (decide ((l : Int) ≤ e.kids.length) && decide ((e.kids.length : Int) ≤ m) && e.kids.all fun x => x.term == t)
    | none => false := by
  unfold E.loc
  cases h : E.want e.kind with
  | none => rfl
  | some v =>
    obtain ⟨mx, l, m, t⟩ := v
    simp only [Int.ofNat_le, Bool.and_assoc]
theorem shapedX_call (e : E) : CallAt Tryz.prog w0 k 105 [e.av] H H (.bool e.loc) := by
  refine callAt tabOk specKB_ok mixed Tryz.func105 rfl rfl Tryz.results105 Tryz.ntmps105 (by simp) [] ?_
  intro hfr t hl ht
  simp only [At, Nat.reduceAdd, List.cons_append, List.nil_append] at ht
  rw [E.loc_all]
  have hc : (e.kind = 1 ∨ e.kind = 2 ∨ e.kind = 3 ∨ e.kind = 4 ∨ e.kind = 5 ∨ e.kind = 6 ∨ e.kind = 7 ∨ e.kind = 8 ∨ e.kind = 9 ∨ e.kind = 10) ∨ (e.kind == 1) = false ∧ (e.kind == 2) = false ∧ (e.kind == 3) = false ∧ (e.kind == 4) = false ∧ (e.kind == 5) = false ∧ (e.kind == 6) = false ∧ (e.kind == 7) = false ∧ (e.kind == 8) = false ∧ (e.kind == 9) = false ∧ (e.kind == 10) = false := by
    simp only [beq_eq_false_iff_ne]
    omega
  rcases hc with (hk | hk | hk | hk | hk | hk | hk | hk | hk | hk) | ⟨b1, b2, b3, b4, b5, b6, b7, b8, b9, b10⟩
  · have b1 : (e.kind == 1) = true := by simp [hk]
    have b2 : (e.kind == 2) = false := by simp [hk]
    have b3 : (e.kind == 3) = false := by simp [hk]
    have b4 : (e.kind == 4) = false := by simp [hk]
    have b5 : (e.kind == 5) = false := by simp [hk]
    have b6 : (e.kind == 6) = false := by simp [hk]
    have b7 : (e.kind == 7) = false := by simp [hk]
    have b8 : (e.kind == 8) = false := by simp [hk]
    have b9 : (e.kind == 9) = false := by simp [hk]
    have b10 : (e.kind == 10) = false := by simp [hk]
    simp (config := {contextual := true, maxSteps := 5000000}) only [go_sem, false_and, Nat.reduceAdd, Nat.reduceLT, Nat.reduceBEq, Nat.reduceSub, Nat.reduceMul, Nat.reduceLeDiff, Int.reduceToNat, Nat.reduceEqDiff, Nat.reduceMod, ht, hl, specKB, b1, b2, b3, b4, b5, b6, b7, b8, b9, b10]
    simp only [E.want, hk]
    (repeat' (first | apply And.intro | intro _)) <;> by_cases h0 : e.kids = [] <;> simp_all <;> first | omega | grind
  · have b1 : (e.kind == 1) = false := by simp [hk]
    have b2 : (e.kind == 2) = true := by simp [hk]
    have b3 : (e.kind == 3) = false := by simp [hk]
    have b4 : (e.kind == 4) = false := by simp [hk]
    have b5 : (e.kind == 5) = false := by simp [hk]
    have b6 : (e.kind == 6) = false := by simp [hk]
    have b7 : (e.kind == 7) = false := by simp [hk]
    have b8 : (e.kind == 8) = false := by simp [hk]
    have b9 : (e.kind == 9) = false := by simp [hk]
    have b10 : (e.kind == 10) = false := by simp [hk]
    simp (config := {contextual := true, maxSteps := 5000000}) only [go_sem, false_and, Nat.reduceAdd, Nat.reduceLT, Nat.reduceBEq, Nat.reduceSub, Nat.reduceMul, Nat.reduceLeDiff, Int.reduceToNat, Nat.reduceEqDiff, Nat.reduceMod, ht, hl, specKB, b1, b2, b3, b4, b5, b6, b7, b8, b9, b10]
    simp only [E.want, hk]
    (repeat' (first | apply And.intro | intro _)) <;> simp_all <;> omega
  · have b1 : (e.kind == 1) = false := by simp [hk]
    have b2 : (e.kind == 2) = false := by simp [hk]
    have b3 : (e.kind == 3) = true := by simp [hk]
    have b4 : (e.kind == 4) = false := by simp [hk]
    have b5 : (e.kind == 5) = false := by simp [hk]
    have b6 : (e.kind == 6) = false := by simp [hk]
    have b7 : (e.kind == 7) = false := by simp [hk]
    have b8 : (e.kind == 8) = false := by simp [hk]
    have b9 : (e.kind == 9) = false := by simp [hk]
    have b10 : (e.kind == 10) = false := by simp [hk]
    simp (config := {contextual := true, maxSteps := 5000000}) only [go_sem, false_and, Nat.reduceAdd, Nat.reduceLT, Nat.reduceBEq, Nat.reduceSub, Nat.reduceMul, Nat.reduceLeDiff, Int.reduceToNat, Nat.reduceEqDiff, Nat.reduceMod, ht, hl, specKB, b1, b2, b3, b4, b5, b6, b7, b8, b9, b10]
    simp only [E.want, hk]
    (repeat' (first | apply And.intro | intro _)) <;> simp_all <;> omega
  · have b1 : (e.kind == 1) = false := by simp [hk]
    have b2 : (e.kind == 2) = false := by simp [hk]
    have b3 : (e.kind == 3) = false := by simp [hk]
    have b4 : (e.kind == 4) = true := by simp [hk]
    have b5 : (e.kind == 5) = false := by simp [hk]
    have b6 : (e.kind == 6) = false := by simp [hk]
    have b7 : (e.kind == 7) = false := by simp [hk]
    have b8 : (e.kind == 8) = false := by simp [hk]
    have b9 : (e.kind == 9) = false := by simp [hk]
    have b10 : (e.kind == 10) = false := by simp [hk]
    simp (config := {contextual := true, maxSteps := 5000000}) only [go_sem, false_and, Nat.reduceAdd, Nat.reduceLT, Nat.reduceBEq, Nat.reduceSub, Nat.reduceMul, Nat.reduceLeDiff, Int.reduceToNat, Nat.reduceEqDiff, Nat.reduceMod, ht, hl, specKB, b1, b2, b3, b4, b5, b6, b7, b8, b9, b10]
    simp only [E.want, hk]
    (repeat' (first | apply And.intro | intro _)) <;> simp_all <;> omega
  · have b1 : (e.kind == 1) = false := by simp [hk]
    have b2 : (e.kind == 2) = false := by simp [hk]
    have b3 : (e.kind == 3) = false := by simp [hk]
    have b4 : (e.kind == 4) = false := by simp [hk]
    have b5 : (e.kind == 5) = true := by simp [hk]
    have b6 : (e.kind == 6) = false := by simp [hk]
    have b7 : (e.kind == 7) = false := by simp [hk]
    have b8 : (e.kind == 8) = false := by simp [hk]
    have b9 : (e.kind == 9) = false := by simp [hk]
    have b10 : (e.kind == 10) = false := by simp [hk]
    simp (config := {contextual := true, maxSteps := 5000000}) only [go_sem, false_and, Nat.reduceAdd, Nat.reduceLT, Nat.reduceBEq, Nat.reduceSub, Nat.reduceMul, Nat.reduceLeDiff, Int.reduceToNat, Nat.reduceEqDiff, Nat.reduceMod, ht, hl, specKB, b1, b2, b3, b4, b5, b6, b7, b8, b9, b10]
    simp only [E.want, hk]
    (repeat' (first | apply And.intro | intro _)) <;> simp_all <;> omega
  · have b1 : (e.kind == 1) = false := by simp [hk]
    have b2 : (e.kind == 2) = false := by simp [hk]
    have b3 : (e.kind == 3) = false := by simp [hk]
    have b4 : (e.kind == 4) = false := by simp [hk]
    have b5 : (e.kind == 5) = false := by simp [hk]
    have b6 : (e.kind == 6) = true := by simp [hk]
    have b7 : (e.kind == 7) = false := by simp [hk]
    have b8 : (e.kind == 8) = false := by simp [hk]
    have b9 : (e.kind == 9) = false := by simp [hk]
    have b10 : (e.kind == 10) = false := by simp [hk]
    simp (config := {contextual := true, maxSteps := 5000000}) only [go_sem, false_and, Nat.reduceAdd, Nat.reduceLT, Nat.reduceBEq, Nat.reduceSub, Nat.reduceMul, Nat.reduceLeDiff, Int.reduceToNat, Nat.reduceEqDiff, Nat.reduceMod, ht, hl, specKB, b1, b2, b3, b4, b5, b6, b7, b8, b9, b10]
    simp only [E.want, hk]
    (repeat' (first | apply And.intro | intro _)) <;> simp_all <;> omega
  · have b1 : (e.kind == 1) = false := by simp [hk]
    have b2 : (e.kind == 2) = false := by simp [hk]
    have b3 : (e.kind == 3) = false := by simp [hk]
    have b4 : (e.kind == 4) = false := by simp [hk]
    have b5 : (e.kind == 5) = false := by simp [hk]
    have b6 : (e.kind == 6) = false := by simp [hk]
    have b7 : (e.kind == 7) = true := by simp [hk]
    have b8 : (e.kind == 8) = false := by simp [hk]
    have b9 : (e.kind == 9) = false := by simp [hk]
    have b10 : (e.kind == 10) = false := by simp [hk]
    simp (config := {contextual := true, maxSteps := 5000000}) only [go_sem, false_and, Nat.reduceAdd, Nat.reduceLT, Nat.reduceBEq, Nat.reduceSub, Nat.reduceMul, Nat.reduceLeDiff, Int.reduceToNat, Nat.reduceEqDiff, Nat.reduceMod, ht, hl, specKB, b1, b2, b3, b4, b5, b6, b7, b8, b9, b10]
    simp only [E.want, hk]
    (repeat' (first | apply And.intro | intro _)) <;> simp_all <;> omega
  · have b1 : (e.kind == 1) = false := by simp [hk]
    have b2 : (e.kind == 2) = false := by simp [hk]
    have b3 : (e.kind == 3) = false := by simp [hk]
    have b4 : (e.kind == 4) = false := by simp [hk]
    have b5 : (e.kind == 5) = false := by simp [hk]
    have b6 : (e.kind == 6) = false := by simp [hk]
    have b7 : (e.kind == 7) = false := by simp [hk]
    have b8 : (e.kind == 8) = true := by simp [hk]
    have b9 : (e.kind == 9) = false := by simp [hk]
    have b10 : (e.kind == 10) = false := by simp [hk]
    simp (config := {contextual := true, maxSteps := 5000000}) only [go_sem, false_and, Nat.reduceAdd, Nat.reduceLT, Nat.reduceBEq, Nat.reduceSub, Nat.reduceMul, Nat.reduceLeDiff, Int.reduceToNat, Nat.reduceEqDiff, Nat.reduceMod, ht, hl, specKB, b1, b2, b3, b4, b5, b6, b7, b8, b9, b10]
    simp only [E.want, hk]
    (repeat' (first | apply And.intro | intro _)) <;> simp_all <;> omega
  · have b1 : (e.kind == 1) = false := by simp [hk]
    have b2 : (e.kind == 2) = false := by simp [hk]
    have b3 : (e.kind == 3) = false := by simp [hk]
    have b4 : (e.kind == 4) = false := by simp [hk]
    have b5 : (e.kind == 5) = false := by simp [hk]
    have b6 : (e.kind == 6) = false := by simp [hk]
    have b7 : (e.kind == 7) = false := by simp [hk]
    have b8 : (e.kind == 8) = false := by simp [hk]
    have b9 : (e.kind == 9) = true := by simp [hk]
    have b10 : (e.kind == 10) = false := by simp [hk]
    simp (config := {contextual := true, maxSteps := 5000000}) only [go_sem, false_and, Nat.reduceAdd, Nat.reduceLT, Nat.reduceBEq, Nat.reduceSub, Nat.reduceMul, Nat.reduceLeDiff, Int.reduceToNat, Nat.reduceEqDiff, Nat.reduceMod, ht, hl, specKB, b1, b2, b3, b4, b5, b6, b7, b8, b9, b10]
    simp only [E.want, hk]
    (repeat' (first | apply And.intro | intro _)) <;> simp_all <;> omega
  · have b1 : (e.kind == 1) = false := by simp [hk]
    have b2 : (e.kind == 2) = false := by simp [hk]
    have b3 : (e.kind == 3) = false := by simp [hk]
    have b4 : (e.kind == 4) = false := by simp [hk]
    have b5 : (e.kind == 5) = false := by simp [hk]
    have b6 : (e.kind == 6) = false := by simp [hk]
    have b7 : (e.kind == 7) = false := by simp [hk]
    have b8 : (e.kind == 8) = false := by simp [hk]
    have b9 : (e.kind == 9) = false := by simp [hk]
    have b10 : (e.kind == 10) = true := by simp [hk]
    simp (config := {contextual := true, maxSteps := 5000000}) only [go_sem, false_and, Nat.reduceAdd, Nat.reduceLT, Nat.reduceBEq, Nat.reduceSub, Nat.reduceMul, Nat.reduceLeDiff, Int.reduceToNat, Nat.reduceEqDiff, Nat.reduceMod, ht, hl, specKB, b1, b2, b3, b4, b5, b6, b7, b8, b9, b10]
    simp only [E.want, hk]
    (repeat' (first | apply And.intro | intro _)) <;> simp_all <;> omega
  · simp (config := {contextual := true, maxSteps := 5000000}) only [go_sem, false_and, Nat.reduceAdd, Nat.reduceLT, Nat.reduceBEq, Nat.reduceSub, Nat.reduceMul, Nat.reduceLeDiff, Int.reduceToNat, Nat.reduceEqDiff, Nat.reduceMod, ht, hl, specKB, b1, b2, b3, b4, b5, b6, b7, b8, b9, b10]
    simp only [beq_eq_false_iff_ne] at b1 b2 b3 b4 b5 b6 b7 b8 b9 b10
    simp [E.want, b1, b2, b3, b4, b5, b6, b7, b8, b9, b10]
end Go.Proofs.YtkdendaohlnlcaaGreatDoor.Av

/- What expr.Right and expr.IsTerm answer. No condition. -/
namespace Go.Proofs.YtkdendaohlnlcaaGreatDoor.Av
set_option linter.unusedVariables false
set_option linter.unusedSimpArgs false
set_option maxRecDepth 4000
set_option maxHeartbeats 1000000
variable {w0 : Base} {k : List Nat} {H : Hp}

mutual
theorem E.sh_nd : ∀ (e : E) (d : Int), e.sh = (e.nd d).all fun x => x.2.loc
  | .mk k i ks, d => by
    simp only [E.sh, E.nd, List.all_cons, E.shL_nd ks (IntKind.i64.wrap (d + 1))]
theorem E.shL_nd : ∀ (l : List E) (d : Int), E.shL l = (E.ndL d l).all fun x => x.2.loc
  | [], d => rfl
  | e :: es, d => by simp only [E.shL, E.ndL, List.all_append, E.sh_nd e d, E.shL_nd es d]
end
def specX3 : Spec := specX2.add 105 (sp1 dE (fun _ => True) fun e => .bool e.loc)
theorem specX3_ok : SpecOk Tryz.prog w0 specX3 := specX2_ok.add (sp1_ok fun e _ k H => shapedX_call e)
theorem Hp.upd_le {A B : Hp} {i : Id} {x : Option Ent} (h : A.Le B) : (A.upd i x).Le (B.upd i x) := by
  intro j e hj
  by_cases hji : j = i
  · subst hji
    rw [Hp.upd_same] at hj ⊢
    exact hj
  · rw [Hp.upd_ne _ _ hji] at hj ⊢
    exact h j e hj
theorem rightX_call (e : E) (hok : e.ok) : CallAt Tryz.prog w0 k 70 [e.av] H H (.int .i64 e.right) := by
  refine callAt tabOk specX3_ok mixed Tryz.func70 rfl rfl Tryz.results70 Tryz.ntmps70 (by simp) [] ?_
  intro hfr t hl ht
  simp only [At, Nat.reduceAdd, List.cons_append, List.nil_append] at ht
  simp (config := {contextual := true, maxSteps := 5000000}) only [go_sem, false_and, Nat.reduceAdd, Nat.reduceLT, Nat.reduceBEq, Nat.reduceSub, Nat.reduceMul, Nat.reduceLeDiff, Int.reduceToNat, Nat.reduceEqDiff, Nat.reduceMod, ht, hl, specX3, specX2, specX1, specX0, resOne]
  have hid : H ⟨1, 1 :: 0 :: k, 29⟩ = none := hfr _ (sfx2 _ _ _)
  have hle : ∀ a, H.Le (H.upd ⟨1, 1 :: 0 :: k, 29⟩ a) := fun a => Hp.le_upd (Hp.Le.refl _) hid
  refine ⟨hok, fun a => ⟨?_, hle _⟩, fun a => ⟨hok, fun b => ⟨?_, hle _⟩, fun b => ?_⟩⟩ <;> simp only [decide_eq_true_eq, decide_eq_false_iff_not] at a
  · rw [E.right, if_pos (by omega)]
  · simp only [decide_eq_true_eq] at b
    rw [E.right, if_neg (by omega), if_pos (by omega)]
  simp only [decide_eq_false_iff_not] at b
  have hright : e.right = if e.sh then 0 else 22 := by rw [E.right, if_neg (by omega), if_neg (by omega)]
  have hsh := E.sh_nd e 1
  have htk : ∀ j x, (e.nd 1)[j]? = some x → ((e.nd 1).take (j + 1)).all (fun x => x.2.loc) = (((e.nd 1).take j).all (fun x => x.2.loc) && x.2.loc) := fun j x hx => by
    rw [List.take_add_one, hx]
    simp [List.all_append]
  have hprev : ∀ j, (∀ i, i < j → (if ((e.nd 1).take (i + 1)).all (fun x => x.2.loc) then none else some AEx.ret) = none) → ((e.nd 1).take j).all (fun x => x.2.loc) = true := fun j hp => by
    cases j with
    | zero => simp
    | succ j =>
      have := hp j (by omega)
      cases h : ((e.nd 1).take (j + 1)).all (fun x => x.2.loc) with
      | true => rfl
      | false => rw [h] at this; simp at this
  refine rangeDet (gf := 144) (caps := [.sptr e.cells]) (xs := e.told) (by simp (config := {contextual := true, maxSteps := 5000000}) only [go_sem, false_and, Nat.reduceAdd, Nat.reduceLT, Nat.reduceBEq, Nat.reduceSub, Nat.reduceMul, Nat.reduceLeDiff, Int.reduceToNat, Nat.reduceEqDiff, Nat.reduceMod, ht, hl, E.cells_eq]) (nodes_iter e hok) (told_len e)
    (fun j => H.upd ⟨1, 1 :: 0 :: k, 29⟩ (some (.cells [.int .i64 (if ((e.nd 1).take j).all (fun x => x.2.loc) then 0 else 22)]))) (fun j => if ((e.nd 1).take (j + 1)).all (fun x => x.2.loc) then none else some .ret) (fun j => by split <;> simp) (fun j v => by split <;> simp) (by simp)
    (fun j i hi => by rw [Hp.upd_ne _ _ (notKey hi (by decide))]; exact hfr i ((List.suffix_cons _ _).trans hi)) ?_ (fun ha => ?_) (fun j c hj hp hc => ?_)
  · intro j x hx hp l key w0' hw0 hkey
    refine vc_sound (tab := tab) (Sp := Spec.no) (mb := []) tabOk Spec.no_ok mixed _ _ _ ?_
    obtain ⟨y, hy, rfl⟩ := told_at e hx
    have hm := hprev j hp
    have ht1 := htk j y hy
    rw [hm, Bool.true_and] at ht1
    simp (config := {contextual := true, maxSteps := 5000000}) only [go_sem, false_and, Nat.reduceAdd, Nat.reduceLT, Nat.reduceBEq, Nat.reduceSub, Nat.reduceMul, Nat.reduceLeDiff, Int.reduceToNat, Nat.reduceEqDiff, Nat.reduceMod, ht, hl, setPs, hm]
    intro w0'' hw0'
    refine vc_sound (tab := tab) (Sp := specX3) (mb := []) tabOk specX3_ok mixed _ _ _ ?_
    have hkn : k <:+ key := (List.suffix_cons _ _).trans hkey
    have hne : (⟨3, 0 :: 0 :: key, 25⟩ : Id) ≠ ⟨1, 1 :: 0 :: k, 29⟩ := fun h => by cases h
    have hnn : ∀ a, (H.upd ⟨1, 1 :: 0 :: k, 29⟩ a) ⟨3, 0 :: 0 :: key, 25⟩ = none := fun a => by
      rw [Hp.upd_ne _ _ hne]
      exact hfr _ (hkn.trans (sfx2 _ _ _))
    simp (config := {contextual := true, maxSteps := 5000000}) only [go_sem, false_and, Nat.reduceAdd, Nat.reduceLT, Nat.reduceBEq, Nat.reduceSub, Nat.reduceMul, Nat.reduceLeDiff, Int.reduceToNat, Nat.reduceEqDiff, Nat.reduceMod, ht, hl, hm, ht1, specX3, specX2, specX1, specX0]
    refine ⟨fun a => ?_, fun a => ?_⟩ <;> simp only [Bool.not_eq_true', Bool.not_eq_false'] at a <;> simp only [a, Bool.false_eq_true, if_false, if_true]
    · exact ⟨rfl, Hp.upd_le (Hp.le_upd (hle _) (hfr _ (hkn.trans (sfx2 _ _ _))))⟩
    · exact ⟨rfl, Hp.le_upd (Hp.Le.refl _) (hnn _)⟩
  · simp (config := {contextual := true, maxSteps := 5000000}) only [go_sem, false_and, Nat.reduceAdd, Nat.reduceLT, Nat.reduceBEq, Nat.reduceSub, Nat.reduceMul, Nat.reduceLeDiff, Int.reduceToNat, Nat.reduceEqDiff, Nat.reduceMod, ht, hl, resOne]
    refine ⟨?_, hle _⟩
    have := hprev _ ha
    rw [E.told_length, List.take_of_length_le (by rw [E.nd_len]; omega), ← hsh] at this
    rw [hright, this]
    rfl
  · split at hc
    · cases hc
    · rename_i hb
      cases hc
      simp (config := {contextual := true, maxSteps := 5000000}) only [go_sem, false_and, Nat.reduceAdd, Nat.reduceLT, Nat.reduceBEq, Nat.reduceSub, Nat.reduceMul, Nat.reduceLeDiff, Int.reduceToNat, Nat.reduceEqDiff, Nat.reduceMod, ht, hl, resOne]
      refine ⟨?_, hle _⟩
      rw [hright, if_neg hb, if_neg]
      rw [hsh]
      intro hall
      apply hb
      rw [List.all_eq_true] at hall ⊢
      exact fun x hx => hall x (List.mem_of_mem_take hx)
def specX4 : Spec := (Spec.no.add 70 (sp1 dE (fun e => e.ok) fun e => .int .i64 e.right)).add 107 (sp1 dE (fun _ => True) fun e => .bool e.term)
theorem specX4_ok : SpecOk Tryz.prog w0 specX4 := (Spec.no_ok.add (sp1_ok fun e h k H => rightX_call e h)).add (sp1_ok fun e _ k H => isTerm_call e)
theorem isTermX_call (e : E) (hok : e.ok) : CallAt Tryz.prog w0 k 73 [e.av] H H (.bool (e.right == 0 && e.term)) := by
  refine callAt tabOk specX4_ok mixed Tryz.func73 rfl rfl Tryz.results73 Tryz.ntmps73 (by simp) [] ?_
  intro hfr t hl ht
  simp only [At, Nat.reduceAdd, List.cons_append, List.nil_append] at ht
  simp (config := {contextual := true, maxSteps := 5000000}) only [go_sem, false_and, Nat.reduceAdd, Nat.reduceLT, Nat.reduceBEq, Nat.reduceSub, Nat.reduceMul, Nat.reduceLeDiff, Int.reduceToNat, Nat.reduceEqDiff, Nat.reduceMod, ht, hl, specX4]
  simp [hok]
def specX5 : Spec := (((Spec.no.add 70 (sp1 dE (fun e => e.ok) fun e => .int .i64 e.right)).add 73 (sp1 dE (fun e => e.ok) fun e => .bool (e.right == 0 && e.term))).add
  74 (sp1 dE (fun e => e.ok) fun e => .int .i64 (min (e.sz : Int) 1001))).add 75 (sp1 dE (fun e => e.ok) fun e => .int .i64 (min (e.dp : Int) 101))
theorem specX5_ok : SpecOk Tryz.prog w0 specX5 := (((Spec.no_ok.add (sp1_ok fun e h k H => rightX_call e h)).add (sp1_ok fun e h k H => isTermX_call e h)).add (sp1_ok fun e h k H => sizeX_call e h)).add (sp1_ok fun e h k H => depthX_call e h)
end Go.Proofs.YtkdendaohlnlcaaGreatDoor.Av

/- What parse.Tokens answers. No condition. -/
namespace Go.Proofs.YtkdendaohlnlcaaGreatDoor.Av
set_option linter.unusedVariables false
set_option linter.unusedSimpArgs false
set_option maxRecDepth 4000
set_option maxHeartbeats 1000000
variable {w0 : Base} {k : List Nat} {H : Hp}
def specTp : Spec := ((Spec.no.add 150 (sp1 dR (fun _ => True) fun c => .tup [.int .i64 (symK c), .int .i64 (symM c)])).add 151 (sp2 dS dR (fun s c => s = signsB ∧ 0 ≤ c) fun _ c => .bool (isSign c))).add
  152 (sp2 dS dI (fun s m => (m = 63 ∨ m = 99) ∧ s.size ≤ 140737488355328) fun s m => .tup [.int .i64 (numR s m).1, .int .i64 ((numR s m).2 : Nat)])
theorem specTp_ok : SpecOk Tryz.prog w0 specTp := ((Spec.no_ok.add (sp1_ok fun c _ k H => symbol_call c)).add (sp2_ok fun s c h k H => by obtain ⟨rfl, h⟩ := h; exact containsRune_call c h)).add (sp2_ok fun s m h k H => numberP_call s m h.1 h.2)
theorem isSign_small {c : Int} (h : isSign c = true) : c < 128 := by
  simp only [isSign, List.any_eq_true, signs, List.mem_cons, List.not_mem_nil, or_false, beq_iff_eq] at h
  obtain ⟨x, hx, rfl⟩ := h
  omega
theorem symK_cases (c : Int) : symK c = 0 ∧ most c = -1 ∨ (symK c = kindOf c ∧ symM c = most c ∧ (most c = 63 ∨ most c = 99) ∧ symK c ≠ 0 ∧ isSign c = false ∧ c < 128) := by
  unfold symK symM most kindOf
  by_cases h1 : c = 120
  · subst h1; right; decide
  · by_cases h2 : c = 102
    · subst h2; right; decide
    · by_cases h3 : c = 80
      · subst h3; right; decide
      · left; simp [h1, h2, h3]
theorem tokens_call (s : ByteArray) : CallAt Tryz.prog w0 k 112 [.str s] H H (toks s).av := by
  refine callAt tabOk specTp_ok mixed Tryz.func112 rfl rfl Tryz.results112 Tryz.ntmps112 (by simp) [] ?_
  intro hfr t hl ht
  simp only [At, Nat.reduceAdd, List.cons_append, List.nil_append] at ht
  simp (config := {contextual := true, maxSteps := 5000000}) only [go_sem, false_and, Nat.reduceAdd, Nat.reduceLT, Nat.reduceBEq, Nat.reduceSub, Nat.reduceMul, Nat.reduceLeDiff, Int.reduceToNat, Nat.reduceEqDiff, Nat.reduceMod, ht, hl]
  refine ⟨fun a => ?_, fun a => ?_⟩ <;> simp only [decide_eq_true_eq, decide_eq_false_iff_not] at a
  · rw [toks, if_pos (by omega)]
    exact Weak.refl _
  · have htk : toks s = tkGo s 0 [] := by rw [toks, if_neg (by omega)]
    refine strRange (s := s) (mb := []) tabOk specTp_ok mixed rfl rfl rfl rfl rfl rfl tab_9 rfl rfl rfl rfl rfl rfl (by simp (config := {contextual := true, maxSteps := 5000000}) only [go_sem, false_and, Nat.reduceAdd, Nat.reduceLT, Nat.reduceBEq, Nat.reduceSub, Nat.reduceMul, Nat.reduceLeDiff, Int.reduceToNat, Nat.reduceEqDiff, Nat.reduceMod, ht, hl]) (by simp [hl])
      (fun pos x => x.tmps.length = 75 ∧ x.tmps.getD 0 AV.undef = .str s ∧ x.tmps.getD 17 AV.undef = .iter ⟨0, 0 :: 4 :: k, 0⟩ ∧ ∃ (l : List Tk) (tk : Tok) (nx : Nat), x.tmps.getD 5 AV.undef = .list tk (l.map Tk.cells) ∧ x.tmps.getD 6 AV.undef = .int .i64 nx ∧ LstAt H 3 141 tk x.H ∧ pos ≤ s.size ∧ nx ≤ s.size ∧
        (∀ i : Nat, pos ≤ i → i < nx → isDig (byteAt s i) = true) ∧ l.length ≤ max pos nx ∧ tkGo s (max pos nx) l = toks s) ?_ ?_ ?_ ?_
    · simp (config := {contextual := true, maxSteps := 5000000}) only [go_sem, false_and, Nat.reduceAdd, Nat.reduceLT, Nat.reduceBEq, Nat.reduceSub, Nat.reduceMul, Nat.reduceLeDiff, Int.reduceToNat, Nat.reduceEqDiff, Nat.reduceMod, ht, hl]
      exact ⟨[], .nil, 0, rfl, rfl, ⟨Hp.Le.refl _, .inl (.inl rfl)⟩, by omega, by omega, fun i _ h => absurd h (by omega), by simp, htk.symm⟩
    · rintro pos ⟨t, n, H'⟩ ⟨hl, h0, h17, _⟩
      simp only at hl h0 h17
      exact ⟨h17, by simp [hl], by simp [hl]⟩
    · rintro pos ⟨t, n, H2⟩ hpos ⟨hl, h0, h17, l, tk, nx, h5, h6, hL, hp, hnx, hdg, hlp, hgo⟩
      simp only at hl h0 h17 h5 h6 hL
      have hc : (byteAt s pos < 128 ∧ (((Utf8.decode s pos).1 : Nat) : Int) = byteAt s pos ∧ (Utf8.decode s pos).2 = 1) ∨ 128 ≤ (((Utf8.decode s pos).1 : Nat) : Int) ∧ 128 ≤ byteAt s pos := by
        rcases Int.lt_or_le (byteAt s pos) 128 with h | h
        · exact .inl ⟨h, decode_small hpos h⟩
        · exact .inr ⟨decode_big hpos h, h⟩
      have hc0 : (0 : Int) ≤ (((Utf8.decode s pos).1 : Nat) : Int) := by omega
      have hcu : (((Utf8.decode s pos).1 : Nat) : Int) < 2147483648 := by
        have : (Utf8.decode s pos).1 < 2147483648 := by
          have hb := byteAt_get s pos hpos
          have hb2 := (byteAt_lt s pos).2
          unfold Utf8.decode
          simp only [Nat.add_zero]
          (repeat' split) <;> simp only [Utf8.runeError] <;> omega
        omega
      generalize (((Utf8.decode s pos).1 : Nat) : Int) = c at hc hc0 hcu ⊢
      generalize (Utf8.decode s pos).2 = wd at hc ⊢
      have hw : IntKind.i64.wrap ((pos : Int) + 1) = ((pos + 1 : Nat) : Int) := by rw [wrap_i64] <;> omega
      have hwc : IntKind.i64.wrap c = c := wrap_i64 (by omega) (by omega)
      by_cases hn : pos < nx
      · -- a digit that was read
        have hd : decide ((pos : Int) < (nx : Int)) = true := by simp [hn]
        have hdp := hdg pos (Nat.le_refl _) hn
        simp only [isDig, Bool.and_eq_true, decide_eq_true_eq] at hdp
        obtain ⟨e1, e2, e3⟩ | e1 := hc
        · subst e3
          simp (config := {contextual := true, maxSteps := 5000000}) only [go_sem, false_and, Nat.reduceAdd, Nat.reduceLT, Nat.reduceBEq, Nat.reduceSub, Nat.reduceMul, Nat.reduceLeDiff, Int.reduceToNat, Nat.reduceEqDiff, Nat.reduceMod, h0, h17, h5, h6, hl, hd, hw, hwc, specTp]
          exact ⟨l, tk, nx, rfl, rfl, hL, by omega, hnx, fun i h1 h2 => hdg i (by omega) h2, by omega, by rw [show max (pos + 1) nx = max pos nx by omega]; exact hgo⟩
        · omega
      · have hd : decide ((pos : Int) < (nx : Int)) = false := by simp; omega
        have hmx : max pos nx = pos := by omega
        rw [hmx] at hgo hlp
        simp (config := {contextual := true, maxSteps := 5000000}) only [go_sem, false_and, Nat.reduceAdd, Nat.reduceLT, Nat.reduceBEq, Nat.reduceSub, Nat.reduceMul, Nat.reduceLeDiff, Int.reduceToNat, Nat.reduceEqDiff, Nat.reduceMod, h0, h17, h5, h6, hl, hd, hw, hwc, specTp]
        have hl8 : l.length ≤ 8000 := by omega
        have ho : tokOne s pos = if byteAt s pos = 32 ∨ byteAt s pos = 9 then .skip
          else if isSign (byteAt s pos) = true then .tok ⟨4, byteAt s pos, pos⟩ 0
          else if most (byteAt s pos) < 0 then .err 30
          else if (numB s pos (most (byteAt s pos))).2 = 0 then .err 31
          else .tok ⟨kindOf (byteAt s pos), (numB s pos (most (byteAt s pos))).1, pos⟩ (numB s pos (most (byteAt s pos))).2 := rfl
        have hskip : c = 32 ∨ c = 9 → ∃ (l_1 : List Tk) (tk_1 : Tok) (nx_1 : Nat), AV.list tk (List.map Tk.cells l) = AV.list tk_1 (List.map Tk.cells l_1) ∧ (nx : Int) = (nx_1 : Int) ∧ LstAt H 3 141 tk_1 H2 ∧ pos + wd ≤ s.size ∧ nx_1 ≤ s.size ∧ (∀ i : Nat, pos + wd ≤ i → i < nx_1 → isDig (byteAt s i) = true) ∧ l_1.length ≤ max (pos + wd) nx_1 ∧ tkGo s (max (pos + wd) nx_1) l_1 = toks s := fun h => by
          obtain ⟨e1, e2, e3⟩ | e1 := hc
          · subst e3
            exact ⟨l, tk, nx, rfl, rfl, hL, by omega, hnx, fun i h1 h2 => by omega, by omega, by rw [show max (pos + 1) nx = pos + 1 by omega, ← hgo, tkGo_skip hpos (by rw [ho, if_pos (by omega)])]⟩
          · omega
        refine ⟨fun a => ⟨fun b => hskip (.inr (by simpa using b)), fun b => ?_⟩, fun a => hskip (.inl (by simpa using a))⟩
        clear hskip
        simp only [beq_eq_false_iff_ne, ne_eq] at a b
        have hn1 : ¬ (byteAt s pos = 32 ∨ byteAt s pos = 9) := by omega
        rw [if_neg hn1] at ho
        refine ⟨fun d => ⟨⟨rfl, hc0⟩, fun e => ?_, fun e => ?_⟩, fun d => ?_⟩
        · -- no sign, no letter
          simp only [Bool.not_eq_true'] at e
          simp only [beq_iff_eq] at d
          have hm1 : most c = -1 := by
            rcases symK_cases c with h | h
            · exact h.2
            · exact absurd d h.2.2.2.1
          have hres : isSign (byteAt s pos) = false ∧ most (byteAt s pos) < 0 := by
            obtain ⟨e1, e2, e3⟩ | e1 := hc
            · rw [← e2]
              exact ⟨e, by omega⟩
            · refine ⟨?_, ?_⟩
              · cases hh : isSign (byteAt s pos) with
                | false => rfl
                | true => have := isSign_small hh; omega
              · unfold most
                rw [if_neg (by omega), if_neg (by omega)]
                omega
          rw [if_neg (by simp [hres.1]), if_pos hres.2] at ho
          rw [← hgo, tkGo_err hpos ho]
          exact ⟨Weak.refl _, hL.le⟩
        · simp only [Bool.not_eq_false'] at e
          have hsm := isSign_small e
          obtain ⟨e1, e2, e3⟩ | e1 := hc
          · subst e3
            rw [← e2, if_pos e] at ho
            obtain ⟨q1, q2, q3, q4, q5, q6⟩ := push_ok hL hl8 ⟨4, c, pos⟩
            exact ⟨q1, q2, q3, q4, q5, q6, l ++ [⟨4, c, pos⟩], _, nx, by rw [List.map_append]; rfl, rfl, hL.push (hfr _ (sfx2 _ _ _)), by omega, hnx, fun i h1 h2 => by omega, by simp; omega, by rw [show max (pos + 1) nx = pos + 1 + 0 by omega, ← hgo, tkGo_tok hpos ho]⟩
          · omega
        · simp only [beq_eq_false_iff_ne, ne_eq] at d
          obtain ⟨k1, k2, k3, k4, k5, k6⟩ : symK c = kindOf c ∧ symM c = most c ∧ (most c = 63 ∨ most c = 99) ∧ symK c ≠ 0 ∧ isSign c = false ∧ c < 128 := by
            rcases symK_cases c with h | h
            · exact absurd h.1 d
            · exact h
          obtain ⟨e1, e2, e3⟩ | e1 := hc
          · subst e3
            rw [← e2, if_neg (by simp [k5]), if_neg (by omega)] at ho
            rw [k1, k2]
            obtain ⟨g1, g2⟩ := num_agree (s := s) (p := pos) k3 hpos
            have hes : (s.extract (pos + 1) s.size).size ≤ 140737488355328 := by simp [ByteArray.size_extract]; omega
            refine ⟨⟨by omega, by omega⟩, ⟨k3, hes⟩, fun f => ?_, fun f => ?_⟩
            · have hz : (numB s pos (most c)).2 = 0 := by
                have := beq_iff_eq.1 f
                unfold numB
                omega
              rw [if_pos hz] at ho
              rw [← hgo, tkGo_err hpos ho]
              exact ⟨Weak.refl _, hL.le⟩
            · have hz : ¬ (numB s pos (most c)).2 = 0 := by
                have := beq_eq_false_iff_ne.1 f
                unfold numB
                omega
              rw [if_neg hz] at ho
              obtain ⟨g3, g4, g5⟩ := g2 hz
              have hdl := digs_le s (pos + 1)
              have hwn : IntKind.i64.wrap (((pos + 1 : Nat) : Int) + ((numR (s.extract (pos + 1) s.size) (most c)).2 : Nat)) = ((pos + 1 + (numB s pos (most c)).2 : Nat) : Int) := by
                have : (numR (s.extract (pos + 1) s.size) (most c)).2 = (numB s pos (most c)).2 := rfl
                rw [this, wrap_i64] <;> omega
              rw [hwn]
              obtain ⟨q1, q2, q3, q4, q5, q6⟩ := push_ok hL hl8 ⟨kindOf c, (numB s pos (most c)).1, pos⟩
              exact ⟨q1, q2, q3, q4, q5, q6, l ++ [⟨kindOf c, (numB s pos (most c)).1, pos⟩], _, pos + 1 + (numB s pos (most c)).2, by rw [List.map_append]; rfl, rfl, hL.push (hfr _ (sfx2 _ _ _)), by omega, by omega, fun i h1 h2 => by
                have := digs_all (s := s) (p := pos + 1) (i := i - (pos + 1)) (by omega)
                rwa [show pos + 1 + (i - (pos + 1)) = i by omega] at this, by simp; omega, by rw [show max (pos + 1) (pos + 1 + (numB s pos (most c)).2) = pos + 1 + (numB s pos (most c)).2 by omega, ← hgo, tkGo_tok hpos ho]⟩
          · omega
    · rintro pos ⟨t, n, H2⟩ hpos ⟨hl, h0, h17, l, tk, nx, h5, h6, hL, hp, hnx, hdg, hlp, hgo⟩
      simp only at hl h0 h17 h5 h6 hL
      simp (config := {contextual := true, maxSteps := 5000000}) only [go_sem, false_and, Nat.reduceAdd, Nat.reduceLT, Nat.reduceBEq, Nat.reduceSub, Nat.reduceMul, Nat.reduceLeDiff, Int.reduceToNat, Nat.reduceEqDiff, Nat.reduceMod, h0, h17, h5, h6, hl]
      rw [← hgo, tkGo_end (by omega)]
      exact ⟨weak_list3, hL.le⟩
end Go.Proofs.YtkdendaohlnlcaaGreatDoor.Av

/- What parse.Formula answers. No condition. -/
namespace Go.Proofs.YtkdendaohlnlcaaGreatDoor.Av
set_option linter.unusedVariables false
set_option linter.unusedSimpArgs false
set_option maxRecDepth 4000
set_option maxHeartbeats 1000000
variable {w0 : Base} {k : List Nat} {H : Hp}
def specRd : Spec := (Spec.no.add 112 (sp1 dS (fun _ => True) fun s => (toks s).av)).add 70 (sp1 dE (fun e => e.ok) fun e => .int .i64 e.right)
theorem specRd_ok : SpecOk Tryz.prog w0 specRd := (Spec.no_ok.add (sp1_ok fun s _ k H => tokens_call s)).add (sp1_ok fun e h k H => rightX_call e h)
theorem read_call (s : ByteArray) : CallAt Tryz.prog w0 k 80 [.str s, .clo (.func 81) [] []] H H (fmRes s).av := by
  refine .inl (callO_of_codeD tabOk Tryz.func80 rfl rfl Tryz.func113 rfl rfl Tryz.results80 Tryz.ntmps80 ?_)
  intro hfr
  have hl : ([AV.str s, AV.clo (.func 81) [] []] ++ List.replicate (49 - [AV.str s, .clo (.func 81) [] []].length) AV.undef).length = 49 := by simp
  have ht := at_prefix (List.replicate (49 - [AV.str s, .clo (.func 81) [] []].length) AV.undef) [] [AV.str s, .clo (.func 81) [] []]
  simp only [List.nil_append, List.length_nil] at ht
  generalize ([AV.str s, AV.clo (.func 81) [] []] ++ List.replicate (49 - [AV.str s, .clo (.func 81) [] []].length) AV.undef) = t at hl ht ⊢
  simp only [At, Nat.reduceAdd, List.cons_append, List.nil_append] at ht
  show CodeD _ _ _ _ _ _ (endO _ _ _ _) _
  refine CodeD.cut tabOk specRd_ok mixed [] ?_
  simp (config := {contextual := true, maxSteps := 5000000}) only [go_sem, false_and, Nat.reduceAdd, Nat.reduceLT, Nat.reduceBEq, Nat.reduceSub, Nat.reduceMul, Nat.reduceLeDiff, Int.reduceToNat, Nat.reduceEqDiff, Nat.reduceMod, ht, hl]
  refine CodeD.cut tabOk specRd_ok mixed [] ?_
  have fN : ∀ (a b : Nat) z ty, H ⟨z, a :: b :: k, ty⟩ = none := fun a b z ty => hfr _ (sfx2 _ _ _)
  have hA : True := trivial
  have hB := hA
  have he0 : ((0 : Int) != 0) = false := rfl
  unfold fmRes
  cases htk : toks s with
  | err e a =>
    have he : (e != 0) = true := by simpa using toks_ne htk
    simp (config := {contextual := true, maxSteps := 5000000}) only [go_sem, false_and, Nat.reduceAdd, Nat.reduceLT, Nat.reduceBEq, Nat.reduceSub, Nat.reduceMul, Nat.reduceLeDiff, Int.reduceToNat, Nat.reduceEqDiff, Nat.reduceMod, ht, hl, specRd, htk, TR.av]
    refine CodeD.seq (CodeOk.vc tabOk specRd_ok mixed [] ?_)
    simp (config := {contextual := true, maxSteps := 5000000}) only [go_sem, false_and, Nat.reduceAdd, Nat.reduceLT, Nat.reduceBEq, Nat.reduceSub, Nat.reduceMul, Nat.reduceLeDiff, Int.reduceToNat, Nat.reduceEqDiff, Nat.reduceMod, ht, hl, specRd, he]
    exact ⟨by kernel_rfl, by (refine pw_of ?_; (repeat' (first | exact trivial | apply And.intro)); all_goals (first | exact .inr rfl | exact .inr trivial | exact .inr (by show _ = _; simp (config := {contextual := true, maxSteps := 5000000}) only [go_sem, false_and, Nat.reduceAdd, Nat.reduceLT, Nat.reduceBEq, Nat.reduceSub, Nat.reduceMul, Nat.reduceLeDiff, Int.reduceToNat, Nat.reduceEqDiff, Nat.reduceMod, hA, hB]) | exact .inl (by kernel_rfl))), _, rfl, Weak.refl _, by (repeat (first | exact Hp.Le.refl _ | refine Hp.le_upd ?_ (fN _ _ _ _)))⟩
  | ok l =>
    have hl8 := toks_len htk
    have hfin := fmF_fine l (l.length + 1) 0
    have hpos := fmF_le l (l.length + 1) 0 (Nat.zero_le _)
    have hF := fun id k H => formP (w0 := w0) l hl8 s.size (l.length + 1) 0 id k H (by omega) (Nat.zero_le _)
    dsimp only
    generalize fmF l (l.length + 1) 0 = g at hfin hpos hF ⊢
    cases g with
    | no q =>
      simp only [Got.out, Got.pos, wholeR] at hF ⊢
      simp (config := {contextual := true, maxSteps := 5000000}) only [go_sem, false_and, Nat.reduceAdd, Nat.reduceLT, Nat.reduceBEq, Nat.reduceSub, Nat.reduceMul, Nat.reduceLeDiff, Int.reduceToNat, Nat.reduceEqDiff, Nat.reduceMod, ht, hl, specRd, htk, TR.av]
      refine CodeD.cut tabOk specRd_ok mixed [] ?_
      simp (config := {contextual := true, maxSteps := 5000000}) only [go_sem, false_and, Nat.reduceAdd, Nat.reduceLT, Nat.reduceBEq, Nat.reduceSub, Nat.reduceMul, Nat.reduceLeDiff, Int.reduceToNat, Nat.reduceEqDiff, Nat.reduceMod, ht, hl, specRd, he0]
      refine CodeD.cut tabOk specRd_ok mixed [25] ?_
      simp (config := {contextual := true, maxSteps := 5000000}) only [go_sem, false_and, Nat.reduceAdd, Nat.reduceLT, Nat.reduceBEq, Nat.reduceSub, Nat.reduceMul, Nat.reduceLeDiff, Int.reduceToNat, Nat.reduceEqDiff, Nat.reduceMod, ht, hl, specRd]
      refine CodeD.here (l := [.tmp 4, .tmp 5, .tmp 6]) rfl rfl rfl rfl rfl rfl (by simp [hl]) ?_
      refine CodeOk.vc tabOk specRd_ok mixed [] ?_
      simp (config := {contextual := true, maxSteps := 5000000}) only [go_sem, false_and, Nat.reduceAdd, Nat.reduceLT, Nat.reduceBEq, Nat.reduceSub, Nat.reduceMul, Nat.reduceLeDiff, Int.reduceToNat, Nat.reduceEqDiff, Nat.reduceMod, ht, hl, specRd]
      refine callK_out (hF _ _ _ rfl (by simp (config := {contextual := true, maxSteps := 5000000}) only [go_sem, false_and, Nat.reduceAdd, Nat.reduceLT, Nat.reduceBEq, Nat.reduceSub, Nat.reduceMul, Nat.reduceLeDiff, Int.reduceToNat, Nat.reduceEqDiff, Nat.reduceMod]; rfl)) ?_
      simp (config := {contextual := true, maxSteps := 5000000}) only [go_sem, false_and, Nat.reduceAdd, Nat.reduceLT, Nat.reduceBEq, Nat.reduceSub, Nat.reduceMul, Nat.reduceLeDiff, Int.reduceToNat, Nat.reduceEqDiff, Nat.reduceMod, ht, hl, specRd]
      refine dfrK_of (by simp [hl]) (read1_some ⟨3, 0 :: 0 :: k, 25⟩ ⟨1, 1 :: 0 :: k, 29⟩ ⟨1, 2 :: 0 :: k, 3⟩ rfl rfl rfl l s.size q (e4 := .cells [.int .i64 0, .int .i64 0, .list .nil []]) (e5 := .cells [.int .i64 0]) (e6 := .cells [.int .i64 0]) (by simp (config := {contextual := true, maxSteps := 5000000}) only [go_sem, false_and, Nat.reduceAdd, Nat.reduceLT, Nat.reduceBEq, Nat.reduceSub, Nat.reduceMul, Nat.reduceLeDiff, Int.reduceToNat, Nat.reduceEqDiff, Nat.reduceMod]) (by simp (config := {contextual := true, maxSteps := 5000000}) only [go_sem, false_and, Nat.reduceAdd, Nat.reduceLT, Nat.reduceBEq, Nat.reduceSub, Nat.reduceMul, Nat.reduceLeDiff, Int.reduceToNat, Nat.reduceEqDiff, Nat.reduceMod]) (by simp (config := {contextual := true, maxSteps := 5000000}) only [go_sem, false_and, Nat.reduceAdd, Nat.reduceLT, Nat.reduceBEq, Nat.reduceSub, Nat.reduceMul, Nat.reduceLeDiff, Int.reduceToNat, Nat.reduceEqDiff, Nat.reduceMod])) ?_
      simp (config := {contextual := true, maxSteps := 5000000}) only [go_sem, false_and, Nat.reduceAdd, Nat.reduceLT, Nat.reduceBEq, Nat.reduceSub, Nat.reduceMul, Nat.reduceLeDiff, Int.reduceToNat, Nat.reduceEqDiff, Nat.reduceMod, ht, hl]
      exact ⟨_, rfl, Weak.refl _, by (repeat (first | exact Hp.Le.refl _ | refine Hp.le_upd ?_ (fN _ _ _ _)))⟩
    | ok x q =>
      simp only [Got.out, Got.pos] at hfin hpos hF ⊢
      rcases Nat.lt_or_ge q l.length with hq | hq
      · have hd : decide ((q : Int) < (l.length : Int)) = true := by simp [hq]
        rw [show wholeR s l (.ok x q) = .err 32 (posOf l s.size q) by simp only [wholeR, if_pos hq]]
        simp (config := {contextual := true, maxSteps := 5000000}) only [go_sem, false_and, Nat.reduceAdd, Nat.reduceLT, Nat.reduceBEq, Nat.reduceSub, Nat.reduceMul, Nat.reduceLeDiff, Int.reduceToNat, Nat.reduceEqDiff, Nat.reduceMod, ht, hl, specRd, htk, TR.av]
        refine CodeD.cut tabOk specRd_ok mixed [] ?_
        simp (config := {contextual := true, maxSteps := 5000000}) only [go_sem, false_and, Nat.reduceAdd, Nat.reduceLT, Nat.reduceBEq, Nat.reduceSub, Nat.reduceMul, Nat.reduceLeDiff, Int.reduceToNat, Nat.reduceEqDiff, Nat.reduceMod, ht, hl, specRd, he0]
        refine CodeD.cut tabOk specRd_ok mixed [25] ?_
        simp (config := {contextual := true, maxSteps := 5000000}) only [go_sem, false_and, Nat.reduceAdd, Nat.reduceLT, Nat.reduceBEq, Nat.reduceSub, Nat.reduceMul, Nat.reduceLeDiff, Int.reduceToNat, Nat.reduceEqDiff, Nat.reduceMod, ht, hl, specRd]
        refine CodeD.here (l := [.tmp 4, .tmp 5, .tmp 6]) rfl rfl rfl rfl rfl rfl (by simp [hl]) ?_
        refine CodeOk.vc tabOk specRd_ok mixed [] ?_
        simp (config := {contextual := true, maxSteps := 5000000}) only [go_sem, false_and, Nat.reduceAdd, Nat.reduceLT, Nat.reduceBEq, Nat.reduceSub, Nat.reduceMul, Nat.reduceLeDiff, Int.reduceToNat, Nat.reduceEqDiff, Nat.reduceMod, ht, hl, specRd]
        refine callK_out (hF _ _ _ rfl (by simp (config := {contextual := true, maxSteps := 5000000}) only [go_sem, false_and, Nat.reduceAdd, Nat.reduceLT, Nat.reduceBEq, Nat.reduceSub, Nat.reduceMul, Nat.reduceLeDiff, Int.reduceToNat, Nat.reduceEqDiff, Nat.reduceMod]; rfl)) ?_
        simp (config := {contextual := true, maxSteps := 5000000}) only [go_sem, false_and, Nat.reduceAdd, Nat.reduceLT, Nat.reduceBEq, Nat.reduceSub, Nat.reduceMul, Nat.reduceLeDiff, Int.reduceToNat, Nat.reduceEqDiff, Nat.reduceMod, ht, hl, specRd, rd, hd]
        refine ⟨by kernel_rfl, by (refine pw_of ?_; (repeat' (first | exact trivial | apply And.intro)); all_goals (first | exact .inr rfl | exact .inr trivial | exact .inr (by show _ = _; simp (config := {contextual := true, maxSteps := 5000000}) only [go_sem, false_and, Nat.reduceAdd, Nat.reduceLT, Nat.reduceBEq, Nat.reduceSub, Nat.reduceMul, Nat.reduceLeDiff, Int.reduceToNat, Nat.reduceEqDiff, Nat.reduceMod, hA, hB]) | exact .inl (by kernel_rfl))), ?_⟩
        refine callK_out (fail_call _ l s.size q (by simp (config := {contextual := true, maxSteps := 5000000}) only [go_sem, false_and, Nat.reduceAdd, Nat.reduceLT, Nat.reduceBEq, Nat.reduceSub, Nat.reduceMul, Nat.reduceLeDiff, Int.reduceToNat, Nat.reduceEqDiff, Nat.reduceMod, rd])) ?_
        simp (config := {contextual := true, maxSteps := 5000000}) only [go_sem, false_and, Nat.reduceAdd, Nat.reduceLT, Nat.reduceBEq, Nat.reduceSub, Nat.reduceMul, Nat.reduceLeDiff, Int.reduceToNat, Nat.reduceEqDiff, Nat.reduceMod, ht, hl, specRd, rd]
        refine dfrK_of (by simp [hl]) (read1_some ⟨3, 0 :: 0 :: k, 25⟩ ⟨1, 1 :: 0 :: k, 29⟩ ⟨1, 2 :: 0 :: k, 3⟩ rfl rfl rfl l s.size q (e4 := .cells [.int .i64 x.kind, .int .i64 x.id, .list .none (x.kids.map E.cells)]) (e5 := .cells [.int .i64 0]) (e6 := .cells [.int .i64 0]) (by simp (config := {contextual := true, maxSteps := 5000000}) only [go_sem, false_and, Nat.reduceAdd, Nat.reduceLT, Nat.reduceBEq, Nat.reduceSub, Nat.reduceMul, Nat.reduceLeDiff, Int.reduceToNat, Nat.reduceEqDiff, Nat.reduceMod]) (by simp (config := {contextual := true, maxSteps := 5000000}) only [go_sem, false_and, Nat.reduceAdd, Nat.reduceLT, Nat.reduceBEq, Nat.reduceSub, Nat.reduceMul, Nat.reduceLeDiff, Int.reduceToNat, Nat.reduceEqDiff, Nat.reduceMod]) (by simp (config := {contextual := true, maxSteps := 5000000}) only [go_sem, false_and, Nat.reduceAdd, Nat.reduceLT, Nat.reduceBEq, Nat.reduceSub, Nat.reduceMul, Nat.reduceLeDiff, Int.reduceToNat, Nat.reduceEqDiff, Nat.reduceMod])) ?_
        simp (config := {contextual := true, maxSteps := 5000000}) only [go_sem, false_and, Nat.reduceAdd, Nat.reduceLT, Nat.reduceBEq, Nat.reduceSub, Nat.reduceMul, Nat.reduceLeDiff, Int.reduceToNat, Nat.reduceEqDiff, Nat.reduceMod, ht, hl]
        exact ⟨_, rfl, Weak.refl _, by (repeat (first | exact Hp.Le.refl _ | refine Hp.le_upd ?_ (fN _ _ _ _)))⟩
      · have hd : decide ((q : Int) < (l.length : Int)) = false := by simp; omega
        by_cases hr : x.right = 0
        · have hr2 : (x.right != 0) = false := by simp [hr]
          rw [show wholeR s l (.ok x q) = .ok x by simp only [wholeR, if_neg (Nat.not_lt.2 hq), if_pos hr]]
          simp (config := {contextual := true, maxSteps := 5000000}) only [go_sem, false_and, Nat.reduceAdd, Nat.reduceLT, Nat.reduceBEq, Nat.reduceSub, Nat.reduceMul, Nat.reduceLeDiff, Int.reduceToNat, Nat.reduceEqDiff, Nat.reduceMod, ht, hl, specRd, htk, TR.av]
          refine CodeD.cut tabOk specRd_ok mixed [] ?_
          simp (config := {contextual := true, maxSteps := 5000000}) only [go_sem, false_and, Nat.reduceAdd, Nat.reduceLT, Nat.reduceBEq, Nat.reduceSub, Nat.reduceMul, Nat.reduceLeDiff, Int.reduceToNat, Nat.reduceEqDiff, Nat.reduceMod, ht, hl, specRd, he0]
          refine CodeD.cut tabOk specRd_ok mixed [25] ?_
          simp (config := {contextual := true, maxSteps := 5000000}) only [go_sem, false_and, Nat.reduceAdd, Nat.reduceLT, Nat.reduceBEq, Nat.reduceSub, Nat.reduceMul, Nat.reduceLeDiff, Int.reduceToNat, Nat.reduceEqDiff, Nat.reduceMod, ht, hl, specRd]
          refine CodeD.here (l := [.tmp 4, .tmp 5, .tmp 6]) rfl rfl rfl rfl rfl rfl (by simp [hl]) ?_
          refine CodeOk.vc tabOk specRd_ok mixed [] ?_
          simp (config := {contextual := true, maxSteps := 5000000}) only [go_sem, false_and, Nat.reduceAdd, Nat.reduceLT, Nat.reduceBEq, Nat.reduceSub, Nat.reduceMul, Nat.reduceLeDiff, Int.reduceToNat, Nat.reduceEqDiff, Nat.reduceMod, ht, hl, specRd]
          refine callK_out (hF _ _ _ rfl (by simp (config := {contextual := true, maxSteps := 5000000}) only [go_sem, false_and, Nat.reduceAdd, Nat.reduceLT, Nat.reduceBEq, Nat.reduceSub, Nat.reduceMul, Nat.reduceLeDiff, Int.reduceToNat, Nat.reduceEqDiff, Nat.reduceMod]; rfl)) ?_
          simp (config := {contextual := true, maxSteps := 5000000}) only [go_sem, false_and, Nat.reduceAdd, Nat.reduceLT, Nat.reduceBEq, Nat.reduceSub, Nat.reduceMul, Nat.reduceLeDiff, Int.reduceToNat, Nat.reduceEqDiff, Nat.reduceMod, ht, hl, specRd, rd, hd, hr2]
          refine ⟨by kernel_rfl, by (refine pw_of ?_; (repeat' (first | exact trivial | apply And.intro)); all_goals (first | exact .inr rfl | exact .inr trivial | exact .inr (by show _ = _; simp (config := {contextual := true, maxSteps := 5000000}) only [go_sem, false_and, Nat.reduceAdd, Nat.reduceLT, Nat.reduceBEq, Nat.reduceSub, Nat.reduceMul, Nat.reduceLeDiff, Int.reduceToNat, Nat.reduceEqDiff, Nat.reduceMod, hA, hB]) | exact .inl (by kernel_rfl))), hfin, dfrK_of (by simp [hl]) (read1_none _ _ _) ?_⟩
          simp (config := {contextual := true, maxSteps := 5000000}) only [go_sem, false_and, Nat.reduceAdd, Nat.reduceLT, Nat.reduceBEq, Nat.reduceSub, Nat.reduceMul, Nat.reduceLeDiff, Int.reduceToNat, Nat.reduceEqDiff, Nat.reduceMod, ht, hl]
          exact ⟨_, rfl, Weak.refl _, by (repeat (first | exact Hp.Le.refl _ | refine Hp.le_upd ?_ (fN _ _ _ _)))⟩
        · have hr2 : (x.right != 0) = true := by simp [hr]
          rw [show wholeR s l (.ok x q) = .err x.right 0 by simp only [wholeR, if_neg (Nat.not_lt.2 hq), if_neg hr]]
          simp (config := {contextual := true, maxSteps := 5000000}) only [go_sem, false_and, Nat.reduceAdd, Nat.reduceLT, Nat.reduceBEq, Nat.reduceSub, Nat.reduceMul, Nat.reduceLeDiff, Int.reduceToNat, Nat.reduceEqDiff, Nat.reduceMod, ht, hl, specRd, htk, TR.av]
          refine CodeD.cut tabOk specRd_ok mixed [] ?_
          simp (config := {contextual := true, maxSteps := 5000000}) only [go_sem, false_and, Nat.reduceAdd, Nat.reduceLT, Nat.reduceBEq, Nat.reduceSub, Nat.reduceMul, Nat.reduceLeDiff, Int.reduceToNat, Nat.reduceEqDiff, Nat.reduceMod, ht, hl, specRd, he0]
          refine CodeD.cut tabOk specRd_ok mixed [25] ?_
          simp (config := {contextual := true, maxSteps := 5000000}) only [go_sem, false_and, Nat.reduceAdd, Nat.reduceLT, Nat.reduceBEq, Nat.reduceSub, Nat.reduceMul, Nat.reduceLeDiff, Int.reduceToNat, Nat.reduceEqDiff, Nat.reduceMod, ht, hl, specRd]
          refine CodeD.here (l := [.tmp 4, .tmp 5, .tmp 6]) rfl rfl rfl rfl rfl rfl (by simp [hl]) ?_
          refine CodeOk.vc tabOk specRd_ok mixed [] ?_
          simp (config := {contextual := true, maxSteps := 5000000}) only [go_sem, false_and, Nat.reduceAdd, Nat.reduceLT, Nat.reduceBEq, Nat.reduceSub, Nat.reduceMul, Nat.reduceLeDiff, Int.reduceToNat, Nat.reduceEqDiff, Nat.reduceMod, ht, hl, specRd]
          refine callK_out (hF _ _ _ rfl (by simp (config := {contextual := true, maxSteps := 5000000}) only [go_sem, false_and, Nat.reduceAdd, Nat.reduceLT, Nat.reduceBEq, Nat.reduceSub, Nat.reduceMul, Nat.reduceLeDiff, Int.reduceToNat, Nat.reduceEqDiff, Nat.reduceMod]; rfl)) ?_
          simp (config := {contextual := true, maxSteps := 5000000}) only [go_sem, false_and, Nat.reduceAdd, Nat.reduceLT, Nat.reduceBEq, Nat.reduceSub, Nat.reduceMul, Nat.reduceLeDiff, Int.reduceToNat, Nat.reduceEqDiff, Nat.reduceMod, ht, hl, specRd, rd, hd, hr2]
          refine ⟨by kernel_rfl, by (refine pw_of ?_; (repeat' (first | exact trivial | apply And.intro)); all_goals (first | exact .inr rfl | exact .inr trivial | exact .inr (by show _ = _; simp (config := {contextual := true, maxSteps := 5000000}) only [go_sem, false_and, Nat.reduceAdd, Nat.reduceLT, Nat.reduceBEq, Nat.reduceSub, Nat.reduceMul, Nat.reduceLeDiff, Int.reduceToNat, Nat.reduceEqDiff, Nat.reduceMod, hA, hB]) | exact .inl (by kernel_rfl))), hfin, dfrK_of (by simp [hl]) (read1_none _ _ _) ?_⟩
          simp (config := {contextual := true, maxSteps := 5000000}) only [go_sem, false_and, Nat.reduceAdd, Nat.reduceLT, Nat.reduceBEq, Nat.reduceSub, Nat.reduceMul, Nat.reduceLeDiff, Int.reduceToNat, Nat.reduceEqDiff, Nat.reduceMod, ht, hl]
          exact ⟨_, rfl, Weak.refl _, by (repeat (first | exact Hp.Le.refl _ | refine Hp.le_upd ?_ (fN _ _ _ _)))⟩
theorem formulaX_call (s : ByteArray) : CallAt Tryz.prog w0 k 51 [.str s] H H (fmRes s).av := by
  refine callAt tabOk Spec.no_ok mixed Tryz.func51 rfl rfl Tryz.results51 Tryz.ntmps51 (by simp) [] ?_
  intro hfr t hl ht
  simp only [At, Nat.reduceAdd, List.cons_append, List.nil_append] at ht
  have fN : ∀ (a b : Nat) z ty, H ⟨z, a :: b :: k, ty⟩ = none := fun a b z ty => hfr _ (sfx2 _ _ _)
  have hR := fun k H => read_call (w0 := w0) (k := k) (H := H) s
  generalize fmRes s = r at hR ⊢
  cases r with
  | ok x =>
    simp only [FR.av] at hR ⊢
    simp (config := {contextual := true, maxSteps := 5000000}) only [go_sem, false_and, Nat.reduceAdd, Nat.reduceLT, Nat.reduceBEq, Nat.reduceSub, Nat.reduceMul, Nat.reduceLeDiff, Int.reduceToNat, Nat.reduceEqDiff, Nat.reduceMod, ht, hl]
    refine callK_intro (hR _ _) ?_
    simp (config := {contextual := true, maxSteps := 5000000}) only [go_sem, false_and, Nat.reduceAdd, Nat.reduceLT, Nat.reduceBEq, Nat.reduceSub, Nat.reduceMul, Nat.reduceLeDiff, Int.reduceToNat, Nat.reduceEqDiff, Nat.reduceMod, ht, hl]
    exact by (repeat (first | exact Hp.Le.refl _ | refine Hp.le_upd ?_ (fN _ _ _ _)))
  | err e a =>
    simp only [FR.av] at hR ⊢
    simp (config := {contextual := true, maxSteps := 5000000}) only [go_sem, false_and, Nat.reduceAdd, Nat.reduceLT, Nat.reduceBEq, Nat.reduceSub, Nat.reduceMul, Nat.reduceLeDiff, Int.reduceToNat, Nat.reduceEqDiff, Nat.reduceMod, ht, hl]
    refine callK_intro (hR _ _) ?_
    simp (config := {contextual := true, maxSteps := 5000000}) only [go_sem, false_and, Nat.reduceAdd, Nat.reduceLT, Nat.reduceBEq, Nat.reduceSub, Nat.reduceMul, Nat.reduceLeDiff, Int.reduceToNat, Nat.reduceEqDiff, Nat.reduceMod, ht, hl]
    exact by (repeat (first | exact Hp.Le.refl _ | refine Hp.le_upd ?_ (fN _ _ _ _)))
end Go.Proofs.YtkdendaohlnlcaaGreatDoor.Av

/- What the reference of layer 9 reads of a step's reason, of a formula. No condition. -/
namespace Go.Proofs.YtkdendaohlnlcaaGreatDoor.Av
set_option linter.unusedVariables false
set_option linter.unusedSimpArgs false
set_option maxRecDepth 4000
set_option maxHeartbeats 1000000
variable {w0 : Base} {k : List Nat} {H : Hp}
abbrev eqS (a p : ByteArray) : Bool := a.toList == p.toList
def noE : E := .mk 0 0 []
def noStep : Step := ⟨noE, 0, 0, 0, ⟨#[]⟩⟩
/-- What is read of a reason's words: a step, and whether it is one. -/
def rdW : List ByteArray → Step × Bool
  | [a, b] => if eqS a ⟨#[97, 120, 105, 111, 109]⟩ = true then (⟨noE, 1, decI b, 0, ⟨#[]⟩⟩, decide (0 ≤ decI b)) else if eqS a ⟨#[99, 105, 116, 101]⟩ = true then (⟨noE, 4, 0, 0, b⟩, true) else (noStep, false)
  | [a, b, c] => if eqS a ⟨#[100, 101, 116, 97, 99, 104]⟩ = true then (⟨noE, 2, decI b, decI c, ⟨#[]⟩⟩, decide (0 ≤ decI b) && decide (0 ≤ decI c))
    else if eqS a ⟨#[103, 101, 110]⟩ = true ∧ (0 < c.size ∧ byteAt c 0 = 120) then (⟨noE, 3, decI b, decI (c.extract 1 c.size), ⟨#[]⟩⟩, (decide (0 ≤ decI b) && decide (0 ≤ decI (c.extract 1 c.size))) && decide (decI (c.extract 1 c.size) ≤ 63))
    else (noStep, false)
  | _ => (noStep, false)
abbrev Step.av (s : Step) : AV := .agg s.cells
def specRe : Spec := (Spec.no.add 31 (sp2 dS dC (fun s _ => s.size ≤ 4000000000) fun s c => .list .none ((cutC s c).map cS.enc))).add 90 (sp1 dS (fun _ => True) fun s => .int .i64 (decI s))
theorem specRe_ok : SpecOk Tryz.prog w0 specRe := (Spec.no_ok.add (sp2_ok fun s c h k H => cut09_call s c h)).add (sp1_ok fun s _ k H => decimal09_call s)
theorem nil_weak : Weak (.list .nil []) (.list .none []) := list_weak
theorem step_weak {n a b : Int} {c : ByteArray} {t : Bool} : Weak (.tup [.agg [.int .i64 0, .int .i64 0, .list .nil [], .int .i64 n, .int .i64 a, .int .i64 b, .str c], .bool t]) (.tup [(⟨noE, n, a, b, c⟩ : Step).av, .bool t]) :=
  WeakL.tup ⟨_, _, rfl, WeakL.agg ⟨_, _, rfl, Weak.refl _, _, _, rfl, Weak.refl _, _, _, rfl, nil_weak, _, _, rfl, Weak.refl _, _, _, rfl, Weak.refl _, _, _, rfl, Weak.refl _, _, _, rfl, Weak.refl _, rfl⟩, _, _, rfl, Weak.refl _, rfl⟩
theorem step_weakR {w : List ByteArray} {n a b : Int} {c : ByteArray} {t : Bool} (h : rdW w = (⟨noE, n, a, b, c⟩, t)) : Weak (.tup [.agg [.int .i64 0, .int .i64 0, .list .nil [], .int .i64 n, .int .i64 a, .int .i64 b, .str c], .bool t]) (.tup [(rdW w).1.av, .bool (rdW w).2]) := by
  rw [h]
  exact step_weak
theorem read09_call (s : ByteArray) (hs : s.size ≤ 4000000000) : CallAt Tryz.prog w0 k 58 [.str s] H H (.tup [(rdW (cutC s 32)).1.av, .bool (rdW (cutC s 32)).2]) := by
  refine callAt tabOk specRe_ok mixed Tryz.func58 rfl rfl Tryz.results58 Tryz.ntmps58 (by simp) [] ?_
  intro hfr t hl ht
  simp only [At, Nat.reduceAdd, List.cons_append, List.nil_append] at ht
  have fN : ∀ (a b : Nat) z ty, H ⟨z, a :: b :: k, ty⟩ = none := fun a b z ty => hfr _ (sfx2 _ _ _)
  have hlen := cutC_len s 32
  have hcut : (sp2 dS dC (fun s _ => s.size ≤ 4000000000) fun s c => .list .none ((cutC s c).map cS.enc)) [.str s, .int .u8 32] = some (s.size ≤ 4000000000, .list .none ((cutC s 32).map cS.enc)) := rfl
  obtain ⟨w, hw⟩ : ∃ w, w = cutC s 32 := ⟨_, rfl⟩
  rw [← hw] at hlen hcut ⊢
  have n22 : (((2 : Nat) : Int) == 2) = true := rfl
  have n23 : (((2 : Nat) : Int) == 3) = false := rfl
  have n32 : (((3 : Nat) : Int) == 2) = false := rfl
  have n33 : (((3 : Nat) : Int) == 3) = true := rfl
  have b01 : (0 : Int) ≤ 0 ∧ (0 : Int) < ((2 : Nat) : Int) := by omega
  have b11 : (0 : Int) ≤ 1 ∧ (1 : Int) < ((2 : Nat) : Int) := by omega
  have b02 : (0 : Int) ≤ 0 ∧ (0 : Int) < ((3 : Nat) : Int) := by omega
  have b12 : (0 : Int) ≤ 1 ∧ (1 : Int) < ((3 : Nat) : Int) := by omega
  have b22 : (0 : Int) ≤ 2 ∧ (2 : Int) < ((3 : Nat) : Int) := by omega
  have hA : True := trivial
  have hB := hA
  match w, hw with
  | [a, b], hw =>
    have hlc : (cutC s 32).length = 2 := by rw [← hw]; rfl
    cases h1 : eqS a ⟨#[97, 120, 105, 111, 109]⟩ with
    | true =>
      simp (config := {contextual := true, maxSteps := 5000000}) only [go_sem, false_and, Nat.reduceAdd, Nat.reduceLT, Nat.reduceBEq, Nat.reduceSub, Nat.reduceMul, Nat.reduceLeDiff, Int.reduceToNat, Nat.reduceEqDiff, Nat.reduceMod, ht, hl, specRe, ← hw, cS, h1, n22, n23, b01, b11]
      exact ⟨hs, by kernel_rfl, by (refine pw_of ?_; (repeat' (first | exact trivial | apply And.intro)); all_goals (first | exact .inr rfl | exact .inr trivial | exact .inr (by show _ = _; simp (config := {contextual := true, maxSteps := 5000000}) only [go_sem, false_and, Nat.reduceAdd, Nat.reduceLT, Nat.reduceBEq, Nat.reduceSub, Nat.reduceMul, Nat.reduceLeDiff, Int.reduceToNat, Nat.reduceEqDiff, Nat.reduceMod, hA, hB]) | exact .inl (by kernel_rfl))), step_weakR (by simp [rdW, h1]), by (repeat (first | exact Hp.Le.refl _ | refine Hp.le_upd ?_ (fN _ _ _ _)))⟩
    | false =>
      cases h2 : eqS a ⟨#[99, 105, 116, 101]⟩ with
      | true =>
        simp (config := {contextual := true, maxSteps := 5000000}) only [go_sem, false_and, Nat.reduceAdd, Nat.reduceLT, Nat.reduceBEq, Nat.reduceSub, Nat.reduceMul, Nat.reduceLeDiff, Int.reduceToNat, Nat.reduceEqDiff, Nat.reduceMod, ht, hl, specRe, ← hw, cS, h1, h2, n22, n23, b01, b11]
        exact ⟨hs, step_weakR (by simp [rdW, h1, h2]), by (repeat (first | exact Hp.Le.refl _ | refine Hp.le_upd ?_ (fN _ _ _ _)))⟩
      | false =>
        simp (config := {contextual := true, maxSteps := 5000000}) only [go_sem, false_and, Nat.reduceAdd, Nat.reduceLT, Nat.reduceBEq, Nat.reduceSub, Nat.reduceMul, Nat.reduceLeDiff, Int.reduceToNat, Nat.reduceEqDiff, Nat.reduceMod, ht, hl, specRe, ← hw, cS, h1, h2, n22, n23, b01, b11]
        exact ⟨hs, step_weakR (by simp [rdW, h1, h2, noStep]), by (repeat (first | exact Hp.Le.refl _ | refine Hp.le_upd ?_ (fN _ _ _ _)))⟩
  | [a, b, c], hw =>
    cases h1 : eqS a ⟨#[100, 101, 116, 97, 99, 104]⟩ with
    | true =>
      simp (config := {contextual := true, maxSteps := 5000000}) only [go_sem, false_and, Nat.reduceAdd, Nat.reduceLT, Nat.reduceBEq, Nat.reduceSub, Nat.reduceMul, Nat.reduceLeDiff, Int.reduceToNat, Nat.reduceEqDiff, Nat.reduceMod, ht, hl, specRe, ← hw, cS, h1, n32, n33, b02, b12, b22]
      exact ⟨hs, by kernel_rfl, fun x => ⟨by (refine pw_of ?_; (repeat' (first | exact trivial | apply And.intro)); all_goals (first | exact .inr rfl | exact .inr trivial | exact .inr (by show _ = _; simp (config := {contextual := true, maxSteps := 5000000}) only [go_sem, false_and, Nat.reduceAdd, Nat.reduceLT, Nat.reduceBEq, Nat.reduceSub, Nat.reduceMul, Nat.reduceLeDiff, Int.reduceToNat, Nat.reduceEqDiff, Nat.reduceMod, hA, hB]) | exact .inl (by kernel_rfl))), step_weakR (by simp only [rdW, h1, if_true, x, Bool.true_and]), by (repeat (first | exact Hp.Le.refl _ | refine Hp.le_upd ?_ (fN _ _ _ _)))⟩, fun x => ⟨by (refine pw_of ?_; (repeat' (first | exact trivial | apply And.intro)); all_goals (first | exact .inr rfl | exact .inr trivial | exact .inr (by show _ = _; simp (config := {contextual := true, maxSteps := 5000000}) only [go_sem, false_and, Nat.reduceAdd, Nat.reduceLT, Nat.reduceBEq, Nat.reduceSub, Nat.reduceMul, Nat.reduceLeDiff, Int.reduceToNat, Nat.reduceEqDiff, Nat.reduceMod, hA, hB]) | exact .inl (by kernel_rfl))), step_weakR (by simp only [rdW, h1, if_true, x, Bool.false_and]), by (repeat (first | exact Hp.Le.refl _ | refine Hp.le_upd ?_ (fN _ _ _ _)))⟩⟩
    | false =>
      cases h2 : eqS a ⟨#[103, 101, 110]⟩ with
      | true =>
        simp (config := {contextual := true, maxSteps := 5000000}) only [go_sem, false_and, Nat.reduceAdd, Nat.reduceLT, Nat.reduceBEq, Nat.reduceSub, Nat.reduceMul, Nat.reduceLeDiff, Int.reduceToNat, Nat.reduceEqDiff, Nat.reduceMod, ht, hl, specRe, ← hw, cS, h1, h2, n32, n33, b02, b12, b22]
        have hne : ∀ {P : Prop}, ¬ (0 < c.size ∧ byteAt c 0 = 120) → rdW [a, b, c] = (noStep, false) := fun h => by
          simp only [rdW, h1, h2]
          rw [if_neg (by simp), if_neg (fun hh => h hh.2)]
        have hye : 0 < c.size → (byteAt c 0 == 120) = true → rdW [a, b, c] = (⟨noE, 3, decI b, decI (c.extract 1 c.size), ⟨#[]⟩⟩, (decide (0 ≤ decI b) && decide (0 ≤ decI (c.extract 1 c.size))) && decide (decI (c.extract 1 c.size) ≤ 63)) := fun h h' => by
          simp only [rdW, h1, h2]
          rw [if_neg (by simp), if_pos ⟨trivial, h, by simpa using h'⟩]
        refine ⟨hs, fun x => ⟨by simp only [decide_eq_true_eq] at x; omega, fun y => ⟨by simp only [decide_eq_true_eq] at x; omega, by kernel_rfl, fun z => ⟨fun v => ⟨by (refine pw_of ?_; (repeat' (first | exact trivial | apply And.intro)); all_goals (first | exact .inr rfl | exact .inr trivial | exact .inr (by show _ = _; simp (config := {contextual := true, maxSteps := 5000000}) only [go_sem, false_and, Nat.reduceAdd, Nat.reduceLT, Nat.reduceBEq, Nat.reduceSub, Nat.reduceMul, Nat.reduceLeDiff, Int.reduceToNat, Nat.reduceEqDiff, Nat.reduceMod, hA, hB]) | exact .inl (by kernel_rfl))), step_weakR ?_, by (repeat (first | exact Hp.Le.refl _ | refine Hp.le_upd ?_ (fN _ _ _ _)))⟩, fun v => ⟨by (refine pw_of ?_; (repeat' (first | exact trivial | apply And.intro)); all_goals (first | exact .inr rfl | exact .inr trivial | exact .inr (by show _ = _; simp (config := {contextual := true, maxSteps := 5000000}) only [go_sem, false_and, Nat.reduceAdd, Nat.reduceLT, Nat.reduceBEq, Nat.reduceSub, Nat.reduceMul, Nat.reduceLeDiff, Int.reduceToNat, Nat.reduceEqDiff, Nat.reduceMod, hA, hB]) | exact .inl (by kernel_rfl))), step_weakR ?_, by (repeat (first | exact Hp.Le.refl _ | refine Hp.le_upd ?_ (fN _ _ _ _)))⟩⟩, fun z => ⟨by (refine pw_of ?_; (repeat' (first | exact trivial | apply And.intro)); all_goals (first | exact .inr rfl | exact .inr trivial | exact .inr (by show _ = _; simp (config := {contextual := true, maxSteps := 5000000}) only [go_sem, false_and, Nat.reduceAdd, Nat.reduceLT, Nat.reduceBEq, Nat.reduceSub, Nat.reduceMul, Nat.reduceLeDiff, Int.reduceToNat, Nat.reduceEqDiff, Nat.reduceMod, hA, hB]) | exact .inl (by kernel_rfl))), step_weakR ?_, by (repeat (first | exact Hp.Le.refl _ | refine Hp.le_upd ?_ (fN _ _ _ _)))⟩⟩, fun y => ⟨step_weakR ?_, by (repeat (first | exact Hp.Le.refl _ | refine Hp.le_upd ?_ (fN _ _ _ _)))⟩⟩, fun x => ⟨step_weakR ?_, by (repeat (first | exact Hp.Le.refl _ | refine Hp.le_upd ?_ (fN _ _ _ _)))⟩⟩
        · rw [hye (by simp only [decide_eq_true_eq] at x; omega) y, z, v, Bool.true_and, Bool.true_and]
        · rw [hye (by simp only [decide_eq_true_eq] at x; omega) y, z, v, Bool.and_false, Bool.false_and]
        · rw [hye (by simp only [decide_eq_true_eq] at x; omega) y, z, Bool.false_and, Bool.false_and]
        · exact hne (P := True) fun h => by simp only [beq_eq_false_iff_ne, ne_eq] at y; exact y h.2
        · exact hne (P := True) fun h => by simp only [decide_eq_false_iff_not] at x; omega
      | false =>
        simp (config := {contextual := true, maxSteps := 5000000}) only [go_sem, false_and, Nat.reduceAdd, Nat.reduceLT, Nat.reduceBEq, Nat.reduceSub, Nat.reduceMul, Nat.reduceLeDiff, Int.reduceToNat, Nat.reduceEqDiff, Nat.reduceMod, ht, hl, specRe, ← hw, cS, h1, h2, n32, n33, b02, b12, b22]
        exact ⟨hs, step_weakR (by simp [rdW, h1, h2, noStep]), by (repeat (first | exact Hp.Le.refl _ | refine Hp.le_upd ?_ (fN _ _ _ _)))⟩
  | [], hw => simp at hlen
  | [a], hw =>
    have n12 : (((1 : Nat) : Int) == 2) = false := rfl
    have n13 : (((1 : Nat) : Int) == 3) = false := rfl
    simp (config := {contextual := true, maxSteps := 5000000}) only [go_sem, false_and, Nat.reduceAdd, Nat.reduceLT, Nat.reduceBEq, Nat.reduceSub, Nat.reduceMul, Nat.reduceLeDiff, Int.reduceToNat, Nat.reduceEqDiff, Nat.reduceMod, ht, hl, specRe, ← hw, cS, n12, n13]
    exact ⟨hs, step_weakR (by simp [rdW, noStep]), by (repeat (first | exact Hp.Le.refl _ | refine Hp.le_upd ?_ (fN _ _ _ _)))⟩
  | a :: b :: c :: d :: w, hw =>
    have n12 : (((w.length + 1 + 1 + 1 + 1 : Nat) : Int) == 2) = false := by simp; omega
    have n13 : (((w.length + 1 + 1 + 1 + 1 : Nat) : Int) == 3) = false := by simp; omega
    simp (config := {contextual := true, maxSteps := 5000000}) only [go_sem, false_and, Nat.reduceAdd, Nat.reduceLT, Nat.reduceBEq, Nat.reduceSub, Nat.reduceMul, Nat.reduceLeDiff, Int.reduceToNat, Nat.reduceEqDiff, Nat.reduceMod, ht, hl, specRe, ← hw, cS, n12, n13]
    exact ⟨hs, step_weakR (by simp [rdW, noStep]), by (repeat (first | exact Hp.Le.refl _ | refine Hp.le_upd ?_ (fN _ _ _ _)))⟩
end Go.Proofs.YtkdendaohlnlcaaGreatDoor.Av

/- strings.Builder: a text that grows. No condition. -/
namespace Go.Proofs.YtkdendaohlnlcaaGreatDoor.Av
set_option linter.unusedVariables false
set_option linter.unusedSimpArgs false
set_option maxRecDepth 4000
set_option maxHeartbeats 1000000
variable {w0 : Base} {k : List Nat} {H : Hp}
theorem noEscape_call (v : AV) : CallAt Tryz.prog w0 k 102 [v] H H v := by
  refine .inr ⟨_, Extern.AbiNoEscape.same, Tryz.func102, rfl, by kernel_rfl, by kernel_rfl, by kernel_rfl, fun G w ca hs hf hr => ?_⟩
  obtain ⟨V, hV, h1⟩ : ∃ V, ca.toList = [V] ∧ Rep G v V := by
    simp only [RepL] at hr
    obtain ⟨u, us, e, h1, rfl⟩ := hr
    exact ⟨u, e, h1⟩
  obtain rfl : ca = #[V] := by apply Array.ext'; simpa using hV
  exact ⟨G, w, V, Gh.Le.refl G, New.refl k G, hs, h1, rfl⟩
theorem Hp.upd_self {H : Hp} {i : Id} {e : Option Ent} (h : H i = e) : (H.upd i e).Le H := fun j x hj => by
  by_cases hji : j = i
  · subst hji; rw [Hp.upd_same] at hj; rw [h, hj]
  · rwa [Hp.upd_ne _ _ hji] at hj
theorem builder_lies : liesAt Tryz.prog Tryz.prog.depth 63 (2 / Tryz.prog.cellsOf 63) 0 63 1 = true := by kernel_rfl
theorem copyCheck_call (id : Id) (p X : AV) (hp : p = .raw (.pointer none) ∨ p = .ptr id 0) (hH : H id = some (.cells [p, X])) (hz : id.sz = 2) (hy : id.ty = 63) :
    CallAt Tryz.prog w0 k 68 [.ptr id 0] H (H.upd id (some (.cells [.ptr id 0, X]))) (.tup []) := by
  refine callAt tabOk Spec.no_ok mixed Tryz.func68 rfl rfl Tryz.results68 Tryz.ntmps68 (by simp) [] ?_
  intro hfr t hl ht
  simp only [At, Nat.reduceAdd, List.cons_append, List.nil_append] at ht
  rcases hp with rfl | rfl
  · simp (config := {contextual := true, maxSteps := 5000000}) only [go_sem, false_and, Nat.reduceAdd, Nat.reduceLT, Nat.reduceBEq, Nat.reduceSub, Nat.reduceMul, Nat.reduceLeDiff, Int.reduceToNat, Nat.reduceEqDiff, Nat.reduceMod, ht, hl, hH, hz, hy, Spec.no]
    refine callK_intro (noEscape_call _) ?_
    simp (config := {contextual := true, maxSteps := 5000000}) only [go_sem, false_and, Nat.reduceAdd, Nat.reduceLT, Nat.reduceBEq, Nat.reduceSub, Nat.reduceMul, Nat.reduceLeDiff, Int.reduceToNat, Nat.reduceEqDiff, Nat.reduceMod, ht, hl, hH, hz, hy, Spec.no, builder_lies]
  · simp (config := {contextual := true, maxSteps := 5000000}) only [go_sem, false_and, Nat.reduceAdd, Nat.reduceLT, Nat.reduceBEq, Nat.reduceSub, Nat.reduceMul, Nat.reduceLeDiff, Int.reduceToNat, Nat.reduceEqDiff, Nat.reduceMod, ht, hl, hH, hz, hy, Spec.no]
    exact Hp.upd_self hH
/-- What may be at the end of a text that grows. -/
def tokB (H : Hp) : Tok → ByteArray → Prop
  | .nil, s => s = .empty
  | .tok t, _ => t.sz = 1 ∧ t.ty = 5 ∧ H t = none
  | _, _ => False
def tokUp (H : Hp) : Tok → Hp
  | .tok t => H.upd t (some .tok)
  | _ => H
/-- The heap H0 with a builder besides, that holds s. -/
def bdH (H : Hp) (id : Id) (p : AV) (tk : Tok) (s : ByteArray) : Hp := (tokUp H tk).upd id (some (.cells [p, .list tk (bytesA s)]))
def BdAt (H0 : Hp) (id : Id) (s : ByteArray) (H : Hp) : Prop := (id.sz = 2 ∧ id.ty = 63) ∧ ∃ p tk, (p = .raw (.pointer none) ∨ p = .ptr id 0) ∧ tokB H0 tk s ∧ (bdH H0 id p tk s).Le H
theorem bytesA_append (s t : ByteArray) : bytesA s ++ (bytesA t).map (·.map strip) = bytesA (s ++ t) := by
  simp only [bytesA, List.map_map, ByteArray.data_append, Array.toList_append, List.map_append]
  rfl
theorem BdAt.mono {H0 H H' : Hp} {id : Id} {s : ByteArray} (h : BdAt H0 id s H) (hl : H.Le H') : BdAt H0 id s H' := by
  obtain ⟨h0, p, tk, h1, h2, h3⟩ := h
  exact ⟨h0, p, tk, h1, h2, h3.trans hl⟩
theorem bytes_one (s : ByteArray) : (bytesA s).flatten.all oneA = true := by
  rw [List.all_eq_true]
  intro x hx
  obtain ⟨l, hl, hx⟩ := List.mem_flatten.1 hx
  obtain ⟨b, _, rfl⟩ := List.mem_map.1 hl
  simp only [List.mem_cons, List.not_mem_nil, or_false] at hx
  subst hx
  rfl
/-- A call that writes a text to the builder. -/
def Wrote (f : FuncId) (args : List AV) (id : Id) (txt : ByteArray) (v : AV) : Prop := ∀ w0 k H0 H s, BdAt H0 id s H → s.size + txt.size ≤ 140737488355328 → (∀ i : Id, k <:+ i.key → H0 i = none) → ∃ H' u, (BdAt H0 id (s ++ txt) H' ∧ u = v) ∧ CallAt Tryz.prog w0 k f args H H' u
theorem tokB_live {H0 H : Hp} {id : Id} {p : AV} {tk : Tok} {s : ByteArray} (hid : id.sz = 2) (h : tokB H0 tk s) (hl : (bdH H0 id p tk s).Le H) : tokLive H 1 5 tk := by
  cases tk with
  | none => exact h
  | nil => trivial
  | full => exact h.elim
  | tok t =>
    refine ⟨hl t .tok ?_, h.1, h.2.1⟩
    have hne : t ≠ id := fun e => by have := h.1; rw [e, hid] at this; omega
    rw [bdH, Hp.upd_ne _ _ hne, tokUp, Hp.upd_same]
theorem bdH_at {H0 : Hp} {id j : Id} {p : AV} {tk : Tok} {s : ByteArray} {e : Ent} (hji : j ≠ id) (htk : tokB H0 tk s) (h : H0 j = some e) : bdH H0 id p tk s j = some e := by
  rw [bdH, Hp.upd_ne _ _ hji]
  cases tk with
  | tok t0 =>
    have hjt : j ≠ t0 := fun e => by have := htk.2.2; rw [← e, h] at this; cases this
    rw [tokUp, Hp.upd_ne _ _ hjt, h]
  | _ => exact h
theorem ws_call (id : Id) (t : ByteArray) (ht : (t.size : Int) ≤ 9223372036854775807) : Wrote 39 [.ptr id 0, .str t] id t (.tup [.int .i64 t.size, .raw .nilIface]) := by
  intro w0 k H0 H s ⟨⟨hz, hy⟩, p, tk, hp, htk, hle⟩ hsz hfr0
  have hH : H id = some (.cells [p, .list tk (bytesA s)]) := hle _ _ (Hp.upd_same _ _ _)
  have hlive := tokB_live hz htk hle
  have hno : H0 ⟨1, 6 :: 2 :: k, 5⟩ = none := hfr0 _ (sfx2 _ _ _)
  refine ⟨bdH H0 id (.ptr id 0) (tokBy tk (bytesA t) ⟨1, 6 :: 2 :: k, 5⟩) (s ++ t), _, ⟨⟨⟨hz, hy⟩, _, _, .inr rfl, ?_, Hp.Le.refl _⟩, rfl⟩, ?_⟩
  · cases tk with
    | none => exact htk.elim
    | full => exact htk.elim
    | nil =>
      cases htb : bytesA t with
      | nil =>
        have h0 : t = .empty := by
          have : (bytesA t).length = 0 := by rw [htb]; rfl
          rw [bytesA_length] at this
          exact ByteArray.size_eq_zero_iff.1 this
        rw [show s = .empty from htk, h0]
        rfl
      | cons b l => exact ⟨rfl, rfl, hno⟩
    | tok t0 => exact ⟨rfl, rfl, hno⟩
  refine callAt tabOk Spec.no_ok mixed Tryz.func39 rfl rfl Tryz.results39 Tryz.ntmps39 (by simp) [] ?_
  intro hfr u hl ht'
  simp only [At, Nat.reduceAdd] at ht'
  simp (config := {contextual := true, maxSteps := 5000000}) only [go_sem, false_and, Nat.reduceAdd, Nat.reduceLT, Nat.reduceBEq, Nat.reduceSub, Nat.reduceMul, Nat.reduceLeDiff, Int.reduceToNat, Nat.reduceEqDiff, Nat.reduceMod, ht', hl, hH, hz, hy, Spec.no]
  refine callK_intro (copyCheck_call id p _ hp hH hz hy) ?_
  simp (config := {contextual := true, maxSteps := 5000000}) only [go_sem, false_and, Nat.reduceAdd, Nat.reduceLT, Nat.reduceBEq, Nat.reduceSub, Nat.reduceMul, Nat.reduceLeDiff, Int.reduceToNat, Nat.reduceEqDiff, Nat.reduceMod, ht', hl, hH, hz, hy, Spec.no]
  have hne : id ≠ ⟨1, 6 :: 2 :: k, 5⟩ := fun e => by rw [e] at hz; cases hz
  have htn : ∀ t0, tk = .tok t0 → t0 ≠ id := fun t0 e hh => by
    subst e
    have := htk.1
    rw [hh, hz] at this
    omega
  have hk2 : killTok (H.upd id (some (.cells [.ptr id 0, .list tk (bytesA s)]))) tk id = some (.cells [.ptr id 0, .list tk (bytesA s)]) := by
    cases tk with
    | tok t0 => rw [killTok, Hp.upd_ne _ _ (htn t0 rfl).symm, Hp.upd_same]
    | _ => exact Hp.upd_same _ _ _
  refine ⟨bytesA_each s, bytes_one t, by rw [bytesA_length, bytesA_length]; omega, by rw [bytesA_length, bytesA_length]; omega, ?_, ?_⟩
  · cases tk with
    | tok t0 => exact ⟨by rw [Hp.upd_ne _ _ (htn t0 rfl)]; exact hlive.1, hlive.2⟩
    | _ => exact hlive
  simp (config := {contextual := true, maxSteps := 5000000}) only [go_sem, false_and, Nat.reduceAdd, Nat.reduceLT, Nat.reduceBEq, Nat.reduceSub, Nat.reduceMul, Nat.reduceLeDiff, Int.reduceToNat, Nat.reduceEqDiff, Nat.reduceMod, ht', hl, hz, hy, Spec.no, bytesA_append, hne, hk2]
  intro j e hj
  by_cases hji : j = id
  · subst hji
    rw [bdH, Hp.upd_same] at hj
    rw [Hp.upd_same, hj]
  · rw [bdH, Hp.upd_ne _ _ hji] at hj
    rw [Hp.upd_ne _ _ hji]
    by_cases hjx : j = ⟨1, 6 :: 2 :: k, 5⟩
    · subst hjx
      rw [Hp.upd_same]
      have : ∀ tk', tk' = .nil ∨ tk' = .tok ⟨1, 6 :: 2 :: k, 5⟩ → tokUp H0 tk' ⟨1, 6 :: 2 :: k, 5⟩ = some e → some Ent.tok = some e := fun tk' h h2 => by
        rcases h with rfl | rfl
        · have h3 : H0 ⟨1, 6 :: 2 :: k, 5⟩ = some e := h2
          rw [hno] at h3; cases h3
        · rw [tokUp, Hp.upd_same] at h2; exact h2
      refine this _ ?_ hj
      cases tk with
      | none => exact htk.elim
      | full => exact htk.elim
      | nil => cases bytesA t with
        | nil => exact .inl rfl
        | cons b l => exact .inr rfl
      | tok t0 => exact .inr rfl
    · rw [Hp.upd_ne _ _ hjx]
      have hj0 : H0 j = some e := by
        have : ∀ tk', tk' = .nil ∨ tk' = .tok ⟨1, 6 :: 2 :: k, 5⟩ → tokUp H0 tk' j = some e → H0 j = some e := fun tk' h h2 => by
          rcases h with rfl | rfl
          · exact h2
          · rwa [tokUp, Hp.upd_ne _ _ hjx] at h2
        refine this _ ?_ hj
        cases tk with
        | none => exact htk.elim
        | full => exact htk.elim
        | nil => cases bytesA t with
          | nil => exact .inl rfl
          | cons b l => exact .inr rfl
        | tok t0 => exact .inr rfl
      have h2 := hle _ _ (bdH_at hji htk hj0)
      cases tk with
      | none => exact htk.elim
      | full => exact htk.elim
      | nil => exact (Hp.upd_ne _ _ hji).trans h2
      | tok t0 =>
        have hjt : j ≠ t0 := fun e => by have := htk.2.2; rw [← e, hj0] at this; cases this
        rw [killTok, Hp.upd_ne _ _ hjt, Hp.upd_ne _ _ hji]
        exact h2
theorem BdAt.upd {H0 H : Hp} {id X : Id} {s : ByteArray} {e : Option Ent} (h : BdAt H0 id s H) (h1 : X.sz ≠ 1) (h2 : X.sz ≠ 2) (h0 : H0 X = none) : BdAt H0 id s (H.upd X e) := by
  obtain ⟨⟨hz, hy⟩, p, tk, hp, htk, hle⟩ := h
  refine ⟨⟨hz, hy⟩, p, tk, hp, htk, Hp.le_upd hle ?_⟩
  have hX : X ≠ id := fun e => h2 (by rw [e, hz])
  rw [bdH, Hp.upd_ne _ _ hX]
  cases tk with
  | tok t0 =>
    have hXt : X ≠ t0 := fun e => h1 (by rw [e]; exact htk.1)
    rw [tokUp, Hp.upd_ne _ _ hXt, h0]
  | _ => exact h0
theorem BdAt.ex {H0 : Hp} {id : Id} (hz : id.sz = 2) (hy : id.ty = 63) {k : List Nat} (h0 : ∀ i : Id, k <:+ i.key → H0 i = none) (s : ByteArray) : ∃ H', BdAt H0 id s H' :=
  ⟨bdH H0 id (.ptr id 0) (.tok ⟨1, k, 5⟩) s, ⟨hz, hy⟩, .ptr id 0, .tok ⟨1, k, 5⟩, .inr rfl, ⟨rfl, rfl, h0 _ (List.suffix_refl _)⟩, Hp.Le.refl _⟩
/-- A new builder. -/
theorem BdAt.new {H0 : Hp} {id : Id} (hz : id.sz = 2) (hy : id.ty = 63) (h0 : H0 id = none) : BdAt H0 id .empty (H0.upd id (some (.cells [.raw (.pointer none), .list .nil []]))) :=
  ⟨⟨hz, hy⟩, _, .nil, .inl rfl, rfl, Hp.Le.refl _⟩
theorem BdAt.le {H0 H : Hp} {id : Id} {s : ByteArray} (h : BdAt H0 id s H) (h0 : H0 id = Option.none) : H0.Le H := by
  obtain ⟨_, p, tk, _, htk, hle⟩ := h
  intro j e hj
  exact hle _ _ (bdH_at (fun e => by rw [e, h0] at hj; cases hj) htk hj)
theorem len_call (id : Id) {H0 : Hp} {s : ByteArray} (hb : BdAt H0 id s H) : CallAt Tryz.prog w0 k 43 [.ptr id 0] H H (.int .i64 s.size) := by
  obtain ⟨⟨hz, hy⟩, p, tk, hp, htk, hle⟩ := hb
  have hH : H id = some (.cells [p, .list tk (bytesA s)]) := hle _ _ (Hp.upd_same _ _ _)
  refine callAt tabOk Spec.no_ok mixed Tryz.func43 rfl rfl Tryz.results43 Tryz.ntmps43 (by simp) [] ?_
  intro hfr u hl ht
  simp only [At, Nat.reduceAdd] at ht
  simp (config := {contextual := true, maxSteps := 5000000}) only [go_sem, false_and, Nat.reduceAdd, Nat.reduceLT, Nat.reduceBEq, Nat.reduceSub, Nat.reduceMul, Nat.reduceLeDiff, Int.reduceToNat, Nat.reduceEqDiff, Nat.reduceMod, ht, hl, hH, hz, hy, Spec.no, bytesA_length]
theorem string_call (id : Id) {H0 : Hp} {s : ByteArray} (hb : BdAt H0 id s H) (h0 : H0 id = none) (hs : (s.size : Int) ≤ 9223372036854775807) : CallAt Tryz.prog w0 k 44 [.ptr id 0] H H0 (.str s) := by
  obtain ⟨⟨hz, hy⟩, p, tk, hp, htk, hle⟩ := hb
  have hH : H id = some (.cells [p, .list tk (bytesA s)]) := hle _ _ (Hp.upd_same _ _ _)
  have hlive := tokB_live hz htk hle
  refine callAt tabOk Spec.no_ok mixed Tryz.func44 rfl rfl Tryz.results44 Tryz.ntmps44 (by simp) [] ?_
  intro hfr u hl ht
  simp only [At, Nat.reduceAdd] at ht
  have hne0 : ∀ t0, tk = .tok t0 → H0 t0 = none := fun t0 e => by subst e; exact htk.2.2
  simp (config := {contextual := true, maxSteps := 5000000}) only [go_sem, false_and, Nat.reduceAdd, Nat.reduceLT, Nat.reduceBEq, Nat.reduceSub, Nat.reduceMul, Nat.reduceLeDiff, Int.reduceToNat, Nat.reduceEqDiff, Nat.reduceMod, ht, hl, hH, hz, hy, Spec.no, bytesA_length]
  refine ⟨by kernel_rfl, ?_, hs, ?_, by (refine pw_of ?_; (repeat' (first | exact trivial | apply And.intro)); all_goals (first | exact .inr rfl | exact .inr trivial | exact .inl (by kernel_rfl))), fun j e hj => ?_⟩
  · cases tk with
    | nil => exact .inl rfl
    | tok t0 => exact .inr (.inr ⟨t0, rfl, hlive.1⟩)
    | none => exact htk.elim
    | full => exact htk.elim
  · cases tk with
    | nil => exact .inl (by rw [show s = .empty from htk]; rfl)
    | tok t0 => exact .inr ⟨by kernel_rfl, t0, rfl, hlive.1, htk.2.1, htk.1⟩
    | none => exact htk.elim
    | full => exact htk.elim
  · have hji : j ≠ id := fun e => by rw [e, h0] at hj; cases hj
    have h2 := hle _ _ (bdH_at hji htk hj)
    cases tk with
    | tok t0 =>
      have hjt : j ≠ t0 := fun e => by rw [e, hne0 t0 rfl] at hj; cases hj
      rw [killTok, Hp.upd_ne _ _ hjt]
      exact h2
    | _ => exact h2
end Go.Proofs.YtkdendaohlnlcaaGreatDoor.Av

/- Functions of Go's library that answer texts. No condition. -/
namespace Go.Proofs.YtkdendaohlnlcaaGreatDoor.Av
set_option linter.unusedVariables false
set_option linter.unusedSimpArgs false
set_option maxRecDepth 4000
set_option maxHeartbeats 1000000
open Go.RowKit
variable {w0 : Base} {k : List Nat} {H : Hp}
/-- A text, out of its bytes. -/
abbrev T (l : List UInt8) : ByteArray := ⟨l.toArray⟩
@[go_sem] theorem T_append (l m : List UInt8) : ByteArray.mk l.toArray ++ ByteArray.mk m.toArray = ByteArray.mk (l ++ m).toArray := by
  apply ByteArray.ext
  simp [ByteArray.data_append]
theorem T_size (l : List UInt8) : (T l).size = l.length := by simp [ByteArray.size]
def L (s : ByteArray) : List UInt8 := s.data.toList
theorem T_L (s : ByteArray) : T (L s) = s := rfl
theorem L_T (l : List UInt8) : L (T l) = l := by simp [L]
theorem L_append (s t : ByteArray) : L (s ++ t) = L s ++ L t := by simp [L, ByteArray.data_append]
theorem L_length (s : ByteArray) : (L s).length = s.size := by
  unfold L
  rw [Array.length_toList]
  rfl
theorem L_inj {s t : ByteArray} (h : L s = L t) : s = t := by rw [← T_L s, ← T_L t, h]
theorem below_sort {w : World} {n : Nat} {os : Array Obj} : Below w.heap.size w (Go.Sort.grow (w.drewN n) os) :=
  ⟨rfl, rfl, rfl, by simp [Go.Sort.grow, World.drewN], fun k hk => by
    show (w.heap ++ os)[k]? = _
    exact Array.getElem?_append_left hk⟩
theorem tabIs_below {P : Program} {w w' : World} {name : String} {kd : IntKind} {zs : List Int} (h : Lib.TabIs P w name kd zs) (hb : Below w.heap.size w w') : Lib.TabIs P w' name kd zs := by
  unfold Lib.TabIs World.var? at h ⊢
  rw [Option.bind_eq_some_iff] at h ⊢
  obtain ⟨g, h1, h2⟩ := h
  refine ⟨g, h1, ?_⟩
  have hg : g < w.heap.size := by
    cases hh : w.heap[g]? with
    | none => rw [hh] at h2; cases h2
    | some o => exact (Array.getElem?_eq_some_iff.1 hh).1
  rw [hb.block g hg]
  exact h2
/-- The table that strconv.Itoa reads. -/
def TabW (w0 : Base) : Prop := Lib.TabIs Tryz.prog w0.w "internal/strconv.uint64pow10" .u64 Lib.pow10Tab
theorem itoa_call (hw : TabW w0) (n : Int) (h0 : -9223372036854775808 ≤ n) (h1 : n ≤ 9223372036854775807) : CallAt Tryz.prog w0 k 37 [.int .i64 n] H H (.str (T (Lib.itoa n))) := by
  refine callAt_of_law' Tryz.func37 rfl (by kernel_rfl) fun G w ca hs hr => ?_
  obtain rfl : ca = #[.int .i64 n] := by
    simp only [RepL, Rep] at hr
    obtain ⟨u, us, e, rfl, rfl⟩ := hr
    apply Array.ext'
    simpa using e
  have htab : Lib.TabIs Tryz.prog w "internal/strconv.uint64pow10" .u64 Lib.pow10Tab := tabIs_below hw hs.below
  refine (Tryz.strconv_Itoa n h0 h1 w htab).mono fun e w' he => ?_
  obtain ⟨rfl, kk, os, rfl⟩ := he
  exact ⟨_, fun _ => none, rfl, below_sort, (fun a u h => by cases h), by simp [Rep]⟩
theorem itoa_small (n : Int) (h0 : 0 ≤ n) (h1 : n < 100) : CallAt Tryz.prog w0 k 37 [.int .i64 n] H H (.str (T (Lib.itoa n))) := by
  refine callAt_of_law' Tryz.func37 rfl (by kernel_rfl) fun G w ca hs hr => ?_
  obtain ⟨m, rfl⟩ : ∃ m : Nat, n = m := ⟨n.toNat, by omega⟩
  obtain rfl : ca = #[.int .i64 m] := by
    simp only [RepL, Rep] at hr
    obtain ⟨u, us, e, rfl, rfl⟩ := hr
    apply Array.ext'
    simpa using e
  refine (Tryz.strconv_Itoa_small m (by omega) w).mono fun e w' he => ?_
  obtain ⟨rfl, rfl⟩ := he
  refine ⟨_, fun _ => none, rfl, Below.refl _ _, (fun a u h => by cases h), ?_⟩
  simp only [Rep]
  rw [Lib.itoa, if_neg (by omega)]
  simp
theorem repE_str {G : Gh} {ad : Addr} : ∀ (l : List ByteArray) (i : Nat), RepE G ad i (l.map cS.enc) → ∀ j x, l[j]? = some x → G.C (ad.add (i + j)) = some (.string x)
  | [], i, _, j, x, h => by simp at h
  | s :: l, i, hr, j, x, h => by
    simp only [List.map_cons, cS, RepE, RepC, Rep] at hr
    obtain ⟨⟨⟨v, e, rfl⟩, _⟩, h2⟩ := hr
    cases j with
    | zero =>
      simp only [List.getElem?_cons_zero, Option.some.injEq] at h
      subst h
      simpa using e
    | succ j =>
      have := repE_str l (i + 1) h2 j x (by simpa using h)
      rwa [show i + 1 + j = i + (j + 1) by omega] at this
/-- The texts, with another one between. -/
def joinT (l : List ByteArray) (sep : ByteArray) : List UInt8 := Lib.join (l.map L) (L sep)
theorem join_call (l : List ByteArray) (sep : ByteArray) (hl : l.length ≤ 140737488355328) (hj : (joinT l sep).length ≤ 140737488355328) : CallAt Tryz.prog w0 k 40 [(dL cS).enc l, .str sep] H H (.str (T (joinT l sep))) := by
  refine callAt_of_law' Tryz.func40 rfl (by kernel_rfl) fun G w ca hs hr => ?_
  simp only [dL, RepL, Rep] at hr
  obtain ⟨V, us, e1, ⟨A, n, c, rfl, hn, hc, _, _, ad, ha, hre⟩, V2, us2, rfl, rfl, rfl⟩ := hr
  obtain rfl : ca = #[.slice A n c, .string sep] := by apply Array.ext'; simpa using e1
  rw [List.length_map] at hn
  subst hn
  cases l with
  | nil =>
    refine (Tryz.strings_Join_none A c sep w).mono fun e w' he => ?_
    obtain ⟨rfl, rfl⟩ := he
    exact ⟨_, fun _ => none, rfl, Below.refl _ _, (fun a u h => by cases h), by simp [Rep, joinT, Lib.join_nil]⟩
  | cons x l =>
    have hA := ha (by simp)
    subst hA
    have hcell := repE_str _ 0 hre
    obtain ⟨bk, o, sp⟩ := ad
    have h0 := hs.c _ _ (by simpa using hcell 0 x rfl)
    have hsp : sp = none := by
      cases sp with
      | none => rfl
      | some q =>
        exfalso
        unfold World.cell? at h0
        simp only [Addr.add, if_true] at h0
        split at h0
        · simp at h0
        · cases h0
    subst hsp
    have hlt := World.block_lt_of_cell? w _ h0
    refine (Tryz.strings_Join bk o c (x :: l) sep w (fun j y hy => ?_) (by simpa [Addr.add] using hlt) hl hc hj).mono fun e w' he => ?_
    · have := hs.c _ _ (by simpa using hcell j y hy)
      have hadd : (⟨bk, o, none⟩ : Addr).add j = ⟨bk, o + j, none⟩ := by unfold Addr.add; split <;> simp_all
      rwa [hadd] at this
    · obtain ⟨rfl, hb⟩ := he
      exact ⟨_, fun _ => none, rfl, hb, (fun a u h => by cases h), by simp only [Rep]; rfl⟩
end Go.Proofs.YtkdendaohlnlcaaGreatDoor.Av

/- What the reference of layer 9 reads of a line. No condition. -/
namespace Go.Proofs.YtkdendaohlnlcaaGreatDoor.Av
set_option linter.unusedVariables false
set_option linter.unusedSimpArgs false
set_option maxRecDepth 4000
set_option maxHeartbeats 1000000
variable {w0 : Base} {k : List Nat} {H : Hp}
theorem fmRes_ok {s : ByteArray} {x : E} (h : fmRes s = .ok x) : x.ok ∧ x.right = 0 := by
  unfold fmRes at h
  cases ht : toks s with
  | err e a => rw [ht] at h; cases h
  | ok l =>
    rw [ht] at h
    simp only [wholeR] at h
    have hf := fmF_fine l (l.length + 1) 0
    generalize fmF l (l.length + 1) 0 = g at h hf
    cases g with
    | no q => cases h
    | ok y q =>
      simp only at h
      split at h
      · cases h
      · split at h
        · cases h
          exact ⟨hf, by assumption⟩
        · cases h
theorem fmRes_ne {s : ByteArray} {e a : Int} (h : fmRes s = .err e a) : e ≠ 0 := by
  unfold fmRes at h
  cases ht : toks s with
  | err e a =>
    rw [ht] at h
    cases h
    exact toks_ne ht
  | ok l =>
    rw [ht] at h
    simp only [wholeR] at h
    generalize fmF l (l.length + 1) 0 = g at h
    cases g with
    | no q => cases h; decide
    | ok y q =>
      simp only at h
      split at h
      · cases h; decide
      · split at h
        · cases h
        · cases h; assumption
/-- A formula of a unit, and what is wrong with it. -/
def fmU (s : ByteArray) : E × Int := match fmRes s with
  | .ok x => (x, x.written)
  | .err e _ => (noE, e)
def specFu : Spec := (Spec.no.add 55 (sp1 dS (fun _ => True) fun s => (fmRes s).av)).add 56 (sp1 dE (fun e => e.ok) fun e => .int .i64 e.written)
theorem specFu_ok : SpecOk Tryz.prog w0 specFu := (Spec.no_ok.add (sp1_ok fun s _ k H => formula03_call s)).add (sp1_ok fun e h k H => written09_call e h)
theorem noE_weak {e : Int} : Weak (.tup [.agg [.int .i64 0, .int .i64 0, .list .nil []], .int .i64 e]) (.tup [noE.av, .int .i64 e]) := WeakL.tup ⟨_, _, rfl, WeakL.agg ⟨_, _, rfl, Weak.refl _, _, _, rfl, Weak.refl _, _, _, rfl, nil_weak, rfl⟩, _, _, rfl, Weak.refl _, rfl⟩
theorem formula09_call (s : ByteArray) : CallAt Tryz.prog w0 k 28 [.str s] H H (.tup [(fmU s).1.av, .int .i64 (fmU s).2]) := by
  refine callAt tabOk specFu_ok mixed Tryz.func28 rfl rfl Tryz.results28 Tryz.ntmps28 (by simp) [] ?_
  intro hfr t hl ht
  simp only [At, Nat.reduceAdd, List.cons_append, List.nil_append] at ht
  have fN : ∀ (a b : Nat) z ty, H ⟨z, a :: b :: k, ty⟩ = none := fun a b z ty => hfr _ (sfx2 _ _ _)
  unfold fmU
  have he0 : ((0 : Int) != 0) = false := rfl
  cases hf : fmRes s with
  | ok x =>
    simp (config := {contextual := true, maxSteps := 5000000}) only [go_sem, false_and, Nat.reduceAdd, Nat.reduceLT, Nat.reduceBEq, Nat.reduceSub, Nat.reduceMul, Nat.reduceLeDiff, Int.reduceToNat, Nat.reduceEqDiff, Nat.reduceMod, ht, hl, specFu, hf, FR.av, he0, toE_at]
    exact ⟨(fmRes_ok hf).1, by (repeat (first | exact Hp.Le.refl _ | refine Hp.le_upd ?_ (fN _ _ _ _)))⟩
  | err e a =>
    have he : (e != 0) = true := by simpa using fmRes_ne hf
    simp (config := {contextual := true, maxSteps := 5000000}) only [go_sem, false_and, Nat.reduceAdd, Nat.reduceLT, Nat.reduceBEq, Nat.reduceSub, Nat.reduceMul, Nat.reduceLeDiff, Int.reduceToNat, Nat.reduceEqDiff, Nat.reduceMod, ht, hl, specFu, hf, FR.av, he]
    exact ⟨noE_weak, by (repeat (first | exact Hp.Le.refl _ | refine Hp.le_upd ?_ (fN _ _ _ _)))⟩
/-- The step of a line, out of what was read of its reason and its formula. -/
def stepF (r : Step × Bool) (f : E × Int) : Step × Int := if r.2 = false then (noStep, 90) else if r.1.by_ = 4 ∧ isName r.1.cite = false then (noStep, 91) else (⟨f.1, r.1.by_, r.1.a, r.1.b, r.1.cite⟩, f.2)
def numT (n : Int) : ByteArray := T (Lib.itoa n ++ [32])
def stepR (s : ByteArray) (n : Int) : Step × Int :=
  if 60 < n then (noStep, 2) else if fstC s 58 < s.size then
    (if beg (s.extract 0 (fstC s 58)) (numT n) && beg (s.extract (fstC s 58 + 1) s.size) ⟨#[32]⟩ then
      stepF (rdW (cutC ((s.extract (fstC s 58 + 1) s.size).extract 1 (s.extract (fstC s 58 + 1) s.size).size) 32)) (fmU ((s.extract 0 (fstC s 58)).extract (numT n).size (s.extract 0 (fstC s 58)).size))
     else (noStep, 90))
  else (noStep, 90)
def specSt : Spec := (((((Spec.no.add 57 (sp1 dS (fun s => s.size ≤ 4000000000) fun s => .int .i64 (if fstC s 58 < s.size then (fstC s 58 : Int) else -1))).add 37 (sp1 dI (fun n => 0 ≤ n ∧ n < 100) fun n => .str (T (Lib.itoa n)))).add 27 (sp2 dS dS (fun _ _ => True) fun s p => .tup [.str (if beg s p then s.extract p.size s.size else ⟨#[]⟩), .bool (beg s p)])).add
  58 (sp1 dS (fun s => s.size ≤ 4000000000) fun s => .tup [(rdW (cutC s 32)).1.av, .bool (rdW (cutC s 32)).2])).add 59 (sp1 dS (fun _ => True) fun c => .bool (isName c))).add 28 (sp1 dS (fun _ => True) fun s => .tup [(fmU s).1.av, .int .i64 (fmU s).2])
theorem specSt_ok : SpecOk Tryz.prog w0 specSt := (((((Spec.no_ok.add (sp1_ok fun s h k H => colon_call s h)).add (sp1_ok fun n h k H => itoa_small n h.1 h.2)).add (sp2_ok fun s p _ k H => begins_call s p)).add (sp1_ok fun s h k H => read09_call s h)).add (sp1_ok fun c _ k H => name09_call c)).add (sp1_ok fun s _ k H => formula09_call s)
theorem step_weakE {e : Int} : Weak (.tup [.agg [.int .i64 0, .int .i64 0, .list .nil [], .int .i64 0, .int .i64 0, .int .i64 0, .str ⟨#[]⟩], .int .i64 e]) (.tup [noStep.av, .int .i64 e]) :=
  WeakL.tup ⟨_, _, rfl, WeakL.agg ⟨_, _, rfl, Weak.refl _, _, _, rfl, Weak.refl _, _, _, rfl, nil_weak, _, _, rfl, Weak.refl _, _, _, rfl, Weak.refl _, _, _, rfl, Weak.refl _, _, _, rfl, Weak.refl _, rfl⟩, _, _, rfl, Weak.refl _, rfl⟩
theorem step09_call (s : ByteArray) (n : Int) (hs : s.size ≤ 4000000000) (hn : 0 ≤ n) : CallAt Tryz.prog w0 k 29 [.str s, .int .i64 n] H H (.tup [(stepR s n).1.av, .int .i64 (stepR s n).2]) := by
  refine callAt tabOk specSt_ok mixed Tryz.func29 rfl rfl Tryz.results29 Tryz.ntmps29 (by simp) [] ?_
  intro hfr t hl ht
  simp only [At, Nat.reduceAdd, List.cons_append, List.nil_append] at ht
  have fN : ∀ (a b : Nat) z ty, H ⟨z, a :: b :: k, ty⟩ = none := fun a b z ty => hfr _ (sfx2 _ _ _)
  have z32 : (#[32] : Array UInt8).size = 1 := rfl
  have hA : True := trivial
  have hB := hA
  by_cases h60 : 60 < n
  · have d60 : decide (60 < n) = true := by simpa using h60
    rw [stepR, if_pos h60]
    simp (config := {contextual := true, maxSteps := 5000000}) only [go_sem, false_and, Nat.reduceAdd, Nat.reduceLT, Nat.reduceBEq, Nat.reduceSub, Nat.reduceMul, Nat.reduceLeDiff, Int.reduceToNat, Nat.reduceEqDiff, Nat.reduceMod, ht, hl, specSt, d60]
    exact ⟨step_weakE, by (repeat (first | exact Hp.Le.refl _ | refine Hp.le_upd ?_ (fN _ _ _ _)))⟩
  have d60 : decide (60 < n) = false := by simpa using h60
  rw [stepR, if_neg h60]
  by_cases hat : fstC s 58 < s.size
  · have dat : decide ((fstC s 58 : Int) < 0) = false := by simp <;> omega
    have hw : IntKind.i64.wrap ((fstC s 58 : Int) + 1) = ((fstC s 58 + 1 : Nat) : Int) := by rw [wrap_i64] <;> omega
    have hrg : (0 : Int) ≤ (fstC s 58 : Int) ∧ (fstC s 58 : Int) ≤ (s.size : Int) := by omega
    have hrg2 : (0 : Int) ≤ ((fstC s 58 + 1 : Nat) : Int) ∧ ((fstC s 58 + 1 : Nat) : Int) ≤ (s.size : Int) := by omega
    have hn2 : 0 ≤ n ∧ n < 100 := by omega
    have hnl := Lib.itoa_length_le n (by omega) (by omega)
    have hszn : (((Lib.itoa n).toArray.size + 1 : Nat) : Int) ≤ 9223372036854775807 := by rw [List.size_toArray]; omega
    rw [if_pos hat]
    have hsz2 : ((s.extract (fstC s 58 + 1) s.size).extract 1 (s.extract (fstC s 58 + 1) s.size).size).size ≤ 4000000000 := by simp only [ByteArray.size_extract]; omega
    generalize ha : s.extract 0 (fstC s 58) = said
    generalize hb : s.extract (fstC s 58 + 1) s.size = behind at hsz2 ⊢
    have hnt : ByteArray.mk (Lib.itoa n ++ [32]).toArray = numT n := rfl
    cases h1 : beg said (numT n) with
    | false =>
      simp (config := {contextual := true, maxSteps := 5000000}) only [go_sem, false_and, Nat.reduceAdd, Nat.reduceLT, Nat.reduceBEq, Nat.reduceSub, Nat.reduceMul, Nat.reduceLeDiff, Int.reduceToNat, Nat.reduceEqDiff, Nat.reduceMod, ht, hl, specSt, d60, hat, dat, hw, ha, hb, hnt, h1]
      exact ⟨hs, by kernel_rfl, hrg, hn2, hszn, List.Pairwise.nil, hrg2, step_weakE, by (repeat (first | exact Hp.Le.refl _ | refine Hp.le_upd ?_ (fN _ _ _ _)))⟩
    | true =>
      cases h2 : beg behind ⟨#[32]⟩ with
      | false =>
        simp (config := {contextual := true, maxSteps := 5000000}) only [go_sem, false_and, Nat.reduceAdd, Nat.reduceLT, Nat.reduceBEq, Nat.reduceSub, Nat.reduceMul, Nat.reduceLeDiff, Int.reduceToNat, Nat.reduceEqDiff, Nat.reduceMod, ht, hl, specSt, d60, hat, dat, hw, ha, hb, hnt, h1, h2, z32]
        exact ⟨hs, by kernel_rfl, hrg, hn2, hszn, List.Pairwise.nil, hrg2, step_weakE, by (repeat (first | exact Hp.Le.refl _ | refine Hp.le_upd ?_ (fN _ _ _ _)))⟩
      | true =>
        generalize hr : rdW (cutC (behind.extract 1 behind.size) 32) = r
        generalize hf : fmU (said.extract (numT n).size said.size) = f
        obtain ⟨st, b⟩ := r
        cases b with
        | false =>
          simp (config := {contextual := true, maxSteps := 5000000}) only [go_sem, false_and, Nat.reduceAdd, Nat.reduceLT, Nat.reduceBEq, Nat.reduceSub, Nat.reduceMul, Nat.reduceLeDiff, Int.reduceToNat, Nat.reduceEqDiff, Nat.reduceMod, ht, hl, specSt, d60, hat, dat, hw, ha, hb, hnt, h1, h2, z32, hr, Step.cells]
          exact ⟨hs, by kernel_rfl, hrg, hn2, hszn, List.Pairwise.nil, hrg2, hsz2, step_weakE, by (repeat (first | exact Hp.Le.refl _ | refine Hp.le_upd ?_ (fN _ _ _ _)))⟩
        | true =>
          simp (config := {contextual := true, maxSteps := 5000000}) only [go_sem, false_and, Nat.reduceAdd, Nat.reduceLT, Nat.reduceBEq, Nat.reduceSub, Nat.reduceMul, Nat.reduceLeDiff, Int.reduceToNat, Nat.reduceEqDiff, Nat.reduceMod, ht, hl, specSt, d60, hat, dat, hw, ha, hb, hnt, h1, h2, z32, hr, hf, Step.cells]
          refine ⟨hs, by kernel_rfl, hrg, hn2, hszn, List.Pairwise.nil, hrg2, hsz2, fun x => ⟨fun y => ⟨?_, by (repeat (first | exact Hp.Le.refl _ | refine Hp.le_upd ?_ (fN _ _ _ _)))⟩, fun y => ⟨?_, by (repeat (first | exact Hp.Le.refl _ | refine Hp.le_upd ?_ (fN _ _ _ _)))⟩⟩, fun x => ⟨?_, by (repeat (first | exact Hp.Le.refl _ | refine Hp.le_upd ?_ (fN _ _ _ _)))⟩⟩
          · rw [stepF, if_neg (by simp), if_pos ⟨by simpa using x, by simpa using y⟩]
            exact step_weakE
          · rw [stepF, if_neg (by simp), if_neg (fun h => by rw [h.2] at y; cases y)]
            exact Weak.refl _
          · rw [stepF, if_neg (by simp), if_neg (fun h => by rw [h.1] at x; cases x)]
            exact Weak.refl _
  · have dat : decide ((-1 : Int) < 0) = true := rfl
    rw [if_neg hat]
    simp (config := {contextual := true, maxSteps := 5000000}) only [go_sem, false_and, Nat.reduceAdd, Nat.reduceLT, Nat.reduceBEq, Nat.reduceSub, Nat.reduceMul, Nat.reduceLeDiff, Int.reduceToNat, Nat.reduceEqDiff, Nat.reduceMod, ht, hl, specSt, d60, hat, dat]
    exact ⟨hs, step_weakE, by (repeat (first | exact Hp.Le.refl _ | refine Hp.le_upd ?_ (fN _ _ _ _)))⟩
end Go.Proofs.YtkdendaohlnlcaaGreatDoor.Av

/- What the reference of layer 9 reads of a text. No condition. -/
namespace Go.Proofs.YtkdendaohlnlcaaGreatDoor.Av
set_option linter.unusedVariables false
set_option linter.unusedSimpArgs false
set_option maxRecDepth 4000
set_option maxHeartbeats 1000000
variable {w0 : Base} {k : List Nat} {H : Hp}
theorem cutF_mem {s : ByteArray} {c : Int} : ∀ {m fr i : Nat} {x : ByteArray}, x ∈ cutF s c m fr i → x.size ≤ s.size
  | 0, fr, i, x, h => by
    simp only [cutF, List.mem_singleton] at h
    subst h
    simp only [ByteArray.size_extract]
    omega
  | m + 1, fr, i, x, h => by
    rw [cutF] at h
    split at h
    · rcases List.mem_cons.1 h with rfl | h
      · simp only [ByteArray.size_extract]
        omega
      · exact cutF_mem h
    · exact cutF_mem h
theorem lns_mem {l : List ByteArray} {x : ByteArray} (h : x ∈ lns l) : x ∈ l := by
  unfold lns at h
  split at h
  · split at h
    · exact List.mem_of_mem_take h
    · exact h
  · exact h
theorem linesOf_size {s x : ByteArray} (h : x ∈ linesOf s) : x.size ≤ s.size := cutF_mem (lns_mem h)
theorem lns_len (l : List ByteArray) : (lns l).length ≤ l.length := by
  unfold lns
  split
  · split
    · simp
    · exact Nat.le_refl _
  · exact Nat.le_refl _
theorem linesOf_len (s : ByteArray) : (linesOf s).length ≤ s.size + 1 := Nat.le_trans (lns_len _) (cutC_len s 10).2
/-- The names of the first line, and what is wrong with them. -/
def citR (s : ByteArray) : List ByteArray × Int := if beg s ⟨#[99, 105, 116, 101, 115]⟩ = false then ([], 90) else if e0 (s.extract 5 s.size) = true then ([], 0) else if byteAt (s.extract 5 s.size) 0 = 32 then
  (cutC ((s.extract 5 s.size).extract 1 (s.extract 5 s.size).size) 32, namesGo [] (cutC ((s.extract 5 s.size).extract 1 (s.extract 5 s.size).size) 32)) else ([], 90)
def stepsR : List ByteArray → Nat → List Step → List Step × Int × Int
  | [], _, acc => (acc, 0, 0)
  | x :: xs, i, acc => if (stepR x ((i : Int) - 1)).2 = 0 then stepsR xs (i + 1) (acc ++ [(stepR x ((i : Int) - 1)).1]) else ([], (stepR x ((i : Int) - 1)).2, (i : Int) + 1)
inductive PR where
  | ok (u : U)
  | err (e line : Int)
def noU : U := ⟨[], noE, []⟩
def PR.av : PR → AV
  | .ok u => .tup [.agg u.cells, .int .i64 0, .int .i64 0]
  | .err e a => .tup [.agg noU.cells, .int .i64 e, .int .i64 a]
def statesB : ByteArray := ⟨#[115, 116, 97, 116, 101, 115, 32]⟩
def parse3 (c : List ByteArray) (x : E) (r : List Step × Int × Int) : PR := if r.2.1 = 0 then .ok ⟨c, x, r.1⟩ else .err r.2.1 r.2.2
def parse2 (c : List ByteArray) (b : ByteArray) (rest : List ByteArray) : PR :=
  if beg b statesB = false then .err 90 2 else if (fmU (b.extract 7 b.size)).2 = 0 then (match rest with
    | [] => .err 90 3
    | x :: xs => parse3 c (fmU (b.extract 7 b.size)).1 (stepsR (x :: xs) 2 [])) else .err (fmU (b.extract 7 b.size)).2 2
def parse1 (a : ByteArray) (rest : List ByteArray) : PR := if (citR a).2 = 0 then (match rest with
  | [] => .err 90 2
  | b :: r => parse2 (citR a).1 b r) else .err (citR a).2 1
def parseL : List ByteArray → PR
  | [] => .err 90 1
  | a :: rest => parse1 a rest
def parseR (s : ByteArray) : PR := if 20000 < s.size then .err 2 0 else parseL (linesOf s)
/-! the first line -/
def specCi : Spec := ((Spec.no.add 27 (sp2 dS dS (fun _ _ => True) fun s p => .tup [.str (if beg s p then s.extract p.size s.size else ⟨#[]⟩), .bool (beg s p)])).add 31 (sp2 dS dC (fun s _ => s.size ≤ 4000000000) fun s c => .list .none ((cutC s c).map cS.enc))).add 54 (sp1 (dL cS) (fun l => (l.length : Int) ≤ 9223372036854775807) fun l => .int .i64 (namesGo [] l))
theorem specCi_ok : SpecOk Tryz.prog w0 specCi := ((Spec.no_ok.add (sp2_ok fun s p _ k H => begins_call s p)).add (sp2_ok fun s c h k H => cut09_call s c h)).add (sp1_ok fun l h k H => names09_call l h)
theorem cites_weak {e : Int} : Weak (.tup [.list .nil [], .int .i64 e]) (.tup [.list .none [], .int .i64 e]) := WeakL.tup ⟨_, _, rfl, nil_weak, _, _, rfl, Weak.refl _, rfl⟩
theorem cites09_call (s : ByteArray) (hs : s.size ≤ 4000000000) : CallAt Tryz.prog w0 k 26 [.str s] H H (.tup [.list .none ((citR s).1.map cS.enc), .int .i64 (citR s).2]) := by
  refine callAt tabOk specCi_ok mixed Tryz.func26 rfl rfl Tryz.results26 Tryz.ntmps26 (by simp) [] ?_
  intro hfr t hl ht
  simp only [At, Nat.reduceAdd, List.cons_append, List.nil_append] at ht
  have z5 : (#[99, 105, 116, 101, 115] : Array UInt8).size = 5 := rfl
  unfold citR
  cases h1 : beg s ⟨#[99, 105, 116, 101, 115]⟩ with
  | false =>
    simp (config := {contextual := true, maxSteps := 5000000}) only [go_sem, false_and, Nat.reduceAdd, Nat.reduceLT, Nat.reduceBEq, Nat.reduceSub, Nat.reduceMul, Nat.reduceLeDiff, Int.reduceToNat, Nat.reduceEqDiff, Nat.reduceMod, ht, hl, specCi, h1]
    exact cites_weak
  | true =>
    have hx : (s.extract 5 s.size).size ≤ 4000000000 := by simp only [ByteArray.size_extract]; omega
    generalize hr : s.extract 5 s.size = r at hx ⊢
    have hx2 : (r.extract 1 r.size).size ≤ 4000000000 := by simp only [ByteArray.size_extract]; omega
    have hlc := cutC_len (r.extract 1 r.size) 32
    have hr0 : e0 r = false → 0 < r.size := fun h => by
      rcases Nat.eq_zero_or_pos r.size with hz | hz
      · have : r = ⟨#[]⟩ := by apply ByteArray.ext; exact Array.eq_empty_of_size_eq_zero hz
        rw [this] at h
        simp [e0] at h
      · exact hz
    simp (config := {contextual := true, maxSteps := 5000000}) only [go_sem, false_and, Nat.reduceAdd, Nat.reduceLT, Nat.reduceBEq, Nat.reduceSub, Nat.reduceMul, Nat.reduceLeDiff, Int.reduceToNat, Nat.reduceEqDiff, Nat.reduceMod, ht, hl, specCi, h1, z5, hr]
    refine ⟨fun a => ?_, fun a => ⟨⟨by omega, by have := hr0 a; omega⟩, fun b => ?_, fun b => ⟨⟨by omega, by have := hr0 a; omega⟩, hx2, by omega, ?_⟩⟩⟩
    · rw [if_pos (show e0 r = true from a)]
      exact cites_weak
    · rw [if_neg (by rw [show e0 r = false from a]; simp), if_neg (by simpa using b)]
      exact cites_weak
    · rw [if_neg (by rw [show e0 r = false from a]; simp), if_pos (by simpa using b)]
      exact Weak.refl _
end Go.Proofs.YtkdendaohlnlcaaGreatDoor.Av

/- Whether two expressions, names, steps, units are the same, by the reference. No condition. -/
namespace Go.Proofs.YtkdendaohlnlcaaGreatDoor.Av
set_option linter.unusedVariables false
set_option linter.unusedSimpArgs false
set_option maxRecDepth 4000
set_option maxHeartbeats 1000000
variable {w0 : Base} {k : List Nat} {H : Hp}
def byI (a b : Int) : Int := if a < b then -1 else if b < a then 1 else 0
theorem byI_zero {a b : Int} : byI a b = 0 ↔ a = b := by
  unfold byI
  split
  · omega
  · split <;> omega
mutual
def E.ord : E → E → Int
  | .mk k i ks, e => if byI k e.kind = 0 then (if byI i e.id = 0 then (if byI ks.length e.kids.length = 0 then E.ordL ks e.kids else byI ks.length e.kids.length) else byI i e.id) else byI k e.kind
def E.ordL : List E → List E → Int
  | x :: xs, y :: ys => if E.ord x y = 0 then E.ordL xs ys else E.ord x y
  | _, _ => 0
end
theorem E.ord_eq (a b : E) : a.ord b = if byI a.kind b.kind = 0 then (if byI a.id b.id = 0 then (if byI a.kids.length b.kids.length = 0 then E.ordL a.kids b.kids else byI a.kids.length b.kids.length) else byI a.id b.id) else byI a.kind b.kind := by
  cases a
  rw [E.ord]
  rfl
theorem E.ordL_cons (x y : E) (xs ys : List E) : E.ordL (x :: xs) (y :: ys) = if x.ord y = 0 then E.ordL xs ys else x.ord y := by rw [E.ordL]
theorem E.ordL_nil (l : List E) : E.ordL [] l = 0 := by
  unfold E.ordL
  rfl
mutual
theorem E.ord_zero : ∀ a b : E, a.ord b = 0 ↔ a = b
  | .mk k i ks, b => by
    have hL := E.ordL_zero ks b.kids
    rw [E.ord]
    constructor
    · intro h
      split at h
      · rename_i h1
        split at h
        · rename_i h2
          split at h
          · rename_i h3
            have h1 := byI_zero.1 h1
            have h2 := byI_zero.1 h2
            have h3 := byI_zero.1 h3
            have h4 := (hL (by omega)).1 h
            cases b
            simp only [E.kind, E.id, E.kids] at h1 h2 h4
            rw [h1, h2, h4]
          · exact absurd h (by assumption)
        · exact absurd h (by assumption)
      · exact absurd h (by assumption)
    · intro h
      subst h
      rw [if_pos (show byI k (E.mk k i ks).kind = 0 from byI_zero.2 rfl), if_pos (show byI i (E.mk k i ks).id = 0 from byI_zero.2 rfl), if_pos (show byI ks.length (E.mk k i ks).kids.length = 0 from byI_zero.2 rfl)]
      exact (E.ordL_zero ks ks rfl).2 rfl
theorem E.ordL_zero : ∀ l m : List E, l.length = m.length → (E.ordL l m = 0 ↔ l = m)
  | [], [], _ => by simp [E.ordL]
  | [], y :: m, h => by simp at h
  | x :: l, [], h => by simp at h
  | x :: l, y :: m, h => by
    have h1 := E.ord_zero x y
    have h2 := E.ordL_zero l m (by simpa using h)
    rw [E.ordL_cons]
    constructor
    · intro hh
      split at hh
      · rename_i h3
        rw [h1.1 h3, h2.1 hh]
      · exact absurd hh (by assumption)
    · intro hh
      cases hh
      rw [if_pos (h1.2 rfl)]
      exact h2.2 rfl
end
theorem by_call (a b : Int) : CallAt Tryz.prog w0 k 64 [.int .i64 a, .int .i64 b] H H (.int .i64 (byI a b)) := by
  refine callAt tabOk Spec.no_ok mixed Tryz.func64 rfl rfl Tryz.results64 Tryz.ntmps64 (by simp) [] ?_
  intro hfr t hl ht
  simp only [At, Nat.reduceAdd, List.cons_append, List.nil_append] at ht
  simp (config := {contextual := true, maxSteps := 5000000}) only [go_sem, false_and, Nat.reduceAdd, Nat.reduceLT, Nat.reduceBEq, Nat.reduceSub, Nat.reduceMul, Nat.reduceLeDiff, Int.reduceToNat, Nat.reduceEqDiff, Nat.reduceMod, ht, hl]
  unfold byI
  (repeat' (first | (with_reducible apply And.intro) | (with_reducible intro _))) <;> simp_all <;> omega
def specOr (N : Nat) : Spec := (Spec.no.add 64 (sp2 dI dI (fun _ _ => True) fun a b => .int .i64 (byI a b))).add 34 (sp2 dE dE (fun a _ => a.ok ∧ a.sz < N) fun a b => .int .i64 (a.ord b))
/-- What holds at the head of the loop over the kids. -/
def ordI (a b : E) (R : Int) (H : Hp) (j : Nat) (x : FS) : Prop := ∃ (i : Nat) (c : Int), x.tmps.length = 58 ∧ x.tmps.getD 2 AV.undef = .sptr [.int .i64 a.kind, .int .i64 a.id, .list .none (a.kids.map E.cells)] ∧ x.tmps.getD 3 AV.undef = .sptr [.int .i64 b.kind, .int .i64 b.id, .list .none (b.kids.map E.cells)] ∧ x.tmps.getD 5 AV.undef = .int .i64 c ∧ x.tmps.getD 6 AV.undef = .int .i64 i ∧ x.H = H ∧ i + j = a.kids.length ∧
  (c = 0 → a.kids.length = b.kids.length ∧ R = E.ordL (a.kids.drop i) (b.kids.drop i)) ∧ (c ≠ 0 → R = c)
theorem order_step (N : Nat) (hS : SpecOk Tryz.prog w0 (specOr N)) (a b : E) (hok : a.ok) (hN : a.sz < N + 1) : CallAt Tryz.prog w0 k 34 [a.av, b.av] H H (.int .i64 (a.ord b)) := by
  refine callAt tabOk hS mixed Tryz.func34 rfl rfl Tryz.results34 Tryz.ntmps34 (by simp) [] ?_
  intro hfr t hl ht
  simp only [At, Nat.reduceAdd, List.cons_append, List.nil_append] at ht
  have hlk := E.ok_len hok
  obtain ⟨R, hR⟩ : ∃ R, R = a.ord b := ⟨_, rfl⟩
  rw [← hR]
  rw [E.ord_eq] at hR
  have e00 : ((0 : Int) == 0) = true := rfl
  by_cases h1 : byI a.kind b.kind = 0
  · rw [if_pos h1] at hR
    by_cases h2 : byI a.id b.id = 0
    · rw [if_pos h2] at hR
      by_cases h3 : byI a.kids.length b.kids.length = 0
      · rw [if_pos h3] at hR
        simp (config := {contextual := true, maxSteps := 5000000}) only [go_sem, false_and, Nat.reduceAdd, Nat.reduceLT, Nat.reduceBEq, Nat.reduceSub, Nat.reduceMul, Nat.reduceLeDiff, Int.reduceToNat, Nat.reduceEqDiff, Nat.reduceMod, ht, hl, specOr, h1, h2, h3, e00]
        refine loop_inv tabOk hS mixed [] (ordI a b R H) a.kids.length ⟨0, 0, ?_⟩ ?_
        · simp (config := {contextual := true, maxSteps := 5000000}) only [go_sem, false_and, Nat.reduceAdd, Nat.reduceLT, Nat.reduceBEq, Nat.reduceSub, Nat.reduceMul, Nat.reduceLeDiff, Int.reduceToNat, Nat.reduceEqDiff, Nat.reduceMod, ht, hl]
          exact ⟨rfl, by omega, ⟨(by have := byI_zero.1 h3; omega), hR⟩, fun h => absurd rfl h⟩
        · rintro j ⟨t, n, H2⟩ ⟨i, c, hl, h2', h3', h5, h6, rfl, hij, hz, hnz⟩
          simp only at hl h2' h3' h5 h6
          by_cases hc : c = 0
          · obtain ⟨hlen, hRR⟩ := hz hc
            subst hc
            by_cases hi : i < a.kids.length
            · have hd : decide ((i : Int) < (a.kids.length : Int)) = true := by simp [hi]
              have hw : IntKind.i64.wrap ((i : Int) + 1) = ((i + 1 : Nat) : Int) := by rw [wrap_i64] <;> omega
              have hd2 : decide ((i : Int) < (b.kids.length : Int)) = true := by simp; omega
              obtain ⟨x, hx, hxe⟩ := a.kid hi
              obtain ⟨y, hy, hye⟩ := b.kid (show i < b.kids.length by omega)
              have hxN := E.kid_sz hx
              have hxo := E.ok_kid hok hx
              have hdx : a.kids.drop i = x :: a.kids.drop (i + 1) := by
                obtain ⟨q1, q2⟩ := List.getElem?_eq_some_iff.1 hx
                rw [List.drop_eq_getElem_cons q1, q2]
              have hdy : b.kids.drop i = y :: b.kids.drop (i + 1) := by
                obtain ⟨q1, q2⟩ := List.getElem?_eq_some_iff.1 hy
                rw [List.drop_eq_getElem_cons q1, q2]
              rw [hdx, hdy, E.ordL_cons] at hRR
              simp (config := {contextual := true, maxSteps := 5000000}) only [go_sem, false_and, Nat.reduceAdd, Nat.reduceLT, Nat.reduceBEq, Nat.reduceSub, Nat.reduceMul, Nat.reduceLeDiff, Int.reduceToNat, Nat.reduceEqDiff, Nat.reduceMod, h2', h3', h5, h6, hl, hd, hd2, hxe, hye, hw, specOr, toE_at, e00]
              refine ⟨by kernel_rfl, ⟨by omega, by omega⟩, ⟨by omega, by omega⟩, ⟨hxo, by omega⟩, List.Pairwise.nil, j - 1, by omega, i + 1, x.ord y, ?_⟩
              simp (config := {contextual := true, maxSteps := 5000000}) only [go_sem, false_and, Nat.reduceAdd, Nat.reduceLT, Nat.reduceBEq, Nat.reduceSub, Nat.reduceMul, Nat.reduceLeDiff, Int.reduceToNat, Nat.reduceEqDiff, Nat.reduceMod, h2', h3', h5, h6, hl]
              exact ⟨by omega, fun h => ⟨hlen, by rw [if_pos h] at hRR; exact hRR⟩, fun h => by rw [if_neg h] at hRR; exact hRR⟩
            · have hd : decide ((i : Int) < (a.kids.length : Int)) = false := by simp; omega
              simp (config := {contextual := true, maxSteps := 5000000}) only [go_sem, false_and, Nat.reduceAdd, Nat.reduceLT, Nat.reduceBEq, Nat.reduceSub, Nat.reduceMul, Nat.reduceLeDiff, Int.reduceToNat, Nat.reduceEqDiff, Nat.reduceMod, h2', h3', h5, h6, hl, hd, e00]
              rw [hRR, List.drop_of_length_le (by omega), E.ordL_nil]
          · have hcb : (c == 0) = false := by simpa using hc
            simp (config := {contextual := true, maxSteps := 5000000}) only [go_sem, false_and, Nat.reduceAdd, Nat.reduceLT, Nat.reduceBEq, Nat.reduceSub, Nat.reduceMul, Nat.reduceLeDiff, Int.reduceToNat, Nat.reduceEqDiff, Nat.reduceMod, h2', h3', h5, h6, hl, hcb]
            exact (hnz hc).symm
      · have h3b : (byI a.kids.length b.kids.length == 0) = false := by simpa using h3
        rw [if_neg h3] at hR
        simp (config := {contextual := true, maxSteps := 5000000}) only [go_sem, false_and, Nat.reduceAdd, Nat.reduceLT, Nat.reduceBEq, Nat.reduceSub, Nat.reduceMul, Nat.reduceLeDiff, Int.reduceToNat, Nat.reduceEqDiff, Nat.reduceMod, ht, hl, specOr, h1, h2, h3b, e00]
        refine loop_inv tabOk hS mixed [] (ordI a b R H) a.kids.length ⟨0, byI a.kids.length b.kids.length, ?_⟩ ?_
        · simp (config := {contextual := true, maxSteps := 5000000}) only [go_sem, false_and, Nat.reduceAdd, Nat.reduceLT, Nat.reduceBEq, Nat.reduceSub, Nat.reduceMul, Nat.reduceLeDiff, Int.reduceToNat, Nat.reduceEqDiff, Nat.reduceMod, ht, hl]
          exact ⟨rfl, by omega, fun h => absurd h h3, fun _ => hR⟩
        · rintro j ⟨t, n, H2⟩ ⟨i, c, hl, h2', h3', h5, h6, rfl, hij, hz, hnz⟩
          simp only at hl h2' h3' h5 h6
          by_cases hc : c = 0
          · obtain ⟨hlen, hRR⟩ := hz hc
            subst hc
            by_cases hi : i < a.kids.length
            · have hd : decide ((i : Int) < (a.kids.length : Int)) = true := by simp [hi]
              have hw : IntKind.i64.wrap ((i : Int) + 1) = ((i + 1 : Nat) : Int) := by rw [wrap_i64] <;> omega
              have hd2 : decide ((i : Int) < (b.kids.length : Int)) = true := by simp; omega
              obtain ⟨x, hx, hxe⟩ := a.kid hi
              obtain ⟨y, hy, hye⟩ := b.kid (show i < b.kids.length by omega)
              have hxN := E.kid_sz hx
              have hxo := E.ok_kid hok hx
              have hdx : a.kids.drop i = x :: a.kids.drop (i + 1) := by
                obtain ⟨q1, q2⟩ := List.getElem?_eq_some_iff.1 hx
                rw [List.drop_eq_getElem_cons q1, q2]
              have hdy : b.kids.drop i = y :: b.kids.drop (i + 1) := by
                obtain ⟨q1, q2⟩ := List.getElem?_eq_some_iff.1 hy
                rw [List.drop_eq_getElem_cons q1, q2]
              rw [hdx, hdy, E.ordL_cons] at hRR
              simp (config := {contextual := true, maxSteps := 5000000}) only [go_sem, false_and, Nat.reduceAdd, Nat.reduceLT, Nat.reduceBEq, Nat.reduceSub, Nat.reduceMul, Nat.reduceLeDiff, Int.reduceToNat, Nat.reduceEqDiff, Nat.reduceMod, h2', h3', h5, h6, hl, hd, hd2, hxe, hye, hw, specOr, toE_at, e00]
              refine ⟨by kernel_rfl, ⟨by omega, by omega⟩, ⟨by omega, by omega⟩, ⟨hxo, by omega⟩, List.Pairwise.nil, j - 1, by omega, i + 1, x.ord y, ?_⟩
              simp (config := {contextual := true, maxSteps := 5000000}) only [go_sem, false_and, Nat.reduceAdd, Nat.reduceLT, Nat.reduceBEq, Nat.reduceSub, Nat.reduceMul, Nat.reduceLeDiff, Int.reduceToNat, Nat.reduceEqDiff, Nat.reduceMod, h2', h3', h5, h6, hl]
              exact ⟨by omega, fun h => ⟨hlen, by rw [if_pos h] at hRR; exact hRR⟩, fun h => by rw [if_neg h] at hRR; exact hRR⟩
            · have hd : decide ((i : Int) < (a.kids.length : Int)) = false := by simp; omega
              simp (config := {contextual := true, maxSteps := 5000000}) only [go_sem, false_and, Nat.reduceAdd, Nat.reduceLT, Nat.reduceBEq, Nat.reduceSub, Nat.reduceMul, Nat.reduceLeDiff, Int.reduceToNat, Nat.reduceEqDiff, Nat.reduceMod, h2', h3', h5, h6, hl, hd, e00]
              rw [hRR, List.drop_of_length_le (by omega), E.ordL_nil]
          · have hcb : (c == 0) = false := by simpa using hc
            simp (config := {contextual := true, maxSteps := 5000000}) only [go_sem, false_and, Nat.reduceAdd, Nat.reduceLT, Nat.reduceBEq, Nat.reduceSub, Nat.reduceMul, Nat.reduceLeDiff, Int.reduceToNat, Nat.reduceEqDiff, Nat.reduceMod, h2', h3', h5, h6, hl, hcb]
            exact (hnz hc).symm
    · have h2b : (byI a.id b.id == 0) = false := by simpa using h2
      rw [if_neg h2] at hR
      simp (config := {contextual := true, maxSteps := 5000000}) only [go_sem, false_and, Nat.reduceAdd, Nat.reduceLT, Nat.reduceBEq, Nat.reduceSub, Nat.reduceMul, Nat.reduceLeDiff, Int.reduceToNat, Nat.reduceEqDiff, Nat.reduceMod, ht, hl, specOr, h1, h2b, e00]
      refine loop_inv tabOk hS mixed [] (ordI a b R H) a.kids.length ⟨0, byI a.id b.id, ?_⟩ ?_
      · simp (config := {contextual := true, maxSteps := 5000000}) only [go_sem, false_and, Nat.reduceAdd, Nat.reduceLT, Nat.reduceBEq, Nat.reduceSub, Nat.reduceMul, Nat.reduceLeDiff, Int.reduceToNat, Nat.reduceEqDiff, Nat.reduceMod, ht, hl, ordI]
        exact ⟨rfl, by omega, fun h => absurd h h2, fun _ => hR⟩
      · rintro j ⟨t, n, H2⟩ ⟨i, c, hl, h2', h3', h5, h6, rfl, hij, hz, hnz⟩
        simp only at hl h2' h3' h5 h6
        by_cases hc : c = 0
        · obtain ⟨hlen, hRR⟩ := hz hc
          subst hc
          by_cases hi : i < a.kids.length
          · have hd : decide ((i : Int) < (a.kids.length : Int)) = true := by simp [hi]
            have hw : IntKind.i64.wrap ((i : Int) + 1) = ((i + 1 : Nat) : Int) := by rw [wrap_i64] <;> omega
            have hd2 : decide ((i : Int) < (b.kids.length : Int)) = true := by simp; omega
            obtain ⟨x, hx, hxe⟩ := a.kid hi
            obtain ⟨y, hy, hye⟩ := b.kid (show i < b.kids.length by omega)
            have hxN := E.kid_sz hx
            have hxo := E.ok_kid hok hx
            have hdx : a.kids.drop i = x :: a.kids.drop (i + 1) := by
              obtain ⟨q1, q2⟩ := List.getElem?_eq_some_iff.1 hx
              rw [List.drop_eq_getElem_cons q1, q2]
            have hdy : b.kids.drop i = y :: b.kids.drop (i + 1) := by
              obtain ⟨q1, q2⟩ := List.getElem?_eq_some_iff.1 hy
              rw [List.drop_eq_getElem_cons q1, q2]
            rw [hdx, hdy, E.ordL_cons] at hRR
            simp (config := {contextual := true, maxSteps := 5000000}) only [go_sem, false_and, Nat.reduceAdd, Nat.reduceLT, Nat.reduceBEq, Nat.reduceSub, Nat.reduceMul, Nat.reduceLeDiff, Int.reduceToNat, Nat.reduceEqDiff, Nat.reduceMod, h2', h3', h5, h6, hl, hd, hd2, hxe, hye, hw, specOr, toE_at, e00]
            refine ⟨by kernel_rfl, ⟨by omega, by omega⟩, ⟨by omega, by omega⟩, ⟨hxo, by omega⟩, List.Pairwise.nil, j - 1, by omega, i + 1, x.ord y, ?_⟩
            simp (config := {contextual := true, maxSteps := 5000000}) only [go_sem, false_and, Nat.reduceAdd, Nat.reduceLT, Nat.reduceBEq, Nat.reduceSub, Nat.reduceMul, Nat.reduceLeDiff, Int.reduceToNat, Nat.reduceEqDiff, Nat.reduceMod, h2', h3', h5, h6, hl]
            exact ⟨by omega, fun h => ⟨hlen, by rw [if_pos h] at hRR; exact hRR⟩, fun h => by rw [if_neg h] at hRR; exact hRR⟩
          · have hd : decide ((i : Int) < (a.kids.length : Int)) = false := by simp; omega
            simp (config := {contextual := true, maxSteps := 5000000}) only [go_sem, false_and, Nat.reduceAdd, Nat.reduceLT, Nat.reduceBEq, Nat.reduceSub, Nat.reduceMul, Nat.reduceLeDiff, Int.reduceToNat, Nat.reduceEqDiff, Nat.reduceMod, h2', h3', h5, h6, hl, hd, e00]
            rw [hRR, List.drop_of_length_le (by omega), E.ordL_nil]
        · have hcb : (c == 0) = false := by simpa using hc
          simp (config := {contextual := true, maxSteps := 5000000}) only [go_sem, false_and, Nat.reduceAdd, Nat.reduceLT, Nat.reduceBEq, Nat.reduceSub, Nat.reduceMul, Nat.reduceLeDiff, Int.reduceToNat, Nat.reduceEqDiff, Nat.reduceMod, h2', h3', h5, h6, hl, hcb]
          exact (hnz hc).symm
  · have h1b : (byI a.kind b.kind == 0) = false := by simpa using h1
    rw [if_neg h1] at hR
    simp (config := {contextual := true, maxSteps := 5000000}) only [go_sem, false_and, Nat.reduceAdd, Nat.reduceLT, Nat.reduceBEq, Nat.reduceSub, Nat.reduceMul, Nat.reduceLeDiff, Int.reduceToNat, Nat.reduceEqDiff, Nat.reduceMod, ht, hl, specOr, h1b, e00]
    refine loop_inv tabOk hS mixed [] (ordI a b R H) a.kids.length ⟨0, byI a.kind b.kind, ?_⟩ ?_
    · simp (config := {contextual := true, maxSteps := 5000000}) only [go_sem, false_and, Nat.reduceAdd, Nat.reduceLT, Nat.reduceBEq, Nat.reduceSub, Nat.reduceMul, Nat.reduceLeDiff, Int.reduceToNat, Nat.reduceEqDiff, Nat.reduceMod, ht, hl]
      exact ⟨rfl, by omega, fun h => absurd h h1, fun _ => hR⟩
    · rintro j ⟨t, n, H2⟩ ⟨i, c, hl, h2', h3', h5, h6, rfl, hij, hz, hnz⟩
      simp only at hl h2' h3' h5 h6
      by_cases hc : c = 0
      · obtain ⟨hlen, hRR⟩ := hz hc
        subst hc
        by_cases hi : i < a.kids.length
        · have hd : decide ((i : Int) < (a.kids.length : Int)) = true := by simp [hi]
          have hw : IntKind.i64.wrap ((i : Int) + 1) = ((i + 1 : Nat) : Int) := by rw [wrap_i64] <;> omega
          have hd2 : decide ((i : Int) < (b.kids.length : Int)) = true := by simp; omega
          obtain ⟨x, hx, hxe⟩ := a.kid hi
          obtain ⟨y, hy, hye⟩ := b.kid (show i < b.kids.length by omega)
          have hxN := E.kid_sz hx
          have hxo := E.ok_kid hok hx
          have hdx : a.kids.drop i = x :: a.kids.drop (i + 1) := by
            obtain ⟨q1, q2⟩ := List.getElem?_eq_some_iff.1 hx
            rw [List.drop_eq_getElem_cons q1, q2]
          have hdy : b.kids.drop i = y :: b.kids.drop (i + 1) := by
            obtain ⟨q1, q2⟩ := List.getElem?_eq_some_iff.1 hy
            rw [List.drop_eq_getElem_cons q1, q2]
          rw [hdx, hdy, E.ordL_cons] at hRR
          simp (config := {contextual := true, maxSteps := 5000000}) only [go_sem, false_and, Nat.reduceAdd, Nat.reduceLT, Nat.reduceBEq, Nat.reduceSub, Nat.reduceMul, Nat.reduceLeDiff, Int.reduceToNat, Nat.reduceEqDiff, Nat.reduceMod, h2', h3', h5, h6, hl, hd, hd2, hxe, hye, hw, specOr, toE_at, e00]
          refine ⟨by kernel_rfl, ⟨by omega, by omega⟩, ⟨by omega, by omega⟩, ⟨hxo, by omega⟩, List.Pairwise.nil, j - 1, by omega, i + 1, x.ord y, ?_⟩
          simp (config := {contextual := true, maxSteps := 5000000}) only [go_sem, false_and, Nat.reduceAdd, Nat.reduceLT, Nat.reduceBEq, Nat.reduceSub, Nat.reduceMul, Nat.reduceLeDiff, Int.reduceToNat, Nat.reduceEqDiff, Nat.reduceMod, h2', h3', h5, h6, hl]
          exact ⟨by omega, fun h => ⟨hlen, by rw [if_pos h] at hRR; exact hRR⟩, fun h => by rw [if_neg h] at hRR; exact hRR⟩
        · have hd : decide ((i : Int) < (a.kids.length : Int)) = false := by simp; omega
          simp (config := {contextual := true, maxSteps := 5000000}) only [go_sem, false_and, Nat.reduceAdd, Nat.reduceLT, Nat.reduceBEq, Nat.reduceSub, Nat.reduceMul, Nat.reduceLeDiff, Int.reduceToNat, Nat.reduceEqDiff, Nat.reduceMod, h2', h3', h5, h6, hl, hd, e00]
          rw [hRR, List.drop_of_length_le (by omega), E.ordL_nil]
      · have hcb : (c == 0) = false := by simpa using hc
        simp (config := {contextual := true, maxSteps := 5000000}) only [go_sem, false_and, Nat.reduceAdd, Nat.reduceLT, Nat.reduceBEq, Nat.reduceSub, Nat.reduceMul, Nat.reduceLeDiff, Int.reduceToNat, Nat.reduceEqDiff, Nat.reduceMod, h2', h3', h5, h6, hl, hcb]
        exact (hnz hc).symm
theorem specOr_ok : ∀ N, SpecOk Tryz.prog w0 (specOr N)
  | 0 => (Spec.no_ok.add (sp2_ok fun a b _ k H => by_call a b)).add (sp2_ok fun a b h => by omega)
  | N + 1 => (Spec.no_ok.add (sp2_ok fun a b _ k H => by_call a b)).add (sp2_ok fun a b h k H => order_step N (specOr_ok N) a b h.1 h.2)
theorem order_call (a b : E) (hok : a.ok) : CallAt Tryz.prog w0 k 34 [a.av, b.av] H H (.int .i64 (a.ord b)) := order_step a.sz (specOr_ok _) a b hok (Nat.lt_succ_self _)
def specLi : Spec := Spec.no.add 34 (sp2 dE dE (fun a _ => a.ok) fun a b => .int .i64 (a.ord b))
theorem specLi_ok : SpecOk Tryz.prog w0 specLi := Spec.no_ok.add (sp2_ok fun a b h k H => order_call a b h)
def E.like (a b : E) : Bool := a.ord b == 0
theorem E.like_iff {a b : E} : a.like b = true ↔ a = b := by
  unfold E.like
  rw [beq_iff_eq]
  exact E.ord_zero a b
theorem like02_call (a b : E) (hok : a.ok) : CallAt Tryz.prog w0 k 14 [a.av, b.av] H H (.bool (a.like b)) := by
  refine callAt tabOk specLi_ok mixed Tryz.func14 rfl rfl Tryz.results14 Tryz.ntmps14 (by simp) [] ?_
  intro hfr t hl ht
  simp only [At, Nat.reduceAdd, List.cons_append, List.nil_append] at ht
  simp (config := {contextual := true, maxSteps := 5000000}) only [go_sem, false_and, Nat.reduceAdd, Nat.reduceLT, Nat.reduceBEq, Nat.reduceSub, Nat.reduceMul, Nat.reduceLeDiff, Int.reduceToNat, Nat.reduceEqDiff, Nat.reduceMod, ht, hl, specLi, toE_at]
  exact ⟨hok, rfl⟩
def likeN : List ByteArray → List ByteArray → Bool
  | [], [] => true
  | a :: l, b :: m => (a.toList == b.toList) && likeN l m
  | _, _ => false
theorem eqS_iff {a b : ByteArray} : (a.toList == b.toList) = true ↔ a = b := by
  rw [beq_iff_eq, Lib.toList_data, Lib.toList_data]
  exact ⟨fun h => ByteArray.ext (Array.ext' h), fun h => by rw [h]⟩
theorem likeN_iff : ∀ {l m : List ByteArray}, likeN l m = true ↔ l = m
  | [], [] => by simp [likeN]
  | [], b :: m => by simp [likeN]
  | a :: l, [] => by simp [likeN]
  | a :: l, b :: m => by
    rw [likeN, Bool.and_eq_true, eqS_iff, likeN_iff]
    constructor
    · rintro ⟨rfl, rfl⟩; rfl
    · intro h; cases h; exact ⟨rfl, rfl⟩
theorem likeN_len {l m : List ByteArray} (h : l.length ≠ m.length) : likeN l m = false := by
  rw [← Bool.not_eq_true, likeN_iff]
  intro hh
  rw [hh] at h
  exact h rfl
theorem likeNames_call (l m : List ByteArray) (hn : (l.length : Int) ≤ 9223372036854775807) : CallAt Tryz.prog w0 k 15 [(dL cS).enc l, (dL cS).enc m] H H (.bool (likeN l m)) := by
  refine callAt tabOk Spec.no_ok mixed Tryz.func15 rfl rfl Tryz.results15 Tryz.ntmps15 (by simp) [] ?_
  intro hfr t hl ht
  simp only [At, dL, Nat.reduceAdd] at ht
  simp (config := {contextual := true, maxSteps := 5000000}) only [go_sem, false_and, Nat.reduceAdd, Nat.reduceLT, Nat.reduceBEq, Nat.reduceSub, Nat.reduceMul, Nat.reduceLeDiff, Int.reduceToNat, Nat.reduceEqDiff, Nat.reduceMod, ht, hl]
  refine ⟨fun a => ?_, fun a => ?_⟩
  · simp only [bne_iff_ne, ne_eq] at a
    exact (likeN_len (by omega)).symm
  · simp only [bne_eq_false_iff_eq] at a
    refine loop_inv tabOk Spec.no_ok mixed [] (fun j x => ∃ i : Nat, x.tmps.length = 26 ∧ x.tmps.getD 0 AV.undef = .list .none (l.map cS.enc) ∧ x.tmps.getD 1 AV.undef = .list .none (m.map cS.enc) ∧ x.tmps.getD 12 AV.undef = .int .i64 l.length ∧ x.tmps.getD 13 AV.undef = .int .i64 i ∧ x.H = H ∧ i + j = l.length ∧ likeN (l.drop i) (m.drop i) = likeN l m) l.length ⟨0, ?_⟩ ?_
    · simp (config := {contextual := true, maxSteps := 5000000}) only [go_sem, false_and, Nat.reduceAdd, Nat.reduceLT, Nat.reduceBEq, Nat.reduceSub, Nat.reduceMul, Nat.reduceLeDiff, Int.reduceToNat, Nat.reduceEqDiff, Nat.reduceMod, ht, hl]
      exact ⟨rfl, by omega⟩
    · rintro j ⟨t, n, H2⟩ ⟨i, hl, h0, h1, h12, h13, rfl, hij, hgo⟩
      simp only at hl h0 h1 h12 h13
      by_cases hi : i < l.length
      · have hd : decide ((i : Int) < (l.length : Int)) = true := by simp [hi]
        have hw : IntKind.i64.wrap ((i : Int) + 1) = ((i + 1 : Nat) : Int) := by rw [wrap_i64] <;> omega
        obtain ⟨x, hx, hxe⟩ := str_get l hi
        obtain ⟨y, hy, hye⟩ := str_get m (show i < m.length by omega)
        have hdx : l.drop i = x :: l.drop (i + 1) := by
          obtain ⟨q1, q2⟩ := List.getElem?_eq_some_iff.1 hx
          rw [List.drop_eq_getElem_cons q1, q2]
        have hdy : m.drop i = y :: m.drop (i + 1) := by
          obtain ⟨q1, q2⟩ := List.getElem?_eq_some_iff.1 hy
          rw [List.drop_eq_getElem_cons q1, q2]
        rw [hdx, hdy, likeN] at hgo
        simp (config := {contextual := true, maxSteps := 5000000}) only [go_sem, false_and, Nat.reduceAdd, Nat.reduceLT, Nat.reduceBEq, Nat.reduceSub, Nat.reduceMul, Nat.reduceLeDiff, Int.reduceToNat, Nat.reduceEqDiff, Nat.reduceMod, h0, h1, h12, h13, hl, hd, hxe, hye, hw]
        refine ⟨by kernel_rfl, ⟨by omega, by omega⟩, ⟨by omega, by omega⟩, List.Pairwise.nil, fun e => ?_, fun e => ⟨j - 1, by omega, i + 1, rfl, by omega, ?_⟩⟩
        · simp only [Bool.not_eq_true'] at e
          rw [← hgo, e, Bool.false_and]
        · simp only [Bool.not_eq_false'] at e
          rw [← hgo, e, Bool.true_and]
      · have hd : decide ((i : Int) < (l.length : Int)) = false := by simp; omega
        simp (config := {contextual := true, maxSteps := 5000000}) only [go_sem, false_and, Nat.reduceAdd, Nat.reduceLT, Nat.reduceBEq, Nat.reduceSub, Nat.reduceMul, Nat.reduceLeDiff, Int.reduceToNat, Nat.reduceEqDiff, Nat.reduceMod, h0, h1, h12, h13, hl, hd]
        rw [← hgo, List.drop_of_length_le (by omega), List.drop_of_length_le (by omega)]
        rfl
def Step.like (a b : Step) : Bool := a.by_ == b.by_ && (a.a == b.a && (a.b == b.b && ((a.cite.toList == b.cite.toList) && a.says.like b.says)))
theorem Step.like_iff {a b : Step} : a.like b = true ↔ a = b := by
  unfold Step.like
  simp only [Bool.and_eq_true, eqS_iff, E.like_iff, beq_iff_eq]
  constructor
  · rintro ⟨h1, h2, h3, h4, h5⟩
    obtain ⟨a1, a2, a3, a4, a5⟩ := a
    obtain ⟨b1, b2, b3, b4, b5⟩ := b
    simp only at h1 h2 h3 h4 h5
    have h4 : a5 = b5 := eqS_iff.1 (by rw [h4]; simp)
    subst h1 h2 h3 h4 h5
    rfl
  · rintro rfl
    exact ⟨rfl, rfl, rfl, rfl, rfl⟩
def likeP : List Step → List Step → Bool
  | [], [] => true
  | a :: l, b :: m => a.like b && likeP l m
  | _, _ => false
theorem likeP_iff : ∀ {l m : List Step}, likeP l m = true ↔ l = m
  | [], [] => by simp [likeP]
  | [], b :: m => by simp [likeP]
  | a :: l, [] => by simp [likeP]
  | a :: l, b :: m => by
    rw [likeP, Bool.and_eq_true, Step.like_iff, likeP_iff]
    constructor
    · rintro ⟨rfl, rfl⟩; rfl
    · intro h; cases h; exact ⟨rfl, rfl⟩
theorem likeP_len {l m : List Step} (h : l.length ≠ m.length) : likeP l m = false := by
  rw [← Bool.not_eq_true, likeP_iff]
  intro hh
  rw [hh] at h
  exact h rfl
def specLs : Spec := Spec.no.add 14 (sp2 dE dE (fun a _ => a.ok) fun a b => .bool (a.like b))
theorem specLs_ok : SpecOk Tryz.prog w0 specLs := Spec.no_ok.add (sp2_ok fun a b h k H => like02_call a b h)
theorem likeSteps_call (l m : List Step) (hn : (l.length : Int) ≤ 9223372036854775807) (hok : ∀ s ∈ l, s.says.ok) : CallAt Tryz.prog w0 k 30 [(dL cStep).enc l, (dL cStep).enc m] H H (.bool (likeP l m)) := by
  refine callAt tabOk specLs_ok mixed Tryz.func30 rfl rfl Tryz.results30 Tryz.ntmps30 (by simp) [] ?_
  intro hfr t hl ht
  simp only [At, dL, Nat.reduceAdd] at ht
  simp (config := {contextual := true, maxSteps := 5000000}) only [go_sem, false_and, Nat.reduceAdd, Nat.reduceLT, Nat.reduceBEq, Nat.reduceSub, Nat.reduceMul, Nat.reduceLeDiff, Int.reduceToNat, Nat.reduceEqDiff, Nat.reduceMod, ht, hl]
  refine ⟨fun a => ?_, fun a => ?_⟩
  · simp only [bne_iff_ne, ne_eq] at a
    exact (likeP_len (by omega)).symm
  · simp only [bne_eq_false_iff_eq] at a
    refine loop_inv tabOk specLs_ok mixed [] (fun j x => ∃ i : Nat, x.tmps.length = 81 ∧ x.tmps.getD 0 AV.undef = .list .none (l.map cStep.enc) ∧ x.tmps.getD 1 AV.undef = .list .none (m.map cStep.enc) ∧ x.tmps.getD 12 AV.undef = .int .i64 l.length ∧ x.tmps.getD 13 AV.undef = .int .i64 i ∧ x.H = H ∧ i + j = l.length ∧ likeP (l.drop i) (m.drop i) = likeP l m) l.length ⟨0, ?_⟩ ?_
    · simp (config := {contextual := true, maxSteps := 5000000}) only [go_sem, false_and, Nat.reduceAdd, Nat.reduceLT, Nat.reduceBEq, Nat.reduceSub, Nat.reduceMul, Nat.reduceLeDiff, Int.reduceToNat, Nat.reduceEqDiff, Nat.reduceMod, ht, hl]
      exact ⟨rfl, by omega⟩
    · rintro j ⟨t, n, H2⟩ ⟨i, hl, h0, h1, h12, h13, rfl, hij, hgo⟩
      simp only at hl h0 h1 h12 h13
      by_cases hi : i < l.length
      · have hd : decide ((i : Int) < (l.length : Int)) = true := by simp [hi]
        have hw : IntKind.i64.wrap ((i : Int) + 1) = ((i + 1 : Nat) : Int) := by rw [wrap_i64] <;> omega
        obtain ⟨x, hx, hxe⟩ := step_get l hi
        obtain ⟨y, hy, hye⟩ := step_get m (show i < m.length by omega)
        have hxo := hok x (List.mem_of_getElem? hx)
        have hdx : l.drop i = x :: l.drop (i + 1) := by
          obtain ⟨q1, q2⟩ := List.getElem?_eq_some_iff.1 hx
          rw [List.drop_eq_getElem_cons q1, q2]
        have hdy : m.drop i = y :: m.drop (i + 1) := by
          obtain ⟨q1, q2⟩ := List.getElem?_eq_some_iff.1 hy
          rw [List.drop_eq_getElem_cons q1, q2]
        rw [hdx, hdy, likeP] at hgo
        have hno : Step.like x y = false → false = likeP l m := fun h => by rw [← hgo, h, Bool.false_and]
        have hyes : Step.like x y = true → likeP (l.drop (i + 1)) (m.drop (i + 1)) = likeP l m := fun h => by rw [← hgo, h, Bool.true_and]
        simp only [Step.cells] at hxe hye
        simp (config := {contextual := true, maxSteps := 5000000}) only [go_sem, false_and, Nat.reduceAdd, Nat.reduceLT, Nat.reduceBEq, Nat.reduceSub, Nat.reduceMul, Nat.reduceLeDiff, Int.reduceToNat, Nat.reduceEqDiff, Nat.reduceMod, h0, h1, h12, h13, hl, hd, hxe, hye, hw, specLs, toE_at, hxo]
        have n1 : (x.by_ != y.by_) = true → false = likeP l m := fun h => hno (by simp [Step.like, show (x.by_ == y.by_) = false by simpa using h])
        have n2 : (x.a != y.a) = true → false = likeP l m := fun h => hno (by simp [Step.like, show (x.a == y.a) = false by simpa using h])
        have n3 : (x.b != y.b) = true → false = likeP l m := fun h => hno (by simp [Step.like, show (x.b == y.b) = false by simpa using h])
        have n4 : (!x.cite.toList == y.cite.toList) = true → false = likeP l m := fun h => hno (by rw [Step.like, show (x.cite.toList == y.cite.toList) = false by simpa using h]; simp)
        have n5 : (!x.says.like y.says) = true → false = likeP l m := fun h => hno (by rw [Step.like, show x.says.like y.says = false by simpa using h]; simp)
        have yes : (x.by_ != y.by_) = false → (x.a != y.a) = false → (x.b != y.b) = false → (!x.cite.toList == y.cite.toList) = false → (!x.says.like y.says) = false → likeP (l.drop (i + 1)) (m.drop (i + 1)) = likeP l m := fun h1 h2 h3 h4 h5 => hyes (by
          rw [Step.like, show x.says.like y.says = true by simpa using h5, show (x.cite.toList == y.cite.toList) = true by simpa using h4, show (x.b == y.b) = true by simpa using h3, show (x.a == y.a) = true by simpa using h2, show (x.by_ == y.by_) = true by simpa using h1]
          rfl)
        have bi : (0 : Int) ≤ (i : Int) ∧ (i : Int) < (l.length : Int) := by omega
        have bj : (0 : Int) ≤ (i : Int) ∧ (i : Int) < (m.length : Int) := by omega
        exact ⟨by kernel_rfl, bi, bj, fun h1 => ⟨bi, bj, fun h2 => ⟨bi, bj, fun h3 => ⟨bi, bj, fun h4 => ⟨bi, bj, List.Pairwise.nil, n5, fun h5 => ⟨j - 1, by omega, i + 1, rfl, by omega, yes h1 h2 h3 h4 h5⟩⟩, fun h => ⟨List.Pairwise.nil, n4 h⟩⟩, fun h => ⟨List.Pairwise.nil, n3 h⟩⟩, fun h => ⟨List.Pairwise.nil, n2 h⟩⟩, fun h => ⟨List.Pairwise.nil, n1 h⟩⟩
      · have hd : decide ((i : Int) < (l.length : Int)) = false := by simp; omega
        simp (config := {contextual := true, maxSteps := 5000000}) only [go_sem, false_and, Nat.reduceAdd, Nat.reduceLT, Nat.reduceBEq, Nat.reduceSub, Nat.reduceMul, Nat.reduceLeDiff, Int.reduceToNat, Nat.reduceEqDiff, Nat.reduceMod, h0, h1, h12, h13, hl, hd]
        rw [← hgo, List.drop_of_length_le (by omega), List.drop_of_length_le (by omega)]
        rfl
def U.like (a b : U) : Bool := likeN a.cites b.cites && (a.states.like b.states && likeP a.steps b.steps)
theorem U.like_iff {a b : U} : a.like b = true ↔ a = b := by
  unfold U.like
  rw [Bool.and_eq_true, Bool.and_eq_true, likeN_iff, E.like_iff, likeP_iff]
  constructor
  · rintro ⟨h1, h2, h3⟩
    obtain ⟨a1, a2, a3⟩ := a
    obtain ⟨b1, b2, b3⟩ := b
    simp only at h1 h2 h3
    subst h1 h2 h3
    rfl
  · rintro rfl
    exact ⟨rfl, rfl, rfl⟩
def specLu : Spec := ((Spec.no.add 14 (sp2 dE dE (fun a _ => a.ok) fun a b => .bool (a.like b))).add 15 (sp2 (dL cS) (dL cS) (fun l _ => (l.length : Int) ≤ 9223372036854775807) fun l m => .bool (likeN l m))).add 30 (sp2 (dL cStep) (dL cStep) (fun l _ => (l.length : Int) ≤ 9223372036854775807 ∧ ∀ s ∈ l, s.says.ok) fun l m => .bool (likeP l m))
theorem specLu_ok : SpecOk Tryz.prog w0 specLu := ((Spec.no_ok.add (sp2_ok fun a b h k H => like02_call a b h)).add (sp2_ok fun l m h k H => likeNames_call l m h)).add (sp2_ok fun l m h k H => likeSteps_call l m h.1 h.2)
theorem like09_call (a b : U) (hok : a.ok) : CallAt Tryz.prog w0 k 10 [(dA cU).enc a, (dA cU).enc b] H H (.bool (a.like b)) := by
  refine callAt tabOk specLu_ok mixed Tryz.func10 rfl rfl Tryz.results10 Tryz.ntmps10 (by simp) [] ?_
  intro hfr t hl ht
  simp only [At, dA, cU, U.cells, Nat.reduceAdd] at ht
  obtain ⟨o1, o2, o3, o4⟩ := hok
  simp (config := {contextual := true, maxSteps := 5000000}) only [go_sem, false_and, Nat.reduceAdd, Nat.reduceLT, Nat.reduceBEq, Nat.reduceSub, Nat.reduceMul, Nat.reduceLeDiff, Int.reduceToNat, Nat.reduceEqDiff, Nat.reduceMod, ht, hl, specLu, toE_at]
  exact ⟨o1, fun x => ⟨o3, fun y => ⟨⟨o2, o4⟩, by rw [U.like, x, y]; rfl⟩, fun y => by rw [U.like, x, y]; rfl⟩, fun x => by rw [U.like, x]; rfl⟩
end Go.Proofs.YtkdendaohlnlcaaGreatDoor.Av

/- What the reference of layer 9 reads of a text: the walk. No condition. -/
namespace Go.Proofs.YtkdendaohlnlcaaGreatDoor.Av
set_option linter.unusedVariables false
set_option linter.unusedSimpArgs false
set_option maxRecDepth 4000
set_option maxHeartbeats 1000000
variable {w0 : Base} {k : List Nat} {H : Hp}
/-- A list that a loop's one append has made, round by round. -/
def LstK (H0 : Hp) (sz : Nat) (ty : TypeId) (j : Nat) (k : List Nat) (tk : Tok) (H : Hp) : Prop := H0.Le H ∧ (tk = .nil ∨ ∃ m, tk = .tok ⟨sz, j :: m :: k, ty⟩ ∧ H ⟨sz, j :: m :: k, ty⟩ = some .tok)
theorem LstK.live {H0 H : Hp} {sz : Nat} {ty : TypeId} {j : Nat} {tk : Tok} (h : LstK H0 sz ty j k tk H) : tokLive H sz ty tk := by
  rcases h.2 with rfl | ⟨m, rfl, hm⟩
  · trivial
  · exact ⟨hm, rfl, rfl⟩
theorem LstK.push {H0 H : Hp} {sz : Nat} {ty : TypeId} {j : Nat} {tk : Tok} (h : LstK H0 sz ty j k tk H) (hn : ∀ m, H0 ⟨sz, j :: m :: k, ty⟩ = none) {y : List AV} {ys : List (List AV)} (m : Nat) :
    LstK H0 sz ty j k (tokBy tk (y :: ys) ⟨sz, j :: m :: k, ty⟩) ((killTok H tk).upd ⟨sz, j :: m :: k, ty⟩ (some .tok)) := by
  have hkill : H0.Le (killTok H tk) := by
    rcases h.2 with rfl | ⟨m', rfl, hm⟩
    · exact h.1
    · exact Hp.le_upd h.1 (hn m')
  refine ⟨Hp.le_upd hkill (hn m), .inr ⟨m, ?_, Hp.upd_same _ _ _⟩⟩
  rcases h.2 with rfl | ⟨m', rfl, hm⟩ <;> rfl
theorem LstK.frame {H0 H : Hp} {sz : Nat} {ty : TypeId} {j : Nat} {tk : Tok} (h : LstK H0 sz ty j k tk H) {X : Id} {e : Option Ent} (hX : H0 X = none) (hne : ∀ m, X ≠ ⟨sz, j :: m :: k, ty⟩) : LstK H0 sz ty j k tk (H.upd X e) := by
  refine ⟨Hp.le_upd h.1 hX, h.2.imp id ?_⟩
  rintro ⟨m, rfl, hm⟩
  exact ⟨m, rfl, by rw [Hp.upd_ne _ _ (Ne.symm (hne m))]; exact hm⟩
theorem killTok_keeps {H : Hp} {tk : Tok} {id : Id} {c : List AV} (h : H id = some (.cells c)) (hL : tk = .nil ∨ ∃ i, tk = .tok i ∧ H i = some .tok) : killTok H tk id = some (.cells c) := by
  rcases hL with rfl | ⟨i, rfl, hi⟩
  · exact h
  · show H.upd i none id = _
    rw [Hp.upd_ne _ _ (fun e => by subst e; rw [h] at hi; cases hi)]
    exact h
theorem tokBy_cons {tk : Tok} {y : List AV} {ys : List (List AV)} {id : Id} : tokBy tk (y :: ys) id = .tok id := by cases tk <;> rfl
theorem unit_weak0 {e a : Int} : Weak (.tup [.agg [.list .nil [], .int .i64 0, .int .i64 0, .list .nil [], .list .nil []], .int .i64 e, .int .i64 a]) (PR.err e a).av :=
  WeakL.tup ⟨_, _, rfl, WeakL.agg ⟨_, _, rfl, nil_weak, _, _, rfl, Weak.refl _, _, _, rfl, Weak.refl _, _, _, rfl, nil_weak, _, _, rfl, nil_weak, rfl⟩, _, _, rfl, Weak.refl _, _, _, rfl, Weak.refl _, rfl⟩
theorem unit_weak {c : List ByteArray} {x : E} {l : List Step} {t1 t2 t3 : Tok} : Weak (.tup [.agg [.list t1 (c.map cS.enc), .int .i64 x.kind, .int .i64 x.id, .list t2 (x.kids.map E.cells), .list t3 (l.map cStep.enc)], .int .i64 0, .int .i64 0]) (PR.ok ⟨c, x, l⟩).av :=
  WeakL.tup ⟨_, _, rfl, WeakL.agg ⟨_, _, rfl, list_weak, _, _, rfl, Weak.refl _, _, _, rfl, Weak.refl _, _, _, rfl, list_weak, _, _, rfl, list_weak, rfl⟩, _, _, rfl, Weak.refl _, _, _, rfl, Weak.refl _, rfl⟩
def specPa : Spec := ((((Spec.no.add 11 (sp1 dS (fun s => s.size ≤ 4000000000) fun s => .list .none ((linesOf s).map cS.enc))).add 26 (sp1 dS (fun s => s.size ≤ 4000000000) fun s => .tup [.list .none ((citR s).1.map cS.enc), .int .i64 (citR s).2])).add 27 (sp2 dS dS (fun _ _ => True) fun s p => .tup [.str (if beg s p then s.extract p.size s.size else ⟨#[]⟩), .bool (beg s p)])).add
  28 (sp1 dS (fun _ => True) fun s => .tup [(fmU s).1.av, .int .i64 (fmU s).2])).add 29 (sp2 dS dI (fun s n => s.size ≤ 4000000000 ∧ 0 ≤ n) fun s n => .tup [(stepR s n).1.av, .int .i64 (stepR s n).2])
theorem specPa_ok : SpecOk Tryz.prog w0 specPa := ((((Spec.no_ok.add (sp1_ok fun s h k H => lines09_call s h)).add (sp1_ok fun s h k H => cites09_call s h)).add (sp2_ok fun s p _ k H => begins_call s p)).add (sp1_ok fun s _ k H => formula09_call s)).add (sp2_ok fun s n h k H => step09_call s n h.1 h.2)
theorem parse09_call (s : ByteArray) : CallAt Tryz.prog w0 k 9 [.str s] H H (parseR s).av := by
  refine callAt tabOk specPa_ok mixed Tryz.func9 rfl rfl Tryz.results9 Tryz.ntmps9 (by simp) [] ?_
  intro hfr t hl ht
  simp only [At, Nat.reduceAdd, List.cons_append, List.nil_append] at ht
  have fN : ∀ (a b : Nat) z ty, H ⟨z, a :: b :: k, ty⟩ = none := fun a b z ty => hfr _ (sfx2 _ _ _)
  have he0 : ((0 : Int) != 0) = false := rfl
  unfold parseR
  by_cases hbig : 20000 < s.size
  · have d : decide ((20000 : Int) < (s.size : Int)) = true := by simp; omega
    rw [if_pos hbig]
    simp (config := {contextual := true, maxSteps := 5000000}) only [go_sem, false_and, Nat.reduceAdd, Nat.reduceLT, Nat.reduceBEq, Nat.reduceSub, Nat.reduceMul, Nat.reduceLeDiff, Int.reduceToNat, Nat.reduceEqDiff, Nat.reduceMod, ht, hl, specPa, d]
    exact ⟨unit_weak0, by (repeat (first | exact Hp.Le.refl _ | refine Hp.le_upd ?_ (fN _ _ _ _)))⟩
  have d : decide ((20000 : Int) < (s.size : Int)) = false := by simp; omega
  have hs : s.size ≤ 4000000000 := by omega
  rw [if_neg hbig]
  have hlen := linesOf_len s
  have hsz : ∀ x ∈ linesOf s, x.size ≤ 20000 := fun x hx => by have := linesOf_size hx; omega
  generalize hln : linesOf s = l at hlen hsz ⊢
  cases l with
  | nil =>
    have d1 : decide (((0 : Nat) : Int) < 1) = true := rfl
    simp (config := {contextual := true, maxSteps := 5000000}) only [go_sem, false_and, Nat.reduceAdd, Nat.reduceLT, Nat.reduceBEq, Nat.reduceSub, Nat.reduceMul, Nat.reduceLeDiff, Int.reduceToNat, Nat.reduceEqDiff, Nat.reduceMod, ht, hl, specPa, d, hln, cS_at, d1]
    exact ⟨hs, unit_weak0, by (repeat (first | exact Hp.Le.refl _ | refine Hp.le_upd ?_ (fN _ _ _ _)))⟩
  | cons a rest =>
    have ha : a.size ≤ 4000000000 := by have := hsz a (by simp); omega
    have d1 : decide (((rest.length + 1 : Nat) : Int) < 1) = false := by simp; omega
    have b0 : (0 : Int) ≤ 0 ∧ (0 : Int) < ((rest.length + 1 : Nat) : Int) := by omega
    generalize hc : citR a = c
    obtain ⟨cs, ce⟩ := c
    by_cases hce : ce = 0
    · subst hce
      cases rest with
      | nil =>
        have d2 : decide (((1 : Nat) : Int) < 2) = true := rfl
        have d1 : decide (((1 : Nat) : Int) < 1) = false := rfl
        have b0 : (0 : Int) ≤ 0 ∧ (0 : Int) < ((1 : Nat) : Int) := by omega
        rw [show parseL [a] = .err 90 2 by simp [parseL, parse1, hc]]
        simp (config := {contextual := true, maxSteps := 5000000}) only [go_sem, false_and, Nat.reduceAdd, Nat.reduceLT, Nat.reduceBEq, Nat.reduceSub, Nat.reduceMul, Nat.reduceLeDiff, Int.reduceToNat, Nat.reduceEqDiff, Nat.reduceMod, ht, hl, specPa, d, hln, cS_at, d1, b0, hc, he0, d2]
        exact ⟨hs, ha, unit_weak0, by (repeat (first | exact Hp.Le.refl _ | refine Hp.le_upd ?_ (fN _ _ _ _)))⟩
      | cons b rest2 =>
        have d2 : decide (((rest2.length + 1 + 1 : Nat) : Int) < 2) = false := by simp; omega
        have b1 : (0 : Int) ≤ 1 ∧ (1 : Int) < ((rest2.length + 1 + 1 : Nat) : Int) := by omega
        simp only [List.length_cons] at b0 d1
        cases hb : beg b ⟨#[115, 116, 97, 116, 101, 115, 32]⟩ with
        | false =>
          rw [show parseL (a :: b :: rest2) = .err 90 2 by simp [parseL, parse1, hc, parse2, statesB, hb]]
          simp (config := {contextual := true, maxSteps := 5000000}) only [go_sem, false_and, Nat.reduceAdd, Nat.reduceLT, Nat.reduceBEq, Nat.reduceSub, Nat.reduceMul, Nat.reduceLeDiff, Int.reduceToNat, Nat.reduceEqDiff, Nat.reduceMod, ht, hl, specPa, d, hln, cS_at, d1, b0, hc, he0, d2, b1, hb]
          exact ⟨hs, ha, unit_weak0, by (repeat (first | exact Hp.Le.refl _ | refine Hp.le_upd ?_ (fN _ _ _ _)))⟩
        | true =>
          have z7 : (#[115, 116, 97, 116, 101, 115, 32] : Array UInt8).size = 7 := rfl
          generalize hf : fmU (b.extract 7 b.size) = f
          obtain ⟨fx, fe⟩ := f
          by_cases hfe : fe = 0
          · subst hfe
            cases rest2 with
            | nil =>
              have d3 : decide (((2 : Nat) : Int) < 3) = true := rfl
              have d1 : decide (((2 : Nat) : Int) < 1) = false := rfl
              have d2 : decide (((2 : Nat) : Int) < 2) = false := rfl
              have b0 : (0 : Int) ≤ 0 ∧ (0 : Int) < ((2 : Nat) : Int) := by omega
              have b1 : (0 : Int) ≤ 1 ∧ (1 : Int) < ((2 : Nat) : Int) := by omega
              rw [show parseL [a, b] = .err 90 3 by simp [parseL, parse1, hc, parse2, statesB, hb, hf]]
              simp (config := {contextual := true, maxSteps := 5000000}) only [go_sem, false_and, Nat.reduceAdd, Nat.reduceLT, Nat.reduceBEq, Nat.reduceSub, Nat.reduceMul, Nat.reduceLeDiff, Int.reduceToNat, Nat.reduceEqDiff, Nat.reduceMod, ht, hl, specPa, d, hln, cS_at, d1, b0, hc, he0, d2, b1, hb, z7, hf, d3]
              exact ⟨hs, ha, unit_weak0, by (repeat (first | exact Hp.Le.refl _ | refine Hp.le_upd ?_ (fN _ _ _ _)))⟩
            | cons x xs =>
              have d3 : decide (((xs.length + 1 + 1 + 1 : Nat) : Int) < 3) = false := by simp; omega
              simp only [List.length_cons] at b0 d1 b1 d2
              rw [show parseL (a :: b :: x :: xs) = parse3 cs fx (stepsR (x :: xs) 2 []) by simp [parseL, parse1, hc, parse2, statesB, hb, hf]]
              simp (config := {contextual := true, maxSteps := 5000000}) only [go_sem, false_and, Nat.reduceAdd, Nat.reduceLT, Nat.reduceBEq, Nat.reduceSub, Nat.reduceMul, Nat.reduceLeDiff, Int.reduceToNat, Nat.reduceEqDiff, Nat.reduceMod, ht, hl, specPa, d, hln, cS_at, d1, b0, hc, he0, d2, b1, hb, z7, hf, d3]
              refine ⟨hs, ha, ?_⟩
              have hls : [AV.str a] :: [AV.str b] :: [AV.str x] :: List.map cS.enc xs = (a :: b :: x :: xs).map cS.enc := rfl
              have hll : xs.length + 1 + 1 + 1 = (a :: b :: x :: xs).length := rfl
              rw [hls]
              have hst : stepsR (x :: xs) 2 [] = stepsR ((a :: b :: x :: xs).drop 2) 2 [] := rfl
              rw [hst]
              generalize a :: b :: x :: xs = ls at hlen hsz hll ⊢
              refine loop_inv tabOk specPa_ok mixed [] (fun j y => ∃ (i : Nat) (acc : List Step) (tk : Tok), y.tmps.length = 95 ∧ y.tmps.getD 2 AV.undef = .ptr ⟨5, 0 :: 0 :: k, 28⟩ 0 ∧ y.tmps.getD 5 AV.undef = .list .none (ls.map cS.enc) ∧ y.tmps.getD 6 AV.undef = .ptr ⟨5, 1 :: 3 :: k, 28⟩ 0 ∧ y.tmps.getD 11 AV.undef = .int .i64 i ∧
                y.H ⟨5, 1 :: 3 :: k, 28⟩ = some (.cells [.list .none (cs.map cS.enc), .int .i64 fx.kind, .int .i64 fx.id, .list .none (fx.kids.map E.cells), .list tk (acc.map cStep.enc)]) ∧ LstK H 7 50 4 k tk y.H ∧ i + j = ls.length ∧ 2 ≤ i ∧ acc.length ≤ i ∧ stepsR (ls.drop i) i acc = stepsR (ls.drop 2) 2 []) (ls.length - 2) ⟨2, [], .nil, ?_⟩ ?_
              · simp (config := {contextual := true, maxSteps := 5000000}) only [go_sem, false_and, Nat.reduceAdd, Nat.reduceLT, Nat.reduceBEq, Nat.reduceSub, Nat.reduceMul, Nat.reduceLeDiff, Int.reduceToNat, Nat.reduceEqDiff, Nat.reduceMod, ht, hl]
                exact ⟨rfl, ⟨by (repeat (first | exact Hp.Le.refl _ | refine Hp.le_upd ?_ (fN _ _ _ _))), .inl rfl⟩, by omega⟩
              · rintro j ⟨t, n, H2⟩ ⟨i, acc, tk, hl, h2, h5, h6, h11, h66, hL, hij, hi2, hacc, hgo⟩
                simp only at hl h2 h5 h6 h11 h66 hL
                by_cases hi : i < ls.length
                · have hd : decide ((i : Int) < (ls.length : Int)) = true := by simp [hi]
                  have hw : IntKind.i64.wrap ((i : Int) + 1) = ((i + 1 : Nat) : Int) := by rw [wrap_i64] <;> omega
                  have hw1 : IntKind.i64.wrap ((i : Int) - 1) = (i : Int) - 1 := by rw [wrap_i64] <;> omega
                  obtain ⟨y, hy, hye⟩ := str_get ls hi
                  have hy4 : y.size ≤ 4000000000 := by have := hsz y (List.mem_of_getElem? hy); omega
                  have hdr : ls.drop i = y :: ls.drop (i + 1) := by
                    obtain ⟨q1, q2⟩ := List.getElem?_eq_some_iff.1 hy
                    rw [List.drop_eq_getElem_cons q1, q2]
                  rw [hdr, stepsR] at hgo
                  generalize hr : stepR y ((i : Int) - 1) = r at hgo
                  obtain ⟨st, e⟩ := r
                  have hn4 : ∀ m, H ⟨7, 4 :: m :: k, 50⟩ = none := fun m => fN _ _ _ _
                  have hLX : ∀ e, LstK H 7 50 4 k tk (H2.upd ⟨7, 10 :: (n + 1) :: k, 50⟩ e) := fun e => hL.frame (fN _ _ _ _) (fun m he => by cases he)
                  have hkk : ∀ e, killTok (H2.upd ⟨7, 10 :: (n + 1) :: k, 50⟩ e) tk ⟨5, 1 :: 3 :: k, 28⟩ = some (.cells [.list .none (cs.map cS.enc), .int .i64 fx.kind, .int .i64 fx.id, .list .none (fx.kids.map E.cells), .list tk (acc.map cStep.enc)]) := fun e =>
                    killTok_keeps (by rw [Hp.upd_ne _ _ (fun he => by cases he)]; exact h66) ((hLX e).2.imp id fun ⟨m, h1, h2⟩ => ⟨_, h1, h2⟩)
                  by_cases he : e = 0
                  · subst he
                    simp (config := {contextual := true, maxSteps := 5000000}) only [go_sem, false_and, Nat.reduceAdd, Nat.reduceLT, Nat.reduceBEq, Nat.reduceSub, Nat.reduceMul, Nat.reduceLeDiff, Int.reduceToNat, Nat.reduceEqDiff, Nat.reduceMod, h2, h5, h6, h11, h66, hl, hd, hw, hw1, hye, hr, specPa, he0, Step.cells, hkk, strip, tokBy_cons]
                    refine ⟨⟨by omega, by omega⟩, ⟨hy4, by omega⟩, fun y h => (h.elim (fun h => by rw [h]; rfl) (fun h => h.elim)), fun y h => by (obtain ⟨z, _, rfl⟩ := List.mem_map.1 h; rfl), rfl, by omega, by omega, (hLX _).live, j - 1, by omega, i + 1, acc ++ [st], _, rfl, by rw [List.map_append]; rfl, ?_, by omega, by omega, by simp; omega, by rw [if_pos rfl] at hgo; exact hgo⟩
                    have := ((hLX (some (.cells [.int .i64 st.says.kind, .int .i64 st.says.id, .list .none (st.says.kids.map E.cells), .int .i64 st.by_, .int .i64 st.a, .int .i64 st.b, .str st.cite]))).push hn4 (y := st.cells) (ys := []) (n + 1 + 1 + 1)).frame (X := ⟨5, 1 :: 3 :: k, 28⟩) (e := some (.cells [.list .none (cs.map cS.enc), .int .i64 fx.kind, .int .i64 fx.id, .list .none (fx.kids.map E.cells), .list (.tok ⟨7, 4 :: (n + 1 + 1 + 1) :: k, 50⟩) ((acc.map cStep.enc) ++ [[.int .i64 st.says.kind, .int .i64 st.says.id, .list .none (st.says.kids.map E.cells), .int .i64 st.by_, .int .i64 st.a, .int .i64 st.b, .str st.cite]])])) (fN _ _ _ _) (fun m he => by cases he)
                    rw [tokBy_cons] at this
                    exact this
                  · have he2 : (e != 0) = true := by simpa using he
                    simp (config := {contextual := true, maxSteps := 5000000}) only [go_sem, false_and, Nat.reduceAdd, Nat.reduceLT, Nat.reduceBEq, Nat.reduceSub, Nat.reduceMul, Nat.reduceLeDiff, Int.reduceToNat, Nat.reduceEqDiff, Nat.reduceMod, h2, h5, h6, h11, h66, hl, hd, hw, hw1, hye, hr, specPa, he2, Step.cells]
                    refine ⟨⟨by omega, by omega⟩, ⟨hy4, by omega⟩, ?_, ?_⟩
                    · rw [← hgo, if_neg he]
                      unfold parse3
                      rw [if_neg he]
                      exact unit_weak0
                    · exact Hp.le_upd (Hp.le_upd hL.1 (fN _ _ _ _)) (fN _ _ _ _)
                · have hd : decide ((i : Int) < (ls.length : Int)) = false := by simp; omega
                  simp (config := {contextual := true, maxSteps := 5000000}) only [go_sem, false_and, Nat.reduceAdd, Nat.reduceLT, Nat.reduceBEq, Nat.reduceSub, Nat.reduceMul, Nat.reduceLeDiff, Int.reduceToNat, Nat.reduceEqDiff, Nat.reduceMod, h2, h5, h6, h11, h66, hl, hd]
                  rw [← hgo, List.drop_of_length_le (by omega)]
                  exact ⟨unit_weak, Hp.le_upd hL.1 (fN _ _ _ _)⟩
          · have hfe2 : (fe != 0) = true := by simpa using hfe
            rw [show parseL (a :: b :: rest2) = .err fe 2 by simp [parseL, parse1, hc, parse2, statesB, hb, hf, hfe]]
            simp (config := {contextual := true, maxSteps := 5000000}) only [go_sem, false_and, Nat.reduceAdd, Nat.reduceLT, Nat.reduceBEq, Nat.reduceSub, Nat.reduceMul, Nat.reduceLeDiff, Int.reduceToNat, Nat.reduceEqDiff, Nat.reduceMod, ht, hl, specPa, d, hln, cS_at, d1, b0, hc, he0, d2, b1, hb, z7, hf, hfe2]
            exact ⟨hs, ha, unit_weak0, by (repeat (first | exact Hp.Le.refl _ | refine Hp.le_upd ?_ (fN _ _ _ _)))⟩
    · have hce2 : (ce != 0) = true := by simpa using hce
      rw [show parseL (a :: rest) = .err ce 1 by simp [parseL, parse1, hc, hce]]
      simp (config := {contextual := true, maxSteps := 5000000}) only [go_sem, false_and, Nat.reduceAdd, Nat.reduceLT, Nat.reduceBEq, Nat.reduceSub, Nat.reduceMul, Nat.reduceLeDiff, Int.reduceToNat, Nat.reduceEqDiff, Nat.reduceMod, ht, hl, specPa, d, hln, cS_at, d1, b0, hc, hce2]
      exact ⟨hs, ha, unit_weak0, by (repeat (first | exact Hp.Le.refl _ | refine Hp.le_upd ?_ (fN _ _ _ _)))⟩
end Go.Proofs.YtkdendaohlnlcaaGreatDoor.Av

/- What the functions of layer 8 answer, of the reference and of the program: abbreviations unfolded. No condition. -/
namespace Go.Proofs.YtkdendaohlnlcaaGreatDoor.Av
set_option linter.unusedVariables false
set_option linter.unusedSimpArgs false
set_option maxRecDepth 4000
set_option maxHeartbeats 1000000
variable {w0 : Base} {k : List Nat} {H : Hp}
def nt (e : E) : E := .mk 5 0 [e]
def im (a b : E) : E := .mk 6 0 [a, b]
def al (n : Int) (e : E) : E := .mk 7 n [e]
def shrt (k i : Int) (us : List E) : E :=
  if k = 8 then (match us with | [a, b] => nt (im a (nt b)) | _ => .mk k i us)
  else if k = 9 then (match us with | [a, b] => im (nt a) b | _ => .mk k i us)
  else if k = 10 then (match us with | [a] => nt (al i (nt a)) | _ => .mk k i us)
  else .mk k i us
mutual
def E.unf : E → E
  | .mk k i ks => shrt k i (E.unfL ks)
def E.unfL : List E → List E
  | [] => []
  | e :: es => e.unf :: E.unfL es
end
theorem E.unfL_eq : ∀ l : List E, E.unfL l = l.map E.unf
  | [] => rfl
  | e :: es => by simp [E.unfL, E.unfL_eq es]
theorem E.unf_eq (e : E) : e.unf = shrt e.kind e.id (e.kids.map E.unf) := by cases e; simp only [E.unf, E.kind, E.id, E.kids, E.unfL_eq]
theorem E.sh_kid {e : E} (h : e.sh = true) {i : Nat} {x : E} (hx : e.kids[i]? = some x) : x.sh = true := by
  rw [E.sh_eq, Bool.and_eq_true] at h
  exact List.all_eq_true.1 h.2 x (List.mem_of_getElem? hx)
theorem E.sh_loc {e : E} (h : e.sh = true) : e.loc = true := by
  rw [E.sh_eq, Bool.and_eq_true] at h
  exact h.1
theorem E.loc_len {e : E} (h : e.loc = true) : e.kids.length ≤ 4 := by
  unfold E.loc E.want at h
  (repeat' split at h) <;> simp_all <;> grind
theorem E.loc_two {e : E} (h : e.loc = true) (hk : e.kind = 8 ∨ e.kind = 9) : ∃ p q, e.kids = [p, q] := by
  have h2 : e.kids.length = 2 := by
    unfold E.loc E.want at h
    rcases hk with hk | hk <;> simp [hk] at h <;> omega
  match hl : e.kids, h2 with
  | [p, q], _ => exact ⟨p, q, rfl⟩
theorem E.loc_one {e : E} (h : e.loc = true) (hk : e.kind = 10) : ∃ p, e.kids = [p] := by
  have h2 : e.kids.length = 1 := by
    unfold E.loc E.want at h
    simp [hk] at h
    omega
  match hl : e.kids, h2 with
  | [p], _ => exact ⟨p, rfl⟩
theorem okL_all : ∀ {l : List E}, (∀ x ∈ l, x.ok) → E.okL l
  | [], _ => trivial
  | x :: l, h => ⟨h x (by simp), okL_all fun y hy => h y (by simp [hy])⟩
theorem nt_ok {e : E} (h : e.ok) : (nt e).ok := ⟨by simp, h, trivial⟩
theorem im_ok {a b : E} (h : a.ok) (h2 : b.ok) : (im a b).ok := ⟨by simp, h, h2, trivial⟩
theorem al_ok {n : Int} {e : E} (h : e.ok) : (al n e).ok := ⟨by simp, h, trivial⟩
theorem shrt_ok {k i : Int} {us : List E} (hl : us.length ≤ 4) (h : ∀ x ∈ us, x.ok) : (shrt k i us).ok := by
  have hm : (E.mk k i us).ok := by
    simp only [E.ok]
    exact ⟨by omega, okL_all h⟩
  unfold shrt
  (repeat' split) <;> first | (with_reducible exact hm) | (simp only [List.mem_cons, List.not_mem_nil, or_false, forall_eq_or_imp, forall_eq] at h; first | (with_reducible exact nt_ok (im_ok h.1 (nt_ok h.2))) | (with_reducible exact im_ok (nt_ok h.1) h.2) | (with_reducible exact nt_ok (al_ok (nt_ok h))))
theorem unf_ok : ∀ N (e : E), e.sz < N → e.sh = true → e.unf.ok
  | 0, e, h, _ => by omega
  | N + 1, e, h, hs => by
    rw [E.unf_eq]
    refine shrt_ok (by rw [List.length_map]; exact E.loc_len (E.sh_loc hs)) fun x hx => ?_
    obtain ⟨y, hy, rfl⟩ := List.mem_map.1 hx
    obtain ⟨i, hi⟩ := List.mem_iff_getElem?.1 hy
    exact unf_ok N y (by have := E.kid_sz hi; omega) (E.sh_kid hs hi)
theorem E.unf_ok {e : E} (hs : e.sh = true) : e.unf.ok := Av.unf_ok _ e (Nat.lt_succ_self _) hs
theorem right_sh {e : E} (h : e.right = 0) : e.sh = true := by
  unfold E.right at h
  (repeat' split at h) <;> simp_all
theorem E.kcase (e : E) : (e.kind = 8 ∨ e.kind = 9 ∨ e.kind = 10) ∨ ((e.kind == 8) = false ∧ (e.kind == 9) = false ∧ (e.kind == 10) = false) := by
  simp only [beq_eq_false_iff_ne]
  omega
theorem shrt_no {k i : Int} {us : List E} (h8 : (k == 8) = false) (h9 : (k == 9) = false) (h10 : (k == 10) = false) : shrt k i us = .mk k i us := by
  simp only [beq_eq_false_iff_ne] at h8 h9 h10
  unfold shrt
  simp only [h8, h9, h10, if_false]

theorem not07_call (e : E) : CallAt Tryz.prog w0 k 97 [e.av] H H (nt e).av := by
  refine callAt tabOk specOk_none mixed Tryz.func97 rfl rfl Tryz.results97 Tryz.ntmps97 (by simp) [] ?_
  intro hfr t hl ht
  simp only [At, Nat.reduceAdd, List.cons_append, List.nil_append] at ht
  have fN : ∀ (a b : Nat) z ty, H ⟨z, a :: b :: k, ty⟩ = none := fun a b z ty => hfr _ (sfx2 _ _ _)
  simp (config := {contextual := true, maxSteps := 5000000}) only [go_sem, false_and, Nat.reduceAdd, Nat.reduceLT, Nat.reduceBEq, Nat.reduceSub, Nat.reduceMul, Nat.reduceLeDiff, Int.reduceToNat, Nat.reduceEqDiff, Nat.reduceMod, ht, hl, strip]
  exact ⟨mk1_weak, by (repeat (first | exact Hp.Le.refl _ | refine Hp.le_upd ?_ (fN _ _ _ _)))⟩
theorem imp07_call (a b : E) : CallAt Tryz.prog w0 k 98 [a.av, b.av] H H (im a b).av := by
  refine callAt tabOk specOk_none mixed Tryz.func98 rfl rfl Tryz.results98 Tryz.ntmps98 (by simp) [] ?_
  intro hfr t hl ht
  simp only [At, Nat.reduceAdd, List.cons_append, List.nil_append] at ht
  have fN : ∀ (a b : Nat) z ty, H ⟨z, a :: b :: k, ty⟩ = none := fun a b z ty => hfr _ (sfx2 _ _ _)
  simp (config := {contextual := true, maxSteps := 5000000}) only [go_sem, false_and, Nat.reduceAdd, Nat.reduceLT, Nat.reduceBEq, Nat.reduceSub, Nat.reduceMul, Nat.reduceLeDiff, Int.reduceToNat, Nat.reduceEqDiff, Nat.reduceMod, ht, hl, strip]
  exact ⟨mk2_weak, by (repeat (first | exact Hp.Le.refl _ | refine Hp.le_upd ?_ (fN _ _ _ _)))⟩
theorem all07_call (n : Int) (e : E) : CallAt Tryz.prog w0 k 99 [.int .i64 n, e.av] H H (al n e).av := by
  refine callAt tabOk specOk_none mixed Tryz.func99 rfl rfl Tryz.results99 Tryz.ntmps99 (by simp) [] ?_
  intro hfr t hl ht
  simp only [At, Nat.reduceAdd, List.cons_append, List.nil_append] at ht
  have fN : ∀ (a b : Nat) z ty, H ⟨z, a :: b :: k, ty⟩ = none := fun a b z ty => hfr _ (sfx2 _ _ _)
  simp (config := {contextual := true, maxSteps := 5000000}) only [go_sem, false_and, Nat.reduceAdd, Nat.reduceLT, Nat.reduceBEq, Nat.reduceSub, Nat.reduceMul, Nat.reduceLeDiff, Int.reduceToNat, Nat.reduceEqDiff, Nat.reduceMod, ht, hl, strip]
  exact ⟨mk1_weak, by (repeat (first | exact Hp.Le.refl _ | refine Hp.le_upd ?_ (fN _ _ _ _)))⟩
theorem notP_call (e : E) : CallAt Tryz.prog w0 k 94 [e.av] H H (nt e).av := by
  refine callAt tabOk specOk_none mixed Tryz.func94 rfl rfl Tryz.results94 Tryz.ntmps94 (by simp) [] ?_
  intro hfr t hl ht
  simp only [At, Nat.reduceAdd, List.cons_append, List.nil_append] at ht
  have fN : ∀ (a b : Nat) z ty, H ⟨z, a :: b :: k, ty⟩ = none := fun a b z ty => hfr _ (sfx2 _ _ _)
  simp (config := {contextual := true, maxSteps := 5000000}) only [go_sem, false_and, Nat.reduceAdd, Nat.reduceLT, Nat.reduceBEq, Nat.reduceSub, Nat.reduceMul, Nat.reduceLeDiff, Int.reduceToNat, Nat.reduceEqDiff, Nat.reduceMod, ht, hl, strip]
  exact ⟨mk1_weak, by (repeat (first | exact Hp.Le.refl _ | refine Hp.le_upd ?_ (fN _ _ _ _)))⟩
theorem impP_call (a b : E) : CallAt Tryz.prog w0 k 95 [a.av, b.av] H H (im a b).av := by
  refine callAt tabOk specOk_none mixed Tryz.func95 rfl rfl Tryz.results95 Tryz.ntmps95 (by simp) [] ?_
  intro hfr t hl ht
  simp only [At, Nat.reduceAdd, List.cons_append, List.nil_append] at ht
  have fN : ∀ (a b : Nat) z ty, H ⟨z, a :: b :: k, ty⟩ = none := fun a b z ty => hfr _ (sfx2 _ _ _)
  simp (config := {contextual := true, maxSteps := 5000000}) only [go_sem, false_and, Nat.reduceAdd, Nat.reduceLT, Nat.reduceBEq, Nat.reduceSub, Nat.reduceMul, Nat.reduceLeDiff, Int.reduceToNat, Nat.reduceEqDiff, Nat.reduceMod, ht, hl, strip]
  exact ⟨mk2_weak, by (repeat (first | exact Hp.Le.refl _ | refine Hp.le_upd ?_ (fN _ _ _ _)))⟩
/-- The abbreviation of two. -/
def bothA (a b : E) : AV := .agg [.int .i64 a.kind, .int .i64 a.id, .list .none (a.kids.map E.cells), .int .i64 b.kind, .int .i64 b.id, .list .none (b.kids.map E.cells)]
def someA (n : Int) (a : E) : AV := .agg [.int .i64 n, .int .i64 a.kind, .int .i64 a.id, .list .none (a.kids.map E.cells)]
def shrtA (k i : Int) (us : List E) : AV :=
  if k = 8 then (match us with | [a, b] => .iface 114 (bothA a b) | _ => .raw .nilIface)
  else if k = 9 then (match us with | [a, b] => .iface 116 (bothA a b) | _ => .raw .nilIface)
  else if k = 10 then (match us with | [a] => .iface 118 (someA i a) | _ => .raw .nilIface)
  else .raw .nilIface
def shrtOk (k : Int) (us : List E) : Prop := (k = 8 ∨ k = 9 → ∃ a b, us = [a, b]) ∧ (k = 10 → ∃ a, us = [a])
theorem shortOf_call (e : E) (us : List E) (hu : shrtOk e.kind us) : CallAt Tryz.prog w0 k 93 [e.av, .list .none (us.map E.cells)] H H (shrtA e.kind e.id us) := by
  refine callAt tabOk specOk_none mixed Tryz.func93 rfl rfl Tryz.results93 Tryz.ntmps93 (by simp) [] ?_
  intro hfr t hl ht
  simp only [At, Nat.reduceAdd, List.cons_append, List.nil_append] at ht
  have fN : ∀ (a b : Nat) z ty, H ⟨z, a :: b :: k, ty⟩ = none := fun a b z ty => hfr _ (sfx2 _ _ _)
  unfold shrtA
  rcases e.kcase with (h8 | h9 | h10) | ⟨h8, h9, h10⟩
  · obtain ⟨a, b, rfl⟩ := hu.1 (.inl h8)
    simp only [List.map_cons, List.map_nil, E.cells_eq] at ht
    simp (config := {contextual := true, maxSteps := 5000000}) only [go_sem, false_and, Nat.reduceAdd, Nat.reduceLT, Nat.reduceBEq, Nat.reduceSub, Nat.reduceMul, Nat.reduceLeDiff, Int.reduceToNat, Nat.reduceEqDiff, Nat.reduceMod, ht, hl, h8, bothA, Int.reduceBEq, if_true]
    ((repeat' apply And.intro) <;> first | omega | with_reducible assumption | exact Weak.refl _ | rfl | exact List.Pairwise.nil | (refine pw_of ?_; (repeat' (first | exact trivial | apply And.intro)); all_goals (first | exact .inr rfl | exact .inr trivial | exact .inl (by kernel_rfl))) | ((with_reducible (show drawOk _ = true)); kernel_rfl) | ((with_reducible (show panOk _ _ _ = true)); kernel_rfl) | (repeat (first | exact Hp.Le.refl _ | refine Hp.le_upd ?_ (fN _ _ _ _))))
  · obtain ⟨a, b, rfl⟩ := hu.1 (.inr h9)
    simp only [List.map_cons, List.map_nil, E.cells_eq] at ht
    simp (config := {contextual := true, maxSteps := 5000000}) only [go_sem, false_and, Nat.reduceAdd, Nat.reduceLT, Nat.reduceBEq, Nat.reduceSub, Nat.reduceMul, Nat.reduceLeDiff, Int.reduceToNat, Nat.reduceEqDiff, Nat.reduceMod, ht, hl, h9, bothA, Int.reduceBEq, if_true]
    ((repeat' apply And.intro) <;> first | omega | with_reducible assumption | exact Weak.refl _ | rfl | exact List.Pairwise.nil | (refine pw_of ?_; (repeat' (first | exact trivial | apply And.intro)); all_goals (first | exact .inr rfl | exact .inr trivial | exact .inl (by kernel_rfl))) | ((with_reducible (show drawOk _ = true)); kernel_rfl) | ((with_reducible (show panOk _ _ _ = true)); kernel_rfl) | (repeat (first | exact Hp.Le.refl _ | refine Hp.le_upd ?_ (fN _ _ _ _))))
  · obtain ⟨a, rfl⟩ := hu.2 h10
    simp only [List.map_cons, List.map_nil, E.cells_eq] at ht
    simp (config := {contextual := true, maxSteps := 5000000}) only [go_sem, false_and, Nat.reduceAdd, Nat.reduceLT, Nat.reduceBEq, Nat.reduceSub, Nat.reduceMul, Nat.reduceLeDiff, Int.reduceToNat, Nat.reduceEqDiff, Nat.reduceMod, ht, hl, h10, someA, Int.reduceBEq, if_true]
    ((repeat' apply And.intro) <;> first | omega | with_reducible assumption | exact Weak.refl _ | rfl | exact List.Pairwise.nil | (refine pw_of ?_; (repeat' (first | exact trivial | apply And.intro)); all_goals (first | exact .inr rfl | exact .inr trivial | exact .inl (by kernel_rfl))) | ((with_reducible (show drawOk _ = true)); kernel_rfl) | ((with_reducible (show panOk _ _ _ = true)); kernel_rfl) | (repeat (first | exact Hp.Le.refl _ | refine Hp.le_upd ?_ (fN _ _ _ _))))
  · simp (config := {contextual := true, maxSteps := 5000000}) only [go_sem, false_and, Nat.reduceAdd, Nat.reduceLT, Nat.reduceBEq, Nat.reduceSub, Nat.reduceMul, Nat.reduceLeDiff, Int.reduceToNat, Nat.reduceEqDiff, Nat.reduceMod, ht, hl, h8, h9, h10]
    simp only [beq_eq_false_iff_ne] at h8 h9 h10
    simp only [h8, h9, h10, if_false]
    exact Weak.refl _

def specNx : Spec := ((Spec.no.add 94 (sp1 dE (fun _ => True) fun e => (nt e).av)).add 95 (sp2 dE dE (fun _ _ => True) fun a b => (im a b).av)).add 93 (sp2 dE (dL cE) (fun e us => shrtOk e.kind us) fun e us => shrtA e.kind e.id us)
theorem specNx_ok : SpecOk Tryz.prog w0 specNx := ((Spec.no_ok.add (sp1_ok fun e _ k H => notP_call e)).add (sp2_ok fun a b _ k H => impP_call a b)).add (sp2_ok fun e us h k H => shortOf_call e us h)
theorem dLE_at {tk : Tok} {us : List E} : (dL cE).dec (.list tk (List.map E.cells us)) = some us := dL_at
theorem take_map {α β : Type} (f : α → β) {l : List α} {i : Nat} {x : α} (h : l[i]? = some x) : (l.take (i + 1)).map f = (l.take i).map f ++ [f x] := by
  rw [List.take_add_one, h, List.map_append]
  rfl
theorem toE_al {n : Int} {tk : Tok} {x : E} : toE [.raw (.int .i64 7), .raw (.int .i64 n), .list tk [[.raw (.int .i64 x.kind), .raw (.int .i64 x.id), .list .none (x.kids.map E.cells)]]] = some (al n x) := by
  simp only [toE, toEL, toE_at]
  rfl
def specUf (N : Nat) : Spec := specNx.add 61 (sp1 dE (fun e => e.sh = true ∧ e.sz < N) fun e => e.unf.av)
theorem unfold_step (N : Nat) (hS : SpecOk Tryz.prog w0 (specUf N)) (e : E) (hs : e.sh = true) (hN : e.sz < N + 1) : CallAt Tryz.prog w0 k 61 [e.av] H H e.unf.av := by
  refine callAt tabOk hS mixed Tryz.func61 rfl rfl Tryz.results61 Tryz.ntmps61 (by simp) [] ?_
  intro hfr t hl ht
  simp only [At, Nat.reduceAdd, List.cons_append, List.nil_append] at ht
  have fN : ∀ (a b : Nat) z ty, H ⟨z, a :: b :: k, ty⟩ = none := fun a b z ty => hfr _ (sfx2 _ _ _)
  have h4 := E.loc_len (E.sh_loc hs)
  simp (config := {contextual := true, maxSteps := 5000000}) only [go_sem, false_and, Nat.reduceAdd, Nat.reduceLT, Nat.reduceBEq, Nat.reduceSub, Nat.reduceMul, Nat.reduceLeDiff, Int.reduceToNat, Nat.reduceEqDiff, Nat.reduceMod, ht, hl]
  refine loop_inv tabOk hS mixed [] (fun j x => ∃ (i : Nat) (tk : Tok), x.tmps.length = 61 ∧ x.tmps.getD 1 AV.undef = .sptr [.int .i64 e.kind, .int .i64 e.id, .list .none (e.kids.map E.cells)] ∧ x.tmps.getD 2 AV.undef = .ptr ⟨3, 1 :: 0 :: k, 25⟩ 0 ∧ x.tmps.getD 3 AV.undef = .list tk ((e.kids.take i).map fun x => x.unf.cells) ∧ x.tmps.getD 10 AV.undef = .list .none (e.kids.map E.cells) ∧ x.tmps.getD 11 AV.undef = .int .i64 e.kids.length ∧ x.tmps.getD 12 AV.undef = .int .i64 i ∧
    LstK (H.upd ⟨3, 1 :: 0 :: k, 25⟩ (some (.cells [.int .i64 0, .int .i64 0, .list .nil []]))) 3 25 4 k tk x.H ∧ i + j = e.kids.length) e.kids.length ⟨0, .nil, ?_⟩ ?_
  · simp (config := {contextual := true, maxSteps := 5000000}) only [go_sem, false_and, Nat.reduceAdd, Nat.reduceLT, Nat.reduceBEq, Nat.reduceSub, Nat.reduceMul, Nat.reduceLeDiff, Int.reduceToNat, Nat.reduceEqDiff, Nat.reduceMod, ht, hl]
    exact ⟨rfl, ⟨Hp.Le.refl _, .inl rfl⟩, by omega⟩
  · rintro j ⟨t, n, H2⟩ ⟨i, tk, hl, h1, h2, h3, h10, h11, h12, hL, hij⟩
    simp only at hl h1 h2 h3 h10 h11 h12 hL
    have fN1 : ∀ (a b : Nat) z ty, a ≠ 1 → (H.upd ⟨3, 1 :: 0 :: k, 25⟩ (some (.cells [.int .i64 0, .int .i64 0, .list .nil []]))) ⟨z, a :: b :: k, ty⟩ = none := fun a b z ty ha => by
      rw [Hp.upd_ne _ _ (fun h => by cases h; exact ha rfl)]
      exact fN _ _ _ _
    have hle : H.Le H2 := fun i y hi => hL.1 i y (by rw [Hp.upd_ne _ _ (fun h => by rw [h, fN] at hi; cases hi)]; exact hi)
    by_cases hi : i < e.kids.length
    · have hd : decide ((i : Int) < (e.kids.length : Int)) = true := by simp [hi]
      have hw : IntKind.i64.wrap ((i : Int) + 1) = ((i + 1 : Nat) : Int) := by rw [wrap_i64] <;> omega
      obtain ⟨x, hx, he⟩ := E.kid e hi
      simp (config := {contextual := true, maxSteps := 5000000}) only [go_sem, false_and, Nat.reduceAdd, Nat.reduceLT, Nat.reduceBEq, Nat.reduceSub, Nat.reduceMul, Nat.reduceLeDiff, Int.reduceToNat, Nat.reduceEqDiff, Nat.reduceMod, he, toE_at, specUf, specNx, h1, h2, h3, h10, h11, h12, hl, hd, hw, strip, tokBy_cons]
      have hy : [[AV.int .i64 x.unf.kind, .int .i64 x.unf.id, .list .none (x.unf.kids.map E.cells)]] = [x.unf.cells] := by rw [E.cells_eq x.unf]
      have hlt : (e.kids.take i).length = i := by rw [List.length_take]; omega
      have hF : ∀ c, LstK (H.upd ⟨3, 1 :: 0 :: k, 25⟩ (some (.cells [.int .i64 0, .int .i64 0, .list .nil []]))) 3 25 4 k tk (H2.upd ⟨3, 2 :: (n + 1) :: k, 25⟩ c) := fun c => hL.frame (fN1 _ _ _ _ (by decide)) (fun m he => by cases he)
      have hP := fun c => (hF c).push (fun m => fN1 _ _ _ _ (by decide)) (y := x.unf.cells) (ys := []) (n + 1 + 1)
      simp only [tokBy_cons] at hP
      refine ⟨by omega, ⟨E.sh_kid hs hx, by have := E.kid_sz hx; omega⟩, fun y h => (h.elim (fun h => by rw [h]; rfl) (fun h => h.elim)), fun y h => by (obtain ⟨z, _, rfl⟩ := List.mem_map.1 h; exact E.cells_length _), rfl, by omega, by omega, (hF _).live, j - 1, by omega, i + 1, _, ?_, rfl, hP _, by omega⟩
      rw [hy, take_map _ hx]
    · have hd : decide ((i : Int) < (e.kids.length : Int)) = false := by simp; omega
      have e6 : e.kids.take i = e.kids := List.take_of_length_le (by omega)
      rw [e6] at h3
      have hc : (e.kids.map fun x => x.unf.cells) = (e.kids.map E.unf).map E.cells := by rw [List.map_map]; rfl
      rw [hc] at h3
      have hR : H2 ⟨3, 1 :: 0 :: k, 25⟩ = some (.cells [.int .i64 0, .int .i64 0, .list .nil []]) := hL.1 _ _ (Hp.upd_same _ _ _)
      have hu := e.unf_eq
      rcases e.kcase with (h8 | h9 | h10') | ⟨h8, h9, h10'⟩
      · obtain ⟨p, q, hpq⟩ := E.loc_two (E.sh_loc hs) (.inl h8)
        have hA : shrtA e.kind e.id (e.kids.map E.unf) = .iface 114 (bothA p.unf q.unf) := by simp [shrtA, h8, hpq]
        have hO : shrtOk e.kind (e.kids.map E.unf) := ⟨fun _ => ⟨_, _, by rw [hpq]; rfl⟩, fun h => by omega⟩
        have hu : e.unf = nt (im p.unf (nt q.unf)) := by rw [hu]; simp [shrt, h8, hpq]
        simp (config := {contextual := true, maxSteps := 5000000}) only [go_sem, false_and, Nat.reduceAdd, Nat.reduceLT, Nat.reduceBEq, Nat.reduceSub, Nat.reduceMul, Nat.reduceLeDiff, Int.reduceToNat, Nat.reduceEqDiff, Nat.reduceMod, specUf, specNx, h1, h2, h3, h10, h11, h12, hl, hd, hA, hO, hR, bothA, dLE_at]
        rw [hu]
        ((repeat' apply And.intro) <;> first | exact hO | exact Weak.refl _ | exact List.Pairwise.nil | (refine pw_of ?_; (repeat' (first | exact trivial | apply And.intro)); all_goals (first | exact .inr rfl | exact .inr trivial | exact .inl (by kernel_rfl))) | ((with_reducible (show drawOk _ = true)); kernel_rfl) | (repeat (first | exact hle | refine Hp.le_upd ?_ (fN _ _ _ _))))
      · obtain ⟨p, q, hpq⟩ := E.loc_two (E.sh_loc hs) (.inr h9)
        have hA : shrtA e.kind e.id (e.kids.map E.unf) = .iface 116 (bothA p.unf q.unf) := by simp [shrtA, h9, hpq]
        have hO : shrtOk e.kind (e.kids.map E.unf) := ⟨fun _ => ⟨_, _, by rw [hpq]; rfl⟩, fun h => by omega⟩
        have hu : e.unf = im (nt p.unf) q.unf := by rw [hu]; simp [shrt, h9, hpq]
        simp (config := {contextual := true, maxSteps := 5000000}) only [go_sem, false_and, Nat.reduceAdd, Nat.reduceLT, Nat.reduceBEq, Nat.reduceSub, Nat.reduceMul, Nat.reduceLeDiff, Int.reduceToNat, Nat.reduceEqDiff, Nat.reduceMod, specUf, specNx, h1, h2, h3, h10, h11, h12, hl, hd, hA, hO, hR, bothA, dLE_at]
        rw [hu]
        ((repeat' apply And.intro) <;> first | exact hO | exact Weak.refl _ | exact List.Pairwise.nil | (refine pw_of ?_; (repeat' (first | exact trivial | apply And.intro)); all_goals (first | exact .inr rfl | exact .inr trivial | exact .inl (by kernel_rfl))) | ((with_reducible (show drawOk _ = true)); kernel_rfl) | (repeat (first | exact hle | refine Hp.le_upd ?_ (fN _ _ _ _))))
      · obtain ⟨p, hpq⟩ := E.loc_one (E.sh_loc hs) h10'
        have hA : shrtA e.kind e.id (e.kids.map E.unf) = .iface 118 (someA e.id p.unf) := by simp [shrtA, h10', hpq]
        have hO : shrtOk e.kind (e.kids.map E.unf) := ⟨fun h => by omega, fun _ => ⟨_, by rw [hpq]; rfl⟩⟩
        have hu : e.unf = nt (al e.id (nt p.unf)) := by rw [hu]; simp [shrt, h10', hpq]
        simp (config := {contextual := true, maxSteps := 5000000}) only [go_sem, false_and, Nat.reduceAdd, Nat.reduceLT, Nat.reduceBEq, Nat.reduceSub, Nat.reduceMul, Nat.reduceLeDiff, Int.reduceToNat, Nat.reduceEqDiff, Nat.reduceMod, specUf, specNx, h1, h2, h3, h10, h11, h12, hl, hd, hA, hO, hR, someA, dLE_at, strip, toE_al]
        rw [hu]
        ((repeat' apply And.intro) <;> first | exact hO | exact Weak.refl _ | exact List.Pairwise.nil | (refine pw_of ?_; (repeat' (first | exact trivial | apply And.intro)); all_goals (first | exact .inr rfl | exact .inr trivial | exact .inl (by kernel_rfl))) | ((with_reducible (show drawOk _ = true)); kernel_rfl) | (repeat (first | exact hle | refine Hp.le_upd ?_ (fN _ _ _ _))))
      · have hA : shrtA e.kind e.id (e.kids.map E.unf) = .raw .nilIface := by
          simp only [beq_eq_false_iff_ne] at h8 h9 h10'
          simp [shrtA, h8, h9, h10']
        have hO : shrtOk e.kind (e.kids.map E.unf) := by
          simp only [beq_eq_false_iff_ne] at h8 h9 h10'
          exact ⟨fun h => by omega, fun h => by omega⟩
        rw [shrt_no h8 h9 h10'] at hu
        simp (config := {contextual := true, maxSteps := 5000000}) only [go_sem, false_and, Nat.reduceAdd, Nat.reduceLT, Nat.reduceBEq, Nat.reduceSub, Nat.reduceMul, Nat.reduceLeDiff, Int.reduceToNat, Nat.reduceEqDiff, Nat.reduceMod, specUf, specNx, h1, h2, h3, h10, h11, h12, hl, hd, hA, hO, hR, someA, dLE_at]
        rw [hu]
        exact ⟨WeakL.agg ⟨_, _, rfl, Weak.refl _, _, _, rfl, Weak.refl _, _, _, rfl, list_weak, rfl⟩, by (repeat (first | exact hle | refine Hp.le_upd ?_ (fN _ _ _ _)))⟩
theorem specUf_ok : ∀ N, SpecOk Tryz.prog w0 (specUf N)
  | 0 => specNx_ok.add (sp1_ok fun e h => by omega)
  | N + 1 => specNx_ok.add (sp1_ok fun e h k H => unfold_step N (specUf_ok N) e h.1 h.2)
theorem unfold_call (e : E) (hs : e.sh = true) : CallAt Tryz.prog w0 k 61 [e.av] H H e.unf.av := unfold_step e.sz (specUf_ok _) e hs (Nat.lt_succ_self _)
end Go.Proofs.YtkdendaohlnlcaaGreatDoor.Av

/- What the functions of layer 8 answer: the reference's unfolding. No condition. -/
namespace Go.Proofs.YtkdendaohlnlcaaGreatDoor.Av
set_option linter.unusedVariables false
set_option linter.unusedSimpArgs false
set_option maxRecDepth 4000
set_option maxHeartbeats 1000000
variable {w0 : Base} {k : List Nat} {H : Hp}
def specNr : Spec := ((Spec.no.add 97 (sp1 dE (fun _ => True) fun e => (nt e).av)).add 98 (sp2 dE dE (fun _ _ => True) fun a b => (im a b).av)).add 99 (sp2 dI dE (fun _ _ => True) fun n a => (al n a).av)
theorem specNr_ok : SpecOk Tryz.prog w0 specNr := ((Spec.no_ok.add (sp1_ok fun e _ k H => not07_call e)).add (sp2_ok fun a b _ k H => imp07_call a b)).add (sp2_ok fun n a _ k H => all07_call n a)
def specUn (N : Nat) : Spec := specNr.add 63 (sp1 dE (fun e => e.sh = true ∧ e.sz < N) fun e => e.unf.av)
theorem unfolded_step (N : Nat) (hS : SpecOk Tryz.prog w0 (specUn N)) (e : E) (hs : e.sh = true) (hN : e.sz < N + 1) : CallAt Tryz.prog w0 k 63 [e.av] H H e.unf.av := by
  refine callAt tabOk hS mixed Tryz.func63 rfl rfl Tryz.results63 Tryz.ntmps63 (by simp) [] ?_
  intro hfr t hl ht
  simp only [At, Nat.reduceAdd, List.cons_append, List.nil_append] at ht
  have fN : ∀ (a b : Nat) z ty, H ⟨z, a :: b :: k, ty⟩ = none := fun a b z ty => hfr _ (sfx2 _ _ _)
  have h4 := E.loc_len (E.sh_loc hs)
  simp (config := {contextual := true, maxSteps := 5000000}) only [go_sem, false_and, Nat.reduceAdd, Nat.reduceLT, Nat.reduceBEq, Nat.reduceSub, Nat.reduceMul, Nat.reduceLeDiff, Int.reduceToNat, Nat.reduceEqDiff, Nat.reduceMod, ht, hl]
  refine loop_inv tabOk hS mixed [] (fun j x => ∃ (i : Nat) (tk : Tok), x.tmps.length = 67 ∧ x.tmps.getD 1 AV.undef = .sptr [.int .i64 e.kind, .int .i64 e.id, .list .none (e.kids.map E.cells)] ∧ x.tmps.getD 2 AV.undef = .ptr ⟨3, 1 :: 0 :: k, 25⟩ 0 ∧ x.tmps.getD 3 AV.undef = .ptr ⟨3, 5 :: 1 :: k, 25⟩ 0 ∧ x.tmps.getD 13 AV.undef = .list .none (e.kids.map E.cells) ∧ x.tmps.getD 14 AV.undef = .int .i64 e.kids.length ∧ x.tmps.getD 15 AV.undef = .int .i64 i ∧
    x.H ⟨3, 5 :: 1 :: k, 25⟩ = some (.cells [.int .i64 e.kind, .int .i64 e.id, .list tk ((e.kids.take i).map fun x => x.unf.cells)]) ∧ LstK (H.upd ⟨3, 1 :: 0 :: k, 25⟩ (some (.cells [.int .i64 0, .int .i64 0, .list .nil []]))) 3 25 4 k tk x.H ∧ i + j = e.kids.length) e.kids.length ⟨0, .nil, ?_⟩ ?_
  · simp (config := {contextual := true, maxSteps := 5000000}) only [go_sem, false_and, Nat.reduceAdd, Nat.reduceLT, Nat.reduceBEq, Nat.reduceSub, Nat.reduceMul, Nat.reduceLeDiff, Int.reduceToNat, Nat.reduceEqDiff, Nat.reduceMod, ht, hl]
    exact ⟨rfl, ⟨Hp.le_upd (Hp.Le.refl _) (by rw [Hp.upd_ne _ _ (fun h => by cases h)]; exact fN _ _ _ _), .inl rfl⟩, by omega⟩
  · rintro j ⟨t, n, H2⟩ ⟨i, tk, hl, h1, h2, h3, h10, h11, h12, hX, hL, hij⟩
    simp only at hl h1 h2 h3 h10 h11 h12 hX hL
    have fN1 : ∀ (a b : Nat) z ty, a ≠ 1 → (H.upd ⟨3, 1 :: 0 :: k, 25⟩ (some (.cells [.int .i64 0, .int .i64 0, .list .nil []]))) ⟨z, a :: b :: k, ty⟩ = none := fun a b z ty ha => by
      rw [Hp.upd_ne _ _ (fun h => by cases h; exact ha rfl)]
      exact fN _ _ _ _
    have hle : H.Le H2 := fun i y hi => hL.1 i y (by rw [Hp.upd_ne _ _ (fun h => by rw [h, fN] at hi; cases hi)]; exact hi)
    by_cases hi : i < e.kids.length
    · have hd : decide ((i : Int) < (e.kids.length : Int)) = true := by simp [hi]
      have hw : IntKind.i64.wrap ((i : Int) + 1) = ((i + 1 : Nat) : Int) := by rw [wrap_i64] <;> omega
      obtain ⟨x, hx, he⟩ := E.kid e hi
      have hy : [[AV.int .i64 x.unf.kind, .int .i64 x.unf.id, .list .none (x.unf.kids.map E.cells)]] = [x.unf.cells] := by rw [E.cells_eq x.unf]
      have hlt : (e.kids.take i).length = i := by rw [List.length_take]; omega
      have hF : ∀ c d, LstK (H.upd ⟨3, 1 :: 0 :: k, 25⟩ (some (.cells [.int .i64 0, .int .i64 0, .list .nil []]))) 3 25 4 k tk ((H2.upd ⟨3, 2 :: (n + 1) :: k, 25⟩ c).upd ⟨3, 2 :: (n + 1 + 1) :: k, 25⟩ d) := fun c d => (hL.frame (fN1 _ _ _ _ (by decide)) (fun m he => by cases he)).frame (fN1 _ _ _ _ (by decide)) (fun m he => by cases he)
      have hP := fun c d f => ((hF c d).push (fun m => fN1 _ _ _ _ (by decide)) (y := x.unf.cells) (ys := []) (n + 1 + 1 + 1)).frame (X := ⟨3, 5 :: 1 :: k, 25⟩) (e := f) (fN1 _ _ _ _ (by decide)) (fun m he => by cases he)
      simp only [tokBy_cons] at hP
      have hkk : ∀ c d, killTok ((H2.upd ⟨3, 2 :: (n + 1) :: k, 25⟩ c).upd ⟨3, 2 :: (n + 1 + 1) :: k, 25⟩ d) tk ⟨3, 5 :: 1 :: k, 25⟩ = some (.cells [.int .i64 e.kind, .int .i64 e.id, .list tk ((e.kids.take i).map fun x => x.unf.cells)]) := fun c d =>
        killTok_keeps (by rw [Hp.upd_ne _ _ (fun he => by cases he), Hp.upd_ne _ _ (fun he => by cases he)]; exact hX) ((hF c d).2.imp id fun ⟨m, h1, h2⟩ => ⟨_, h1, h2⟩)
      simp (config := {contextual := true, maxSteps := 5000000}) only [go_sem, false_and, Nat.reduceAdd, Nat.reduceLT, Nat.reduceBEq, Nat.reduceSub, Nat.reduceMul, Nat.reduceLeDiff, Int.reduceToNat, Nat.reduceEqDiff, Nat.reduceMod, he, toE_at, specUn, specNr, h1, h2, h3, h10, h11, h12, hX, hl, hd, hw, strip, tokBy_cons, hkk]
      refine ⟨by omega, ⟨E.sh_kid hs hx, by have := E.kid_sz hx; omega⟩, fun y h => (h.elim (fun h => by rw [h]; rfl) (fun h => h.elim)), fun y h => by (obtain ⟨z, _, rfl⟩ := List.mem_map.1 h; exact E.cells_length _), rfl, by omega, by omega, (hF _ _).live, j - 1, by omega, i + 1, .tok ⟨3, 4 :: (n + 1 + 1 + 1) :: k, 25⟩, rfl, ?_, hP _ _ _, by omega⟩
      rw [hy, take_map _ hx]
    · have hd : decide ((i : Int) < (e.kids.length : Int)) = false := by simp; omega
      have e6 : e.kids.take i = e.kids := List.take_of_length_le (by omega)
      rw [e6] at hX
      have hc : (e.kids.map fun x => x.unf.cells) = (e.kids.map E.unf).map E.cells := by rw [List.map_map]; rfl
      rw [hc] at hX
      have hR : H2 ⟨3, 1 :: 0 :: k, 25⟩ = some (.cells [.int .i64 0, .int .i64 0, .list .nil []]) := hL.1 _ _ (Hp.upd_same _ _ _)
      have hu := e.unf_eq
      rcases e.kcase with (h8 | h9 | h10') | ⟨h8, h9, h10'⟩
      · obtain ⟨p, q, hpq⟩ := E.loc_two (E.sh_loc hs) (.inl h8)
        have hu : e.unf = nt (im p.unf (nt q.unf)) := by rw [hu]; simp [shrt, h8, hpq]
        have hus : (e.kids.map E.unf).map E.cells = [[.int .i64 p.unf.kind, .int .i64 p.unf.id, .list .none (p.unf.kids.map E.cells)], [.int .i64 q.unf.kind, .int .i64 q.unf.id, .list .none (q.unf.kids.map E.cells)]] := by simp [hpq, E.cells_eq]
        rw [hus, h8] at hX
        rw [h8] at h1
        simp (config := {contextual := true, maxSteps := 5000000}) only [go_sem, false_and, Nat.reduceAdd, Nat.reduceLT, Nat.reduceBEq, Nat.reduceSub, Nat.reduceMul, Nat.reduceLeDiff, Int.reduceToNat, Nat.reduceEqDiff, Nat.reduceMod, specUn, specNr, h1, h2, h3, h10, h11, h12, hX, hl, hd, hR, Int.reduceBEq]
        rw [hu]
        ((repeat' apply And.intro) <;> first | omega | exact Weak.refl _ | exact List.Pairwise.nil | (refine pw_of ?_; (repeat' (first | exact trivial | apply And.intro)); all_goals (first | exact .inr rfl | exact .inr trivial | exact .inl (by kernel_rfl))) | ((with_reducible (show drawOk _ = true)); kernel_rfl) | (repeat (first | exact hle | refine Hp.le_upd ?_ (fN _ _ _ _))))
      · obtain ⟨p, q, hpq⟩ := E.loc_two (E.sh_loc hs) (.inr h9)
        have hu : e.unf = im (nt p.unf) q.unf := by rw [hu]; simp [shrt, h9, hpq]
        have hus : (e.kids.map E.unf).map E.cells = [[.int .i64 p.unf.kind, .int .i64 p.unf.id, .list .none (p.unf.kids.map E.cells)], [.int .i64 q.unf.kind, .int .i64 q.unf.id, .list .none (q.unf.kids.map E.cells)]] := by simp [hpq, E.cells_eq]
        rw [hus, h9] at hX
        rw [h9] at h1
        simp (config := {contextual := true, maxSteps := 5000000}) only [go_sem, false_and, Nat.reduceAdd, Nat.reduceLT, Nat.reduceBEq, Nat.reduceSub, Nat.reduceMul, Nat.reduceLeDiff, Int.reduceToNat, Nat.reduceEqDiff, Nat.reduceMod, specUn, specNr, h1, h2, h3, h10, h11, h12, hX, hl, hd, hR, Int.reduceBEq]
        rw [hu]
        ((repeat' apply And.intro) <;> first | omega | exact Weak.refl _ | exact List.Pairwise.nil | (refine pw_of ?_; (repeat' (first | exact trivial | apply And.intro)); all_goals (first | exact .inr rfl | exact .inr trivial | exact .inl (by kernel_rfl))) | ((with_reducible (show drawOk _ = true)); kernel_rfl) | (repeat (first | exact hle | refine Hp.le_upd ?_ (fN _ _ _ _))))
      · obtain ⟨p, hpq⟩ := E.loc_one (E.sh_loc hs) h10'
        have hu : e.unf = nt (al e.id (nt p.unf)) := by rw [hu]; simp [shrt, h10', hpq]
        have hus : (e.kids.map E.unf).map E.cells = [[.int .i64 p.unf.kind, .int .i64 p.unf.id, .list .none (p.unf.kids.map E.cells)]] := by simp [hpq, E.cells_eq]
        rw [hus, h10'] at hX
        rw [h10'] at h1
        simp (config := {contextual := true, maxSteps := 5000000}) only [go_sem, false_and, Nat.reduceAdd, Nat.reduceLT, Nat.reduceBEq, Nat.reduceSub, Nat.reduceMul, Nat.reduceLeDiff, Int.reduceToNat, Nat.reduceEqDiff, Nat.reduceMod, specUn, specNr, h1, h2, h3, h10, h11, h12, hX, hl, hd, hR, Int.reduceBEq]
        rw [hu]
        ((repeat' apply And.intro) <;> first | omega | exact Weak.refl _ | exact List.Pairwise.nil | (refine pw_of ?_; (repeat' (first | exact trivial | apply And.intro)); all_goals (first | exact .inr rfl | exact .inr trivial | exact .inl (by kernel_rfl))) | ((with_reducible (show drawOk _ = true)); kernel_rfl) | (repeat (first | exact hle | refine Hp.le_upd ?_ (fN _ _ _ _))))
      · rw [shrt_no h8 h9 h10'] at hu
        simp (config := {contextual := true, maxSteps := 5000000}) only [go_sem, false_and, Nat.reduceAdd, Nat.reduceLT, Nat.reduceBEq, Nat.reduceSub, Nat.reduceMul, Nat.reduceLeDiff, Int.reduceToNat, Nat.reduceEqDiff, Nat.reduceMod, specUn, specNr, h1, h2, h3, h10, h11, h12, hX, h8, h9, h10', hl, hd, hR]
        rw [hu]
        exact ⟨WeakL.agg ⟨_, _, rfl, Weak.refl _, _, _, rfl, Weak.refl _, _, _, rfl, list_weak, rfl⟩, by (repeat (first | exact hle | refine Hp.le_upd ?_ (fN _ _ _ _)))⟩
theorem specUn_ok : ∀ N, SpecOk Tryz.prog w0 (specUn N)
  | 0 => specNr_ok.add (sp1_ok fun e h => by omega)
  | N + 1 => specNr_ok.add (sp1_ok fun e h k H => unfolded_step N (specUn_ok N) e h.1 h.2)
theorem unfolded_call (e : E) (hs : e.sh = true) : CallAt Tryz.prog w0 k 63 [e.av] H H e.unf.av := unfolded_step e.sz (specUn_ok _) e hs (Nat.lt_succ_self _)
end Go.Proofs.YtkdendaohlnlcaaGreatDoor.Av

/- What package unit reads of a reason. No condition. -/
namespace Go.Proofs.YtkdendaohlnlcaaGreatDoor.Av
set_option linter.unusedVariables false
set_option linter.unusedSimpArgs false
set_option maxRecDepth 4000
set_option maxHeartbeats 1000000
variable {w0 : Base} {k : List Nat} {H : Hp}
def decV (s : ByteArray) : Int := match decR s with
  | some n => n
  | none => 0
def decB (s : ByteArray) : Bool := (decR s).isSome
theorem decI_eq (s : ByteArray) : decide (0 ≤ decI s) = decB s ∧ (decB s = true → decI s = decV s) := by
  unfold decI decB decV
  cases h : decR s with
  | none => exact ⟨rfl, fun h => by cases h⟩
  | some n =>
    have := decR_ge h
    exact ⟨by simp; omega, fun _ => rfl⟩
theorem dig_iff {c : Int} : digit c = true ↔ ¬ c < 48 ∧ ¬ 57 < c := by
  simp only [digit, Bool.and_eq_true, decide_eq_true_eq]
  omega
theorem decimal_call (s : ByteArray) : CallAt Tryz.prog w0 k 83 [.str s] H H (.tup [.int .i64 (decV s), .bool (decB s)]) := by
  refine callAt tabOk Spec.no_ok mixed Tryz.func83 rfl rfl Tryz.results83 Tryz.ntmps83 (by simp) [] ?_
  intro hfr t hl ht
  simp only [At, Nat.reduceAdd, List.cons_append, List.nil_append] at ht
  have hbad : badLen s = true → Weak (.tup [.int .i64 0, .bool false]) (.tup [.int .i64 (decV s), .bool (decB s)]) := fun h => by
    have : decR s = none := by simp [decR, h]
    rw [decV, decB, this]
    exact Weak.refl _
  simp (config := {contextual := true, maxSteps := 5000000}) only [go_sem, false_and, Nat.reduceAdd, Nat.reduceLT, Nat.reduceBEq, Nat.reduceSub, Nat.reduceMul, Nat.reduceLeDiff, Int.reduceToNat, Nat.reduceEqDiff, Nat.reduceMod, ht, hl]
  refine ⟨fun a => ⟨fun b => ⟨fun c => ⟨by simp only [decide_eq_true_eq] at c; omega, fun d => hbad (badLen_iff.2 (by simp only [decide_eq_true_eq, beq_iff_eq] at c d; omega)), fun d => ?_⟩, fun c => ?_⟩, fun b => hbad (badLen_iff.2 (by simp only [decide_eq_true_eq] at b; omega))⟩, fun a => hbad (badLen_iff.2 (by simp only [decide_eq_true_eq] at a; omega))⟩
  all_goals
    have hb0 : badLen s = false := by
      rw [← Bool.not_eq_true, badLen_iff]
      simp only [decide_eq_true_eq, decide_eq_false_iff_not] at a b c
      first | omega | (simp only [beq_eq_false_iff_ne, ne_eq] at d; omega)
    simp only [decide_eq_false_iff_not] at b
    refine loop_inv tabOk Spec.no_ok mixed [] (fun j x => ∃ i : Nat, x.tmps.length = 49 ∧ x.tmps.getD 0 AV.undef = .str s ∧ x.tmps.getD 4 AV.undef = .int .i64 (valN s i) ∧ x.tmps.getD 5 AV.undef = .int .i64 i ∧ x.H = H ∧ i + j = s.size ∧ ∀ q : Nat, q < i → digit (byteAt s q) = true) s.size ⟨0, ?_⟩ ?_
    · simp (config := {contextual := true, maxSteps := 5000000}) only [go_sem, false_and, Nat.reduceAdd, Nat.reduceLT, Nat.reduceBEq, Nat.reduceSub, Nat.reduceMul, Nat.reduceLeDiff, Int.reduceToNat, Nat.reduceEqDiff, Nat.reduceMod, ht, hl]
      exact ⟨rfl, rfl, by omega, fun q hq => by omega⟩
    · rintro j ⟨t, n, H2⟩ ⟨i, hl, h0, h3, h4, rfl, hij, hall⟩
      simp only at hl h0 h3 h4
      have hv := valN_le i hall
      have hp := pow_small (show i ≤ 9 by omega)
      by_cases hi : i < s.size
      · have hd : decide ((i : Int) < (s.size : Int)) = true := by simp [hi]
        have hw : IntKind.i64.wrap ((i : Int) + 1) = ((i + 1 : Nat) : Int) := by rw [wrap_i64] <;> omega
        have hw2 : IntKind.i64.wrap (10 * valN s i) = valN s i * 10 := by rw [Int.mul_comm]; exact wrap_i64 (by omega) (by omega)
        have hno : digit (byteAt s i) = false → Weak (.tup [.int .i64 0, .bool false]) (.tup [.int .i64 (decV s), .bool (decB s)]) := fun hdg => by
          have : decAll s = false := by
            cases ha : decAll s with
            | false => rfl
            | true => rw [decAll_iff.1 ha i hi] at hdg; cases hdg
          have : decR s = none := by simp [decR, this]
          rw [decV, decB, this]
          exact Weak.refl _
        simp (config := {contextual := true, maxSteps := 5000000}) only [go_sem, false_and, Nat.reduceAdd, Nat.reduceLT, Nat.reduceBEq, Nat.reduceSub, Nat.reduceMul, Nat.reduceLeDiff, Int.reduceToNat, Nat.reduceEqDiff, Nat.reduceMod, h0, h3, h4, hl, hd, hw, hw2]
        refine ⟨⟨by omega, by omega⟩, fun x => ⟨⟨by omega, by omega⟩, fun y => ?_, fun y => ?_⟩, fun x => ?_⟩
        · exact hno (by rw [← Bool.not_eq_true, dig_iff]; simp only [decide_eq_true_eq] at y; omega)
        · have hdg : digit (byteAt s i) = true := by rw [dig_iff]; simp only [decide_eq_false_iff_not] at x y; exact ⟨x, y⟩
          have hdb := dig_iff.1 hdg
          have hw3 : IntKind.u8.wrap (byteAt s i - 48) = byteAt s i - 48 := num_u8 (by omega)
          have hw4 : IntKind.i64.wrap (byteAt s i - 48) = byteAt s i - 48 := wrap_i64 (by omega) (by omega)
          have hw5 : IntKind.i64.wrap (valN s i * 10 + (byteAt s i - 48)) = valN s (i + 1) := wrap_i64 (by omega) (by omega)
          rw [hw3, hw4, hw5]
          exact ⟨⟨by omega, by omega⟩, j - 1, by omega, i + 1, rfl, rfl, by omega, fun q hq => by
            by_cases e : q = i
            · rw [e]; exact hdg
            · exact hall q (by omega)⟩
        · exact hno (by rw [← Bool.not_eq_true, dig_iff]; simp only [decide_eq_true_eq] at x; omega)
      · have hd : decide ((i : Int) < (s.size : Int)) = false := by simp; omega
        have hii : i = s.size := by omega
        have : decAll s = true := decAll_iff.2 fun q hq => hall q (by omega)
        have : decR s = some (valN s s.size) := by simp [decR, hb0, this]
        simp (config := {contextual := true, maxSteps := 5000000}) only [go_sem, false_and, Nat.reduceAdd, Nat.reduceLT, Nat.reduceBEq, Nat.reduceSub, Nat.reduceMul, Nat.reduceLeDiff, Int.reduceToNat, Nat.reduceEqDiff, Nat.reduceMod, h0, h3, h4, hl, hd]
        rw [hii, decV, decB, this]
        exact Weak.refl _
/-- What package unit reads of a reason's words. -/
def rdP : List ByteArray → Step × Bool
  | [a, b] => if eqS a ⟨#[97, 120, 105, 111, 109]⟩ = true then (⟨noE, 1, decV b, 0, ⟨#[]⟩⟩, decB b) else if eqS a ⟨#[99, 105, 116, 101]⟩ = true then (⟨noE, 4, 0, 0, b⟩, true) else (noStep, false)
  | [a, b, c] => if eqS a ⟨#[100, 101, 116, 97, 99, 104]⟩ = true then (⟨noE, 2, decV b, decV c, ⟨#[]⟩⟩, decB b && decB c)
    else if eqS a ⟨#[103, 101, 110]⟩ = true then
      (⟨noE, 3, decV b, decV (if beg c ⟨#[120]⟩ then c.extract 1 c.size else c), ⟨#[]⟩⟩, decB b && (((decB (if beg c ⟨#[120]⟩ then c.extract 1 c.size else c)) && beg c ⟨#[120]⟩) && decide (decV (if beg c ⟨#[120]⟩ then c.extract 1 c.size else c) ≤ 63)))
    else (noStep, false)
  | _ => (noStep, false)
theorem beg_x (c : ByteArray) : beg c ⟨#[120]⟩ = true ↔ 0 < c.size ∧ byteAt c 0 = 120 := by
  have h1 : beg c ⟨#[120]⟩ = Lib.hasPrefix c.data.toList [120] := Lib.hasPrefix_raw c ⟨#[120]⟩
  have hl : c.data.toList.length = c.size := by rw [Array.length_toList]; rfl
  rw [h1]
  unfold Lib.hasPrefix
  cases hd : c.data.toList with
  | nil =>
    rw [hd] at hl
    simp only [List.length_nil] at hl
    simp [List.isPrefixOf]
    omega
  | cons b l =>
    rw [hd, List.length_cons] at hl
    obtain ⟨b', q1, q2⟩ := byteAt_list c 0 (by omega)
    rw [hd] at q1
    simp only [List.getElem?_cons_zero, Option.some.injEq] at q1
    subst q1
    have q2 : byteAt c 0 = (b.toNat : Int) := q2
    rw [q2]
    simp only [List.isPrefixOf, Bool.and_true, beq_iff_eq]
    constructor
    · intro h
      subst h
      exact ⟨by omega, rfl⟩
    · intro h
      exact (UInt8.toNat_inj.1 (by have : (120 : UInt8).toNat = 120 := rfl; omega)).symm
theorem dec_num {s : ByteArray} (h : decB s = true) : number (decV s) = true := by
  unfold decB at h
  obtain ⟨n, hn⟩ := Option.isSome_iff_exists.1 h
  have := decR_ge hn
  have hv : decV s = n := by rw [decV, hn]
  rw [hv]
  simp [number, this]
theorem e0_nil : e0 ⟨#[]⟩ = true := by simp [e0]
theorem rd_eq (w : List ByteArray) : (rdP w).2 = (rdW w).2 ∧ ((rdW w).2 = true → rdP w = rdW w ∧ (rdW w).1.fine = true) := by
  have hfalse : ∀ {P : Prop}, ((noStep, false) : Step × Bool).2 = true → P := fun h => by cases h
  match w with
  | [] => simp [rdP, rdW]
  | [a] => simp [rdP, rdW]
  | a :: b :: c :: d :: w => simp [rdP, rdW]
  | [a, b] =>
    obtain ⟨hb1, hb2⟩ := decI_eq b
    cases h1 : eqS a ⟨#[97, 120, 105, 111, 109]⟩ <;> cases h2 : eqS a ⟨#[99, 105, 116, 101]⟩ <;> cases hB : decB b <;> rw [hB] at hb1 <;>
      simp only [rdP, rdW, h1, h2, hb1, hB, Bool.false_eq_true, if_true, if_false, false_implies, true_implies, and_self, true_and, noStep, Step.fine]
    all_goals first
      | trivial
      | (rw [hb2 hB]; exact ⟨rfl, by simp [dec_num hB, e0_nil]⟩)
      | rfl
  | [a, b, c] =>
    obtain ⟨hb1, hb2⟩ := decI_eq b
    cases h1 : eqS a ⟨#[100, 101, 116, 97, 99, 104]⟩ with
    | true =>
      obtain ⟨hc1, hc2⟩ := decI_eq c
      cases hB : decB b <;> cases hC : decB c <;> rw [hB] at hb1 <;> rw [hC] at hc1 <;>
        simp only [rdP, rdW, h1, hb1, hB, hc1, hC, Bool.false_eq_true, Bool.and_false, Bool.and_true, if_true, if_false, false_implies, true_implies, and_self, true_and, Step.fine]
      rw [hb2 hB, hc2 hC]
      exact ⟨rfl, by simp [dec_num hB, dec_num hC, e0_nil]⟩
    | false =>
      cases h2 : eqS a ⟨#[103, 101, 110]⟩ with
      | false =>
        simp only [rdP, rdW, h1, h2, Bool.false_eq_true, false_and, if_false, false_implies, and_self]
      | true =>
        cases hx : beg c ⟨#[120]⟩ with
        | false =>
          have hn : ¬ (0 < c.size ∧ byteAt c 0 = 120) := fun h => by rw [(beg_x c).2 h] at hx; cases hx
          simp only [rdP, rdW, h1, h2, hx, hn, Bool.false_eq_true, Bool.and_false, Bool.false_and, and_false, if_false, if_true, false_implies, and_self]
        | true =>
          have hy := (beg_x c).1 hx
          generalize hd : c.extract 1 c.size = d
          obtain ⟨hc1, hc2⟩ := decI_eq d
          cases hB : decB b <;> cases hC : decB d <;> rw [hB] at hb1 <;> rw [hC] at hc1 <;>
            simp only [rdP, rdW, h1, h2, hx, hy, hd, hb1, hB, hc1, hC, Bool.false_eq_true, Bool.and_false, Bool.false_and, Bool.and_true, Bool.true_and, and_self, if_true, if_false, false_implies, true_implies, true_and, Step.fine]
          rw [hb2 hB, hc2 hC]
          refine ⟨by first | trivial | rfl, fun h => ⟨rfl, ?_⟩⟩
          have h9 := dec_num hC
          simp only [number, Bool.and_eq_true, decide_eq_true_eq] at h9 h
          simp [dec_num hB, e0_nil, h9.1, h]
def specRp : Spec := (Spec.no.add 83 (sp1 dS (fun _ => True) fun s => .tup [.int .i64 (decV s), .bool (decB s)])).add 23 (sp2 dS dS (fun _ _ => True) fun s p => .tup [.str (if beg s p then s.extract p.size s.size else s), .bool (beg s p)])
theorem specRp_ok : SpecOk Tryz.prog w0 specRp := (Spec.no_ok.add (sp1_ok fun s _ k H => decimal_call s)).add (sp2_ok fun s p _ k H => cutPrefix_call s p)
theorem step_weakP {w : List ByteArray} {n a b : Int} {c : ByteArray} {t : Bool} (h : rdP w = (⟨noE, n, a, b, c⟩, t)) : Weak (.tup [.agg [.int .i64 0, .int .i64 0, .list .nil [], .int .i64 n, .int .i64 a, .int .i64 b, .str c], .bool t]) (.tup [(rdP w).1.av, .bool (rdP w).2]) := by
  rw [h]
  exact step_weak
/-- Which of the four words it is. -/
theorem eqS_cases (a : ByteArray) :
    (eqS a ⟨#[97, 120, 105, 111, 109]⟩ = true ∧ eqS a ⟨#[100, 101, 116, 97, 99, 104]⟩ = false ∧ eqS a ⟨#[103, 101, 110]⟩ = false ∧ eqS a ⟨#[99, 105, 116, 101]⟩ = false) ∨
    (eqS a ⟨#[97, 120, 105, 111, 109]⟩ = false ∧ eqS a ⟨#[100, 101, 116, 97, 99, 104]⟩ = true ∧ eqS a ⟨#[103, 101, 110]⟩ = false ∧ eqS a ⟨#[99, 105, 116, 101]⟩ = false) ∨
    (eqS a ⟨#[97, 120, 105, 111, 109]⟩ = false ∧ eqS a ⟨#[100, 101, 116, 97, 99, 104]⟩ = false ∧ eqS a ⟨#[103, 101, 110]⟩ = true ∧ eqS a ⟨#[99, 105, 116, 101]⟩ = false) ∨
    (eqS a ⟨#[97, 120, 105, 111, 109]⟩ = false ∧ eqS a ⟨#[100, 101, 116, 97, 99, 104]⟩ = false ∧ eqS a ⟨#[103, 101, 110]⟩ = false ∧ eqS a ⟨#[99, 105, 116, 101]⟩ = true) ∨
    (eqS a ⟨#[97, 120, 105, 111, 109]⟩ = false ∧ eqS a ⟨#[100, 101, 116, 97, 99, 104]⟩ = false ∧ eqS a ⟨#[103, 101, 110]⟩ = false ∧ eqS a ⟨#[99, 105, 116, 101]⟩ = false) := by
  have key : ∀ p q : ByteArray, eqS p q = false → eqS a p = true → eqS a q = false := fun p q h h1 => by
    have : a.toList = p.toList := by simpa using h1
    simpa [eqS, this] using h
  have d : ∀ p q : ByteArray, (p.data == q.data) = false → eqS p q = false := fun p q h => by
    rw [← Bool.not_eq_true]
    intro h1
    have : p.toList = q.toList := by simpa using h1
    rw [Lib.toList_data, Lib.toList_data] at this
    have : p.data = q.data := Array.ext' this
    simp [this] at h
  cases h1 : eqS a ⟨#[97, 120, 105, 111, 109]⟩ with
  | true => exact .inl ⟨rfl, key _ _ (d _ _ rfl) h1, key _ _ (d _ _ rfl) h1, key _ _ (d _ _ rfl) h1⟩
  | false =>
    cases h2 : eqS a ⟨#[100, 101, 116, 97, 99, 104]⟩ with
    | true => exact .inr (.inl ⟨rfl, rfl, key _ _ (d _ _ rfl) h2, key _ _ (d _ _ rfl) h2⟩)
    | false =>
      cases h3 : eqS a ⟨#[103, 101, 110]⟩ with
      | true => exact .inr (.inr (.inl ⟨rfl, rfl, rfl, key _ _ (d _ _ rfl) h3⟩))
      | false =>
        cases h4 : eqS a ⟨#[99, 105, 116, 101]⟩ with
        | true => exact .inr (.inr (.inr (.inl ⟨rfl, rfl, rfl, rfl⟩)))
        | false => exact .inr (.inr (.inr (.inr ⟨rfl, rfl, rfl, rfl⟩)))
/-- What is known of the words of a reason. -/
def Words (w0 : Base) (s : ByteArray) (w : List ByteArray) : Prop := ∀ k H, CallAt Tryz.prog w0 k 48 [.str s, .str ⟨#[32]⟩] H (H.upd ⟨1, k, 9⟩ (some .tok)) (.list (.tok ⟨1, k, 9⟩) (w.map cS.enc))
abbrev ReadIs (w0 : Base) (k : List Nat) (H : Hp) (s : ByteArray) (w : List ByteArray) : Prop := CallAt Tryz.prog w0 k 53 [.str s] H H (.tup [(rdP w).1.av, .bool (rdP w).2])
theorem read_two {s a b : ByteArray} (hsp : Words w0 s [a, b]) : ReadIs w0 k H s [a, b] := by
  refine callAt tabOk specRp_ok mixed Tryz.func53 rfl rfl Tryz.results53 Tryz.ntmps53 (by simp) [] ?_
  intro hfr t hl ht
  simp only [At, Nat.reduceAdd, List.cons_append, List.nil_append] at ht
  have fN : ∀ (a b : Nat) z ty, H ⟨z, a :: b :: k, ty⟩ = none := fun a b z ty => hfr _ (sfx2 _ _ _)
  have n22 : (((2 : Nat) : Int) == 2) = true := rfl
  have n23 : (((2 : Nat) : Int) == 3) = false := rfl
  have b01 : (0 : Int) ≤ 0 ∧ (0 : Int) < ((2 : Nat) : Int) := by omega
  have b11 : (0 : Int) ≤ 1 ∧ (1 : Int) < ((2 : Nat) : Int) := by omega
  simp only [Words, List.map_cons, List.map_nil, cS_at] at hsp
  rcases eqS_cases a with ⟨h1, h2, h3, h4⟩ | ⟨h1, h2, h3, h4⟩ | ⟨h1, h2, h3, h4⟩ | ⟨h1, h2, h3, h4⟩ | ⟨h1, h2, h3, h4⟩
  · simp (config := {contextual := true, maxSteps := 5000000}) only [go_sem, false_and, Nat.reduceAdd, Nat.reduceLT, Nat.reduceBEq, Nat.reduceSub, Nat.reduceMul, Nat.reduceLeDiff, Int.reduceToNat, Nat.reduceEqDiff, Nat.reduceMod, ht, hl]
    refine callK_intro (hsp _ _) ?_
    simp (config := {contextual := true, maxSteps := 5000000}) only [go_sem, false_and, Nat.reduceAdd, Nat.reduceLT, Nat.reduceBEq, Nat.reduceSub, Nat.reduceMul, Nat.reduceLeDiff, Int.reduceToNat, Nat.reduceEqDiff, Nat.reduceMod, ht, hl, specRp, h1, h2, h3, h4, n22, n23, b01, b11]
    exact ⟨fun x => ⟨step_weakP (by simp [rdP, h1, x]), by (repeat (first | exact Hp.Le.refl _ | refine Hp.le_upd ?_ (fN _ _ _ _)))⟩, fun x => ⟨step_weakP (by simp [rdP, h1, x]), by (repeat (first | exact Hp.Le.refl _ | refine Hp.le_upd ?_ (fN _ _ _ _)))⟩⟩
  all_goals
    simp (config := {contextual := true, maxSteps := 5000000}) only [go_sem, false_and, Nat.reduceAdd, Nat.reduceLT, Nat.reduceBEq, Nat.reduceSub, Nat.reduceMul, Nat.reduceLeDiff, Int.reduceToNat, Nat.reduceEqDiff, Nat.reduceMod, ht, hl]
    refine callK_intro (hsp _ _) ?_
    simp (config := {contextual := true, maxSteps := 5000000}) only [go_sem, false_and, Nat.reduceAdd, Nat.reduceLT, Nat.reduceBEq, Nat.reduceSub, Nat.reduceMul, Nat.reduceLeDiff, Int.reduceToNat, Nat.reduceEqDiff, Nat.reduceMod, ht, hl, specRp, h1, h2, h3, h4, n22, n23, b01, b11]
    exact ⟨step_weakP (by simp [rdP, h1, h4, noStep]), by (repeat (first | exact Hp.Le.refl _ | refine Hp.le_upd ?_ (fN _ _ _ _)))⟩
theorem read_three {s a b c : ByteArray} (hsp : Words w0 s [a, b, c]) : ReadIs w0 k H s [a, b, c] := by
  refine callAt tabOk specRp_ok mixed Tryz.func53 rfl rfl Tryz.results53 Tryz.ntmps53 (by simp) [] ?_
  intro hfr t hl ht
  simp only [At, Nat.reduceAdd, List.cons_append, List.nil_append] at ht
  have fN : ∀ (a b : Nat) z ty, H ⟨z, a :: b :: k, ty⟩ = none := fun a b z ty => hfr _ (sfx2 _ _ _)
  have n32 : (((3 : Nat) : Int) == 2) = false := rfl
  have n33 : (((3 : Nat) : Int) == 3) = true := rfl
  have b02 : (0 : Int) ≤ 0 ∧ (0 : Int) < ((3 : Nat) : Int) := by omega
  have b12 : (0 : Int) ≤ 1 ∧ (1 : Int) < ((3 : Nat) : Int) := by omega
  have b22 : (0 : Int) ≤ 2 ∧ (2 : Int) < ((3 : Nat) : Int) := by omega
  have z1 : (#[120] : Array UInt8).size = 1 := rfl
  simp only [Words, List.map_cons, List.map_nil, cS_at] at hsp
  rcases eqS_cases a with ⟨h1, h2, h3, h4⟩ | ⟨h1, h2, h3, h4⟩ | ⟨h1, h2, h3, h4⟩ | ⟨h1, h2, h3, h4⟩ | ⟨h1, h2, h3, h4⟩
  · simp (config := {contextual := true, maxSteps := 5000000}) only [go_sem, false_and, Nat.reduceAdd, Nat.reduceLT, Nat.reduceBEq, Nat.reduceSub, Nat.reduceMul, Nat.reduceLeDiff, Int.reduceToNat, Nat.reduceEqDiff, Nat.reduceMod, ht, hl]
    refine callK_intro (hsp _ _) ?_
    simp (config := {contextual := true, maxSteps := 5000000}) only [go_sem, false_and, Nat.reduceAdd, Nat.reduceLT, Nat.reduceBEq, Nat.reduceSub, Nat.reduceMul, Nat.reduceLeDiff, Int.reduceToNat, Nat.reduceEqDiff, Nat.reduceMod, ht, hl, specRp, h1, h2, h3, h4, n32, n33, b02, b12, b22]
    exact ⟨step_weakP (by simp [rdP, h2, h3, noStep]), by (repeat (first | exact Hp.Le.refl _ | refine Hp.le_upd ?_ (fN _ _ _ _)))⟩
  · have hr : rdP [a, b, c] = (⟨noE, 2, decV b, decV c, ⟨#[]⟩⟩, decB b && decB c) := by simp only [rdP, h2, if_true]
    simp (config := {contextual := true, maxSteps := 5000000}) only [go_sem, false_and, Nat.reduceAdd, Nat.reduceLT, Nat.reduceBEq, Nat.reduceSub, Nat.reduceMul, Nat.reduceLeDiff, Int.reduceToNat, Nat.reduceEqDiff, Nat.reduceMod, ht, hl]
    refine callK_intro (hsp _ _) ?_
    simp (config := {contextual := true, maxSteps := 5000000}) only [go_sem, false_and, Nat.reduceAdd, Nat.reduceLT, Nat.reduceBEq, Nat.reduceSub, Nat.reduceMul, Nat.reduceLeDiff, Int.reduceToNat, Nat.reduceEqDiff, Nat.reduceMod, ht, hl, specRp, h1, h2, h3, h4, n32, n33, b02, b12, b22]
    (repeat' (first | (with_reducible apply And.intro) | (with_reducible intro _))) <;> first | (refine step_weakP (hr.trans ?_); congr 1; simp [*]; done) | (refine step_weakP (hr.trans ?_); congr 1; done) | (repeat (first | exact Hp.Le.refl _ | refine Hp.le_upd ?_ (fN _ _ _ _)))
  · generalize hd : (if beg c ⟨#[120]⟩ then c.extract 1 c.size else c) = d
    have hr : rdP [a, b, c] = (⟨noE, 3, decV b, decV d, ⟨#[]⟩⟩, decB b && ((decB d && beg c ⟨#[120]⟩) && decide (decV d ≤ 63))) := by
      simp only [rdP, h2, h3, hd, if_true, if_false, Bool.false_eq_true]
    have hX : beg c ⟨#[120]⟩ = true ∧ c.extract 1 c.size = d ∨ beg c ⟨#[120]⟩ = false ∧ c = d := by
      cases hx : beg c ⟨#[120]⟩ with
      | true => rw [hx] at hd; exact .inl ⟨rfl, by simpa using hd⟩
      | false => rw [hx] at hd; exact .inr ⟨rfl, by simpa using hd⟩
    rcases hX with ⟨hX, hd⟩ | ⟨hX, rfl⟩
    · rw [hX] at hr
      simp (config := {contextual := true, maxSteps := 5000000}) only [go_sem, false_and, Nat.reduceAdd, Nat.reduceLT, Nat.reduceBEq, Nat.reduceSub, Nat.reduceMul, Nat.reduceLeDiff, Int.reduceToNat, Nat.reduceEqDiff, Nat.reduceMod, ht, hl]
      refine callK_intro (hsp _ _) ?_
      simp (config := {contextual := true, maxSteps := 5000000}) only [go_sem, false_and, Nat.reduceAdd, Nat.reduceLT, Nat.reduceBEq, Nat.reduceSub, Nat.reduceMul, Nat.reduceLeDiff, Int.reduceToNat, Nat.reduceEqDiff, Nat.reduceMod, ht, hl, specRp, h1, h2, h3, h4, n32, n33, b02, b12, b22, hX, z1, hd]
      (repeat' (first | (with_reducible apply And.intro) | (with_reducible intro _))) <;> first | (refine step_weakP (hr.trans ?_); congr 1; simp [*]; done) | (refine step_weakP (hr.trans ?_); congr 1; done) | (repeat (first | exact Hp.Le.refl _ | refine Hp.le_upd ?_ (fN _ _ _ _)))
    · rw [hX] at hr
      simp (config := {contextual := true, maxSteps := 5000000}) only [go_sem, false_and, Nat.reduceAdd, Nat.reduceLT, Nat.reduceBEq, Nat.reduceSub, Nat.reduceMul, Nat.reduceLeDiff, Int.reduceToNat, Nat.reduceEqDiff, Nat.reduceMod, ht, hl]
      refine callK_intro (hsp _ _) ?_
      simp (config := {contextual := true, maxSteps := 5000000}) only [go_sem, false_and, Nat.reduceAdd, Nat.reduceLT, Nat.reduceBEq, Nat.reduceSub, Nat.reduceMul, Nat.reduceLeDiff, Int.reduceToNat, Nat.reduceEqDiff, Nat.reduceMod, ht, hl, specRp, h1, h2, h3, h4, n32, n33, b02, b12, b22, hX, z1]
      (repeat' (first | (with_reducible apply And.intro) | (with_reducible intro _))) <;> first | (refine step_weakP (hr.trans ?_); congr 1; simp [*]; done) | (refine step_weakP (hr.trans ?_); congr 1; done) | (repeat (first | exact Hp.Le.refl _ | refine Hp.le_upd ?_ (fN _ _ _ _)))
  all_goals
    simp (config := {contextual := true, maxSteps := 5000000}) only [go_sem, false_and, Nat.reduceAdd, Nat.reduceLT, Nat.reduceBEq, Nat.reduceSub, Nat.reduceMul, Nat.reduceLeDiff, Int.reduceToNat, Nat.reduceEqDiff, Nat.reduceMod, ht, hl]
    refine callK_intro (hsp _ _) ?_
    simp (config := {contextual := true, maxSteps := 5000000}) only [go_sem, false_and, Nat.reduceAdd, Nat.reduceLT, Nat.reduceBEq, Nat.reduceSub, Nat.reduceMul, Nat.reduceLeDiff, Int.reduceToNat, Nat.reduceEqDiff, Nat.reduceMod, ht, hl, specRp, h1, h2, h3, h4, n32, n33, b02, b12, b22]
    exact ⟨step_weakP (by simp [rdP, h2, h3, noStep]), by (repeat (first | exact Hp.Le.refl _ | refine Hp.le_upd ?_ (fN _ _ _ _)))⟩
theorem read_other {s a : ByteArray} {w : List ByteArray} (hsp : Words w0 s (a :: w)) (hw : (((w.length + 1 : Nat) : Int) == 2) = false) (hw3 : (((w.length + 1 : Nat) : Int) == 3) = false) (hr : rdP (a :: w) = (noStep, false)) : ReadIs w0 k H s (a :: w) := by
  refine callAt tabOk specRp_ok mixed Tryz.func53 rfl rfl Tryz.results53 Tryz.ntmps53 (by simp) [] ?_
  intro hfr t hl ht
  simp only [At, Nat.reduceAdd, List.cons_append, List.nil_append] at ht
  have fN : ∀ (a b : Nat) z ty, H ⟨z, a :: b :: k, ty⟩ = none := fun a b z ty => hfr _ (sfx2 _ _ _)
  have b00 : (0 : Int) ≤ 0 ∧ (0 : Int) < ((w.length + 1 : Nat) : Int) := by omega
  simp only [Words, List.map_cons, cS_at] at hsp
  rcases eqS_cases a with ⟨h1, h2, h3, h4⟩ | ⟨h1, h2, h3, h4⟩ | ⟨h1, h2, h3, h4⟩ | ⟨h1, h2, h3, h4⟩ | ⟨h1, h2, h3, h4⟩
  all_goals
    simp (config := {contextual := true, maxSteps := 5000000}) only [go_sem, false_and, Nat.reduceAdd, Nat.reduceLT, Nat.reduceBEq, Nat.reduceSub, Nat.reduceMul, Nat.reduceLeDiff, Int.reduceToNat, Nat.reduceEqDiff, Nat.reduceMod, ht, hl]
    refine callK_intro (hsp _ _) ?_
    simp (config := {contextual := true, maxSteps := 5000000}) only [go_sem, false_and, Nat.reduceAdd, Nat.reduceLT, Nat.reduceBEq, Nat.reduceSub, Nat.reduceMul, Nat.reduceLeDiff, Int.reduceToNat, Nat.reduceEqDiff, Nat.reduceMod, ht, hl, specRp, h1, h2, h3, h4, hw, hw3, b00]
    exact ⟨step_weakP hr, by (repeat (first | exact Hp.Le.refl _ | refine Hp.le_upd ?_ (fN _ _ _ _)))⟩
theorem read_callU (hm : MaxW w0) (s : ByteArray) (hs : s.size ≤ 4000000000) : CallAt Tryz.prog w0 k 53 [.str s] H H (.tup [(rdP (cutC s 32)).1.av, .bool (rdP (cutC s 32)).2]) := by
  have hlen := cutC_len s 32
  have hsp : Words w0 s (cutC s 32) := fun k H => split_call (w0 := w0) (k := k) (H := H) hm s 32 (by omega)
  generalize cutC s 32 = w at hlen hsp ⊢
  match w with
  | [a, b] => exact read_two hsp
  | [a, b, c] => exact read_three hsp
  | [] => simp at hlen
  | [a] => exact read_other hsp rfl rfl rfl
  | a :: b :: c :: d :: w => exact read_other hsp (by simp; omega) (by simp; omega) (by simp [rdP])
end Go.Proofs.YtkdendaohlnlcaaGreatDoor.Av
