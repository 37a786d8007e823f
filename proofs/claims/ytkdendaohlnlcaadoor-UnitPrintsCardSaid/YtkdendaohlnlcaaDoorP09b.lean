/- What unit.written and unit.Right answer. No condition. -/
import Derived.Test.YtkdendaohlnlcaaDoorP02b
import Derived.Test.YtkdendaohlnlcaaDoorP09
namespace Go.Proofs.YtkdendaohlnlcaaDoor.Av
set_option linter.unusedVariables false
set_option linter.unusedSimpArgs false
set_option maxRecDepth 4000
set_option maxHeartbeats 1000000
variable {w0 : Base} {k : List Nat} {H : Hp}
theorem written_call (e : E) (hok : e.ok) : CallAt Tryd.prog w0 k 18 [e.av] H H (.int .i64 e.written) := by
  refine callAt tabOk specX5_ok mixed Tryd.func18 rfl rfl Tryd.results18 Tryd.ntmps18 (by simp) [] ?_
  intro hfr t hl ht
  simp only [At, Nat.reduceAdd, List.cons_append, List.nil_append] at ht
  simp (config := {contextual := true, maxSteps := 5000000}) only [go_sem, Nat.reduceAdd, Nat.reduceLT, Nat.reduceBEq, Nat.reduceSub, Nat.reduceMul, Nat.reduceLeDiff, Int.reduceToNat, Nat.reduceEqDiff, Nat.reduceMod, ht, hl, specX5]
  unfold E.written E.wantF
  (repeat' (first | apply And.intro | intro _)) <;> simp_all <;> omega
def U.okN (u : U) : Prop := u.ok ∧ (∀ s ∈ u.cites, (s.size : Int) ≤ 9223372036854775807) ∧ ∀ s ∈ u.steps, (s.cite.size : Int) ≤ 9223372036854775807
def specPU : Spec := ((Spec.no.add 17 (sp2 (dL cS) dS (fun l s => (l.length : Int) ≤ 9223372036854775807 ∧ (s.size : Int) ≤ 9223372036854775807) fun l s => .int .i64 (citedErr l s))).add
  18 (sp1 dE (fun e => e.ok) fun e => .int .i64 e.written)).add 19 (sp2 (dA cStep) dI (fun s _ => (s.cite.size : Int) ≤ 9223372036854775807) fun s i => .int .i64 (s.err i))
theorem specPU_ok : SpecOk Tryd.prog w0 specPU := ((Spec.no_ok.add (sp2_ok fun l s h k H => cited_call l s h.1 h.2)).add (sp1_ok fun e h k H => written_call e h)).add (sp2_ok fun s i h k H => reasoned_call s i h)
theorem namesGo_cited (l : List ByteArray) {i : Nat} {s : ByteArray} (hs : l[i]? = some s) : namesGo (l.take i) (l.drop i) = if citedErr (l.take i) s = 0 then namesGo (l.take (i + 1)) (l.drop (i + 1)) else citedErr (l.take i) s := by
  have hi : i < l.length := (List.getElem?_eq_some_iff.1 hs).1
  have hlen : (l.take i).length = i := by rw [List.length_take]; omega
  rw [namesGo_at l hs]
  unfold citedErr
  rw [hlen]
  cases isName s with
  | false => simp
  | true =>
    cases (l.take i).any fun t => t.toList == s.toList with
    | true => simp
    | false =>
      by_cases h8 : 8 ≤ i
      · simp [h8]
      · simp [h8]
theorem stepsGo_err (l : List Step) {i : Nat} {s : Step} (h : l[i]? = some s) : stepsGo i (l.drop i) = if s.err i = 0 then (if s.says.written = 0 then stepsGo (i + 1) (l.drop (i + 1)) else s.says.written) else s.err i := by
  rw [stepsGo_at l h]
  unfold Step.err
  by_cases h6 : 60 ≤ i
  · have h6' : (60 : Int) ≤ (i : Int) := by omega
    simp only [if_pos h6, if_pos h6']
    simp
  · have h6' : ¬ (60 : Int) ≤ (i : Int) := by omega
    simp only [if_neg h6, if_neg h6']
theorem right_call (u : U) (hok : u.okN) : CallAt Tryd.prog w0 k 6 [(dA cU).enc u] H H (.int .i64 u.right) := by
  refine callAt tabOk specPU_ok mixed Tryd.func6 rfl rfl Tryd.results6 Tryd.ntmps6 (by simp) [] ?_
  intro hfr t hl ht
  simp only [At, dA, cU, U.cells] at ht
  simp (config := {contextual := true, maxSteps := 5000000}) only [go_sem, Nat.reduceAdd, Nat.reduceLT, Nat.reduceBEq, Nat.reduceSub, Nat.reduceMul, Nat.reduceLeDiff, Int.reduceToNat, Nat.reduceEqDiff, Nat.reduceMod, ht, hl, specPU]
  refine loop_inv tabOk specPU_ok mixed [] (fun j x => x.tmps.length = 54 ∧ x.tmps.getD 1 AV.undef = .sptr u.cells ∧ x.H = H) 1 ?_ ?_
  · simp (config := {contextual := true, maxSteps := 5000000}) only [go_sem, Nat.reduceAdd, Nat.reduceLT, Nat.reduceBEq, Nat.reduceSub, Nat.reduceMul, Nat.reduceLeDiff, Int.reduceToNat, Nat.reduceEqDiff, Nat.reduceMod, ht, hl, U.cells]
  · rintro j ⟨t, n, H'⟩ ⟨hl, h1, rfl⟩
    simp only [U.cells] at hl h1
    simp (config := {contextual := true, maxSteps := 5000000}) only [go_sem, Nat.reduceAdd, Nat.reduceLT, Nat.reduceBEq, Nat.reduceSub, Nat.reduceMul, Nat.reduceLeDiff, Int.reduceToNat, Nat.reduceEqDiff, Nat.reduceMod, h1, hl]
    obtain ⟨⟨ok1, ok2, ok3, ok4⟩, ok5, ok6⟩ := hok
    refine loop_inv tabOk specPU_ok mixed [] (fun j x => ∃ i : Nat, x.tmps.length = 54 ∧ x.tmps.getD 1 AV.undef = .sptr u.cells ∧ x.tmps.getD 9 AV.undef = .list .none (u.cites.map cS.enc) ∧ x.tmps.getD 10 AV.undef = .int .i64 u.cites.length ∧ x.tmps.getD 11 AV.undef = .int .i64 i ∧ x.H = H' ∧ i + j = u.cites.length ∧
      namesGo (u.cites.take i) (u.cites.drop i) = namesGo [] u.cites) u.cites.length ⟨0, ?_⟩ ?_
    · simp (config := {contextual := true, maxSteps := 5000000}) only [go_sem, Nat.reduceAdd, Nat.reduceLT, Nat.reduceBEq, Nat.reduceSub, Nat.reduceMul, Nat.reduceLeDiff, Int.reduceToNat, Nat.reduceEqDiff, Nat.reduceMod, h1, hl, U.cells]
      simp
    · rintro j ⟨t, n, H''⟩ ⟨i, hl, h1, h9, h10, h11, hH, hij, hgo⟩
      simp only [U.cells] at hl h1 h9 h10 h11 hH
      subst hH
      by_cases hi : i < u.cites.length
      · have hd : decide ((i : Int) < (u.cites.length : Int)) = true := by simp [hi]
        have hw2 : IntKind.i64.wrap ((i : Int) + 1) = ((i + 1 : Nat) : Int) := by rw [wrap_i64] <;> omega
        obtain ⟨s, hs, he⟩ := str_get u.cites hi
        have htk : (u.cites.map cS.enc).take i = (u.cites.take i).map cS.enc := by rw [List.map_take]
        have hat := namesGo_at u.cites hs
        have hgo2 := namesGo_cited u.cites hs
        simp (config := {contextual := true, maxSteps := 5000000}) only [go_sem, Nat.reduceAdd, Nat.reduceLT, Nat.reduceBEq, Nat.reduceSub, Nat.reduceMul, Nat.reduceLeDiff, Int.reduceToNat, Nat.reduceEqDiff, Nat.reduceMod, he, htk, specPU, h1, h9, h10, h11, hl, hd, hw2]
        have hen : ∀ x ∈ u.cites.map cS.enc, x.length = 1 := fun x hx => by
          obtain ⟨y, _, rfl⟩ := List.mem_map.1 hx
          rfl
        have hsz : (s.size : Int) ≤ 9223372036854775807 := ok5 s (List.mem_of_getElem? hs)
        refine ⟨⟨by omega, by omega⟩, ⟨by omega, by omega, hen⟩, ⟨by rw [List.length_take]; omega, hsz⟩, fun a => ?_, fun a => ⟨j - 1, by omega, i + 1, rfl, rfl, by omega, ?_⟩⟩
        · simp only [bne_iff_ne, ne_eq] at a
          have : namesGo [] u.cites = citedErr (u.cites.take i) s := by rw [← hgo, hgo2, if_neg a]
          rw [U.right, this, if_neg a]
        · simp only [bne_eq_false_iff_eq] at a
          rw [← hgo, hgo2, if_pos a]
      · have hd : decide ((i : Int) < (u.cites.length : Int)) = false := by simp; omega
        have hnm : namesGo [] u.cites = 0 := by rw [← hgo, List.drop_of_length_le (by omega)]; rfl
        simp (config := {contextual := true, maxSteps := 5000000}) only [go_sem, Nat.reduceAdd, Nat.reduceLT, Nat.reduceBEq, Nat.reduceSub, Nat.reduceMul, Nat.reduceLeDiff, Int.reduceToNat, Nat.reduceEqDiff, Nat.reduceMod, h1, h9, h10, h11, hl, hd, specPU]
        refine ⟨ok3, fun a => ?_, fun a => ⟨fun b => ?_, fun b => ?_⟩⟩
        · simp only [bne_iff_ne, ne_eq] at a
          simp [U.right, hnm, a]
        · simp only [bne_eq_false_iff_eq, beq_iff_eq] at a b
          have : u.steps.length = 0 := by omega
          simp [U.right, hnm, a, this]
        · simp only [bne_eq_false_iff_eq, beq_eq_false_iff_ne] at a b
          have hr : u.right = stepsGo 0 u.steps := by
            have : u.steps.length ≠ 0 := by omega
            simp [U.right, hnm, a, this]
          refine loop_inv tabOk specPU_ok mixed [] (fun j x => ∃ i : Nat, x.tmps.length = 54 ∧ x.tmps.getD 3 AV.undef = .int .i64 0 ∧ x.tmps.getD 35 AV.undef = .list .none (u.steps.map cStep.enc) ∧
            x.tmps.getD 36 AV.undef = .int .i64 u.steps.length ∧ x.tmps.getD 37 AV.undef = .int .i64 i ∧ H''.Le x.H ∧ i + j = u.steps.length ∧ stepsGo i (u.steps.drop i) = u.right) u.steps.length ⟨0, ?_⟩ ?_
          · simp (config := {contextual := true, maxSteps := 5000000}) only [go_sem, Nat.reduceAdd, Nat.reduceLT, Nat.reduceBEq, Nat.reduceSub, Nat.reduceMul, Nat.reduceLeDiff, Int.reduceToNat, Nat.reduceEqDiff, Nat.reduceMod, h1, h9, h10, h11, hl]
            simp [hr, a, Hp.Le.refl]
          · rintro j ⟨t, n, H3⟩ ⟨i, hl, h3, h35, h36, h37, hH, hij, hgo⟩
            simp only at hl h3 h35 h36 h37 hH
            by_cases hi : i < u.steps.length
            · have hd : decide ((i : Int) < (u.steps.length : Int)) = true := by simp [hi]
              have hw2 : IntKind.i64.wrap ((i : Int) + 1) = ((i + 1 : Nat) : Int) := by rw [wrap_i64] <;> omega
              obtain ⟨s, hs, he⟩ := step_get u.steps hi
              have hat := stepsGo_err u.steps hs
              have hcs : s.cells = [.int .i64 s.says.kind, .int .i64 s.says.id, .list .none (s.says.kids.map E.cells), .int .i64 s.by_, .int .i64 s.a, .int .i64 s.b, .str s.cite] := rfl
              rw [hcs] at he
              simp (config := {contextual := true, maxSteps := 5000000}) only [go_sem, Nat.reduceAdd, Nat.reduceLT, Nat.reduceBEq, Nat.reduceSub, Nat.reduceMul, Nat.reduceLeDiff, Int.reduceToNat, Nat.reduceEqDiff, Nat.reduceMod, he, specPU, h3, h35, h36, h37, hl, hd, hw2]
              have hn : H'' ⟨7, 3 :: (n + 1) :: k, 45⟩ = none := hfr _ (sfx2 _ _ _)
              have hle : ∀ a, H''.Le (H3.upd ⟨7, 3 :: (n + 1) :: k, 45⟩ a) := fun a => Hp.le_upd hH hn
              have hcz := ok6 s (List.mem_of_getElem? hs)
              have hso := ok4 s (List.mem_of_getElem? hs)
              rw [← hgo, hat]
              refine ⟨⟨by omega, by omega⟩, hcz, fun a => ⟨hso, fun b => ⟨?_, hle _⟩, fun b => ⟨j - 1, by omega, i + 1, ?_, rfl, hle _, by omega, ?_⟩⟩, fun a => ⟨fun b => ⟨?_, hle _⟩, fun b => ?_⟩⟩ <;> simp only [beq_iff_eq, beq_eq_false_iff_ne, bne_iff_ne, ne_eq, bne_eq_false_iff_eq] at a b
              · rw [if_pos a, if_neg b]
              · exact b
              · rw [if_pos a, if_pos b]
              · rw [if_neg a]
              · exact absurd b a
            · have hd : decide ((i : Int) < (u.steps.length : Int)) = false := by simp; omega
              simp (config := {contextual := true, maxSteps := 5000000}) only [go_sem, Nat.reduceAdd, Nat.reduceLT, Nat.reduceBEq, Nat.reduceSub, Nat.reduceMul, Nat.reduceLeDiff, Int.reduceToNat, Nat.reduceEqDiff, Nat.reduceMod, h3, h35, h36, h37, hl, hd]
              rw [← hgo, List.drop_of_length_le (by omega)]
              exact ⟨rfl, hH⟩
end Go.Proofs.YtkdendaohlnlcaaDoor.Av
