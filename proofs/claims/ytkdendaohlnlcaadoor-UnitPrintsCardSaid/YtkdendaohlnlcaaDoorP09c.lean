/- What unit.Print answers. No condition. -/
import Derived.Test.YtkdendaohlnlcaaDoorU09
namespace Go.Proofs.YtkdendaohlnlcaaDoor.Av
set_option linter.unusedVariables false
set_option linter.unusedSimpArgs false
set_option maxRecDepth 4000
set_option maxHeartbeats 1000000
variable {w0 : Base} {k : List Nat} {H : Hp}
def specIW : Spec := Spec.no.add 10 (sp1 dI (fun n => -9223372036854775808 ≤ n ∧ n ≤ 9223372036854775807) fun n => .str (T (Lib.itoa n)))
theorem specIW_ok (hw : TabW w0) : SpecOk Tryd.prog w0 specIW := Spec.no_ok.add (sp1_ok fun n h k H => itoa_call hw n h.1 h.2)
theorem reason_call (hw : TabW w0) (s : Step) (hs : s.fine = true) (hc : (s.cite.size : Int) ≤ 140737488355328) : CallAt Tryd.prog w0 k 11 [(dA cStep).enc s] H H (.str (T s.txt)) := by
  refine callAt tabOk (specIW_ok hw) mixed Tryd.func11 rfl rfl Tryd.results11 Tryd.ntmps11 (by simp) [] ?_
  intro hfr t hl ht
  simp only [At, dA, cStep, Step.cells] at ht
  obtain ⟨hb, ha0, ha9, hb0, hb9⟩ := fine_nums hs
  have ila := Lib.itoa_length_le s.a (by omega) (by omega)
  have ilb := Lib.itoa_length_le s.b (by omega) (by omega)
  have hcl := L_length s.cite
  have hcs : s.cite = ⟨(L s.cite).toArray⟩ := rfl
  unfold Step.txt
  rcases hb with hb | hb | hb | hb
  · simp (config := {contextual := true, maxSteps := 5000000}) only [go_sem, Nat.reduceAdd, Nat.reduceLT, Nat.reduceBEq, Nat.reduceSub, Nat.reduceMul, Nat.reduceLeDiff, Int.reduceToNat, Nat.reduceEqDiff, Nat.reduceMod, ht, hl, hb, specIW, Int.reduceBEq]
    (repeat' apply And.intro) <;> first | omega | (first | omega | ((try simp only [ByteArray.size_append, ByteArray.size_empty, T_size, List.size_toArray, List.length_append, List.length_cons, List.length_nil, Int.natCast_add] at *); omega)) | simp
  · simp (config := {contextual := true, maxSteps := 5000000}) only [go_sem, Nat.reduceAdd, Nat.reduceLT, Nat.reduceBEq, Nat.reduceSub, Nat.reduceMul, Nat.reduceLeDiff, Int.reduceToNat, Nat.reduceEqDiff, Nat.reduceMod, ht, hl, hb, specIW, Int.reduceBEq]
    refine ⟨⟨by omega, by omega⟩, by (first | omega | ((try simp only [ByteArray.size_append, ByteArray.size_empty, T_size, List.size_toArray, List.length_append, List.length_cons, List.length_nil, Int.natCast_add] at *); omega)), by (first | omega | ((try simp only [ByteArray.size_append, ByteArray.size_empty, T_size, List.size_toArray, List.length_append, List.length_cons, List.length_nil, Int.natCast_add] at *); omega)), ⟨by omega, by omega⟩, by (first | omega | ((try simp only [ByteArray.size_append, ByteArray.size_empty, T_size, List.size_toArray, List.length_append, List.length_cons, List.length_nil, Int.natCast_add] at *); omega)), ?_⟩
    simp
  · simp (config := {contextual := true, maxSteps := 5000000}) only [go_sem, Nat.reduceAdd, Nat.reduceLT, Nat.reduceBEq, Nat.reduceSub, Nat.reduceMul, Nat.reduceLeDiff, Int.reduceToNat, Nat.reduceEqDiff, Nat.reduceMod, ht, hl, hb, specIW, Int.reduceBEq]
    refine ⟨⟨by omega, by omega⟩, by (first | omega | ((try simp only [ByteArray.size_append, ByteArray.size_empty, T_size, List.size_toArray, List.length_append, List.length_cons, List.length_nil, Int.natCast_add] at *); omega)), by (first | omega | ((try simp only [ByteArray.size_append, ByteArray.size_empty, T_size, List.size_toArray, List.length_append, List.length_cons, List.length_nil, Int.natCast_add] at *); omega)), ⟨by omega, by omega⟩, by (first | omega | ((try simp only [ByteArray.size_append, ByteArray.size_empty, T_size, List.size_toArray, List.length_append, List.length_cons, List.length_nil, Int.natCast_add] at *); omega)), ?_⟩
    simp
  · simp (config := {contextual := true, maxSteps := 5000000}) only [go_sem, Nat.reduceAdd, Nat.reduceLT, Nat.reduceBEq, Nat.reduceSub, Nat.reduceMul, Nat.reduceLeDiff, Int.reduceToNat, Nat.reduceEqDiff, Nat.reduceMod, ht, hl, hb, specIW, Int.reduceBEq]
    refine ⟨⟨by omega, by omega⟩, ?_, ?_⟩
    · simp
      show (5 : Int) + (s.cite.size : Int) ≤ _
      omega
    · simp
      rfl
def specUP : Spec := ((specIW.add 6 (sp1 (dA cU) (fun u => u.okN) fun u => .int .i64 u.right)).add 9 (sp1 dE (fun e => e.ok) fun e => .tup [.str (T e.print), .int .i64 e.right])).add
  11 (sp1 (dA cStep) (fun s => s.fine = true ∧ (s.cite.size : Int) ≤ 140737488355328) fun s => .str (T s.txt))
theorem specUP_ok (hw : TabW w0) : SpecOk Tryd.prog w0 specUP := (((specIW_ok hw).add (sp1_ok fun u h k H => right_call u h)).add (sp1_ok fun e h k H => print_call e h)).add (sp1_ok fun s h k H => reason_call hw s h.1 h.2)
def specUJ : Spec := specUP.add 8 (sp2 (dL cS) dS (fun l sep => l.length ≤ 140737488355328 ∧ (joinT l sep).length ≤ 140737488355328) fun l sep => .str (T (joinT l sep)))
theorem specUJ_ok (hw : TabW w0) : SpecOk Tryd.prog w0 specUJ := (specUP_ok hw).add (sp2_ok fun l s h k H => join_call l s h.1 h.2)
theorem join_names (u : U) : joinT (T [99, 105, 116, 101, 115] :: u.cites) (T [32]) = u.names u.cites.length := by
  simp only [joinT, List.map_cons, L_T, Lib.join_cons, U.names, upTo_flat, Lib.joinTail, List.take_length, List.map_map]
  rfl
theorem printU_call (hw : TabW w0) (u : U) (hok : u.okN) : CallAt Tryd.prog w0 k 4 [(dA cU).enc u] H H (.tup [.str (T u.printT), .int .i64 u.printE]) := by
  refine callAt tabOk (specUJ_ok hw) mixed Tryd.func4 rfl rfl Tryd.results4 Tryd.ntmps4 (by simp) [] ?_
  intro hfr t hl ht
  simp only [At, dA, cU, U.cells] at ht
  simp (config := {contextual := true, maxSteps := 5000000}) only [go_sem, Nat.reduceAdd, Nat.reduceLT, Nat.reduceBEq, Nat.reduceSub, Nat.reduceMul, Nat.reduceLeDiff, Int.reduceToNat, Nat.reduceEqDiff, Nat.reduceMod, ht, hl, specUJ, specUP, specIW]
  refine ⟨hok, fun a => ?_, fun a => ?_⟩
  · simp only [bne_iff_ne, ne_eq] at a
    have h1 : u.printE = u.right := by rw [U.printE, if_neg a]
    rw [U.printT, h1, if_neg a]
    exact Weak.refl _
  · simp only [bne_eq_false_iff_eq] at a
    have hg := U.good_of a
    have hB := BdAt.new (H0 := H) (id := ⟨2, 0 :: 3 :: k, 37⟩) rfl rfl (hfr _ (sfx2 _ _ _))
    have hc8 := hg.c8
    have hnl := U.names_len hg _ (Nat.le_refl _)
    have hjn := join_names u
    have hX : (H.upd ⟨2, 0 :: 3 :: k, 37⟩ (some (.cells [.raw (.pointer none), .list .nil []]))) ⟨1, 3 :: 4 :: k, 9⟩ = none := by
      rw [Hp.upd_ne _ _ (by simp)]
      exact hfr _ (sfx2 _ _ _)
    refine ⟨cS_each _, by simp, cS_one _, by omega, by omega, trivial, ⟨by first | omega | (simp only [List.length_cons]; omega), by rw [hjn]; omega⟩, by rw [hjn]; (first | omega | ((try simp only [ByteArray.size_append, ByteArray.size_empty, T_size, List.size_toArray, List.length_append, List.length_cons, List.length_nil, Int.natCast_add] at *); omega)), ?_⟩
    rw [hjn]
    refine bdK (ws_call _ _ (by (first | omega | ((try simp only [ByteArray.size_append, ByteArray.size_empty, T_size, List.size_toArray, List.length_append, List.length_cons, List.length_nil, Int.natCast_add] at *); omega)))) (hB.mono (Hp.le_upd (Hp.Le.refl _) hX)) (by (first | omega | ((try simp only [ByteArray.size_append, ByteArray.size_empty, T_size, List.size_toArray, List.length_append, List.length_cons, List.length_nil, Int.natCast_add] at *); omega))) (free2 fun i hi => hfr i hi) fun H1 hB1 => ?_
    simp (config := {contextual := true, maxSteps := 5000000}) only [go_sem, Nat.reduceAdd, Nat.reduceLT, Nat.reduceBEq, Nat.reduceSub, Nat.reduceMul, Nat.reduceLeDiff, Int.reduceToNat, Nat.reduceEqDiff, Nat.reduceMod, hl, specUJ, specUP, specIW]
    have hst : u.states.print = u.states.txt := by rw [E.print, if_pos hg.states.1]
    have hsl := E.txt_len u.states (right_zero hg.states.1).2.2
    have hss := hg.states.2
    have hh : u.head = u.names u.cites.length ++ [10, 115, 116, 97, 116, 101, 115, 32] ++ u.states.txt ++ [10] := rfl
    have hhl := U.head_len hg
    obtain ⟨⟨okc, oks, okst, okss⟩, okn1, okn2⟩ := hok
    rw [hst]
    refine ⟨okst, by (first | omega | ((try simp only [ByteArray.size_append, ByteArray.size_empty, T_size, List.size_toArray, List.length_append, List.length_cons, List.length_nil, Int.natCast_add] at *); omega)), by (first | omega | ((try simp only [ByteArray.size_append, ByteArray.size_empty, T_size, List.size_toArray, List.length_append, List.length_cons, List.length_nil, Int.natCast_add] at *); omega)), bdK (ws_call _ _ (by (first | omega | ((try simp only [ByteArray.size_append, ByteArray.size_empty, T_size, List.size_toArray, List.length_append, List.length_cons, List.length_nil, Int.natCast_add] at *); omega)))) hB1 (by (first | omega | ((try simp only [ByteArray.size_append, ByteArray.size_empty, T_size, List.size_toArray, List.length_append, List.length_cons, List.length_nil, Int.natCast_add] at *); omega))) (free2 fun i hi => hfr i hi) fun H2 hB2 => ?_⟩
    simp (config := {contextual := true, maxSteps := 5000000}) only [go_sem, Nat.reduceAdd, Nat.reduceLT, Nat.reduceBEq, Nat.reduceSub, Nat.reduceMul, Nat.reduceLeDiff, Int.reduceToNat, Nat.reduceEqDiff, Nat.reduceMod, hl, specUJ, specUP, specIW]
    have hB2' := hB2.cast (t := T (u.part 0)) (by simp [L_append, L_T, U.part, upTo, hh, L])
    refine loop_inv tabOk (specUJ_ok hw) mixed [] (fun j x => ∃ i : Nat, x.tmps.length = 64 ∧ x.tmps.getD 5 AV.undef = .ptr ⟨2, 0 :: 3 :: k, 37⟩ 0 ∧ x.tmps.getD 35 AV.undef = .list .none (u.steps.map cStep.enc) ∧ x.tmps.getD 36 AV.undef = .int .i64 u.steps.length ∧
      x.tmps.getD 37 AV.undef = .int .i64 i ∧ i + j = u.steps.length ∧ 7 ≤ x.n ∧ BdAt H ⟨2, 0 :: 3 :: k, 37⟩ (T (u.part i)) x.H) u.steps.length ⟨0, ?_⟩ ?_
    · simp (config := {contextual := true, maxSteps := 5000000}) only [go_sem, Nat.reduceAdd, Nat.reduceLT, Nat.reduceBEq, Nat.reduceSub, Nat.reduceMul, Nat.reduceLeDiff, Int.reduceToNat, Nat.reduceEqDiff, Nat.reduceMod, hl]
      simp
      exact hB2'
    · rintro j ⟨t, n, H3⟩ ⟨i, hl, h5, h35, h36, h37, hij, hn, hB3⟩
      simp only at hl h5 h35 h36 h37 hn hB3
      have hs60 := hg.s60
      by_cases hi : i < u.steps.length
      · have hd : decide ((i : Int) < (u.steps.length : Int)) = true := by simp [hi]
        have hw2 : IntKind.i64.wrap ((i : Int) + 1) = ((i + 1 : Nat) : Int) := by rw [wrap_i64] <;> omega
        obtain ⟨s, hs, he⟩ := step_get u.steps hi
        have hgs := hg.steps s (List.mem_of_getElem? hs)
        have hpr : s.says.print = s.says.txt := by rw [E.print, if_pos hgs.2.2.1]
        have hP : u.part (i + 1) = u.part i ++ s.line i := by rw [U.part, U.part, upTo_succ hs, List.append_assoc]
        have hpl := U.part_len hg (i + 1) (by omega)
        have hpl2 := U.part_len hg i (by omega)
        have hll := Step.line_len hgs i (by omega)
        have hln : s.line i = Lib.itoa (i + 1 : Nat) ++ [32] ++ s.says.txt ++ [32, 58, 32] ++ s.txt ++ [10] := rfl
        have hcs := hgs.2.1
        have hlc := congrArg List.length hln
        simp only [List.length_append, List.length_cons, List.length_nil] at hlc
        simp (config := {contextual := true, maxSteps := 5000000}) only [go_sem, Nat.reduceAdd, Nat.reduceLT, Nat.reduceBEq, Nat.reduceSub, Nat.reduceMul, Nat.reduceLeDiff, Int.reduceToNat, Nat.reduceEqDiff, Nat.reduceMod, he, Step.cells, h5, h35, h36, h37, hl, hd, hw2, specUJ, specUP, specIW]
        rw [hpr]
        refine ⟨⟨by omega, by omega⟩, okss s (List.mem_of_getElem? hs), by kernel_rfl, ⟨by omega, by omega⟩, by (first | omega | ((try simp only [ByteArray.size_append, ByteArray.size_empty, T_size, List.size_toArray, List.length_append, List.length_cons, List.length_nil, Int.natCast_add] at *); omega)), by (first | omega | ((try simp only [ByteArray.size_append, ByteArray.size_empty, T_size, List.size_toArray, List.length_append, List.length_cons, List.length_nil, Int.natCast_add] at *); omega)), by (first | omega | ((try simp only [ByteArray.size_append, ByteArray.size_empty, T_size, List.size_toArray, List.length_append, List.length_cons, List.length_nil, Int.natCast_add] at *); omega)), ⟨hgs.1, by omega⟩, by (first | omega | ((try simp only [ByteArray.size_append, ByteArray.size_empty, T_size, List.size_toArray, List.length_append, List.length_cons, List.length_nil, Int.natCast_add] at *); omega)), by (first | omega | ((try simp only [ByteArray.size_append, ByteArray.size_empty, T_size, List.size_toArray, List.length_append, List.length_cons, List.length_nil, Int.natCast_add] at *); omega)),
          bdK (ws_call _ _ (by (first | omega | ((try simp only [ByteArray.size_append, ByteArray.size_empty, T_size, List.size_toArray, List.length_append, List.length_cons, List.length_nil, Int.natCast_add] at *); omega)))) (hB3.upd (by simp) (by simp) (hfr _ (sfx2 _ _ _))) (by (first | omega | ((try simp only [ByteArray.size_append, ByteArray.size_empty, T_size, List.size_toArray, List.length_append, List.length_cons, List.length_nil, Int.natCast_add] at *); omega))) (free2 fun i hi => hfr i hi) fun H4 hB4 => ?_⟩
        simp (config := {contextual := true, maxSteps := 5000000}) only [go_sem, Nat.reduceAdd, Nat.reduceLT, Nat.reduceBEq, Nat.reduceSub, Nat.reduceMul, Nat.reduceLeDiff, Int.reduceToNat, Nat.reduceEqDiff, Nat.reduceMod, h5, h35, h36, h37, hl, hd, hw2, specUJ, specUP, specIW]
        exact ⟨by (refine pw_of ?_; (repeat' (first | exact trivial | apply And.intro)); all_goals (first | exact .inr rfl | exact .inr trivial | exact .inl (by kernel_rfl))), j - 1, by omega, i + 1, rfl, by omega, by omega, hB4.cast (by rw [hP, hln]; simp only [L_append, L_T])⟩
      · have hd : decide ((i : Int) < (u.steps.length : Int)) = false := by simp; omega
        obtain rfl : i = u.steps.length := by omega
        simp (config := {contextual := true, maxSteps := 5000000}) only [go_sem, Nat.reduceAdd, Nat.reduceLT, Nat.reduceBEq, Nat.reduceSub, Nat.reduceMul, Nat.reduceLeDiff, Int.reduceToNat, Nat.reduceEqDiff, Nat.reduceMod, h5, h35, h36, h37, hl, hd, specUJ, specUP, specIW]
        refine callK_intro (len_call _ hB3) ?_
        simp (config := {contextual := true, maxSteps := 5000000}) only [go_sem, Nat.reduceAdd, Nat.reduceLT, Nat.reduceBEq, Nat.reduceSub, Nat.reduceMul, Nat.reduceLeDiff, Int.reduceToNat, Nat.reduceEqDiff, Nat.reduceMod, h5, h35, h36, h37, hl, hd, specUJ, specUP, specIW]
        refine ⟨fun b => ⟨?_, hB3.le (hfr _ (sfx2 _ _ _))⟩, fun b => callK_intro (string_call _ hB3 (hfr _ (sfx2 _ _ _)) (by have := U.part_len hg u.steps.length hs60; (first | omega | ((try simp only [ByteArray.size_append, ByteArray.size_empty, T_size, List.size_toArray, List.length_append, List.length_cons, List.length_nil, Int.natCast_add] at *); omega)))) ?_⟩
        · simp only [decide_eq_true_eq, List.size_toArray] at b
          have h1 : u.printE = 2 := by rw [U.printE, if_pos a, if_pos (show 20000 < u.txt.length by rw [U.txt]; omega)]
          rw [U.printT, h1]
          exact Weak.refl _
        · simp (config := {contextual := true, maxSteps := 5000000}) only [go_sem, Nat.reduceAdd, Nat.reduceLT, Nat.reduceBEq, Nat.reduceSub, Nat.reduceMul, Nat.reduceLeDiff, Int.reduceToNat, Nat.reduceEqDiff, Nat.reduceMod, hl, hd]
          simp only [decide_eq_false_iff_not, List.size_toArray] at b
          have h1 : u.printE = 0 := by rw [U.printE, if_pos a, if_neg (show ¬ 20000 < u.txt.length by rw [U.txt]; omega)]
          rw [U.printT, h1]
          exact Weak.refl _
end Go.Proofs.YtkdendaohlnlcaaDoor.Av
