/- What organonref09.Print answers. No condition. -/
import Derived.Test.YtkdendaohlnlcaaDoorR03b
import Derived.Test.YtkdendaohlnlcaaDoorP09c
namespace Go.Proofs.YtkdendaohlnlcaaDoor.Av
set_option linter.unusedVariables false
set_option linter.unusedSimpArgs false
set_option maxRecDepth 4000
set_option maxHeartbeats 1000000
variable {w0 : Base} {k : List Nat} {H : Hp}
theorem why09_call (hw : TabW w0) (s : Step) (hs : s.fine = true) (hc : (s.cite.size : Int) ≤ 140737488355328) : CallAt Tryd.prog w0 k 16 [(dA cStep).enc s] H H (.str (T s.txt)) := by
  refine callAt tabOk (specIW_ok hw) mixed Tryd.func16 rfl rfl Tryd.results16 Tryd.ntmps16 (by simp) [] ?_
  intro hfr t hl ht
  simp only [At, dA, cStep, Step.cells] at ht
  obtain ⟨hb, ha0, ha9, hb0, hb9⟩ := fine_nums hs
  have ila := Lib.itoa_length_le s.a (by omega) (by omega)
  have ilb := Lib.itoa_length_le s.b (by omega) (by omega)
  have hcl := L_length s.cite
  have hcs : s.cite = ⟨(L s.cite).toArray⟩ := rfl
  unfold Step.txt
  rcases hb with hb | hb | hb | hb
  · simp (config := {contextual := true, maxSteps := 5000000}) only [go_sem, Nat.reduceAdd, Nat.reduceLT, Nat.reduceBEq, Nat.reduceSub, Nat.reduceMul, Nat.reduceLeDiff, Int.reduceToNat, Nat.reduceEqDiff, Nat.reduceMod, ht, hl, hb, specIW, Int.reduceBEq]
    (repeat' apply And.intro) <;> first | omega | (first | omega | ((try simp only [ByteArray.size_append, ByteArray.size_empty, T_size, List.size_toArray, List.length_append, List.length_cons, List.length_nil, Int.natCast_add] at *); omega)) | simp
  · simp (config := {contextual := true, maxSteps := 5000000}) only [go_sem, Nat.reduceAdd, Nat.reduceLT, Nat.reduceBEq, Nat.reduceSub, Nat.reduceMul, Nat.reduceLeDiff, Int.reduceToNat, Nat.reduceEqDiff, Nat.reduceMod, ht, hl, hb, specIW, Int.reduceBEq]
    (repeat' apply And.intro) <;> first | exact List.Pairwise.nil | ((with_reducible (show drawOk _ = true)); kernel_rfl) | omega | (first | omega | ((try simp only [ByteArray.size_append, ByteArray.size_empty, T_size, List.size_toArray, List.length_append, List.length_cons, List.length_nil, Int.natCast_add] at *); omega)) | simp
  · simp (config := {contextual := true, maxSteps := 5000000}) only [go_sem, Nat.reduceAdd, Nat.reduceLT, Nat.reduceBEq, Nat.reduceSub, Nat.reduceMul, Nat.reduceLeDiff, Int.reduceToNat, Nat.reduceEqDiff, Nat.reduceMod, ht, hl, hb, specIW, Int.reduceBEq]
    (repeat' apply And.intro) <;> first | exact List.Pairwise.nil | ((with_reducible (show drawOk _ = true)); kernel_rfl) | omega | (first | omega | ((try simp only [ByteArray.size_append, ByteArray.size_empty, T_size, List.size_toArray, List.length_append, List.length_cons, List.length_nil, Int.natCast_add] at *); omega)) | simp
  · simp (config := {contextual := true, maxSteps := 5000000}) only [go_sem, Nat.reduceAdd, Nat.reduceLT, Nat.reduceBEq, Nat.reduceSub, Nat.reduceMul, Nat.reduceLeDiff, Int.reduceToNat, Nat.reduceEqDiff, Nat.reduceMod, ht, hl, hb, specIW, Int.reduceBEq]
    refine ⟨?_, ?_⟩
    · simp
      show (5 : Int) + (s.cite.size : Int) ≤ _
      omega
    · simp
      rfl
def specUR : Spec := (((specIW.add 14 (sp1 (dA cU) (fun u => u.ok) fun u => .int .i64 u.right)).add 15 (sp1 dE (fun e => e.sz ≤ 1000 ∧ e.sh = true) fun e => .str (T e.txt))).add
  16 (sp1 (dA cStep) (fun s => s.fine = true ∧ (s.cite.size : Int) ≤ 140737488355328) fun s => .str (T s.txt)))
theorem specUR_ok (hw : TabW w0) : SpecOk Tryd.prog w0 specUR := (((specIW_ok hw).add (sp1_ok fun u h k H => right09_call u h)).add (sp1_ok fun e h k H => text03_call specIt_ok e h.1 h.2)).add (sp1_ok fun s h k H => why09_call hw s h.1 h.2)
theorem printR_call (hw : TabW w0) (u : U) (hok : u.ok) : CallAt Tryd.prog w0 k 5 [(dA cU).enc u] H H (.tup [.str (T u.printT), .int .i64 u.printE]) := by
  refine callAt tabOk (specUR_ok hw) mixed Tryd.func5 rfl rfl Tryd.results5 Tryd.ntmps5 (by simp) [] ?_
  intro hfr t hl ht
  simp only [At, dA, cU, U.cells] at ht
  simp (config := {contextual := true, maxSteps := 5000000}) only [go_sem, Nat.reduceAdd, Nat.reduceLT, Nat.reduceBEq, Nat.reduceSub, Nat.reduceMul, Nat.reduceLeDiff, Int.reduceToNat, Nat.reduceEqDiff, Nat.reduceMod, ht, hl, specUR, specIW]
  refine ⟨hok, fun a => ?_, fun a => ?_⟩
  · simp only [bne_iff_ne, ne_eq] at a
    have h1 : u.printE = u.right := by rw [U.printE, if_neg a]
    rw [U.printT, h1, if_neg a]
    exact Weak.refl _
  · simp only [bne_eq_false_iff_eq] at a
    have hg := U.good_of a
    have hc8 := hg.c8
    have hs60 := hg.s60
    have hnl := U.names_len hg _ (Nat.le_refl _)
    have hsl := E.txt_len u.states (right_zero hg.states.1).2.2
    have hss := hg.states.2
    have hh : u.head = u.names u.cites.length ++ [10, 115, 116, 97, 116, 101, 115, 32] ++ u.states.txt ++ [10] := rfl
    have hhl := U.head_len hg
    refine loop_inv tabOk (specUR_ok hw) mixed [] (fun j x => ∃ i : Nat, x.tmps.length = 65 ∧ x.tmps.getD 1 AV.undef = .sptr [.list .none (u.cites.map cS.enc), .int .i64 u.states.kind, .int .i64 u.states.id, .list .none (u.states.kids.map E.cells), .list .none (u.steps.map cStep.enc)] ∧ x.tmps.getD 5 AV.undef = .str (T (u.names i)) ∧ x.tmps.getD 16 AV.undef = .list .none (u.cites.map cS.enc) ∧ x.tmps.getD 17 AV.undef = .int .i64 u.cites.length ∧
      x.tmps.getD 18 AV.undef = .int .i64 i ∧ i + j = u.cites.length ∧ x.H = H) u.cites.length ⟨0, ?_⟩ ?_
    · simp (config := {contextual := true, maxSteps := 5000000}) only [go_sem, Nat.reduceAdd, Nat.reduceLT, Nat.reduceBEq, Nat.reduceSub, Nat.reduceMul, Nat.reduceLeDiff, Int.reduceToNat, Nat.reduceEqDiff, Nat.reduceMod, hl]
      simp [U.names, upTo]
    · rintro j ⟨t, n, H2⟩ ⟨i, hl, h1, h5, h16, h17, h18, hij, rfl⟩
      simp only at hl h1 h5 h16 h17 h18
      by_cases hi : i < u.cites.length
      · have hd : decide ((i : Int) < (u.cites.length : Int)) = true := by simp [hi]
        have hw2 : IntKind.i64.wrap ((i : Int) + 1) = ((i + 1 : Nat) : Int) := by rw [wrap_i64] <;> omega
        obtain ⟨s, hs, he⟩ := str_get u.cites hi
        have hN : u.names (i + 1) = u.names i ++ ([32] ++ L s) := by rw [U.names, U.names, upTo_succ hs, List.append_assoc]
        have hnl1 := U.names_len hg (i + 1) (by omega)
        have hln := congrArg List.length hN
        simp only [List.length_append, List.length_cons, List.length_nil] at hln
        simp (config := {contextual := true, maxSteps := 5000000}) only [go_sem, Nat.reduceAdd, Nat.reduceLT, Nat.reduceBEq, Nat.reduceSub, Nat.reduceMul, Nat.reduceLeDiff, Int.reduceToNat, Nat.reduceEqDiff, Nat.reduceMod, he, h1, h5, h16, h17, h18, hl, hd, hw2]
        have hsl := L_length s
        refine ⟨⟨by omega, by omega⟩, by (first | omega | ((try simp only [ByteArray.size_append, ByteArray.size_empty, T_size, List.size_toArray, List.length_append, List.length_cons, List.length_nil, Int.natCast_add] at *); omega)), ?_, j - 1, by omega, i + 1, ?_, rfl, by omega⟩
        · (first | omega | ((try simp only [ByteArray.size_append, ByteArray.size_empty, T_size, List.size_toArray, List.length_append, List.length_cons, List.length_nil, Int.natCast_add] at *); omega))
        · rw [hN, ← List.append_assoc]
          exact T_append (u.names i ++ [32]) (L s)
      · have hd : decide ((i : Int) < (u.cites.length : Int)) = false := by simp; omega
        obtain rfl : i = u.cites.length := by omega
        simp (config := {contextual := true, maxSteps := 5000000}) only [go_sem, Nat.reduceAdd, Nat.reduceLT, Nat.reduceBEq, Nat.reduceSub, Nat.reduceMul, Nat.reduceLeDiff, Int.reduceToNat, Nat.reduceEqDiff, Nat.reduceMod, h1, h5, h16, h17, h18, hl, hd, specUR, specIW]
        refine ⟨by (first | omega | ((try simp only [ByteArray.size_append, ByteArray.size_empty, T_size, List.size_toArray, List.length_append, List.length_cons, List.length_nil, Int.natCast_add] at *); omega)), ⟨by omega, (right_zero hg.states.1).2.2⟩, by (first | omega | ((try simp only [ByteArray.size_append, ByteArray.size_empty, T_size, List.size_toArray, List.length_append, List.length_cons, List.length_nil, Int.natCast_add] at *); omega)), by (first | omega | ((try simp only [ByteArray.size_append, ByteArray.size_empty, T_size, List.size_toArray, List.length_append, List.length_cons, List.length_nil, Int.natCast_add] at *); omega)), ?_⟩
        refine loop_inv tabOk (specUR_ok hw) mixed [] (fun j x => ∃ i : Nat, x.tmps.length = 65 ∧ x.tmps.getD 5 AV.undef = .str (T (u.part i)) ∧ x.tmps.getD 35 AV.undef = .list .none (u.steps.map cStep.enc) ∧ x.tmps.getD 36 AV.undef = .int .i64 u.steps.length ∧
          x.tmps.getD 37 AV.undef = .int .i64 i ∧ i + j = u.steps.length ∧ H2.Le x.H) u.steps.length ⟨0, ?_⟩ ?_
        · simp (config := {contextual := true, maxSteps := 5000000}) only [go_sem, Nat.reduceAdd, Nat.reduceLT, Nat.reduceBEq, Nat.reduceSub, Nat.reduceMul, Nat.reduceLeDiff, Int.reduceToNat, Nat.reduceEqDiff, Nat.reduceMod, hl]
          simp [U.part, upTo, hh]
        · rintro j ⟨t, n, H3⟩ ⟨i, hl, h5, h35, h36, h37, hij, hH⟩
          simp only at hl h5 h35 h36 h37 hH
          by_cases hi : i < u.steps.length
          · have hd : decide ((i : Int) < (u.steps.length : Int)) = true := by simp [hi]
            have hw2 : IntKind.i64.wrap ((i : Int) + 1) = ((i + 1 : Nat) : Int) := by rw [wrap_i64] <;> omega
            obtain ⟨s, hs, he⟩ := step_get u.steps hi
            have hgs := hg.steps s (List.mem_of_getElem? hs)
            have hP : u.part (i + 1) = u.part i ++ s.line i := by rw [U.part, U.part, upTo_succ hs, List.append_assoc]
            have hpl := U.part_len hg (i + 1) (by omega)
            have hpl2 := U.part_len hg i (by omega)
            have hpt := U.part_le (u := u) (i + 1) (by omega)
            have hll := Step.line_len hgs i (by omega)
            have hln : s.line i = Lib.itoa (i + 1 : Nat) ++ [32] ++ s.says.txt ++ [32, 58, 32] ++ s.txt ++ [10] := rfl
            have hcs := hgs.2.1
            have hlc := congrArg List.length hln
            simp only [List.length_append, List.length_cons, List.length_nil] at hlc
            have hn : H2 ⟨7, 3 :: (n + 1) :: k, 45⟩ = none := hfr _ (sfx2 _ _ _)
            have hle : ∀ a, H2.Le (H3.upd ⟨7, 3 :: (n + 1) :: k, 45⟩ a) := fun a => Hp.le_upd hH hn
            simp (config := {contextual := true, maxSteps := 5000000}) only [go_sem, Nat.reduceAdd, Nat.reduceLT, Nat.reduceBEq, Nat.reduceSub, Nat.reduceMul, Nat.reduceLeDiff, Int.reduceToNat, Nat.reduceEqDiff, Nat.reduceMod, he, Step.cells, h5, h35, h36, h37, hl, hd, hw2, specUR, specIW]
            have hE : T (u.part i ++ Lib.itoa ↑(i + 1) ++ [32] ++ s.says.txt ++ [32, 58, 32] ++ s.txt ++ [10]) = T (u.part (i + 1)) := by rw [hP, hln]; simp only [List.append_assoc]
            have hEl := congrArg List.length hP
            simp only [List.length_append] at hEl
            refine ⟨⟨by omega, by omega⟩, by kernel_rfl, ⟨by omega, by omega⟩, by (first | omega | ((try simp only [ByteArray.size_append, ByteArray.size_empty, T_size, List.size_toArray, List.length_append, List.length_cons, List.length_nil, Int.natCast_add] at *); omega)), by (first | omega | ((try simp only [ByteArray.size_append, ByteArray.size_empty, T_size, List.size_toArray, List.length_append, List.length_cons, List.length_nil, Int.natCast_add] at *); omega)), ⟨by have := hgs.2.2.2; omega, (right_zero hgs.2.2.1).2.2⟩, by (first | omega | ((try simp only [ByteArray.size_append, ByteArray.size_empty, T_size, List.size_toArray, List.length_append, List.length_cons, List.length_nil, Int.natCast_add] at *); omega)), by (first | omega | ((try simp only [ByteArray.size_append, ByteArray.size_empty, T_size, List.size_toArray, List.length_append, List.length_cons, List.length_nil, Int.natCast_add] at *); omega)), ⟨hgs.1, by omega⟩, by (first | omega | ((try simp only [ByteArray.size_append, ByteArray.size_empty, T_size, List.size_toArray, List.length_append, List.length_cons, List.length_nil, Int.natCast_add] at *); omega)), by (first | omega | ((try simp only [ByteArray.size_append, ByteArray.size_empty, T_size, List.size_toArray, List.length_append, List.length_cons, List.length_nil, Int.natCast_add] at *); omega)), by (refine pw_of ?_; (repeat' (first | exact trivial | apply And.intro)); all_goals (first | exact .inr rfl | exact .inr trivial | exact .inl (by kernel_rfl))), fun b => ⟨?_, hle _⟩,
              fun b => ⟨j - 1, by omega, i + 1, hE, rfl, by omega, hle _⟩⟩
            simp only [decide_eq_true_eq, List.size_toArray, List.length_append, List.length_cons, List.length_nil] at b
            have h1 : u.printE = 2 := by rw [U.printE, if_pos a, if_pos (show 20000 < u.txt.length by omega)]
            rw [U.printT, h1]
            exact Weak.refl _
          · have hd : decide ((i : Int) < (u.steps.length : Int)) = false := by simp; omega
            obtain rfl : i = u.steps.length := by omega
            simp (config := {contextual := true, maxSteps := 5000000}) only [go_sem, Nat.reduceAdd, Nat.reduceLT, Nat.reduceBEq, Nat.reduceSub, Nat.reduceMul, Nat.reduceLeDiff, Int.reduceToNat, Nat.reduceEqDiff, Nat.reduceMod, h5, h35, h36, h37, hl, hd, specUR, specIW]
            refine ⟨fun b => ⟨?_, hH⟩, fun b => ⟨?_, hH⟩⟩
            · simp only [decide_eq_true_eq, List.size_toArray] at b
              have h1 : u.printE = 2 := by rw [U.printE, if_pos a, if_pos (show 20000 < u.txt.length by rw [U.txt]; omega)]
              rw [U.printT, h1]
              exact Weak.refl _
            · simp only [decide_eq_false_iff_not, List.size_toArray] at b
              have h1 : u.printE = 0 := by rw [U.printE, if_pos a, if_neg (show ¬ 20000 < u.txt.length by rw [U.txt]; omega)]
              rw [U.printT, h1]
              exact Weak.refl _
end Go.Proofs.YtkdendaohlnlcaaDoor.Av
