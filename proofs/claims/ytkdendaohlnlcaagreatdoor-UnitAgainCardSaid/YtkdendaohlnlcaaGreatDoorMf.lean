/- A part of the theory and of the contracts: U5, U6, P09, P09b, U7, U8, U9, P03b, R03, R03b, U09, P09c, R09c, Rt4, Lk, Rt5, Rt6, R08b, R08p, Pr, Ln, R08c, Ag1, Ag2, LawUnitTells, LawUnitAgain, Br. No condition. -/
import Derived.Test.YtkdendaohlnlcaaGreatDoorMe
import Derived.Test.YtkdendaohlnlcaaGreatDoorMd
import Derived.Lib.ItoaLen
import Derived.DataReads
import Derived.DataElems
/- What the reference of layer 9 reads of a text: the walk. No condition. -/
namespace Go.Proofs.YtkdendaohlnlcaaGreatDoor.Av
set_option linter.unusedVariables false
set_option linter.unusedSimpArgs false
set_option maxRecDepth 4000
set_option maxHeartbeats 1000000
variable {w0 : Base} {k : List Nat} {H : Hp}
theorem unit_weak0 {e a : Int} : Weak (.tup [.agg [.list .nil [], .int .i64 0, .int .i64 0, .list .nil [], .list .nil []], .int .i64 e, .int .i64 a]) (PR.err e a).av :=
  WeakL.tup ⟨_, _, rfl, WeakL.agg ⟨_, _, rfl, nil_weak, _, _, rfl, Weak.refl _, _, _, rfl, Weak.refl _, _, _, rfl, nil_weak, _, _, rfl, nil_weak, rfl⟩, _, _, rfl, Weak.refl _, _, _, rfl, Weak.refl _, rfl⟩
theorem unit_weak {c : List ByteArray} {x : E} {l : List Step} {t1 t2 t3 : Tok} : Weak (.tup [.agg [.list t1 (c.map cS.enc), .int .i64 x.kind, .int .i64 x.id, .list t2 (x.kids.map E.cells), .list t3 (l.map cStep.enc)], .int .i64 0, .int .i64 0]) (PR.ok ⟨c, x, l⟩).av :=
  WeakL.tup ⟨_, _, rfl, WeakL.agg ⟨_, _, rfl, list_weak, _, _, rfl, Weak.refl _, _, _, rfl, Weak.refl _, _, _, rfl, list_weak, _, _, rfl, list_weak, rfl⟩, _, _, rfl, Weak.refl _, _, _, rfl, Weak.refl _, rfl⟩
def specPa : Spec := ((((Spec.no.add 11 (sp1 dS (fun s => s.size ≤ 4000000000) fun s => .list .none ((linesOf s).map cS.enc))).add 26 (sp1 dS (fun s => s.size ≤ 4000000000) fun s => .tup [.list .none ((citR s).1.map cS.enc), .int .i64 (citR s).2])).add 27 (sp2 dS dS (fun _ _ => True) fun s p => .tup [.str (if beg s p then s.extract p.size s.size else ⟨#[]⟩), .bool (beg s p)])).add
  28 (sp1 dS (fun _ => True) fun s => .tup [(fmU s).1.av, .int .i64 (fmU s).2])).add 29 (sp2 dS dI (fun s n => s.size ≤ 4000000000 ∧ 0 ≤ n) fun s n => .tup [(stepR s n).1.av, .int .i64 (stepR s n).2])
theorem specPa_ok : SpecOk Tryz.prog w0 specPa := ((((Spec.no_ok.add (sp1_ok fun s h k H => lines09_call s h)).add (sp1_ok fun s h k H => cites09_call s h)).add (sp2_ok fun s p _ k H => begins_call s p)).add (sp1_ok fun s _ k H => formula09_call s)).add (sp2_ok fun s n h k H => step09_call s n h.1 h.2)
theorem parse09_call (s : ByteArray) : CallAt Tryz.prog w0 k 9 [.str s] H H (parseR s).av := by
  refine callAt tabOk specPa_ok mixed Tryz.func9 rfl rfl Tryz.results9 Tryz.ntmps9 (by simp) [] ?_
  intro hfr t hl ht
  simp only [At, Nat.reduceAdd, List.cons_append, List.nil_append] at ht
  have fN : ∀ (a b : Nat) z ty, H ⟨z, a :: b :: k, ty⟩ = none := fun a b z ty => hfr _ (sfx2 _ _ _)
  have he0 : ((0 : Int) != 0) = false := rfl
  unfold parseR
  by_cases hbig : 20000 < s.size
  · have d : decide ((20000 : Int) < (s.size : Int)) = true := by simp; omega
    rw [if_pos hbig]
    simp (config := {contextual := true, maxSteps := 5000000}) only [go_sem, false_and, Nat.reduceAdd, Nat.reduceLT, Nat.reduceBEq, Nat.reduceSub, Nat.reduceMul, Nat.reduceLeDiff, Int.reduceToNat, Nat.reduceEqDiff, Nat.reduceMod, ht, hl, specPa, d]
    exact ⟨unit_weak0, by (repeat (first | exact Hp.Le.refl _ | refine Hp.le_upd ?_ (fN _ _ _ _)))⟩
  have d : decide ((20000 : Int) < (s.size : Int)) = false := by simp; omega
  have hs : s.size ≤ 4000000000 := by omega
  rw [if_neg hbig]
  have hlen := linesOf_len s
  have hsz : ∀ x ∈ linesOf s, x.size ≤ 20000 := fun x hx => by have := linesOf_size hx; omega
  generalize hln : linesOf s = l at hlen hsz ⊢
  cases l with
  | nil =>
    have d1 : decide (((0 : Nat) : Int) < 1) = true := rfl
    simp (config := {contextual := true, maxSteps := 5000000}) only [go_sem, false_and, Nat.reduceAdd, Nat.reduceLT, Nat.reduceBEq, Nat.reduceSub, Nat.reduceMul, Nat.reduceLeDiff, Int.reduceToNat, Nat.reduceEqDiff, Nat.reduceMod, ht, hl, specPa, d, hln, cS_at, d1]
    exact ⟨hs, unit_weak0, by (repeat (first | exact Hp.Le.refl _ | refine Hp.le_upd ?_ (fN _ _ _ _)))⟩
  | cons a rest =>
    have ha : a.size ≤ 4000000000 := by have := hsz a (by simp); omega
    have d1 : decide (((rest.length + 1 : Nat) : Int) < 1) = false := by simp; omega
    have b0 : (0 : Int) ≤ 0 ∧ (0 : Int) < ((rest.length + 1 : Nat) : Int) := by omega
    generalize hc : citR a = c
    obtain ⟨cs, ce⟩ := c
    by_cases hce : ce = 0
    · subst hce
      cases rest with
      | nil =>
        have d2 : decide (((1 : Nat) : Int) < 2) = true := rfl
        have d1 : decide (((1 : Nat) : Int) < 1) = false := rfl
        have b0 : (0 : Int) ≤ 0 ∧ (0 : Int) < ((1 : Nat) : Int) := by omega
        rw [show parseL [a] = .err 90 2 by simp [parseL, parse1, hc]]
        simp (config := {contextual := true, maxSteps := 5000000}) only [go_sem, false_and, Nat.reduceAdd, Nat.reduceLT, Nat.reduceBEq, Nat.reduceSub, Nat.reduceMul, Nat.reduceLeDiff, Int.reduceToNat, Nat.reduceEqDiff, Nat.reduceMod, ht, hl, specPa, d, hln, cS_at, d1, b0, hc, he0, d2]
        exact ⟨hs, ha, unit_weak0, by (repeat (first | exact Hp.Le.refl _ | refine Hp.le_upd ?_ (fN _ _ _ _)))⟩
      | cons b rest2 =>
        have d2 : decide (((rest2.length + 1 + 1 : Nat) : Int) < 2) = false := by simp; omega
        have b1 : (0 : Int) ≤ 1 ∧ (1 : Int) < ((rest2.length + 1 + 1 : Nat) : Int) := by omega
        simp only [List.length_cons] at b0 d1
        cases hb : beg b ⟨#[115, 116, 97, 116, 101, 115, 32]⟩ with
        | false =>
          rw [show parseL (a :: b :: rest2) = .err 90 2 by simp [parseL, parse1, hc, parse2, statesB, hb]]
          simp (config := {contextual := true, maxSteps := 5000000}) only [go_sem, false_and, Nat.reduceAdd, Nat.reduceLT, Nat.reduceBEq, Nat.reduceSub, Nat.reduceMul, Nat.reduceLeDiff, Int.reduceToNat, Nat.reduceEqDiff, Nat.reduceMod, ht, hl, specPa, d, hln, cS_at, d1, b0, hc, he0, d2, b1, hb]
          exact ⟨hs, ha, unit_weak0, by (repeat (first | exact Hp.Le.refl _ | refine Hp.le_upd ?_ (fN _ _ _ _)))⟩
        | true =>
          have z7 : (#[115, 116, 97, 116, 101, 115, 32] : Array UInt8).size = 7 := rfl
          generalize hf : fmU (b.extract 7 b.size) = f
          obtain ⟨fx, fe⟩ := f
          by_cases hfe : fe = 0
          · subst hfe
            cases rest2 with
            | nil =>
              have d3 : decide (((2 : Nat) : Int) < 3) = true := rfl
              have d1 : decide (((2 : Nat) : Int) < 1) = false := rfl
              have d2 : decide (((2 : Nat) : Int) < 2) = false := rfl
              have b0 : (0 : Int) ≤ 0 ∧ (0 : Int) < ((2 : Nat) : Int) := by omega
              have b1 : (0 : Int) ≤ 1 ∧ (1 : Int) < ((2 : Nat) : Int) := by omega
              rw [show parseL [a, b] = .err 90 3 by simp [parseL, parse1, hc, parse2, statesB, hb, hf]]
              simp (config := {contextual := true, maxSteps := 5000000}) only [go_sem, false_and, Nat.reduceAdd, Nat.reduceLT, Nat.reduceBEq, Nat.reduceSub, Nat.reduceMul, Nat.reduceLeDiff, Int.reduceToNat, Nat.reduceEqDiff, Nat.reduceMod, ht, hl, specPa, d, hln, cS_at, d1, b0, hc, he0, d2, b1, hb, z7, hf, d3]
              exact ⟨hs, ha, unit_weak0, by (repeat (first | exact Hp.Le.refl _ | refine Hp.le_upd ?_ (fN _ _ _ _)))⟩
            | cons x xs =>
              have d3 : decide (((xs.length + 1 + 1 + 1 : Nat) : Int) < 3) = false := by simp; omega
              simp only [List.length_cons] at b0 d1 b1 d2
              rw [show parseL (a :: b :: x :: xs) = parse3 cs fx (stepsR (x :: xs) 2 []) by simp [parseL, parse1, hc, parse2, statesB, hb, hf]]
              simp (config := {contextual := true, maxSteps := 5000000}) only [go_sem, false_and, Nat.reduceAdd, Nat.reduceLT, Nat.reduceBEq, Nat.reduceSub, Nat.reduceMul, Nat.reduceLeDiff, Int.reduceToNat, Nat.reduceEqDiff, Nat.reduceMod, ht, hl, specPa, d, hln, cS_at, d1, b0, hc, he0, d2, b1, hb, z7, hf, d3]
              refine ⟨hs, ha, ?_⟩
              have hls : [AV.str a] :: [AV.str b] :: [AV.str x] :: List.map cS.enc xs = (a :: b :: x :: xs).map cS.enc := rfl
              have hll : xs.length + 1 + 1 + 1 = (a :: b :: x :: xs).length := rfl
              rw [hls]
              have hst : stepsR (x :: xs) 2 [] = stepsR ((a :: b :: x :: xs).drop 2) 2 [] := rfl
              rw [hst]
              generalize a :: b :: x :: xs = ls at hlen hsz hll ⊢
              refine loop_inv tabOk specPa_ok mixed [] (fun j y => ∃ (i : Nat) (acc : List Step) (tk : Tok), y.tmps.length = 95 ∧ y.tmps.getD 2 AV.undef = .ptr ⟨5, 0 :: 0 :: k, 28⟩ 0 ∧ y.tmps.getD 5 AV.undef = .list .none (ls.map cS.enc) ∧ y.tmps.getD 6 AV.undef = .ptr ⟨5, 1 :: 3 :: k, 28⟩ 0 ∧ y.tmps.getD 11 AV.undef = .int .i64 i ∧
                y.H ⟨5, 1 :: 3 :: k, 28⟩ = some (.cells [.list .none (cs.map cS.enc), .int .i64 fx.kind, .int .i64 fx.id, .list .none (fx.kids.map E.cells), .list tk (acc.map cStep.enc)]) ∧ LstK H 7 50 4 k tk y.H ∧ i + j = ls.length ∧ 2 ≤ i ∧ acc.length ≤ i ∧ stepsR (ls.drop i) i acc = stepsR (ls.drop 2) 2 []) (ls.length - 2) ⟨2, [], .nil, ?_⟩ ?_
              · simp (config := {contextual := true, maxSteps := 5000000}) only [go_sem, false_and, Nat.reduceAdd, Nat.reduceLT, Nat.reduceBEq, Nat.reduceSub, Nat.reduceMul, Nat.reduceLeDiff, Int.reduceToNat, Nat.reduceEqDiff, Nat.reduceMod, ht, hl]
                exact ⟨rfl, ⟨by (repeat (first | exact Hp.Le.refl _ | refine Hp.le_upd ?_ (fN _ _ _ _))), .inl rfl⟩, by omega⟩
              · rintro j ⟨t, n, H2⟩ ⟨i, acc, tk, hl, h2, h5, h6, h11, h66, hL, hij, hi2, hacc, hgo⟩
                simp only at hl h2 h5 h6 h11 h66 hL
                by_cases hi : i < ls.length
                · have hd : decide ((i : Int) < (ls.length : Int)) = true := by simp [hi]
                  have hw : IntKind.i64.wrap ((i : Int) + 1) = ((i + 1 : Nat) : Int) := by rw [wrap_i64] <;> omega
                  have hw1 : IntKind.i64.wrap ((i : Int) - 1) = (i : Int) - 1 := by rw [wrap_i64] <;> omega
                  obtain ⟨y, hy, hye⟩ := str_get ls hi
                  have hy4 : y.size ≤ 4000000000 := by have := hsz y (List.mem_of_getElem? hy); omega
                  have hdr : ls.drop i = y :: ls.drop (i + 1) := by
                    obtain ⟨q1, q2⟩ := List.getElem?_eq_some_iff.1 hy
                    rw [List.drop_eq_getElem_cons q1, q2]
                  rw [hdr, stepsR] at hgo
                  generalize hr : stepR y ((i : Int) - 1) = r at hgo
                  obtain ⟨st, e⟩ := r
                  have hn4 : ∀ m, H ⟨7, 4 :: m :: k, 50⟩ = none := fun m => fN _ _ _ _
                  have hLX : ∀ e, LstK H 7 50 4 k tk (H2.upd ⟨7, 10 :: (n + 1) :: k, 50⟩ e) := fun e => hL.frame (fN _ _ _ _) (fun m he => by cases he)
                  have hkk : ∀ e, killTok (H2.upd ⟨7, 10 :: (n + 1) :: k, 50⟩ e) tk ⟨5, 1 :: 3 :: k, 28⟩ = some (.cells [.list .none (cs.map cS.enc), .int .i64 fx.kind, .int .i64 fx.id, .list .none (fx.kids.map E.cells), .list tk (acc.map cStep.enc)]) := fun e =>
                    killTok_keeps (by rw [Hp.upd_ne _ _ (fun he => by cases he)]; exact h66) ((hLX e).2.imp id fun ⟨m, h1, h2⟩ => ⟨_, h1, h2⟩)
                  by_cases he : e = 0
                  · subst he
                    simp (config := {contextual := true, maxSteps := 5000000}) only [go_sem, false_and, Nat.reduceAdd, Nat.reduceLT, Nat.reduceBEq, Nat.reduceSub, Nat.reduceMul, Nat.reduceLeDiff, Int.reduceToNat, Nat.reduceEqDiff, Nat.reduceMod, h2, h5, h6, h11, h66, hl, hd, hw, hw1, hye, hr, specPa, he0, Step.cells, hkk, strip, tokBy_cons]
                    refine ⟨⟨by omega, by omega⟩, ⟨hy4, by omega⟩, fun y h => (h.elim (fun h => by rw [h]; rfl) (fun h => h.elim)), fun y h => by (obtain ⟨z, _, rfl⟩ := List.mem_map.1 h; rfl), rfl, by omega, by omega, (hLX _).live, j - 1, by omega, i + 1, acc ++ [st], _, rfl, by rw [List.map_append]; rfl, ?_, by omega, by omega, by simp; omega, by rw [if_pos rfl] at hgo; exact hgo⟩
                    have := ((hLX (some (.cells [.int .i64 st.says.kind, .int .i64 st.says.id, .list .none (st.says.kids.map E.cells), .int .i64 st.by_, .int .i64 st.a, .int .i64 st.b, .str st.cite]))).push hn4 (y := st.cells) (ys := []) (n + 1 + 1 + 1)).frame (X := ⟨5, 1 :: 3 :: k, 28⟩) (e := some (.cells [.list .none (cs.map cS.enc), .int .i64 fx.kind, .int .i64 fx.id, .list .none (fx.kids.map E.cells), .list (.tok ⟨7, 4 :: (n + 1 + 1 + 1) :: k, 50⟩) ((acc.map cStep.enc) ++ [[.int .i64 st.says.kind, .int .i64 st.says.id, .list .none (st.says.kids.map E.cells), .int .i64 st.by_, .int .i64 st.a, .int .i64 st.b, .str st.cite]])])) (fN _ _ _ _) (fun m he => by cases he)
                    rw [tokBy_cons] at this
                    exact this
                  · have he2 : (e != 0) = true := by simpa using he
                    simp (config := {contextual := true, maxSteps := 5000000}) only [go_sem, false_and, Nat.reduceAdd, Nat.reduceLT, Nat.reduceBEq, Nat.reduceSub, Nat.reduceMul, Nat.reduceLeDiff, Int.reduceToNat, Nat.reduceEqDiff, Nat.reduceMod, h2, h5, h6, h11, h66, hl, hd, hw, hw1, hye, hr, specPa, he2, Step.cells]
                    refine ⟨⟨by omega, by omega⟩, ⟨hy4, by omega⟩, ?_, ?_⟩
                    · rw [← hgo, if_neg he]
                      unfold parse3
                      rw [if_neg he]
                      exact unit_weak0
                    · exact Hp.le_upd (Hp.le_upd hL.1 (fN _ _ _ _)) (fN _ _ _ _)
                · have hd : decide ((i : Int) < (ls.length : Int)) = false := by simp; omega
                  simp (config := {contextual := true, maxSteps := 5000000}) only [go_sem, false_and, Nat.reduceAdd, Nat.reduceLT, Nat.reduceBEq, Nat.reduceSub, Nat.reduceMul, Nat.reduceLeDiff, Int.reduceToNat, Nat.reduceEqDiff, Nat.reduceMod, h2, h5, h6, h11, h66, hl, hd]
                  rw [← hgo, List.drop_of_length_le (by omega)]
                  exact ⟨unit_weak, Hp.le_upd hL.1 (fN _ _ _ _)⟩
          · have hfe2 : (fe != 0) = true := by simpa using hfe
            rw [show parseL (a :: b :: rest2) = .err fe 2 by simp [parseL, parse1, hc, parse2, statesB, hb, hf, hfe]]
            simp (config := {contextual := true, maxSteps := 5000000}) only [go_sem, false_and, Nat.reduceAdd, Nat.reduceLT, Nat.reduceBEq, Nat.reduceSub, Nat.reduceMul, Nat.reduceLeDiff, Int.reduceToNat, Nat.reduceEqDiff, Nat.reduceMod, ht, hl, specPa, d, hln, cS_at, d1, b0, hc, he0, d2, b1, hb, z7, hf, hfe2]
            exact ⟨hs, ha, unit_weak0, by (repeat (first | exact Hp.Le.refl _ | refine Hp.le_upd ?_ (fN _ _ _ _)))⟩
    · have hce2 : (ce != 0) = true := by simpa using hce
      rw [show parseL (a :: rest) = .err ce 1 by simp [parseL, parse1, hc, hce]]
      simp (config := {contextual := true, maxSteps := 5000000}) only [go_sem, false_and, Nat.reduceAdd, Nat.reduceLT, Nat.reduceBEq, Nat.reduceSub, Nat.reduceMul, Nat.reduceLeDiff, Int.reduceToNat, Nat.reduceEqDiff, Nat.reduceMod, ht, hl, specPa, d, hln, cS_at, d1, b0, hc, hce2]
      exact ⟨hs, ha, unit_weak0, by (repeat (first | exact Hp.Le.refl _ | refine Hp.le_upd ?_ (fN _ _ _ _)))⟩
end Go.Proofs.YtkdendaohlnlcaaGreatDoor.Av

/- What package unit reads of a reason. No condition. -/
namespace Go.Proofs.YtkdendaohlnlcaaGreatDoor.Av
set_option linter.unusedVariables false
set_option linter.unusedSimpArgs false
set_option maxRecDepth 4000
set_option maxHeartbeats 1000000
variable {w0 : Base} {k : List Nat} {H : Hp}
def decV (s : ByteArray) : Int := match decR s with
  | some n => n
  | none => 0
def decB (s : ByteArray) : Bool := (decR s).isSome
theorem decI_eq (s : ByteArray) : decide (0 ≤ decI s) = decB s ∧ (decB s = true → decI s = decV s) := by
  unfold decI decB decV
  cases h : decR s with
  | none => exact ⟨rfl, fun h => by cases h⟩
  | some n =>
    have := decR_ge h
    exact ⟨by simp; omega, fun _ => rfl⟩
theorem dig_iff {c : Int} : digit c = true ↔ ¬ c < 48 ∧ ¬ 57 < c := by
  simp only [digit, Bool.and_eq_true, decide_eq_true_eq]
  omega
theorem decimal_call (s : ByteArray) : CallAt Tryz.prog w0 k 83 [.str s] H H (.tup [.int .i64 (decV s), .bool (decB s)]) := by
  refine callAt tabOk Spec.no_ok mixed Tryz.func83 rfl rfl Tryz.results83 Tryz.ntmps83 (by simp) [] ?_
  intro hfr t hl ht
  simp only [At, Nat.reduceAdd, List.cons_append, List.nil_append] at ht
  have hbad : badLen s = true → Weak (.tup [.int .i64 0, .bool false]) (.tup [.int .i64 (decV s), .bool (decB s)]) := fun h => by
    have : decR s = none := by simp [decR, h]
    rw [decV, decB, this]
    exact Weak.refl _
  simp (config := {contextual := true, maxSteps := 5000000}) only [go_sem, false_and, Nat.reduceAdd, Nat.reduceLT, Nat.reduceBEq, Nat.reduceSub, Nat.reduceMul, Nat.reduceLeDiff, Int.reduceToNat, Nat.reduceEqDiff, Nat.reduceMod, ht, hl]
  refine ⟨fun a => ⟨fun b => ⟨fun c => ⟨by simp only [decide_eq_true_eq] at c; omega, fun d => hbad (badLen_iff.2 (by simp only [decide_eq_true_eq, beq_iff_eq] at c d; omega)), fun d => ?_⟩, fun c => ?_⟩, fun b => hbad (badLen_iff.2 (by simp only [decide_eq_true_eq] at b; omega))⟩, fun a => hbad (badLen_iff.2 (by simp only [decide_eq_true_eq] at a; omega))⟩
  all_goals
    have hb0 : badLen s = false := by
      rw [← Bool.not_eq_true, badLen_iff]
      simp only [decide_eq_true_eq, decide_eq_false_iff_not] at a b c
      first | omega | (simp only [beq_eq_false_iff_ne, ne_eq] at d; omega)
    simp only [decide_eq_false_iff_not] at b
    refine loop_inv tabOk Spec.no_ok mixed [] (fun j x => ∃ i : Nat, x.tmps.length = 49 ∧ x.tmps.getD 0 AV.undef = .str s ∧ x.tmps.getD 4 AV.undef = .int .i64 (valN s i) ∧ x.tmps.getD 5 AV.undef = .int .i64 i ∧ x.H = H ∧ i + j = s.size ∧ ∀ q : Nat, q < i → digit (byteAt s q) = true) s.size ⟨0, ?_⟩ ?_
    · simp (config := {contextual := true, maxSteps := 5000000}) only [go_sem, false_and, Nat.reduceAdd, Nat.reduceLT, Nat.reduceBEq, Nat.reduceSub, Nat.reduceMul, Nat.reduceLeDiff, Int.reduceToNat, Nat.reduceEqDiff, Nat.reduceMod, ht, hl]
      exact ⟨rfl, rfl, by omega, fun q hq => by omega⟩
    · rintro j ⟨t, n, H2⟩ ⟨i, hl, h0, h3, h4, rfl, hij, hall⟩
      simp only at hl h0 h3 h4
      have hv := valN_le i hall
      have hp := pow_small (show i ≤ 9 by omega)
      by_cases hi : i < s.size
      · have hd : decide ((i : Int) < (s.size : Int)) = true := by simp [hi]
        have hw : IntKind.i64.wrap ((i : Int) + 1) = ((i + 1 : Nat) : Int) := by rw [wrap_i64] <;> omega
        have hw2 : IntKind.i64.wrap (10 * valN s i) = valN s i * 10 := by rw [Int.mul_comm]; exact wrap_i64 (by omega) (by omega)
        have hno : digit (byteAt s i) = false → Weak (.tup [.int .i64 0, .bool false]) (.tup [.int .i64 (decV s), .bool (decB s)]) := fun hdg => by
          have : decAll s = false := by
            cases ha : decAll s with
            | false => rfl
            | true => rw [decAll_iff.1 ha i hi] at hdg; cases hdg
          have : decR s = none := by simp [decR, this]
          rw [decV, decB, this]
          exact Weak.refl _
        simp (config := {contextual := true, maxSteps := 5000000}) only [go_sem, false_and, Nat.reduceAdd, Nat.reduceLT, Nat.reduceBEq, Nat.reduceSub, Nat.reduceMul, Nat.reduceLeDiff, Int.reduceToNat, Nat.reduceEqDiff, Nat.reduceMod, h0, h3, h4, hl, hd, hw, hw2]
        refine ⟨⟨by omega, by omega⟩, fun x => ⟨⟨by omega, by omega⟩, fun y => ?_, fun y => ?_⟩, fun x => ?_⟩
        · exact hno (by rw [← Bool.not_eq_true, dig_iff]; simp only [decide_eq_true_eq] at y; omega)
        · have hdg : digit (byteAt s i) = true := by rw [dig_iff]; simp only [decide_eq_false_iff_not] at x y; exact ⟨x, y⟩
          have hdb := dig_iff.1 hdg
          have hw3 : IntKind.u8.wrap (byteAt s i - 48) = byteAt s i - 48 := num_u8 (by omega)
          have hw4 : IntKind.i64.wrap (byteAt s i - 48) = byteAt s i - 48 := wrap_i64 (by omega) (by omega)
          have hw5 : IntKind.i64.wrap (valN s i * 10 + (byteAt s i - 48)) = valN s (i + 1) := wrap_i64 (by omega) (by omega)
          rw [hw3, hw4, hw5]
          exact ⟨⟨by omega, by omega⟩, j - 1, by omega, i + 1, rfl, rfl, by omega, fun q hq => by
            by_cases e : q = i
            · rw [e]; exact hdg
            · exact hall q (by omega)⟩
        · exact hno (by rw [← Bool.not_eq_true, dig_iff]; simp only [decide_eq_true_eq] at x; omega)
      · have hd : decide ((i : Int) < (s.size : Int)) = false := by simp; omega
        have hii : i = s.size := by omega
        have : decAll s = true := decAll_iff.2 fun q hq => hall q (by omega)
        have : decR s = some (valN s s.size) := by simp [decR, hb0, this]
        simp (config := {contextual := true, maxSteps := 5000000}) only [go_sem, false_and, Nat.reduceAdd, Nat.reduceLT, Nat.reduceBEq, Nat.reduceSub, Nat.reduceMul, Nat.reduceLeDiff, Int.reduceToNat, Nat.reduceEqDiff, Nat.reduceMod, h0, h3, h4, hl, hd]
        rw [hii, decV, decB, this]
        exact Weak.refl _
/-- What package unit reads of a reason's words. -/
def rdP : List ByteArray → Step × Bool
  | [a, b] => if eqS a ⟨#[97, 120, 105, 111, 109]⟩ = true then (⟨noE, 1, decV b, 0, ⟨#[]⟩⟩, decB b) else if eqS a ⟨#[99, 105, 116, 101]⟩ = true then (⟨noE, 4, 0, 0, b⟩, true) else (noStep, false)
  | [a, b, c] => if eqS a ⟨#[100, 101, 116, 97, 99, 104]⟩ = true then (⟨noE, 2, decV b, decV c, ⟨#[]⟩⟩, decB b && decB c)
    else if eqS a ⟨#[103, 101, 110]⟩ = true then
      (⟨noE, 3, decV b, decV (if beg c ⟨#[120]⟩ then c.extract 1 c.size else c), ⟨#[]⟩⟩, decB b && (((decB (if beg c ⟨#[120]⟩ then c.extract 1 c.size else c)) && beg c ⟨#[120]⟩) && decide (decV (if beg c ⟨#[120]⟩ then c.extract 1 c.size else c) ≤ 63)))
    else (noStep, false)
  | _ => (noStep, false)
theorem beg_x (c : ByteArray) : beg c ⟨#[120]⟩ = true ↔ 0 < c.size ∧ byteAt c 0 = 120 := by
  have h1 : beg c ⟨#[120]⟩ = Lib.hasPrefix c.data.toList [120] := Lib.hasPrefix_raw c ⟨#[120]⟩
  have hl : c.data.toList.length = c.size := by rw [Array.length_toList]; rfl
  rw [h1]
  unfold Lib.hasPrefix
  cases hd : c.data.toList with
  | nil =>
    rw [hd] at hl
    simp only [List.length_nil] at hl
    simp [List.isPrefixOf]
    omega
  | cons b l =>
    rw [hd, List.length_cons] at hl
    obtain ⟨b', q1, q2⟩ := byteAt_list c 0 (by omega)
    rw [hd] at q1
    simp only [List.getElem?_cons_zero, Option.some.injEq] at q1
    subst q1
    have q2 : byteAt c 0 = (b.toNat : Int) := q2
    rw [q2]
    simp only [List.isPrefixOf, Bool.and_true, beq_iff_eq]
    constructor
    · intro h
      subst h
      exact ⟨by omega, rfl⟩
    · intro h
      exact (UInt8.toNat_inj.1 (by have : (120 : UInt8).toNat = 120 := rfl; omega)).symm
theorem dec_num {s : ByteArray} (h : decB s = true) : number (decV s) = true := by
  unfold decB at h
  obtain ⟨n, hn⟩ := Option.isSome_iff_exists.1 h
  have := decR_ge hn
  have hv : decV s = n := by rw [decV, hn]
  rw [hv]
  simp [number, this]
theorem e0_nil : e0 ⟨#[]⟩ = true := by simp [e0]
theorem rd_eq (w : List ByteArray) : (rdP w).2 = (rdW w).2 ∧ ((rdW w).2 = true → rdP w = rdW w ∧ (rdW w).1.fine = true) := by
  have hfalse : ∀ {P : Prop}, ((noStep, false) : Step × Bool).2 = true → P := fun h => by cases h
  match w with
  | [] => simp [rdP, rdW]
  | [a] => simp [rdP, rdW]
  | a :: b :: c :: d :: w => simp [rdP, rdW]
  | [a, b] =>
    obtain ⟨hb1, hb2⟩ := decI_eq b
    cases h1 : eqS a ⟨#[97, 120, 105, 111, 109]⟩ <;> cases h2 : eqS a ⟨#[99, 105, 116, 101]⟩ <;> cases hB : decB b <;> rw [hB] at hb1 <;>
      simp only [rdP, rdW, h1, h2, hb1, hB, Bool.false_eq_true, if_true, if_false, false_implies, true_implies, and_self, true_and, noStep, Step.fine]
    all_goals first
      | trivial
      | (rw [hb2 hB]; exact ⟨rfl, by simp [dec_num hB, e0_nil]⟩)
      | rfl
  | [a, b, c] =>
    obtain ⟨hb1, hb2⟩ := decI_eq b
    cases h1 : eqS a ⟨#[100, 101, 116, 97, 99, 104]⟩ with
    | true =>
      obtain ⟨hc1, hc2⟩ := decI_eq c
      cases hB : decB b <;> cases hC : decB c <;> rw [hB] at hb1 <;> rw [hC] at hc1 <;>
        simp only [rdP, rdW, h1, hb1, hB, hc1, hC, Bool.false_eq_true, Bool.and_false, Bool.and_true, if_true, if_false, false_implies, true_implies, and_self, true_and, Step.fine]
      rw [hb2 hB, hc2 hC]
      exact ⟨rfl, by simp [dec_num hB, dec_num hC, e0_nil]⟩
    | false =>
      cases h2 : eqS a ⟨#[103, 101, 110]⟩ with
      | false =>
        simp only [rdP, rdW, h1, h2, Bool.false_eq_true, false_and, if_false, false_implies, and_self]
      | true =>
        cases hx : beg c ⟨#[120]⟩ with
        | false =>
          have hn : ¬ (0 < c.size ∧ byteAt c 0 = 120) := fun h => by rw [(beg_x c).2 h] at hx; cases hx
          simp only [rdP, rdW, h1, h2, hx, hn, Bool.false_eq_true, Bool.and_false, Bool.false_and, and_false, if_false, if_true, false_implies, and_self]
        | true =>
          have hy := (beg_x c).1 hx
          generalize hd : c.extract 1 c.size = d
          obtain ⟨hc1, hc2⟩ := decI_eq d
          cases hB : decB b <;> cases hC : decB d <;> rw [hB] at hb1 <;> rw [hC] at hc1 <;>
            simp only [rdP, rdW, h1, h2, hx, hy, hd, hb1, hB, hc1, hC, Bool.false_eq_true, Bool.and_false, Bool.false_and, Bool.and_true, Bool.true_and, and_self, if_true, if_false, false_implies, true_implies, true_and, Step.fine]
          rw [hb2 hB, hc2 hC]
          refine ⟨by first | trivial | rfl, fun h => ⟨rfl, ?_⟩⟩
          have h9 := dec_num hC
          simp only [number, Bool.and_eq_true, decide_eq_true_eq] at h9 h
          simp [dec_num hB, e0_nil, h9.1, h]
def specRp : Spec := (Spec.no.add 83 (sp1 dS (fun _ => True) fun s => .tup [.int .i64 (decV s), .bool (decB s)])).add 23 (sp2 dS dS (fun _ _ => True) fun s p => .tup [.str (if beg s p then s.extract p.size s.size else s), .bool (beg s p)])
theorem specRp_ok : SpecOk Tryz.prog w0 specRp := (Spec.no_ok.add (sp1_ok fun s _ k H => decimal_call s)).add (sp2_ok fun s p _ k H => cutPrefix_call s p)
theorem step_weakP {w : List ByteArray} {n a b : Int} {c : ByteArray} {t : Bool} (h : rdP w = (⟨noE, n, a, b, c⟩, t)) : Weak (.tup [.agg [.int .i64 0, .int .i64 0, .list .nil [], .int .i64 n, .int .i64 a, .int .i64 b, .str c], .bool t]) (.tup [(rdP w).1.av, .bool (rdP w).2]) := by
  rw [h]
  exact step_weak
/-- Which of the four words it is. -/
theorem eqS_cases (a : ByteArray) :
    (eqS a ⟨#[97, 120, 105, 111, 109]⟩ = true ∧ eqS a ⟨#[100, 101, 116, 97, 99, 104]⟩ = false ∧ eqS a ⟨#[103, 101, 110]⟩ = false ∧ eqS a ⟨#[99, 105, 116, 101]⟩ = false) ∨
    (eqS a ⟨#[97, 120, 105, 111, 109]⟩ = false ∧ eqS a ⟨#[100, 101, 116, 97, 99, 104]⟩ = true ∧ eqS a ⟨#[103, 101, 110]⟩ = false ∧ eqS a ⟨#[99, 105, 116, 101]⟩ = false) ∨
    (eqS a ⟨#[97, 120, 105, 111, 109]⟩ = false ∧ eqS a ⟨#[100, 101, 116, 97, 99, 104]⟩ = false ∧ eqS a ⟨#[103, 101, 110]⟩ = true ∧ eqS a ⟨#[99, 105, 116, 101]⟩ = false) ∨
    (eqS a ⟨#[97, 120, 105, 111, 109]⟩ = false ∧ eqS a ⟨#[100, 101, 116, 97, 99, 104]⟩ = false ∧ eqS a ⟨#[103, 101, 110]⟩ = false ∧ eqS a ⟨#[99, 105, 116, 101]⟩ = true) ∨
    (eqS a ⟨#[97, 120, 105, 111, 109]⟩ = false ∧ eqS a ⟨#[100, 101, 116, 97, 99, 104]⟩ = false ∧ eqS a ⟨#[103, 101, 110]⟩ = false ∧ eqS a ⟨#[99, 105, 116, 101]⟩ = false) := by
  have key : ∀ p q : ByteArray, eqS p q = false → eqS a p = true → eqS a q = false := fun p q h h1 => by
    have : a.toList = p.toList := by simpa using h1
    simpa [eqS, this] using h
  have d : ∀ p q : ByteArray, (p.data == q.data) = false → eqS p q = false := fun p q h => by
    rw [← Bool.not_eq_true]
    intro h1
    have : p.toList = q.toList := by simpa using h1
    rw [Lib.toList_data, Lib.toList_data] at this
    have : p.data = q.data := Array.ext' this
    simp [this] at h
  cases h1 : eqS a ⟨#[97, 120, 105, 111, 109]⟩ with
  | true => exact .inl ⟨rfl, key _ _ (d _ _ rfl) h1, key _ _ (d _ _ rfl) h1, key _ _ (d _ _ rfl) h1⟩
  | false =>
    cases h2 : eqS a ⟨#[100, 101, 116, 97, 99, 104]⟩ with
    | true => exact .inr (.inl ⟨rfl, rfl, key _ _ (d _ _ rfl) h2, key _ _ (d _ _ rfl) h2⟩)
    | false =>
      cases h3 : eqS a ⟨#[103, 101, 110]⟩ with
      | true => exact .inr (.inr (.inl ⟨rfl, rfl, rfl, key _ _ (d _ _ rfl) h3⟩))
      | false =>
        cases h4 : eqS a ⟨#[99, 105, 116, 101]⟩ with
        | true => exact .inr (.inr (.inr (.inl ⟨rfl, rfl, rfl, rfl⟩)))
        | false => exact .inr (.inr (.inr (.inr ⟨rfl, rfl, rfl, rfl⟩)))
/-- What is known of the words of a reason. -/
def Words (w0 : Base) (s : ByteArray) (w : List ByteArray) : Prop := ∀ k H, CallAt Tryz.prog w0 k 48 [.str s, .str ⟨#[32]⟩] H (H.upd ⟨1, k, 9⟩ (some .tok)) (.list (.tok ⟨1, k, 9⟩) (w.map cS.enc))
abbrev ReadIs (w0 : Base) (k : List Nat) (H : Hp) (s : ByteArray) (w : List ByteArray) : Prop := CallAt Tryz.prog w0 k 53 [.str s] H H (.tup [(rdP w).1.av, .bool (rdP w).2])
theorem read_two {s a b : ByteArray} (hsp : Words w0 s [a, b]) : ReadIs w0 k H s [a, b] := by
  refine callAt tabOk specRp_ok mixed Tryz.func53 rfl rfl Tryz.results53 Tryz.ntmps53 (by simp) [] ?_
  intro hfr t hl ht
  simp only [At, Nat.reduceAdd, List.cons_append, List.nil_append] at ht
  have fN : ∀ (a b : Nat) z ty, H ⟨z, a :: b :: k, ty⟩ = none := fun a b z ty => hfr _ (sfx2 _ _ _)
  have n22 : (((2 : Nat) : Int) == 2) = true := rfl
  have n23 : (((2 : Nat) : Int) == 3) = false := rfl
  have b01 : (0 : Int) ≤ 0 ∧ (0 : Int) < ((2 : Nat) : Int) := by omega
  have b11 : (0 : Int) ≤ 1 ∧ (1 : Int) < ((2 : Nat) : Int) := by omega
  simp only [Words, List.map_cons, List.map_nil, cS_at] at hsp
  rcases eqS_cases a with ⟨h1, h2, h3, h4⟩ | ⟨h1, h2, h3, h4⟩ | ⟨h1, h2, h3, h4⟩ | ⟨h1, h2, h3, h4⟩ | ⟨h1, h2, h3, h4⟩
  · simp (config := {contextual := true, maxSteps := 5000000}) only [go_sem, false_and, Nat.reduceAdd, Nat.reduceLT, Nat.reduceBEq, Nat.reduceSub, Nat.reduceMul, Nat.reduceLeDiff, Int.reduceToNat, Nat.reduceEqDiff, Nat.reduceMod, ht, hl]
    refine callK_intro (hsp _ _) ?_
    simp (config := {contextual := true, maxSteps := 5000000}) only [go_sem, false_and, Nat.reduceAdd, Nat.reduceLT, Nat.reduceBEq, Nat.reduceSub, Nat.reduceMul, Nat.reduceLeDiff, Int.reduceToNat, Nat.reduceEqDiff, Nat.reduceMod, ht, hl, specRp, h1, h2, h3, h4, n22, n23, b01, b11]
    exact ⟨fun x => ⟨step_weakP (by simp [rdP, h1, x]), by (repeat (first | exact Hp.Le.refl _ | refine Hp.le_upd ?_ (fN _ _ _ _)))⟩, fun x => ⟨step_weakP (by simp [rdP, h1, x]), by (repeat (first | exact Hp.Le.refl _ | refine Hp.le_upd ?_ (fN _ _ _ _)))⟩⟩
  all_goals
    simp (config := {contextual := true, maxSteps := 5000000}) only [go_sem, false_and, Nat.reduceAdd, Nat.reduceLT, Nat.reduceBEq, Nat.reduceSub, Nat.reduceMul, Nat.reduceLeDiff, Int.reduceToNat, Nat.reduceEqDiff, Nat.reduceMod, ht, hl]
    refine callK_intro (hsp _ _) ?_
    simp (config := {contextual := true, maxSteps := 5000000}) only [go_sem, false_and, Nat.reduceAdd, Nat.reduceLT, Nat.reduceBEq, Nat.reduceSub, Nat.reduceMul, Nat.reduceLeDiff, Int.reduceToNat, Nat.reduceEqDiff, Nat.reduceMod, ht, hl, specRp, h1, h2, h3, h4, n22, n23, b01, b11]
    exact ⟨step_weakP (by simp [rdP, h1, h4, noStep]), by (repeat (first | exact Hp.Le.refl _ | refine Hp.le_upd ?_ (fN _ _ _ _)))⟩
theorem read_three {s a b c : ByteArray} (hsp : Words w0 s [a, b, c]) : ReadIs w0 k H s [a, b, c] := by
  refine callAt tabOk specRp_ok mixed Tryz.func53 rfl rfl Tryz.results53 Tryz.ntmps53 (by simp) [] ?_
  intro hfr t hl ht
  simp only [At, Nat.reduceAdd, List.cons_append, List.nil_append] at ht
  have fN : ∀ (a b : Nat) z ty, H ⟨z, a :: b :: k, ty⟩ = none := fun a b z ty => hfr _ (sfx2 _ _ _)
  have n32 : (((3 : Nat) : Int) == 2) = false := rfl
  have n33 : (((3 : Nat) : Int) == 3) = true := rfl
  have b02 : (0 : Int) ≤ 0 ∧ (0 : Int) < ((3 : Nat) : Int) := by omega
  have b12 : (0 : Int) ≤ 1 ∧ (1 : Int) < ((3 : Nat) : Int) := by omega
  have b22 : (0 : Int) ≤ 2 ∧ (2 : Int) < ((3 : Nat) : Int) := by omega
  have z1 : (#[120] : Array UInt8).size = 1 := rfl
  simp only [Words, List.map_cons, List.map_nil, cS_at] at hsp
  rcases eqS_cases a with ⟨h1, h2, h3, h4⟩ | ⟨h1, h2, h3, h4⟩ | ⟨h1, h2, h3, h4⟩ | ⟨h1, h2, h3, h4⟩ | ⟨h1, h2, h3, h4⟩
  · simp (config := {contextual := true, maxSteps := 5000000}) only [go_sem, false_and, Nat.reduceAdd, Nat.reduceLT, Nat.reduceBEq, Nat.reduceSub, Nat.reduceMul, Nat.reduceLeDiff, Int.reduceToNat, Nat.reduceEqDiff, Nat.reduceMod, ht, hl]
    refine callK_intro (hsp _ _) ?_
    simp (config := {contextual := true, maxSteps := 5000000}) only [go_sem, false_and, Nat.reduceAdd, Nat.reduceLT, Nat.reduceBEq, Nat.reduceSub, Nat.reduceMul, Nat.reduceLeDiff, Int.reduceToNat, Nat.reduceEqDiff, Nat.reduceMod, ht, hl, specRp, h1, h2, h3, h4, n32, n33, b02, b12, b22]
    exact ⟨step_weakP (by simp [rdP, h2, h3, noStep]), by (repeat (first | exact Hp.Le.refl _ | refine Hp.le_upd ?_ (fN _ _ _ _)))⟩
  · have hr : rdP [a, b, c] = (⟨noE, 2, decV b, decV c, ⟨#[]⟩⟩, decB b && decB c) := by simp only [rdP, h2, if_true]
    simp (config := {contextual := true, maxSteps := 5000000}) only [go_sem, false_and, Nat.reduceAdd, Nat.reduceLT, Nat.reduceBEq, Nat.reduceSub, Nat.reduceMul, Nat.reduceLeDiff, Int.reduceToNat, Nat.reduceEqDiff, Nat.reduceMod, ht, hl]
    refine callK_intro (hsp _ _) ?_
    simp (config := {contextual := true, maxSteps := 5000000}) only [go_sem, false_and, Nat.reduceAdd, Nat.reduceLT, Nat.reduceBEq, Nat.reduceSub, Nat.reduceMul, Nat.reduceLeDiff, Int.reduceToNat, Nat.reduceEqDiff, Nat.reduceMod, ht, hl, specRp, h1, h2, h3, h4, n32, n33, b02, b12, b22]
    (repeat' (first | (with_reducible apply And.intro) | (with_reducible intro _))) <;> first | (refine step_weakP (hr.trans ?_); congr 1; simp [*]; done) | (refine step_weakP (hr.trans ?_); congr 1; done) | (repeat (first | exact Hp.Le.refl _ | refine Hp.le_upd ?_ (fN _ _ _ _)))
  · generalize hd : (if beg c ⟨#[120]⟩ then c.extract 1 c.size else c) = d
    have hr : rdP [a, b, c] = (⟨noE, 3, decV b, decV d, ⟨#[]⟩⟩, decB b && ((decB d && beg c ⟨#[120]⟩) && decide (decV d ≤ 63))) := by
      simp only [rdP, h2, h3, hd, if_true, if_false, Bool.false_eq_true]
    have hX : beg c ⟨#[120]⟩ = true ∧ c.extract 1 c.size = d ∨ beg c ⟨#[120]⟩ = false ∧ c = d := by
      cases hx : beg c ⟨#[120]⟩ with
      | true => rw [hx] at hd; exact .inl ⟨rfl, by simpa using hd⟩
      | false => rw [hx] at hd; exact .inr ⟨rfl, by simpa using hd⟩
    rcases hX with ⟨hX, hd⟩ | ⟨hX, rfl⟩
    · rw [hX] at hr
      simp (config := {contextual := true, maxSteps := 5000000}) only [go_sem, false_and, Nat.reduceAdd, Nat.reduceLT, Nat.reduceBEq, Nat.reduceSub, Nat.reduceMul, Nat.reduceLeDiff, Int.reduceToNat, Nat.reduceEqDiff, Nat.reduceMod, ht, hl]
      refine callK_intro (hsp _ _) ?_
      simp (config := {contextual := true, maxSteps := 5000000}) only [go_sem, false_and, Nat.reduceAdd, Nat.reduceLT, Nat.reduceBEq, Nat.reduceSub, Nat.reduceMul, Nat.reduceLeDiff, Int.reduceToNat, Nat.reduceEqDiff, Nat.reduceMod, ht, hl, specRp, h1, h2, h3, h4, n32, n33, b02, b12, b22, hX, z1, hd]
      (repeat' (first | (with_reducible apply And.intro) | (with_reducible intro _))) <;> first | (refine step_weakP (hr.trans ?_); congr 1; simp [*]; done) | (refine step_weakP (hr.trans ?_); congr 1; done) | (repeat (first | exact Hp.Le.refl _ | refine Hp.le_upd ?_ (fN _ _ _ _)))
    · rw [hX] at hr
      simp (config := {contextual := true, maxSteps := 5000000}) only [go_sem, false_and, Nat.reduceAdd, Nat.reduceLT, Nat.reduceBEq, Nat.reduceSub, Nat.reduceMul, Nat.reduceLeDiff, Int.reduceToNat, Nat.reduceEqDiff, Nat.reduceMod, ht, hl]
      refine callK_intro (hsp _ _) ?_
      simp (config := {contextual := true, maxSteps := 5000000}) only [go_sem, false_and, Nat.reduceAdd, Nat.reduceLT, Nat.reduceBEq, Nat.reduceSub, Nat.reduceMul, Nat.reduceLeDiff, Int.reduceToNat, Nat.reduceEqDiff, Nat.reduceMod, ht, hl, specRp, h1, h2, h3, h4, n32, n33, b02, b12, b22, hX, z1]
      (repeat' (first | (with_reducible apply And.intro) | (with_reducible intro _))) <;> first | (refine step_weakP (hr.trans ?_); congr 1; simp [*]; done) | (refine step_weakP (hr.trans ?_); congr 1; done) | (repeat (first | exact Hp.Le.refl _ | refine Hp.le_upd ?_ (fN _ _ _ _)))
  all_goals
    simp (config := {contextual := true, maxSteps := 5000000}) only [go_sem, false_and, Nat.reduceAdd, Nat.reduceLT, Nat.reduceBEq, Nat.reduceSub, Nat.reduceMul, Nat.reduceLeDiff, Int.reduceToNat, Nat.reduceEqDiff, Nat.reduceMod, ht, hl]
    refine callK_intro (hsp _ _) ?_
    simp (config := {contextual := true, maxSteps := 5000000}) only [go_sem, false_and, Nat.reduceAdd, Nat.reduceLT, Nat.reduceBEq, Nat.reduceSub, Nat.reduceMul, Nat.reduceLeDiff, Int.reduceToNat, Nat.reduceEqDiff, Nat.reduceMod, ht, hl, specRp, h1, h2, h3, h4, n32, n33, b02, b12, b22]
    exact ⟨step_weakP (by simp [rdP, h2, h3, noStep]), by (repeat (first | exact Hp.Le.refl _ | refine Hp.le_upd ?_ (fN _ _ _ _)))⟩
theorem read_other {s a : ByteArray} {w : List ByteArray} (hsp : Words w0 s (a :: w)) (hw : (((w.length + 1 : Nat) : Int) == 2) = false) (hw3 : (((w.length + 1 : Nat) : Int) == 3) = false) (hr : rdP (a :: w) = (noStep, false)) : ReadIs w0 k H s (a :: w) := by
  refine callAt tabOk specRp_ok mixed Tryz.func53 rfl rfl Tryz.results53 Tryz.ntmps53 (by simp) [] ?_
  intro hfr t hl ht
  simp only [At, Nat.reduceAdd, List.cons_append, List.nil_append] at ht
  have fN : ∀ (a b : Nat) z ty, H ⟨z, a :: b :: k, ty⟩ = none := fun a b z ty => hfr _ (sfx2 _ _ _)
  have b00 : (0 : Int) ≤ 0 ∧ (0 : Int) < ((w.length + 1 : Nat) : Int) := by omega
  simp only [Words, List.map_cons, cS_at] at hsp
  rcases eqS_cases a with ⟨h1, h2, h3, h4⟩ | ⟨h1, h2, h3, h4⟩ | ⟨h1, h2, h3, h4⟩ | ⟨h1, h2, h3, h4⟩ | ⟨h1, h2, h3, h4⟩
  all_goals
    simp (config := {contextual := true, maxSteps := 5000000}) only [go_sem, false_and, Nat.reduceAdd, Nat.reduceLT, Nat.reduceBEq, Nat.reduceSub, Nat.reduceMul, Nat.reduceLeDiff, Int.reduceToNat, Nat.reduceEqDiff, Nat.reduceMod, ht, hl]
    refine callK_intro (hsp _ _) ?_
    simp (config := {contextual := true, maxSteps := 5000000}) only [go_sem, false_and, Nat.reduceAdd, Nat.reduceLT, Nat.reduceBEq, Nat.reduceSub, Nat.reduceMul, Nat.reduceLeDiff, Int.reduceToNat, Nat.reduceEqDiff, Nat.reduceMod, ht, hl, specRp, h1, h2, h3, h4, hw, hw3, b00]
    exact ⟨step_weakP hr, by (repeat (first | exact Hp.Le.refl _ | refine Hp.le_upd ?_ (fN _ _ _ _)))⟩
theorem read_callU (hm : MaxW w0) (s : ByteArray) (hs : s.size ≤ 4000000000) : CallAt Tryz.prog w0 k 53 [.str s] H H (.tup [(rdP (cutC s 32)).1.av, .bool (rdP (cutC s 32)).2]) := by
  have hlen := cutC_len s 32
  have hsp : Words w0 s (cutC s 32) := fun k H => split_call (w0 := w0) (k := k) (H := H) hm s 32 (by omega)
  generalize cutC s 32 = w at hlen hsp ⊢
  match w with
  | [a, b] => exact read_two hsp
  | [a, b, c] => exact read_three hsp
  | [] => simp at hlen
  | [a] => exact read_other hsp rfl rfl rfl
  | a :: b :: c :: d :: w => exact read_other hsp (by simp; omega) (by simp; omega) (by simp [rdP])
end Go.Proofs.YtkdendaohlnlcaaGreatDoor.Av

/- What the functions of package unit answer: names, steps. No condition. -/
namespace Go.Proofs.YtkdendaohlnlcaaGreatDoor.Av
set_option linter.unusedVariables false
set_option linter.unusedSimpArgs false
set_option maxRecDepth 4000
set_option maxHeartbeats 1000000
variable {w0 : Base} {k : List Nat} {H : Hp}
theorem number_call (c : Int) : CallAt Tryz.prog w0 k 108 [.int .i64 c] H H (.bool (number c)) := by
  refine callAt tabOk Spec.no_ok mixed Tryz.func108 rfl rfl Tryz.results108 Tryz.ntmps108 (by simp) [] ?_
  intro hfr t hl ht
  simp only [At, Nat.reduceAdd, List.cons_append, List.nil_append] at ht
  simp (config := {contextual := true, maxSteps := 5000000}) only [go_sem, false_and, Nat.reduceAdd, Nat.reduceLT, Nat.reduceBEq, Nat.reduceSub, Nat.reduceMul, Nat.reduceLeDiff, Int.reduceToNat, Nat.reduceEqDiff, Nat.reduceMod, ht, hl]
  simp +contextual [number] <;> omega
theorem okc_iff (c : Int) : okc c = true ↔ (97 ≤ c ∧ c ≤ 122) ∨ (48 ≤ c ∧ c ≤ 57) ∨ c = 45 := by
  simp [okc, small, digit]
  omega
theorem small_iff (c : Int) : small c = true ↔ 97 ≤ c ∧ c ≤ 122 := by simp [small]
theorem isName_iff (s : ByteArray) : isName s = true ↔ 1 ≤ s.size ∧ s.size ≤ 12 ∧ small (byteAt s 0) = true ∧ ∀ i : Nat, i < s.size → okc (byteAt s i) = true := by simp only [isName, decide_eq_true_eq]
theorem name_call (s : ByteArray) (hs : (s.size : Int) ≤ 9223372036854775807) : CallAt Tryz.prog w0 k 72 [.str s] H H (.bool (isName s)) := by
  refine callAt tabOk Spec.no_ok mixed Tryz.func72 rfl rfl Tryz.results72 Tryz.ntmps72 (by simp) [] ?_
  intro hfr t hl ht
  simp only [At, Nat.reduceAdd, List.cons_append, List.nil_append] at ht
  simp (config := {contextual := true, maxSteps := 5000000}) only [go_sem, false_and, Nat.reduceAdd, Nat.reduceLT, Nat.reduceBEq, Nat.reduceSub, Nat.reduceMul, Nat.reduceLeDiff, Int.reduceToNat, Nat.reduceEqDiff, Nat.reduceMod, ht, hl]
  refine loop_inv tabOk Spec.no_ok mixed [] (fun j x => ∃ i : Nat, x.tmps.length = 47 ∧ x.tmps.getD 0 AV.undef = .str s ∧ x.tmps.getD 3 AV.undef = .int .i64 i ∧ x.H = H ∧ i + j = s.size ∧ (0 < i → small (byteAt s 0) = true) ∧ ∀ i', i' < i → okc (byteAt s i') = true) s.size ⟨0, ?_⟩ ?_
  · simp (config := {contextual := true, maxSteps := 5000000}) only [go_sem, false_and, Nat.reduceAdd, Nat.reduceLT, Nat.reduceBEq, Nat.reduceSub, Nat.reduceMul, Nat.reduceLeDiff, Int.reduceToNat, Nat.reduceEqDiff, Nat.reduceMod, ht, hl]
    simp
  · rintro j ⟨t, m, H'⟩ ⟨i, hl, h0, h3', rfl, hij, hz, hall⟩
    simp only at hl h0 h3'
    by_cases hi : i < s.size
    · have hd : decide ((i : Int) < (s.size : Int)) = true := by simp [hi]
      have hw : IntKind.i64.wrap ((i : Int) + 1) = ((i + 1 : Nat) : Int) := by rw [wrap_i64] <;> omega
      simp (config := {contextual := true, maxSteps := 5000000}) only [go_sem, false_and, Nat.reduceAdd, Nat.reduceLT, Nat.reduceBEq, Nat.reduceSub, Nat.reduceMul, Nat.reduceLeDiff, Int.reduceToNat, Nat.reduceEqDiff, Nat.reduceMod, h0, h3', hl, hd, hw]
      have nx : ((97 ≤ byteAt s i ∧ byteAt s i ≤ 122) ∨ (48 ≤ byteAt s i ∧ byteAt s i ≤ 57) ∨ byteAt s i = 45) → ((i : Int) = 0 → 97 ≤ byteAt s i ∧ byteAt s i ≤ 122) → ∃ j', j = j' + 1 ∧ ∃ i_1 : Nat, ((i + 1 : Nat) : Int) = (i_1 : Int) ∧ i_1 + j' = s.size ∧ (0 < i_1 → small (byteAt s 0) = true) ∧ ∀ i', i' < i_1 → okc (byteAt s i') = true :=
        fun h h2 => ⟨j - 1, by omega, i + 1, rfl, by omega, fun _ => by
          by_cases e : i = 0
          · subst e
            exact (small_iff _).2 (h2 rfl)
          · exact hz (by omega), fun i' h' => by
          by_cases e : i' = i
          · rw [e]; exact (okc_iff _).2 h
          · exact hall i' (by omega)⟩
      have no1 : ¬ ((97 ≤ byteAt s i ∧ byteAt s i ≤ 122) ∨ (48 ≤ byteAt s i ∧ byteAt s i ≤ 57) ∨ byteAt s i = 45) → isName s = false := fun h => by
        rw [← okc_iff] at h
        cases hn : isName s with
        | false => rfl
        | true => exact absurd (((isName_iff s).1 hn).2.2.2 i hi) h
      have no2 : (i : Int) = 0 → ¬ (97 ≤ byteAt s i ∧ byteAt s i ≤ 122) → isName s = false := fun h0 h => by
        obtain rfl : i = 0 := by omega
        rw [← small_iff] at h
        cases hn : isName s with
        | false => rfl
        | true => exact absurd ((isName_iff s).1 hn).2.2.1 h
      generalize (∃ j', j = j' + 1 ∧ ∃ i_1 : Nat, ((i + 1 : Nat) : Int) = (i_1 : Int) ∧ i_1 + j' = s.size ∧ (0 < i_1 → small (byteAt s 0) = true) ∧ ∀ i', i' < i_1 → okc (byteAt s i') = true) = NX at nx ⊢
      simp only [decide_eq_true_eq, decide_eq_false_iff_not, Bool.not_eq_true', Bool.not_eq_false', bne_iff_ne, bne_eq_false_iff_eq, beq_iff_eq, beq_eq_false_iff_ne, ne_eq, Bool.false_eq, Bool.true_eq]
      (repeat' (first | apply And.intro | intro _)) <;> first | omega | exact nx (by omega) (by omega) | exact no1 (by omega) | exact no2 (by omega) (by omega)
    · have hd : decide ((i : Int) < (s.size : Int)) = false := by simp; omega
      simp (config := {contextual := true, maxSteps := 5000000}) only [go_sem, false_and, Nat.reduceAdd, Nat.reduceLT, Nat.reduceBEq, Nat.reduceSub, Nat.reduceMul, Nat.reduceLeDiff, Int.reduceToNat, Nat.reduceEqDiff, Nat.reduceMod, h0, h3', hl, hd]
      have key : 1 ≤ s.size → s.size ≤ 12 → isName s = true := fun h1 h2 => (isName_iff s).2 ⟨h1, h2, hz (by omega), fun i' h' => hall i' (by omega)⟩
      have k2 : ¬ (1 ≤ s.size ∧ s.size ≤ 12) → isName s = false := fun h => by
        cases hn : isName s with
        | false => rfl
        | true => exact absurd ⟨((isName_iff s).1 hn).1, ((isName_iff s).1 hn).2.1⟩ h
      refine ⟨fun a => ?_, fun a => ?_⟩ <;> simp only [decide_eq_true_eq, decide_eq_false_iff_not] at a
      · by_cases b : s.size ≤ 12
        · rw [key (by omega) b]
          simp
          omega
        · rw [k2 (by omega)]
          simp
          omega
      · rw [k2 (by omega)]
def specP0 : Spec := (Spec.no.add 108 (sp1 dI (fun _ => True) fun c => .bool (number c))).add 72 (sp1 dS (fun s => (s.size : Int) ≤ 9223372036854775807) fun c => .bool (isName c))
theorem specP0_ok : SpecOk Tryz.prog w0 specP0 := (Spec.no_ok.add (sp1_ok fun c _ k H => number_call c)).add (sp1_ok fun c h k H => name_call c h)
theorem shaped09_call (s : Step) : CallAt Tryz.prog w0 k 76 [(dA cStep).enc s] H H (.bool s.fine) := by
  refine callAt tabOk specP0_ok mixed Tryz.func76 rfl rfl Tryz.results76 Tryz.ntmps76 (by simp) [] ?_
  intro hfr t hl ht
  simp only [At, dA, cStep, Step.cells] at ht
  have hc : (s.by_ = 1 ∨ s.by_ = 2 ∨ s.by_ = 3 ∨ s.by_ = 4) ∨ (s.by_ == 1) = false ∧ (s.by_ == 2) = false ∧ (s.by_ == 3) = false ∧ (s.by_ == 4) = false := by
    simp only [beq_eq_false_iff_ne]
    omega
  unfold Step.fine
  rcases hc with (hb | hb | hb | hb) | ⟨b1, b2, b3, b4⟩
  · simp (config := {contextual := true, maxSteps := 5000000}) only [go_sem, false_and, Nat.reduceAdd, Nat.reduceLT, Nat.reduceBEq, Nat.reduceSub, Nat.reduceMul, Nat.reduceLeDiff, Int.reduceToNat, Nat.reduceEqDiff, Nat.reduceMod, ht, hl, hb, specP0, Int.reduceBEq]
    (repeat' (first | apply And.intro | intro _)) <;> simp_all [e0]
  · simp (config := {contextual := true, maxSteps := 5000000}) only [go_sem, false_and, Nat.reduceAdd, Nat.reduceLT, Nat.reduceBEq, Nat.reduceSub, Nat.reduceMul, Nat.reduceLeDiff, Int.reduceToNat, Nat.reduceEqDiff, Nat.reduceMod, ht, hl, hb, specP0, Int.reduceBEq]
    (repeat' (first | apply And.intro | intro _)) <;> simp_all [e0]
  · simp (config := {contextual := true, maxSteps := 5000000}) only [go_sem, false_and, Nat.reduceAdd, Nat.reduceLT, Nat.reduceBEq, Nat.reduceSub, Nat.reduceMul, Nat.reduceLeDiff, Int.reduceToNat, Nat.reduceEqDiff, Nat.reduceMod, ht, hl, hb, specP0, Int.reduceBEq]
    (repeat' (first | apply And.intro | intro _)) <;> simp_all [e0]
  · simp (config := {contextual := true, maxSteps := 5000000}) only [go_sem, false_and, Nat.reduceAdd, Nat.reduceLT, Nat.reduceBEq, Nat.reduceSub, Nat.reduceMul, Nat.reduceLeDiff, Int.reduceToNat, Nat.reduceEqDiff, Nat.reduceMod, ht, hl, hb, specP0, Int.reduceBEq]
    (repeat' (first | apply And.intro | intro _)) <;> simp_all [e0]
  · simp (config := {contextual := true, maxSteps := 5000000}) only [go_sem, false_and, Nat.reduceAdd, Nat.reduceLT, Nat.reduceBEq, Nat.reduceSub, Nat.reduceMul, Nat.reduceLeDiff, Int.reduceToNat, Nat.reduceEqDiff, Nat.reduceMod, ht, hl, b1, b2, b3, b4, specP0, Int.reduceBEq]
    simp only [beq_eq_false_iff_ne] at b1 b2 b3 b4
    simp [b1, b2, b3, b4]
def specP1 : Spec := specP0.add 76 (sp1 (dA cStep) (fun _ => True) fun s => .bool s.fine)
theorem specP1_ok : SpecOk Tryz.prog w0 specP1 := specP0_ok.add (sp1_ok fun s _ k H => shaped09_call s)
def Step.err (s : Step) (i : Int) : Int := if 60 ≤ i then 2 else s.why
theorem reasoned_call (s : Step) (i : Int) (hs : (s.cite.size : Int) ≤ 9223372036854775807) : CallAt Tryz.prog w0 k 47 [(dA cStep).enc s, .int .i64 i] H H (.int .i64 (s.err i)) := by
  refine callAt tabOk specP1_ok mixed Tryz.func47 rfl rfl Tryz.results47 Tryz.ntmps47 (by simp) [] ?_
  intro hfr t hl ht
  simp only [At, dA, cStep, Step.cells, Nat.reduceAdd] at ht
  simp (config := {contextual := true, maxSteps := 5000000}) only [go_sem, false_and, Nat.reduceAdd, Nat.reduceLT, Nat.reduceBEq, Nat.reduceSub, Nat.reduceMul, Nat.reduceLeDiff, Int.reduceToNat, Nat.reduceEqDiff, Nat.reduceMod, ht, hl, specP1, specP0]
  unfold Step.err Step.why
  (repeat' (first | apply And.intro | intro _)) <;> simp_all <;> omega
def citedErr (had : List ByteArray) (s : ByteArray) : Int := if isName s then (if had.any fun t => t.toList == s.toList then 92 else if 8 ≤ had.length then 2 else 0) else 91
theorem cited_call (l : List ByteArray) (s : ByteArray) (hn : (l.length : Int) ≤ 9223372036854775807) (hs : (s.size : Int) ≤ 9223372036854775807) : CallAt Tryz.prog w0 k 45 [(dL cS).enc l, .str s] H H (.int .i64 (citedErr l s)) := by
  refine callAt tabOk specP1_ok mixed Tryz.func45 rfl rfl Tryz.results45 Tryz.ntmps45 (by simp) [] ?_
  intro hfr t hl ht
  simp only [At, dL, Nat.reduceAdd] at ht
  simp (config := {contextual := true, maxSteps := 5000000}) only [go_sem, false_and, Nat.reduceAdd, Nat.reduceLT, Nat.reduceBEq, Nat.reduceSub, Nat.reduceMul, Nat.reduceLeDiff, Int.reduceToNat, Nat.reduceEqDiff, Nat.reduceMod, ht, hl, specP1, specP0]
  refine ⟨hs, fun a => ?_, fun a => ?_⟩ <;> simp only [Bool.not_eq_true', Bool.not_eq_false'] at a
  · simp [citedErr, a]
  · refine loop_inv tabOk specP1_ok mixed [] (fun q x => ∃ m : Nat, x.tmps.length = 23 ∧ x.tmps.getD 0 AV.undef = .list .none (l.map cS.enc) ∧ x.tmps.getD 1 AV.undef = .str s ∧ x.tmps.getD 10 AV.undef = .list .none (l.map cS.enc) ∧ x.tmps.getD 11 AV.undef = .int .i64 l.length ∧
      x.tmps.getD 12 AV.undef = .int .i64 m ∧ x.H = H ∧ m + q = l.length ∧ ∀ m' y, m' < m → l[m']? = some y → (y.toList == s.toList) = false) l.length ⟨0, ?_⟩ ?_
    · simp (config := {contextual := true, maxSteps := 5000000}) only [go_sem, false_and, Nat.reduceAdd, Nat.reduceLT, Nat.reduceBEq, Nat.reduceSub, Nat.reduceMul, Nat.reduceLeDiff, Int.reduceToNat, Nat.reduceEqDiff, Nat.reduceMod, ht, hl]
      simp
    · rintro q ⟨t, n, H'⟩ ⟨m, hl, h0, h1, h10, h11, h12, hH, hmq, hno⟩
      simp only at hl h0 h1 h10 h11 h12 hH
      subst hH
      by_cases hm : m < l.length
      · have hd : decide ((m : Int) < (l.length : Int)) = true := by simp [hm]
        have hw3 : IntKind.i64.wrap ((m : Int) + 1) = ((m + 1 : Nat) : Int) := by rw [wrap_i64] <;> omega
        obtain ⟨y, hy, hye⟩ := str_get l hm
        simp (config := {contextual := true, maxSteps := 5000000}) only [go_sem, false_and, Nat.reduceAdd, Nat.reduceLT, Nat.reduceBEq, Nat.reduceSub, Nat.reduceMul, Nat.reduceLeDiff, Int.reduceToNat, Nat.reduceEqDiff, Nat.reduceMod, hye, h0, h1, h10, h11, h12, hl, hd, hw3]
        refine ⟨⟨by omega, by omega⟩, fun b => ?_, fun b => ⟨q - 1, by omega, m + 1, rfl, by omega, fun m' z hm' hz => ?_⟩⟩
        · have : (l.any fun t => t.toList == s.toList) = true := by
            rw [List.any_eq_true]
            exact ⟨y, List.mem_of_getElem? hy, b⟩
          simp [citedErr, a, this]
        · by_cases e : m' = m
          · subst e
            rw [hy] at hz
            cases hz
            exact b
          · exact hno m' z (by omega) hz
      · have hd : decide ((m : Int) < (l.length : Int)) = false := by simp; omega
        simp (config := {contextual := true, maxSteps := 5000000}) only [go_sem, false_and, Nat.reduceAdd, Nat.reduceLT, Nat.reduceBEq, Nat.reduceSub, Nat.reduceMul, Nat.reduceLeDiff, Int.reduceToNat, Nat.reduceEqDiff, Nat.reduceMod, h0, h1, h10, h11, h12, hl, hd]
        have : (l.any fun t => t.toList == s.toList) = false := by
          rw [List.any_eq_false]
          intro y hy
          obtain ⟨m', hm', rfl⟩ := List.getElem_of_mem hy
          have := hno m' l[m'] (by omega) (by simp)
          simp [this]
        simp only [citedErr, a, this, Bool.false_eq_true, if_false, if_true]
        refine ⟨fun b => ?_, fun b => ?_⟩ <;> simp only [decide_eq_true_eq, decide_eq_false_iff_not] at b
        · rw [if_pos (by omega)]
        · rw [if_neg (by omega)]
end Go.Proofs.YtkdendaohlnlcaaGreatDoor.Av

/- What unit.written and unit.Right answer. No condition. -/
namespace Go.Proofs.YtkdendaohlnlcaaGreatDoor.Av
set_option linter.unusedVariables false
set_option linter.unusedSimpArgs false
set_option maxRecDepth 4000
set_option maxHeartbeats 1000000
variable {w0 : Base} {k : List Nat} {H : Hp}
theorem written_call (e : E) (hok : e.ok) : CallAt Tryz.prog w0 k 46 [e.av] H H (.int .i64 e.written) := by
  refine callAt tabOk specX5_ok mixed Tryz.func46 rfl rfl Tryz.results46 Tryz.ntmps46 (by simp) [] ?_
  intro hfr t hl ht
  simp only [At, Nat.reduceAdd, List.cons_append, List.nil_append] at ht
  simp (config := {contextual := true, maxSteps := 5000000}) only [go_sem, false_and, Nat.reduceAdd, Nat.reduceLT, Nat.reduceBEq, Nat.reduceSub, Nat.reduceMul, Nat.reduceLeDiff, Int.reduceToNat, Nat.reduceEqDiff, Nat.reduceMod, ht, hl, specX5]
  unfold E.written E.wantF
  (repeat' (first | apply And.intro | intro _)) <;> simp_all <;> omega
def U.okN (u : U) : Prop := u.ok ∧ (∀ s ∈ u.cites, (s.size : Int) ≤ 9223372036854775807) ∧ ∀ s ∈ u.steps, (s.cite.size : Int) ≤ 9223372036854775807
def specPU : Spec := ((Spec.no.add 45 (sp2 (dL cS) dS (fun l s => (l.length : Int) ≤ 9223372036854775807 ∧ (s.size : Int) ≤ 9223372036854775807) fun l s => .int .i64 (citedErr l s))).add
  46 (sp1 dE (fun e => e.ok) fun e => .int .i64 e.written)).add 47 (sp2 (dA cStep) dI (fun s _ => (s.cite.size : Int) ≤ 9223372036854775807) fun s i => .int .i64 (s.err i))
theorem specPU_ok : SpecOk Tryz.prog w0 specPU := ((Spec.no_ok.add (sp2_ok fun l s h k H => cited_call l s h.1 h.2)).add (sp1_ok fun e h k H => written_call e h)).add (sp2_ok fun s i h k H => reasoned_call s i h)
theorem namesGo_cited (l : List ByteArray) {i : Nat} {s : ByteArray} (hs : l[i]? = some s) : namesGo (l.take i) (l.drop i) = if citedErr (l.take i) s = 0 then namesGo (l.take (i + 1)) (l.drop (i + 1)) else citedErr (l.take i) s := by
  have hi : i < l.length := (List.getElem?_eq_some_iff.1 hs).1
  have hlen : (l.take i).length = i := by rw [List.length_take]; omega
  rw [namesGo_at l hs]
  unfold citedErr
  rw [hlen]
  cases isName s with
  | false => simp
  | true =>
    cases (l.take i).any fun t => t.toList == s.toList with
    | true => simp
    | false =>
      by_cases h8 : 8 ≤ i
      · simp [h8]
      · simp [h8]
theorem stepsGo_err (l : List Step) {i : Nat} {s : Step} (h : l[i]? = some s) : stepsGo i (l.drop i) = if s.err i = 0 then (if s.says.written = 0 then stepsGo (i + 1) (l.drop (i + 1)) else s.says.written) else s.err i := by
  rw [stepsGo_at l h]
  unfold Step.err
  by_cases h6 : 60 ≤ i
  · have h6' : (60 : Int) ≤ (i : Int) := by omega
    simp only [if_pos h6, if_pos h6']
    simp
  · have h6' : ¬ (60 : Int) ≤ (i : Int) := by omega
    simp only [if_neg h6, if_neg h6']
theorem right_call (u : U) (hok : u.okN) : CallAt Tryz.prog w0 k 20 [(dA cU).enc u] H H (.int .i64 u.right) := by
  refine callAt tabOk specPU_ok mixed Tryz.func20 rfl rfl Tryz.results20 Tryz.ntmps20 (by simp) [] ?_
  intro hfr t hl ht
  simp only [At, dA, cU, U.cells] at ht
  simp (config := {contextual := true, maxSteps := 5000000}) only [go_sem, false_and, Nat.reduceAdd, Nat.reduceLT, Nat.reduceBEq, Nat.reduceSub, Nat.reduceMul, Nat.reduceLeDiff, Int.reduceToNat, Nat.reduceEqDiff, Nat.reduceMod, ht, hl, specPU]
  refine loop_inv tabOk specPU_ok mixed [] (fun j x => x.tmps.length = 54 ∧ x.tmps.getD 1 AV.undef = .sptr u.cells ∧ x.H = H) 1 ?_ ?_
  · simp (config := {contextual := true, maxSteps := 5000000}) only [go_sem, false_and, Nat.reduceAdd, Nat.reduceLT, Nat.reduceBEq, Nat.reduceSub, Nat.reduceMul, Nat.reduceLeDiff, Int.reduceToNat, Nat.reduceEqDiff, Nat.reduceMod, ht, hl, U.cells]
  · rintro j ⟨t, n, H'⟩ ⟨hl, h1, rfl⟩
    simp only [U.cells] at hl h1
    simp (config := {contextual := true, maxSteps := 5000000}) only [go_sem, false_and, Nat.reduceAdd, Nat.reduceLT, Nat.reduceBEq, Nat.reduceSub, Nat.reduceMul, Nat.reduceLeDiff, Int.reduceToNat, Nat.reduceEqDiff, Nat.reduceMod, h1, hl]
    obtain ⟨⟨ok1, ok2, ok3, ok4⟩, ok5, ok6⟩ := hok
    refine loop_inv tabOk specPU_ok mixed [] (fun j x => ∃ i : Nat, x.tmps.length = 54 ∧ x.tmps.getD 1 AV.undef = .sptr u.cells ∧ x.tmps.getD 9 AV.undef = .list .none (u.cites.map cS.enc) ∧ x.tmps.getD 10 AV.undef = .int .i64 u.cites.length ∧ x.tmps.getD 11 AV.undef = .int .i64 i ∧ x.H = H' ∧ i + j = u.cites.length ∧
      namesGo (u.cites.take i) (u.cites.drop i) = namesGo [] u.cites) u.cites.length ⟨0, ?_⟩ ?_
    · simp (config := {contextual := true, maxSteps := 5000000}) only [go_sem, false_and, Nat.reduceAdd, Nat.reduceLT, Nat.reduceBEq, Nat.reduceSub, Nat.reduceMul, Nat.reduceLeDiff, Int.reduceToNat, Nat.reduceEqDiff, Nat.reduceMod, h1, hl, U.cells]
      simp
    · rintro j ⟨t, n, H''⟩ ⟨i, hl, h1, h9, h10, h11, hH, hij, hgo⟩
      simp only [U.cells] at hl h1 h9 h10 h11 hH
      subst hH
      by_cases hi : i < u.cites.length
      · have hd : decide ((i : Int) < (u.cites.length : Int)) = true := by simp [hi]
        have hw2 : IntKind.i64.wrap ((i : Int) + 1) = ((i + 1 : Nat) : Int) := by rw [wrap_i64] <;> omega
        obtain ⟨s, hs, he⟩ := str_get u.cites hi
        have htk : (u.cites.map cS.enc).take i = (u.cites.take i).map cS.enc := by rw [List.map_take]
        have hat := namesGo_at u.cites hs
        have hgo2 := namesGo_cited u.cites hs
        simp (config := {contextual := true, maxSteps := 5000000}) only [go_sem, false_and, Nat.reduceAdd, Nat.reduceLT, Nat.reduceBEq, Nat.reduceSub, Nat.reduceMul, Nat.reduceLeDiff, Int.reduceToNat, Nat.reduceEqDiff, Nat.reduceMod, he, htk, specPU, h1, h9, h10, h11, hl, hd, hw2]
        have hen : ∀ x ∈ u.cites.map cS.enc, x.length = 1 := fun x hx => by
          obtain ⟨y, _, rfl⟩ := List.mem_map.1 hx
          rfl
        have hsz : (s.size : Int) ≤ 9223372036854775807 := ok5 s (List.mem_of_getElem? hs)
        refine ⟨⟨by omega, by omega⟩, ⟨by omega, by omega, hen⟩, ⟨by rw [List.length_take]; omega, hsz⟩, fun a => ?_, fun a => ⟨j - 1, by omega, i + 1, rfl, rfl, by omega, ?_⟩⟩
        · simp only [bne_iff_ne, ne_eq] at a
          have : namesGo [] u.cites = citedErr (u.cites.take i) s := by rw [← hgo, hgo2, if_neg a]
          rw [U.right, this, if_neg a]
        · simp only [bne_eq_false_iff_eq] at a
          rw [← hgo, hgo2, if_pos a]
      · have hd : decide ((i : Int) < (u.cites.length : Int)) = false := by simp; omega
        have hnm : namesGo [] u.cites = 0 := by rw [← hgo, List.drop_of_length_le (by omega)]; rfl
        simp (config := {contextual := true, maxSteps := 5000000}) only [go_sem, false_and, Nat.reduceAdd, Nat.reduceLT, Nat.reduceBEq, Nat.reduceSub, Nat.reduceMul, Nat.reduceLeDiff, Int.reduceToNat, Nat.reduceEqDiff, Nat.reduceMod, h1, h9, h10, h11, hl, hd, specPU]
        refine ⟨ok3, fun a => ?_, fun a => ⟨fun b => ?_, fun b => ?_⟩⟩
        · simp only [bne_iff_ne, ne_eq] at a
          simp [U.right, hnm, a]
        · simp only [bne_eq_false_iff_eq, beq_iff_eq] at a b
          have : u.steps.length = 0 := by omega
          simp [U.right, hnm, a, this]
        · simp only [bne_eq_false_iff_eq, beq_eq_false_iff_ne] at a b
          have hr : u.right = stepsGo 0 u.steps := by
            have : u.steps.length ≠ 0 := by omega
            simp [U.right, hnm, a, this]
          refine loop_inv tabOk specPU_ok mixed [] (fun j x => ∃ i : Nat, x.tmps.length = 54 ∧ x.tmps.getD 3 AV.undef = .int .i64 0 ∧ x.tmps.getD 35 AV.undef = .list .none (u.steps.map cStep.enc) ∧
            x.tmps.getD 36 AV.undef = .int .i64 u.steps.length ∧ x.tmps.getD 37 AV.undef = .int .i64 i ∧ H''.Le x.H ∧ i + j = u.steps.length ∧ stepsGo i (u.steps.drop i) = u.right) u.steps.length ⟨0, ?_⟩ ?_
          · simp (config := {contextual := true, maxSteps := 5000000}) only [go_sem, false_and, Nat.reduceAdd, Nat.reduceLT, Nat.reduceBEq, Nat.reduceSub, Nat.reduceMul, Nat.reduceLeDiff, Int.reduceToNat, Nat.reduceEqDiff, Nat.reduceMod, h1, h9, h10, h11, hl]
            simp [hr, a, Hp.Le.refl]
          · rintro j ⟨t, n, H3⟩ ⟨i, hl, h3, h35, h36, h37, hH, hij, hgo⟩
            simp only at hl h3 h35 h36 h37 hH
            by_cases hi : i < u.steps.length
            · have hd : decide ((i : Int) < (u.steps.length : Int)) = true := by simp [hi]
              have hw2 : IntKind.i64.wrap ((i : Int) + 1) = ((i + 1 : Nat) : Int) := by rw [wrap_i64] <;> omega
              obtain ⟨s, hs, he⟩ := step_get u.steps hi
              have hat := stepsGo_err u.steps hs
              have hcs : s.cells = [.int .i64 s.says.kind, .int .i64 s.says.id, .list .none (s.says.kids.map E.cells), .int .i64 s.by_, .int .i64 s.a, .int .i64 s.b, .str s.cite] := rfl
              rw [hcs] at he
              simp (config := {contextual := true, maxSteps := 5000000}) only [go_sem, false_and, Nat.reduceAdd, Nat.reduceLT, Nat.reduceBEq, Nat.reduceSub, Nat.reduceMul, Nat.reduceLeDiff, Int.reduceToNat, Nat.reduceEqDiff, Nat.reduceMod, he, specPU, h3, h35, h36, h37, hl, hd, hw2]
              have hn : H'' ⟨7, 3 :: (n + 1) :: k, 50⟩ = none := hfr _ (sfx2 _ _ _)
              have hle : ∀ a, H''.Le (H3.upd ⟨7, 3 :: (n + 1) :: k, 50⟩ a) := fun a => Hp.le_upd hH hn
              have hcz := ok6 s (List.mem_of_getElem? hs)
              have hso := ok4 s (List.mem_of_getElem? hs)
              rw [← hgo, hat]
              refine ⟨⟨by omega, by omega⟩, hcz, fun a => ⟨hso, fun b => ⟨?_, hle _⟩, fun b => ⟨j - 1, by omega, i + 1, ?_, rfl, hle _, by omega, ?_⟩⟩, fun a => ⟨fun b => ⟨?_, hle _⟩, fun b => ?_⟩⟩ <;> simp only [beq_iff_eq, beq_eq_false_iff_ne, bne_iff_ne, ne_eq, bne_eq_false_iff_eq] at a b
              · rw [if_pos a, if_neg b]
              · exact b
              · rw [if_pos a, if_pos b]
              · rw [if_neg a]
              · exact absurd b a
            · have hd : decide ((i : Int) < (u.steps.length : Int)) = false := by simp; omega
              simp (config := {contextual := true, maxSteps := 5000000}) only [go_sem, false_and, Nat.reduceAdd, Nat.reduceLT, Nat.reduceBEq, Nat.reduceSub, Nat.reduceMul, Nat.reduceLeDiff, Int.reduceToNat, Nat.reduceEqDiff, Nat.reduceMod, h3, h35, h36, h37, hl, hd]
              rw [← hgo, List.drop_of_length_le (by omega)]
              exact ⟨rfl, hH⟩
end Go.Proofs.YtkdendaohlnlcaaGreatDoor.Av

/- What package unit reads of a line. No condition. -/
namespace Go.Proofs.YtkdendaohlnlcaaGreatDoor.Av
set_option linter.unusedVariables false
set_option linter.unusedSimpArgs false
set_option maxRecDepth 4000
set_option maxHeartbeats 1000000
variable {w0 : Base} {k : List Nat} {H : Hp}
def specFv : Spec := (Spec.no.add 51 (sp1 dS (fun _ => True) fun s => (fmRes s).av)).add 46 (sp1 dE (fun e => e.ok) fun e => .int .i64 e.written)
theorem specFv_ok : SpecOk Tryz.prog w0 specFv := (Spec.no_ok.add (sp1_ok fun s _ k H => formulaX_call s)).add (sp1_ok fun e h k H => written_call e h)
theorem formulaU_call (s : ByteArray) : CallAt Tryz.prog w0 k 24 [.str s] H H (.tup [(fmU s).1.av, .int .i64 (fmU s).2]) := by
  refine callAt tabOk specFv_ok mixed Tryz.func24 rfl rfl Tryz.results24 Tryz.ntmps24 (by simp) [] ?_
  intro hfr t hl ht
  simp only [At, Nat.reduceAdd, List.cons_append, List.nil_append] at ht
  have fN : ∀ (a b : Nat) z ty, H ⟨z, a :: b :: k, ty⟩ = none := fun a b z ty => hfr _ (sfx2 _ _ _)
  unfold fmU
  have he0 : ((0 : Int) == 0) = true := rfl
  cases hf : fmRes s with
  | ok x =>
    simp (config := {contextual := true, maxSteps := 5000000}) only [go_sem, false_and, Nat.reduceAdd, Nat.reduceLT, Nat.reduceBEq, Nat.reduceSub, Nat.reduceMul, Nat.reduceLeDiff, Int.reduceToNat, Nat.reduceEqDiff, Nat.reduceMod, ht, hl, specFv, hf, FR.av, he0, toE_at]
    exact ⟨(fmRes_ok hf).1, by (repeat (first | exact Hp.Le.refl _ | refine Hp.le_upd ?_ (fN _ _ _ _)))⟩
  | err e a =>
    have he : (e == 0) = false := by simpa using fmRes_ne hf
    simp (config := {contextual := true, maxSteps := 5000000}) only [go_sem, false_and, Nat.reduceAdd, Nat.reduceLT, Nat.reduceBEq, Nat.reduceSub, Nat.reduceMul, Nat.reduceLeDiff, Int.reduceToNat, Nat.reduceEqDiff, Nat.reduceMod, ht, hl, specFv, hf, FR.av, he]
    exact ⟨noE_weak, by (repeat (first | exact Hp.Le.refl _ | refine Hp.le_upd ?_ (fN _ _ _ _)))⟩
theorem linesU_call (hm : MaxW w0) (s : ByteArray) (hs : s.size ≤ 4000000000) : CallAt Tryz.prog w0 k 21 [.str s] H H (.list .none ((linesOf s).map cS.enc)) := by
  refine callAt tabOk Spec.no_ok mixed Tryz.func21 rfl rfl Tryz.results21 Tryz.ntmps21 (by simp) [] ?_
  intro hfr t hl ht
  simp only [At, Nat.reduceAdd, List.cons_append, List.nil_append] at ht
  have fN : ∀ (a b : Nat) z ty, H ⟨z, a :: b :: k, ty⟩ = none := fun a b z ty => hfr _ (sfx2 _ _ _)
  have hn := cutC_len s 10
  have hsp : ∀ k H, CallAt Tryz.prog w0 k 48 [.str s, .str ⟨#[10]⟩] H (H.upd ⟨1, k, 9⟩ (some .tok)) (.list (.tok ⟨1, k, 9⟩) ((cutC s 10).map cS.enc)) := fun k H => split_call (w0 := w0) (k := k) (H := H) hm s 10 (by omega)
  obtain ⟨x, hx, hxe⟩ := str_get (cutC s 10) (i := (cutC s 10).length - 1) (by omega)
  have hw : IntKind.i64.wrap (((cutC s 10).length : Int) - 1) = (((cutC s 10).length - 1 : Nat) : Int) := by rw [wrap_i64] <;> omega
  unfold linesOf lns
  rw [hx]
  simp (config := {contextual := true, maxSteps := 5000000}) only [go_sem, false_and, Nat.reduceAdd, Nat.reduceLT, Nat.reduceBEq, Nat.reduceSub, Nat.reduceMul, Nat.reduceLeDiff, Int.reduceToNat, Nat.reduceEqDiff, Nat.reduceMod, ht, hl]
  refine callK_intro (hsp _ _) ?_
  simp (config := {contextual := true, maxSteps := 5000000}) only [go_sem, false_and, Nat.reduceAdd, Nat.reduceLT, Nat.reduceBEq, Nat.reduceSub, Nat.reduceMul, Nat.reduceLeDiff, Int.reduceToNat, Nat.reduceEqDiff, Nat.reduceMod, ht, hl, hw, hxe]
  refine ⟨⟨by omega, by omega⟩, fun a => ⟨⟨by omega, by omega, cS_each _⟩, ?_, Hp.le_upd (Hp.Le.refl _) (fN _ _ _ _)⟩, fun a => ⟨?_, Hp.le_upd (Hp.Le.refl _) (fN _ _ _ _)⟩⟩
  · rw [show e0 x = true from a, if_pos rfl, List.map_take]
    exact Weak.refl _
  · rw [show e0 x = false from a, if_neg (by simp)]
    exact list_weak
def specSp : Spec := ((((Spec.no.add 37 (sp1 dI (fun n => 0 ≤ n ∧ n < 100) fun n => .str (T (Lib.itoa n)))).add 23 (sp2 dS dS (fun _ _ => True) fun s p => .tup [.str (if beg s p then s.extract p.size s.size else s), .bool (beg s p)])).add 47 (sp2 (dA cStep) dI (fun s _ => (s.cite.size : Int) ≤ 9223372036854775807) fun s i => .int .i64 (s.err i))).add
  24 (sp1 dS (fun _ => True) fun s => .tup [(fmU s).1.av, .int .i64 (fmU s).2]))
theorem specSp_ok : SpecOk Tryz.prog w0 specSp := ((((Spec.no_ok.add (sp1_ok fun n h k H => itoa_small n h.1 h.2)).add (sp2_ok fun s p _ k H => cutPrefix_call s p)).add (sp2_ok fun s i h k H => reasoned_call s i h)).add (sp1_ok fun s _ k H => formulaU_call s))
def specSq (hm : MaxW w0) : Spec := (specSp.add 52 (sp2 dS dS (fun s p => s.size < 4294967281 ∧ p = ⟨#[58]⟩) fun s _ => .tup [.str (s.extract 0 (fstC s 58)), .str (s.extract (fstC s 58 + 1) s.size), .bool (decide (fstC s 58 < s.size))])).add 53 (sp1 dS (fun s => s.size ≤ 4000000000) fun s => .tup [(rdP (cutC s 32)).1.av, .bool (rdP (cutC s 32)).2])
theorem specSq_ok (hm : MaxW w0) : SpecOk Tryz.prog w0 (specSq hm) := (specSp_ok.add (sp2_ok fun s p h k H => by
  obtain ⟨h1, rfl⟩ := h
  exact cut_call (w0 := w0) (k := k) (H := H) hm s 58 h1)).add (sp1_ok fun s h k H => read_callU hm s h)
theorem rdP_cite {w : List ByteArray} {n : Nat} (h : ∀ x ∈ w, x.size ≤ n) : (rdP w).1.cite.size ≤ n := by
  have z : (⟨#[]⟩ : ByteArray).size ≤ n := Nat.zero_le _
  unfold rdP
  split
  · rename_i a b
    split
    · exact z
    · split
      · exact h b (by simp)
      · exact z
  · split
    · exact z
    · split
      · exact z
      · exact z
  · exact z
theorem err_fine {st : Step} {i : Int} (hf : st.fine = true) (hi : ¬ 60 ≤ i) : st.err i = if st.by_ = 4 ∧ isName st.cite = false then 91 else 0 := by
  rw [Step.err, if_neg hi, Step.why, if_pos hf]
theorem stepU_call (hm : MaxW w0) (s : ByteArray) (i : Int) (hs : s.size ≤ 4000000000) (hn : 0 ≤ i) : CallAt Tryz.prog w0 k 25 [.str s, .int .i64 i] H H (.tup [(stepR s (i + 1)).1.av, .int .i64 (stepR s (i + 1)).2]) := by
  refine callAt tabOk (specSq_ok hm) mixed Tryz.func25 rfl rfl Tryz.results25 Tryz.ntmps25 (by simp) [] ?_
  intro hfr t hl ht
  simp only [At, Nat.reduceAdd, List.cons_append, List.nil_append] at ht
  have fN : ∀ (a b : Nat) z ty, H ⟨z, a :: b :: k, ty⟩ = none := fun a b z ty => hfr _ (sfx2 _ _ _)
  by_cases h60 : 60 ≤ i
  · have d60 : decide ((60 : Int) ≤ i) = true := by simpa using h60
    rw [stepR, if_pos (by omega)]
    simp (config := {contextual := true, maxSteps := 5000000}) only [go_sem, false_and, Nat.reduceAdd, Nat.reduceLT, Nat.reduceBEq, Nat.reduceSub, Nat.reduceMul, Nat.reduceLeDiff, Int.reduceToNat, Nat.reduceEqDiff, Nat.reduceMod, ht, hl, specSq, specSp, d60]
    exact ⟨step_weakE, by (repeat (first | exact Hp.Le.refl _ | refine Hp.le_upd ?_ (fN _ _ _ _)))⟩
  have d60 : decide ((60 : Int) ≤ i) = false := by simpa using h60
  rw [stepR, if_neg (by omega)]
  have hw : IntKind.i64.wrap (i + 1) = i + 1 := by rw [wrap_i64] <;> omega
  have hnt : ByteArray.mk (Lib.itoa (i + 1) ++ [32]).toArray = numT (i + 1) := rfl
  have z32 : (#[32] : Array UInt8).size = 1 := rfl
  have hsz2 : ((s.extract (fstC s 58 + 1) s.size).extract 1 (s.extract (fstC s 58 + 1) s.size).size).size ≤ 4000000000 := by simp only [ByteArray.size_extract]; omega
  generalize ha : s.extract 0 (fstC s 58) = said
  generalize hb : s.extract (fstC s 58 + 1) s.size = behind at hsz2 ⊢
  have hs2 : s.size < 4294967281 := by omega
  have hi2 : 0 ≤ i + 1 ∧ i + 1 < 100 := by omega
  have hnl := Lib.itoa_length_le (i + 1) (by omega) (by omega)
  have hszn : (((Lib.itoa (i + 1)).toArray.size + 1 : Nat) : Int) ≤ 9223372036854775807 := by rw [List.size_toArray]; omega
  by_cases h3 : fstC s 58 < s.size
  · have d3 : decide (fstC s 58 < s.size) = true := by simpa using h3
    rw [if_pos h3]
    cases h1 : beg said (numT (i + 1)) with
    | false =>
      cases h2 : beg behind ⟨#[32]⟩ <;>
      · simp (config := {contextual := true, maxSteps := 5000000}) only [go_sem, false_and, Nat.reduceAdd, Nat.reduceLT, Nat.reduceBEq, Nat.reduceSub, Nat.reduceMul, Nat.reduceLeDiff, Int.reduceToNat, Nat.reduceEqDiff, Nat.reduceMod, ht, hl, specSq, specSp, d60, hw, ha, hb, hnt, h1, h2, d3, z32]
        exact ⟨hs2, hi2, hszn, step_weakE, by (repeat (first | exact Hp.Le.refl _ | refine Hp.le_upd ?_ (fN _ _ _ _)))⟩
    | true =>
      cases h2 : beg behind ⟨#[32]⟩ with
      | false =>
        simp (config := {contextual := true, maxSteps := 5000000}) only [go_sem, false_and, Nat.reduceAdd, Nat.reduceLT, Nat.reduceBEq, Nat.reduceSub, Nat.reduceMul, Nat.reduceLeDiff, Int.reduceToNat, Nat.reduceEqDiff, Nat.reduceMod, ht, hl, specSq, specSp, d60, hw, ha, hb, hnt, h1, h2, d3, z32]
        exact ⟨hs2, hi2, hszn, step_weakE, by (repeat (first | exact Hp.Le.refl _ | refine Hp.le_upd ?_ (fN _ _ _ _)))⟩
      | true =>
        obtain ⟨q1, q2⟩ := rd_eq (cutC (behind.extract 1 behind.size) 32)
        have hcz := rdP_cite (w := cutC (behind.extract 1 behind.size) 32) (n := 4000000000) fun x hx => by have := cutF_mem hx; omega
        generalize hf : fmU (said.extract (numT (i + 1)).size said.size) = f
        generalize hr : rdP (cutC (behind.extract 1 behind.size) 32) = rp at q1 q2 hcz
        generalize hrw : rdW (cutC (behind.extract 1 behind.size) 32) = r at q1 q2
        obtain ⟨st, b⟩ := r
        obtain ⟨sp, bp⟩ := rp
        simp only at q1 q2 hcz
        subst q1
        cases bp with
        | false =>
          simp (config := {contextual := true, maxSteps := 5000000}) only [go_sem, false_and, Nat.reduceAdd, Nat.reduceLT, Nat.reduceBEq, Nat.reduceSub, Nat.reduceMul, Nat.reduceLeDiff, Int.reduceToNat, Nat.reduceEqDiff, Nat.reduceMod, ht, hl, specSq, specSp, d60, hw, ha, hb, hnt, h1, h2, d3, z32, hr, Step.cells]
          exact ⟨hs2, hi2, hszn, hsz2, step_weakE, by (repeat (first | exact Hp.Le.refl _ | refine Hp.le_upd ?_ (fN _ _ _ _)))⟩
        | true =>
          obtain ⟨q3, q4⟩ := q2 rfl
          cases q3
          have herr := err_fine (i := i) q4 h60
          have hcz2 : (st.cite.size : Int) ≤ 9223372036854775807 := by omega
          have n91 : ((91 : Int) != 0) = true := rfl
          have n00 : ((0 : Int) != 0) = false := rfl
          by_cases hq : st.by_ = 4 ∧ isName st.cite = false
          · rw [if_pos hq] at herr
            rw [show stepF (st, true) f = (noStep, 91) by rw [stepF, if_neg (by simp), if_pos hq]]
            simp (config := {contextual := true, maxSteps := 5000000}) only [go_sem, false_and, Nat.reduceAdd, Nat.reduceLT, Nat.reduceBEq, Nat.reduceSub, Nat.reduceMul, Nat.reduceLeDiff, Int.reduceToNat, Nat.reduceEqDiff, Nat.reduceMod, ht, hl, specSq, specSp, d60, hw, ha, hb, hnt, h1, h2, d3, z32, hr, hf, Step.cells, herr, n91]
            exact ⟨hs2, hi2, hszn, hsz2, hcz2, step_weakE, by (repeat (first | exact Hp.Le.refl _ | refine Hp.le_upd ?_ (fN _ _ _ _)))⟩
          · rw [if_neg hq] at herr
            rw [show stepF (st, true) f = (⟨f.1, st.by_, st.a, st.b, st.cite⟩, f.2) by rw [stepF, if_neg (by simp), if_neg hq]]
            simp (config := {contextual := true, maxSteps := 5000000}) only [go_sem, false_and, Nat.reduceAdd, Nat.reduceLT, Nat.reduceBEq, Nat.reduceSub, Nat.reduceMul, Nat.reduceLeDiff, Int.reduceToNat, Nat.reduceEqDiff, Nat.reduceMod, ht, hl, specSq, specSp, d60, hw, ha, hb, hnt, h1, h2, d3, z32, hr, hf, Step.cells, herr, n00]
            exact ⟨hs2, hi2, hszn, hsz2, hcz2, Weak.refl _, by (repeat (first | exact Hp.Le.refl _ | refine Hp.le_upd ?_ (fN _ _ _ _)))⟩
  · have d3 : decide (fstC s 58 < s.size) = false := by simpa using h3
    rw [if_neg h3]
    cases h1 : beg said (numT (i + 1)) <;> cases h2 : beg behind ⟨#[32]⟩ <;>
    · simp (config := {contextual := true, maxSteps := 5000000}) only [go_sem, false_and, Nat.reduceAdd, Nat.reduceLT, Nat.reduceBEq, Nat.reduceSub, Nat.reduceMul, Nat.reduceLeDiff, Int.reduceToNat, Nat.reduceEqDiff, Nat.reduceMod, ht, hl, specSq, specSp, d60, hw, ha, hb, hnt, h1, h2, d3, z32]
      exact ⟨hs2, hi2, hszn, step_weakE, by (repeat (first | exact Hp.Le.refl _ | refine Hp.le_upd ?_ (fN _ _ _ _)))⟩
end Go.Proofs.YtkdendaohlnlcaaGreatDoor.Av

/- What package unit reads of a text's first line. No condition. -/
namespace Go.Proofs.YtkdendaohlnlcaaGreatDoor.Av
set_option linter.unusedVariables false
set_option linter.unusedSimpArgs false
set_option maxRecDepth 4000
set_option maxHeartbeats 1000000
variable {w0 : Base} {k : List Nat} {H : Hp}
def nmU (s : ByteArray) : List ByteArray × Int := if (citR s).2 = 0 then citR s else ([], (citR s).2)
def specNm : Spec := ((Spec.no.add 23 (sp2 dS dS (fun _ _ => True) fun s p => .tup [.str (if beg s p then s.extract p.size s.size else s), .bool (beg s p)])).add 45 (sp2 (dL cS) dS (fun l s => (l.length : Int) ≤ 9223372036854775807 ∧ (s.size : Int) ≤ 9223372036854775807) fun l s => .int .i64 (citedErr l s))).add 49 (sp1 dS (fun s => s.size ≤ 281474976710656) fun s => .str s)
theorem specNm_ok : SpecOk Tryz.prog w0 specNm := ((Spec.no_ok.add (sp2_ok fun s p _ k H => cutPrefix_call s p)).add (sp2_ok fun l s h k H => cited_call l s h.1 h.2)).add (sp1_ok fun s h k H => clone_call s h)
theorem namesU_call (hm : MaxW w0) (s : ByteArray) (hs : s.size ≤ 4000000000) : CallAt Tryz.prog w0 k 22 [.str s] H H (.tup [.list .none ((nmU s).1.map cS.enc), .int .i64 (nmU s).2]) := by
  refine callAt tabOk specNm_ok mixed Tryz.func22 rfl rfl Tryz.results22 Tryz.ntmps22 (by simp) [] ?_
  intro hfr t hl ht
  simp only [At, Nat.reduceAdd, List.cons_append, List.nil_append] at ht
  have fN : ∀ (a b : Nat) z ty, H ⟨z, a :: b :: k, ty⟩ = none := fun a b z ty => hfr _ (sfx2 _ _ _)
  have z5 : (#[99, 105, 116, 101, 115] : Array UInt8).size = 5 := rfl
  have n90 : ¬ ((90 : Int) = 0) := by decide
  cases h1 : beg s ⟨#[99, 105, 116, 101, 115]⟩ with
  | false =>
    rw [show nmU s = ([], 90) by simp [nmU, citR, h1]]
    simp (config := {contextual := true, maxSteps := 5000000}) only [go_sem, false_and, Nat.reduceAdd, Nat.reduceLT, Nat.reduceBEq, Nat.reduceSub, Nat.reduceMul, Nat.reduceLeDiff, Int.reduceToNat, Nat.reduceEqDiff, Nat.reduceMod, ht, hl, specNm, h1]
    exact cites_weak
  | true =>
    have hx : (s.extract 5 s.size).size ≤ 4000000000 := by simp only [ByteArray.size_extract]; omega
    generalize hr : s.extract 5 s.size = r at hx
    have hr0 : e0 r = false → 0 < r.size := fun h => by
      rcases Nat.eq_zero_or_pos r.size with hz | hz
      · have : r = ⟨#[]⟩ := by apply ByteArray.ext; exact Array.eq_empty_of_size_eq_zero hz
        rw [this] at h
        simp [e0] at h
      · exact hz
    cases h2 : e0 r with
    | true =>
      rw [show nmU s = ([], 0) by simp [nmU, citR, h1, hr, h2]]
      have h2' : (r.toList == (⟨#[]⟩ : ByteArray).toList) = true := h2
      simp (config := {contextual := true, maxSteps := 5000000}) only [go_sem, false_and, Nat.reduceAdd, Nat.reduceLT, Nat.reduceBEq, Nat.reduceSub, Nat.reduceMul, Nat.reduceLeDiff, Int.reduceToNat, Nat.reduceEqDiff, Nat.reduceMod, ht, hl, specNm, h1, hr, h2', z5]
      exact cites_weak
    | false =>
      have hrp := hr0 h2
      have h2' : (r.toList == (⟨#[]⟩ : ByteArray).toList) = false := h2
      cases h3 : byteAt r 0 != 32 with
      | true =>
        rw [show nmU s = ([], 90) by simp [nmU, citR, h1, hr, h2, show ¬ byteAt r 0 = 32 by simpa using h3]]
        simp (config := {contextual := true, maxSteps := 5000000}) only [go_sem, false_and, Nat.reduceAdd, Nat.reduceLT, Nat.reduceBEq, Nat.reduceSub, Nat.reduceMul, Nat.reduceLeDiff, Int.reduceToNat, Nat.reduceEqDiff, Nat.reduceMod, ht, hl, specNm, h1, hr, h2', z5, h3]
        exact ⟨⟨by omega, by omega⟩, cites_weak⟩
      | false =>
        have hx2 : (r.extract 1 r.size).size ≤ 4000000000 := by simp only [ByteArray.size_extract]; omega
        have hsp : ∀ k H, CallAt Tryz.prog w0 k 48 [.str (r.extract 1 r.size), .str ⟨#[32]⟩] H (H.upd ⟨1, k, 9⟩ (some .tok)) (.list (.tok ⟨1, k, 9⟩) ((cutC (r.extract 1 r.size) 32).map cS.enc)) := fun k H => split_call (w0 := w0) (k := k) (H := H) hm _ 32 (by omega)
        have hci : citR s = (cutC (r.extract 1 r.size) 32, namesGo [] (cutC (r.extract 1 r.size) 32)) := by simp [citR, h1, hr, h2, show byteAt r 0 = 32 by simpa using h3]
        have hlen := cutC_len (r.extract 1 r.size) 32
        have hmem : ∀ x ∈ cutC (r.extract 1 r.size) 32, x.size ≤ 4000000000 := fun x hx => by have := cutF_mem hx; omega
        rw [nmU, hci]
        generalize cutC (r.extract 1 r.size) 32 = l at hsp hlen hmem ⊢
        simp (config := {contextual := true, maxSteps := 5000000}) only [go_sem, false_and, Nat.reduceAdd, Nat.reduceLT, Nat.reduceBEq, Nat.reduceSub, Nat.reduceMul, Nat.reduceLeDiff, Int.reduceToNat, Nat.reduceEqDiff, Nat.reduceMod, ht, hl, specNm, h1, hr, h2', z5, h3]
        refine ⟨⟨by omega, by omega⟩, ⟨by omega, by omega⟩, callK_intro (hsp _ _) ?_⟩
        simp (config := {contextual := true, maxSteps := 5000000}) only [go_sem, false_and, Nat.reduceAdd, Nat.reduceLT, Nat.reduceBEq, Nat.reduceSub, Nat.reduceMul, Nat.reduceLeDiff, Int.reduceToNat, Nat.reduceEqDiff, Nat.reduceMod, ht, hl, specNm]
        have hen : ∀ x ∈ l.map cS.enc, x.length = 1 := cS_each l
        refine loop_invD (fun j y => ∃ i : Nat, y.tmps.length = 53 ∧ y.tmps.getD 6 AV.undef = .list (.tok ⟨1, 2 :: 4 :: k, 9⟩) (l.map cS.enc) ∧ y.tmps.getD 31 AV.undef = .list (.tok ⟨1, 2 :: 4 :: k, 9⟩) (l.map cS.enc) ∧ y.tmps.getD 32 AV.undef = .int .i64 l.length ∧ y.tmps.getD 33 AV.undef = .int .i64 i ∧
          y.H = H.upd ⟨1, 2 :: 4 :: k, 9⟩ (some .tok) ∧ i + j = l.length ∧ namesGo (l.take i) (l.drop i) = namesGo [] l) l.length ⟨0, ?_⟩ ?_
        · simp (config := {contextual := true, maxSteps := 5000000}) only [go_sem, false_and, Nat.reduceAdd, Nat.reduceLT, Nat.reduceBEq, Nat.reduceSub, Nat.reduceMul, Nat.reduceLeDiff, Int.reduceToNat, Nat.reduceEqDiff, Nat.reduceMod, ht, hl]
          exact ⟨rfl, by omega⟩
        · rintro j ⟨t, n, H2⟩ ⟨i, hl, h6, h31, h32, h33, hH, hij, hgo⟩
          simp only at hl h6 h31 h32 h33 hH
          subst hH
          by_cases hi : i < l.length
          · have hd : decide ((i : Int) < (l.length : Int)) = true := by simp [hi]
            have hw : IntKind.i64.wrap ((i : Int) + 1) = ((i + 1 : Nat) : Int) := by rw [wrap_i64] <;> omega
            obtain ⟨x, hx, he⟩ := str_get l hi
            have htk : (l.map cS.enc).take i = (l.take i).map cS.enc := by rw [List.map_take]
            have hgo2 := namesGo_cited l hx
            have hxs := hmem x (List.mem_of_getElem? hx)
            refine DetOk.cut tabOk specNm_ok mixed [] ?_
            simp (config := {contextual := true, maxSteps := 5000000}) only [go_sem, false_and, Nat.reduceAdd, Nat.reduceLT, Nat.reduceBEq, Nat.reduceSub, Nat.reduceMul, Nat.reduceLeDiff, Int.reduceToNat, Nat.reduceEqDiff, Nat.reduceMod, h6, h31, h32, h33, hl, hd]
            refine DetOk.cut tabOk specNm_ok mixed [] ?_
            simp (config := {contextual := true, maxSteps := 5000000}) only [go_sem, false_and, Nat.reduceAdd, Nat.reduceLT, Nat.reduceBEq, Nat.reduceSub, Nat.reduceMul, Nat.reduceLeDiff, Int.reduceToNat, Nat.reduceEqDiff, Nat.reduceMod, h6, h31, h32, h33, hl, hd]
            refine DetOk.seq (DetOk.block (DetOk.cut tabOk specNm_ok mixed [] ?_))
            simp (config := {contextual := true, maxSteps := 5000000}) only [go_sem, false_and, Nat.reduceAdd, Nat.reduceLT, Nat.reduceBEq, Nat.reduceSub, Nat.reduceMul, Nat.reduceLeDiff, Int.reduceToNat, Nat.reduceEqDiff, Nat.reduceMod, h6, h31, h32, h33, hl, hd, he]
            refine ⟨⟨by omega, by omega⟩, DetOk.cut tabOk specNm_ok mixed [] ?_⟩
            simp (config := {contextual := true, maxSteps := 5000000}) only [go_sem, false_and, Nat.reduceAdd, Nat.reduceLT, Nat.reduceBEq, Nat.reduceSub, Nat.reduceMul, Nat.reduceLeDiff, Int.reduceToNat, Nat.reduceEqDiff, Nat.reduceMod, h6, h31, h32, h33, hl, hd, he, htk, specNm]
            refine ⟨⟨by omega, by omega, hen⟩, ⟨by rw [List.length_take]; omega, by omega⟩, fun a => ?_, fun a => ?_⟩
            · simp only [bne_iff_ne, ne_eq] at a
              have hz : namesGo [] l = citedErr (l.take i) x := by rw [← hgo, hgo2, if_neg a]
              rw [hz, if_neg a]
              exact ⟨cites_weak, Hp.le_upd (Hp.Le.refl _) (fN _ _ _ _)⟩
            · simp only [bne_eq_false_iff_eq] at a
              refine DetOk.keep tabOk specNm_ok [] 4 rfl rfl rfl rfl rfl rfl rfl rfl rfl tab_22 tab_9 (by intro h; cases h) (by simp [hl]) ?_
              simp (config := {contextual := true, maxSteps := 5000000}) only [go_sem, false_and, Nat.reduceAdd, Nat.reduceLT, Nat.reduceBEq, Nat.reduceSub, Nat.reduceMul, Nat.reduceLeDiff, Int.reduceToNat, Nat.reduceEqDiff, Nat.reduceMod, h6, h31, h32, h33, hl, hd, he, specNm]
              refine ⟨by omega, ⟨by omega, by omega⟩, ?_⟩
              refine DetOk.of_vc tabOk specNm_ok mixed [] ?_
              simp (config := {contextual := true, maxSteps := 5000000}) only [go_sem, false_and, Nat.reduceAdd, Nat.reduceLT, Nat.reduceBEq, Nat.reduceSub, Nat.reduceMul, Nat.reduceLeDiff, Int.reduceToNat, Nat.reduceEqDiff, Nat.reduceMod, h6, h31, h32, h33, hl, hw]
              exact ⟨j - 1, by omega, i + 1, rfl, by omega, by rw [← hgo, hgo2, if_pos a]⟩
          · have hd : decide ((i : Int) < (l.length : Int)) = false := by simp; omega
            have hnm : namesGo [] l = 0 := by rw [← hgo, List.drop_of_length_le (by omega)]; rfl
            refine DetOk.of_vc tabOk specNm_ok mixed [] ?_
            simp (config := {contextual := true, maxSteps := 5000000}) only [go_sem, false_and, Nat.reduceAdd, Nat.reduceLT, Nat.reduceBEq, Nat.reduceSub, Nat.reduceMul, Nat.reduceLeDiff, Int.reduceToNat, Nat.reduceEqDiff, Nat.reduceMod, h6, h31, h32, h33, hl, hd]
            rw [hnm, if_pos rfl]
            exact ⟨WeakL.tup ⟨_, _, rfl, list_weak, _, _, rfl, Weak.refl _, rfl⟩, Hp.le_upd (Hp.Le.refl _) (fN _ _ _ _)⟩
end Go.Proofs.YtkdendaohlnlcaaGreatDoor.Av

/- What package unit reads of a text. No condition. -/
namespace Go.Proofs.YtkdendaohlnlcaaGreatDoor.Av
set_option linter.unusedVariables false
set_option linter.unusedSimpArgs false
set_option maxRecDepth 4000
set_option maxHeartbeats 1000000
variable {w0 : Base} {k : List Nat} {H : Hp}
def specPu (hm : MaxW w0) : Spec := ((((Spec.no.add 21 (sp1 dS (fun s => s.size ≤ 4000000000) fun s => .list .none ((linesOf s).map cS.enc))).add 22 (sp1 dS (fun s => s.size ≤ 4000000000) fun s => .tup [.list .none ((nmU s).1.map cS.enc), .int .i64 (nmU s).2])).add 23 (sp2 dS dS (fun _ _ => True) fun s p => .tup [.str (if beg s p then s.extract p.size s.size else s), .bool (beg s p)])).add
  24 (sp1 dS (fun _ => True) fun s => .tup [(fmU s).1.av, .int .i64 (fmU s).2])).add 25 (sp2 dS dI (fun s n => s.size ≤ 4000000000 ∧ 0 ≤ n) fun s n => .tup [(stepR s (n + 1)).1.av, .int .i64 (stepR s (n + 1)).2])
theorem specPu_ok (hm : MaxW w0) : SpecOk Tryz.prog w0 (specPu hm) := ((((Spec.no_ok.add (sp1_ok fun s h k H => linesU_call hm s h)).add (sp1_ok fun s h k H => namesU_call hm s h)).add (sp2_ok fun s p _ k H => cutPrefix_call s p)).add (sp1_ok fun s _ k H => formulaU_call s)).add (sp2_ok fun s n h k H => stepU_call hm s n h.1 h.2)
/-- How far the reading is, ahead of the line i: the unit's cells, and what the whole comes to. -/
def PState (l : List ByteArray) (H0 : Hp) (k : List Nat) (i : Nat) (c : List AV) (H : Hp) : Prop :=
  (i = 0 ∧ c = [.list .nil [], .int .i64 0, .int .i64 0, .list .nil [], .list .nil []]) ∨
  (i = 1 ∧ ∃ a rest, l = a :: rest ∧ (citR a).2 = 0 ∧ c = [.list .none ((citR a).1.map cS.enc), .int .i64 0, .int .i64 0, .list .nil [], .list .nil []]) ∨
  ((2 ≤ i ∧ i ≤ l.length) ∧ ∃ cs x acc tk, parseL l = (match l.drop 2 with
    | [] => .err 90 3
    | y :: ys => parse3 cs x (stepsR (y :: ys) 2 [])) ∧ 2 ≤ l.length ∧ stepsR (l.drop i) i acc = stepsR (l.drop 2) 2 [] ∧ acc.length ≤ i ∧ c = [.list .none (cs.map cS.enc), .int .i64 x.kind, .int .i64 x.id, .list .none (x.kids.map E.cells), .list tk (acc.map cStep.enc)] ∧ LstK H0 7 50 4 k tk H)
theorem parseU_call (hm : MaxW w0) (s : ByteArray) : CallAt Tryz.prog w0 k 8 [.str s] H H (parseR s).av := by
  refine callAt tabOk (specPu_ok hm) mixed Tryz.func8 rfl rfl Tryz.results8 Tryz.ntmps8 (by simp) [] ?_
  intro hfr t hl ht
  simp only [At, Nat.reduceAdd, List.cons_append, List.nil_append] at ht
  have fN : ∀ (a b : Nat) z ty, H ⟨z, a :: b :: k, ty⟩ = none := fun a b z ty => hfr _ (sfx2 _ _ _)
  have he0 : ((0 : Int) != 0) = false := rfl
  unfold parseR
  by_cases hbig : 20000 < s.size
  · have d : decide ((20000 : Int) < (s.size : Int)) = true := by simp; omega
    rw [if_pos hbig]
    simp (config := {contextual := true, maxSteps := 5000000}) only [go_sem, false_and, Nat.reduceAdd, Nat.reduceLT, Nat.reduceBEq, Nat.reduceSub, Nat.reduceMul, Nat.reduceLeDiff, Int.reduceToNat, Nat.reduceEqDiff, Nat.reduceMod, ht, hl, specPu, d]
    exact ⟨unit_weak0, by (repeat (first | exact Hp.Le.refl _ | refine Hp.le_upd ?_ (fN _ _ _ _)))⟩
  have d : decide ((20000 : Int) < (s.size : Int)) = false := by simp; omega
  have hs : s.size ≤ 4000000000 := by omega
  rw [if_neg hbig]
  have hlen := linesOf_len s
  have hsz : ∀ x ∈ linesOf s, x.size ≤ 4000000000 := fun x hx => by have := linesOf_size hx; omega
  generalize hln : linesOf s = l at hlen hsz ⊢
  obtain ⟨mx, hmx⟩ : ∃ mx : Nat, mx = max 3 l.length := ⟨_, rfl⟩
  have hmi : (if (3 : Int) < (l.length : Int) then (l.length : Int) else 3) = (mx : Int) := by
    split <;> omega
  simp (config := {contextual := true, maxSteps := 5000000}) only [go_sem, false_and, Nat.reduceAdd, Nat.reduceLT, Nat.reduceBEq, Nat.reduceSub, Nat.reduceMul, Nat.reduceLeDiff, Int.reduceToNat, Nat.reduceEqDiff, Nat.reduceMod, ht, hl, specPu, d, hln, hmi]
  refine ⟨hs, ?_⟩
  refine loop_inv tabOk (specPu_ok hm) mixed [] (fun j y => ∃ (i : Nat) (c : List AV), y.tmps.length = 82 ∧ y.tmps.getD 2 AV.undef = .ptr ⟨5, 0 :: 0 :: k, 28⟩ 0 ∧ y.tmps.getD 5 AV.undef = .list .none (l.map cS.enc) ∧ y.tmps.getD 6 AV.undef = .ptr ⟨5, 0 :: 3 :: k, 28⟩ 0 ∧ y.tmps.getD 7 AV.undef = .int .i64 0 ∧
    y.tmps.getD 20 AV.undef = .int .i64 mx ∧ y.tmps.getD 21 AV.undef = .int .i64 i ∧ y.H ⟨5, 0 :: 3 :: k, 28⟩ = some (.cells c) ∧ H.Le y.H ∧ i + j = mx ∧ PState l H k i c y.H) mx ⟨0, [.list .nil [], .int .i64 0, .int .i64 0, .list .nil [], .list .nil []], ?_⟩ ?_
  · simp (config := {contextual := true, maxSteps := 5000000}) only [go_sem, false_and, Nat.reduceAdd, Nat.reduceLT, Nat.reduceBEq, Nat.reduceSub, Nat.reduceMul, Nat.reduceLeDiff, Int.reduceToNat, Nat.reduceEqDiff, Nat.reduceMod, ht, hl]
    exact ⟨rfl, by (repeat (first | exact Hp.Le.refl _ | refine Hp.le_upd ?_ (fN _ _ _ _))), by omega, .inl ⟨rfl, rfl⟩⟩
  · rintro j ⟨t, n, H2⟩ ⟨i, c, hl, h2, h5, h6, h7, h20, h21, hc, hle, hij, hst⟩
    simp only at hl h2 h5 h6 h7 h20 h21 hc hle hst
    have hw : IntKind.i64.wrap ((i : Int) + 1) = ((i + 1 : Nat) : Int) := by rw [wrap_i64] <;> omega
    by_cases hi : i < mx
    · have hd : decide ((i : Int) < (mx : Int)) = true := by simp [hi]
      have hw2 : IntKind.i64.wrap ((i : Int) - 2) = (i : Int) - 2 := by rw [wrap_i64] <;> omega
      rcases hst with ⟨rfl, rfl⟩ | ⟨rfl, a, rest, rfl, hca, rfl⟩ | ⟨⟨h2i, hil2⟩, cs, x, acc, tk, hF, hl2, hgo, hacc, rfl, hL⟩
      · have e00 : (((0 : Nat) : Int) == 0) = true := rfl
        cases l with
        | nil =>
          have d0 : decide (((0 : Nat) : Int) ≤ ((0 : Nat) : Int)) = true := rfl
          have n90 : ((90 : Int) != 0) = true := rfl
          simp (config := {contextual := true, maxSteps := 5000000}) only [go_sem, false_and, Nat.reduceAdd, Nat.reduceLT, Nat.reduceBEq, Nat.reduceSub, Nat.reduceMul, Nat.reduceLeDiff, Int.reduceToNat, Nat.reduceEqDiff, Nat.reduceMod, h2, h5, h6, h7, h20, h21, hl, hd, hc, hw, d0, n90]
          exact ⟨unit_weak0, by (repeat (first | exact hle | refine Hp.le_upd ?_ (fN _ _ _ _)))⟩
        | cons a rest =>
          have d0 : decide (((rest.length + 1 : Nat) : Int) ≤ ((0 : Nat) : Int)) = false := by simp <;> omega
          have b0 : (0 : Int) ≤ 0 ∧ (0 : Int) < ((rest.length + 1 : Nat) : Int) := by omega
          have ha := hsz a (by simp)
          by_cases hca : (citR a).2 = 0
          · have hnm : nmU a = citR a := by rw [nmU, if_pos hca]
            simp (config := {contextual := true, maxSteps := 5000000}) only [go_sem, false_and, Nat.reduceAdd, Nat.reduceLT, Nat.reduceBEq, Nat.reduceSub, Nat.reduceMul, Nat.reduceLeDiff, Int.reduceToNat, Nat.reduceEqDiff, Nat.reduceMod, h2, h5, h6, h7, h20, h21, hl, hd, hc, hw, d0, e00, cS_at, b0, specPu, hnm, hca, he0]
            exact ⟨ha, j - 1, by omega, 1, _, rfl, rfl, by (repeat (first | exact hle | refine Hp.le_upd ?_ (fN _ _ _ _))), by omega, .inr (.inl ⟨rfl, a, rest, rfl, hca, rfl⟩)⟩
          · have hnm : nmU a = ([], (citR a).2) := by rw [nmU, if_neg hca]
            have hcb : ((citR a).2 != 0) = true := by simpa using hca
            simp (config := {contextual := true, maxSteps := 5000000}) only [go_sem, false_and, Nat.reduceAdd, Nat.reduceLT, Nat.reduceBEq, Nat.reduceSub, Nat.reduceMul, Nat.reduceLeDiff, Int.reduceToNat, Nat.reduceEqDiff, Nat.reduceMod, h2, h5, h6, h7, h20, h21, hl, hd, hc, hw, d0, e00, cS_at, b0, specPu, hnm, hcb]
            rw [show parseL (a :: rest) = .err (citR a).2 1 by simp [parseL, parse1, hca]]
            exact ⟨ha, unit_weak0, by (repeat (first | exact hle | refine Hp.le_upd ?_ (fN _ _ _ _)))⟩
      · have e10 : (((1 : Nat) : Int) == 0) = false := rfl
        have e11 : (((1 : Nat) : Int) == 1) = true := rfl
        cases rest with
        | nil =>
          have d0 : decide (((1 : Nat) : Int) ≤ ((1 : Nat) : Int)) = true := rfl
          have n90 : ((90 : Int) != 0) = true := rfl
          simp (config := {contextual := true, maxSteps := 5000000}) only [go_sem, false_and, Nat.reduceAdd, Nat.reduceLT, Nat.reduceBEq, Nat.reduceSub, Nat.reduceMul, Nat.reduceLeDiff, Int.reduceToNat, Nat.reduceEqDiff, Nat.reduceMod, h2, h5, h6, h7, h20, h21, hl, hd, hc, hw, d0, n90]
          rw [show parseL [a] = .err 90 2 by simp [parseL, parse1, hca]]
          exact ⟨unit_weak0, by (repeat (first | exact hle | refine Hp.le_upd ?_ (fN _ _ _ _)))⟩
        | cons b rest2 =>
          have d0 : decide (((rest2.length + 1 + 1 : Nat) : Int) ≤ ((1 : Nat) : Int)) = false := by simp; omega
          have b1 : (0 : Int) ≤ 1 ∧ (1 : Int) < ((rest2.length + 1 + 1 : Nat) : Int) := by omega
          have n90 : ((90 : Int) != 0) = true := rfl
          cases hb : beg b ⟨#[115, 116, 97, 116, 101, 115, 32]⟩ with
          | false =>
            simp (config := {contextual := true, maxSteps := 5000000}) only [go_sem, false_and, Nat.reduceAdd, Nat.reduceLT, Nat.reduceBEq, Nat.reduceSub, Nat.reduceMul, Nat.reduceLeDiff, Int.reduceToNat, Nat.reduceEqDiff, Nat.reduceMod, h2, h5, h6, h7, h20, h21, hl, hd, hc, hw, d0, e10, e11, cS_at, b1, specPu, hb, n90]
            rw [show parseL (a :: b :: rest2) = .err 90 2 by simp [parseL, parse1, hca, parse2, statesB, hb]]
            exact ⟨unit_weak0, by (repeat (first | exact hle | refine Hp.le_upd ?_ (fN _ _ _ _)))⟩
          | true =>
            have z7 : (#[115, 116, 97, 116, 101, 115, 32] : Array UInt8).size = 7 := rfl
            by_cases hfe : (fmU (b.extract 7 b.size)).2 = 0
            · simp (config := {contextual := true, maxSteps := 5000000}) only [go_sem, false_and, Nat.reduceAdd, Nat.reduceLT, Nat.reduceBEq, Nat.reduceSub, Nat.reduceMul, Nat.reduceLeDiff, Int.reduceToNat, Nat.reduceEqDiff, Nat.reduceMod, h2, h5, h6, h7, h20, h21, hl, hd, hc, hw, d0, e10, e11, cS_at, b1, specPu, hb, z7, hfe, he0]
              refine ⟨j - 1, by omega, 2, _, rfl, rfl, by (repeat (first | exact hle | refine Hp.le_upd ?_ (fN _ _ _ _))), by omega, .inr (.inr ⟨⟨by omega, by simp⟩, (citR a).1, (fmU (b.extract 7 b.size)).1, [], .nil, ?_, by simp, rfl, by simp, rfl, ⟨by (repeat (first | exact hle | refine Hp.le_upd ?_ (fN _ _ _ _))), .inl rfl⟩⟩)⟩
              simp only [parseL, parse1, hca, parse2, statesB, hb, hfe, if_true]
              cases rest2 <;> rfl
            · have hfe2 : ((fmU (b.extract 7 b.size)).2 != 0) = true := by simpa using hfe
              simp (config := {contextual := true, maxSteps := 5000000}) only [go_sem, false_and, Nat.reduceAdd, Nat.reduceLT, Nat.reduceBEq, Nat.reduceSub, Nat.reduceMul, Nat.reduceLeDiff, Int.reduceToNat, Nat.reduceEqDiff, Nat.reduceMod, h2, h5, h6, h7, h20, h21, hl, hd, hc, hw, d0, e10, e11, cS_at, b1, specPu, hb, z7, hfe2]
              rw [show parseL (a :: b :: rest2) = .err (fmU (b.extract 7 b.size)).2 2 by simp [parseL, parse1, hca, parse2, statesB, hb, hfe]]
              exact ⟨unit_weak0, by (repeat (first | exact hle | refine Hp.le_upd ?_ (fN _ _ _ _)))⟩
      · have ei0 : ((i : Int) == 0) = false := by simp; omega
        have ei1 : ((i : Int) == 1) = false := by simp; omega
        by_cases hil : i < l.length
        · have d0 : decide ((l.length : Int) ≤ (i : Int)) = false := by simp; omega
          have hn4 : ∀ m, H ⟨7, 4 :: m :: k, 50⟩ = none := fun m => fN _ _ _ _
          obtain ⟨y, hy, hye⟩ := str_get l hil
          have hy4 := hsz y (List.mem_of_getElem? hy)
          have hdr : l.drop i = y :: l.drop (i + 1) := by
            obtain ⟨q1, q2⟩ := List.getElem?_eq_some_iff.1 hy
            rw [List.drop_eq_getElem_cons q1, q2]
          rw [hdr, stepsR] at hgo
          have e21 : (i : Int) - 2 + 1 = (i : Int) - 1 := by omega
          generalize hr : stepR y ((i : Int) - 1) = r at hgo
          rw [← e21] at hr
          obtain ⟨st, e⟩ := r
          have hLX : ∀ m e, LstK H 7 50 4 k tk (H2.upd ⟨7, 0 :: m :: k, 50⟩ e) := fun m e => hL.frame (fN _ _ _ _) (fun m he => by cases he)
          have hkk : ∀ m e, killTok (H2.upd ⟨7, 0 :: m :: k, 50⟩ e) tk ⟨5, 0 :: 3 :: k, 28⟩ = some (.cells [.list .none (cs.map cS.enc), .int .i64 x.kind, .int .i64 x.id, .list .none (x.kids.map E.cells), .list tk (acc.map cStep.enc)]) := fun m e =>
            killTok_keeps (by rw [Hp.upd_ne _ _ (fun he => by cases he)]; exact hc) ((hLX m e).2.imp id fun ⟨m, h1, h2⟩ => ⟨_, h1, h2⟩)
          have hpush : ∀ m e m2, LstK H 7 50 4 k (.tok ⟨7, 4 :: m2 :: k, 50⟩) ((killTok (H2.upd ⟨7, 0 :: m :: k, 50⟩ e) tk).upd ⟨7, 4 :: m2 :: k, 50⟩ (some .tok)) := fun m e m2 => by
            have := (hLX m e).push hn4 (y := st.cells) (ys := []) m2
            rwa [tokBy_cons] at this
          by_cases he : e = 0
          · subst he
            simp (config := {contextual := true, maxSteps := 5000000}) only [go_sem, false_and, Nat.reduceAdd, Nat.reduceLT, Nat.reduceBEq, Nat.reduceSub, Nat.reduceMul, Nat.reduceLeDiff, Int.reduceToNat, Nat.reduceEqDiff, Nat.reduceMod, h2, h5, h6, h7, h20, h21, hl, hd, hc, hw, hw2, d0, ei0, ei1, hye, specPu, hr, Step.cells, hkk, strip, tokBy_cons, he0]
            refine ⟨⟨by omega, by omega⟩, ⟨hy4, by omega⟩, fun y h => (h.elim (fun h => by rw [h]; rfl) (fun h => h.elim)), fun y h => by (obtain ⟨z, _, rfl⟩ := List.mem_map.1 h; rfl), rfl, by omega, by omega, (hLX _ _).live, j - 1, by omega, i + 1, _, rfl, rfl, Hp.le_upd (hpush _ _ _).1 (fN _ _ _ _), by omega,
              .inr (.inr ⟨⟨by omega, by omega⟩, cs, x, acc ++ [st], _, hF, hl2, by rw [if_pos rfl] at hgo; exact hgo, by simp; omega, by rw [List.map_append]; rfl, (hpush _ _ _).frame (fN _ _ _ _) (fun m he => by cases he)⟩)⟩
          · have he2 : (e != 0) = true := by simpa using he
            simp (config := {contextual := true, maxSteps := 5000000}) only [go_sem, false_and, Nat.reduceAdd, Nat.reduceLT, Nat.reduceBEq, Nat.reduceSub, Nat.reduceMul, Nat.reduceLeDiff, Int.reduceToNat, Nat.reduceEqDiff, Nat.reduceMod, h2, h5, h6, h7, h20, h21, hl, hd, hc, hw, hw2, d0, ei0, ei1, hye, specPu, hr, Step.cells, hkk, strip, tokBy_cons, he2]
            refine ⟨⟨by omega, by omega⟩, ⟨hy4, by omega⟩, fun y h => (h.elim (fun h => by rw [h]; rfl) (fun h => h.elim)), fun y h => by (obtain ⟨z, _, rfl⟩ := List.mem_map.1 h; rfl), rfl, by omega, by omega, (hLX _ _).live, ?_, Hp.le_upd (Hp.le_upd (hpush _ _ _).1 (fN _ _ _ _)) (fN _ _ _ _)⟩
            have hpe : parseL l = .err e ((i : Int) + 1) := by
              rw [hF]
              cases hd2 : l.drop 2 with
              | nil =>
                have := congrArg List.length hd2
                simp at this
                omega
              | cons y ys =>
                rw [hd2, if_neg he] at hgo
                show parse3 cs x (stepsR (y :: ys) 2 []) = _
                rw [← hgo, parse3, if_neg he]
            rw [hpe]
            exact unit_weak0
        · have d0 : decide ((l.length : Int) ≤ (i : Int)) = true := by simp; omega
          have n90 : ((90 : Int) != 0) = true := rfl
          simp (config := {contextual := true, maxSteps := 5000000}) only [go_sem, false_and, Nat.reduceAdd, Nat.reduceLT, Nat.reduceBEq, Nat.reduceSub, Nat.reduceMul, Nat.reduceLeDiff, Int.reduceToNat, Nat.reduceEqDiff, Nat.reduceMod, h2, h5, h6, h7, h20, h21, hl, hd, hc, hw, d0, n90]
          have hi2 : i = 2 := by omega
          subst hi2
          have hdr : l.drop 2 = [] := List.drop_of_length_le (by omega)
          rw [hF, hdr]
          exact ⟨unit_weak0, by (repeat (first | exact hle | refine Hp.le_upd ?_ (fN _ _ _ _)))⟩
    · have hd : decide ((i : Int) < (mx : Int)) = false := by simp; omega
      rcases hst with ⟨rfl, _⟩ | ⟨rfl, _⟩ | ⟨⟨h2i, hil2⟩, cs, x, acc, tk, hF, hl2, hgo, hacc, rfl, hL⟩
      · omega
      · omega
      · simp (config := {contextual := true, maxSteps := 5000000}) only [go_sem, false_and, Nat.reduceAdd, Nat.reduceLT, Nat.reduceBEq, Nat.reduceSub, Nat.reduceMul, Nat.reduceLeDiff, Int.reduceToNat, Nat.reduceEqDiff, Nat.reduceMod, h2, h5, h6, h7, h20, h21, hl, hd, hc, he0]
        have hdr : l.drop i = [] := List.drop_of_length_le (by omega)
        rw [hdr, stepsR] at hgo
        rw [hF]
        cases hd2 : l.drop 2 with
        | nil =>
          have := congrArg List.length hd2
          simp at this
          omega
        | cons y ys =>
          rw [hd2] at hgo
          dsimp only
          rw [← hgo]
          exact ⟨unit_weak, by (repeat (first | exact hle | refine Hp.le_upd ?_ (fN _ _ _ _)))⟩
end Go.Proofs.YtkdendaohlnlcaaGreatDoor.Av

/- What parse.Print answers; how long a text is. No condition. -/
namespace Go.Proofs.YtkdendaohlnlcaaGreatDoor.Av
set_option linter.unusedVariables false
set_option linter.unusedSimpArgs false
set_option maxRecDepth 4000
set_option maxHeartbeats 1000000
variable {w0 : Base} {k : List Nat} {H : Hp}
def sumL : List (List UInt8) → Nat
  | [] => 0
  | t :: ts => t.length + sumL ts
theorem sumL_take (ts : List (List UInt8)) : ∀ i, (txtP ts i).length ≤ 2 * i + sumL (ts.take i)
  | 0 => by simp [txtP]
  | i + 1 => by
    have := sumL_take ts i
    rw [txtP, List.length_append, List.length_append]
    have h1 : ((if i = 0 then [40] else [44, 32]) : List UInt8).length ≤ 2 := by split <;> simp
    have h2 : ∀ (l : List (List UInt8)) (i : Nat), sumL (l.take (i + 1)) = sumL (l.take i) + (l.getD i []).length := by
      intro l
      induction l with
      | nil => intro i; simp [sumL]
      | cons t l ih =>
        intro i
        cases i with
        | zero => simp [sumL]
        | succ i => simp only [List.take_succ_cons, sumL, ih i, List.getD_cons_succ]; omega
    have := h2 ts i
    omega
theorem sumL_getD (ts : List (List UInt8)) (i : Nat) : (ts.getD i []).length ≤ sumL ts := by
  induction ts generalizing i with
  | nil => simp [sumL]
  | cons t ts ih =>
    cases i with
    | zero => simp [sumL]
    | succ i => have := ih i; simp only [List.getD_cons_succ, sumL]; omega
theorem sumL_two (ts : List (List UInt8)) : (ts.getD 0 []).length + (ts.getD 1 []).length ≤ sumL ts := by
  match ts with
  | [] => simp [sumL]
  | [a] => simp [sumL]
  | a :: b :: l => simp only [List.getD_cons_zero, List.getD_cons_succ, sumL]; omega
theorem txtK_len (k i : Int) (ts : List (List UInt8)) (h0 : 0 ≤ i) (h1 : i ≤ 99) (h4 : ts.length ≤ 4) : (txtK k i ts).length ≤ 64 + sumL ts := by
  have hi := Lib.itoa_length_le i (by omega) (by omega)
  have t1 := sumL_getD ts 0
  have t2 := sumL_two ts
  have t3 := sumL_take ts ts.length
  rw [List.take_length] at t3
  unfold txtK
  (repeat' split) <;> simp only [List.length_append, List.length_cons, List.length_nil] <;> omega
mutual
theorem E.txt_len : ∀ e : E, e.sh = true → e.txt.length ≤ 64 * e.sz
  | .mk k i ks, h => by
    obtain ⟨_, h1, h2, h3, h4, _⟩ := E.sh_kind h
    have := E.txtL_len ks h3
    have h5 := txtK_len k i (E.txtL ks) h1 h2 (by rw [E.txtL_eq, List.length_map]; exact h4)
    simp only [E.txt, E.sz]
    omega
theorem E.txtL_len : ∀ l : List E, (∀ x ∈ l, x.sh = true) → sumL (E.txtL l) ≤ 64 * E.szL l
  | [], _ => by simp [E.txtL, sumL]
  | e :: es, h => by
    have h1 := E.txt_len e (h e (by simp))
    have h2 := E.txtL_len es fun x hx => h x (by simp [hx])
    simp only [E.txtL, sumL, E.szL]
    omega
end
theorem write_all : ∀ (N : Nat) (e : E), e.sz < N → e.ok → e.sh = true → Writes e
  | 0, e, h, _, _ => by omega
  | N + 1, e, h, hok, hsh => by
    refine write_step e (fun x hx => ?_) hok hsh
    obtain ⟨i, hi, rfl⟩ := List.getElem_of_mem hx
    have hx' : e.kids[i]? = some e.kids[i] := by simp [hi]
    have := E.kid_sz hx'
    exact write_all N _ (by omega) (E.ok_kid hok hx') ((E.sh_kind hsh).2.2.2.1 _ hx)
theorem right_zero {e : E} (h : e.right = 0) : e.sz ≤ 1000 ∧ e.dp ≤ 100 ∧ e.sh = true := by
  unfold E.right at h
  split at h
  · cases h
  · split at h
    · cases h
    · split at h
      · exact ⟨by omega, by omega, by assumption⟩
      · cases h
def E.print (e : E) : List UInt8 := if e.right = 0 then e.txt else []
def specPr : Spec := Spec.no.add 70 (sp1 dE (fun e => e.ok) fun e => .int .i64 e.right)
theorem specPr_ok : SpecOk Tryz.prog w0 specPr := Spec.no_ok.add (sp1_ok fun e h k H => rightX_call e h)
theorem print_call (e : E) (hok : e.ok) : CallAt Tryz.prog w0 k 41 [e.av] H H (.tup [.str (T e.print), .int .i64 e.right]) := by
  refine callAt tabOk specPr_ok mixed Tryz.func41 rfl rfl Tryz.results41 Tryz.ntmps41 (by simp) [] ?_
  intro hfr t hl ht
  simp only [At, Nat.reduceAdd, List.cons_append, List.nil_append] at ht
  simp (config := {contextual := true, maxSteps := 5000000}) only [go_sem, false_and, Nat.reduceAdd, Nat.reduceLT, Nat.reduceBEq, Nat.reduceSub, Nat.reduceMul, Nat.reduceLeDiff, Int.reduceToNat, Nat.reduceEqDiff, Nat.reduceMod, ht, hl, specPr]
  refine ⟨hok, fun a => ?_, fun a => ?_⟩
  · simp only [bne_iff_ne, ne_eq] at a
    rw [E.print, if_neg a]
    exact Weak.refl _
  · simp only [bne_eq_false_iff_eq] at a
    obtain ⟨h1, h2, h3⟩ := right_zero a
    have hlen := E.txt_len e h3
    have hid : H ⟨2, 0 :: 3 :: k, 63⟩ = none := hfr _ (sfx2 _ _ _)
    have hB := BdAt.new (H0 := H) (id := ⟨2, 0 :: 3 :: k, 63⟩) rfl rfl hid
    refine bdK (write_all _ e (Nat.lt_succ_self _) hok h3 _) hB (by have := T_size e.txt; show 0 + (T e.txt).size ≤ _; omega) (free2 fun i hi => hfr i hi) fun H1 hB1 => ?_
    simp (config := {contextual := true, maxSteps := 5000000}) only [go_sem, false_and, Nat.reduceAdd, Nat.reduceLT, Nat.reduceBEq, Nat.reduceSub, Nat.reduceMul, Nat.reduceLeDiff, Int.reduceToNat, Nat.reduceEqDiff, Nat.reduceMod, hl, specPr]
    have hB2 := hB1.cast (t := T e.txt) (by simp [L_append, L_T, L])
    refine callK_intro (string_call _ hB2 hid (by rw [T_size]; omega)) ?_
    simp (config := {contextual := true, maxSteps := 5000000}) only [go_sem, false_and, Nat.reduceAdd, Nat.reduceLT, Nat.reduceBEq, Nat.reduceSub, Nat.reduceMul, Nat.reduceLeDiff, Int.reduceToNat, Nat.reduceEqDiff, Nat.reduceMod, hl, specPr]
    rw [E.print, if_pos a, a]
    exact Weak.refl _
end Go.Proofs.YtkdendaohlnlcaaGreatDoor.Av

/- What the reference's texts of formulas are. No condition. -/
namespace Go.Proofs.YtkdendaohlnlcaaGreatDoor.Av
set_option linter.unusedVariables false
set_option linter.unusedSimpArgs false
set_option maxRecDepth 4000
set_option maxHeartbeats 1000000
variable {w0 : Base} {k : List Nat} {H : Hp}
def E.args (e : E) : List UInt8 := Lib.itoa e.id ++ (txtP (e.kids.map E.txt) e.kids.length ++ if e.kids.length = 0 then [] else [41])
def specTx (N : Nat) : Spec := specIt.add 36 (sp1 dE (fun e => e.sz < N ∧ N ≤ 1001 ∧ e.sh = true) fun e => .str (T e.txt))
theorem txt_small {e : E} {N : Nat} (h : e.sz < N ∧ N ≤ 1001 ∧ e.sh = true) : e.txt.length ≤ 64000 := by
  have := E.txt_len e h.2.2
  omega
theorem listed_step (N : Nat) (hS : SpecOk Tryz.prog w0 (specTx N)) (c : List UInt8) (hc : c.length ≤ 1) (e : E) (h : e.sz < N + 1 ∧ N + 1 ≤ 1001 ∧ e.sh = true) (hlen : e.args.length ≤ 64000) : CallAt Tryz.prog w0 k 66 [.str (T c), e.av] H H (.str (T (c ++ e.args))) := by
  refine callAt tabOk hS mixed Tryz.func66 rfl rfl Tryz.results66 Tryz.ntmps66 (by simp) [] ?_
  intro hfr t hl ht
  simp only [At, Nat.reduceAdd] at ht
  obtain ⟨hk, hi0, hi9, hsk, hn4, hn2, hn1, hn0⟩ := E.sh_kind h.2.2
  have hil := Lib.itoa_length_le e.id (by omega) (by omega)
  have ha : e.args.length = (Lib.itoa e.id).length + ((txtP (e.kids.map E.txt) e.kids.length).length + (if e.kids.length = 0 then [] else [(41 : UInt8)]).length) := by
    simp only [E.args, List.length_append]
  simp (config := {contextual := true, maxSteps := 5000000}) only [go_sem, false_and, Nat.reduceAdd, Nat.reduceLT, Nat.reduceBEq, Nat.reduceSub, Nat.reduceMul, Nat.reduceLeDiff, Int.reduceToNat, Nat.reduceEqDiff, Nat.reduceMod, ht, hl, specTx, specIt]
  refine ⟨⟨hi0, by omega⟩, by (first | omega | ((try simp only [ByteArray.size_append, ByteArray.size_empty, T_size, List.size_toArray, List.length_append, List.length_cons, List.length_nil, Int.natCast_add] at *); omega)), ?_⟩
  refine loop_inv tabOk hS mixed [] (fun j x => ∃ i : Nat, x.tmps.length = 39 ∧ x.tmps.getD 3 AV.undef = .sptr [.int .i64 e.kind, .int .i64 e.id, .list .none (e.kids.map E.cells)] ∧ x.tmps.getD 5 AV.undef = .str (T (c ++ Lib.itoa e.id ++ txtP (e.kids.map E.txt) i)) ∧ x.tmps.getD 14 AV.undef = .list .none (e.kids.map E.cells) ∧
      x.tmps.getD 15 AV.undef = .int .i64 e.kids.length ∧ x.tmps.getD 16 AV.undef = .int .i64 i ∧ i + j = e.kids.length ∧ H.Le x.H) e.kids.length ⟨0, ?_⟩ ?_
  · simp (config := {contextual := true, maxSteps := 5000000}) only [go_sem, false_and, Nat.reduceAdd, Nat.reduceLT, Nat.reduceBEq, Nat.reduceSub, Nat.reduceMul, Nat.reduceLeDiff, Int.reduceToNat, Nat.reduceEqDiff, Nat.reduceMod, ht, hl, txtP]
    simp [txtP]
  · rintro j ⟨t, n, H2⟩ ⟨i, hl, h3, h5, h14, h15, h16, hij, hH⟩
    simp only at hl h3 h5 h14 h15 h16 hH
    by_cases hi : i < e.kids.length
    · have hd : decide ((i : Int) < (e.kids.length : Int)) = true := by simp [hi]
      have hw : IntKind.i64.wrap ((i : Int) + 1) = ((i + 1 : Nat) : Int) := by rw [wrap_i64] <;> omega
      obtain ⟨x, hx, hxe⟩ := e.kid hi
      have hP : txtP (e.kids.map E.txt) (i + 1) = txtP (e.kids.map E.txt) i ++ ((if i = 0 then [40] else [44, 32]) ++ x.txt) := by
        rw [txtP]
        simp [List.getD_eq_getElem?_getD, hx]
      have hPl := txtP_le (e.kids.map E.txt) (i + 1) (by simp; omega)
      rw [hP, List.length_map, List.length_append, List.length_append] at hPl
      have hn : H ⟨3, 3 :: (n + 1) :: k, 25⟩ = none := hfr _ (sfx2 _ _ _)
      have hle : ∀ a, H.Le (H2.upd ⟨3, 3 :: (n + 1) :: k, 25⟩ a) := fun a => Hp.le_upd hH hn
      have hxs := E.kid_sz hx
      have hxh := hsk x (List.mem_of_getElem? hx)
      simp (config := {contextual := true, maxSteps := 5000000}) only [go_sem, false_and, Nat.reduceAdd, Nat.reduceLT, Nat.reduceBEq, Nat.reduceSub, Nat.reduceMul, Nat.reduceLeDiff, Int.reduceToNat, Nat.reduceEqDiff, Nat.reduceMod, h3, h5, h14, h15, h16, hl, hd, hw, hxe, specTx, specIt]
      have h1 : ((if i = 0 then [40] else [44, 32]) : List UInt8).length ≤ 2 := by split <;> simp
      refine ⟨⟨by omega, by omega⟩, fun a => ?_, fun a => ?_⟩
      · simp only [beq_iff_eq] at a
        rw [if_pos (by omega)] at hP hPl
        exact ⟨by (first | omega | ((try simp only [ByteArray.size_append, ByteArray.size_empty, T_size, List.size_toArray, List.length_append, List.length_cons, List.length_nil, Int.natCast_add] at *); omega)), ⟨by omega, by omega, hxh⟩, by (first | omega | ((try simp only [ByteArray.size_append, ByteArray.size_empty, T_size, List.size_toArray, List.length_append, List.length_cons, List.length_nil, Int.natCast_add] at *); omega)), j - 1, by omega, i + 1, by rw [hP]; simp only [List.append_assoc], rfl, by omega, hle _⟩
      · simp only [beq_eq_false_iff_ne, ne_eq] at a
        rw [if_neg (by omega)] at hP hPl
        exact ⟨by (first | omega | ((try simp only [ByteArray.size_append, ByteArray.size_empty, T_size, List.size_toArray, List.length_append, List.length_cons, List.length_nil, Int.natCast_add] at *); omega)), ⟨by omega, by omega, hxh⟩, by (first | omega | ((try simp only [ByteArray.size_append, ByteArray.size_empty, T_size, List.size_toArray, List.length_append, List.length_cons, List.length_nil, Int.natCast_add] at *); omega)), j - 1, by omega, i + 1, by rw [hP]; simp only [List.append_assoc], rfl, by omega, hle _⟩
    · have hd : decide ((i : Int) < (e.kids.length : Int)) = false := by simp; omega
      obtain rfl : i = e.kids.length := by omega
      simp (config := {contextual := true, maxSteps := 5000000}) only [go_sem, false_and, Nat.reduceAdd, Nat.reduceLT, Nat.reduceBEq, Nat.reduceSub, Nat.reduceMul, Nat.reduceLeDiff, Int.reduceToNat, Nat.reduceEqDiff, Nat.reduceMod, h3, h5, h14, h15, h16, hl, hd, specTx, specIt]
      refine ⟨fun a => ?_, fun a => ?_⟩
      · simp only [decide_eq_true_eq] at a
        rw [if_neg (by omega)] at ha
        refine ⟨by (first | omega | ((try simp only [ByteArray.size_append, ByteArray.size_empty, T_size, List.size_toArray, List.length_append, List.length_cons, List.length_nil, Int.natCast_add] at *); omega)), ?_, hH⟩
        rw [E.args, if_neg (by omega)]
        simp only [List.append_assoc]
      · simp only [decide_eq_false_iff_not] at a
        refine ⟨?_, hH⟩
        rw [E.args, if_pos (by omega)]
        simp only [List.append_assoc, List.append_nil]
def specLsR (N : Nat) : Spec := (specTx N).add 66 (sp2 dS dE (fun c e => c.size ≤ 1 ∧ (e.sz < N + 1 ∧ N + 1 ≤ 1001 ∧ e.sh = true) ∧ e.args.length ≤ 64000) fun c e => .str (T (L c ++ e.args)))
theorem specLsR_ok (N : Nat) (hS : SpecOk Tryz.prog w0 (specTx N)) : SpecOk Tryz.prog w0 (specLsR N) := hS.add (sp2_ok fun c e h k H => listed_step N hS (L c) (by rw [L_length]; exact h.1) e h.2.1 h.2.2)
theorem text_step (N : Nat) (hS : SpecOk Tryz.prog w0 (specLsR N)) (e : E) (h : e.sz < N + 1 ∧ N + 1 ≤ 1001 ∧ e.sh = true) : CallAt Tryz.prog w0 k 36 [e.av] H H (.str (T e.txt)) := by
  refine callAt tabOk hS mixed Tryz.func36 rfl rfl Tryz.results36 Tryz.ntmps36 (by simp) [] ?_
  intro hfr t hl ht
  simp only [At, Nat.reduceAdd] at ht
  obtain ⟨hk, hi0, hi9, hsk, hn4, hn2, hn1, hn0⟩ := E.sh_kind h.2.2
  have hil := Lib.itoa_length_le e.id (by omega) (by omega)
  have htl := txt_small h
  obtain ⟨hN1, hN2, hes⟩ := h
  rcases hk with hk | hk | hk | hk | hk | hk | hk | hk | hk | hk
  · have htx : e.txt = [120] ++ Lib.itoa e.id := by rw [E.txt_eq, txtK, if_pos hk]
    simp (config := {contextual := true, maxSteps := 5000000}) only [go_sem, false_and, Nat.reduceAdd, Nat.reduceLT, Nat.reduceBEq, Nat.reduceSub, Nat.reduceMul, Nat.reduceLeDiff, Int.reduceToNat, Nat.reduceEqDiff, Nat.reduceMod, ht, hl, hk, specLsR, specTx, specIt, Int.reduceBEq]
    exact ⟨⟨hi0, by omega⟩, by (first | omega | ((try simp only [ByteArray.size_append, ByteArray.size_empty, T_size, List.size_toArray, List.length_append, List.length_cons, List.length_nil, Int.natCast_add] at *); omega)), by rw [htx]; rfl⟩
  · have htx : e.txt = [102] ++ e.args := by
      rw [E.txt_eq, txtK, hk, E.args]
      simp
    have hal : e.args.length ≤ 64000 := by
      have := congrArg List.length htx
      simp only [List.length_append, List.length_cons, List.length_nil] at this
      omega
    have hkd : toE [.raw (.int .i64 2), .raw (.int .i64 e.id), .list .none (e.kids.map E.cells)] = some e := by
      have := toE_at e .none
      rwa [hk] at this
    simp (config := {contextual := true, maxSteps := 5000000}) only [go_sem, false_and, Nat.reduceAdd, Nat.reduceLT, Nat.reduceBEq, Nat.reduceSub, Nat.reduceMul, Nat.reduceLeDiff, Int.reduceToNat, Nat.reduceEqDiff, Nat.reduceMod, ht, hl, hk, specLsR, specTx, specIt, Int.reduceBEq, hkd]
    ((repeat' apply And.intro) <;> first | exact List.Pairwise.nil | ((with_reducible (show drawOk _ = true)); kernel_rfl) | omega | (first | omega | ((try simp only [ByteArray.size_append, ByteArray.size_empty, T_size, List.size_toArray, List.length_append, List.length_cons, List.length_nil, Int.natCast_add] at *); omega)) | (rw [htx]; done) | (rw [htx]; simp only [List.append_assoc, List.cons_append, List.nil_append, L]; done) | (with_reducible assumption))
  · have htx : e.txt = [80] ++ e.args := by
      rw [E.txt_eq, txtK, hk, E.args]
      simp
    have hal : e.args.length ≤ 64000 := by
      have := congrArg List.length htx
      simp only [List.length_append, List.length_cons, List.length_nil] at this
      omega
    have hkd : toE [.raw (.int .i64 3), .raw (.int .i64 e.id), .list .none (e.kids.map E.cells)] = some e := by
      have := toE_at e .none
      rwa [hk] at this
    simp (config := {contextual := true, maxSteps := 5000000}) only [go_sem, false_and, Nat.reduceAdd, Nat.reduceLT, Nat.reduceBEq, Nat.reduceSub, Nat.reduceMul, Nat.reduceLeDiff, Int.reduceToNat, Nat.reduceEqDiff, Nat.reduceMod, ht, hl, hk, specLsR, specTx, specIt, Int.reduceBEq, hkd]
    ((repeat' apply And.intro) <;> first | exact List.Pairwise.nil | ((with_reducible (show drawOk _ = true)); kernel_rfl) | omega | (first | omega | ((try simp only [ByteArray.size_append, ByteArray.size_empty, T_size, List.size_toArray, List.length_append, List.length_cons, List.length_nil, Int.natCast_add] at *); omega)) | (rw [htx]; done) | (rw [htx]; simp only [List.append_assoc, List.cons_append, List.nil_append, L]; done) | (with_reducible assumption))
  · have hlen : e.kids.length = 2 := hn2 (by omega)
    obtain ⟨x, hx, hxe⟩ := e.kid (i := 0) (by omega)
    obtain ⟨y, hy, hye⟩ := e.kid (i := 1) (by omega)
    have htx : e.txt = x.txt ++ [32, 61, 32] ++ y.txt := by
      rw [E.txt_eq, txtK, hk]
      simp [List.getD_eq_getElem?_getD, hx, hy]
    have hln := congrArg List.length htx
    simp only [List.length_append, List.length_cons, List.length_nil] at hln
    have hxs := E.kid_sz hx
    have hys := E.kid_sz hy
    have hxh := hsk x (List.mem_of_getElem? hx)
    have hyh := hsk y (List.mem_of_getElem? hy)
    simp (config := {contextual := true, maxSteps := 5000000}) only [go_sem, false_and, Nat.reduceAdd, Nat.reduceLT, Nat.reduceBEq, Nat.reduceSub, Nat.reduceMul, Nat.reduceLeDiff, Int.reduceToNat, Nat.reduceEqDiff, Nat.reduceMod, ht, hl, hk, specLsR, specTx, specIt, Int.reduceBEq, hxe, hye, hlen, Int.reduceToNat]
    ((repeat' apply And.intro) <;> first | exact List.Pairwise.nil | ((with_reducible (show drawOk _ = true)); kernel_rfl) | omega | (first | omega | ((try simp only [ByteArray.size_append, ByteArray.size_empty, T_size, List.size_toArray, List.length_append, List.length_cons, List.length_nil, Int.natCast_add] at *); omega)) | (rw [htx]; done) | (rw [htx]; simp only [List.append_assoc, List.cons_append, List.nil_append, L]; done) | (with_reducible assumption))
  · have hlen : e.kids.length = 1 := hn1 (by omega)
    obtain ⟨x, hx, hxe⟩ := e.kid (i := 0) (by omega)
    have htx : e.txt = [33] ++ x.txt := by
      rw [E.txt_eq, txtK, hk]
      simp [List.getD_eq_getElem?_getD, hx]
    have hln := congrArg List.length htx
    simp only [List.length_append, List.length_cons, List.length_nil] at hln
    have hxs := E.kid_sz hx
    have hxh := hsk x (List.mem_of_getElem? hx)
    simp (config := {contextual := true, maxSteps := 5000000}) only [go_sem, false_and, Nat.reduceAdd, Nat.reduceLT, Nat.reduceBEq, Nat.reduceSub, Nat.reduceMul, Nat.reduceLeDiff, Int.reduceToNat, Nat.reduceEqDiff, Nat.reduceMod, ht, hl, hk, specLsR, specTx, specIt, Int.reduceBEq, hxe, hlen]
    exact ⟨⟨by omega, by omega⟩, ⟨by omega, by omega, hxh⟩, by (first | omega | ((try simp only [ByteArray.size_append, ByteArray.size_empty, T_size, List.size_toArray, List.length_append, List.length_cons, List.length_nil, Int.natCast_add] at *); omega)), by rw [htx]; rfl⟩
  · have hlen : e.kids.length = 2 := hn2 (by omega)
    obtain ⟨x, hx, hxe⟩ := e.kid (i := 0) (by omega)
    obtain ⟨y, hy, hye⟩ := e.kid (i := 1) (by omega)
    have htx : e.txt = [40] ++ x.txt ++ [32, 62, 32] ++ y.txt ++ [41] := by
      rw [E.txt_eq, txtK, hk]
      simp [List.getD_eq_getElem?_getD, hx, hy]
    have hln := congrArg List.length htx
    simp only [List.length_append, List.length_cons, List.length_nil] at hln
    have hxs := E.kid_sz hx
    have hys := E.kid_sz hy
    have hxh := hsk x (List.mem_of_getElem? hx)
    have hyh := hsk y (List.mem_of_getElem? hy)
    simp (config := {contextual := true, maxSteps := 5000000}) only [go_sem, false_and, Nat.reduceAdd, Nat.reduceLT, Nat.reduceBEq, Nat.reduceSub, Nat.reduceMul, Nat.reduceLeDiff, Int.reduceToNat, Nat.reduceEqDiff, Nat.reduceMod, ht, hl, hk, specLsR, specTx, specIt, Int.reduceBEq, hxe, hye, hlen, Int.reduceToNat]
    ((repeat' apply And.intro) <;> first | exact List.Pairwise.nil | ((with_reducible (show drawOk _ = true)); kernel_rfl) | omega | (first | omega | ((try simp only [ByteArray.size_append, ByteArray.size_empty, T_size, List.size_toArray, List.length_append, List.length_cons, List.length_nil, Int.natCast_add] at *); omega)) | (rw [htx]; done) | (rw [htx]; simp only [List.append_assoc, List.cons_append, List.nil_append, L]; done) | (with_reducible assumption))
  · have hlen : e.kids.length = 1 := hn1 (by omega)
    obtain ⟨x, hx, hxe⟩ := e.kid (i := 0) (by omega)
    have htx : e.txt = [64, 120] ++ Lib.itoa e.id ++ [32] ++ x.txt := by
      rw [E.txt_eq, txtK, hk]
      simp [List.getD_eq_getElem?_getD, hx]
    have hln := congrArg List.length htx
    simp only [List.length_append, List.length_cons, List.length_nil] at hln
    have hxs := E.kid_sz hx
    have hxh := hsk x (List.mem_of_getElem? hx)
    simp (config := {contextual := true, maxSteps := 5000000}) only [go_sem, false_and, Nat.reduceAdd, Nat.reduceLT, Nat.reduceBEq, Nat.reduceSub, Nat.reduceMul, Nat.reduceLeDiff, Int.reduceToNat, Nat.reduceEqDiff, Nat.reduceMod, ht, hl, hk, specLsR, specTx, specIt, Int.reduceBEq, hxe, hlen]
    ((repeat' apply And.intro) <;> first | exact List.Pairwise.nil | ((with_reducible (show drawOk _ = true)); kernel_rfl) | omega | (first | omega | ((try simp only [ByteArray.size_append, ByteArray.size_empty, T_size, List.size_toArray, List.length_append, List.length_cons, List.length_nil, Int.natCast_add] at *); omega)) | (rw [htx]; done) | (rw [htx]; simp only [List.append_assoc, List.cons_append, List.nil_append, L]; done) | (with_reducible assumption))
  · have hlen : e.kids.length = 2 := hn2 (by omega)
    obtain ⟨x, hx, hxe⟩ := e.kid (i := 0) (by omega)
    obtain ⟨y, hy, hye⟩ := e.kid (i := 1) (by omega)
    have htx : e.txt = [40] ++ x.txt ++ [32, 38, 32] ++ y.txt ++ [41] := by
      rw [E.txt_eq, txtK, hk]
      simp [List.getD_eq_getElem?_getD, hx, hy]
    have hln := congrArg List.length htx
    simp only [List.length_append, List.length_cons, List.length_nil] at hln
    have hxs := E.kid_sz hx
    have hys := E.kid_sz hy
    have hxh := hsk x (List.mem_of_getElem? hx)
    have hyh := hsk y (List.mem_of_getElem? hy)
    simp (config := {contextual := true, maxSteps := 5000000}) only [go_sem, false_and, Nat.reduceAdd, Nat.reduceLT, Nat.reduceBEq, Nat.reduceSub, Nat.reduceMul, Nat.reduceLeDiff, Int.reduceToNat, Nat.reduceEqDiff, Nat.reduceMod, ht, hl, hk, specLsR, specTx, specIt, Int.reduceBEq, hxe, hye, hlen, Int.reduceToNat]
    ((repeat' apply And.intro) <;> first | exact List.Pairwise.nil | ((with_reducible (show drawOk _ = true)); kernel_rfl) | omega | (first | omega | ((try simp only [ByteArray.size_append, ByteArray.size_empty, T_size, List.size_toArray, List.length_append, List.length_cons, List.length_nil, Int.natCast_add] at *); omega)) | (rw [htx]; done) | (rw [htx]; simp only [List.append_assoc, List.cons_append, List.nil_append, L]; done) | (with_reducible assumption))
  · have hlen : e.kids.length = 2 := hn2 (by omega)
    obtain ⟨x, hx, hxe⟩ := e.kid (i := 0) (by omega)
    obtain ⟨y, hy, hye⟩ := e.kid (i := 1) (by omega)
    have htx : e.txt = [40] ++ x.txt ++ [32, 124, 32] ++ y.txt ++ [41] := by
      rw [E.txt_eq, txtK, hk]
      simp [List.getD_eq_getElem?_getD, hx, hy]
    have hln := congrArg List.length htx
    simp only [List.length_append, List.length_cons, List.length_nil] at hln
    have hxs := E.kid_sz hx
    have hys := E.kid_sz hy
    have hxh := hsk x (List.mem_of_getElem? hx)
    have hyh := hsk y (List.mem_of_getElem? hy)
    simp (config := {contextual := true, maxSteps := 5000000}) only [go_sem, false_and, Nat.reduceAdd, Nat.reduceLT, Nat.reduceBEq, Nat.reduceSub, Nat.reduceMul, Nat.reduceLeDiff, Int.reduceToNat, Nat.reduceEqDiff, Nat.reduceMod, ht, hl, hk, specLsR, specTx, specIt, Int.reduceBEq, hxe, hye, hlen, Int.reduceToNat]
    ((repeat' apply And.intro) <;> first | exact List.Pairwise.nil | ((with_reducible (show drawOk _ = true)); kernel_rfl) | omega | (first | omega | ((try simp only [ByteArray.size_append, ByteArray.size_empty, T_size, List.size_toArray, List.length_append, List.length_cons, List.length_nil, Int.natCast_add] at *); omega)) | (rw [htx]; done) | (rw [htx]; simp only [List.append_assoc, List.cons_append, List.nil_append, L]; done) | (with_reducible assumption))
  · have hlen : e.kids.length = 1 := hn1 (by omega)
    obtain ⟨x, hx, hxe⟩ := e.kid (i := 0) (by omega)
    have htx : e.txt = [63, 120] ++ Lib.itoa e.id ++ [32] ++ x.txt := by
      rw [E.txt_eq, txtK, hk]
      simp [List.getD_eq_getElem?_getD, hx]
    have hln := congrArg List.length htx
    simp only [List.length_append, List.length_cons, List.length_nil] at hln
    have hxs := E.kid_sz hx
    have hxh := hsk x (List.mem_of_getElem? hx)
    simp (config := {contextual := true, maxSteps := 5000000}) only [go_sem, false_and, Nat.reduceAdd, Nat.reduceLT, Nat.reduceBEq, Nat.reduceSub, Nat.reduceMul, Nat.reduceLeDiff, Int.reduceToNat, Nat.reduceEqDiff, Nat.reduceMod, ht, hl, hk, specLsR, specTx, specIt, Int.reduceBEq, hxe, hlen]
    ((repeat' apply And.intro) <;> first | exact List.Pairwise.nil | ((with_reducible (show drawOk _ = true)); kernel_rfl) | omega | (first | omega | ((try simp only [ByteArray.size_append, ByteArray.size_empty, T_size, List.size_toArray, List.length_append, List.length_cons, List.length_nil, Int.natCast_add] at *); omega)) | (rw [htx]; done) | (rw [htx]; simp only [List.append_assoc, List.cons_append, List.nil_append, L]; done) | (with_reducible assumption))
end Go.Proofs.YtkdendaohlnlcaaGreatDoor.Av

/- What organonref03.Text answers. No condition. -/
namespace Go.Proofs.YtkdendaohlnlcaaGreatDoor.Av
set_option linter.unusedVariables false
set_option linter.unusedSimpArgs false
set_option maxRecDepth 4000
set_option maxHeartbeats 1000000
variable {w0 : Base} {k : List Nat} {H : Hp}
theorem specTx_ok (hI : SpecOk Tryz.prog w0 specIt) : ∀ N, SpecOk Tryz.prog w0 (specTx N)
  | 0 => hI.add (sp1_ok fun e h k H => absurd h.1 (by omega))
  | N + 1 => hI.add (sp1_ok fun e h k H => text_step N (specLsR_ok N (specTx_ok hI N)) e h)
theorem text03_call (hI : SpecOk Tryz.prog w0 specIt) (e : E) (hs : e.sz ≤ 1000) (h : e.sh = true) : CallAt Tryz.prog w0 k 36 [e.av] H H (.str (T e.txt)) :=
  text_step 1000 (specLsR_ok 1000 (specTx_ok hI 1000)) e ⟨by omega, by omega, h⟩
end Go.Proofs.YtkdendaohlnlcaaGreatDoor.Av

/- A unit's text, in plain words. No condition. -/
namespace Go.Proofs.YtkdendaohlnlcaaGreatDoor.Av
set_option linter.unusedVariables false
set_option linter.unusedSimpArgs false
set_option maxRecDepth 4000
set_option maxHeartbeats 1000000
/-- What stands for some things up to the number i, one behind the other. -/
def upTo {α : Type} (f : Nat → α → List UInt8) (l : List α) : Nat → List UInt8
  | 0 => []
  | i + 1 => upTo f l i ++ (match l[i]? with | some x => f i x | none => [])
theorem upTo_succ {α : Type} {f : Nat → α → List UInt8} {l : List α} {i : Nat} {x : α} (h : l[i]? = some x) : upTo f l (i + 1) = upTo f l i ++ f i x := by rw [upTo, h]
theorem upTo_mono {α : Type} (f : Nat → α → List UInt8) (l : List α) : ∀ (n i : Nat), (upTo f l i).length ≤ (upTo f l (i + n)).length
  | 0, i => Nat.le_refl _
  | n + 1, i => by
    have := upTo_mono f l n i
    rw [show i + (n + 1) = (i + n) + 1 by omega, upTo, List.length_append]
    omega
theorem upTo_le {α : Type} (f : Nat → α → List UInt8) (l : List α) (i : Nat) (h : i ≤ l.length) : (upTo f l i).length ≤ (upTo f l l.length).length := by
  have := upTo_mono f l (l.length - i) i
  rwa [show i + (l.length - i) = l.length by omega] at this
theorem upTo_len {α : Type} (f : Nat → α → List UInt8) (l : List α) (b : Nat) (h : ∀ i x, l[i]? = some x → (f i x).length ≤ b) : ∀ i, (upTo f l i).length ≤ i * b
  | 0 => by simp [upTo]
  | i + 1 => by
    have := upTo_len f l b h i
    rw [upTo, List.length_append, Nat.succ_mul]
    split
    · rename_i x hx
      have := h i x hx
      omega
    · simp; omega
theorem upTo_flat {α : Type} (g : α → List UInt8) (l : List α) : ∀ i, upTo (fun _ x => g x) l i = ((l.take i).map g).flatten
  | 0 => by simp [upTo]
  | i + 1 => by
    rw [upTo, upTo_flat g l i, List.take_add_one]
    cases l[i]? <;> simp
def Step.txt (s : Step) : List UInt8 :=
  if s.by_ = 1 then [97, 120, 105, 111, 109, 32] ++ Lib.itoa s.a
  else if s.by_ = 2 then [100, 101, 116, 97, 99, 104, 32] ++ Lib.itoa s.a ++ [32] ++ Lib.itoa s.b
  else if s.by_ = 3 then [103, 101, 110, 32] ++ Lib.itoa s.a ++ [32, 120] ++ Lib.itoa s.b
  else [99, 105, 116, 101, 32] ++ L s.cite
def Step.line (i : Nat) (s : Step) : List UInt8 := Lib.itoa (i + 1 : Nat) ++ [32] ++ s.says.txt ++ [32, 58, 32] ++ s.txt ++ [10]
def U.names (u : U) (i : Nat) : List UInt8 := [99, 105, 116, 101, 115] ++ upTo (fun _ n => [32] ++ L n) u.cites i
def U.head (u : U) : List UInt8 := u.names u.cites.length ++ [10, 115, 116, 97, 116, 101, 115, 32] ++ u.states.txt ++ [10]
def U.part (u : U) (i : Nat) : List UInt8 := u.head ++ upTo Step.line u.steps i
def U.txt (u : U) : List UInt8 := u.part u.steps.length
def U.printE (u : U) : Int := if u.right = 0 then (if 20000 < u.txt.length then 2 else 0) else u.right
def U.printT (u : U) : List UInt8 := if u.printE = 0 then u.txt else []
/-- What holds of a right step, a right unit. -/
def Step.good (s : Step) : Prop := s.fine = true ∧ s.cite.size ≤ 12 ∧ s.says.right = 0 ∧ s.says.sz ≤ 300
theorem written_zero {e : E} (h : e.written = 0) : e.right = 0 ∧ e.sz ≤ 300 ∧ e.dp ≤ 30 ∧ e.term = false := by
  unfold E.written at h
  split at h
  · rename_i hw
    split at h
    · cases h
    · split at h
      · cases h
      · unfold E.wantF at hw
        split at hw
        · rename_i hr
          split at hw
          · cases hw
          · rename_i ht
            exact ⟨hr, by omega, by omega, by simpa using ht⟩
        · exact absurd hw (by assumption)
  · rename_i hw
    exact absurd h hw
theorem why_zero {s : Step} (h : s.why = 0) : s.fine = true ∧ (s.by_ = 4 → isName s.cite = true) := by
  unfold Step.why at h
  split at h
  · rename_i hf
    refine ⟨hf, fun h4 => ?_⟩
    split at h
    · cases h
    · rename_i hn
      cases hh : isName s.cite with
      | true => rfl
      | false => exact absurd ⟨h4, hh⟩ hn
  · cases h
theorem name_len {s : ByteArray} (h : isName s = true) : s.size ≤ 12 := by
  simp only [isName, decide_eq_true_eq] at h
  exact h.2.1
theorem e0_size {s : ByteArray} (h : e0 s = true) : s.size = 0 := by
  obtain ⟨⟨l⟩⟩ := s
  simp [e0] at h
  simp [ByteArray.size, h]
theorem cite_len {s : Step} (h : s.fine = true) (h4 : s.by_ = 4 → s.cite.size ≤ 12) : s.cite.size ≤ 12 := by
  unfold Step.fine at h
  (repeat' split at h)
  · simp only [Bool.and_eq_true] at h
    have := e0_size h.2.2
    omega
  · simp only [Bool.and_eq_true] at h
    have := e0_size h.2.2
    omega
  · simp only [Bool.and_eq_true] at h
    have := e0_size h.2.2.2
    omega
  · rename_i hb
    exact h4 hb
  · cases h
theorem stepsGo_zero : ∀ (l : List Step) (i : Nat), stepsGo i l = 0 → (l = [] ∨ i + l.length ≤ 60) ∧ ∀ s ∈ l, s.why = 0 ∧ s.says.written = 0
  | [], i, _ => ⟨.inl rfl, fun s hs => by cases hs⟩
  | s :: l, i, h => by
    unfold stepsGo at h
    split at h
    · cases h
    · split at h
      · rename_i h6 hw
        split at h
        · rename_i hs
          obtain ⟨h1, h2⟩ := stepsGo_zero l (i + 1) h
          refine ⟨.inr ?_, fun x hx => ?_⟩
          · rcases h1 with rfl | h1
            · simp; omega
            · simp only [List.length_cons]; omega
          · rcases List.mem_cons.1 hx with rfl | hx
            · exact ⟨hw, hs⟩
            · exact h2 x hx
        · rename_i hs
          exact absurd h hs
      · rename_i hw
        exact absurd h hw
theorem namesGo_zero : ∀ (l had : List ByteArray), namesGo had l = 0 → (l = [] ∨ had.length + l.length ≤ 8) ∧ ∀ s ∈ l, isName s = true
  | [], had, _ => ⟨.inl rfl, fun s hs => by cases hs⟩
  | s :: l, had, h => by
    unfold namesGo at h
    split at h
    · rename_i hn
      split at h
      · cases h
      · split at h
        · cases h
        · obtain ⟨h1, h2⟩ := namesGo_zero l _ h
          simp only [List.length_append, List.length_cons, List.length_nil] at h1
          refine ⟨.inr ?_, fun x hx => ?_⟩
          · rcases h1 with rfl | h1
            · simp; omega
            · simp only [List.length_cons]; omega
          · rcases List.mem_cons.1 hx with rfl | hx
            · exact hn
            · exact h2 x hx
    · cases h
structure U.good (u : U) : Prop where
  c8 : u.cites.length ≤ 8
  names : ∀ s ∈ u.cites, isName s = true
  states : u.states.right = 0 ∧ u.states.sz ≤ 300
  s60 : u.steps.length ≤ 60
  s1 : 1 ≤ u.steps.length
  steps : ∀ s ∈ u.steps, s.good
theorem U.good_of {u : U} (h : u.right = 0) : u.good := by
  unfold U.right at h
  split at h
  · rename_i hn
    split at h
    · rename_i hs
      split at h
      · cases h
      · rename_i hl
        obtain ⟨h1, h2⟩ := namesGo_zero _ _ hn
        obtain ⟨h3, h4⟩ := stepsGo_zero _ _ h
        obtain ⟨a, b, _⟩ := written_zero hs
        refine ⟨?_, h2, ⟨a, b⟩, ?_, by omega, fun s hs => ?_⟩
        · rcases h1 with h1 | h1
          · rw [h1]; simp
          · simpa using h1
        · rcases h3 with h3 | h3
          · rw [h3]; simp
          · simpa using h3
        · obtain ⟨hw, hr⟩ := h4 s hs
          obtain ⟨h5, h6⟩ := why_zero hw
          obtain ⟨a, b, _⟩ := written_zero hr
          exact ⟨h5, cite_len h5 fun h => name_len (h6 h), a, b⟩
    · rename_i hs
      exact absurd h hs
  · rename_i hn
    exact absurd h hn
theorem fine_nums {s : Step} (h : s.fine = true) : (s.by_ = 1 ∨ s.by_ = 2 ∨ s.by_ = 3 ∨ s.by_ = 4) ∧ 0 ≤ s.a ∧ s.a ≤ 999999999 ∧ 0 ≤ s.b ∧ s.b ≤ 999999999 := by
  unfold Step.fine number at h
  (repeat' split at h) <;> simp only [Bool.and_eq_true, decide_eq_true_eq, beq_iff_eq, Bool.false_eq_true] at h <;> omega
theorem Step.txt_len {s : Step} (h : s.good) : s.txt.length ≤ 60 := by
  obtain ⟨h1, h2, _⟩ := h
  obtain ⟨h3, h4⟩ := fine_nums h1
  have ha := Lib.itoa_length_le s.a (by omega) (by omega)
  have hb := Lib.itoa_length_le s.b (by omega) (by omega)
  have hc := L_length s.cite
  unfold Step.txt
  (repeat' split) <;> simp only [List.length_append, List.length_cons, List.length_nil] <;> omega
theorem Step.line_len {s : Step} (h : s.good) (i : Nat) (hi : i < 60) : (s.line i).length ≤ 20000 := by
  have h1 := s.txt_len h
  have h2 := E.txt_len s.says (right_zero h.2.2.1).2.2
  have h3 := h.2.2.2
  have h4 := Lib.itoa_length_le ((i + 1 : Nat) : Int) (by omega) (by omega)
  simp only [Step.line, List.length_append, List.length_cons, List.length_nil]
  omega
theorem U.names_len {u : U} (h : u.good) (i : Nat) (hi : i ≤ u.cites.length) : (u.names i).length ≤ 200 := by
  have h8 := h.c8
  have := upTo_len (fun _ n => [32] ++ L n) u.cites 13 (fun j x hx => by
    have := name_len (h.names x (List.mem_of_getElem? hx))
    have := L_length x
    simp only [List.length_append, List.length_cons, List.length_nil]
    omega) i
  simp only [U.names, List.length_append, List.length_cons, List.length_nil]
  omega
theorem U.head_len {u : U} (h : u.good) : u.head.length ≤ 20000 := by
  have h1 := u.names_len h _ (Nat.le_refl _)
  have h2 := E.txt_len u.states (right_zero h.states.1).2.2
  have := h.states.2
  simp only [U.head, List.length_append, List.length_cons, List.length_nil]
  omega
theorem U.part_len {u : U} (h : u.good) (i : Nat) (hi : i ≤ 60) : (u.part i).length ≤ 2000000 := by
  have h1 := u.head_len h
  have h2 := upTo_len Step.line u.steps 20000 (fun j x hx => Step.line_len (h.steps x (List.mem_of_getElem? hx)) j (by
    have := (List.getElem?_eq_some_iff.1 hx).1
    have := h.s60
    omega)) i
  simp only [U.part, List.length_append]
  omega
theorem U.part_le {u : U} (i : Nat) (hi : i ≤ u.steps.length) : (u.part i).length ≤ u.txt.length := by
  have := upTo_le Step.line u.steps i hi
  simp only [U.txt, U.part, List.length_append]
  omega
end Go.Proofs.YtkdendaohlnlcaaGreatDoor.Av

/- What unit.Print answers. No condition. -/
namespace Go.Proofs.YtkdendaohlnlcaaGreatDoor.Av
set_option linter.unusedVariables false
set_option linter.unusedSimpArgs false
set_option maxRecDepth 4000
set_option maxHeartbeats 1000000
variable {w0 : Base} {k : List Nat} {H : Hp}
def specIW : Spec := Spec.no.add 37 (sp1 dI (fun n => -9223372036854775808 ≤ n ∧ n ≤ 9223372036854775807) fun n => .str (T (Lib.itoa n)))
theorem specIW_ok (hw : TabW w0) : SpecOk Tryz.prog w0 specIW := Spec.no_ok.add (sp1_ok fun n h k H => itoa_call hw n h.1 h.2)
theorem reason_call (hw : TabW w0) (s : Step) (hs : s.fine = true) (hc : (s.cite.size : Int) ≤ 140737488355328) : CallAt Tryz.prog w0 k 42 [(dA cStep).enc s] H H (.str (T s.txt)) := by
  refine callAt tabOk (specIW_ok hw) mixed Tryz.func42 rfl rfl Tryz.results42 Tryz.ntmps42 (by simp) [] ?_
  intro hfr t hl ht
  simp only [At, dA, cStep, Step.cells] at ht
  obtain ⟨hb, ha0, ha9, hb0, hb9⟩ := fine_nums hs
  have ila := Lib.itoa_length_le s.a (by omega) (by omega)
  have ilb := Lib.itoa_length_le s.b (by omega) (by omega)
  have hcl := L_length s.cite
  have hcs : s.cite = ⟨(L s.cite).toArray⟩ := rfl
  unfold Step.txt
  rcases hb with hb | hb | hb | hb
  · simp (config := {contextual := true, maxSteps := 5000000}) only [go_sem, false_and, Nat.reduceAdd, Nat.reduceLT, Nat.reduceBEq, Nat.reduceSub, Nat.reduceMul, Nat.reduceLeDiff, Int.reduceToNat, Nat.reduceEqDiff, Nat.reduceMod, ht, hl, hb, specIW, Int.reduceBEq]
    (repeat' apply And.intro) <;> first | omega | (first | omega | ((try simp only [ByteArray.size_append, ByteArray.size_empty, T_size, List.size_toArray, List.length_append, List.length_cons, List.length_nil, Int.natCast_add] at *); omega)) | simp
  · simp (config := {contextual := true, maxSteps := 5000000}) only [go_sem, false_and, Nat.reduceAdd, Nat.reduceLT, Nat.reduceBEq, Nat.reduceSub, Nat.reduceMul, Nat.reduceLeDiff, Int.reduceToNat, Nat.reduceEqDiff, Nat.reduceMod, ht, hl, hb, specIW, Int.reduceBEq]
    refine ⟨⟨by omega, by omega⟩, by (first | omega | ((try simp only [ByteArray.size_append, ByteArray.size_empty, T_size, List.size_toArray, List.length_append, List.length_cons, List.length_nil, Int.natCast_add] at *); omega)), by (first | omega | ((try simp only [ByteArray.size_append, ByteArray.size_empty, T_size, List.size_toArray, List.length_append, List.length_cons, List.length_nil, Int.natCast_add] at *); omega)), ⟨by omega, by omega⟩, by (first | omega | ((try simp only [ByteArray.size_append, ByteArray.size_empty, T_size, List.size_toArray, List.length_append, List.length_cons, List.length_nil, Int.natCast_add] at *); omega)), ?_⟩
    simp
  · simp (config := {contextual := true, maxSteps := 5000000}) only [go_sem, false_and, Nat.reduceAdd, Nat.reduceLT, Nat.reduceBEq, Nat.reduceSub, Nat.reduceMul, Nat.reduceLeDiff, Int.reduceToNat, Nat.reduceEqDiff, Nat.reduceMod, ht, hl, hb, specIW, Int.reduceBEq]
    refine ⟨⟨by omega, by omega⟩, by (first | omega | ((try simp only [ByteArray.size_append, ByteArray.size_empty, T_size, List.size_toArray, List.length_append, List.length_cons, List.length_nil, Int.natCast_add] at *); omega)), by (first | omega | ((try simp only [ByteArray.size_append, ByteArray.size_empty, T_size, List.size_toArray, List.length_append, List.length_cons, List.length_nil, Int.natCast_add] at *); omega)), ⟨by omega, by omega⟩, by (first | omega | ((try simp only [ByteArray.size_append, ByteArray.size_empty, T_size, List.size_toArray, List.length_append, List.length_cons, List.length_nil, Int.natCast_add] at *); omega)), ?_⟩
    simp
  · simp (config := {contextual := true, maxSteps := 5000000}) only [go_sem, false_and, Nat.reduceAdd, Nat.reduceLT, Nat.reduceBEq, Nat.reduceSub, Nat.reduceMul, Nat.reduceLeDiff, Int.reduceToNat, Nat.reduceEqDiff, Nat.reduceMod, ht, hl, hb, specIW, Int.reduceBEq]
    refine ⟨⟨by omega, by omega⟩, ?_, ?_⟩
    · simp
      show (5 : Int) + (s.cite.size : Int) ≤ _
      omega
    · simp
      rfl
def specUP : Spec := ((specIW.add 20 (sp1 (dA cU) (fun u => u.okN) fun u => .int .i64 u.right)).add 41 (sp1 dE (fun e => e.ok) fun e => .tup [.str (T e.print), .int .i64 e.right])).add
  42 (sp1 (dA cStep) (fun s => s.fine = true ∧ (s.cite.size : Int) ≤ 140737488355328) fun s => .str (T s.txt))
theorem specUP_ok (hw : TabW w0) : SpecOk Tryz.prog w0 specUP := (((specIW_ok hw).add (sp1_ok fun u h k H => right_call u h)).add (sp1_ok fun e h k H => print_call e h)).add (sp1_ok fun s h k H => reason_call hw s h.1 h.2)
def specUJ : Spec := specUP.add 40 (sp2 (dL cS) dS (fun l sep => l.length ≤ 140737488355328 ∧ (joinT l sep).length ≤ 140737488355328) fun l sep => .str (T (joinT l sep)))
theorem specUJ_ok (hw : TabW w0) : SpecOk Tryz.prog w0 specUJ := (specUP_ok hw).add (sp2_ok fun l s h k H => join_call l s h.1 h.2)
theorem join_names (u : U) : joinT (T [99, 105, 116, 101, 115] :: u.cites) (T [32]) = u.names u.cites.length := by
  simp only [joinT, List.map_cons, L_T, Lib.join_cons, U.names, upTo_flat, Lib.joinTail, List.take_length, List.map_map]
  rfl
theorem printU_call (hw : TabW w0) (u : U) (hok : u.okN) : CallAt Tryz.prog w0 k 19 [(dA cU).enc u] H H (.tup [.str (T u.printT), .int .i64 u.printE]) := by
  refine callAt tabOk (specUJ_ok hw) mixed Tryz.func19 rfl rfl Tryz.results19 Tryz.ntmps19 (by simp) [] ?_
  intro hfr t hl ht
  simp only [At, dA, cU, U.cells] at ht
  simp (config := {contextual := true, maxSteps := 5000000}) only [go_sem, false_and, Nat.reduceAdd, Nat.reduceLT, Nat.reduceBEq, Nat.reduceSub, Nat.reduceMul, Nat.reduceLeDiff, Int.reduceToNat, Nat.reduceEqDiff, Nat.reduceMod, ht, hl, specUJ, specUP, specIW]
  refine ⟨hok, fun a => ?_, fun a => ?_⟩
  · simp only [bne_iff_ne, ne_eq] at a
    have h1 : u.printE = u.right := by rw [U.printE, if_neg a]
    rw [U.printT, h1, if_neg a]
    exact Weak.refl _
  · simp only [bne_eq_false_iff_eq] at a
    have hg := U.good_of a
    have hB := BdAt.new (H0 := H) (id := ⟨2, 0 :: 3 :: k, 63⟩) rfl rfl (hfr _ (sfx2 _ _ _))
    have hc8 := hg.c8
    have hnl := U.names_len hg _ (Nat.le_refl _)
    have hjn := join_names u
    have hX : (H.upd ⟨2, 0 :: 3 :: k, 63⟩ (some (.cells [.raw (.pointer none), .list .nil []]))) ⟨1, 3 :: 4 :: k, 9⟩ = none := by
      rw [Hp.upd_ne _ _ (by simp)]
      exact hfr _ (sfx2 _ _ _)
    refine ⟨cS_each _, by simp, cS_one _, by omega, by omega, trivial, ⟨by first | omega | (simp only [List.length_cons]; omega), by rw [hjn]; omega⟩, by rw [hjn]; (first | omega | ((try simp only [ByteArray.size_append, ByteArray.size_empty, T_size, List.size_toArray, List.length_append, List.length_cons, List.length_nil, Int.natCast_add] at *); omega)), ?_⟩
    rw [hjn]
    refine bdK (ws_call _ _ (by (first | omega | ((try simp only [ByteArray.size_append, ByteArray.size_empty, T_size, List.size_toArray, List.length_append, List.length_cons, List.length_nil, Int.natCast_add] at *); omega)))) (hB.mono (Hp.le_upd (Hp.Le.refl _) hX)) (by (first | omega | ((try simp only [ByteArray.size_append, ByteArray.size_empty, T_size, List.size_toArray, List.length_append, List.length_cons, List.length_nil, Int.natCast_add] at *); omega))) (free2 fun i hi => hfr i hi) fun H1 hB1 => ?_
    simp (config := {contextual := true, maxSteps := 5000000}) only [go_sem, false_and, Nat.reduceAdd, Nat.reduceLT, Nat.reduceBEq, Nat.reduceSub, Nat.reduceMul, Nat.reduceLeDiff, Int.reduceToNat, Nat.reduceEqDiff, Nat.reduceMod, hl, specUJ, specUP, specIW]
    have hst : u.states.print = u.states.txt := by rw [E.print, if_pos hg.states.1]
    have hsl := E.txt_len u.states (right_zero hg.states.1).2.2
    have hss := hg.states.2
    have hh : u.head = u.names u.cites.length ++ [10, 115, 116, 97, 116, 101, 115, 32] ++ u.states.txt ++ [10] := rfl
    have hhl := U.head_len hg
    obtain ⟨⟨okc, oks, okst, okss⟩, okn1, okn2⟩ := hok
    rw [hst]
    refine ⟨okst, by (first | omega | ((try simp only [ByteArray.size_append, ByteArray.size_empty, T_size, List.size_toArray, List.length_append, List.length_cons, List.length_nil, Int.natCast_add] at *); omega)), by (first | omega | ((try simp only [ByteArray.size_append, ByteArray.size_empty, T_size, List.size_toArray, List.length_append, List.length_cons, List.length_nil, Int.natCast_add] at *); omega)), bdK (ws_call _ _ (by (first | omega | ((try simp only [ByteArray.size_append, ByteArray.size_empty, T_size, List.size_toArray, List.length_append, List.length_cons, List.length_nil, Int.natCast_add] at *); omega)))) hB1 (by (first | omega | ((try simp only [ByteArray.size_append, ByteArray.size_empty, T_size, List.size_toArray, List.length_append, List.length_cons, List.length_nil, Int.natCast_add] at *); omega))) (free2 fun i hi => hfr i hi) fun H2 hB2 => ?_⟩
    simp (config := {contextual := true, maxSteps := 5000000}) only [go_sem, false_and, Nat.reduceAdd, Nat.reduceLT, Nat.reduceBEq, Nat.reduceSub, Nat.reduceMul, Nat.reduceLeDiff, Int.reduceToNat, Nat.reduceEqDiff, Nat.reduceMod, hl, specUJ, specUP, specIW]
    have hB2' := hB2.cast (t := T (u.part 0)) (by simp [L_append, L_T, U.part, upTo, hh, L])
    refine loop_inv tabOk (specUJ_ok hw) mixed [] (fun j x => ∃ i : Nat, x.tmps.length = 64 ∧ x.tmps.getD 5 AV.undef = .ptr ⟨2, 0 :: 3 :: k, 63⟩ 0 ∧ x.tmps.getD 35 AV.undef = .list .none (u.steps.map cStep.enc) ∧ x.tmps.getD 36 AV.undef = .int .i64 u.steps.length ∧
      x.tmps.getD 37 AV.undef = .int .i64 i ∧ i + j = u.steps.length ∧ 7 ≤ x.n ∧ BdAt H ⟨2, 0 :: 3 :: k, 63⟩ (T (u.part i)) x.H) u.steps.length ⟨0, ?_⟩ ?_
    · simp (config := {contextual := true, maxSteps := 5000000}) only [go_sem, false_and, Nat.reduceAdd, Nat.reduceLT, Nat.reduceBEq, Nat.reduceSub, Nat.reduceMul, Nat.reduceLeDiff, Int.reduceToNat, Nat.reduceEqDiff, Nat.reduceMod, hl]
      simp
      exact hB2'
    · rintro j ⟨t, n, H3⟩ ⟨i, hl, h5, h35, h36, h37, hij, hn, hB3⟩
      simp only at hl h5 h35 h36 h37 hn hB3
      have hs60 := hg.s60
      by_cases hi : i < u.steps.length
      · have hd : decide ((i : Int) < (u.steps.length : Int)) = true := by simp [hi]
        have hw2 : IntKind.i64.wrap ((i : Int) + 1) = ((i + 1 : Nat) : Int) := by rw [wrap_i64] <;> omega
        obtain ⟨s, hs, he⟩ := step_get u.steps hi
        have hgs := hg.steps s (List.mem_of_getElem? hs)
        have hpr : s.says.print = s.says.txt := by rw [E.print, if_pos hgs.2.2.1]
        have hP : u.part (i + 1) = u.part i ++ s.line i := by rw [U.part, U.part, upTo_succ hs, List.append_assoc]
        have hpl := U.part_len hg (i + 1) (by omega)
        have hpl2 := U.part_len hg i (by omega)
        have hll := Step.line_len hgs i (by omega)
        have hln : s.line i = Lib.itoa (i + 1 : Nat) ++ [32] ++ s.says.txt ++ [32, 58, 32] ++ s.txt ++ [10] := rfl
        have hcs := hgs.2.1
        have hlc := congrArg List.length hln
        simp only [List.length_append, List.length_cons, List.length_nil] at hlc
        simp (config := {contextual := true, maxSteps := 5000000}) only [go_sem, false_and, Nat.reduceAdd, Nat.reduceLT, Nat.reduceBEq, Nat.reduceSub, Nat.reduceMul, Nat.reduceLeDiff, Int.reduceToNat, Nat.reduceEqDiff, Nat.reduceMod, he, Step.cells, h5, h35, h36, h37, hl, hd, hw2, specUJ, specUP, specIW]
        rw [hpr]
        refine ⟨⟨by omega, by omega⟩, okss s (List.mem_of_getElem? hs), by kernel_rfl, ⟨by omega, by omega⟩, by (first | omega | ((try simp only [ByteArray.size_append, ByteArray.size_empty, T_size, List.size_toArray, List.length_append, List.length_cons, List.length_nil, Int.natCast_add] at *); omega)), by (first | omega | ((try simp only [ByteArray.size_append, ByteArray.size_empty, T_size, List.size_toArray, List.length_append, List.length_cons, List.length_nil, Int.natCast_add] at *); omega)), by (first | omega | ((try simp only [ByteArray.size_append, ByteArray.size_empty, T_size, List.size_toArray, List.length_append, List.length_cons, List.length_nil, Int.natCast_add] at *); omega)), ⟨hgs.1, by omega⟩, by (first | omega | ((try simp only [ByteArray.size_append, ByteArray.size_empty, T_size, List.size_toArray, List.length_append, List.length_cons, List.length_nil, Int.natCast_add] at *); omega)), by (first | omega | ((try simp only [ByteArray.size_append, ByteArray.size_empty, T_size, List.size_toArray, List.length_append, List.length_cons, List.length_nil, Int.natCast_add] at *); omega)),
          bdK (ws_call _ _ (by (first | omega | ((try simp only [ByteArray.size_append, ByteArray.size_empty, T_size, List.size_toArray, List.length_append, List.length_cons, List.length_nil, Int.natCast_add] at *); omega)))) (hB3.upd (by simp) (by simp) (hfr _ (sfx2 _ _ _))) (by (first | omega | ((try simp only [ByteArray.size_append, ByteArray.size_empty, T_size, List.size_toArray, List.length_append, List.length_cons, List.length_nil, Int.natCast_add] at *); omega))) (free2 fun i hi => hfr i hi) fun H4 hB4 => ?_⟩
        simp (config := {contextual := true, maxSteps := 5000000}) only [go_sem, false_and, Nat.reduceAdd, Nat.reduceLT, Nat.reduceBEq, Nat.reduceSub, Nat.reduceMul, Nat.reduceLeDiff, Int.reduceToNat, Nat.reduceEqDiff, Nat.reduceMod, h5, h35, h36, h37, hl, hd, hw2, specUJ, specUP, specIW]
        exact ⟨by (refine pw_of ?_; (repeat' (first | exact trivial | apply And.intro)); all_goals (first | exact .inr rfl | exact .inr trivial | exact .inl (by kernel_rfl))), j - 1, by omega, i + 1, rfl, by omega, by omega, hB4.cast (by rw [hP, hln]; simp only [L_append, L_T])⟩
      · have hd : decide ((i : Int) < (u.steps.length : Int)) = false := by simp; omega
        obtain rfl : i = u.steps.length := by omega
        simp (config := {contextual := true, maxSteps := 5000000}) only [go_sem, false_and, Nat.reduceAdd, Nat.reduceLT, Nat.reduceBEq, Nat.reduceSub, Nat.reduceMul, Nat.reduceLeDiff, Int.reduceToNat, Nat.reduceEqDiff, Nat.reduceMod, h5, h35, h36, h37, hl, hd, specUJ, specUP, specIW]
        refine callK_intro (len_call _ hB3) ?_
        simp (config := {contextual := true, maxSteps := 5000000}) only [go_sem, false_and, Nat.reduceAdd, Nat.reduceLT, Nat.reduceBEq, Nat.reduceSub, Nat.reduceMul, Nat.reduceLeDiff, Int.reduceToNat, Nat.reduceEqDiff, Nat.reduceMod, h5, h35, h36, h37, hl, hd, specUJ, specUP, specIW]
        refine ⟨fun b => ⟨?_, hB3.le (hfr _ (sfx2 _ _ _))⟩, fun b => callK_intro (string_call _ hB3 (hfr _ (sfx2 _ _ _)) (by have := U.part_len hg u.steps.length hs60; (first | omega | ((try simp only [ByteArray.size_append, ByteArray.size_empty, T_size, List.size_toArray, List.length_append, List.length_cons, List.length_nil, Int.natCast_add] at *); omega)))) ?_⟩
        · simp only [decide_eq_true_eq, List.size_toArray] at b
          have h1 : u.printE = 2 := by rw [U.printE, if_pos a, if_pos (show 20000 < u.txt.length by rw [U.txt]; omega)]
          rw [U.printT, h1]
          exact Weak.refl _
        · simp (config := {contextual := true, maxSteps := 5000000}) only [go_sem, false_and, Nat.reduceAdd, Nat.reduceLT, Nat.reduceBEq, Nat.reduceSub, Nat.reduceMul, Nat.reduceLeDiff, Int.reduceToNat, Nat.reduceEqDiff, Nat.reduceMod, hl, hd]
          simp only [decide_eq_false_iff_not, List.size_toArray] at b
          have h1 : u.printE = 0 := by rw [U.printE, if_pos a, if_neg (show ¬ 20000 < u.txt.length by rw [U.txt]; omega)]
          rw [U.printT, h1]
          exact Weak.refl _
end Go.Proofs.YtkdendaohlnlcaaGreatDoor.Av

/- What organonref09.Print answers. No condition. -/
namespace Go.Proofs.YtkdendaohlnlcaaGreatDoor.Av
set_option linter.unusedVariables false
set_option linter.unusedSimpArgs false
set_option maxRecDepth 4000
set_option maxHeartbeats 1000000
variable {w0 : Base} {k : List Nat} {H : Hp}
theorem why09_call (hw : TabW w0) (s : Step) (hs : s.fine = true) (hc : (s.cite.size : Int) ≤ 140737488355328) : CallAt Tryz.prog w0 k 38 [(dA cStep).enc s] H H (.str (T s.txt)) := by
  refine callAt tabOk (specIW_ok hw) mixed Tryz.func38 rfl rfl Tryz.results38 Tryz.ntmps38 (by simp) [] ?_
  intro hfr t hl ht
  simp only [At, dA, cStep, Step.cells] at ht
  obtain ⟨hb, ha0, ha9, hb0, hb9⟩ := fine_nums hs
  have ila := Lib.itoa_length_le s.a (by omega) (by omega)
  have ilb := Lib.itoa_length_le s.b (by omega) (by omega)
  have hcl := L_length s.cite
  have hcs : s.cite = ⟨(L s.cite).toArray⟩ := rfl
  unfold Step.txt
  rcases hb with hb | hb | hb | hb
  · simp (config := {contextual := true, maxSteps := 5000000}) only [go_sem, false_and, Nat.reduceAdd, Nat.reduceLT, Nat.reduceBEq, Nat.reduceSub, Nat.reduceMul, Nat.reduceLeDiff, Int.reduceToNat, Nat.reduceEqDiff, Nat.reduceMod, ht, hl, hb, specIW, Int.reduceBEq]
    (repeat' apply And.intro) <;> first | omega | (first | omega | ((try simp only [ByteArray.size_append, ByteArray.size_empty, T_size, List.size_toArray, List.length_append, List.length_cons, List.length_nil, Int.natCast_add] at *); omega)) | simp
  · simp (config := {contextual := true, maxSteps := 5000000}) only [go_sem, false_and, Nat.reduceAdd, Nat.reduceLT, Nat.reduceBEq, Nat.reduceSub, Nat.reduceMul, Nat.reduceLeDiff, Int.reduceToNat, Nat.reduceEqDiff, Nat.reduceMod, ht, hl, hb, specIW, Int.reduceBEq]
    (repeat' apply And.intro) <;> first | exact List.Pairwise.nil | ((with_reducible (show drawOk _ = true)); kernel_rfl) | omega | (first | omega | ((try simp only [ByteArray.size_append, ByteArray.size_empty, T_size, List.size_toArray, List.length_append, List.length_cons, List.length_nil, Int.natCast_add] at *); omega)) | simp
  · simp (config := {contextual := true, maxSteps := 5000000}) only [go_sem, false_and, Nat.reduceAdd, Nat.reduceLT, Nat.reduceBEq, Nat.reduceSub, Nat.reduceMul, Nat.reduceLeDiff, Int.reduceToNat, Nat.reduceEqDiff, Nat.reduceMod, ht, hl, hb, specIW, Int.reduceBEq]
    (repeat' apply And.intro) <;> first | exact List.Pairwise.nil | ((with_reducible (show drawOk _ = true)); kernel_rfl) | omega | (first | omega | ((try simp only [ByteArray.size_append, ByteArray.size_empty, T_size, List.size_toArray, List.length_append, List.length_cons, List.length_nil, Int.natCast_add] at *); omega)) | simp
  · simp (config := {contextual := true, maxSteps := 5000000}) only [go_sem, false_and, Nat.reduceAdd, Nat.reduceLT, Nat.reduceBEq, Nat.reduceSub, Nat.reduceMul, Nat.reduceLeDiff, Int.reduceToNat, Nat.reduceEqDiff, Nat.reduceMod, ht, hl, hb, specIW, Int.reduceBEq]
    refine ⟨?_, ?_⟩
    · simp
      show (5 : Int) + (s.cite.size : Int) ≤ _
      omega
    · simp
      rfl
def specUR : Spec := (((specIW.add 35 (sp1 (dA cU) (fun u => u.ok) fun u => .int .i64 u.right)).add 36 (sp1 dE (fun e => e.sz ≤ 1000 ∧ e.sh = true) fun e => .str (T e.txt))).add
  38 (sp1 (dA cStep) (fun s => s.fine = true ∧ (s.cite.size : Int) ≤ 140737488355328) fun s => .str (T s.txt)))
theorem specUR_ok (hw : TabW w0) : SpecOk Tryz.prog w0 specUR := (((specIW_ok hw).add (sp1_ok fun u h k H => right09_call u h)).add (sp1_ok fun e h k H => text03_call specIt_ok e h.1 h.2)).add (sp1_ok fun s h k H => why09_call hw s h.1 h.2)
theorem printR_call (hw : TabW w0) (u : U) (hok : u.ok) : CallAt Tryz.prog w0 k 18 [(dA cU).enc u] H H (.tup [.str (T u.printT), .int .i64 u.printE]) := by
  refine callAt tabOk (specUR_ok hw) mixed Tryz.func18 rfl rfl Tryz.results18 Tryz.ntmps18 (by simp) [] ?_
  intro hfr t hl ht
  simp only [At, dA, cU, U.cells] at ht
  simp (config := {contextual := true, maxSteps := 5000000}) only [go_sem, false_and, Nat.reduceAdd, Nat.reduceLT, Nat.reduceBEq, Nat.reduceSub, Nat.reduceMul, Nat.reduceLeDiff, Int.reduceToNat, Nat.reduceEqDiff, Nat.reduceMod, ht, hl, specUR, specIW]
  refine ⟨hok, fun a => ?_, fun a => ?_⟩
  · simp only [bne_iff_ne, ne_eq] at a
    have h1 : u.printE = u.right := by rw [U.printE, if_neg a]
    rw [U.printT, h1, if_neg a]
    exact Weak.refl _
  · simp only [bne_eq_false_iff_eq] at a
    have hg := U.good_of a
    have hc8 := hg.c8
    have hs60 := hg.s60
    have hnl := U.names_len hg _ (Nat.le_refl _)
    have hsl := E.txt_len u.states (right_zero hg.states.1).2.2
    have hss := hg.states.2
    have hh : u.head = u.names u.cites.length ++ [10, 115, 116, 97, 116, 101, 115, 32] ++ u.states.txt ++ [10] := rfl
    have hhl := U.head_len hg
    refine loop_inv tabOk (specUR_ok hw) mixed [] (fun j x => ∃ i : Nat, x.tmps.length = 65 ∧ x.tmps.getD 1 AV.undef = .sptr [.list .none (u.cites.map cS.enc), .int .i64 u.states.kind, .int .i64 u.states.id, .list .none (u.states.kids.map E.cells), .list .none (u.steps.map cStep.enc)] ∧ x.tmps.getD 5 AV.undef = .str (T (u.names i)) ∧ x.tmps.getD 16 AV.undef = .list .none (u.cites.map cS.enc) ∧ x.tmps.getD 17 AV.undef = .int .i64 u.cites.length ∧
      x.tmps.getD 18 AV.undef = .int .i64 i ∧ i + j = u.cites.length ∧ x.H = H) u.cites.length ⟨0, ?_⟩ ?_
    · simp (config := {contextual := true, maxSteps := 5000000}) only [go_sem, false_and, Nat.reduceAdd, Nat.reduceLT, Nat.reduceBEq, Nat.reduceSub, Nat.reduceMul, Nat.reduceLeDiff, Int.reduceToNat, Nat.reduceEqDiff, Nat.reduceMod, hl]
      simp [U.names, upTo]
    · rintro j ⟨t, n, H2⟩ ⟨i, hl, h1, h5, h16, h17, h18, hij, rfl⟩
      simp only at hl h1 h5 h16 h17 h18
      by_cases hi : i < u.cites.length
      · have hd : decide ((i : Int) < (u.cites.length : Int)) = true := by simp [hi]
        have hw2 : IntKind.i64.wrap ((i : Int) + 1) = ((i + 1 : Nat) : Int) := by rw [wrap_i64] <;> omega
        obtain ⟨s, hs, he⟩ := str_get u.cites hi
        have hN : u.names (i + 1) = u.names i ++ ([32] ++ L s) := by rw [U.names, U.names, upTo_succ hs, List.append_assoc]
        have hnl1 := U.names_len hg (i + 1) (by omega)
        have hln := congrArg List.length hN
        simp only [List.length_append, List.length_cons, List.length_nil] at hln
        simp (config := {contextual := true, maxSteps := 5000000}) only [go_sem, false_and, Nat.reduceAdd, Nat.reduceLT, Nat.reduceBEq, Nat.reduceSub, Nat.reduceMul, Nat.reduceLeDiff, Int.reduceToNat, Nat.reduceEqDiff, Nat.reduceMod, he, h1, h5, h16, h17, h18, hl, hd, hw2]
        have hsl := L_length s
        refine ⟨⟨by omega, by omega⟩, by (first | omega | ((try simp only [ByteArray.size_append, ByteArray.size_empty, T_size, List.size_toArray, List.length_append, List.length_cons, List.length_nil, Int.natCast_add] at *); omega)), ?_, j - 1, by omega, i + 1, ?_, rfl, by omega⟩
        · (first | omega | ((try simp only [ByteArray.size_append, ByteArray.size_empty, T_size, List.size_toArray, List.length_append, List.length_cons, List.length_nil, Int.natCast_add] at *); omega))
        · rw [hN, ← List.append_assoc]
          exact T_append (u.names i ++ [32]) (L s)
      · have hd : decide ((i : Int) < (u.cites.length : Int)) = false := by simp; omega
        obtain rfl : i = u.cites.length := by omega
        simp (config := {contextual := true, maxSteps := 5000000}) only [go_sem, false_and, Nat.reduceAdd, Nat.reduceLT, Nat.reduceBEq, Nat.reduceSub, Nat.reduceMul, Nat.reduceLeDiff, Int.reduceToNat, Nat.reduceEqDiff, Nat.reduceMod, h1, h5, h16, h17, h18, hl, hd, specUR, specIW]
        refine ⟨by (first | omega | ((try simp only [ByteArray.size_append, ByteArray.size_empty, T_size, List.size_toArray, List.length_append, List.length_cons, List.length_nil, Int.natCast_add] at *); omega)), ⟨by omega, (right_zero hg.states.1).2.2⟩, by (first | omega | ((try simp only [ByteArray.size_append, ByteArray.size_empty, T_size, List.size_toArray, List.length_append, List.length_cons, List.length_nil, Int.natCast_add] at *); omega)), by (first | omega | ((try simp only [ByteArray.size_append, ByteArray.size_empty, T_size, List.size_toArray, List.length_append, List.length_cons, List.length_nil, Int.natCast_add] at *); omega)), ?_⟩
        refine loop_inv tabOk (specUR_ok hw) mixed [] (fun j x => ∃ i : Nat, x.tmps.length = 65 ∧ x.tmps.getD 5 AV.undef = .str (T (u.part i)) ∧ x.tmps.getD 35 AV.undef = .list .none (u.steps.map cStep.enc) ∧ x.tmps.getD 36 AV.undef = .int .i64 u.steps.length ∧
          x.tmps.getD 37 AV.undef = .int .i64 i ∧ i + j = u.steps.length ∧ H2.Le x.H) u.steps.length ⟨0, ?_⟩ ?_
        · simp (config := {contextual := true, maxSteps := 5000000}) only [go_sem, false_and, Nat.reduceAdd, Nat.reduceLT, Nat.reduceBEq, Nat.reduceSub, Nat.reduceMul, Nat.reduceLeDiff, Int.reduceToNat, Nat.reduceEqDiff, Nat.reduceMod, hl]
          simp [U.part, upTo, hh]
        · rintro j ⟨t, n, H3⟩ ⟨i, hl, h5, h35, h36, h37, hij, hH⟩
          simp only at hl h5 h35 h36 h37 hH
          by_cases hi : i < u.steps.length
          · have hd : decide ((i : Int) < (u.steps.length : Int)) = true := by simp [hi]
            have hw2 : IntKind.i64.wrap ((i : Int) + 1) = ((i + 1 : Nat) : Int) := by rw [wrap_i64] <;> omega
            obtain ⟨s, hs, he⟩ := step_get u.steps hi
            have hgs := hg.steps s (List.mem_of_getElem? hs)
            have hP : u.part (i + 1) = u.part i ++ s.line i := by rw [U.part, U.part, upTo_succ hs, List.append_assoc]
            have hpl := U.part_len hg (i + 1) (by omega)
            have hpl2 := U.part_len hg i (by omega)
            have hpt := U.part_le (u := u) (i + 1) (by omega)
            have hll := Step.line_len hgs i (by omega)
            have hln : s.line i = Lib.itoa (i + 1 : Nat) ++ [32] ++ s.says.txt ++ [32, 58, 32] ++ s.txt ++ [10] := rfl
            have hcs := hgs.2.1
            have hlc := congrArg List.length hln
            simp only [List.length_append, List.length_cons, List.length_nil] at hlc
            have hn : H2 ⟨7, 3 :: (n + 1) :: k, 50⟩ = none := hfr _ (sfx2 _ _ _)
            have hle : ∀ a, H2.Le (H3.upd ⟨7, 3 :: (n + 1) :: k, 50⟩ a) := fun a => Hp.le_upd hH hn
            simp (config := {contextual := true, maxSteps := 5000000}) only [go_sem, false_and, Nat.reduceAdd, Nat.reduceLT, Nat.reduceBEq, Nat.reduceSub, Nat.reduceMul, Nat.reduceLeDiff, Int.reduceToNat, Nat.reduceEqDiff, Nat.reduceMod, he, Step.cells, h5, h35, h36, h37, hl, hd, hw2, specUR, specIW]
            have hE : T (u.part i ++ Lib.itoa ↑(i + 1) ++ [32] ++ s.says.txt ++ [32, 58, 32] ++ s.txt ++ [10]) = T (u.part (i + 1)) := by rw [hP, hln]; simp only [List.append_assoc]
            have hEl := congrArg List.length hP
            simp only [List.length_append] at hEl
            refine ⟨⟨by omega, by omega⟩, by kernel_rfl, ⟨by omega, by omega⟩, by (first | omega | ((try simp only [ByteArray.size_append, ByteArray.size_empty, T_size, List.size_toArray, List.length_append, List.length_cons, List.length_nil, Int.natCast_add] at *); omega)), by (first | omega | ((try simp only [ByteArray.size_append, ByteArray.size_empty, T_size, List.size_toArray, List.length_append, List.length_cons, List.length_nil, Int.natCast_add] at *); omega)), ⟨by have := hgs.2.2.2; omega, (right_zero hgs.2.2.1).2.2⟩, by (first | omega | ((try simp only [ByteArray.size_append, ByteArray.size_empty, T_size, List.size_toArray, List.length_append, List.length_cons, List.length_nil, Int.natCast_add] at *); omega)), by (first | omega | ((try simp only [ByteArray.size_append, ByteArray.size_empty, T_size, List.size_toArray, List.length_append, List.length_cons, List.length_nil, Int.natCast_add] at *); omega)), ⟨hgs.1, by omega⟩, by (first | omega | ((try simp only [ByteArray.size_append, ByteArray.size_empty, T_size, List.size_toArray, List.length_append, List.length_cons, List.length_nil, Int.natCast_add] at *); omega)), by (first | omega | ((try simp only [ByteArray.size_append, ByteArray.size_empty, T_size, List.size_toArray, List.length_append, List.length_cons, List.length_nil, Int.natCast_add] at *); omega)), by (refine pw_of ?_; (repeat' (first | exact trivial | apply And.intro)); all_goals (first | exact .inr rfl | exact .inr trivial | exact .inl (by kernel_rfl))), fun b => ⟨?_, hle _⟩,
              fun b => ⟨j - 1, by omega, i + 1, hE, rfl, by omega, hle _⟩⟩
            simp only [decide_eq_true_eq, List.size_toArray, List.length_append, List.length_cons, List.length_nil] at b
            have h1 : u.printE = 2 := by rw [U.printE, if_pos a, if_pos (show 20000 < u.txt.length by omega)]
            rw [U.printT, h1]
            exact Weak.refl _
          · have hd : decide ((i : Int) < (u.steps.length : Int)) = false := by simp; omega
            obtain rfl : i = u.steps.length := by omega
            simp (config := {contextual := true, maxSteps := 5000000}) only [go_sem, false_and, Nat.reduceAdd, Nat.reduceLT, Nat.reduceBEq, Nat.reduceSub, Nat.reduceMul, Nat.reduceLeDiff, Int.reduceToNat, Nat.reduceEqDiff, Nat.reduceMod, h5, h35, h36, h37, hl, hd, specUR, specIW]
            refine ⟨fun b => ⟨?_, hH⟩, fun b => ⟨?_, hH⟩⟩
            · simp only [decide_eq_true_eq, List.size_toArray] at b
              have h1 : u.printE = 2 := by rw [U.printE, if_pos a, if_pos (show 20000 < u.txt.length by rw [U.txt]; omega)]
              rw [U.printT, h1]
              exact Weak.refl _
            · simp only [decide_eq_false_iff_not, List.size_toArray] at b
              have h1 : u.printE = 0 := by rw [U.printE, if_pos a, if_neg (show ¬ 20000 < u.txt.length by rw [U.txt]; omega)]
              rw [U.printT, h1]
              exact Weak.refl _
end Go.Proofs.YtkdendaohlnlcaaGreatDoor.Av

/- Lines, words and numbers read back: texts as lists. Plain. No condition. -/
namespace Go.Proofs.YtkdendaohlnlcaaGreatDoor.Av
set_option linter.unusedVariables false
set_option linter.unusedSimpArgs false
set_option maxRecDepth 4000
set_option maxHeartbeats 1000000
theorem T_ext {l : List UInt8} {s : ByteArray} (h : s.data.toList = l) : s = T l := by
  subst h
  rfl
theorem ext_T (p r : List UInt8) : (T (p ++ r)).extract p.length (T (p ++ r)).size = T r := by
  refine T_ext ?_
  rw [Lib.extract_data, T_size]
  show List.take _ (List.drop p.length (p ++ r)) = r
  rw [List.drop_left, List.take_of_length_le (by simp)]
theorem pre_T (p r : List UInt8) : (T (p ++ r)).extract 0 p.length = T p := by
  refine T_ext ?_
  rw [Lib.extract_data]
  show List.take _ (List.drop 0 (p ++ r)) = p
  simp
theorem beg_T (p r : List UInt8) : beg (T (p ++ r)) (T p) = true := by
  rw [beg, T_size, T_size, pre_T]
  simp
theorem cutC_T (c : UInt8) (x : List UInt8) : cutC (T x) c.toNat = (cutU c x).map T := by
  have h := cutC_spec (T x) c
  have h2 : (T x).data.toList = x := by simp
  rw [h2] at h
  rw [← h, List.map_map]
  have h3 : (T ∘ fun y : ByteArray => y.data.toList) = id := by
    funext y
    exact (T_ext rfl).symm
  rw [h3, List.map_id]
theorem fstC_T {c : UInt8} {a r : List UInt8} (h : ∀ b ∈ a, b ≠ c) : fstC (T (a ++ c :: r)) c.toNat = a.length := by
  refine fstF_at (Nat.zero_le _) (by rw [T_size]; simp) (byteAt_at a r c) fun q _ hq e => ?_
  have h1 := byteAt_T (l := a ++ c :: r) (i := q) (b := a[q]) (by rw [List.getElem?_append_left hq, List.getElem?_eq_getElem hq])
  rw [h1] at e
  exact h a[q] (List.getElem_mem hq) (UInt8.toNat_inj.1 (by omega))
theorem dec_bytes : ∀ (n : Nat), ∀ b ∈ Lib.decDigits n, 48 ≤ b.toNat ∧ b.toNat ≤ 57 := by
  intro n
  induction n using Nat.strongRecOn with
  | _ n ih =>
    intro b hb
    rw [Lib.decDigits] at hb
    split at hb
    · simp at hb
      subst hb
      simp
      omega
    · rcases List.mem_append.1 hb with h | h
      · exact ih (n / 10) (by omega) b h
      · simp at h
        subst h
        simp
        omega
/-- Bytes of a formula's text. -/
def plainB (b : UInt8) : Prop := b ≠ 10 ∧ b ≠ 58
theorem dec_plain {n : Nat} {b : UInt8} (h : b ∈ Lib.decDigits n) : plainB b ∧ b ≠ 32 := by
  have := dec_bytes n b h
  refine ⟨⟨?_, ?_⟩, ?_⟩ <;> intro e <;> subst e <;> simp at this
theorem lx_plain {x : Lx} (h : x.fine) : ∀ b ∈ x.bs, plainB b := by
  intro b hb
  cases x with
  | sp =>
    simp [Lx.bs] at hb
    subst hb
    exact ⟨by decide, by decide⟩
  | sg c =>
    simp [Lx.bs] at hb
    subst hb
    refine ⟨?_, ?_⟩ <;> intro e <;> subst e <;> exact absurd h (by show ¬ (isSign _ = true); decide)
  | sy c n =>
    rcases List.mem_cons.1 hb with rfl | hb
    · rcases h with ⟨rfl, _⟩ | ⟨rfl | rfl, _⟩ <;> exact ⟨by decide, by decide⟩
    · exact (dec_plain hb).1
theorem txt_plain {e : E} (hs : e.sh = true) : ∀ b ∈ e.txt, plainB b := by
  obtain ⟨h1, _, h3⟩ := lx_of hs
  intro b hb
  rw [h1, lxB] at hb
  obtain ⟨y, hy, hby⟩ := List.mem_flatten.1 hb
  obtain ⟨x, hx, rfl⟩ := List.mem_map.1 hy
  exact lx_plain (h3 x hx) b hby
/-- Lines that each end with a byte are cut at it. -/
theorem cutU_lns {c : UInt8} : ∀ {ls : List (List UInt8)}, (∀ l ∈ ls, ∀ b ∈ l, b ≠ c) → cutU c ((ls.map fun l => l ++ [c]).flatten) = ls ++ [[]]
  | [], _ => rfl
  | l :: ls, h => by
    rw [List.map_cons, List.flatten_cons, List.append_assoc, List.singleton_append, cutU_hit (h l (by simp)), cutU_lns fun x hx => h x (by simp [hx])]
    rfl
theorem linesOf_T {ls : List (List UInt8)} (h : ∀ l ∈ ls, ∀ b ∈ l, b ≠ 10) : linesOf (T ((ls.map fun l => l ++ [10]).flatten)) = ls.map T := by
  rw [linesOf, show (10 : Int) = ((10 : UInt8).toNat : Int) from rfl, cutC_T, cutU_lns h, List.map_append]
  unfold lns
  have e : (List.map T ls ++ List.map T [[]])[(List.map T ls ++ List.map T [[]]).length - 1]? = some (T []) := by simp
  rw [e]
  show (if e0 (T []) = true then _ else _) = _
  rw [if_pos (by unfold e0; simp)]
  simp
theorem dec_len : ∀ (k n : Nat), n < 10 ^ (k + 1) → (Lib.decDigits n).length ≤ k + 1
  | 0, n, h => by rw [Lib.decDigits_one (by omega)]; simp
  | k + 1, n, h => by
    rw [Lib.decDigits]
    split
    · simp
    · have := dec_len k (n / 10) (by rw [Nat.pow_succ] at h; omega)
      simp
      omega
theorem dec_head : ∀ (n : Nat), 1 ≤ n → ∃ b r, Lib.decDigits n = b :: r ∧ b ≠ 48 := by
  intro n
  induction n using Nat.strongRecOn with
  | _ n ih =>
    intro h
    by_cases hn : n < 10
    · refine ⟨_, [], Lib.decDigits_one hn, fun e => ?_⟩
      have := congrArg UInt8.toNat e
      simp at this
      omega
    · obtain ⟨b, r, h1, h2⟩ := ih (n / 10) (by omega) (by omega)
      rw [Lib.decDigits, dif_neg hn, h1]
      exact ⟨b, _, rfl, h2⟩
theorem valN_app (a r : List UInt8) : ∀ i, i ≤ a.length → valN (T (a ++ r)) i = valN (T a) i
  | 0, _ => rfl
  | i + 1, h => by
    have h1 := byteAt_T (l := a ++ r) (i := i) (b := a[i]) (by rw [List.getElem?_append_left (by omega), List.getElem?_eq_getElem])
    have h2 := byteAt_T (l := a) (i := i) (b := a[i]) (by rw [List.getElem?_eq_getElem])
    rw [valN, valN, valN_app a r i (by omega), h1, h2]
theorem valN_dec : ∀ n : Nat, valN (T (Lib.decDigits n)) (Lib.decDigits n).length = n := by
  intro n
  induction n using Nat.strongRecOn with
  | _ n ih =>
    by_cases hn : n < 10
    · obtain ⟨_, d2⟩ := dig_of hn
      rw [Lib.decDigits_one hn]
      have hb : byteAt (T [UInt8.ofNat (48 + n)]) ((0 : Nat) : Int) = ((UInt8.ofNat (48 + n)).toNat : Int) := byteAt_at [] [] _
      show valN _ 0 * 10 + (byteAt (T [UInt8.ofNat (48 + n)]) ((0 : Nat) : Int) - 48) = _
      rw [hb, d2, valN]
      omega
    · obtain ⟨_, d2⟩ := dig_of (n := n % 10) (by omega)
      have h1 := ih (n / 10) (by omega)
      rw [Lib.decDigits, dif_neg hn, List.length_append, List.length_singleton, valN, valN_app _ _ _ (Nat.le_refl _), h1, byteAt_at, d2]
      omega
theorem decR_dec {n : Nat} (h : n ≤ 999999999) : decR (T (Lib.decDigits n)) = some (n : Int) := by
  have hl := dec_len 8 n (by omega)
  have hp : (Lib.decDigits n).length ≠ 0 := by
    rw [Lib.decDigits_length]
    unfold Lib.nDigits
    split <;> omega
  have hb : badLen (T (Lib.decDigits n)) = false := by
    rw [← Bool.not_eq_true, badLen_iff, T_size]
    rintro (h1 | h1 | ⟨h1, h2⟩)
    · omega
    · omega
    · have hn : 1 ≤ n := by
        rcases Nat.eq_zero_or_pos n with rfl | h3
        · rw [Lib.decDigits_one (by omega)] at h1
          simp at h1
        · exact h3
      obtain ⟨b, r, h3, h4⟩ := dec_head n hn
      rw [h3] at h2
      have h5 : byteAt (T (b :: r)) 0 = (b.toNat : Int) := byteAt_at [] r b
      rw [h5] at h2
      exact h4 (UInt8.toNat_inj.1 (by show b.toNat = 48; omega))
  have ha : decAll (T (Lib.decDigits n)) = true := by
    rw [decAll, List.all_eq_true]
    intro i hi
    rw [List.mem_range, T_size] at hi
    rw [byteAt_T (b := (Lib.decDigits n)[i]) (by rw [List.getElem?_eq_getElem])]
    have := dec_bytes n _ (List.getElem_mem hi)
    simp [digit]
    omega
  rw [decR, if_pos ⟨hb, ha⟩, T_size, valN_dec]
theorem decI_dec {n : Nat} (h : n ≤ 999999999) : decI (T (Lib.decDigits n)) = (n : Int) := by rw [decI, decR_dec h]
end Go.Proofs.YtkdendaohlnlcaaGreatDoor.Av

/- Whether two expressions, names, steps, units are the same, by the reference. No condition. -/
namespace Go.Proofs.YtkdendaohlnlcaaGreatDoor.Av
set_option linter.unusedVariables false
set_option linter.unusedSimpArgs false
set_option maxRecDepth 4000
set_option maxHeartbeats 1000000
variable {w0 : Base} {k : List Nat} {H : Hp}
def likeN : List ByteArray → List ByteArray → Bool
  | [], [] => true
  | a :: l, b :: m => (a.toList == b.toList) && likeN l m
  | _, _ => false
theorem eqS_iff {a b : ByteArray} : (a.toList == b.toList) = true ↔ a = b := by
  rw [beq_iff_eq, Lib.toList_data, Lib.toList_data]
  exact ⟨fun h => ByteArray.ext (Array.ext' h), fun h => by rw [h]⟩
theorem likeN_iff : ∀ {l m : List ByteArray}, likeN l m = true ↔ l = m
  | [], [] => by simp [likeN]
  | [], b :: m => by simp [likeN]
  | a :: l, [] => by simp [likeN]
  | a :: l, b :: m => by
    rw [likeN, Bool.and_eq_true, eqS_iff, likeN_iff]
    constructor
    · rintro ⟨rfl, rfl⟩; rfl
    · intro h; cases h; exact ⟨rfl, rfl⟩
theorem likeN_len {l m : List ByteArray} (h : l.length ≠ m.length) : likeN l m = false := by
  rw [← Bool.not_eq_true, likeN_iff]
  intro hh
  rw [hh] at h
  exact h rfl
theorem likeNames_call (l m : List ByteArray) (hn : (l.length : Int) ≤ 9223372036854775807) : CallAt Tryz.prog w0 k 15 [(dL cS).enc l, (dL cS).enc m] H H (.bool (likeN l m)) := by
  refine callAt tabOk Spec.no_ok mixed Tryz.func15 rfl rfl Tryz.results15 Tryz.ntmps15 (by simp) [] ?_
  intro hfr t hl ht
  simp only [At, dL, Nat.reduceAdd] at ht
  simp (config := {contextual := true, maxSteps := 5000000}) only [go_sem, false_and, Nat.reduceAdd, Nat.reduceLT, Nat.reduceBEq, Nat.reduceSub, Nat.reduceMul, Nat.reduceLeDiff, Int.reduceToNat, Nat.reduceEqDiff, Nat.reduceMod, ht, hl]
  refine ⟨fun a => ?_, fun a => ?_⟩
  · simp only [bne_iff_ne, ne_eq] at a
    exact (likeN_len (by omega)).symm
  · simp only [bne_eq_false_iff_eq] at a
    refine loop_inv tabOk Spec.no_ok mixed [] (fun j x => ∃ i : Nat, x.tmps.length = 26 ∧ x.tmps.getD 0 AV.undef = .list .none (l.map cS.enc) ∧ x.tmps.getD 1 AV.undef = .list .none (m.map cS.enc) ∧ x.tmps.getD 12 AV.undef = .int .i64 l.length ∧ x.tmps.getD 13 AV.undef = .int .i64 i ∧ x.H = H ∧ i + j = l.length ∧ likeN (l.drop i) (m.drop i) = likeN l m) l.length ⟨0, ?_⟩ ?_
    · simp (config := {contextual := true, maxSteps := 5000000}) only [go_sem, false_and, Nat.reduceAdd, Nat.reduceLT, Nat.reduceBEq, Nat.reduceSub, Nat.reduceMul, Nat.reduceLeDiff, Int.reduceToNat, Nat.reduceEqDiff, Nat.reduceMod, ht, hl]
      exact ⟨rfl, by omega⟩
    · rintro j ⟨t, n, H2⟩ ⟨i, hl, h0, h1, h12, h13, rfl, hij, hgo⟩
      simp only at hl h0 h1 h12 h13
      by_cases hi : i < l.length
      · have hd : decide ((i : Int) < (l.length : Int)) = true := by simp [hi]
        have hw : IntKind.i64.wrap ((i : Int) + 1) = ((i + 1 : Nat) : Int) := by rw [wrap_i64] <;> omega
        obtain ⟨x, hx, hxe⟩ := str_get l hi
        obtain ⟨y, hy, hye⟩ := str_get m (show i < m.length by omega)
        have hdx : l.drop i = x :: l.drop (i + 1) := by
          obtain ⟨q1, q2⟩ := List.getElem?_eq_some_iff.1 hx
          rw [List.drop_eq_getElem_cons q1, q2]
        have hdy : m.drop i = y :: m.drop (i + 1) := by
          obtain ⟨q1, q2⟩ := List.getElem?_eq_some_iff.1 hy
          rw [List.drop_eq_getElem_cons q1, q2]
        rw [hdx, hdy, likeN] at hgo
        simp (config := {contextual := true, maxSteps := 5000000}) only [go_sem, false_and, Nat.reduceAdd, Nat.reduceLT, Nat.reduceBEq, Nat.reduceSub, Nat.reduceMul, Nat.reduceLeDiff, Int.reduceToNat, Nat.reduceEqDiff, Nat.reduceMod, h0, h1, h12, h13, hl, hd, hxe, hye, hw]
        refine ⟨by kernel_rfl, ⟨by omega, by omega⟩, ⟨by omega, by omega⟩, List.Pairwise.nil, fun e => ?_, fun e => ⟨j - 1, by omega, i + 1, rfl, by omega, ?_⟩⟩
        · simp only [Bool.not_eq_true'] at e
          rw [← hgo, e, Bool.false_and]
        · simp only [Bool.not_eq_false'] at e
          rw [← hgo, e, Bool.true_and]
      · have hd : decide ((i : Int) < (l.length : Int)) = false := by simp; omega
        simp (config := {contextual := true, maxSteps := 5000000}) only [go_sem, false_and, Nat.reduceAdd, Nat.reduceLT, Nat.reduceBEq, Nat.reduceSub, Nat.reduceMul, Nat.reduceLeDiff, Int.reduceToNat, Nat.reduceEqDiff, Nat.reduceMod, h0, h1, h12, h13, hl, hd]
        rw [← hgo, List.drop_of_length_le (by omega), List.drop_of_length_le (by omega)]
        rfl
def Step.like (a b : Step) : Bool := a.by_ == b.by_ && (a.a == b.a && (a.b == b.b && ((a.cite.toList == b.cite.toList) && a.says.like b.says)))
theorem Step.like_iff {a b : Step} : a.like b = true ↔ a = b := by
  unfold Step.like
  simp only [Bool.and_eq_true, eqS_iff, E.like_iff, beq_iff_eq]
  constructor
  · rintro ⟨h1, h2, h3, h4, h5⟩
    obtain ⟨a1, a2, a3, a4, a5⟩ := a
    obtain ⟨b1, b2, b3, b4, b5⟩ := b
    simp only at h1 h2 h3 h4 h5
    have h4 : a5 = b5 := eqS_iff.1 (by rw [h4]; simp)
    subst h1 h2 h3 h4 h5
    rfl
  · rintro rfl
    exact ⟨rfl, rfl, rfl, rfl, rfl⟩
def likeP : List Step → List Step → Bool
  | [], [] => true
  | a :: l, b :: m => a.like b && likeP l m
  | _, _ => false
theorem likeP_iff : ∀ {l m : List Step}, likeP l m = true ↔ l = m
  | [], [] => by simp [likeP]
  | [], b :: m => by simp [likeP]
  | a :: l, [] => by simp [likeP]
  | a :: l, b :: m => by
    rw [likeP, Bool.and_eq_true, Step.like_iff, likeP_iff]
    constructor
    · rintro ⟨rfl, rfl⟩; rfl
    · intro h; cases h; exact ⟨rfl, rfl⟩
theorem likeP_len {l m : List Step} (h : l.length ≠ m.length) : likeP l m = false := by
  rw [← Bool.not_eq_true, likeP_iff]
  intro hh
  rw [hh] at h
  exact h rfl
def specLs : Spec := Spec.no.add 14 (sp2 dE dE (fun a _ => a.ok) fun a b => .bool (a.like b))
theorem specLs_ok : SpecOk Tryz.prog w0 specLs := Spec.no_ok.add (sp2_ok fun a b h k H => like02_call a b h)
theorem likeSteps_call (l m : List Step) (hn : (l.length : Int) ≤ 9223372036854775807) (hok : ∀ s ∈ l, s.says.ok) : CallAt Tryz.prog w0 k 30 [(dL cStep).enc l, (dL cStep).enc m] H H (.bool (likeP l m)) := by
  refine callAt tabOk specLs_ok mixed Tryz.func30 rfl rfl Tryz.results30 Tryz.ntmps30 (by simp) [] ?_
  intro hfr t hl ht
  simp only [At, dL, Nat.reduceAdd] at ht
  simp (config := {contextual := true, maxSteps := 5000000}) only [go_sem, false_and, Nat.reduceAdd, Nat.reduceLT, Nat.reduceBEq, Nat.reduceSub, Nat.reduceMul, Nat.reduceLeDiff, Int.reduceToNat, Nat.reduceEqDiff, Nat.reduceMod, ht, hl]
  refine ⟨fun a => ?_, fun a => ?_⟩
  · simp only [bne_iff_ne, ne_eq] at a
    exact (likeP_len (by omega)).symm
  · simp only [bne_eq_false_iff_eq] at a
    refine loop_inv tabOk specLs_ok mixed [] (fun j x => ∃ i : Nat, x.tmps.length = 81 ∧ x.tmps.getD 0 AV.undef = .list .none (l.map cStep.enc) ∧ x.tmps.getD 1 AV.undef = .list .none (m.map cStep.enc) ∧ x.tmps.getD 12 AV.undef = .int .i64 l.length ∧ x.tmps.getD 13 AV.undef = .int .i64 i ∧ x.H = H ∧ i + j = l.length ∧ likeP (l.drop i) (m.drop i) = likeP l m) l.length ⟨0, ?_⟩ ?_
    · simp (config := {contextual := true, maxSteps := 5000000}) only [go_sem, false_and, Nat.reduceAdd, Nat.reduceLT, Nat.reduceBEq, Nat.reduceSub, Nat.reduceMul, Nat.reduceLeDiff, Int.reduceToNat, Nat.reduceEqDiff, Nat.reduceMod, ht, hl]
      exact ⟨rfl, by omega⟩
    · rintro j ⟨t, n, H2⟩ ⟨i, hl, h0, h1, h12, h13, rfl, hij, hgo⟩
      simp only at hl h0 h1 h12 h13
      by_cases hi : i < l.length
      · have hd : decide ((i : Int) < (l.length : Int)) = true := by simp [hi]
        have hw : IntKind.i64.wrap ((i : Int) + 1) = ((i + 1 : Nat) : Int) := by rw [wrap_i64] <;> omega
        obtain ⟨x, hx, hxe⟩ := step_get l hi
        obtain ⟨y, hy, hye⟩ := step_get m (show i < m.length by omega)
        have hxo := hok x (List.mem_of_getElem? hx)
        have hdx : l.drop i = x :: l.drop (i + 1) := by
          obtain ⟨q1, q2⟩ := List.getElem?_eq_some_iff.1 hx
          rw [List.drop_eq_getElem_cons q1, q2]
        have hdy : m.drop i = y :: m.drop (i + 1) := by
          obtain ⟨q1, q2⟩ := List.getElem?_eq_some_iff.1 hy
          rw [List.drop_eq_getElem_cons q1, q2]
        rw [hdx, hdy, likeP] at hgo
        have hno : Step.like x y = false → false = likeP l m := fun h => by rw [← hgo, h, Bool.false_and]
        have hyes : Step.like x y = true → likeP (l.drop (i + 1)) (m.drop (i + 1)) = likeP l m := fun h => by rw [← hgo, h, Bool.true_and]
        simp only [Step.cells] at hxe hye
        simp (config := {contextual := true, maxSteps := 5000000}) only [go_sem, false_and, Nat.reduceAdd, Nat.reduceLT, Nat.reduceBEq, Nat.reduceSub, Nat.reduceMul, Nat.reduceLeDiff, Int.reduceToNat, Nat.reduceEqDiff, Nat.reduceMod, h0, h1, h12, h13, hl, hd, hxe, hye, hw, specLs, toE_at, hxo]
        have n1 : (x.by_ != y.by_) = true → false = likeP l m := fun h => hno (by simp [Step.like, show (x.by_ == y.by_) = false by simpa using h])
        have n2 : (x.a != y.a) = true → false = likeP l m := fun h => hno (by simp [Step.like, show (x.a == y.a) = false by simpa using h])
        have n3 : (x.b != y.b) = true → false = likeP l m := fun h => hno (by simp [Step.like, show (x.b == y.b) = false by simpa using h])
        have n4 : (!x.cite.toList == y.cite.toList) = true → false = likeP l m := fun h => hno (by rw [Step.like, show (x.cite.toList == y.cite.toList) = false by simpa using h]; simp)
        have n5 : (!x.says.like y.says) = true → false = likeP l m := fun h => hno (by rw [Step.like, show x.says.like y.says = false by simpa using h]; simp)
        have yes : (x.by_ != y.by_) = false → (x.a != y.a) = false → (x.b != y.b) = false → (!x.cite.toList == y.cite.toList) = false → (!x.says.like y.says) = false → likeP (l.drop (i + 1)) (m.drop (i + 1)) = likeP l m := fun h1 h2 h3 h4 h5 => hyes (by
          rw [Step.like, show x.says.like y.says = true by simpa using h5, show (x.cite.toList == y.cite.toList) = true by simpa using h4, show (x.b == y.b) = true by simpa using h3, show (x.a == y.a) = true by simpa using h2, show (x.by_ == y.by_) = true by simpa using h1]
          rfl)
        have bi : (0 : Int) ≤ (i : Int) ∧ (i : Int) < (l.length : Int) := by omega
        have bj : (0 : Int) ≤ (i : Int) ∧ (i : Int) < (m.length : Int) := by omega
        exact ⟨by kernel_rfl, bi, bj, fun h1 => ⟨bi, bj, fun h2 => ⟨bi, bj, fun h3 => ⟨bi, bj, fun h4 => ⟨bi, bj, List.Pairwise.nil, n5, fun h5 => ⟨j - 1, by omega, i + 1, rfl, by omega, yes h1 h2 h3 h4 h5⟩⟩, fun h => ⟨List.Pairwise.nil, n4 h⟩⟩, fun h => ⟨List.Pairwise.nil, n3 h⟩⟩, fun h => ⟨List.Pairwise.nil, n2 h⟩⟩, fun h => ⟨List.Pairwise.nil, n1 h⟩⟩
      · have hd : decide ((i : Int) < (l.length : Int)) = false := by simp; omega
        simp (config := {contextual := true, maxSteps := 5000000}) only [go_sem, false_and, Nat.reduceAdd, Nat.reduceLT, Nat.reduceBEq, Nat.reduceSub, Nat.reduceMul, Nat.reduceLeDiff, Int.reduceToNat, Nat.reduceEqDiff, Nat.reduceMod, h0, h1, h12, h13, hl, hd]
        rw [← hgo, List.drop_of_length_le (by omega), List.drop_of_length_le (by omega)]
        rfl
def U.like (a b : U) : Bool := likeN a.cites b.cites && (a.states.like b.states && likeP a.steps b.steps)
theorem U.like_iff {a b : U} : a.like b = true ↔ a = b := by
  unfold U.like
  rw [Bool.and_eq_true, Bool.and_eq_true, likeN_iff, E.like_iff, likeP_iff]
  constructor
  · rintro ⟨h1, h2, h3⟩
    obtain ⟨a1, a2, a3⟩ := a
    obtain ⟨b1, b2, b3⟩ := b
    simp only at h1 h2 h3
    subst h1 h2 h3
    rfl
  · rintro rfl
    exact ⟨rfl, rfl, rfl⟩
def specLu : Spec := ((Spec.no.add 14 (sp2 dE dE (fun a _ => a.ok) fun a b => .bool (a.like b))).add 15 (sp2 (dL cS) (dL cS) (fun l _ => (l.length : Int) ≤ 9223372036854775807) fun l m => .bool (likeN l m))).add 30 (sp2 (dL cStep) (dL cStep) (fun l _ => (l.length : Int) ≤ 9223372036854775807 ∧ ∀ s ∈ l, s.says.ok) fun l m => .bool (likeP l m))
theorem specLu_ok : SpecOk Tryz.prog w0 specLu := ((Spec.no_ok.add (sp2_ok fun a b h k H => like02_call a b h)).add (sp2_ok fun l m h k H => likeNames_call l m h)).add (sp2_ok fun l m h k H => likeSteps_call l m h.1 h.2)
theorem like09_call (a b : U) (hok : a.ok) : CallAt Tryz.prog w0 k 10 [(dA cU).enc a, (dA cU).enc b] H H (.bool (a.like b)) := by
  refine callAt tabOk specLu_ok mixed Tryz.func10 rfl rfl Tryz.results10 Tryz.ntmps10 (by simp) [] ?_
  intro hfr t hl ht
  simp only [At, dA, cU, U.cells, Nat.reduceAdd] at ht
  obtain ⟨o1, o2, o3, o4⟩ := hok
  simp (config := {contextual := true, maxSteps := 5000000}) only [go_sem, false_and, Nat.reduceAdd, Nat.reduceLT, Nat.reduceBEq, Nat.reduceSub, Nat.reduceMul, Nat.reduceLeDiff, Int.reduceToNat, Nat.reduceEqDiff, Nat.reduceMod, ht, hl, specLu, toE_at]
  exact ⟨o1, fun x => ⟨o3, fun y => ⟨⟨o2, o4⟩, by rw [U.like, x, y]; rfl⟩, fun y => by rw [U.like, x, y]; rfl⟩, fun x => by rw [U.like, x]; rfl⟩
end Go.Proofs.YtkdendaohlnlcaaGreatDoor.Av

/- A step's line read back. Plain. No condition. -/
namespace Go.Proofs.YtkdendaohlnlcaaGreatDoor.Av
set_option linter.unusedVariables false
set_option linter.unusedSimpArgs false
set_option maxRecDepth 4000
set_option maxHeartbeats 1000000
/-- A formula's text with a space behind it is read as it. -/
theorem fmRes_sp {e : E} (h0 : e.right = 0) (ht : e.term = false) (hl : e.txt.length ≤ 7999) : fmRes (T (e.txt ++ [32])) = .ok e := by
  have hs := right_sh h0
  obtain ⟨h1, h2, h3⟩ := lx_of hs
  obtain ⟨l, h4, h5⟩ := tkGo_lx (e.lx ++ [.sp]) [] [] (fun x hx => by
    rcases List.mem_append.1 hx with h | h
    · exact h3 x h
    · simp at h
      subst h
      trivial)
  have hb : lxB (e.lx ++ [.sp]) = e.txt ++ [32] := by rw [lxB_app, ← h1]; rfl
  have hsg : lxS (e.lx ++ [.sp]) = e.sig := by rw [lxS_app, h2]; simp [lxS, Lx.sig]
  have h6 : toks (T (e.txt ++ [32])) = .ok l := by
    rw [toks, if_neg (by rw [T_size]; simp; omega), ← hb]
    exact h4
  rw [hsg] at h5
  have hg : Seg l 0 e.sig := Seg.of_map (by rw [List.drop_zero]; exact h5)
  have hlen : l.length = e.sig.length := by rw [← h5, List.length_map]
  have hf := fm_rt l (l.length + 1) e 0 (Nat.zero_le _) hs ht (by omega) hg (by
    unfold sgn
    rw [List.getElem?_eq_none (by omega)])
  rw [fmRes, h6]
  show wholeR (T (e.txt ++ [32])) l (fmF l (l.length + 1) 0) = _
  rw [hf, wholeR, if_neg (by omega), if_pos h0]
theorem fmU_sp {e : E} (h : e.written = 0) (hl : e.txt.length ≤ 7999) : fmU (T (e.txt ++ [32])) = (e, 0) := by
  obtain ⟨h0, _, _, ht⟩ := written_zero h
  rw [fmU, fmRes_sp h0 ht hl]
  simp [h]
/-- The words of a reason. -/
def Step.words (s : Step) : List (List UInt8) :=
  if s.by_ = 1 then [[97, 120, 105, 111, 109], Lib.itoa s.a]
  else if s.by_ = 2 then [[100, 101, 116, 97, 99, 104], Lib.itoa s.a, Lib.itoa s.b]
  else if s.by_ = 3 then [[103, 101, 110], Lib.itoa s.a, [120] ++ Lib.itoa s.b]
  else [[99, 105, 116, 101], L s.cite]
theorem itoa_sp {n : Int} (h : 0 ≤ n) : ∀ b ∈ Lib.itoa n, b ≠ 32 := by
  rw [itoa_dec h]
  exact fun b hb => (dec_plain hb).2
theorem words_cut {s : Step} (hf : s.fine = true) (hn : s.by_ = 4 → ∀ b ∈ L s.cite, b ≠ 32) : cutU 32 s.txt = s.words := by
  obtain ⟨hk, ha, _, hb, _⟩ := fine_nums hf
  have h1 := itoa_sp ha
  have h2 := itoa_sp hb
  unfold Step.txt Step.words
  rcases hk with hk | hk | hk | hk
  · rw [if_pos hk, if_pos hk]
    show cutU 32 ([97, 120, 105, 111, 109] ++ 32 :: Lib.itoa s.a) = _
    rw [cutU_hit (by decide), cutU_miss h1]
  · rw [if_neg (by omega), if_pos hk, if_neg (by omega), if_pos hk]
    have e : ([100, 101, 116, 97, 99, 104, 32] : List UInt8) ++ Lib.itoa s.a ++ [32] ++ Lib.itoa s.b = [100, 101, 116, 97, 99, 104] ++ 32 :: (Lib.itoa s.a ++ 32 :: Lib.itoa s.b) := by simp
    rw [e, cutU_hit (by decide), cutU_hit h1, cutU_miss h2]
  · rw [if_neg (by omega), if_neg (by omega), if_pos hk, if_neg (by omega), if_neg (by omega), if_pos hk]
    have e : ([103, 101, 110, 32] : List UInt8) ++ Lib.itoa s.a ++ [32, 120] ++ Lib.itoa s.b = [103, 101, 110] ++ 32 :: (Lib.itoa s.a ++ 32 :: ([120] ++ Lib.itoa s.b)) := by simp
    rw [e, cutU_hit (by decide), cutU_hit h1, cutU_miss (fun b hb => by
      rcases List.mem_append.1 hb with h | h
      · simp at h
        subst h
        decide
      · exact h2 b h)]
  · rw [if_neg (by omega), if_neg (by omega), if_neg (by omega), if_neg (by omega), if_neg (by omega), if_neg (by omega)]
    show cutU 32 ([99, 105, 116, 101] ++ 32 :: L s.cite) = _
    rw [cutU_hit (by decide), cutU_miss (hn hk)]
theorem decI_itoa {n : Int} (h : 0 ≤ n) (h2 : n ≤ 999999999) : decI (T (Lib.itoa n)) = n := by
  rw [itoa_dec h, decI_dec (by omega)]
  omega
theorem eqS_T (l : List UInt8) : eqS (T l) ⟨l.toArray⟩ = true := by simp [eqS]
theorem e0_eq {s : ByteArray} (h : e0 s = true) : s = ⟨#[]⟩ := eqS_iff.1 h
theorem rdW_words {s : Step} (hf : s.fine = true) : rdW (s.words.map T) = (⟨noE, s.by_, s.a, s.b, s.cite⟩, true) := by
  obtain ⟨hk, ha, ha2, hb, hb2⟩ := fine_nums hf
  have h1 := decI_itoa ha ha2
  have h2 := decI_itoa hb hb2
  obtain ⟨says, by_, a, b, cite⟩ := s
  simp only at *
  unfold Step.fine at hf
  unfold Step.words
  rcases hk with rfl | rfl | rfl | rfl
  · simp only [if_true, Bool.and_eq_true, beq_iff_eq] at hf
    obtain ⟨_, rfl, hc⟩ := hf
    obtain rfl := e0_eq hc
    rw [if_pos rfl]
    show rdW [T [97, 120, 105, 111, 109], T (Lib.itoa a)] = _
    rw [rdW, if_pos (eqS_T [97, 120, 105, 111, 109]), h1]
    simp [ha]
  · rw [if_neg (by simp), if_pos rfl] at hf
    simp only [Bool.and_eq_true] at hf
    obtain rfl := e0_eq hf.2.2
    rw [if_neg (by simp), if_pos rfl]
    show rdW [T [100, 101, 116, 97, 99, 104], T (Lib.itoa a), T (Lib.itoa b)] = _
    rw [rdW, if_pos (eqS_T [100, 101, 116, 97, 99, 104]), h1, h2]
    simp [ha, hb]
  · rw [if_neg (by simp), if_neg (by simp), if_pos rfl] at hf
    simp only [Bool.and_eq_true, decide_eq_true_eq] at hf
    obtain rfl := e0_eq hf.2.2.2
    rw [if_neg (by simp), if_neg (by simp), if_pos rfl]
    show rdW [T [103, 101, 110], T (Lib.itoa a), T ([120] ++ Lib.itoa b)] = _
    have e1 : (T ([120] ++ Lib.itoa b)).extract 1 (T ([120] ++ Lib.itoa b)).size = T (Lib.itoa b) := ext_T [120] _
    have e2 : byteAt (T ([120] ++ Lib.itoa b)) 0 = 120 := byteAt_at [] _ 120
    have e3 : 0 < (T ([120] ++ Lib.itoa b)).size := by rw [T_size]; simp
    have n1 : ¬ (eqS (T [103, 101, 110]) ⟨#[100, 101, 116, 97, 99, 104]⟩ = true) := by
      intro h
      have := eqS_iff.1 h
      simp at this
    rw [rdW, if_neg n1, if_pos ⟨eqS_T [103, 101, 110], e3, e2⟩, e1, h1, h2]
    simp [ha, hb, hf.2.2.1]
  · rw [if_neg (by simp), if_neg (by simp), if_neg (by simp), if_pos rfl] at hf
    simp only [Bool.and_eq_true, beq_iff_eq] at hf
    obtain ⟨rfl, rfl⟩ := hf
    rw [if_neg (by simp), if_neg (by simp), if_neg (by simp)]
    show rdW [T [99, 105, 116, 101], T (L cite)] = _
    have n1 : ¬ (eqS (T [99, 105, 116, 101]) ⟨#[97, 120, 105, 111, 109]⟩ = true) := by
      intro h
      have := eqS_iff.1 h
      simp at this
    rw [rdW, if_neg n1, if_pos (eqS_T [99, 105, 116, 101])]
    rfl
def Step.body (n : Int) (s : Step) : List UInt8 := Lib.itoa n ++ [32] ++ s.says.txt ++ [32, 58, 32] ++ s.txt
theorem name_sp {s : ByteArray} (h : isName s = true) : ∀ b ∈ L s, b ≠ 32 ∧ b ≠ 10 ∧ b ≠ 58 := by
  intro b hb
  obtain ⟨i, hi⟩ := List.mem_iff_getElem?.1 hb
  have hi2 : i < s.size := by
    have h1 : (L s).length = s.size := by rw [L, Array.length_toList]; rfl
    have := (List.getElem?_eq_some_iff.1 hi).1
    omega
  have h1 := ((isName_iff s).1 h).2.2.2 i hi2
  have h2 := byteAt_T (l := L s) hi
  rw [T_L] at h2
  rw [h2, okc_iff] at h1
  refine ⟨?_, ?_, ?_⟩ <;> intro e <;> rw [e] at h1 <;> simp at h1
theorem stepR_rt {s : Step} {n : Int} (h0 : 0 ≤ n) (hn : n ≤ 60) (hw : s.why = 0) (hs : s.says.written = 0) (hl : s.says.txt.length ≤ 7999) : stepR (T (s.body n)) n = (s, 0) := by
  obtain ⟨hf, hname⟩ := why_zero hw
  obtain ⟨hr, _⟩ := written_zero hs
  have hp := txt_plain (right_sh hr)
  obtain ⟨P, hP⟩ : ∃ P, P = (Lib.itoa n ++ [32]) ++ (s.says.txt ++ [32]) := ⟨_, rfl⟩
  have hb : s.body n = P ++ 58 :: ([32] ++ s.txt) := by rw [hP, Step.body]; simp
  have h58 : ∀ b ∈ P, b ≠ 58 := by
    intro b hb
    rw [hP] at hb
    simp only [List.mem_append, List.mem_singleton] at hb
    rcases hb with (h | rfl) | h | rfl
    · rw [itoa_dec h0] at h
      exact (dec_plain h).1.2
    · decide
    · exact (hp b h).2
    · decide
  have hc : fstC (T (P ++ 58 :: ([32] ++ s.txt))) 58 = P.length := fstC_T h58
  have hpre : (T (P ++ 58 :: ([32] ++ s.txt))).extract 0 P.length = T P := pre_T P _
  have hsuf : (T (P ++ 58 :: ([32] ++ s.txt))).extract (P.length + 1) (T (P ++ 58 :: ([32] ++ s.txt))).size = T ([32] ++ s.txt) := T_drop P _ 58
  have hb1 : beg (T P) (numT n) = true := by rw [hP]; exact beg_T _ _
  have hb2 : beg (T ([32] ++ s.txt)) ⟨#[32]⟩ = true := beg_T [32] _
  have he1 : (T P).extract (numT n).size (T P).size = T (s.says.txt ++ [32]) := by
    have : (numT n).size = (Lib.itoa n ++ [32]).length := T_size _
    rw [this, hP]
    exact ext_T _ _
  have he2 : (T ([32] ++ s.txt)).extract 1 (T ([32] ++ s.txt)).size = T s.txt := ext_T [32] _
  have hcut : cutC (T s.txt) 32 = s.words.map T := by
    rw [show (32 : Int) = ((32 : UInt8).toNat : Int) from rfl, cutC_T, words_cut hf fun h4 b hb => (name_sp (hname h4) b hb).1]
  rw [hb, stepR, if_neg (by omega), hc, if_pos (by rw [T_size]; simp), hpre, hsuf, hb1, hb2, he1, he2, hcut, rdW_words hf, fmU_sp hs hl]
  simp only [Bool.and_self, if_true]
  rw [stepF, if_neg (by simp), if_neg (by
    rintro ⟨h4, h5⟩
    rw [hname h4] at h5
    cases h5)]
end Go.Proofs.YtkdendaohlnlcaaGreatDoor.Av

/- A formula's text is short; a unit's text read back. Plain. No condition. -/
namespace Go.Proofs.YtkdendaohlnlcaaGreatDoor.Av
set_option linter.unusedVariables false
set_option linter.unusedSimpArgs false
set_option maxRecDepth 4000
set_option maxHeartbeats 1000000
theorem txt_short : ∀ (N : Nat) (e : E), e.sz < N → e.sh = true → e.txt.length + 2 ≤ 8 * e.sz
  | 0, e, h, _ => by omega
  | N + 1, .mk k i ks, hN, hs => by
    have hk := E.sh_kind hs
    have ih : ∀ x ∈ ks, x.txt.length + 2 ≤ 8 * x.sz := fun x hx => by
      obtain ⟨j, hj⟩ := List.mem_iff_getElem?.1 hx
      refine txt_short N x ?_ (E.sh_kid (e := .mk k i ks) hs hj)
      have := E.kid_sz (e := .mk k i ks) hj
      omega
    simp only [E.kind, E.kids, E.id] at hk
    obtain ⟨hk0, hi0, hi9, hsh, hl4, h2, h1, h0⟩ := hk
    have hil : (Lib.itoa i).length ≤ 2 := by rw [itoa_dec hi0]; exact dec_len 1 _ (by omega)
    rw [E.txt_mk]
    simp only [E.sz]
    have c : k = 1 ∨ (k = 2 ∨ k = 3) ∨ k = 4 ∨ k = 5 ∨ (k = 7 ∨ k = 10) ∨ (k = 6 ∨ k = 8 ∨ k = 9) := by omega
    rcases c with rfl | c | rfl | rfl | c | c
    · simp [txtK]
      omega
    · have hk1 : k ≠ 1 := by omega
      unfold txtK
      rw [if_neg hk1, if_pos c]
      have h3 : (if k = 3 then ([80] : List UInt8) else [102]).length = 1 := by split <;> rfl
      match ks, hl4, ih with
      | [], _, _ =>
        simp only [List.map_nil, List.length_append, h3, List.length_nil, txtP, E.szL, if_true]
        omega
      | [a], _, ih =>
        have := ih a (by simp)
        simp [txtP, E.szL, h3]
        omega
      | [a, b], _, ih =>
        have := ih a (by simp)
        have := ih b (by simp)
        simp [txtP, E.szL, h3]
        omega
      | [a, b, d], _, ih =>
        have := ih a (by simp)
        have := ih b (by simp)
        have := ih d (by simp)
        simp [txtP, E.szL, h3]
        omega
      | [a, b, d, g], _, ih =>
        have := ih a (by simp)
        have := ih b (by simp)
        have := ih d (by simp)
        have := ih g (by simp)
        simp [txtP, E.szL, h3]
        omega
    · obtain ⟨a, b, rfl⟩ := list_two (h2 (.inl rfl))
      have := ih a (by simp)
      have := ih b (by simp)
      simp [txtK, E.szL]
      omega
    · obtain ⟨a, rfl⟩ := list_one (h1 (.inl rfl))
      have := ih a (by simp)
      simp [txtK, E.szL]
      omega
    · obtain ⟨a, rfl⟩ := list_one (h1 (.inr c))
      have := ih a (by simp)
      rcases c with rfl | rfl <;> simp [txtK, E.szL] <;> omega
    · obtain ⟨a, b, rfl⟩ := list_two (h2 (by omega))
      have := ih a (by simp)
      have := ih b (by simp)
      rcases c with rfl | rfl | rfl <;> simp [txtK, E.szL] <;> omega
theorem E.txt_le {e : E} (h : e.written = 0) : e.txt.length ≤ 2400 := by
  obtain ⟨h0, h1, _⟩ := written_zero h
  have := txt_short _ e (Nat.lt_succ_self _) (right_sh h0)
  omega
def bodies (n : Nat) : List Step → List (List UInt8)
  | [] => []
  | s :: r => s.body n :: bodies (n + 1) r
theorem bodies_app : ∀ (a b : List Step) (n : Nat), bodies n (a ++ b) = bodies n a ++ bodies (n + a.length) b
  | [], b, n => by simp [bodies]
  | x :: a, b, n => by
    simp only [List.cons_append, bodies, bodies_app a b (n + 1), List.length_cons]
    rw [show n + 1 + a.length = n + (a.length + 1) by omega]
theorem stepsR_rt : ∀ (l : List Step) (n : Nat) (acc : List Step), (∀ s ∈ l, s.why = 0 ∧ s.says.written = 0) → n + l.length ≤ 61 → stepsR ((bodies n l).map T) (n + 1) acc = (acc ++ l, 0, 0)
  | [], n, acc, _, _ => by simp [bodies, stepsR]
  | s :: l, n, acc, h, hn => by
    simp only [List.length_cons] at hn
    obtain ⟨h1, h2⟩ := h s (by simp)
    have hr := stepR_rt (n := (n : Int)) (by omega) (by omega) h1 h2 (by have := E.txt_le h2; omega)
    have ih := stepsR_rt l (n + 1) (acc ++ [s]) (fun x hx => h x (by simp [hx])) (by omega)
    rw [bodies, List.map_cons, stepsR, show (((n + 1 : Nat) : Int) - 1) = (n : Int) by omega, hr, if_pos rfl, ih]
    simp
theorem upTo_bodies (l : List Step) : ∀ i, i ≤ l.length → upTo Step.line l i = ((bodies 1 (l.take i)).map fun x => x ++ [10]).flatten
  | 0, _ => by simp [upTo, bodies]
  | i + 1, h => by
    have hx : l[i]? = some l[i] := by rw [List.getElem?_eq_getElem]
    rw [upTo_succ hx, upTo_bodies l i (by omega), List.take_add_one, hx, Option.toList_some, bodies_app, List.map_append, List.flatten_append]
    have e : 1 + (l.take i).length = i + 1 := by rw [List.length_take]; omega
    rw [e]
    simp [bodies, Step.line, Step.body]
theorem cutU_words {c : UInt8} : ∀ (xs : List (List UInt8)) (x : List UInt8), (∀ l ∈ x :: xs, ∀ b ∈ l, b ≠ c) → cutU c (x ++ (xs.map fun y => c :: y).flatten) = x :: xs
  | [], x, h => by
    rw [List.map_nil, List.flatten_nil, List.append_nil, cutU_miss (h x (by simp))]
  | y :: xs, x, h => by
    rw [List.map_cons, List.flatten_cons, List.cons_append, cutU_hit (h x (by simp)), cutU_words xs y fun l hl => h l (by simp only [List.mem_cons] at hl ⊢; exact .inr hl)]
theorem names_flat (u : U) : u.names u.cites.length = [99, 105, 116, 101, 115] ++ (u.cites.map fun n => 32 :: L n).flatten := by
  rw [U.names, upTo_flat, List.take_length]
  rfl
theorem citR_rt {u : U} (h0 : namesGo [] u.cites = 0) : citR (T (u.names u.cites.length)) = (u.cites, 0) := by
  have hn := (namesGo_zero u.cites [] h0).2
  rw [names_flat]
  have hb : beg (T ([99, 105, 116, 101, 115] ++ (u.cites.map fun n => 32 :: L n).flatten)) ⟨#[99, 105, 116, 101, 115]⟩ = true := beg_T _ _
  have he : (T ([99, 105, 116, 101, 115] ++ (u.cites.map fun n => 32 :: L n).flatten)).extract 5 (T ([99, 105, 116, 101, 115] ++ (u.cites.map fun n => 32 :: L n).flatten)).size = T (u.cites.map fun n => 32 :: L n).flatten := ext_T [99, 105, 116, 101, 115] _
  rw [citR, hb, he, if_neg (by simp)]
  cases hc : u.cites with
  | nil =>
    rw [if_pos (by unfold e0; simp)]
  | cons x xs =>
    rw [hc] at hn h0
    rw [List.map_cons, List.flatten_cons, List.cons_append]
    have h1 : e0 (T (32 :: (L x ++ (xs.map fun n => 32 :: L n).flatten))) = false := by
      rw [← Bool.not_eq_true]
      intro h
      have := e0_size h
      rw [T_size] at this
      simp at this
    have h2 : byteAt (T (32 :: (L x ++ (xs.map fun n => 32 :: L n).flatten))) 0 = 32 := byteAt_at [] _ 32
    have h3 : (T (32 :: (L x ++ (xs.map fun n => 32 :: L n).flatten))).extract 1 (T (32 :: (L x ++ (xs.map fun n => 32 :: L n).flatten))).size = T (L x ++ (xs.map fun n => 32 :: L n).flatten) := ext_T [32] _
    have h4 : cutC (T (L x ++ (xs.map fun n => 32 :: L n).flatten)) 32 = x :: xs := by
      have e : (xs.map fun n => (32 : UInt8) :: L n) = (xs.map L).map fun y => 32 :: y := by rw [List.map_map]; rfl
      rw [show (32 : Int) = ((32 : UInt8).toNat : Int) from rfl, cutC_T, e, cutU_words (xs.map L) (L x) (fun l hl b hb => by
        rw [← List.map_cons] at hl
        obtain ⟨y, hy, rfl⟩ := List.mem_map.1 hl
        exact (name_sp (hn y hy) b hb).1), ← List.map_cons, List.map_map]
      exact List.map_id _
    rw [if_neg (by simp [h1]), if_pos h2, h3, h4, h0]
theorem itoa_ten {n : Int} (h : 0 ≤ n) : ∀ b ∈ Lib.itoa n, b ≠ 10 := by
  rw [itoa_dec h]
  exact fun b hb => (dec_plain hb).1.1
theorem reason_ten {s : Step} (h : s.why = 0) : ∀ b ∈ s.txt, b ≠ 10 := by
  obtain ⟨hf, hname⟩ := why_zero h
  obtain ⟨hk, ha, _, hb, _⟩ := fine_nums hf
  have h1 := itoa_ten ha
  have h2 := itoa_ten hb
  intro b hb
  unfold Step.txt at hb
  rcases hk with hk | hk | hk | hk
  · rw [if_pos hk] at hb
    rcases List.mem_append.1 hb with h | h
    · intro e; subst e; revert h; decide
    · exact h1 b h
  · rw [if_neg (by omega), if_pos hk] at hb
    simp only [List.mem_append] at hb
    rcases hb with ((h | h) | h) | h
    · intro e; subst e; revert h; decide
    · exact h1 b h
    · intro e; subst e; revert h; decide
    · exact h2 b h
  · rw [if_neg (by omega), if_neg (by omega), if_pos hk] at hb
    simp only [List.mem_append] at hb
    rcases hb with ((h | h) | h) | h
    · intro e; subst e; revert h; decide
    · exact h1 b h
    · intro e; subst e; revert h; decide
    · exact h2 b h
  · rw [if_neg (by omega), if_neg (by omega), if_neg (by omega)] at hb
    rcases List.mem_append.1 hb with h | h
    · intro e; subst e; revert h; decide
    · exact (name_sp (hname hk) b h).2.1
theorem bodies_ten : ∀ (l : List Step) (n : Nat), (∀ s ∈ l, s.why = 0 ∧ s.says.written = 0) → ∀ x ∈ bodies n l, ∀ b ∈ x, b ≠ 10
  | [], n, _, x, hx => by simp [bodies] at hx
  | s :: l, n, h, x, hx => by
    rcases List.mem_cons.1 hx with rfl | hx
    · obtain ⟨h1, h2⟩ := h s (by simp)
      intro b hb
      unfold Step.body at hb
      simp only [List.mem_append] at hb
      rcases hb with (((h | h) | h) | h) | h
      · exact itoa_ten (by omega) b h
      · intro e; subst e; revert h; decide
      · exact (txt_plain (right_sh (written_zero h2).1) b h).1
      · intro e; subst e; revert h; decide
      · exact reason_ten h1 b h
    · exact bodies_ten l (n + 1) (fun y hy => h y (by simp [hy])) x hx
/-- What is printed is read as the same unit. -/
theorem parseR_rt {u : U} (h : u.printE = 0) : parseR (T u.txt) = .ok u := by
  have hr : u.right = 0 := by
    unfold U.printE at h
    split at h
    · assumption
    · exact h
  have hlen : ¬ 20000 < u.txt.length := by
    unfold U.printE at h
    rw [if_pos hr] at h
    split at h
    · cases h
    · assumption
  have hn : namesGo [] u.cites = 0 ∧ u.states.written = 0 ∧ u.steps.length ≠ 0 ∧ stepsGo 0 u.steps = 0 := by
    unfold U.right at hr
    (repeat' split at hr) <;> simp_all
  obtain ⟨hn0, hw, hne, hst⟩ := hn
  obtain ⟨hs1, hs2⟩ := stepsGo_zero u.steps 0 hst
  have htx : u.txt = (((u.names u.cites.length) :: ([115, 116, 97, 116, 101, 115, 32] ++ u.states.txt) :: bodies 1 u.steps).map fun x => x ++ [10]).flatten := by
    rw [U.txt, U.part, upTo_bodies u.steps _ (Nat.le_refl _), List.take_length, U.head]
    simp
  have hno : ∀ l ∈ (u.names u.cites.length) :: ([115, 116, 97, 116, 101, 115, 32] ++ u.states.txt) :: bodies 1 u.steps, ∀ b ∈ l, b ≠ 10 := by
    intro l hl b hb
    rcases List.mem_cons.1 hl with rfl | hl
    · rw [names_flat] at hb
      rcases List.mem_append.1 hb with h | h
      · intro e; subst e; revert h; decide
      · obtain ⟨y, hy, hby⟩ := List.mem_flatten.1 h
        obtain ⟨z, hz, rfl⟩ := List.mem_map.1 hy
        rcases List.mem_cons.1 hby with rfl | hby
        · decide
        · exact (name_sp ((namesGo_zero u.cites [] hn0).2 z hz) b hby).2.1
    · rcases List.mem_cons.1 hl with rfl | hl
      · rcases List.mem_append.1 hb with h | h
        · intro e; subst e; revert h; decide
        · exact (txt_plain (right_sh (written_zero hw).1) b h).1
      · exact bodies_ten u.steps 1 hs2 l hl b hb
  have hb1 : beg (T ([115, 116, 97, 116, 101, 115, 32] ++ u.states.txt)) statesB = true := beg_T [115, 116, 97, 116, 101, 115, 32] _
  have he1 : (T ([115, 116, 97, 116, 101, 115, 32] ++ u.states.txt)).extract 7 (T ([115, 116, 97, 116, 101, 115, 32] ++ u.states.txt)).size = T u.states.txt := ext_T [115, 116, 97, 116, 101, 115, 32] _
  have hf := fmU_rt hw (written_zero hw).2.2.2 (by have := E.txt_le hw; omega)
  have hsr := stepsR_rt u.steps 1 [] hs2 (by
    rcases hs1 with h | h
    · rw [h] at hne
      exact absurd rfl hne
    · omega)
  rw [parseR, if_neg (by rw [T_size]; exact hlen), htx, linesOf_T hno]
  simp only [List.map_cons]
  rw [parseL, parse1, citR_rt hn0]
  cases hu : u.steps with
  | nil =>
    rw [hu] at hne
    exact absurd rfl hne
  | cons s r =>
    rw [hu] at hsr
    simp only [bodies, List.map_cons] at hsr ⊢
    simp only [if_true]
    rw [parse2, hb1, he1, hf]
    simp only [if_true, Bool.true_eq_false, if_false]
    rw [hsr, parse3]
    simp only [if_true, List.nil_append, ← hu]
end Go.Proofs.YtkdendaohlnlcaaGreatDoor.Av

/- What the functions of layer 8 answer: the reference's unfolding. No condition. -/
namespace Go.Proofs.YtkdendaohlnlcaaGreatDoor.Av
set_option linter.unusedVariables false
set_option linter.unusedSimpArgs false
set_option maxRecDepth 4000
set_option maxHeartbeats 1000000
variable {w0 : Base} {k : List Nat} {H : Hp}
def specNr : Spec := ((Spec.no.add 97 (sp1 dE (fun _ => True) fun e => (nt e).av)).add 98 (sp2 dE dE (fun _ _ => True) fun a b => (im a b).av)).add 99 (sp2 dI dE (fun _ _ => True) fun n a => (al n a).av)
theorem specNr_ok : SpecOk Tryz.prog w0 specNr := ((Spec.no_ok.add (sp1_ok fun e _ k H => not07_call e)).add (sp2_ok fun a b _ k H => imp07_call a b)).add (sp2_ok fun n a _ k H => all07_call n a)
def specUn (N : Nat) : Spec := specNr.add 63 (sp1 dE (fun e => e.sh = true ∧ e.sz < N) fun e => e.unf.av)
theorem unfolded_step (N : Nat) (hS : SpecOk Tryz.prog w0 (specUn N)) (e : E) (hs : e.sh = true) (hN : e.sz < N + 1) : CallAt Tryz.prog w0 k 63 [e.av] H H e.unf.av := by
  refine callAt tabOk hS mixed Tryz.func63 rfl rfl Tryz.results63 Tryz.ntmps63 (by simp) [] ?_
  intro hfr t hl ht
  simp only [At, Nat.reduceAdd, List.cons_append, List.nil_append] at ht
  have fN : ∀ (a b : Nat) z ty, H ⟨z, a :: b :: k, ty⟩ = none := fun a b z ty => hfr _ (sfx2 _ _ _)
  have h4 := E.loc_len (E.sh_loc hs)
  simp (config := {contextual := true, maxSteps := 5000000}) only [go_sem, false_and, Nat.reduceAdd, Nat.reduceLT, Nat.reduceBEq, Nat.reduceSub, Nat.reduceMul, Nat.reduceLeDiff, Int.reduceToNat, Nat.reduceEqDiff, Nat.reduceMod, ht, hl]
  refine loop_inv tabOk hS mixed [] (fun j x => ∃ (i : Nat) (tk : Tok), x.tmps.length = 67 ∧ x.tmps.getD 1 AV.undef = .sptr [.int .i64 e.kind, .int .i64 e.id, .list .none (e.kids.map E.cells)] ∧ x.tmps.getD 2 AV.undef = .ptr ⟨3, 1 :: 0 :: k, 25⟩ 0 ∧ x.tmps.getD 3 AV.undef = .ptr ⟨3, 5 :: 1 :: k, 25⟩ 0 ∧ x.tmps.getD 13 AV.undef = .list .none (e.kids.map E.cells) ∧ x.tmps.getD 14 AV.undef = .int .i64 e.kids.length ∧ x.tmps.getD 15 AV.undef = .int .i64 i ∧
    x.H ⟨3, 5 :: 1 :: k, 25⟩ = some (.cells [.int .i64 e.kind, .int .i64 e.id, .list tk ((e.kids.take i).map fun x => x.unf.cells)]) ∧ LstK (H.upd ⟨3, 1 :: 0 :: k, 25⟩ (some (.cells [.int .i64 0, .int .i64 0, .list .nil []]))) 3 25 4 k tk x.H ∧ i + j = e.kids.length) e.kids.length ⟨0, .nil, ?_⟩ ?_
  · simp (config := {contextual := true, maxSteps := 5000000}) only [go_sem, false_and, Nat.reduceAdd, Nat.reduceLT, Nat.reduceBEq, Nat.reduceSub, Nat.reduceMul, Nat.reduceLeDiff, Int.reduceToNat, Nat.reduceEqDiff, Nat.reduceMod, ht, hl]
    exact ⟨rfl, ⟨Hp.le_upd (Hp.Le.refl _) (by rw [Hp.upd_ne _ _ (fun h => by cases h)]; exact fN _ _ _ _), .inl rfl⟩, by omega⟩
  · rintro j ⟨t, n, H2⟩ ⟨i, tk, hl, h1, h2, h3, h10, h11, h12, hX, hL, hij⟩
    simp only at hl h1 h2 h3 h10 h11 h12 hX hL
    have fN1 : ∀ (a b : Nat) z ty, a ≠ 1 → (H.upd ⟨3, 1 :: 0 :: k, 25⟩ (some (.cells [.int .i64 0, .int .i64 0, .list .nil []]))) ⟨z, a :: b :: k, ty⟩ = none := fun a b z ty ha => by
      rw [Hp.upd_ne _ _ (fun h => by cases h; exact ha rfl)]
      exact fN _ _ _ _
    have hle : H.Le H2 := fun i y hi => hL.1 i y (by rw [Hp.upd_ne _ _ (fun h => by rw [h, fN] at hi; cases hi)]; exact hi)
    by_cases hi : i < e.kids.length
    · have hd : decide ((i : Int) < (e.kids.length : Int)) = true := by simp [hi]
      have hw : IntKind.i64.wrap ((i : Int) + 1) = ((i + 1 : Nat) : Int) := by rw [wrap_i64] <;> omega
      obtain ⟨x, hx, he⟩ := E.kid e hi
      have hy : [[AV.int .i64 x.unf.kind, .int .i64 x.unf.id, .list .none (x.unf.kids.map E.cells)]] = [x.unf.cells] := by rw [E.cells_eq x.unf]
      have hlt : (e.kids.take i).length = i := by rw [List.length_take]; omega
      have hF : ∀ c d, LstK (H.upd ⟨3, 1 :: 0 :: k, 25⟩ (some (.cells [.int .i64 0, .int .i64 0, .list .nil []]))) 3 25 4 k tk ((H2.upd ⟨3, 2 :: (n + 1) :: k, 25⟩ c).upd ⟨3, 2 :: (n + 1 + 1) :: k, 25⟩ d) := fun c d => (hL.frame (fN1 _ _ _ _ (by decide)) (fun m he => by cases he)).frame (fN1 _ _ _ _ (by decide)) (fun m he => by cases he)
      have hP := fun c d f => ((hF c d).push (fun m => fN1 _ _ _ _ (by decide)) (y := x.unf.cells) (ys := []) (n + 1 + 1 + 1)).frame (X := ⟨3, 5 :: 1 :: k, 25⟩) (e := f) (fN1 _ _ _ _ (by decide)) (fun m he => by cases he)
      simp only [tokBy_cons] at hP
      have hkk : ∀ c d, killTok ((H2.upd ⟨3, 2 :: (n + 1) :: k, 25⟩ c).upd ⟨3, 2 :: (n + 1 + 1) :: k, 25⟩ d) tk ⟨3, 5 :: 1 :: k, 25⟩ = some (.cells [.int .i64 e.kind, .int .i64 e.id, .list tk ((e.kids.take i).map fun x => x.unf.cells)]) := fun c d =>
        killTok_keeps (by rw [Hp.upd_ne _ _ (fun he => by cases he), Hp.upd_ne _ _ (fun he => by cases he)]; exact hX) ((hF c d).2.imp id fun ⟨m, h1, h2⟩ => ⟨_, h1, h2⟩)
      simp (config := {contextual := true, maxSteps := 5000000}) only [go_sem, false_and, Nat.reduceAdd, Nat.reduceLT, Nat.reduceBEq, Nat.reduceSub, Nat.reduceMul, Nat.reduceLeDiff, Int.reduceToNat, Nat.reduceEqDiff, Nat.reduceMod, he, toE_at, specUn, specNr, h1, h2, h3, h10, h11, h12, hX, hl, hd, hw, strip, tokBy_cons, hkk]
      refine ⟨by omega, ⟨E.sh_kid hs hx, by have := E.kid_sz hx; omega⟩, fun y h => (h.elim (fun h => by rw [h]; rfl) (fun h => h.elim)), fun y h => by (obtain ⟨z, _, rfl⟩ := List.mem_map.1 h; exact E.cells_length _), rfl, by omega, by omega, (hF _ _).live, j - 1, by omega, i + 1, .tok ⟨3, 4 :: (n + 1 + 1 + 1) :: k, 25⟩, rfl, ?_, hP _ _ _, by omega⟩
      rw [hy, take_map _ hx]
    · have hd : decide ((i : Int) < (e.kids.length : Int)) = false := by simp; omega
      have e6 : e.kids.take i = e.kids := List.take_of_length_le (by omega)
      rw [e6] at hX
      have hc : (e.kids.map fun x => x.unf.cells) = (e.kids.map E.unf).map E.cells := by rw [List.map_map]; rfl
      rw [hc] at hX
      have hR : H2 ⟨3, 1 :: 0 :: k, 25⟩ = some (.cells [.int .i64 0, .int .i64 0, .list .nil []]) := hL.1 _ _ (Hp.upd_same _ _ _)
      have hu := e.unf_eq
      rcases e.kcase with (h8 | h9 | h10') | ⟨h8, h9, h10'⟩
      · obtain ⟨p, q, hpq⟩ := E.loc_two (E.sh_loc hs) (.inl h8)
        have hu : e.unf = nt (im p.unf (nt q.unf)) := by rw [hu]; simp [shrt, h8, hpq]
        have hus : (e.kids.map E.unf).map E.cells = [[.int .i64 p.unf.kind, .int .i64 p.unf.id, .list .none (p.unf.kids.map E.cells)], [.int .i64 q.unf.kind, .int .i64 q.unf.id, .list .none (q.unf.kids.map E.cells)]] := by simp [hpq, E.cells_eq]
        rw [hus, h8] at hX
        rw [h8] at h1
        simp (config := {contextual := true, maxSteps := 5000000}) only [go_sem, false_and, Nat.reduceAdd, Nat.reduceLT, Nat.reduceBEq, Nat.reduceSub, Nat.reduceMul, Nat.reduceLeDiff, Int.reduceToNat, Nat.reduceEqDiff, Nat.reduceMod, specUn, specNr, h1, h2, h3, h10, h11, h12, hX, hl, hd, hR, Int.reduceBEq]
        rw [hu]
        ((repeat' apply And.intro) <;> first | omega | exact Weak.refl _ | exact List.Pairwise.nil | (refine pw_of ?_; (repeat' (first | exact trivial | apply And.intro)); all_goals (first | exact .inr rfl | exact .inr trivial | exact .inl (by kernel_rfl))) | ((with_reducible (show drawOk _ = true)); kernel_rfl) | (repeat (first | exact hle | refine Hp.le_upd ?_ (fN _ _ _ _))))
      · obtain ⟨p, q, hpq⟩ := E.loc_two (E.sh_loc hs) (.inr h9)
        have hu : e.unf = im (nt p.unf) q.unf := by rw [hu]; simp [shrt, h9, hpq]
        have hus : (e.kids.map E.unf).map E.cells = [[.int .i64 p.unf.kind, .int .i64 p.unf.id, .list .none (p.unf.kids.map E.cells)], [.int .i64 q.unf.kind, .int .i64 q.unf.id, .list .none (q.unf.kids.map E.cells)]] := by simp [hpq, E.cells_eq]
        rw [hus, h9] at hX
        rw [h9] at h1
        simp (config := {contextual := true, maxSteps := 5000000}) only [go_sem, false_and, Nat.reduceAdd, Nat.reduceLT, Nat.reduceBEq, Nat.reduceSub, Nat.reduceMul, Nat.reduceLeDiff, Int.reduceToNat, Nat.reduceEqDiff, Nat.reduceMod, specUn, specNr, h1, h2, h3, h10, h11, h12, hX, hl, hd, hR, Int.reduceBEq]
        rw [hu]
        ((repeat' apply And.intro) <;> first | omega | exact Weak.refl _ | exact List.Pairwise.nil | (refine pw_of ?_; (repeat' (first | exact trivial | apply And.intro)); all_goals (first | exact .inr rfl | exact .inr trivial | exact .inl (by kernel_rfl))) | ((with_reducible (show drawOk _ = true)); kernel_rfl) | (repeat (first | exact hle | refine Hp.le_upd ?_ (fN _ _ _ _))))
      · obtain ⟨p, hpq⟩ := E.loc_one (E.sh_loc hs) h10'
        have hu : e.unf = nt (al e.id (nt p.unf)) := by rw [hu]; simp [shrt, h10', hpq]
        have hus : (e.kids.map E.unf).map E.cells = [[.int .i64 p.unf.kind, .int .i64 p.unf.id, .list .none (p.unf.kids.map E.cells)]] := by simp [hpq, E.cells_eq]
        rw [hus, h10'] at hX
        rw [h10'] at h1
        simp (config := {contextual := true, maxSteps := 5000000}) only [go_sem, false_and, Nat.reduceAdd, Nat.reduceLT, Nat.reduceBEq, Nat.reduceSub, Nat.reduceMul, Nat.reduceLeDiff, Int.reduceToNat, Nat.reduceEqDiff, Nat.reduceMod, specUn, specNr, h1, h2, h3, h10, h11, h12, hX, hl, hd, hR, Int.reduceBEq]
        rw [hu]
        ((repeat' apply And.intro) <;> first | omega | exact Weak.refl _ | exact List.Pairwise.nil | (refine pw_of ?_; (repeat' (first | exact trivial | apply And.intro)); all_goals (first | exact .inr rfl | exact .inr trivial | exact .inl (by kernel_rfl))) | ((with_reducible (show drawOk _ = true)); kernel_rfl) | (repeat (first | exact hle | refine Hp.le_upd ?_ (fN _ _ _ _))))
      · rw [shrt_no h8 h9 h10'] at hu
        simp (config := {contextual := true, maxSteps := 5000000}) only [go_sem, false_and, Nat.reduceAdd, Nat.reduceLT, Nat.reduceBEq, Nat.reduceSub, Nat.reduceMul, Nat.reduceLeDiff, Int.reduceToNat, Nat.reduceEqDiff, Nat.reduceMod, specUn, specNr, h1, h2, h3, h10, h11, h12, hX, h8, h9, h10', hl, hd, hR]
        rw [hu]
        exact ⟨WeakL.agg ⟨_, _, rfl, Weak.refl _, _, _, rfl, Weak.refl _, _, _, rfl, list_weak, rfl⟩, by (repeat (first | exact hle | refine Hp.le_upd ?_ (fN _ _ _ _)))⟩
theorem specUn_ok : ∀ N, SpecOk Tryz.prog w0 (specUn N)
  | 0 => specNr_ok.add (sp1_ok fun e h => by omega)
  | N + 1 => specNr_ok.add (sp1_ok fun e h k H => unfolded_step N (specUn_ok N) e h.1 h.2)
theorem unfolded_call (e : E) (hs : e.sh = true) : CallAt Tryz.prog w0 k 63 [e.av] H H e.unf.av := unfolded_step e.sz (specUn_ok _) e hs (Nat.lt_succ_self _)
end Go.Proofs.YtkdendaohlnlcaaGreatDoor.Av

/- What the functions of layer 8 answer: Plain, of both. No condition. -/
namespace Go.Proofs.YtkdendaohlnlcaaGreatDoor.Av
set_option linter.unusedVariables false
set_option linter.unusedSimpArgs false
set_option maxRecDepth 4000
set_option maxHeartbeats 1000000
variable {w0 : Base} {k : List Nat} {H : Hp}
def rgt (e : E) : E × Int := if e.right = 0 then (e, 0) else (noE, e.right)
def plainE (e : E) : E × Int := if e.right = 0 then rgt e.unf else (noE, e.right)
theorem rgt_call (e : E) (hok : e.ok) : CallAt Tryz.prog w0 k 60 [e.av] H H (.tup [(rgt e).1.av, .int .i64 (rgt e).2]) := by
  refine callAt tabOk specX4_ok mixed Tryz.func60 rfl rfl Tryz.results60 Tryz.ntmps60 (by simp) [] ?_
  intro hfr t hl ht
  simp only [At, Nat.reduceAdd, List.cons_append, List.nil_append] at ht
  have fN : ∀ (a b : Nat) z ty, H ⟨z, a :: b :: k, ty⟩ = none := fun a b z ty => hfr _ (sfx2 _ _ _)
  unfold rgt
  by_cases h0 : e.right = 0
  · rw [if_pos h0]
    have hb : (e.right != 0) = false := by simp [h0]
    simp (config := {contextual := true, maxSteps := 5000000}) only [go_sem, false_and, Nat.reduceAdd, Nat.reduceLT, Nat.reduceBEq, Nat.reduceSub, Nat.reduceMul, Nat.reduceLeDiff, Int.reduceToNat, Nat.reduceEqDiff, Nat.reduceMod, ht, hl, specX4, toE_at, hb]
    exact ⟨hok, by (repeat (first | exact Hp.Le.refl _ | refine Hp.le_upd ?_ (fN _ _ _ _)))⟩
  · rw [if_neg h0]
    have hb : (e.right != 0) = true := by simpa using h0
    simp (config := {contextual := true, maxSteps := 5000000}) only [go_sem, false_and, Nat.reduceAdd, Nat.reduceLT, Nat.reduceBEq, Nat.reduceSub, Nat.reduceMul, Nat.reduceLeDiff, Int.reduceToNat, Nat.reduceEqDiff, Nat.reduceMod, ht, hl, specX4, toE_at, hb]
    exact ⟨hok, tup2_weak noEw_weak, by (repeat (first | exact Hp.Le.refl _ | refine Hp.le_upd ?_ (fN _ _ _ _)))⟩
def specPl : Spec := (Spec.no.add 60 (sp1 dE (fun e => e.ok) fun e => .tup [(rgt e).1.av, .int .i64 (rgt e).2])).add 61 (sp1 dE (fun e => e.sh = true) fun e => e.unf.av)
theorem specPl_ok : SpecOk Tryz.prog w0 specPl := (Spec.no_ok.add (sp1_ok fun e h k H => rgt_call e h)).add (sp1_ok fun e h k H => unfold_call e h)
theorem rgt_snd (e : E) : (rgt e).2 = e.right := by
  unfold rgt
  split
  · rename_i h
    exact h.symm
  · rfl
theorem plainP_call (e : E) (hok : e.ok) : CallAt Tryz.prog w0 k 32 [e.av] H H (.tup [(plainE e).1.av, .int .i64 (plainE e).2]) := by
  refine callAt tabOk specPl_ok mixed Tryz.func32 rfl rfl Tryz.results32 Tryz.ntmps32 (by simp) [] ?_
  intro hfr t hl ht
  simp only [At, Nat.reduceAdd, List.cons_append, List.nil_append] at ht
  have fN : ∀ (a b : Nat) z ty, H ⟨z, a :: b :: k, ty⟩ = none := fun a b z ty => hfr _ (sfx2 _ _ _)
  unfold plainE
  have h2 := rgt_snd e
  by_cases h0 : e.right = 0
  · rw [if_pos h0]
    have hb : ((rgt e).2 != 0) = false := by simp [h2, h0]
    have hs := right_sh h0
    simp (config := {contextual := true, maxSteps := 5000000}) only [go_sem, false_and, Nat.reduceAdd, Nat.reduceLT, Nat.reduceBEq, Nat.reduceSub, Nat.reduceMul, Nat.reduceLeDiff, Int.reduceToNat, Nat.reduceEqDiff, Nat.reduceMod, ht, hl, specPl, toE_at, hb]
    exact ⟨hok, hs, E.unf_ok hs, by (repeat (first | exact Hp.Le.refl _ | refine Hp.le_upd ?_ (fN _ _ _ _)))⟩
  · rw [if_neg h0]
    have hb : ((rgt e).2 != 0) = true := by simpa [h2] using h0
    simp (config := {contextual := true, maxSteps := 5000000}) only [go_sem, false_and, Nat.reduceAdd, Nat.reduceLT, Nat.reduceBEq, Nat.reduceSub, Nat.reduceMul, Nat.reduceLeDiff, Int.reduceToNat, Nat.reduceEqDiff, Nat.reduceMod, ht, hl, specPl, toE_at, hb]
    rw [h2]
    exact ⟨hok, tup2_weak noEw_weak, by (repeat (first | exact Hp.Le.refl _ | refine Hp.le_upd ?_ (fN _ _ _ _)))⟩
end Go.Proofs.YtkdendaohlnlcaaGreatDoor.Av

/- What is read of a text is a unit that may lie in memory. No condition. -/
namespace Go.Proofs.YtkdendaohlnlcaaGreatDoor.Av
set_option linter.unusedVariables false
set_option linter.unusedSimpArgs false
set_option maxRecDepth 4000
set_option maxHeartbeats 1000000
theorem fmU_ok (s : ByteArray) : (fmU s).1.ok := by
  unfold fmU
  cases h : fmRes s with
  | ok x => exact (fmRes_ok h).1
  | err e a => exact noE_ok
theorem stepF_ok (r : Step × Bool) (f : E × Int) (hf : f.1.ok) : (stepF r f).1.says.ok := by
  by_cases h1 : r.2 = false
  · rw [stepF, if_pos h1]
    exact noE_ok
  · by_cases h2 : r.1.by_ = 4 ∧ isName r.1.cite = false
    · rw [stepF, if_neg h1, if_pos h2]
      exact noE_ok
    · rw [stepF, if_neg h1, if_neg h2]
      exact hf
theorem stepR_ok (s : ByteArray) (n : Int) : (stepR s n).1.says.ok := by
  by_cases h1 : 60 < n
  · rw [stepR, if_pos h1]
    exact noE_ok
  · by_cases h2 : fstC s 58 < s.size
    · rw [stepR, if_neg h1, if_pos h2]
      have hf := fmU_ok ((s.extract 0 (fstC s 58)).extract (numT n).size (s.extract 0 (fstC s 58)).size)
      generalize fmU ((s.extract 0 (fstC s 58)).extract (numT n).size (s.extract 0 (fstC s 58)).size) = f at hf ⊢
      generalize rdW (cutC ((s.extract (fstC s 58 + 1) s.size).extract 1 (s.extract (fstC s 58 + 1) s.size).size) 32) = r
      have hF := stepF_ok r f hf
      cases (beg (s.extract 0 (fstC s 58)) (numT n) && beg (s.extract (fstC s 58 + 1) s.size) ⟨#[32]⟩) with
      | true =>
        rw [if_pos rfl]
        exact hF
      | false =>
        rw [if_neg (by simp)]
        exact noE_ok
    · rw [stepR, if_neg h1, if_neg h2]
      exact noE_ok
theorem stepsR_ok : ∀ (xs : List ByteArray) (i : Nat) (acc : List Step), (∀ s ∈ acc, s.says.ok) → (∀ s ∈ (stepsR xs i acc).1, s.says.ok) ∧ (stepsR xs i acc).1.length ≤ acc.length + xs.length
  | [], i, acc, h => by simpa [stepsR] using h
  | x :: xs, i, acc, h => by
    unfold stepsR
    split
    · have := stepsR_ok xs (i + 1) (acc ++ [(stepR x ((i : Int) - 1)).1]) fun s hs => by
        rcases List.mem_append.1 hs with h1 | h1
        · exact h s h1
        · rw [List.mem_singleton.1 h1]
          exact stepR_ok _ _
      refine ⟨this.1, ?_⟩
      have h2 := this.2
      simp only [List.length_append, List.length_cons, List.length_nil] at h2 ⊢
      omega
    · simp
theorem citR_len (s : ByteArray) : (citR s).1.length ≤ s.size + 1 := by
  have key : ∀ r : ByteArray, r.size ≤ s.size → (cutC r 32).length ≤ s.size + 1 := fun r hr => by have := (cutC_len r 32).2; omega
  have hk := key ((s.extract 5 s.size).extract 1 (s.extract 5 s.size).size) (by simp only [ByteArray.size_extract]; omega)
  unfold citR
  generalize cutC ((s.extract 5 s.size).extract 1 (s.extract 5 s.size).size) 32 = l at hk ⊢
  by_cases h1 : beg s ⟨#[99, 105, 116, 101, 115]⟩ = false
  · rw [if_pos h1]
    exact Nat.zero_le _
  · by_cases h2 : e0 (s.extract 5 s.size) = true
    · rw [if_neg h1, if_pos h2]
      exact Nat.zero_le _
    · by_cases h3 : byteAt (s.extract 5 s.size) 0 = 32
      · rw [if_neg h1, if_neg h2, if_pos h3]
        exact hk
      · rw [if_neg h1, if_neg h2, if_neg h3]
        exact Nat.zero_le _
theorem parseL_ok {l : List ByteArray} {u : U} (hl : l.length ≤ 4000000000) (hs : ∀ x ∈ l, x.size ≤ 4000000000) (h : parseL l = .ok u) : u.ok := by
  unfold parseL at h
  split at h
  · cases h
  · rename_i a rest
    unfold parse1 at h
    split at h
    · split at h
      · cases h
      · rename_i b r
        unfold parse2 at h
        split at h
        · cases h
        · split at h
          · split at h
            · cases h
            · rename_i x xs
              unfold parse3 at h
              split at h
              · cases h
                have h1 := stepsR_ok (x :: xs) 2 [] (by simp)
                have h2 := citR_len a
                have h3 := hs a (by simp)
                have h4 := h1.2
                simp only [List.length_cons, List.length_nil] at hl h4
                exact ⟨by simp only; omega, by simp only; omega, fmU_ok _, h1.1⟩
              · cases h
          · cases h
    · cases h
theorem parseR_ok {s : ByteArray} {u : U} (h : parseR s = .ok u) : u.ok := by
  unfold parseR at h
  split at h
  · cases h
  · have h1 := linesOf_len s
    exact parseL_ok (by omega) (fun x hx => by have := linesOf_size hx; omega) h
theorem noU_ok : noU.ok := ⟨by simp [noU], by simp [noU], noE_ok, by simp [noU]⟩
end Go.Proofs.YtkdendaohlnlcaaGreatDoor.Av

/- A text that is refused at a line is refused there whatever stands behind that line, in plain words. No condition. -/
namespace Go.Proofs.YtkdendaohlnlcaaGreatDoor.Av
set_option linter.unusedVariables false
set_option linter.unusedSimpArgs false
set_option maxRecDepth 4000
set_option maxHeartbeats 1000000
theorem cutU_no {c : UInt8} : ∀ {l x : List UInt8}, x ∈ cutU c l → ∀ b ∈ x, b ≠ c
  | [], x, h, b, hb => by
    simp only [cutU, List.mem_singleton] at h
    subst h
    cases hb
  | a :: l, x, h, b, hb => by
    unfold cutU at h
    split at h
    · rcases List.mem_cons.1 h with rfl | h
      · cases hb
      · exact cutU_no h b hb
    · rename_i hac
      split at h
      · simp only [List.mem_singleton] at h
        subst h
        simp only [List.mem_singleton] at hb
        subst hb
        exact hac
      · rename_i y ys he
        rcases List.mem_cons.1 h with rfl | h
        · rcases List.mem_cons.1 hb with rfl | hb
          · exact hac
          · exact cutU_no (by rw [he]; simp) b hb
        · exact cutU_no (by rw [he]; exact List.mem_cons_of_mem _ h) b hb
theorem linesOf_no {s x : ByteArray} (h : x ∈ linesOf s) : ∀ b ∈ x.data.toList, b ≠ 10 := by
  have h1 : x.data.toList ∈ (cutC s 10).map (·.data.toList) := List.mem_map_of_mem (lns_mem h)
  have e : (cutC s 10).map (·.data.toList) = cutU 10 s.data.toList := cutC_spec s 10
  rw [e] at h1
  exact cutU_no h1
/-- The first lines, each with its end. -/
def accT (l : List ByteArray) : Nat → ByteArray
  | 0 => ⟨#[]⟩
  | i + 1 => match l[i]? with
    | some x => (accT l i ++ x) ++ ⟨#[10]⟩
    | none => accT l i
theorem accT_data (l : List ByteArray) : ∀ i, (accT l i).data.toList = ((l.take i).map fun x => x.data.toList ++ [10]).flatten
  | 0 => by simp [accT]
  | i + 1 => by
    rw [accT, List.take_add_one]
    cases h : l[i]? with
    | none => simpa using accT_data l i
    | some x =>
      simp only [ByteArray.data_append, Array.toList_append, accT_data l i, Option.toList_some, List.map_append, List.map_cons, List.map_nil, List.flatten_append, List.flatten_cons, List.flatten_nil, List.append_nil, List.append_assoc]
theorem accT_size (l : List ByteArray) {n : Nat} (h : ∀ x ∈ l, x.size ≤ n) : ∀ i, (accT l i).size ≤ i * (n + 1)
  | 0 => by rw [accT, Nat.zero_mul]; exact Nat.le_refl 0
  | i + 1 => by
    have ih := accT_size l h i
    rw [accT, Nat.succ_mul]
    cases hx : l[i]? with
    | none => simp only; omega
    | some x =>
      have := h x (List.mem_of_getElem? hx)
      simp only [ByteArray.size_append]
      have e : (⟨#[10]⟩ : ByteArray).size = 1 := rfl
      omega
theorem cutU_lines {c : UInt8} {r : List UInt8} : ∀ {l : List (List UInt8)}, (∀ x ∈ l, ∀ b ∈ x, b ≠ c) → cutU c ((l.map fun x => x ++ [c]).flatten ++ r) = l ++ cutU c r
  | [], _ => by simp
  | x :: l, h => by
    simp only [List.map_cons, List.flatten_cons, List.append_assoc, List.cons_append, List.nil_append]
    rw [cutU_hit (h x (by simp)), cutU_lines fun y hy => h y (by simp [hy])]
theorem cutC_acc {l : List ByteArray} (h : ∀ x ∈ l, ∀ b ∈ x.data.toList, b ≠ 10) (i : Nat) (more : ByteArray) : cutC (accT l i ++ more) 10 = l.take i ++ cutC more 10 := by
  apply map_data_inj
  have e1 : (cutC (accT l i ++ more) 10).map (·.data.toList) = cutU 10 (accT l i ++ more).data.toList := cutC_spec _ 10
  have e2 : (cutC more 10).map (·.data.toList) = cutU 10 more.data.toList := cutC_spec _ 10
  rw [e1, List.map_append, e2, ByteArray.data_append, Array.toList_append, accT_data]
  have := cutU_lines (c := 10) (r := more.data.toList) (l := (l.take i).map (·.data.toList)) fun x hx => by
    obtain ⟨y, hy, rfl⟩ := List.mem_map.1 hx
    exact h y (List.mem_of_mem_take hy)
  rw [← this, List.map_map]
  rfl
theorem lns_append (a m : List ByteArray) (hm : 1 ≤ m.length) : ∃ m', lns (a ++ m) = a ++ m' := by
  unfold lns
  split
  · split
    · refine ⟨m.take (m.length - 1), ?_⟩
      rw [List.length_append, show a.length + m.length - 1 = a.length + (m.length - 1) by omega, List.take_append, List.take_of_length_le (by omega), show a.length + (m.length - 1) - a.length = m.length - 1 by omega]
    · exact ⟨m, rfl⟩
  · exact ⟨m, rfl⟩
theorem stepR_late {x : ByteArray} {n : Int} (h : 60 < n) : (stepR x n).2 = 2 := by rw [stepR, if_pos h]
theorem stepsR_err : ∀ (xs : List ByteArray) (i : Nat) (acc l : List Step) (e at_ : Int), i ≤ 62 → stepsR xs i acc = (l, e, at_) → e ≠ 0 →
    ∃ j : Nat, at_ = j ∧ i < j ∧ j ≤ i + xs.length ∧ j ≤ 63 ∧ ∀ m, stepsR (xs.take (j - i) ++ m) i acc = (l, e, at_)
  | [], i, acc, l, e, at_, hi, h, he => by
    simp only [stepsR, Prod.mk.injEq] at h
    exact absurd h.2.1.symm he
  | x :: xs, i, acc, l, e, at_, hi, h, he => by
    by_cases hz : (stepR x ((i : Int) - 1)).2 = 0
    · have hi2 : i < 62 := by
        rcases Nat.lt_or_ge i 62 with h1 | h1
        · exact h1
        · rw [stepR_late (by omega)] at hz
          cases hz
      rw [stepsR, if_pos hz] at h
      obtain ⟨j, h1, h2, h3, h4, h5⟩ := stepsR_err xs (i + 1) _ l e at_ (by omega) h he
      refine ⟨j, h1, by omega, by simp only [List.length_cons]; omega, h4, fun m => ?_⟩
      rw [show j - i = (j - (i + 1)) + 1 by omega, List.take_succ_cons, List.cons_append, stepsR, if_pos hz]
      exact h5 m
    · rw [stepsR, if_neg hz] at h
      simp only [Prod.mk.injEq] at h
      obtain ⟨rfl, rfl, rfl⟩ := h
      refine ⟨i + 1, by omega, by omega, by simp only [List.length_cons]; omega, by omega, fun m => ?_⟩
      rw [show i + 1 - i = 0 + 1 by omega, List.take_succ_cons, List.cons_append, stepsR, if_neg hz]
theorem parseL_err {l : List ByteArray} {e a : Int} (h : parseL l = .err e a) : ∃ j : Nat, a = j ∧ 1 ≤ j ∧ j ≤ l.length + 1 ∧ j ≤ 63 ∧ e ≠ 0 ∧ (j ≤ l.length → ∀ m, parseL (l.take j ++ m) = .err e a) := by
  cases l with
  | nil =>
    simp only [parseL, PR.err.injEq] at h
    obtain ⟨rfl, rfl⟩ := h
    exact ⟨1, rfl, by omega, by simp, by omega, by omega, fun h => by simp at h⟩
  | cons b rest =>
    by_cases hc : (citR b).2 = 0
    · cases rest with
      | nil =>
        simp only [parseL, parse1, if_pos hc, PR.err.injEq] at h
        obtain ⟨rfl, rfl⟩ := h
        exact ⟨2, rfl, by omega, by simp, by omega, by omega, fun h => by simp at h⟩
      | cons d r =>
        cases hb : beg d statesB with
        | false =>
          have hv : ∀ r', parseL (b :: d :: r') = .err 90 2 := fun r' => by simp [parseL, parse1, hc, parse2, hb]
          rw [hv] at h
          cases h
          exact ⟨2, rfl, by omega, by simp, by omega, by omega, fun _ m => hv _⟩
        | true =>
          by_cases hf : (fmU (d.extract 7 d.size)).2 = 0
          · cases r with
            | nil =>
              have hv : parseL [b, d] = .err 90 3 := by simp [parseL, parse1, hc, parse2, hb, hf]
              rw [hv] at h
              cases h
              exact ⟨3, rfl, by omega, by simp, by omega, by omega, fun h => by simp at h⟩
            | cons x xs =>
              have hv : ∀ y ys, parseL (b :: d :: y :: ys) = parse3 (citR b).1 (fmU (d.extract 7 d.size)).1 (stepsR (y :: ys) 2 []) := fun y ys => by simp [parseL, parse1, hc, parse2, hb, hf]
              rw [hv] at h
              generalize hst : stepsR (x :: xs) 2 [] = st at h
              obtain ⟨l', e', a'⟩ := st
              by_cases he : e' = 0
              · simp [parse3, he] at h
              · simp only [parse3, if_neg he, PR.err.injEq] at h
                obtain ⟨rfl, rfl⟩ := h
                obtain ⟨j, h1, h2, h3, h4, h5⟩ := stepsR_err _ 2 [] l' e' a' (by omega) hst he
                simp only [List.length_cons] at h3
                refine ⟨j, h1, by omega, by simp only [List.length_cons]; omega, h4, he, fun _ m => ?_⟩
                have h6 := h5 m
                rw [show j = (j - 2 - 1) + 1 + 1 + 1 by omega] at h6 ⊢
                simp only [List.take_succ_cons, List.cons_append] at h6 ⊢
                rw [hv]
                rw [show j - 2 - 1 + 1 + 1 + 1 - 2 = (j - 2 - 1) + 1 by omega, List.take_succ_cons, List.cons_append] at h6
                rw [h6, parse3, if_neg he]
          · have hv : ∀ r', parseL (b :: d :: r') = .err (fmU (d.extract 7 d.size)).2 2 := fun r' => by simp [parseL, parse1, hc, parse2, hb, hf]
            rw [hv] at h
            cases h
            exact ⟨2, rfl, by omega, by simp, by omega, hf, fun _ m => hv _⟩
    · have hv : ∀ r', parseL (b :: r') = .err (citR b).2 1 := fun r' => by simp [parseL, parse1, hc]
      rw [hv] at h
      cases h
      exact ⟨1, rfl, by omega, by simp, by omega, hc, fun _ m => hv _⟩
/-- The law, in plain words. -/
theorem lines_law {s : ByteArray} {e a : Int} (hs : s.size ≤ 20000) (h : parseL (linesOf s) = .err e a) {j : Nat} (hj : a = j) (hjl : j ≤ (linesOf s).length) (more : ByteArray) : parseL (linesOf (accT (linesOf s) j ++ more)) = .err e a := by
  obtain ⟨j', h1, h2, h3, h4, h5, h6⟩ := parseL_err h
  obtain rfl : j' = j := by omega
  have hc := cutC_acc (fun x hx => linesOf_no hx) j' more (l := linesOf s)
  obtain ⟨m', hm⟩ := lns_append ((linesOf s).take j') (cutC more 10) (cutC_len more 10).1
  rw [show linesOf (accT (linesOf s) j' ++ more) = (linesOf s).take j' ++ m' by rw [linesOf, hc, hm]]
  exact h6 hjl m'
end Go.Proofs.YtkdendaohlnlcaaGreatDoor.Av

/- What a unit tells, and cites, by both. No condition. -/
namespace Go.Proofs.YtkdendaohlnlcaaGreatDoor.Av
set_option linter.unusedVariables false
set_option linter.unusedSimpArgs false
set_option maxRecDepth 4000
set_option maxHeartbeats 1000000
variable {w0 : Base} {k : List Nat} {H : Hp}
def specPl8 : Spec := (Spec.no.add 62 (sp1 dE (fun e => e.ok) fun e => .int .i64 e.right)).add 63 (sp1 dE (fun e => e.sh = true) fun e => e.unf.av)
theorem specPl8_ok : SpecOk Tryz.prog w0 specPl8 := (Spec.no_ok.add (sp1_ok fun e h k H => right02_call e h)).add (sp1_ok fun e h k H => unfolded_call e h)
theorem plain08_call (e : E) (hok : e.ok) : CallAt Tryz.prog w0 k 33 [e.av] H H (.tup [(plainE e).1.av, .int .i64 (plainE e).2]) := by
  refine callAt tabOk specPl8_ok mixed Tryz.func33 rfl rfl Tryz.results33 Tryz.ntmps33 (by simp) [] ?_
  intro hfr t hl ht
  simp only [At, Nat.reduceAdd, List.cons_append, List.nil_append] at ht
  have fN : ∀ (a b : Nat) z ty, H ⟨z, a :: b :: k, ty⟩ = none := fun a b z ty => hfr _ (sfx2 _ _ _)
  unfold plainE rgt
  by_cases h0 : e.right = 0
  · rw [if_pos h0]
    have hb : (e.right != 0) = false := by simp [h0]
    have hs := right_sh h0
    by_cases h1 : e.unf.right = 0
    · rw [if_pos h1]
      have hb1 : (e.unf.right != 0) = false := by simp [h1]
      simp (config := {contextual := true, maxSteps := 5000000}) only [go_sem, false_and, Nat.reduceAdd, Nat.reduceLT, Nat.reduceBEq, Nat.reduceSub, Nat.reduceMul, Nat.reduceLeDiff, Int.reduceToNat, Nat.reduceEqDiff, Nat.reduceMod, ht, hl, specPl8, toE_at, hb, hb1]
      exact ⟨hok, hs, E.unf_ok hs, by (repeat (first | exact Hp.Le.refl _ | refine Hp.le_upd ?_ (fN _ _ _ _)))⟩
    · rw [if_neg h1]
      have hb1 : (e.unf.right != 0) = true := by simpa using h1
      simp (config := {contextual := true, maxSteps := 5000000}) only [go_sem, false_and, Nat.reduceAdd, Nat.reduceLT, Nat.reduceBEq, Nat.reduceSub, Nat.reduceMul, Nat.reduceLeDiff, Int.reduceToNat, Nat.reduceEqDiff, Nat.reduceMod, ht, hl, specPl8, toE_at, hb, hb1]
      exact ⟨hok, hs, E.unf_ok hs, E.unf_ok hs, tup2_weak noEw_weak, by (repeat (first | exact Hp.Le.refl _ | refine Hp.le_upd ?_ (fN _ _ _ _)))⟩
  · rw [if_neg h0]
    have hb : (e.right != 0) = true := by simpa using h0
    simp (config := {contextual := true, maxSteps := 5000000}) only [go_sem, false_and, Nat.reduceAdd, Nat.reduceLT, Nat.reduceBEq, Nat.reduceSub, Nat.reduceMul, Nat.reduceLeDiff, Int.reduceToNat, Nat.reduceEqDiff, Nat.reduceMod, ht, hl, specPl8, toE_at, hb]
    exact ⟨hok, hok, tup2_weak noEw_weak, by (repeat (first | exact Hp.Le.refl _ | refine Hp.le_upd ?_ (fN _ _ _ _)))⟩
/-- What a text tells, and cites. -/
def tellsE (s : ByteArray) : E × Bool := match parseR s with
  | .ok u => ((plainE u.states).1, (plainE u.states).2 == 0)
  | .err _ _ => (noE, false)
def citesE (s : ByteArray) : List ByteArray := match parseR s with
  | .ok u => u.cites
  | .err _ _ => []
theorem parseR_ne {s : ByteArray} {e a : Int} (h : parseR s = .err e a) : e ≠ 0 := by
  unfold parseR at h
  split at h
  · simp only [PR.err.injEq] at h
    omega
  · obtain ⟨_, _, _, _, _, h4, _⟩ := parseL_err h
    exact h4
def specTl (hm : MaxW w0) : Spec := (Spec.no.add 8 (sp1 dS (fun _ => True) fun s => (parseR s).av)).add 32 (sp1 dE (fun e => e.ok) fun e => .tup [(plainE e).1.av, .int .i64 (plainE e).2])
theorem specTl_ok (hm : MaxW w0) : SpecOk Tryz.prog w0 (specTl hm) := (Spec.no_ok.add (sp1_ok fun s _ k H => parseU_call hm s)).add (sp1_ok fun e h k H => plainP_call e h)
theorem tellsP_call (hm : MaxW w0) (s : ByteArray) : CallAt Tryz.prog w0 k 12 [.str s] H H (.tup [(tellsE s).1.av, .bool (tellsE s).2]) := by
  refine callAt tabOk (specTl_ok hm) mixed Tryz.func12 rfl rfl Tryz.results12 Tryz.ntmps12 (by simp) [] ?_
  intro hfr t hl ht
  simp only [At, Nat.reduceAdd, List.cons_append, List.nil_append] at ht
  have fN : ∀ (a b : Nat) z ty, H ⟨z, a :: b :: k, ty⟩ = none := fun a b z ty => hfr _ (sfx2 _ _ _)
  unfold tellsE
  cases hp : parseR s with
  | ok u =>
    have hok := (parseR_ok hp).2.2.1
    have n00 : ((0 : Int) != 0) = false := rfl
    simp (config := {contextual := true, maxSteps := 5000000}) only [go_sem, false_and, Nat.reduceAdd, Nat.reduceLT, Nat.reduceBEq, Nat.reduceSub, Nat.reduceMul, Nat.reduceLeDiff, Int.reduceToNat, Nat.reduceEqDiff, Nat.reduceMod, ht, hl, specTl, hp, PR.av, U.cells, n00, toE_at]
    exact ⟨hok, by (repeat (first | exact Hp.Le.refl _ | refine Hp.le_upd ?_ (fN _ _ _ _)))⟩
  | err e a =>
    have he : (e != 0) = true := by simpa using parseR_ne hp
    simp (config := {contextual := true, maxSteps := 5000000}) only [go_sem, false_and, Nat.reduceAdd, Nat.reduceLT, Nat.reduceBEq, Nat.reduceSub, Nat.reduceMul, Nat.reduceLeDiff, Int.reduceToNat, Nat.reduceEqDiff, Nat.reduceMod, ht, hl, specTl, hp, PR.av, U.cells, he]
    exact ⟨tup2_weak noEw_weak, by (repeat (first | exact Hp.Le.refl _ | refine Hp.le_upd ?_ (fN _ _ _ _)))⟩
theorem citesP_call (hm : MaxW w0) (s : ByteArray) : CallAt Tryz.prog w0 k 16 [.str s] H H (.list .none ((citesE s).map cS.enc)) := by
  refine callAt tabOk (specTl_ok hm) mixed Tryz.func16 rfl rfl Tryz.results16 Tryz.ntmps16 (by simp) [] ?_
  intro hfr t hl ht
  simp only [At, Nat.reduceAdd, List.cons_append, List.nil_append] at ht
  have fN : ∀ (a b : Nat) z ty, H ⟨z, a :: b :: k, ty⟩ = none := fun a b z ty => hfr _ (sfx2 _ _ _)
  unfold citesE
  cases hp : parseR s with
  | ok u =>
    simp (config := {contextual := true, maxSteps := 5000000}) only [go_sem, false_and, Nat.reduceAdd, Nat.reduceLT, Nat.reduceBEq, Nat.reduceSub, Nat.reduceMul, Nat.reduceLeDiff, Int.reduceToNat, Nat.reduceEqDiff, Nat.reduceMod, ht, hl, specTl, hp, PR.av, U.cells]
    exact by (repeat (first | exact Hp.Le.refl _ | refine Hp.le_upd ?_ (fN _ _ _ _)))
  | err e a =>
    have hpe : (PR.err e a).av = .tup [.agg [.list .none [], .int .i64 0, .int .i64 0, .list .none [], .list .none []], .int .i64 e, .int .i64 a] := rfl
    simp (config := {contextual := true, maxSteps := 5000000}) only [go_sem, false_and, Nat.reduceAdd, Nat.reduceLT, Nat.reduceBEq, Nat.reduceSub, Nat.reduceMul, Nat.reduceLeDiff, Int.reduceToNat, Nat.reduceEqDiff, Nat.reduceMod, ht, hl, specTl, hp, hpe]
    exact by (repeat (first | exact Hp.Le.refl _ | refine Hp.le_upd ?_ (fN _ _ _ _)))
def specT9 : Spec := (Spec.no.add 9 (sp1 dS (fun _ => True) fun s => (parseR s).av)).add 33 (sp1 dE (fun e => e.ok) fun e => .tup [(plainE e).1.av, .int .i64 (plainE e).2])
theorem specT9_ok : SpecOk Tryz.prog w0 specT9 := (Spec.no_ok.add (sp1_ok fun s _ k H => parse09_call s)).add (sp1_ok fun e h k H => plain08_call e h)
theorem tells09_call (s : ByteArray) : CallAt Tryz.prog w0 k 13 [.str s] H H (.tup [(tellsE s).1.av, .bool (tellsE s).2]) := by
  refine callAt tabOk specT9_ok mixed Tryz.func13 rfl rfl Tryz.results13 Tryz.ntmps13 (by simp) [] ?_
  intro hfr t hl ht
  simp only [At, Nat.reduceAdd, List.cons_append, List.nil_append] at ht
  have fN : ∀ (a b : Nat) z ty, H ⟨z, a :: b :: k, ty⟩ = none := fun a b z ty => hfr _ (sfx2 _ _ _)
  unfold tellsE
  cases hp : parseR s with
  | ok u =>
    have hok := (parseR_ok hp).2.2.1
    have n00 : ((0 : Int) != 0) = false := rfl
    simp (config := {contextual := true, maxSteps := 5000000}) only [go_sem, false_and, Nat.reduceAdd, Nat.reduceLT, Nat.reduceBEq, Nat.reduceSub, Nat.reduceMul, Nat.reduceLeDiff, Int.reduceToNat, Nat.reduceEqDiff, Nat.reduceMod, ht, hl, specT9, hp, PR.av, U.cells, n00, toE_at]
    exact ⟨hok, by (repeat (first | exact Hp.Le.refl _ | refine Hp.le_upd ?_ (fN _ _ _ _)))⟩
  | err e a =>
    have he : (e != 0) = true := by simpa using parseR_ne hp
    simp (config := {contextual := true, maxSteps := 5000000}) only [go_sem, false_and, Nat.reduceAdd, Nat.reduceLT, Nat.reduceBEq, Nat.reduceSub, Nat.reduceMul, Nat.reduceLeDiff, Int.reduceToNat, Nat.reduceEqDiff, Nat.reduceMod, ht, hl, specT9, hp, PR.av, U.cells, he]
    exact ⟨tup2_weak noEw_weak, by (repeat (first | exact Hp.Le.refl _ | refine Hp.le_upd ?_ (fN _ _ _ _)))⟩
theorem cites09x_call (s : ByteArray) : CallAt Tryz.prog w0 k 17 [.str s] H H (.list .none ((citesE s).map cS.enc)) := by
  refine callAt tabOk specT9_ok mixed Tryz.func17 rfl rfl Tryz.results17 Tryz.ntmps17 (by simp) [] ?_
  intro hfr t hl ht
  simp only [At, Nat.reduceAdd, List.cons_append, List.nil_append] at ht
  have fN : ∀ (a b : Nat) z ty, H ⟨z, a :: b :: k, ty⟩ = none := fun a b z ty => hfr _ (sfx2 _ _ _)
  unfold citesE
  cases hp : parseR s with
  | ok u =>
    simp (config := {contextual := true, maxSteps := 5000000}) only [go_sem, false_and, Nat.reduceAdd, Nat.reduceLT, Nat.reduceBEq, Nat.reduceSub, Nat.reduceMul, Nat.reduceLeDiff, Int.reduceToNat, Nat.reduceEqDiff, Nat.reduceMod, ht, hl, specT9, hp, PR.av, U.cells]
    exact by (repeat (first | exact Hp.Le.refl _ | refine Hp.le_upd ?_ (fN _ _ _ _)))
  | err e a =>
    have hpe : (PR.err e a).av = .tup [.agg [.list .none [], .int .i64 0, .int .i64 0, .list .none [], .list .none []], .int .i64 e, .int .i64 a] := rfl
    simp (config := {contextual := true, maxSteps := 5000000}) only [go_sem, false_and, Nat.reduceAdd, Nat.reduceLT, Nat.reduceBEq, Nat.reduceSub, Nat.reduceMul, Nat.reduceLeDiff, Int.reduceToNat, Nat.reduceEqDiff, Nat.reduceMod, ht, hl, specT9, hp, hpe]
    exact by (repeat (first | exact Hp.Le.refl _ | refine Hp.le_upd ?_ (fN _ _ _ _)))
end Go.Proofs.YtkdendaohlnlcaaGreatDoor.Av

/- What is written may be unfolded. Plain. No condition. -/
namespace Go.Proofs.YtkdendaohlnlcaaGreatDoor.Av
set_option linter.unusedVariables false
set_option linter.unusedSimpArgs false
set_option maxRecDepth 4000
set_option maxHeartbeats 1000000
theorem dpL_mem : ∀ {l : List E} {x : E}, x ∈ l → x.dp ≤ E.dpL l
  | [], x, h => by simp at h
  | y :: l, x, h => by
    simp only [E.dpL]
    rcases List.mem_cons.1 h with rfl | h
    · omega
    · have := dpL_mem h
      omega
theorem szL_map (f : E → E) : ∀ l : List E, (∀ x ∈ l, (f x).sz ≤ 3 * x.sz) → E.szL (l.map f) ≤ 3 * E.szL l
  | [], _ => by simp [E.szL]
  | x :: l, h => by
    have h1 := h x (by simp)
    have h2 := szL_map f l fun y hy => h y (by simp [hy])
    simp only [List.map_cons, E.szL]
    omega
theorem dpL_map (f : E → E) : ∀ l : List E, (∀ x ∈ l, (f x).dp ≤ 3 * x.dp) → E.dpL (l.map f) ≤ 3 * E.dpL l
  | [], _ => by simp [E.dpL]
  | x :: l, h => by
    have h1 := h x (by simp)
    have h2 := dpL_map f l fun y hy => h y (by simp [hy])
    simp only [List.map_cons, E.dpL]
    omega
theorem sh_mk {k i : Int} {ks : List E} (h : (E.mk k i ks).loc = true) (hk : ∀ x ∈ ks, x.sh = true) : (E.mk k i ks).sh = true := by
  rw [E.sh_eq, h]
  simpa [E.kids] using hk
theorem nt_sh {e : E} (h : e.sh = true) (ht : e.term = false) : (nt e).sh = true ∧ (nt e).term = false := ⟨sh_mk (by simp [E.loc, E.want, E.kind, E.id, E.kids, ht]) (by simpa using h), rfl⟩
theorem im_sh {a b : E} (h : a.sh = true) (ht : a.term = false) (h2 : b.sh = true) (ht2 : b.term = false) : (im a b).sh = true ∧ (im a b).term = false := ⟨sh_mk (by simp [E.loc, E.want, E.kind, E.id, E.kids, ht, ht2]) (by simp [h, h2]), rfl⟩
theorem al_sh {n : Int} {e : E} (h : e.sh = true) (ht : e.term = false) (h0 : 0 ≤ n) (h1 : n ≤ 63) : (al n e).sh = true ∧ (al n e).term = false := ⟨sh_mk (by simp [E.loc, E.want, E.kind, E.id, E.kids, ht, h0, h1]) (by simpa using h), rfl⟩
theorem unf_all : ∀ (N : Nat) (e : E), e.sz < N → e.sh = true → e.unf.sz ≤ 3 * e.sz ∧ e.unf.dp ≤ 3 * e.dp ∧ e.unf.sh = true ∧ e.unf.term = e.term
  | 0, e, h, _ => by omega
  | N + 1, .mk k i ks, hN, hs => by
    have ih : ∀ x ∈ ks, x.unf.sz ≤ 3 * x.sz ∧ x.unf.dp ≤ 3 * x.dp ∧ x.unf.sh = true ∧ x.unf.term = x.term := fun x hx => by
      obtain ⟨j, hj⟩ := List.mem_iff_getElem?.1 hx
      refine unf_all N x ?_ (E.sh_kid (e := .mk k i ks) hs hj)
      have := E.kid_sz (e := .mk k i ks) hj
      omega
    have hk := E.sh_kind hs
    have hkt := (E.kid_term hs).2
    simp only [E.kind, E.kids, E.id] at hk hkt
    obtain ⟨hk0, hi0, hi9, hsh, hl4, h2, h1, h0⟩ := hk
    have hu : (E.mk k i ks).unf = shrt k i (ks.map E.unf) := E.unf_eq _
    rw [hu]
    by_cases c : k = 8 ∨ k = 9
    · obtain ⟨a, b, rfl⟩ := list_two (h2 (by omega))
      obtain ⟨a1, a2, a3, a4⟩ := ih a (by simp)
      obtain ⟨b1, b2, b3, b4⟩ := ih b (by simp)
      rw [hkt (by omega) a (by simp)] at a4
      rw [hkt (by omega) b (by simp)] at b4
      rcases c with rfl | rfl
      · have e : shrt 8 i ([a, b].map E.unf) = nt (im a.unf (nt b.unf)) := by simp [shrt]
        rw [e]
        have hn := nt_sh b3 b4
        have hm := im_sh a3 a4 hn.1 hn.2
        have hr := nt_sh hm.1 hm.2
        refine ⟨?_, ?_, hr.1, hr.2⟩
        · simp only [nt, im, E.sz, E.szL]
          omega
        · simp only [nt, im, E.dp, E.dpL]
          omega
      · have e : shrt 9 i ([a, b].map E.unf) = im (nt a.unf) b.unf := by simp [shrt]
        rw [e]
        have hn := nt_sh a3 a4
        have hm := im_sh hn.1 hn.2 b3 b4
        refine ⟨?_, ?_, hm.1, hm.2⟩
        · simp only [nt, im, E.sz, E.szL]
          omega
        · simp only [nt, im, E.dp, E.dpL]
          omega
    · by_cases c2 : k = 10
      · subst c2
        obtain ⟨a, rfl⟩ := list_one (h1 (by omega))
        obtain ⟨a1, a2, a3, a4⟩ := ih a (by simp)
        rw [hkt (by omega) a (by simp)] at a4
        have h63 := E.sh_63 hs (by simp [E.kind])
        simp only [E.id] at h63
        have e : shrt 10 i ([a].map E.unf) = nt (al i (nt a.unf)) := by simp [shrt]
        rw [e]
        have hn := nt_sh a3 a4
        have hm := al_sh hn.1 hn.2 hi0 h63
        have hr := nt_sh hm.1 hm.2
        refine ⟨?_, ?_, hr.1, hr.2⟩
        · simp only [nt, al, E.sz, E.szL]
          omega
        · simp only [nt, al, E.dp, E.dpL]
          omega
      · rw [shrt_no (by simp; omega) (by simp; omega) (by simpa using c2)]
        refine ⟨?_, ?_, ?_, rfl⟩
        · have := szL_map E.unf ks fun x hx => (ih x hx).1
          simp only [E.sz]
          omega
        · have := dpL_map E.unf ks fun x hx => (ih x hx).2.1
          simp only [E.dp]
          omega
        · refine sh_mk ?_ fun x hx => ?_
          · have hl := E.sh_loc hs
            unfold E.loc at hl ⊢
            simp only [E.kind, E.id, E.kids, List.length_map] at hl ⊢
            split at hl
            · rename_i mx lo hi t hw
              simp only [Bool.and_eq_true] at hl ⊢
              refine ⟨hl.1, ?_⟩
              rw [List.all_eq_true] at *
              intro x hx
              obtain ⟨y, hy, rfl⟩ := List.mem_map.1 hx
              rw [(ih y hy).2.2.2]
              exact hl.2 y hy
            · cases hl
          · obtain ⟨y, hy, rfl⟩ := List.mem_map.1 hx
            exact (ih y hy).2.2.1
theorem plainE_written {e : E} (h : e.written = 0) : (plainE e).2 = 0 := by
  obtain ⟨h0, h1, h2, _⟩ := written_zero h
  obtain ⟨a1, a2, a3, _⟩ := unf_all _ e (Nat.lt_succ_self _) (right_sh h0)
  rw [plainE, if_pos h0, rgt_snd, E.right, if_neg (by omega), if_neg (by omega), if_pos a3]
end Go.Proofs.YtkdendaohlnlcaaGreatDoor.Av

/- What is read is right. Plain. No condition. -/
namespace Go.Proofs.YtkdendaohlnlcaaGreatDoor.Av
set_option linter.unusedVariables false
set_option linter.unusedSimpArgs false
set_option maxRecDepth 4000
set_option maxHeartbeats 1000000
theorem decI_ge {s : ByteArray} (h : 0 ≤ decI s) : decI s ≤ 999999999 := by
  unfold decI at h ⊢
  cases hd : decR s with
  | none => rw [hd] at h; simp at h
  | some n => exact (decR_ge hd).2
theorem rdW_fine {w : List ByteArray} {r : Step} (h : rdW w = (r, true)) : (⟨noE, r.by_, r.a, r.b, r.cite⟩ : Step).fine = true := by
  unfold rdW at h
  split at h
  · split at h
    · simp only [Prod.mk.injEq, decide_eq_true_eq] at h
      obtain ⟨rfl, h⟩ := h
      have := decI_ge h
      simp [Step.fine, number, h, this, e0_nil]
    · split at h
      · simp only [Prod.mk.injEq] at h
        obtain ⟨rfl, _⟩ := h
        simp [Step.fine]
      · simp at h
  · split at h
    · simp only [Prod.mk.injEq, Bool.and_eq_true, decide_eq_true_eq] at h
      obtain ⟨rfl, h1, h2⟩ := h
      have := decI_ge h1
      have := decI_ge h2
      simp [Step.fine, number, *, e0_nil]
    · split at h
      · simp only [Prod.mk.injEq, Bool.and_eq_true, decide_eq_true_eq] at h
        obtain ⟨rfl, ⟨h1, h2⟩, h3⟩ := h
        have := decI_ge h1
        simp [Step.fine, number, *, e0_nil]
      · simp at h
  · simp at h
theorem fmU_zero {s : ByteArray} (h : (fmU s).2 = 0) : (fmU s).1.written = 0 := by
  unfold fmU at h ⊢
  cases hf : fmRes s with
  | ok x =>
    rw [hf] at h
    exact h
  | err e a =>
    rw [hf] at h
    exact absurd h (fmRes_ne hf)
theorem stepF_zero {r : Step × Bool} {f : E × Int} (hr : r.2 = true → (⟨noE, r.1.by_, r.1.a, r.1.b, r.1.cite⟩ : Step).fine = true) (hf : f.2 = 0 → f.1.written = 0) (h : (stepF r f).2 = 0) : (stepF r f).1.why = 0 ∧ (stepF r f).1.says.written = 0 := by
  unfold stepF at h ⊢
  split at h
  · simp at h
  · rename_i h1
    split at h
    · simp at h
    · rename_i h2
      rw [if_neg h1, if_neg h2]
      refine ⟨?_, hf h⟩
      have h3 := hr (by simpa using h1)
      have h4 : (⟨f.1, r.1.by_, r.1.a, r.1.b, r.1.cite⟩ : Step).fine = true := h3
      rw [Step.why, if_pos h4, if_neg h2]
theorem stepF_rd (w : List ByteArray) (x : ByteArray) (h : (stepF (rdW w) (fmU x)).2 = 0) : (stepF (rdW w) (fmU x)).1.why = 0 ∧ (stepF (rdW w) (fmU x)).1.says.written = 0 := by
  have hf := @fmU_zero x
  have hr := @rdW_fine w
  generalize fmU x = f at *
  generalize rdW w = r at *
  obtain ⟨r1, r2⟩ := r
  refine stepF_zero (fun h2 => ?_) hf h
  simp only at h2
  subst h2
  exact hr rfl
theorem stepR_zero {s : ByteArray} {n : Int} (h : (stepR s n).2 = 0) : n ≤ 60 ∧ (stepR s n).1.why = 0 ∧ (stepR s n).1.says.written = 0 := by
  unfold stepR at h ⊢
  split at h
  · simp at h
  · rename_i h1
    rw [if_neg h1]
    split at h
    · rename_i h2
      rw [if_pos h2]
      split at h
      · rename_i h3
        rw [if_pos h3]
        exact ⟨by omega, stepF_rd _ _ h⟩
      · simp at h
    · simp at h
theorem stepsR_zero : ∀ (xs : List ByteArray) (i : Nat) (acc : List Step), 1 ≤ i → (stepsR xs i acc).2.1 = 0 → ∃ l, (stepsR xs i acc).1 = acc ++ l ∧ l.length = xs.length ∧ (∀ s ∈ l, s.why = 0 ∧ s.says.written = 0) ∧ (xs = [] ∨ i + xs.length ≤ 62)
  | [], i, acc, _, _ => ⟨[], by simp [stepsR], rfl, by simp, .inl rfl⟩
  | x :: xs, i, acc, hi, h => by
    rw [stepsR] at h ⊢
    split at h
    · rename_i h1
      rw [if_pos h1]
      obtain ⟨h2, h3, h4⟩ := stepR_zero h1
      obtain ⟨l, g1, g2, g3, g4⟩ := stepsR_zero xs (i + 1) _ (by omega) h
      refine ⟨(stepR x ((i : Int) - 1)).1 :: l, by rw [g1]; simp, by simp [g2], fun s hs => ?_, .inr ?_⟩
      · rcases List.mem_cons.1 hs with rfl | hs
        · exact ⟨h3, h4⟩
        · exact g3 s hs
      · rcases g4 with rfl | g4
        · simp
          omega
        · simp
          omega
    · rename_i h1
      exact absurd h h1
theorem stepsGo_of : ∀ (l : List Step) (i : Nat), (∀ s ∈ l, s.why = 0 ∧ s.says.written = 0) → i + l.length ≤ 60 → stepsGo i l = 0
  | [], i, _, _ => rfl
  | s :: l, i, h, hl => by
    obtain ⟨h1, h2⟩ := h s (by simp)
    simp only [List.length_cons] at hl
    have ih := stepsGo_of l (i + 1) (fun x hx => h x (by simp [hx])) (by omega)
    unfold stepsGo
    simp [h1, h2, ih]
    try omega
theorem citR_zero {s : ByteArray} (h : (citR s).2 = 0) : namesGo [] (citR s).1 = 0 := by
  unfold citR at h ⊢
  generalize cutC ((s.extract 5 s.size).extract 1 (s.extract 5 s.size).size) 32 = l at h ⊢
  by_cases h1 : beg s ⟨#[99, 105, 116, 101, 115]⟩ = false
  · rw [if_pos h1] at h
    exact absurd h (by show ¬ ((90 : Int) = 0); decide)
  · rw [if_neg h1] at h ⊢
    by_cases h2 : e0 (s.extract 5 s.size) = true
    · rw [if_pos h2]
      rfl
    · rw [if_neg h2] at h ⊢
      by_cases h3 : byteAt (s.extract 5 s.size) 0 = 32
      · rw [if_pos h3] at h ⊢
        exact h
      · rw [if_neg h3] at h
        exact absurd h (by show ¬ ((90 : Int) = 0); decide)
theorem parse3_right {c : List ByteArray} {x : E} {y : ByteArray} {ys : List ByteArray} {u : U} (hc : namesGo [] c = 0) (hx : x.written = 0) (h : parse3 c x (stepsR (y :: ys) 2 []) = .ok u) : u.right = 0 ∧ 1 ≤ u.steps.length := by
  unfold parse3 at h
  split at h
  · rename_i h3
    obtain ⟨ls, g1, g2, g3, g4⟩ := stepsR_zero (y :: ys) 2 [] (by omega) h3
    rw [List.nil_append] at g1
    generalize stepsR (y :: ys) 2 [] = r at *
    cases h
    have g5 : r.1.length = ys.length + 1 := by rw [g1, g2]; rfl
    refine ⟨?_, by show 1 ≤ r.1.length; omega⟩
    unfold U.right
    simp only
    rw [if_pos hc, if_pos hx, if_neg (by omega), g1]
    refine stepsGo_of ls 0 g3 ?_
    rcases g4 with g4 | g4
    · cases g4
    · simp only [List.length_cons] at g4 g2
      omega
  · cases h
theorem parseL_right {l : List ByteArray} {u : U} (h : parseL l = .ok u) : u.right = 0 ∧ 1 ≤ u.steps.length := by
  unfold parseL at h
  split at h
  · cases h
  · rename_i a rest
    unfold parse1 at h
    split at h
    · rename_i h1
      have hn := citR_zero h1
      split at h
      · cases h
      · rename_i b r
        unfold parse2 at h
        split at h
        · cases h
        · split at h
          · rename_i h2
            have hw := fmU_zero h2
            split at h
            · cases h
            · exact parse3_right hn hw h
          · cases h
    · cases h
theorem parseR_right {s : ByteArray} {u : U} (h : parseR s = .ok u) : u.right = 0 ∧ 1 ≤ u.steps.length := by
  unfold parseR at h
  split at h
  · cases h
  · exact parseL_right h
theorem right_names {u : U} (hr : u.right = 0) : namesGo [] u.cites = 0 ∧ u.states.written = 0 ∧ ∀ s ∈ u.steps, s.why = 0 ∧ s.says.written = 0 := by
  have hn : namesGo [] u.cites = 0 ∧ u.states.written = 0 ∧ stepsGo 0 u.steps = 0 := by
    unfold U.right at hr
    (repeat' split at hr) <;> simp_all
  exact ⟨hn.1, hn.2.1, (stepsGo_zero u.steps 0 hn.2.2).2⟩
theorem right_okN {u : U} (hr : u.right = 0) (hok : u.ok) : u.okN := by
  obtain ⟨h1, h2, h3⟩ := right_names hr
  refine ⟨hok, fun s hs => ?_, fun s hs => ?_⟩
  · have := name_len ((namesGo_zero u.cites [] h1).2 s hs)
    omega
  · obtain ⟨h4, h5⟩ := why_zero (h3 s hs).1
    have := cite_len h4 (fun h => name_len (h5 h))
    omega
end Go.Proofs.YtkdendaohlnlcaaGreatDoor.Av

/- The law of UnitTells answers true, whatever the text is. No condition. -/
namespace Go.Proofs.YtkdendaohlnlcaaGreatDoor.Av
set_option linter.unusedVariables false
set_option linter.unusedSimpArgs false
set_option maxRecDepth 4000
set_option maxHeartbeats 1000000
variable {w0 : Base} {k : List Nat} {H : Hp}
theorem rgt_ok {e : E} (h : e.ok) : (rgt e).1.ok := by
  unfold rgt
  split
  · exact h
  · exact noE_ok
theorem plainE_ok {e : E} : (plainE e).1.ok := by
  unfold plainE
  split
  · rename_i h
    exact rgt_ok (E.unf_ok (right_sh h))
  · exact noE_ok
theorem tellsE_ok (s : ByteArray) : (tellsE s).1.ok := by
  unfold tellsE
  split
  · exact plainE_ok
  · exact noE_ok
theorem citesE_len (s : ByteArray) : ((citesE s).length : Int) ≤ 9223372036854775807 := by
  unfold citesE
  split
  · rename_i h
    exact (parseR_ok h).1
  · simp
def specUt (hm : MaxW w0) : Spec := (((((Spec.no.add 12 (sp1 dS (fun _ => True) fun s => .tup [(tellsE s).1.av, .bool (tellsE s).2])).add 13 (sp1 dS (fun _ => True) fun s => .tup [(tellsE s).1.av, .bool (tellsE s).2])).add 16 (sp1 dS (fun _ => True) fun s => .list .none ((citesE s).map cS.enc))).add 17 (sp1 dS (fun _ => True) fun s => .list .none ((citesE s).map cS.enc))).add
  14 (sp2 dE dE (fun a _ => a.ok) fun a b => .bool (a.like b))).add 15 (sp2 (dL cS) (dL cS) (fun l _ => (l.length : Int) ≤ 9223372036854775807) fun l m => .bool (likeN l m))
theorem specUt_ok (hm : MaxW w0) : SpecOk Tryz.prog w0 (specUt hm) := (((((Spec.no_ok.add (sp1_ok fun s _ k H => tellsP_call hm s)).add (sp1_ok fun s _ k H => tells09_call s)).add (sp1_ok fun s _ k H => citesP_call hm s)).add (sp1_ok fun s _ k H => cites09x_call s)).add (sp2_ok fun a b h k H => like02_call a b h)).add (sp2_ok fun l m h k H => likeNames_call l m h)
theorem unitTells_call (hm : MaxW w0) (s : ByteArray) : CallAt Tryz.prog w0 k 5 [.str s] H H (.bool true) := by
  refine callAt tabOk (specUt_ok hm) mixed Tryz.func5 rfl rfl Tryz.results5 Tryz.ntmps5 (by simp) [] ?_
  intro hfr t hl ht
  simp only [At, Nat.reduceAdd, List.cons_append, List.nil_append] at ht
  have fN : ∀ (a b : Nat) z ty, H ⟨z, a :: b :: k, ty⟩ = none := fun a b z ty => hfr _ (sfx2 _ _ _)
  have hok := tellsE_ok s
  have hlen := citesE_len s
  have h1 : ((tellsE s).2 == (tellsE s).2) = true := by simp
  have h2 : (tellsE s).1.like (tellsE s).1 = true := E.like_iff.2 rfl
  have h3 : likeN (citesE s) (citesE s) = true := likeN_iff.2 rfl
  simp (config := {contextual := true, maxSteps := 5000000}) only [go_sem, false_and, Nat.reduceAdd, Nat.reduceLT, Nat.reduceBEq, Nat.reduceSub, Nat.reduceMul, Nat.reduceLeDiff, Int.reduceToNat, Nat.reduceEqDiff, Nat.reduceMod, ht, hl, specUt, toE_at, h3]
  exact ⟨fun _ => ⟨hok, fun _ => ⟨hlen, by (repeat (first | exact Hp.Le.refl _ | refine Hp.le_upd ?_ (fN _ _ _ _)))⟩, fun h => by rw [h2] at h; cases h⟩, fun h => by rw [h1] at h; cases h⟩
end Go.Proofs.YtkdendaohlnlcaaGreatDoor.Av

/- The law of UnitAgain answers true, whatever the text is. No condition. -/
namespace Go.Proofs.YtkdendaohlnlcaaGreatDoor.Av
set_option linter.unusedVariables false
set_option linter.unusedSimpArgs false
set_option maxRecDepth 4000
set_option maxHeartbeats 1000000
variable {w0 : Base} {k : List Nat} {H : Hp}
def specUa (hm : MaxW w0) : Spec := ((((((((Spec.no.add 12 (sp1 dS (fun _ => True) fun s => .tup [(tellsE s).1.av, .bool (tellsE s).2])).add 16 (sp1 dS (fun _ => True) fun s => .list .none ((citesE s).map cS.enc))).add
  15 (sp2 (dL cS) (dL cS) (fun l _ => (l.length : Int) ≤ 9223372036854775807) fun l m => .bool (likeN l m))).add 19 (sp1 (dA cU) (fun u => u.okN) fun u => .tup [.str (T u.printT), .int .i64 u.printE])).add 18 (sp1 (dA cU) (fun u => u.okN) fun u => .tup [.str (T u.printT), .int .i64 u.printE])).add
  8 (sp1 dS (fun _ => True) fun s => (parseR s).av)).add 9 (sp1 dS (fun _ => True) fun s => (parseR s).av)).add 20 (sp1 (dA cU) (fun u => u.okN) fun u => .int .i64 u.right)).add 10 (sp2 (dA cU) (dA cU) (fun a _ => a.ok) fun a b => .bool (a.like b))
theorem specUa_ok (hm : MaxW w0) (hw : TabW w0) : SpecOk Tryz.prog w0 (specUa hm) := ((((((((Spec.no_ok.add (sp1_ok fun s _ k H => tellsP_call hm s)).add (sp1_ok fun s _ k H => citesP_call hm s)).add (sp2_ok fun l m h k H => likeNames_call l m h)).add (sp1_ok fun u h k H => printU_call hw u h)).add (sp1_ok fun u h k H => printR_call hw u h.1)).add
  (sp1_ok fun s _ k H => parseU_call hm s)).add (sp1_ok fun s _ k H => parse09_call s)).add (sp1_ok fun u h k H => right_call u h)).add (sp2_ok fun a b h k H => like09_call a b h)
theorem unitAgain_call (hm : MaxW w0) (hw : TabW w0) (s : ByteArray) : CallAt Tryz.prog w0 k 7 [.str s] H H (.bool true) := by
  refine callAt tabOk (specUa_ok hm hw) mixed Tryz.func7 rfl rfl Tryz.results7 Tryz.ntmps7 (by simp) [] ?_
  intro hfr t hl ht
  simp only [At, Nat.reduceAdd, List.cons_append, List.nil_append] at ht
  have fN : ∀ (a b : Nat) z ty, H ⟨z, a :: b :: k, ty⟩ = none := fun a b z ty => hfr _ (sfx2 _ _ _)
  have n00 : ((0 : Int) != 0) = false := rfl
  have e00 : ((0 : Int) == 0) = true := rfl
  cases hp : parseR s with
  | err e a =>
    have he : (e != 0) = true := by simpa using parseR_ne hp
    have hee : (e != e) = false := by simp
    have he2 : (e == e) = true := by simp
    have hpe : (PR.err e a).av = .tup [.agg [.list .none [], .int .i64 0, .int .i64 0, .list .none [], .list .none []], .int .i64 e, .int .i64 a] := rfl
    simp (config := {contextual := true, maxSteps := 5000000}) only [go_sem, false_and, Nat.reduceAdd, Nat.reduceLT, Nat.reduceBEq, Nat.reduceSub, Nat.reduceMul, Nat.reduceLeDiff, Int.reduceToNat, Nat.reduceEqDiff, Nat.reduceMod, ht, hl, specUa, hp, hpe, hee, he, he2]
    exact (by (repeat (first | exact Hp.Le.refl _ | refine Hp.le_upd ?_ (fN _ _ _ _))))
  | ok u =>
    have hok := parseR_ok hp
    obtain ⟨hr, hst⟩ := parseR_right hp
    have hokN := right_okN hr hok
    have hsl := hok.2.1
    have hpo : (PR.ok u).av = .tup [.agg [.list .none (u.cites.map cS.enc), .int .i64 u.states.kind, .int .i64 u.states.id, .list .none (u.states.kids.map E.cells), .list .none (u.steps.map cStep.enc)], .int .i64 0, .int .i64 0] := rfl
    have ht2 : (tellsE s).2 = true := by
      rw [tellsE, hp]
      simp [plainE_written (right_names hr).2.1]
    have hc : citesE s = u.cites := by rw [citesE, hp]
    have hrb : (u.right != 0) = false := by simp [hr]
    have hln : likeN u.cites u.cites = true := likeN_iff.2 rfl
    have hd : decide ((u.steps.length : Int) < 1) = false := by simp; omega
    have hlk : u.like u = true := U.like_iff.2 rfl
    have hcl := hok.1
    obtain ⟨q1, q2, q3, q4⟩ := hok
    obtain ⟨_, q5, q6⟩ := hokN
    have hok : u.ok := ⟨q1, q2, q3, q4⟩
    have hokN : u.okN := ⟨hok, q5, q6⟩
    by_cases h1 : u.printE = 0
    · have pa : u.printT = u.txt := by rw [U.printT, if_pos h1]
      have hq := parseR_rt h1
      simp (config := {contextual := true, maxSteps := 5000000}) only [go_sem, false_and, Nat.reduceAdd, Nat.reduceLT, Nat.reduceBEq, Nat.reduceSub, Nat.reduceMul, Nat.reduceLeDiff, Int.reduceToNat, Nat.reduceEqDiff, Nat.reduceMod, ht, hl, specUa, hp, hpo, ht2, hc, hrb, hln, hd, h1, pa, hq, n00, e00, hlk]
      ((repeat' apply And.intro) <;> first | omega | with_reducible assumption | exact Weak.refl _ | rfl | exact List.Pairwise.nil | (refine pw_of ?_; (repeat' (first | exact trivial | apply And.intro)); all_goals (first | exact .inr rfl | exact .inr trivial | exact .inl (by kernel_rfl))) | ((with_reducible (show drawOk _ = true)); kernel_rfl) | ((with_reducible (show panOk _ _ _ = true)); kernel_rfl) | (repeat (first | exact Hp.Le.refl _ | refine Hp.le_upd ?_ (fN _ _ _ _))))
    · have hn : (u.printE != 0) = true := by simpa using h1
      have hnn : (u.printE != u.printE) = false := by simp
      have hee : (u.printE == u.printE) = true := by simp
      simp (config := {contextual := true, maxSteps := 5000000}) only [go_sem, false_and, Nat.reduceAdd, Nat.reduceLT, Nat.reduceBEq, Nat.reduceSub, Nat.reduceMul, Nat.reduceLeDiff, Int.reduceToNat, Nat.reduceEqDiff, Nat.reduceMod, ht, hl, specUa, hp, hpo, ht2, hc, hrb, hln, hd, hn, hnn, hee, n00, e00]
      ((repeat' apply And.intro) <;> first | omega | with_reducible assumption | exact Weak.refl _ | rfl | exact List.Pairwise.nil | (refine pw_of ?_; (repeat' (first | exact trivial | apply And.intro)); all_goals (first | exact .inr rfl | exact .inr trivial | exact .inl (by kernel_rfl))) | ((with_reducible (show drawOk _ = true)); kernel_rfl) | ((with_reducible (show panOk _ _ _ = true)); kernel_rfl) | (repeat (first | exact Hp.Le.refl _ | refine Hp.le_upd ?_ (fN _ _ _ _))))
end Go.Proofs.YtkdendaohlnlcaaGreatDoor.Av

/- From the reading of an argument to plain data. No condition. -/
namespace Go.Proofs.YtkdendaohlnlcaaGreatDoor.Av
set_option linter.unusedVariables false
set_option linter.unusedSimpArgs false
set_option maxRecDepth 4000
set_option maxHeartbeats 1000000
open Go.RowKit
section
variable {HT : Type} {enc : TypeId × Value → HT} {P : Program} {tb : Tab} {w : World} {base : Nat} {sp : Nat → Bool} {held : Bool}

/-- What is known at the start: the world's cells. -/
def ghOf (w : World) : Gh := ⟨w.cell?, fun _ => none, fun _ => none, fun _ => none⟩
theorem sim_start (w : World) : Sim ⟨w, ghOf w⟩ (ghOf w) (fun _ => none) w where
  c := fun _ _ h => h
  v := fun _ _ h => by cases h
  d := fun _ _ h => by cases h
  t := fun _ h => by cases h
  inj := fun _ _ _ h => by cases h
  tinj := fun _ _ _ _ _ h => by cases h
  vt := fun _ _ _ _ h => by cases h
  below := Below.refl _ _
  g := Gh.Le.refl _
  r := fun _ _ h => by cases h

theorem TabOk.cellsOf (hT : TabOk P tb) {t : TypeId} {ti : TI} (e : tb t = some ti) : P.cellsOf t = ti.size := by
  obtain ⟨i, d, h1, h2, h3, h4, _⟩ := hT t ti e
  simp [Program.cellsOf, h1, h4]
theorem TabOk.under (hT : TabOk P tb) {t : TypeId} {ti : TI} (e : tb t = some ti) : ∃ d, P.underlying t = some d ∧ tdOf d = ti.td := by
  obtain ⟨i, d, h1, h2, h3, h4, _⟩ := hT t ti e
  exact ⟨d, h2, h3⟩

theorem trod_int (hT : TabOk P tb) {t : TypeId} {k : IntKind} {a b : Nat} {z : Value} (e : tb t = some ⟨.int k, a, b, z⟩) {f : Nat} {cs : List Value} {x : DataW HT × List MemPlace} (h : DataW.trod enc P w base sp held f t cs = some x) : ∃ n, cs = [.int k n] := by
  obtain ⟨d, hu, hd⟩ := hT.under e
  cases d <;> simp [tdOf] at hd
  subst hd
  cases f with
  | zero => simp [DataW.trod] at h
  | succ f =>
    unfold DataW.trod at h
    rw [hu] at h
    split at h <;> simp_all
theorem trod_str (hT : TabOk P tb) {t : TypeId} {a b : Nat} {z : Value} (e : tb t = some ⟨.string, a, b, z⟩) {f : Nat} {cs : List Value} {x : DataW HT × List MemPlace} (h : DataW.trod enc P w base sp held f t cs = some x) : ∃ s : ByteArray, cs = [.string s] ∧ s.size ≤ maxLen := by
  obtain ⟨d, hu, hd⟩ := hT.under e
  cases d <;> simp [tdOf] at hd
  cases f with
  | zero => simp [DataW.trod] at h
  | succ f =>
    unfold DataW.trod at h
    rw [hu] at h
    split at h <;> simp_all
theorem trod_struct (hT : TabOk P tb) {t : TypeId} {fs : List (Nat × TypeId)} {a b : Nat} {z : Value} (e : tb t = some ⟨.struct fs, a, b, z⟩) {f : Nat} {cs : List Value} {x : DataW HT × List MemPlace} (h : DataW.trod enc P w base sp held f t cs = some x) :
    ∃ f', f = f' + 1 ∧ cs.length = a ∧ ∀ p ∈ fs, ∃ y, DataW.trod enc P w base sp held f' p.2 ((cs.drop p.1).take (P.cellsOf p.2)) = some y := by
  obtain ⟨d, hu, hd⟩ := hT.under e
  have hc := hT.cellsOf e
  cases d <;> simp [tdOf] at hd
  rename_i fa
  cases f with
  | zero => simp [DataW.trod] at h
  | succ f =>
    refine ⟨f, rfl, ?_⟩
    unfold DataW.trod at h
    rw [hu] at h
    have key : (if cs.length = P.cellsOf t then (fa.toList.mapM fun g => DataW.trod enc P w base sp held f g.type ((cs.drop g.offset).take (P.cellsOf g.type))).map fun xs => ((.agg (xs.map (·.1)) : DataW HT), xs.flatMap (·.2)) else none) = some x := by
      rcases cs with _ | ⟨c, _ | ⟨c2, cs⟩⟩
      · exact h
      · cases c <;> exact h
      · cases c <;> exact h
    split at key
    · rename_i hl
      refine ⟨by rw [hl, hc], ?_⟩
      cases hm : fa.toList.mapM fun g => DataW.trod enc P w base sp held f g.type ((cs.drop g.offset).take (P.cellsOf g.type)) with
      | none => rw [hm] at key; simp at key
      | some xs =>
        intro p hp
        rw [← hd] at hp
        obtain ⟨g, hg, rfl⟩ := List.mem_map.1 hp
        obtain ⟨i, hi, hgi⟩ := List.getElem_of_mem hg
        have := mapM_some_get hm i g (by rw [← hgi]; simp)
        have hlen := mapM_some_length hm
        have hx : i < xs.length := by omega
        exact ⟨xs[i], by simpa [hx] using this⟩
    · cases key
theorem trod_slice (hT : TabOk P tb) {t el : TypeId} {a b : Nat} {z : Value} (e : tb t = some ⟨.slice el, a, b, z⟩) {te : TI} (he : tb el = some te) {α : Type} (D : DecC α) (hD : D.sz = te.size) (okA : α → Prop) {f : Nat}
    (helem : ∀ cs y, DataW.trod enc P w base sp held (f - 1) el cs = some y → ∃ u : α, okA u ∧ RepL (ghOf w) (D.enc u) cs) {cs : List Value} {x : DataW HT × List MemPlace} (h : DataW.trod enc P w base sp held f t cs = some x) :
    ∃ (l : List α) (V : Value), cs = [V] ∧ Rep (ghOf w) (.list .none (l.map D.enc)) V ∧ l.length ≤ maxLen ∧ ∀ u ∈ l, okA u := by
  obtain ⟨d, hu, hd⟩ := hT.under e
  have hc := hT.cellsOf he
  cases d <;> simp [tdOf] at hd
  subst hd
  cases f with
  | zero => simp [DataW.trod] at h
  | succ f =>
    simp only [Nat.add_sub_cancel] at helem
    unfold DataW.trod at h
    rw [hu] at h
    split at h <;> try (simp_all; done)
    · exact ⟨[], _, rfl, by simp only [Rep]; exact ⟨none, 0, 0, rfl, rfl, Nat.le_refl _, trivial, ⟨0, by simp⟩, ⟨0, 0, none⟩, by simp, by simp [RepE]⟩, by simp, by simp⟩
    · rename_i d1 c1 el2 ad n c heq
      cases heq
      simp only at h
      split at h
      · rename_i hb
        obtain ⟨hb1, hb2, hb3⟩ := hb
        simp only [Option.bind_eq_some_iff] at h
        obtain ⟨elems, hm, _⟩ := h
        have hlen := mapM_some_length hm
        simp only [List.length_range] at hlen
        have each : ∀ i, i < n → ∃ u : α, okA u ∧ RepC (ghOf w) ad (i * D.sz) (D.enc u) := fun i hi => by
          have h1 := mapM_some_get hm i i (by simp [hi])
          rw [show elems[i]? = some (elems[i]'(by omega)) by simp [show i < elems.length by omega]] at h1
          obtain ⟨cs, h2, h3⟩ := Option.bind_eq_some_iff.1 h1
          obtain ⟨u, h4, h5⟩ := helem cs _ h3
          obtain ⟨_, h6, h7⟩ := World.cells?_some h2
          refine ⟨u, h4, RepC_of_list _ _ cs h5 fun j v hj => ?_⟩
          have hjl : j < cs.length := (List.getElem?_eq_some_iff.1 hj).1
          have h8 := h7 j (by omega)
          rw [Addr.add_add, hc, ← hD, hj] at h8
          exact h8
        have all : ∀ m i, i + m = n → ∃ l : List α, l.length = m ∧ RepE (ghOf w) ad (i * D.sz) (l.map D.enc) ∧ ∀ u ∈ l, okA u := by
          intro m
          induction m with
          | zero => exact fun i _ => ⟨[], rfl, by simp [RepE], by simp⟩
          | succ m ih =>
            intro i him
            obtain ⟨u, hu1, hu2⟩ := each i (by omega)
            obtain ⟨l, hl1, hl2, hl3⟩ := ih (i + 1) (by omega)
            refine ⟨u :: l, by simp [hl1], ?_, ?_⟩
            · simp only [List.map_cons, RepE]
              refine ⟨hu2, ?_⟩
              rw [D.elen, show i * D.sz + D.sz = (i + 1) * D.sz by rw [Nat.add_mul]; omega]
              exact hl2
            · intro v hv
              rcases List.mem_cons.1 hv with rfl | hv
              · exact hu1
              · exact hl3 v hv
        obtain ⟨l, hl1, hl2, hl3⟩ := all n 0 (by omega)
        refine ⟨l, _, rfl, ?_, by omega, hl3⟩
        simp only [Rep]
        refine ⟨some ad, n, c, rfl, by simp [hl1], hb2, trivial, ⟨D.sz, fun x hx => ?_⟩, ad, fun _ => rfl, by simpa using hl2⟩
        obtain ⟨y, _, rfl⟩ := List.mem_map.1 hx
        exact D.elen y
      · cases h
end
section
variable {HT : Type} {enc : TypeId × Value → HT} {w : World} {base : Nat} {sp : Nat → Bool} {held : Bool}
theorem maxLen_int {n : Nat} (h : n ≤ maxLen) : (n : Int) ≤ 9223372036854775807 := by
  have : maxLen = 9223372036854775807 := by decide
  omega
theorem E.ok_mk {k i : Int} {l : List E} (h1 : l.length ≤ maxLen) (h2 : ∀ u ∈ l, E.ok u) : (E.mk k i l).ok := by
  refine ⟨maxLen_int h1, ?_⟩
  clear h1
  induction l with
  | nil => trivial
  | cons u l ih => exact ⟨h2 u (by simp), ih fun v hv => h2 v (by simp [hv])⟩
theorem trodE : ∀ (f : Nat) (cs : List Value) (x : DataW HT × List MemPlace), DataW.trod enc Tryz.prog w base sp held f 25 cs = some x → ∃ e : E, e.ok ∧ RepL (ghOf w) e.cells cs := by
  intro f
  induction f using Nat.strongRecOn with
  | _ f ih =>
    intro cs x h
    obtain ⟨f', rfl, hl, hp⟩ := trod_struct tabOk (tab_25) h
    obtain ⟨a, b, c, rfl⟩ : ∃ a b c, cs = [a, b, c] := by
      match cs, hl with
      | [a, b, c], _ => exact ⟨a, b, c, rfl⟩
    obtain ⟨y1, h1⟩ := hp _ (by simp : (0, 3) ∈ _)
    obtain ⟨y2, h2⟩ := hp _ (by simp : (1, 3) ∈ _)
    obtain ⟨y3, h3⟩ := hp _ (by simp : (2, 23) ∈ _)
    simp only [tabOk.cellsOf tab_3, tabOk.cellsOf tab_23, List.drop_zero, List.drop_succ_cons, List.take_succ_cons, List.take_zero] at h1 h2 h3
    obtain ⟨n1, e1⟩ := trod_int tabOk tab_3 h1
    obtain ⟨n2, e2⟩ := trod_int tabOk tab_3 h2
    obtain ⟨l, V, e3, hr, hml, hok⟩ := trod_slice tabOk tab_23 tab_25 cE rfl E.ok (fun cs y hy => ih (f' - 1) (by omega) cs y hy) h3
    simp only [List.cons.injEq, and_true] at e1 e2 e3
    subst e1 e2 e3
    refine ⟨.mk n1 n2 l, E.ok_mk hml hok, ?_⟩
    simp only [E.cells, RepL, E.cellsL_eq]
    exact ⟨_, _, rfl, by simp [Rep], _, _, rfl, by simp [Rep], _, _, rfl, hr, rfl⟩
theorem trodS (f : Nat) (cs : List Value) (x : DataW HT × List MemPlace) (h : DataW.trod enc Tryz.prog w base sp held f 9 cs = some x) : ∃ s : ByteArray, (s.size : Int) ≤ 9223372036854775807 ∧ RepL (ghOf w) (cS.enc s) cs := by
  obtain ⟨s, rfl, hs⟩ := trod_str tabOk tab_9 h
  exact ⟨s, maxLen_int hs, by simp only [cS, RepL]; exact ⟨_, _, rfl, by simp [Rep], rfl⟩⟩
theorem trodStep (f : Nat) (cs : List Value) (x : DataW HT × List MemPlace) (h : DataW.trod enc Tryz.prog w base sp held f 50 cs = some x) : ∃ s : Step, (s.says.ok ∧ (s.cite.size : Int) ≤ 9223372036854775807) ∧ RepL (ghOf w) (cStep.enc s) cs := by
  obtain ⟨f', rfl, hl, hp⟩ := trod_struct tabOk (tab_50) h
  obtain ⟨a, b, c, d, e, g, i, rfl⟩ : ∃ a b c d e g i, cs = [a, b, c, d, e, g, i] := by
    match cs, hl with
    | [a, b, c, d, e, g, i], _ => exact ⟨a, b, c, d, e, g, i, rfl⟩
  obtain ⟨y1, h1⟩ := hp _ (by simp : (0, 25) ∈ _)
  obtain ⟨y2, h2⟩ := hp _ (by simp : (3, 3) ∈ _)
  obtain ⟨y3, h3⟩ := hp _ (by simp : (4, 3) ∈ _)
  obtain ⟨y4, h4⟩ := hp _ (by simp : (5, 3) ∈ _)
  obtain ⟨y5, h5⟩ := hp _ (by simp : (6, 9) ∈ _)
  simp only [tabOk.cellsOf tab_3, tabOk.cellsOf tab_25, tabOk.cellsOf tab_9, List.drop_zero, List.drop_succ_cons, List.take_succ_cons, List.take_zero] at h1 h2 h3 h4 h5
  obtain ⟨e0, hok, hr⟩ := trodE _ _ _ h1
  obtain ⟨n2, e2⟩ := trod_int tabOk tab_3 h2
  obtain ⟨n3, e3⟩ := trod_int tabOk tab_3 h3
  obtain ⟨n4, e4⟩ := trod_int tabOk tab_3 h4
  obtain ⟨s5, e5, hs⟩ := trod_str tabOk tab_9 h5
  simp only [List.cons.injEq, and_true] at e2 e3 e4 e5
  subst e2 e3 e4 e5
  refine ⟨⟨e0, n2, n3, n4, s5⟩, ⟨hok, maxLen_int hs⟩, ?_⟩
  rw [E.cells_eq] at hr
  have hr2 : RepL (ghOf w) [.int .i64 n2, .int .i64 n3, .int .i64 n4, .str s5] [.int .i64 n2, .int .i64 n3, .int .i64 n4, .string s5] := by
    simp only [RepL]
    exact ⟨_, _, rfl, by simp [Rep], _, _, rfl, by simp [Rep], _, _, rfl, by simp [Rep], _, _, rfl, by simp [Rep], rfl⟩
  exact RepL.append hr hr2
theorem trodU (f : Nat) (cs : List Value) (x : DataW HT × List MemPlace) (h : DataW.trod enc Tryz.prog w base sp held f 28 cs = some x) : ∃ u : U, u.okN ∧ RepL (ghOf w) (cU.enc u) cs := by
  obtain ⟨f', rfl, hl, hp⟩ := trod_struct tabOk (tab_28) h
  obtain ⟨a, b, c, d, e, rfl⟩ : ∃ a b c d e, cs = [a, b, c, d, e] := by
    match cs, hl with
    | [a, b, c, d, e], _ => exact ⟨a, b, c, d, e, rfl⟩
  obtain ⟨y1, h1⟩ := hp _ (by simp : (0, 22) ∈ _)
  obtain ⟨y2, h2⟩ := hp _ (by simp : (1, 25) ∈ _)
  obtain ⟨y3, h3⟩ := hp _ (by simp : (4, 26) ∈ _)
  simp only [tabOk.cellsOf tab_22, tabOk.cellsOf tab_25, tabOk.cellsOf tab_26, List.drop_zero, List.drop_succ_cons, List.take_succ_cons, List.take_zero] at h1 h2 h3
  obtain ⟨l, V, e1, hr1, hml1, hok1⟩ := trod_slice tabOk tab_22 tab_9 cS rfl (fun s => (s.size : Int) ≤ 9223372036854775807) (fun cs y hy => trodS _ cs y hy) h1
  obtain ⟨e0, hok, hr⟩ := trodE _ _ _ h2
  obtain ⟨m, V3, e3, hr3, hml3, hok3⟩ := trod_slice tabOk tab_26 tab_50 cStep rfl (fun s : Step => s.says.ok ∧ (s.cite.size : Int) ≤ 9223372036854775807) (fun cs y hy => trodStep _ cs y hy) h3
  simp only [List.cons.injEq, and_true] at e1 e3
  subst e1 e3
  refine ⟨⟨l, e0, m⟩, ⟨⟨maxLen_int hml1, maxLen_int hml3, hok, fun s hs => (hok3 s hs).1⟩, hok1, fun s hs => (hok3 s hs).2⟩, ?_⟩
  rw [E.cells_eq] at hr
  have q1 : RepL (ghOf w) [.list .none (l.map cS.enc)] [a] := repL_one hr1
  have q3 : RepL (ghOf w) [.list .none (m.map cStep.enc)] [e] := repL_one hr3
  exact RepL.append q1 (RepL.append hr q3)
end
end Go.Proofs.YtkdendaohlnlcaaGreatDoor.Av
