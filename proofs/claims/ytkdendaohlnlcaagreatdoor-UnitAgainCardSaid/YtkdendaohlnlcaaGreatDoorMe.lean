/- A part of the theory and of the contracts: Tk6, G14, Av21, Lc, Bd, Lb, Rt1, P03, Lk0, R08, Rt2, R09, R09b, U1, U2, U3, Rt3, U4. No condition. -/
import Derived.Test.YtkdendaohlnlcaaGreatDoorMd
import Derived.Lib.SplitLaws
import Derived.Test.YtkdendaohlnlcaaGreatDoorMc
import Derived.WalkSmall
import Derived.Lib.ItoaLen
/- What parse.Tokens answers. No condition. -/
namespace Go.Proofs.YtkdendaohlnlcaaGreatDoor.Av
set_option linter.unusedVariables false
set_option linter.unusedSimpArgs false
set_option maxRecDepth 4000
set_option maxHeartbeats 1000000
variable {w0 : Base} {k : List Nat} {H : Hp}
def specTp : Spec := ((Spec.no.add 150 (sp1 dR (fun _ => True) fun c => .tup [.int .i64 (symK c), .int .i64 (symM c)])).add 151 (sp2 dS dR (fun s c => s = signsB ∧ 0 ≤ c) fun _ c => .bool (isSign c))).add
  152 (sp2 dS dI (fun s m => (m = 63 ∨ m = 99) ∧ s.size ≤ 140737488355328) fun s m => .tup [.int .i64 (numR s m).1, .int .i64 ((numR s m).2 : Nat)])
theorem specTp_ok : SpecOk Tryz.prog w0 specTp := ((Spec.no_ok.add (sp1_ok fun c _ k H => symbol_call c)).add (sp2_ok fun s c h k H => by obtain ⟨rfl, h⟩ := h; exact containsRune_call c h)).add (sp2_ok fun s m h k H => numberP_call s m h.1 h.2)
theorem isSign_small {c : Int} (h : isSign c = true) : c < 128 := by
  simp only [isSign, List.any_eq_true, signs, List.mem_cons, List.not_mem_nil, or_false, beq_iff_eq] at h
  obtain ⟨x, hx, rfl⟩ := h
  omega
theorem symK_cases (c : Int) : symK c = 0 ∧ most c = -1 ∨ (symK c = kindOf c ∧ symM c = most c ∧ (most c = 63 ∨ most c = 99) ∧ symK c ≠ 0 ∧ isSign c = false ∧ c < 128) := by
  unfold symK symM most kindOf
  by_cases h1 : c = 120
  · subst h1; right; decide
  · by_cases h2 : c = 102
    · subst h2; right; decide
    · by_cases h3 : c = 80
      · subst h3; right; decide
      · left; simp [h1, h2, h3]
theorem tokens_call (s : ByteArray) : CallAt Tryz.prog w0 k 112 [.str s] H H (toks s).av := by
  refine callAt tabOk specTp_ok mixed Tryz.func112 rfl rfl Tryz.results112 Tryz.ntmps112 (by simp) [] ?_
  intro hfr t hl ht
  simp only [At, Nat.reduceAdd, List.cons_append, List.nil_append] at ht
  simp (config := {contextual := true, maxSteps := 5000000}) only [go_sem, false_and, Nat.reduceAdd, Nat.reduceLT, Nat.reduceBEq, Nat.reduceSub, Nat.reduceMul, Nat.reduceLeDiff, Int.reduceToNat, Nat.reduceEqDiff, Nat.reduceMod, ht, hl]
  refine ⟨fun a => ?_, fun a => ?_⟩ <;> simp only [decide_eq_true_eq, decide_eq_false_iff_not] at a
  · rw [toks, if_pos (by omega)]
    exact Weak.refl _
  · have htk : toks s = tkGo s 0 [] := by rw [toks, if_neg (by omega)]
    refine strRange (s := s) (mb := []) tabOk specTp_ok mixed rfl rfl rfl rfl rfl rfl tab_9 rfl rfl rfl rfl rfl rfl (by simp (config := {contextual := true, maxSteps := 5000000}) only [go_sem, false_and, Nat.reduceAdd, Nat.reduceLT, Nat.reduceBEq, Nat.reduceSub, Nat.reduceMul, Nat.reduceLeDiff, Int.reduceToNat, Nat.reduceEqDiff, Nat.reduceMod, ht, hl]) (by simp [hl])
      (fun pos x => x.tmps.length = 75 ∧ x.tmps.getD 0 AV.undef = .str s ∧ x.tmps.getD 17 AV.undef = .iter ⟨0, 0 :: 4 :: k, 0⟩ ∧ ∃ (l : List Tk) (tk : Tok) (nx : Nat), x.tmps.getD 5 AV.undef = .list tk (l.map Tk.cells) ∧ x.tmps.getD 6 AV.undef = .int .i64 nx ∧ LstAt H 3 141 tk x.H ∧ pos ≤ s.size ∧ nx ≤ s.size ∧
        (∀ i : Nat, pos ≤ i → i < nx → isDig (byteAt s i) = true) ∧ l.length ≤ max pos nx ∧ tkGo s (max pos nx) l = toks s) ?_ ?_ ?_ ?_
    · simp (config := {contextual := true, maxSteps := 5000000}) only [go_sem, false_and, Nat.reduceAdd, Nat.reduceLT, Nat.reduceBEq, Nat.reduceSub, Nat.reduceMul, Nat.reduceLeDiff, Int.reduceToNat, Nat.reduceEqDiff, Nat.reduceMod, ht, hl]
      exact ⟨[], .nil, 0, rfl, rfl, ⟨Hp.Le.refl _, .inl (.inl rfl)⟩, by omega, by omega, fun i _ h => absurd h (by omega), by simp, htk.symm⟩
    · rintro pos ⟨t, n, H'⟩ ⟨hl, h0, h17, _⟩
      simp only at hl h0 h17
      exact ⟨h17, by simp [hl], by simp [hl]⟩
    · rintro pos ⟨t, n, H2⟩ hpos ⟨hl, h0, h17, l, tk, nx, h5, h6, hL, hp, hnx, hdg, hlp, hgo⟩
      simp only at hl h0 h17 h5 h6 hL
      have hc : (byteAt s pos < 128 ∧ (((Utf8.decode s pos).1 : Nat) : Int) = byteAt s pos ∧ (Utf8.decode s pos).2 = 1) ∨ 128 ≤ (((Utf8.decode s pos).1 : Nat) : Int) ∧ 128 ≤ byteAt s pos := by
        rcases Int.lt_or_le (byteAt s pos) 128 with h | h
        · exact .inl ⟨h, decode_small hpos h⟩
        · exact .inr ⟨decode_big hpos h, h⟩
      have hc0 : (0 : Int) ≤ (((Utf8.decode s pos).1 : Nat) : Int) := by omega
      have hcu : (((Utf8.decode s pos).1 : Nat) : Int) < 2147483648 := by
        have : (Utf8.decode s pos).1 < 2147483648 := by
          have hb := byteAt_get s pos hpos
          have hb2 := (byteAt_lt s pos).2
          unfold Utf8.decode
          simp only [Nat.add_zero]
          (repeat' split) <;> simp only [Utf8.runeError] <;> omega
        omega
      generalize (((Utf8.decode s pos).1 : Nat) : Int) = c at hc hc0 hcu ⊢
      generalize (Utf8.decode s pos).2 = wd at hc ⊢
      have hw : IntKind.i64.wrap ((pos : Int) + 1) = ((pos + 1 : Nat) : Int) := by rw [wrap_i64] <;> omega
      have hwc : IntKind.i64.wrap c = c := wrap_i64 (by omega) (by omega)
      by_cases hn : pos < nx
      · -- a digit that was read
        have hd : decide ((pos : Int) < (nx : Int)) = true := by simp [hn]
        have hdp := hdg pos (Nat.le_refl _) hn
        simp only [isDig, Bool.and_eq_true, decide_eq_true_eq] at hdp
        obtain ⟨e1, e2, e3⟩ | e1 := hc
        · subst e3
          simp (config := {contextual := true, maxSteps := 5000000}) only [go_sem, false_and, Nat.reduceAdd, Nat.reduceLT, Nat.reduceBEq, Nat.reduceSub, Nat.reduceMul, Nat.reduceLeDiff, Int.reduceToNat, Nat.reduceEqDiff, Nat.reduceMod, h0, h17, h5, h6, hl, hd, hw, hwc, specTp]
          exact ⟨l, tk, nx, rfl, rfl, hL, by omega, hnx, fun i h1 h2 => hdg i (by omega) h2, by omega, by rw [show max (pos + 1) nx = max pos nx by omega]; exact hgo⟩
        · omega
      · have hd : decide ((pos : Int) < (nx : Int)) = false := by simp; omega
        have hmx : max pos nx = pos := by omega
        rw [hmx] at hgo hlp
        simp (config := {contextual := true, maxSteps := 5000000}) only [go_sem, false_and, Nat.reduceAdd, Nat.reduceLT, Nat.reduceBEq, Nat.reduceSub, Nat.reduceMul, Nat.reduceLeDiff, Int.reduceToNat, Nat.reduceEqDiff, Nat.reduceMod, h0, h17, h5, h6, hl, hd, hw, hwc, specTp]
        have hl8 : l.length ≤ 8000 := by omega
        have ho : tokOne s pos = if byteAt s pos = 32 ∨ byteAt s pos = 9 then .skip
          else if isSign (byteAt s pos) = true then .tok ⟨4, byteAt s pos, pos⟩ 0
          else if most (byteAt s pos) < 0 then .err 30
          else if (numB s pos (most (byteAt s pos))).2 = 0 then .err 31
          else .tok ⟨kindOf (byteAt s pos), (numB s pos (most (byteAt s pos))).1, pos⟩ (numB s pos (most (byteAt s pos))).2 := rfl
        have hskip : c = 32 ∨ c = 9 → ∃ (l_1 : List Tk) (tk_1 : Tok) (nx_1 : Nat), AV.list tk (List.map Tk.cells l) = AV.list tk_1 (List.map Tk.cells l_1) ∧ (nx : Int) = (nx_1 : Int) ∧ LstAt H 3 141 tk_1 H2 ∧ pos + wd ≤ s.size ∧ nx_1 ≤ s.size ∧ (∀ i : Nat, pos + wd ≤ i → i < nx_1 → isDig (byteAt s i) = true) ∧ l_1.length ≤ max (pos + wd) nx_1 ∧ tkGo s (max (pos + wd) nx_1) l_1 = toks s := fun h => by
          obtain ⟨e1, e2, e3⟩ | e1 := hc
          · subst e3
            exact ⟨l, tk, nx, rfl, rfl, hL, by omega, hnx, fun i h1 h2 => by omega, by omega, by rw [show max (pos + 1) nx = pos + 1 by omega, ← hgo, tkGo_skip hpos (by rw [ho, if_pos (by omega)])]⟩
          · omega
        refine ⟨fun a => ⟨fun b => hskip (.inr (by simpa using b)), fun b => ?_⟩, fun a => hskip (.inl (by simpa using a))⟩
        clear hskip
        simp only [beq_eq_false_iff_ne, ne_eq] at a b
        have hn1 : ¬ (byteAt s pos = 32 ∨ byteAt s pos = 9) := by omega
        rw [if_neg hn1] at ho
        refine ⟨fun d => ⟨⟨rfl, hc0⟩, fun e => ?_, fun e => ?_⟩, fun d => ?_⟩
        · -- no sign, no letter
          simp only [Bool.not_eq_true'] at e
          simp only [beq_iff_eq] at d
          have hm1 : most c = -1 := by
            rcases symK_cases c with h | h
            · exact h.2
            · exact absurd d h.2.2.2.1
          have hres : isSign (byteAt s pos) = false ∧ most (byteAt s pos) < 0 := by
            obtain ⟨e1, e2, e3⟩ | e1 := hc
            · rw [← e2]
              exact ⟨e, by omega⟩
            · refine ⟨?_, ?_⟩
              · cases hh : isSign (byteAt s pos) with
                | false => rfl
                | true => have := isSign_small hh; omega
              · unfold most
                rw [if_neg (by omega), if_neg (by omega)]
                omega
          rw [if_neg (by simp [hres.1]), if_pos hres.2] at ho
          rw [← hgo, tkGo_err hpos ho]
          exact ⟨Weak.refl _, hL.le⟩
        · simp only [Bool.not_eq_false'] at e
          have hsm := isSign_small e
          obtain ⟨e1, e2, e3⟩ | e1 := hc
          · subst e3
            rw [← e2, if_pos e] at ho
            obtain ⟨q1, q2, q3, q4, q5, q6⟩ := push_ok hL hl8 ⟨4, c, pos⟩
            exact ⟨q1, q2, q3, q4, q5, q6, l ++ [⟨4, c, pos⟩], _, nx, by rw [List.map_append]; rfl, rfl, hL.push (hfr _ (sfx2 _ _ _)), by omega, hnx, fun i h1 h2 => by omega, by simp; omega, by rw [show max (pos + 1) nx = pos + 1 + 0 by omega, ← hgo, tkGo_tok hpos ho]⟩
          · omega
        · simp only [beq_eq_false_iff_ne, ne_eq] at d
          obtain ⟨k1, k2, k3, k4, k5, k6⟩ : symK c = kindOf c ∧ symM c = most c ∧ (most c = 63 ∨ most c = 99) ∧ symK c ≠ 0 ∧ isSign c = false ∧ c < 128 := by
            rcases symK_cases c with h | h
            · exact absurd h.1 d
            · exact h
          obtain ⟨e1, e2, e3⟩ | e1 := hc
          · subst e3
            rw [← e2, if_neg (by simp [k5]), if_neg (by omega)] at ho
            rw [k1, k2]
            obtain ⟨g1, g2⟩ := num_agree (s := s) (p := pos) k3 hpos
            have hes : (s.extract (pos + 1) s.size).size ≤ 140737488355328 := by simp [ByteArray.size_extract]; omega
            refine ⟨⟨by omega, by omega⟩, ⟨k3, hes⟩, fun f => ?_, fun f => ?_⟩
            · have hz : (numB s pos (most c)).2 = 0 := by
                have := beq_iff_eq.1 f
                unfold numB
                omega
              rw [if_pos hz] at ho
              rw [← hgo, tkGo_err hpos ho]
              exact ⟨Weak.refl _, hL.le⟩
            · have hz : ¬ (numB s pos (most c)).2 = 0 := by
                have := beq_eq_false_iff_ne.1 f
                unfold numB
                omega
              rw [if_neg hz] at ho
              obtain ⟨g3, g4, g5⟩ := g2 hz
              have hdl := digs_le s (pos + 1)
              have hwn : IntKind.i64.wrap (((pos + 1 : Nat) : Int) + ((numR (s.extract (pos + 1) s.size) (most c)).2 : Nat)) = ((pos + 1 + (numB s pos (most c)).2 : Nat) : Int) := by
                have : (numR (s.extract (pos + 1) s.size) (most c)).2 = (numB s pos (most c)).2 := rfl
                rw [this, wrap_i64] <;> omega
              rw [hwn]
              obtain ⟨q1, q2, q3, q4, q5, q6⟩ := push_ok hL hl8 ⟨kindOf c, (numB s pos (most c)).1, pos⟩
              exact ⟨q1, q2, q3, q4, q5, q6, l ++ [⟨kindOf c, (numB s pos (most c)).1, pos⟩], _, pos + 1 + (numB s pos (most c)).2, by rw [List.map_append]; rfl, rfl, hL.push (hfr _ (sfx2 _ _ _)), by omega, by omega, fun i h1 h2 => by
                have := digs_all (s := s) (p := pos + 1) (i := i - (pos + 1)) (by omega)
                rwa [show pos + 1 + (i - (pos + 1)) = i by omega] at this, by simp; omega, by rw [show max (pos + 1) (pos + 1 + (numB s pos (most c)).2) = pos + 1 + (numB s pos (most c)).2 by omega, ← hgo, tkGo_tok hpos ho]⟩
          · omega
    · rintro pos ⟨t, n, H2⟩ hpos ⟨hl, h0, h17, l, tk, nx, h5, h6, hL, hp, hnx, hdg, hlp, hgo⟩
      simp only at hl h0 h17 h5 h6 hL
      simp (config := {contextual := true, maxSteps := 5000000}) only [go_sem, false_and, Nat.reduceAdd, Nat.reduceLT, Nat.reduceBEq, Nat.reduceSub, Nat.reduceMul, Nat.reduceLeDiff, Int.reduceToNat, Nat.reduceEqDiff, Nat.reduceMod, h0, h17, h5, h6, hl]
      rw [← hgo, tkGo_end (by omega)]
      exact ⟨weak_list3, hL.le⟩
end Go.Proofs.YtkdendaohlnlcaaGreatDoor.Av

/- What parse.Formula answers. No condition. -/
namespace Go.Proofs.YtkdendaohlnlcaaGreatDoor.Av
set_option linter.unusedVariables false
set_option linter.unusedSimpArgs false
set_option maxRecDepth 4000
set_option maxHeartbeats 1000000
variable {w0 : Base} {k : List Nat} {H : Hp}
def specRd : Spec := (Spec.no.add 112 (sp1 dS (fun _ => True) fun s => (toks s).av)).add 70 (sp1 dE (fun e => e.ok) fun e => .int .i64 e.right)
theorem specRd_ok : SpecOk Tryz.prog w0 specRd := (Spec.no_ok.add (sp1_ok fun s _ k H => tokens_call s)).add (sp1_ok fun e h k H => rightX_call e h)
theorem read_call (s : ByteArray) : CallAt Tryz.prog w0 k 80 [.str s, .clo (.func 81) [] []] H H (fmRes s).av := by
  refine .inl (callO_of_codeD tabOk Tryz.func80 rfl rfl Tryz.func113 rfl rfl Tryz.results80 Tryz.ntmps80 ?_)
  intro hfr
  have hl : ([AV.str s, AV.clo (.func 81) [] []] ++ List.replicate (49 - [AV.str s, .clo (.func 81) [] []].length) AV.undef).length = 49 := by simp
  have ht := at_prefix (List.replicate (49 - [AV.str s, .clo (.func 81) [] []].length) AV.undef) [] [AV.str s, .clo (.func 81) [] []]
  simp only [List.nil_append, List.length_nil] at ht
  generalize ([AV.str s, AV.clo (.func 81) [] []] ++ List.replicate (49 - [AV.str s, .clo (.func 81) [] []].length) AV.undef) = t at hl ht ⊢
  simp only [At, Nat.reduceAdd, List.cons_append, List.nil_append] at ht
  show CodeD _ _ _ _ _ _ (endO _ _ _ _) _
  refine CodeD.cut tabOk specRd_ok mixed [] ?_
  simp (config := {contextual := true, maxSteps := 5000000}) only [go_sem, false_and, Nat.reduceAdd, Nat.reduceLT, Nat.reduceBEq, Nat.reduceSub, Nat.reduceMul, Nat.reduceLeDiff, Int.reduceToNat, Nat.reduceEqDiff, Nat.reduceMod, ht, hl]
  refine CodeD.cut tabOk specRd_ok mixed [] ?_
  have fN : ∀ (a b : Nat) z ty, H ⟨z, a :: b :: k, ty⟩ = none := fun a b z ty => hfr _ (sfx2 _ _ _)
  have hA : True := trivial
  have hB := hA
  have he0 : ((0 : Int) != 0) = false := rfl
  unfold fmRes
  cases htk : toks s with
  | err e a =>
    have he : (e != 0) = true := by simpa using toks_ne htk
    simp (config := {contextual := true, maxSteps := 5000000}) only [go_sem, false_and, Nat.reduceAdd, Nat.reduceLT, Nat.reduceBEq, Nat.reduceSub, Nat.reduceMul, Nat.reduceLeDiff, Int.reduceToNat, Nat.reduceEqDiff, Nat.reduceMod, ht, hl, specRd, htk, TR.av]
    refine CodeD.seq (CodeOk.vc tabOk specRd_ok mixed [] ?_)
    simp (config := {contextual := true, maxSteps := 5000000}) only [go_sem, false_and, Nat.reduceAdd, Nat.reduceLT, Nat.reduceBEq, Nat.reduceSub, Nat.reduceMul, Nat.reduceLeDiff, Int.reduceToNat, Nat.reduceEqDiff, Nat.reduceMod, ht, hl, specRd, he]
    exact ⟨by kernel_rfl, by (refine pw_of ?_; (repeat' (first | exact trivial | apply And.intro)); all_goals (first | exact .inr rfl | exact .inr trivial | exact .inr (by show _ = _; simp (config := {contextual := true, maxSteps := 5000000}) only [go_sem, false_and, Nat.reduceAdd, Nat.reduceLT, Nat.reduceBEq, Nat.reduceSub, Nat.reduceMul, Nat.reduceLeDiff, Int.reduceToNat, Nat.reduceEqDiff, Nat.reduceMod, hA, hB]) | exact .inl (by kernel_rfl))), _, rfl, Weak.refl _, by (repeat (first | exact Hp.Le.refl _ | refine Hp.le_upd ?_ (fN _ _ _ _)))⟩
  | ok l =>
    have hl8 := toks_len htk
    have hfin := fmF_fine l (l.length + 1) 0
    have hpos := fmF_le l (l.length + 1) 0 (Nat.zero_le _)
    have hF := fun id k H => formP (w0 := w0) l hl8 s.size (l.length + 1) 0 id k H (by omega) (Nat.zero_le _)
    dsimp only
    generalize fmF l (l.length + 1) 0 = g at hfin hpos hF ⊢
    cases g with
    | no q =>
      simp only [Got.out, Got.pos, wholeR] at hF ⊢
      simp (config := {contextual := true, maxSteps := 5000000}) only [go_sem, false_and, Nat.reduceAdd, Nat.reduceLT, Nat.reduceBEq, Nat.reduceSub, Nat.reduceMul, Nat.reduceLeDiff, Int.reduceToNat, Nat.reduceEqDiff, Nat.reduceMod, ht, hl, specRd, htk, TR.av]
      refine CodeD.cut tabOk specRd_ok mixed [] ?_
      simp (config := {contextual := true, maxSteps := 5000000}) only [go_sem, false_and, Nat.reduceAdd, Nat.reduceLT, Nat.reduceBEq, Nat.reduceSub, Nat.reduceMul, Nat.reduceLeDiff, Int.reduceToNat, Nat.reduceEqDiff, Nat.reduceMod, ht, hl, specRd, he0]
      refine CodeD.cut tabOk specRd_ok mixed [25] ?_
      simp (config := {contextual := true, maxSteps := 5000000}) only [go_sem, false_and, Nat.reduceAdd, Nat.reduceLT, Nat.reduceBEq, Nat.reduceSub, Nat.reduceMul, Nat.reduceLeDiff, Int.reduceToNat, Nat.reduceEqDiff, Nat.reduceMod, ht, hl, specRd]
      refine CodeD.here (l := [.tmp 4, .tmp 5, .tmp 6]) rfl rfl rfl rfl rfl rfl (by simp [hl]) ?_
      refine CodeOk.vc tabOk specRd_ok mixed [] ?_
      simp (config := {contextual := true, maxSteps := 5000000}) only [go_sem, false_and, Nat.reduceAdd, Nat.reduceLT, Nat.reduceBEq, Nat.reduceSub, Nat.reduceMul, Nat.reduceLeDiff, Int.reduceToNat, Nat.reduceEqDiff, Nat.reduceMod, ht, hl, specRd]
      refine callK_out (hF _ _ _ rfl (by simp (config := {contextual := true, maxSteps := 5000000}) only [go_sem, false_and, Nat.reduceAdd, Nat.reduceLT, Nat.reduceBEq, Nat.reduceSub, Nat.reduceMul, Nat.reduceLeDiff, Int.reduceToNat, Nat.reduceEqDiff, Nat.reduceMod]; rfl)) ?_
      simp (config := {contextual := true, maxSteps := 5000000}) only [go_sem, false_and, Nat.reduceAdd, Nat.reduceLT, Nat.reduceBEq, Nat.reduceSub, Nat.reduceMul, Nat.reduceLeDiff, Int.reduceToNat, Nat.reduceEqDiff, Nat.reduceMod, ht, hl, specRd]
      refine dfrK_of (by simp [hl]) (read1_some ⟨3, 0 :: 0 :: k, 25⟩ ⟨1, 1 :: 0 :: k, 29⟩ ⟨1, 2 :: 0 :: k, 3⟩ rfl rfl rfl l s.size q (e4 := .cells [.int .i64 0, .int .i64 0, .list .nil []]) (e5 := .cells [.int .i64 0]) (e6 := .cells [.int .i64 0]) (by simp (config := {contextual := true, maxSteps := 5000000}) only [go_sem, false_and, Nat.reduceAdd, Nat.reduceLT, Nat.reduceBEq, Nat.reduceSub, Nat.reduceMul, Nat.reduceLeDiff, Int.reduceToNat, Nat.reduceEqDiff, Nat.reduceMod]) (by simp (config := {contextual := true, maxSteps := 5000000}) only [go_sem, false_and, Nat.reduceAdd, Nat.reduceLT, Nat.reduceBEq, Nat.reduceSub, Nat.reduceMul, Nat.reduceLeDiff, Int.reduceToNat, Nat.reduceEqDiff, Nat.reduceMod]) (by simp (config := {contextual := true, maxSteps := 5000000}) only [go_sem, false_and, Nat.reduceAdd, Nat.reduceLT, Nat.reduceBEq, Nat.reduceSub, Nat.reduceMul, Nat.reduceLeDiff, Int.reduceToNat, Nat.reduceEqDiff, Nat.reduceMod])) ?_
      simp (config := {contextual := true, maxSteps := 5000000}) only [go_sem, false_and, Nat.reduceAdd, Nat.reduceLT, Nat.reduceBEq, Nat.reduceSub, Nat.reduceMul, Nat.reduceLeDiff, Int.reduceToNat, Nat.reduceEqDiff, Nat.reduceMod, ht, hl]
      exact ⟨_, rfl, Weak.refl _, by (repeat (first | exact Hp.Le.refl _ | refine Hp.le_upd ?_ (fN _ _ _ _)))⟩
    | ok x q =>
      simp only [Got.out, Got.pos] at hfin hpos hF ⊢
      rcases Nat.lt_or_ge q l.length with hq | hq
      · have hd : decide ((q : Int) < (l.length : Int)) = true := by simp [hq]
        rw [show wholeR s l (.ok x q) = .err 32 (posOf l s.size q) by simp only [wholeR, if_pos hq]]
        simp (config := {contextual := true, maxSteps := 5000000}) only [go_sem, false_and, Nat.reduceAdd, Nat.reduceLT, Nat.reduceBEq, Nat.reduceSub, Nat.reduceMul, Nat.reduceLeDiff, Int.reduceToNat, Nat.reduceEqDiff, Nat.reduceMod, ht, hl, specRd, htk, TR.av]
        refine CodeD.cut tabOk specRd_ok mixed [] ?_
        simp (config := {contextual := true, maxSteps := 5000000}) only [go_sem, false_and, Nat.reduceAdd, Nat.reduceLT, Nat.reduceBEq, Nat.reduceSub, Nat.reduceMul, Nat.reduceLeDiff, Int.reduceToNat, Nat.reduceEqDiff, Nat.reduceMod, ht, hl, specRd, he0]
        refine CodeD.cut tabOk specRd_ok mixed [25] ?_
        simp (config := {contextual := true, maxSteps := 5000000}) only [go_sem, false_and, Nat.reduceAdd, Nat.reduceLT, Nat.reduceBEq, Nat.reduceSub, Nat.reduceMul, Nat.reduceLeDiff, Int.reduceToNat, Nat.reduceEqDiff, Nat.reduceMod, ht, hl, specRd]
        refine CodeD.here (l := [.tmp 4, .tmp 5, .tmp 6]) rfl rfl rfl rfl rfl rfl (by simp [hl]) ?_
        refine CodeOk.vc tabOk specRd_ok mixed [] ?_
        simp (config := {contextual := true, maxSteps := 5000000}) only [go_sem, false_and, Nat.reduceAdd, Nat.reduceLT, Nat.reduceBEq, Nat.reduceSub, Nat.reduceMul, Nat.reduceLeDiff, Int.reduceToNat, Nat.reduceEqDiff, Nat.reduceMod, ht, hl, specRd]
        refine callK_out (hF _ _ _ rfl (by simp (config := {contextual := true, maxSteps := 5000000}) only [go_sem, false_and, Nat.reduceAdd, Nat.reduceLT, Nat.reduceBEq, Nat.reduceSub, Nat.reduceMul, Nat.reduceLeDiff, Int.reduceToNat, Nat.reduceEqDiff, Nat.reduceMod]; rfl)) ?_
        simp (config := {contextual := true, maxSteps := 5000000}) only [go_sem, false_and, Nat.reduceAdd, Nat.reduceLT, Nat.reduceBEq, Nat.reduceSub, Nat.reduceMul, Nat.reduceLeDiff, Int.reduceToNat, Nat.reduceEqDiff, Nat.reduceMod, ht, hl, specRd, rd, hd]
        refine ⟨by kernel_rfl, by (refine pw_of ?_; (repeat' (first | exact trivial | apply And.intro)); all_goals (first | exact .inr rfl | exact .inr trivial | exact .inr (by show _ = _; simp (config := {contextual := true, maxSteps := 5000000}) only [go_sem, false_and, Nat.reduceAdd, Nat.reduceLT, Nat.reduceBEq, Nat.reduceSub, Nat.reduceMul, Nat.reduceLeDiff, Int.reduceToNat, Nat.reduceEqDiff, Nat.reduceMod, hA, hB]) | exact .inl (by kernel_rfl))), ?_⟩
        refine callK_out (fail_call _ l s.size q (by simp (config := {contextual := true, maxSteps := 5000000}) only [go_sem, false_and, Nat.reduceAdd, Nat.reduceLT, Nat.reduceBEq, Nat.reduceSub, Nat.reduceMul, Nat.reduceLeDiff, Int.reduceToNat, Nat.reduceEqDiff, Nat.reduceMod, rd])) ?_
        simp (config := {contextual := true, maxSteps := 5000000}) only [go_sem, false_and, Nat.reduceAdd, Nat.reduceLT, Nat.reduceBEq, Nat.reduceSub, Nat.reduceMul, Nat.reduceLeDiff, Int.reduceToNat, Nat.reduceEqDiff, Nat.reduceMod, ht, hl, specRd, rd]
        refine dfrK_of (by simp [hl]) (read1_some ⟨3, 0 :: 0 :: k, 25⟩ ⟨1, 1 :: 0 :: k, 29⟩ ⟨1, 2 :: 0 :: k, 3⟩ rfl rfl rfl l s.size q (e4 := .cells [.int .i64 x.kind, .int .i64 x.id, .list .none (x.kids.map E.cells)]) (e5 := .cells [.int .i64 0]) (e6 := .cells [.int .i64 0]) (by simp (config := {contextual := true, maxSteps := 5000000}) only [go_sem, false_and, Nat.reduceAdd, Nat.reduceLT, Nat.reduceBEq, Nat.reduceSub, Nat.reduceMul, Nat.reduceLeDiff, Int.reduceToNat, Nat.reduceEqDiff, Nat.reduceMod]) (by simp (config := {contextual := true, maxSteps := 5000000}) only [go_sem, false_and, Nat.reduceAdd, Nat.reduceLT, Nat.reduceBEq, Nat.reduceSub, Nat.reduceMul, Nat.reduceLeDiff, Int.reduceToNat, Nat.reduceEqDiff, Nat.reduceMod]) (by simp (config := {contextual := true, maxSteps := 5000000}) only [go_sem, false_and, Nat.reduceAdd, Nat.reduceLT, Nat.reduceBEq, Nat.reduceSub, Nat.reduceMul, Nat.reduceLeDiff, Int.reduceToNat, Nat.reduceEqDiff, Nat.reduceMod])) ?_
        simp (config := {contextual := true, maxSteps := 5000000}) only [go_sem, false_and, Nat.reduceAdd, Nat.reduceLT, Nat.reduceBEq, Nat.reduceSub, Nat.reduceMul, Nat.reduceLeDiff, Int.reduceToNat, Nat.reduceEqDiff, Nat.reduceMod, ht, hl]
        exact ⟨_, rfl, Weak.refl _, by (repeat (first | exact Hp.Le.refl _ | refine Hp.le_upd ?_ (fN _ _ _ _)))⟩
      · have hd : decide ((q : Int) < (l.length : Int)) = false := by simp; omega
        by_cases hr : x.right = 0
        · have hr2 : (x.right != 0) = false := by simp [hr]
          rw [show wholeR s l (.ok x q) = .ok x by simp only [wholeR, if_neg (Nat.not_lt.2 hq), if_pos hr]]
          simp (config := {contextual := true, maxSteps := 5000000}) only [go_sem, false_and, Nat.reduceAdd, Nat.reduceLT, Nat.reduceBEq, Nat.reduceSub, Nat.reduceMul, Nat.reduceLeDiff, Int.reduceToNat, Nat.reduceEqDiff, Nat.reduceMod, ht, hl, specRd, htk, TR.av]
          refine CodeD.cut tabOk specRd_ok mixed [] ?_
          simp (config := {contextual := true, maxSteps := 5000000}) only [go_sem, false_and, Nat.reduceAdd, Nat.reduceLT, Nat.reduceBEq, Nat.reduceSub, Nat.reduceMul, Nat.reduceLeDiff, Int.reduceToNat, Nat.reduceEqDiff, Nat.reduceMod, ht, hl, specRd, he0]
          refine CodeD.cut tabOk specRd_ok mixed [25] ?_
          simp (config := {contextual := true, maxSteps := 5000000}) only [go_sem, false_and, Nat.reduceAdd, Nat.reduceLT, Nat.reduceBEq, Nat.reduceSub, Nat.reduceMul, Nat.reduceLeDiff, Int.reduceToNat, Nat.reduceEqDiff, Nat.reduceMod, ht, hl, specRd]
          refine CodeD.here (l := [.tmp 4, .tmp 5, .tmp 6]) rfl rfl rfl rfl rfl rfl (by simp [hl]) ?_
          refine CodeOk.vc tabOk specRd_ok mixed [] ?_
          simp (config := {contextual := true, maxSteps := 5000000}) only [go_sem, false_and, Nat.reduceAdd, Nat.reduceLT, Nat.reduceBEq, Nat.reduceSub, Nat.reduceMul, Nat.reduceLeDiff, Int.reduceToNat, Nat.reduceEqDiff, Nat.reduceMod, ht, hl, specRd]
          refine callK_out (hF _ _ _ rfl (by simp (config := {contextual := true, maxSteps := 5000000}) only [go_sem, false_and, Nat.reduceAdd, Nat.reduceLT, Nat.reduceBEq, Nat.reduceSub, Nat.reduceMul, Nat.reduceLeDiff, Int.reduceToNat, Nat.reduceEqDiff, Nat.reduceMod]; rfl)) ?_
          simp (config := {contextual := true, maxSteps := 5000000}) only [go_sem, false_and, Nat.reduceAdd, Nat.reduceLT, Nat.reduceBEq, Nat.reduceSub, Nat.reduceMul, Nat.reduceLeDiff, Int.reduceToNat, Nat.reduceEqDiff, Nat.reduceMod, ht, hl, specRd, rd, hd, hr2]
          refine ⟨by kernel_rfl, by (refine pw_of ?_; (repeat' (first | exact trivial | apply And.intro)); all_goals (first | exact .inr rfl | exact .inr trivial | exact .inr (by show _ = _; simp (config := {contextual := true, maxSteps := 5000000}) only [go_sem, false_and, Nat.reduceAdd, Nat.reduceLT, Nat.reduceBEq, Nat.reduceSub, Nat.reduceMul, Nat.reduceLeDiff, Int.reduceToNat, Nat.reduceEqDiff, Nat.reduceMod, hA, hB]) | exact .inl (by kernel_rfl))), hfin, dfrK_of (by simp [hl]) (read1_none _ _ _) ?_⟩
          simp (config := {contextual := true, maxSteps := 5000000}) only [go_sem, false_and, Nat.reduceAdd, Nat.reduceLT, Nat.reduceBEq, Nat.reduceSub, Nat.reduceMul, Nat.reduceLeDiff, Int.reduceToNat, Nat.reduceEqDiff, Nat.reduceMod, ht, hl]
          exact ⟨_, rfl, Weak.refl _, by (repeat (first | exact Hp.Le.refl _ | refine Hp.le_upd ?_ (fN _ _ _ _)))⟩
        · have hr2 : (x.right != 0) = true := by simp [hr]
          rw [show wholeR s l (.ok x q) = .err x.right 0 by simp only [wholeR, if_neg (Nat.not_lt.2 hq), if_neg hr]]
          simp (config := {contextual := true, maxSteps := 5000000}) only [go_sem, false_and, Nat.reduceAdd, Nat.reduceLT, Nat.reduceBEq, Nat.reduceSub, Nat.reduceMul, Nat.reduceLeDiff, Int.reduceToNat, Nat.reduceEqDiff, Nat.reduceMod, ht, hl, specRd, htk, TR.av]
          refine CodeD.cut tabOk specRd_ok mixed [] ?_
          simp (config := {contextual := true, maxSteps := 5000000}) only [go_sem, false_and, Nat.reduceAdd, Nat.reduceLT, Nat.reduceBEq, Nat.reduceSub, Nat.reduceMul, Nat.reduceLeDiff, Int.reduceToNat, Nat.reduceEqDiff, Nat.reduceMod, ht, hl, specRd, he0]
          refine CodeD.cut tabOk specRd_ok mixed [25] ?_
          simp (config := {contextual := true, maxSteps := 5000000}) only [go_sem, false_and, Nat.reduceAdd, Nat.reduceLT, Nat.reduceBEq, Nat.reduceSub, Nat.reduceMul, Nat.reduceLeDiff, Int.reduceToNat, Nat.reduceEqDiff, Nat.reduceMod, ht, hl, specRd]
          refine CodeD.here (l := [.tmp 4, .tmp 5, .tmp 6]) rfl rfl rfl rfl rfl rfl (by simp [hl]) ?_
          refine CodeOk.vc tabOk specRd_ok mixed [] ?_
          simp (config := {contextual := true, maxSteps := 5000000}) only [go_sem, false_and, Nat.reduceAdd, Nat.reduceLT, Nat.reduceBEq, Nat.reduceSub, Nat.reduceMul, Nat.reduceLeDiff, Int.reduceToNat, Nat.reduceEqDiff, Nat.reduceMod, ht, hl, specRd]
          refine callK_out (hF _ _ _ rfl (by simp (config := {contextual := true, maxSteps := 5000000}) only [go_sem, false_and, Nat.reduceAdd, Nat.reduceLT, Nat.reduceBEq, Nat.reduceSub, Nat.reduceMul, Nat.reduceLeDiff, Int.reduceToNat, Nat.reduceEqDiff, Nat.reduceMod]; rfl)) ?_
          simp (config := {contextual := true, maxSteps := 5000000}) only [go_sem, false_and, Nat.reduceAdd, Nat.reduceLT, Nat.reduceBEq, Nat.reduceSub, Nat.reduceMul, Nat.reduceLeDiff, Int.reduceToNat, Nat.reduceEqDiff, Nat.reduceMod, ht, hl, specRd, rd, hd, hr2]
          refine ⟨by kernel_rfl, by (refine pw_of ?_; (repeat' (first | exact trivial | apply And.intro)); all_goals (first | exact .inr rfl | exact .inr trivial | exact .inr (by show _ = _; simp (config := {contextual := true, maxSteps := 5000000}) only [go_sem, false_and, Nat.reduceAdd, Nat.reduceLT, Nat.reduceBEq, Nat.reduceSub, Nat.reduceMul, Nat.reduceLeDiff, Int.reduceToNat, Nat.reduceEqDiff, Nat.reduceMod, hA, hB]) | exact .inl (by kernel_rfl))), hfin, dfrK_of (by simp [hl]) (read1_none _ _ _) ?_⟩
          simp (config := {contextual := true, maxSteps := 5000000}) only [go_sem, false_and, Nat.reduceAdd, Nat.reduceLT, Nat.reduceBEq, Nat.reduceSub, Nat.reduceMul, Nat.reduceLeDiff, Int.reduceToNat, Nat.reduceEqDiff, Nat.reduceMod, ht, hl]
          exact ⟨_, rfl, Weak.refl _, by (repeat (first | exact Hp.Le.refl _ | refine Hp.le_upd ?_ (fN _ _ _ _)))⟩
theorem formulaX_call (s : ByteArray) : CallAt Tryz.prog w0 k 51 [.str s] H H (fmRes s).av := by
  refine callAt tabOk Spec.no_ok mixed Tryz.func51 rfl rfl Tryz.results51 Tryz.ntmps51 (by simp) [] ?_
  intro hfr t hl ht
  simp only [At, Nat.reduceAdd, List.cons_append, List.nil_append] at ht
  have fN : ∀ (a b : Nat) z ty, H ⟨z, a :: b :: k, ty⟩ = none := fun a b z ty => hfr _ (sfx2 _ _ _)
  have hR := fun k H => read_call (w0 := w0) (k := k) (H := H) s
  generalize fmRes s = r at hR ⊢
  cases r with
  | ok x =>
    simp only [FR.av] at hR ⊢
    simp (config := {contextual := true, maxSteps := 5000000}) only [go_sem, false_and, Nat.reduceAdd, Nat.reduceLT, Nat.reduceBEq, Nat.reduceSub, Nat.reduceMul, Nat.reduceLeDiff, Int.reduceToNat, Nat.reduceEqDiff, Nat.reduceMod, ht, hl]
    refine callK_intro (hR _ _) ?_
    simp (config := {contextual := true, maxSteps := 5000000}) only [go_sem, false_and, Nat.reduceAdd, Nat.reduceLT, Nat.reduceBEq, Nat.reduceSub, Nat.reduceMul, Nat.reduceLeDiff, Int.reduceToNat, Nat.reduceEqDiff, Nat.reduceMod, ht, hl]
    exact by (repeat (first | exact Hp.Le.refl _ | refine Hp.le_upd ?_ (fN _ _ _ _)))
  | err e a =>
    simp only [FR.av] at hR ⊢
    simp (config := {contextual := true, maxSteps := 5000000}) only [go_sem, false_and, Nat.reduceAdd, Nat.reduceLT, Nat.reduceBEq, Nat.reduceSub, Nat.reduceMul, Nat.reduceLeDiff, Int.reduceToNat, Nat.reduceEqDiff, Nat.reduceMod, ht, hl]
    refine callK_intro (hR _ _) ?_
    simp (config := {contextual := true, maxSteps := 5000000}) only [go_sem, false_and, Nat.reduceAdd, Nat.reduceLT, Nat.reduceBEq, Nat.reduceSub, Nat.reduceMul, Nat.reduceLeDiff, Int.reduceToNat, Nat.reduceEqDiff, Nat.reduceMod, ht, hl]
    exact by (repeat (first | exact Hp.Le.refl _ | refine Hp.le_upd ?_ (fN _ _ _ _)))
end Go.Proofs.YtkdendaohlnlcaaGreatDoor.Av

/- A call that answers a new row, which has a token then; a row's element that is written over by what it holds already. No condition. -/
namespace Go.Proofs.YtkdendaohlnlcaaGreatDoor.Av
set_option linter.unusedVariables false
set_option linter.unusedSimpArgs false
open Go.RowKit
section
variable {P : Program} {tab : Tab} {Sp : Spec} {w0 : Base} {ro : Option Nat} {p k : List Nat}
/-- A call whose answer is a new row. -/
theorem callAt_of_row {f : FuncId} {fn : Func} {c : Code} {H : Hp} (hf : P.funcs[f]? = some fn) (hb : fn.body = some c) (hn : (fn.name == "runtime.NumGoroutine") = false) {args : List AV} {xs : List (List AV)} {sz : Nat} {T : TypeId} (hsz : ∀ x ∈ xs, x.length = sz)
    (h : ∀ (G : Gh) (w : World) (cargs : Array Value), Sim w0 G H w → RepL G args cargs.toList → Calls P f cargs w fun e w' => ∃ vs : Array Value, e = .returned (.slice (some ⟨w.heap.size, 0, none⟩) xs.length xs.length) ∧ w' = w.alloc (.cells vs T) ∧ RepL G xs.flatten vs.toList) :
    CallAt P w0 k f args H (H.upd ⟨sz, k, T⟩ (some .tok)) (.list (.tok ⟨sz, k, T⟩) xs) :=
  .inl ⟨⟨fn, c, hf, hb, hn⟩, fun G w cargs hs hfr hr R hR => (h G w cargs hs hr).mono fun e w' he => by
    obtain ⟨vs, rfl, rfl, hv⟩ := he
    have hid := hfr ⟨sz, k, T⟩ (List.suffix_refl k)
    have hvl : vs.size = xs.length * sz := by rw [← hv.size, flatten_length xs hsz]
    have hnew : (w.alloc (.cells vs T)).heap[w.heap.size]? = some (.cells vs T (0, 0)) := new_block
    have hs1 := hs.newRow vs T
    have hs2 : Sim w0 ((G.withC (viewOf w.heap.size vs vs.size)).withτ ⟨sz, k, T⟩ (some (w.heap.size, xs.length, xs.length, T))) (H.upd ⟨sz, k, T⟩ (some .tok)) (w.alloc (.cells vs T)) := by
      refine hs1.newTok ⟨sz, k, T⟩ hid.2 _ (fun i avs e => ?_) (fun i hi e => ?_) ?_
      · by_cases hi : i = ⟨sz, k, T⟩
        · rw [hi, Hp.upd_same] at e; cases e
        · rwa [Hp.upd_ne _ _ hi] at e
      · rwa [Hp.upd_ne _ _ hi] at e
      · intro b m c' T' e
        simp only [Option.some.injEq, Prod.mk.injEq] at e
        obtain ⟨rfl, rfl, rfl, rfl⟩ := e
        refine ⟨hs.base, ⟨vs, hnew, Nat.le_of_eq hvl.symm⟩, ⟨Nat.le_refl _, rfl⟩, fun a ha ho => ?_, fun i hi => ?_, fun i hi hti y hy => ?_⟩
        · have h1 : G.C a = none := by
            cases hc : G.C a with
            | none => rfl
            | some u => have := hs.lt_of_C hc; omega
          simp only at ho
          simp only [Gh.withC, h1, viewOf, Option.none_or]
          rw [if_neg (fun hh => by rw [hvl] at hh; exact absurd hh.2.2 (Nat.not_lt.2 ho))]
        · have := hs.lt_of_σ (i := i) hi
          omega
        · rw [Hp.upd_ne _ _ hi] at hti
          rcases hs.t i hti with h1 | ⟨b', m', c', T', cs', h1, h2, h3, _⟩
          · have hy' : G.τ i = some (some (w.heap.size, y)) := hy
            rw [hy'] at h1; cases h1
          · have hy' : G.τ i = some (some (w.heap.size, y)) := hy
            rw [hy'] at h1
            simp only [Option.some.injEq, Prod.mk.injEq] at h1
            have := (Array.getElem?_eq_some_iff.1 h3).1
            omega
    refine hR _ _ _ ((G.le_withC _).trans (Gh.le_withτ hid.2)) (fun i hi => ?_) hs2 ?_
    · have := New.τ (G := G.withC (viewOf w.heap.size vs vs.size)) (x := some (w.heap.size, xs.length, xs.length, T)) (id := ⟨sz, k, T⟩) (k := k) (List.suffix_refl k) i hi
      exact this
    · have hrc : RepC (G.withC (viewOf w.heap.size vs vs.size)) ⟨w.heap.size, 0, none⟩ 0 xs.flatten := rep_newRow hs hv
      have hre := RepE.mono (Gh.le_withτ (G := G.withC (viewOf w.heap.size vs vs.size)) (x := some (w.heap.size, xs.length, xs.length, T)) hid.2) _ _ _ (RepE_of_list xs 0 hrc)
      simp only [Rep]
      exact ⟨_, _, _, rfl, rfl, Nat.le_refl _, ⟨w.heap.size, T, by simp [Gh.withτ], rfl⟩, ⟨sz, hsz⟩, _, fun _ => rfl, hre⟩⟩

theorem wpIn_skip1 {ops : Array Oper} {Q : Exit → Act → World → Prop} {o : Oper} {i : Nat} {rest : List Nat} {a : Act} {w w' : World} (hi : ops[i]? = some o) (hg : o.guard = none) (hd : ∀ c, o.op ≠ .defer c) (hr : (execOp a.eval o).run P w = .ok .skip w')
    (h : wpOpsIn (fz ro) 0 P ops Q rest (a.put o.dst undef) w') : wpOpsIn (fz ro) 0 P ops Q (i :: rest) a w := by
  rw [wpOpsIn_cons]
  unfold wpOpIn
  have hw : Region.wanted o (yielded ops a.tmps) = true := by simp [Region.wanted, hg]
  simp only [hi, hw, if_true]
  refine wpIn_of_wp hd ?_
  unfold Oper.wp
  rw [hr]
  exact h
theorem Run.length {ops : Array Oper} {kp : List Nat} : ∀ {tr : List TE} {s s' : S}, Run P w0 ops kp tr s s' → s'.tmps.length = s.tmps.length
  | [], s, s', h => by
    simp only [Run] at h
    rw [h]
  | x :: tr, s, s', ⟨s1, ⟨g, _, _, _, _, h1⟩, h2⟩ => by
    rw [Run.length h2, h1, putA_length]
/-- What is asked where a row's element is written over by what it holds. -/
def keepV (d : Tmp) (R : AEx → FS → Prop) (n : Nat) (t : List AV) (H : Hp) : AV → AV → AV → Prop
  | .list (.tok id) xs, .raw (.int _ m), .raw (.string s) => H id = some .tok ∧ id.sz = 1 ∧ (0 ≤ m ∧ m < xs.length) ∧ xs.getD m.toNat [] = [.str s] ∧ R .normal ⟨t.set d (.sptr [.str s]), n + 1, H⟩
  | _, _, _ => False
@[go_sem] theorem keepV_at {d : Tmp} {R : AEx → FS → Prop} {n : Nat} {t : List AV} {H : Hp} {id : Id} {xs : List (List AV)} {kk : IntKind} {m : Int} {s : ByteArray} :
    keepV d R n t H (.list (.tok id) xs) (.raw (.int kk m)) (.raw (.string s)) = (H id = some .tok ∧ id.sz = 1 ∧ (0 ≤ m ∧ m < xs.length) ∧ xs.getD m.toNat [] = [.str s] ∧ R .normal ⟨t.set d (.sptr [.str s]), n + 1, H⟩) := rfl
def keepL (x i y : Operand) (d : Tmp) (R : AEx → FS → Prop) (n : Nat) : S → Prop := fun s' => keepV d R n s'.tmps s'.H (evA s'.tmps x) (evA s'.tmps i) (evA s'.tmps y)
@[go_sem] theorem keepL_at {x i y : Operand} {d : Tmp} {R : AEx → FS → Prop} {n : Nat} {t : List AV} {H : Hp} : keepL x i y d R n ⟨t, H⟩ = keepV d R n t H (evA t x) (evA t i) (evA t y) := rfl
def noP : S → AV → Prop := fun _ _ => False
@[go_sem] theorem noP_at {s : S} {v : AV} : noP s v = False := rfl
theorem DetOk.keepL (hT : TabOk P tab) (hS : SpecOk P w0 Sp) {id : Nat} {l : List Oper} {o1 o2 : Oper} {x i y : Operand} {d : Tmp} {ty te : TypeId} {a1 a2 b1 : Nat} {z1 z2 : Value} {ts : List AV} {n : Nat} {H : Hp} {R : AEx → FS → Prop} {mb : List Tmp}
    (ho1 : o1.op = .indexAddr ty x i) (hd1 : o1.dst = some d) (hg1 : o1.guard = none) (ho2 : o2.op = .store te (.tmp d) y) (hg2 : o2.guard = none) (hd2 : o2.dst = none) (hty : tab ty = some ⟨.slice te, a1, a2, z1⟩) (hte : tab te = some ⟨.string, 1, b1, z2⟩) (hyd : y ≠ .tmp d) (hdl : d < ts.length)
    (h : vcSeq P tab Sp w0 mb (l ++ [o1, o2]).toArray (n :: p) noP l.zipIdx ⟨ts, H⟩ (Av.keepL x i y d R n)) : DetOk P w0 ro p (.region id (l ++ [o1, o2]).toArray false) ⟨ts, n, H⟩ R := by
  rcases vcSeq_sound hT hS _ _ _ h with ⟨tr, s', h1, h2, h3⟩ | ⟨_, _, _, _, _, _, _, _, _, _, h4⟩
  · obtain ⟨t, H'⟩ := s'
    simp only [Av.keepL] at h3
    have h3' := h3
    unfold keepV at h3'
    split at h3'
    · rename_i tk xs kk m s hX0 hI0 hY0
      obtain ⟨k1, k2, k3, k4, k5⟩ := h3'
      refine ⟨.normal, ⟨t.set d (.sptr [.str s]), n + 1, H'⟩, k5, ?_⟩
      intro G0 G w a hs hr hf hd Qc hB
      have hfr : ∀ i, Fresh G (i :: n :: p) := fun i j hj => hf n (Nat.le_refl _) j ((List.suffix_cons i _).trans hj)
      have hidx : tr.map (·.i) = List.range l.length := by
        have h5 := congrArg (List.map Prod.fst) h2
        rw [List.map_map, List.map_map] at h5
        have e1 : (Prod.fst ∘ fun x : TE => (x.i, x.o)) = fun x : TE => x.i := rfl
        have e2 : (Prod.fst ∘ fun x : Oper × Nat => (x.2, x.1)) = Prod.snd := rfl
        rw [e1, e2, List.zipIdx_map_snd] at h5
        rw [h5, List.range_eq_range']
      have hget : ∀ x ∈ tr, (l ++ [o1, o2]).toArray[x.i]? = some x.o := fun x hx => by
        have : (x.i, x.o) ∈ l.zipIdx.map (fun x => (x.2, x.1)) := by rw [← h2]; exact List.mem_map_of_mem (f := fun x => (x.i, x.o)) hx
        obtain ⟨y, hy, he⟩ := List.mem_map.1 this
        simp only [Prod.mk.injEq] at he
        have h6 := List.mem_zipIdx_iff_getElem?.1 hy
        rw [← he.1, ← he.2, List.getElem?_toArray, List.getElem?_append_left (List.getElem?_eq_some_iff.1 h6).1]
        exact h6
      refine wpIn_region ?_
      have hrange : List.range (l ++ [o1, o2]).toArray.size = tr.map (·.i) ++ [l.length, l.length + 1] := by
        rw [hidx]
        simp [List.range_succ]
      show wpOpsIn (fz ro) 0 P _ _ (List.range (l ++ [o1, o2]).toArray.size) a w
      rw [hrange]
      refine run_more (Q := Qc) tr _ _ h1 hget (by rw [hidx]; exact List.nodup_range) G a w hs hr (fun x _ => hfr x.i) ro fun G' a' w' hl hn hs' hr' hd' _ => ?_
      have hx := rep_eval hr' x
      have hi := rep_eval hr' i
      have hy := rep_eval hr' y
      rw [hX0] at hx
      rw [hI0] at hi
      rw [hY0] at hy
      have hel : P.elem ty = te := by simp [Program.elem, hT.slice hty]
      have hX := hx
      simp only [Rep] at hX hi hy
      obtain ⟨A, nn, cc, hA, hnn, hcc, ⟨b, T, hτ, rfl⟩, hun, ad, had, hre⟩ := hX
      rcases hs'.t tk k1 with g | ⟨b', m', c1, T', cs, g1, g2, g3, g4, g5, g6⟩
      · rw [hτ] at g; cases g
      rw [hτ] at g1
      simp only [Option.some.injEq, Prod.mk.injEq] at g1
      obtain ⟨rfl, rfl, rfl, rfl⟩ := g1
      have hne : xs ≠ [] := by rintro rfl; simp at k3; omega
      have had' := had hne
      simp only [Option.some.injEq] at had'
      subst had'
      have hlt : m.toNat < xs.length := by omega
      obtain ⟨sz, hsz⟩ := hun
      have hmem : xs.getD m.toNat [] ∈ xs := by
        rw [List.getD_eq_getElem?_getD, List.getElem?_eq_getElem hlt]
        simp
      have hsz' : sz = 1 := by rw [← hsz _ hmem, k4]; rfl
      subst hsz'
      have hcell := hre.at_ xs 0 hsz m.toNat hlt
      rw [k4] at hcell
      simp only [RepC, Rep, and_true, Nat.zero_add, Nat.mul_one, add_at] at hcell
      obtain ⟨v, hv, rfl⟩ := hcell
      have hcw := hs'.c _ _ hv
      have hcs : cs[m.toNat]? = some (.string s) := by
        unfold World.cell? at hcw
        simp only at hcw
        rw [g3] at hcw
        simpa using hcw
      have hcl : m.toNat < cs.size := (Array.getElem?_eq_some_iff.1 hcs).1
      have hrun1 : (execOp a'.eval o1).run P w' = .ok (.value (.pointer (some ⟨b, m.toNat, none⟩))) w' := by
        simp only [execOp, ho1, Sem.run_bind, hA, hi]
        rw [run_indexAt_slice w' ty _ nn cc kk m (by rw [hel]; exact hT.slice hty), if_pos ⟨k3.1, by omega⟩, hel, hT.sizeOf hte w']
        simp only [Result.andThen_ok, Sem.run_pure, Nat.mul_one, add_at]
      refine wpIn_one (o := o1) (i := l.length) (rest := [l.length + 1]) (by simp) hg1 (fun c hc => by rw [ho1] at hc; cases hc) hrun1 ?_
      have hl2 : d < a'.tmps.size := by
        have e1 := hr'.size
        have e2 : t.length = ts.length := by
          have := Run.length h1
          simpa using this
        simp only at e1
        rw [← e1, e2]
        exact hdl
      have hev : (a'.put o1.dst (.pointer (some ⟨b, m.toNat, none⟩))).eval (.tmp d) = .pointer (some ⟨b, m.toNat, none⟩) := by simp [hd1, Act.put, Act.eval, hl2]
      have hevy : (a'.put o1.dst (.pointer (some ⟨b, m.toNat, none⟩))).eval y = .string s := by
        rw [← hy]
        cases y with
        | tmp e =>
          have : e ≠ d := fun h => hyd (by rw [h])
          simp [hd1, Act.put, Act.eval, Array.getD_eq_getD_getElem?, Array.getElem?_setIfInBounds, Ne.symm this]
        | const v => rfl
        | global g => rfl
        | func f => rfl
      have hst := run_storeCells_at P b m.toNat T [.string s] 0 cs w' g3 (by simp; omega) (by simp [Value.oneCell'])
      have hrow : (cs.toList.take m.toNat ++ [Value.string s] ++ cs.toList.drop (m.toNat + 1)).toArray = cs := by
        apply Array.ext'
        simp only [List.append_assoc, List.singleton_append]
        have : cs.toList[m.toNat]? = some (.string s) := by simpa using hcs
        obtain ⟨q1, q2⟩ := List.getElem?_eq_some_iff.1 this
        have := List.drop_eq_getElem_cons q1
        rw [q2] at this
        rw [← this, List.take_append_drop]
      have hrun2 : (execOp (a'.put o1.dst (.pointer (some ⟨b, m.toNat, none⟩))).eval o2).run P w' = .ok .skip w' := by
        generalize (a'.put o1.dst (.pointer (some ⟨b, m.toNat, none⟩))).eval = ev at hev hevy ⊢
        simp only [execOp, ho2, Sem.run_bind, Instr.storeAt, hev, hevy, Instr.sureAddr, Sem.run_pure, Result.andThen_ok, storeVar, hT.sizeOf hte, Value.cells]
        rw [if_neg (by simp)]
        simp only [Nat.add_zero, List.length_cons, List.length_nil, Nat.zero_add] at hst
        rw [hrow, setRow_self w' b cs T (0, 0) g3] at hst
        simp only [hst, Result.andThen_ok, Sem.run_pure, Sem.run_bind]
      have hfin : Qc .normal (a'.put o1.dst (.pointer (some ⟨b, m.toNat, none⟩))) w' := by
        have hlen' := hr'.size
        refine hB .normal ⟨t.set d (.sptr [.str s]), n + 1, H'⟩ G' w' _ ⟨rfl, rfl⟩ hl hn.f hs' ?_ ?_ (hf.next hn) (Nat.le_succ _) _ rfl
        · have hsp : Rep G' (.sptr [.str s]) (.pointer (some ⟨b, m.toNat, none⟩)) := by
            simp only [Rep, RepC, and_true]
            exact ⟨_, rfl, _, by simpa [Addr.add] using hv, rfl⟩
          have := rep_put hr' hsp o1.dst
          rw [hd1] at this ⊢
          exact this
        · rw [put_defers', hd']
          exact hd.later hl
      have hg : wpOpsIn (fz ro) 0 P (l ++ [o1, o2]).toArray Qc [l.length + 1] (a'.put o1.dst (.pointer (some ⟨b, m.toNat, none⟩))) w' := by
        have hget2 : (l ++ [o1, o2]).toArray[l.length + 1]? = some o2 := by simp
        refine wpIn_skip1 (o := o2) hget2 hg2 (fun c hc => by rw [ho2] at hc; cases hc) hrun2 ?_
        rw [hd2]
        exact hfin
      exact hg
    · exact h3'.elim
  · exact h4.elim
theorem DetOk.keep (hT : TabOk P tab) (hS : SpecOk P w0 Sp) (mb : List Tmp) (m : Nat) {id : Nat} {ops : Array Oper} {o1 o2 : Oper} {x i y : Operand} {d : Tmp} {ty te : TypeId} {a1 a2 b1 : Nat} {z1 z2 : Value} {ts : List AV} {n : Nat} {H : Hp} {R : AEx → FS → Prop}
    (hm1 : ops[m]? = some o1) (hm2 : ops[m + 1]? = some o2) (hsz : ops.size = m + 2) (ho1 : o1.op = .indexAddr ty x i) (hd1 : o1.dst = some d) (hg1 : o1.guard = none) (ho2 : o2.op = .store te (.tmp d) y) (hg2 : o2.guard = none) (hd2 : o2.dst = none) (hty : tab ty = some ⟨.slice te, a1, a2, z1⟩) (hte : tab te = some ⟨.string, 1, b1, z2⟩) (hyd : y ≠ .tmp d) (hdl : d < ts.length)
    (h : seqL P tab Sp w0 mb ops (n :: p) (ops.toList.take m) 0 ts H (Av.keepL x i y d R n) noP) : DetOk P w0 ro p (.region id ops false) ⟨ts, n, H⟩ R := by
  have hops : ops = (ops.toList.take m ++ [o1, o2]).toArray := by
    apply Array.ext'
    simp only [List.toList_toArray]
    have e1 := (List.take_append_drop m ops.toList).symm
    have e2 : ops.toList.drop m = [o1, o2] := by
      have h1 : ops.toList[m]? = some o1 := by simpa using hm1
      have h2 : ops.toList[m + 1]? = some o2 := by simpa using hm2
      obtain ⟨q1, q2⟩ := List.getElem?_eq_some_iff.1 h1
      obtain ⟨q3, q4⟩ := List.getElem?_eq_some_iff.1 h2
      rw [List.drop_eq_getElem_cons q1, List.drop_eq_getElem_cons q3, q2, q4, List.drop_of_length_le (by simp [hsz])]
    rw [e2] at e1
    exact e1
  have h' : vcSeq P tab Sp w0 mb ops (n :: p) noP (ops.toList.take m).zipIdx ⟨ts, H⟩ (Av.keepL x i y d R n) := h
  generalize ops.toList.take m = l at hops h'
  subst hops
  exact DetOk.keepL hT hS ho1 hd1 hg1 ho2 hg2 hd2 hty hte hyd hdl h'
/-! ends of parts that are shown by hand -/
theorem DetOk.of_vc (hT : TabOk P tab) (hS : SpecOk P w0 Sp) (hm : P.follows .mixedOrders = true) (mb : List Tmp) {c : Code} {s : FS} {R : AEx → FS → Prop} (h : vc P tab Sp w0 ro mb p c s R) : DetOk P w0 ro p c s R := vc_det hT hS hm c s R h
def detL (P : Program) (w0 : Base) (ro : Option Nat) (p : List Nat) (b : Code) (R : AEx → FS → Prop) : AEx → FS → Prop := thenR (fun s' => DetOk P w0 ro p b s' R) R
section
variable {R : AEx → FS → Prop} {b : Code} {s : FS}
@[go_sem] theorem detL_normal : detL P w0 ro p b R .normal s = DetOk P w0 ro p b s R := rfl
@[go_sem] theorem detL_ret : detL P w0 ro p b R .ret s = R .ret s := rfl
@[go_sem] theorem detL_exit {i : Nat} : detL P w0 ro p b R (.exit i) s = R (.exit i) s := rfl
@[go_sem] theorem detL_panic {v : AV} : detL P w0 ro p b R (.panic v) s = R (.panic v) s := rfl
theorem DetOk.seq {a : Code} (h : DetOk P w0 ro p a s (detL P w0 ro p b R)) : DetOk P w0 ro p (.seq a b) s R := by
  obtain ⟨x, s1, h1, h2⟩ := h
  cases x with
  | normal =>
    obtain ⟨y, s2, h3, h4⟩ := h1
    refine ⟨y, s2, h3, CodeOk.seq (h2.mono fun z t hz => ?_)⟩
    obtain ⟨rfl, rfl⟩ := hz
    exact h4
  | exit id =>
    refine ⟨.exit id, s1, h1, CodeOk.seq (h2.mono fun z t hz => ?_)⟩
    obtain ⟨rfl, rfl⟩ := hz
    exact ⟨rfl, rfl⟩
  | ret =>
    refine ⟨.ret, s1, h1, CodeOk.seq (h2.mono fun z t hz => ?_)⟩
    obtain ⟨rfl, rfl⟩ := hz
    exact ⟨rfl, rfl⟩
  | panic v =>
    refine ⟨.panic v, s1, h1, CodeOk.seq (h2.mono fun z t hz => ?_)⟩
    obtain ⟨rfl, rfl⟩ := hz
    exact ⟨rfl, rfl⟩
theorem DetOk.cut (hT : TabOk P tab) (hS : SpecOk P w0 Sp) (hm : P.follows .mixedOrders = true) (mb : List Tmp) {a : Code} (h : vc P tab Sp w0 ro mb p a s (detL P w0 ro p b R)) : DetOk P w0 ro p (.seq a b) s R := DetOk.seq (vc_det hT hS hm a s _ h)
theorem DetOk.block {id : Nat} {c : Code} (h : DetOk P w0 ro p c s (blkL id R)) : DetOk P w0 ro p (.block id c) s R := by
  obtain ⟨x, s1, h1, h2⟩ := h
  cases x with
  | normal =>
    refine ⟨.normal, s1, h1, CodeOk.block (h2.mono fun z t hz => ?_)⟩
    obtain ⟨rfl, rfl⟩ := hz
    exact ⟨rfl, rfl⟩
  | ret =>
    refine ⟨.ret, s1, h1, CodeOk.block (h2.mono fun z t hz => ?_)⟩
    obtain ⟨rfl, rfl⟩ := hz
    exact ⟨rfl, rfl⟩
  | panic v =>
    refine ⟨.panic v, s1, h1, CodeOk.block (h2.mono fun z t hz => ?_)⟩
    obtain ⟨rfl, rfl⟩ := hz
    exact ⟨rfl, rfl⟩
  | exit id' =>
    have h1' : blockR id R (.exit id') s1 := h1
    simp only [blockR] at h1'
    split at h1'
    · rename_i he
      refine ⟨.normal, s1, h1', CodeOk.block (h2.mono fun z t hz => ?_)⟩
      obtain ⟨rfl, rfl⟩ := hz
      simp only [blockR, if_pos he]
      exact ⟨rfl, rfl⟩
    · rename_i he
      refine ⟨.exit id', s1, h1', CodeOk.block (h2.mono fun z t hz => ?_)⟩
      obtain ⟨rfl, rfl⟩ := hz
      simp only [blockR, if_neg he]
      exact ⟨rfl, rfl⟩
end
/-- A loop whose rounds are shown by hand. -/
theorem loop_invD {c : Code} {s : FS} {R : AEx → FS → Prop} (I : Nat → FS → Prop) (j0 : Nat) (h0 : I j0 s) (h : ∀ j s, I j s → DetOk P w0 ro p c s (loopL I j R)) : LoopOk P w0 ro p c s R := by
  have go : ∀ j s, I j s → ∃ x s', R x s' ∧ LoopN P w0 ro p (j + 1) c s (eqR x s') := by
    intro j
    induction j with
    | zero =>
      intro s hs
      obtain ⟨x, s', h1, h2⟩ := h 0 s hs
      cases x with
      | normal => obtain ⟨j', hj, _⟩ := h1; omega
      | exit i =>
        refine ⟨.exit i, s', h1, loop_step (h2.mono fun y t hy => ?_)⟩
        obtain ⟨rfl, rfl⟩ := hy
        exact ⟨rfl, rfl⟩
      | ret =>
        refine ⟨.ret, s', h1, loop_step (h2.mono fun y t hy => ?_)⟩
        obtain ⟨rfl, rfl⟩ := hy
        exact ⟨rfl, rfl⟩
      | panic v =>
        refine ⟨.panic v, s', h1, loop_step (h2.mono fun y t hy => ?_)⟩
        obtain ⟨rfl, rfl⟩ := hy
        exact ⟨rfl, rfl⟩
    | succ j ih =>
      intro s hs
      obtain ⟨x, s', h1, h2⟩ := h (j + 1) s hs
      cases x with
      | normal =>
        obtain ⟨j', hj, hI⟩ := h1
        obtain rfl : j' = j := by omega
        obtain ⟨y, s2, h3, h4⟩ := ih s' hI
        refine ⟨y, s2, h3, loop_step (h2.mono fun z t hz => ?_)⟩
        obtain ⟨rfl, rfl⟩ := hz
        exact h4
      | exit i =>
        refine ⟨.exit i, s', h1, loop_step (h2.mono fun y t hy => ?_)⟩
        obtain ⟨rfl, rfl⟩ := hy
        exact ⟨rfl, rfl⟩
      | ret =>
        refine ⟨.ret, s', h1, loop_step (h2.mono fun y t hy => ?_)⟩
        obtain ⟨rfl, rfl⟩ := hy
        exact ⟨rfl, rfl⟩
      | panic v =>
        refine ⟨.panic v, s', h1, loop_step (h2.mono fun y t hy => ?_)⟩
        obtain ⟨rfl, rfl⟩ := hy
        exact ⟨rfl, rfl⟩
  obtain ⟨x, s', h1, h2⟩ := go j0 s h0
  exact ⟨x, s', h1, _, h2⟩
end
end Go.Proofs.YtkdendaohlnlcaaGreatDoor.Av

/- Functions of Go's library that cut texts; a text cut at a byte, in plain words. No condition. -/
namespace Go.Proofs.YtkdendaohlnlcaaGreatDoor.Av
set_option linter.unusedVariables false
set_option linter.unusedSimpArgs false
set_option maxRecDepth 4000
set_option maxHeartbeats 1000000
open Go.RowKit
variable {w0 : Base} {k : List Nat} {H : Hp}
/-- Does a text begin so? -/
def beg (s p : ByteArray) : Bool := decide (p.size ≤ s.size) && ((s.extract 0 p.size).toList == p.toList)
theorem cell_below {w w' : World} (h : Below w.heap.size w w') {a : Addr} {v : Value} (e : w.cell? a = some v) : w'.cell? a = some v := by
  rwa [World.cell?_of_block (w := w) (h.block a.block (World.block_lt_of_cell? w a e))]
/-- The variable that strings.Index reads holds a number. -/
def MaxW (w0 : Base) : Prop := ∃ m, w0.w.cell? ⟨0, 0, none⟩ = some (.int .i64 m)
theorem cutPrefix_call (s p : ByteArray) : CallAt Tryz.prog w0 k 23 [.str s, .str p] H H (.tup [.str (if beg s p then s.extract p.size s.size else s), .bool (beg s p)]) := by
  refine callAt_of_law' Tryz.func23 rfl (by kernel_rfl) fun G w ca hs hr => ?_
  obtain rfl := rep2 hr
  refine (Tryz.strings_CutPrefix s p w).mono fun e w' he => ?_
  obtain ⟨rfl, rfl⟩ := he
  refine ⟨_, fun _ => none, rfl, Below.refl _ _, (fun a u h => by cases h), ?_⟩
  have h1 : Lib.hasPrefix s.data.toList p.data.toList = beg s p := (Lib.hasPrefix_raw s p).symm
  have h2 : (⟨(Lib.trimPrefix s.data.toList p.data.toList).toArray⟩ : ByteArray) = if beg s p then s.extract p.size s.size else s := by
    cases hb : beg s p with
    | true =>
      simp only [beg, Bool.and_eq_true, decide_eq_true_eq] at hb
      rw [if_pos rfl]
      exact Lib.trimPrefix_hit s p hb.1 hb.2
    | false =>
      rw [if_neg (by simp)]
      exact Lib.trimPrefix_miss s p hb
  rw [h1, h2]
  simp [Rep, RepL]
theorem clone_inner (s : ByteArray) (h : s.size ≤ 281474976710656) : CallAt Tryz.prog w0 k 78 [.str s] H H (.str s) := by
  refine callAt_of_law Tryz.func78 rfl (by kernel_rfl) fun G w ca hs hr => ?_
  obtain rfl := rep1 hr
  exact Tryz.stringslite_Clone s w h
def specCl : Spec := Spec.no.add 78 (sp1 dS (fun s => s.size ≤ 281474976710656) fun s => .str s)
theorem specCl_ok : SpecOk Tryz.prog w0 specCl := Spec.no_ok.add (sp1_ok fun s h k H => clone_inner s h)
theorem clone_call (s : ByteArray) (h : s.size ≤ 281474976710656) : CallAt Tryz.prog w0 k 49 [.str s] H H (.str s) := by
  refine callAt tabOk specCl_ok mixed Tryz.func49 rfl rfl Tryz.results49 Tryz.ntmps49 (by simp) [] ?_
  intro hfr t hl ht
  simp only [At, Nat.reduceAdd, List.cons_append, List.nil_append] at ht
  simp (config := {contextual := true, maxSteps := 5000000}) only [go_sem, false_and, Nat.reduceAdd, Nat.reduceLT, Nat.reduceBEq, Nat.reduceSub, Nat.reduceMul, Nat.reduceLeDiff, Int.reduceToNat, Nat.reduceEqDiff, Nat.reduceMod, ht, hl, specCl]
  exact h
/-! a text cut at a byte -/
/-- What stands between the bytes c, from a place on. -/
def cutF (s : ByteArray) (c : Int) : Nat → Nat → Nat → List ByteArray
  | 0, from_, _ => [s.extract from_ s.size]
  | m + 1, from_, i => if byteAt s i = c then s.extract from_ i :: cutF s c m (i + 1) (i + 1) else cutF s c m from_ (i + 1)
def cutC (s : ByteArray) (c : Int) : List ByteArray := cutF s c s.size 0 0
/-- The same of lists. -/
def cutU (c : UInt8) : List UInt8 → List (List UInt8)
  | [] => [[]]
  | b :: l => if b = c then [] :: cutU c l else match cutU c l with
    | [] => [[b]]
    | x :: xs => (b :: x) :: xs
theorem cutU_ne (c : UInt8) : ∀ l, cutU c l ≠ []
  | [] => by simp [cutU]
  | b :: l => by
    unfold cutU
    split
    · simp
    · split <;> simp
theorem cutU_miss {c : UInt8} : ∀ {l : List UInt8}, (∀ b ∈ l, b ≠ c) → cutU c l = [l]
  | [], _ => rfl
  | b :: l, h => by
    rw [cutU, if_neg (h b (by simp)), cutU_miss fun x hx => h x (by simp [hx])]
theorem cutU_hit {c : UInt8} : ∀ {l : List UInt8} {r : List UInt8}, (∀ b ∈ l, b ≠ c) → cutU c (l ++ c :: r) = l :: cutU c r
  | [], r, _ => by rw [List.nil_append, cutU, if_pos rfl]
  | b :: l, r, h => by
    rw [List.cons_append, cutU, if_neg (h b (by simp)), cutU_hit fun x hx => h x (by simp [hx])]
theorem byteAt_list (s : ByteArray) (i : Nat) (h : i < s.size) : ∃ b, s.data.toList[i]? = some b ∧ byteAt s i = (b.toNat : Int) := by
  have hl : i < s.data.toList.length := by rw [Array.length_toList]; exact h
  refine ⟨s.data.toList[i], by simp, ?_⟩
  unfold byteAt
  rw [dif_pos (by simpa using h)]
  simp only [Int.toNat_natCast]
  rfl
theorem cutF_spec (s : ByteArray) (c : UInt8) : ∀ m from_ i, from_ ≤ i → i + m = s.size → (∀ j b, from_ ≤ j → j < i → s.data.toList[j]? = some b → b ≠ c) → (cutF s c.toNat m from_ i).map (·.data.toList) = cutU c (s.data.toList.drop from_)
  | 0, from_, i, h1, h2, h3 => by
    have hl : s.data.toList.length = s.size := by rw [Array.length_toList]; rfl
    rw [cutF, List.map_cons, List.map_nil, Lib.extract_data, List.take_of_length_le (by simp <;> omega), cutU_miss]
    intro b hb
    obtain ⟨j, hj, rfl⟩ := List.getElem_of_mem hb
    rw [List.length_drop] at hj
    refine h3 (from_ + j) _ (by omega) (by omega) ?_
    rw [List.getElem_drop, List.getElem?_eq_getElem]
  | m + 1, from_, i, h1, h2, h3 => by
    have hl : s.data.toList.length = s.size := by rw [Array.length_toList]; rfl
    obtain ⟨b, hb, he⟩ := byteAt_list s i (by omega)
    rw [cutF, he]
    by_cases hc : b = c
    · subst hc
      rw [if_pos rfl, List.map_cons, Lib.extract_data, cutF_spec s b m (i + 1) (i + 1) (Nat.le_refl _) (by omega) (fun j b h1 h2 => by omega)]
      have hsp : s.data.toList.drop from_ = (s.data.toList.drop from_).take (i - from_) ++ b :: s.data.toList.drop (i + 1) := by
        have h4 := (List.take_append_drop (i - from_) (s.data.toList.drop from_)).symm
        rw [List.drop_drop, show from_ + (i - from_) = i by omega] at h4
        obtain ⟨q1, q2⟩ := List.getElem?_eq_some_iff.1 hb
        rw [List.drop_eq_getElem_cons q1, q2] at h4
        exact h4
      rw [hsp, cutU_hit, ← hsp]
      intro x hx
      obtain ⟨j, hj, rfl⟩ := List.getElem_of_mem hx
      rw [List.length_take, List.length_drop] at hj
      refine h3 (from_ + j) _ (by omega) (by omega) ?_
      rw [List.getElem_take, List.getElem_drop, List.getElem?_eq_getElem]
    · rw [if_neg (fun h => hc (UInt8.toNat_inj.1 (by omega)))]
      refine cutF_spec s c m from_ (i + 1) (by omega) (by omega) fun j x hj1 hj2 hx => ?_
      by_cases e : j = i
      · subst e
        rw [hb] at hx
        cases hx
        exact hc
      · exact h3 j x hj1 (by omega) hx
theorem cutC_spec (s : ByteArray) (c : UInt8) : (cutC s c.toNat).map (·.data.toList) = cutU c s.data.toList := by
  have := cutF_spec s c s.size 0 0 (Nat.le_refl _) (by omega) (fun j b h1 h2 => by omega)
  simpa [cutC] using this
theorem index_miss {c : UInt8} : ∀ {l : List UInt8}, (∀ b ∈ l, b ≠ c) → Lib.index l [c] = -1
  | [], _ => rfl
  | b :: l, h => by
    have hb : (c == b) = false := by simpa using Ne.symm (h b (by simp))
    have ih := index_miss (l := l) fun x hx => h x (by simp [hx])
    unfold Lib.index
    simp [List.isPrefixOf, hb, ih]
theorem index_at {c : UInt8} : ∀ {l r : List UInt8}, (∀ b ∈ l, b ≠ c) → Lib.index (l ++ c :: r) [c] = l.length
  | [], r, _ => by simp [Lib.index, List.isPrefixOf]
  | b :: l, r, h => by
    have hb : (c == b) = false := by simpa using Ne.symm (h b (by simp))
    have ih := index_at (l := l) (r := r) fun x hx => h x (by simp [hx])
    have hn : ((l.length : Int) == -1) = false := by simp <;> omega
    rw [List.cons_append]
    unfold Lib.index
    simp [List.isPrefixOf, hb, ih, hn]
theorem byte_parts {c : UInt8} : ∀ (l : List UInt8), (∀ b ∈ l, b ≠ c) ∨ ∃ p r, l = p ++ c :: r ∧ ∀ b ∈ p, b ≠ c
  | [] => .inl (by simp)
  | b :: l => by
    by_cases hb : b = c
    · exact .inr ⟨[], l, by rw [hb]; rfl, by simp⟩
    · rcases byte_parts l with h | ⟨p, r, h1, h2⟩
      · exact .inl fun x hx => (List.mem_cons.1 hx).elim (fun e => by rw [e]; exact hb) (h x)
      · exact .inr ⟨b :: p, r, by rw [h1]; rfl, fun x hx => (List.mem_cons.1 hx).elim (fun e => by rw [e]; exact hb) (h2 x)⟩
theorem splitK_cut (c : UInt8) : ∀ (n : Nat) (l : List UInt8), l.count c = n → Lib.splitK [c] 0 n l = cutU c l
  | 0, l, h => by
    have hn : ∀ b ∈ l, b ≠ c := fun b hb e => by
      subst e
      exact absurd hb (List.count_eq_zero.1 h)
    rw [cutU_miss hn]
    rfl
  | n + 1, l, h => by
    rcases byte_parts (c := c) l with hn | ⟨p, r, rfl, hp⟩
    · have : l.count c = 0 := List.count_eq_zero.2 fun hc => hn c hc rfl
      omega
    · have hc0 : p.count c = 0 := List.count_eq_zero.2 fun hc => hp c hc rfl
      have hr : r.count c = n := by
        rw [List.count_append, List.count_cons_self] at h
        omega
      have hi := index_at (r := r) hp
      have hne : ((p.length : Int) == -1) = false := by simp <;> omega
      rw [Lib.splitK, hi, hne, cutU_hit hp]
      simp [splitK_cut c n r hr]
theorem map_data_inj : ∀ {l m : List ByteArray}, l.map (·.data.toList) = m.map (·.data.toList) → l = m
  | [], [], _ => rfl
  | [], y :: m, h => by simp at h
  | x :: l, [], h => by simp at h
  | x :: l, y :: m, h => by
    simp only [List.map_cons, List.cons.injEq] at h
    rw [map_data_inj h.2, ByteArray.ext (Array.ext' h.1)]
theorem splitB_cut (s : ByteArray) (c : UInt8) : Lib.splitB ⟨#[c]⟩ 0 (Lib.countB s ⟨#[c]⟩) s = cutC s c.toNat := by
  apply map_data_inj
  rw [Lib.splitB_data, cutC_spec]
  exact splitK_cut c _ _ (Lib.count_one c _).symm
theorem split_call (hm : MaxW w0) (s : ByteArray) (c : UInt8) (hs : s.size < 4294967281) : CallAt Tryz.prog w0 k 48 [.str s, .str ⟨#[c]⟩] H (H.upd ⟨1, k, 9⟩ (some .tok)) (.list (.tok ⟨1, k, 9⟩) ((cutC s c.toNat).map cS.enc)) := by
  refine callAt_of_row Tryz.func48 rfl (by kernel_rfl) (fun x hx => ?_) fun G w ca hsm hr => ?_
  · obtain ⟨y, _, rfl⟩ := List.mem_map.1 hx
    rfl
  obtain rfl := rep2 hr
  obtain ⟨m, hm⟩ := hm
  refine (Tryz.strings_Split s ⟨#[c]⟩ m w hs (cell_below hsm.below hm) (Nat.le_refl 1)).mono fun e w' he => ?_
  obtain ⟨rfl, rfl⟩ := he
  have hl := Lib.splitB_all ⟨#[c]⟩ (Nat.le_refl 1) 0 _ s rfl
  rw [splitB_cut] at hl ⊢
  refine ⟨_, by rw [List.length_map, hl], rfl, ?_⟩
  have : ∀ l : List ByteArray, RepL G (l.map cS.enc).flatten (l.map Value.string) := by
    intro l
    induction l with
    | nil => simp [RepL]
    | cons x l ih =>
      simp only [List.map_cons, List.flatten_cons, cS, List.cons_append, List.nil_append, RepL, Rep]
      exact ⟨_, _, rfl, rfl, ih⟩
  simpa using this _
/-- Where the first byte c stands; if there is none, the text's length. -/
def fstF (s : ByteArray) (c : Int) : Nat → Nat → Nat
  | 0, i => i
  | m + 1, i => if byteAt s i = c then i else fstF s c m (i + 1)
def fstC (s : ByteArray) (c : Int) : Nat := fstF s c s.size 0
theorem fstF_le (s : ByteArray) (c : Int) : ∀ m i, fstF s c m i ≤ i + m
  | 0, i => Nat.le_refl _
  | m + 1, i => by
    rw [fstF]
    split
    · omega
    · have := fstF_le s c m (i + 1)
      omega
theorem fstC_le (s : ByteArray) (c : Int) : fstC s c ≤ s.size := by
  have := fstF_le s c s.size 0
  unfold fstC
  omega
theorem fstF_at {s : ByteArray} {c : Int} : ∀ {m i j : Nat}, i ≤ j → j < i + m → byteAt s j = c → (∀ q : Nat, i ≤ q → q < j → byteAt s q ≠ c) → fstF s c m i = j
  | 0, i, j, h1, h2, _, _ => by omega
  | m + 1, i, j, h1, h2, h3, h4 => by
    rw [fstF]
    by_cases e : i = j
    · subst e
      rw [if_pos h3]
    · rw [if_neg (h4 i (Nat.le_refl _) (by omega)), fstF_at (by omega) (by omega) h3 fun q h5 h6 => h4 q (by omega) h6]
theorem fstF_no {s : ByteArray} {c : Int} : ∀ {m i : Nat}, (∀ q : Nat, i ≤ q → q < i + m → byteAt s q ≠ c) → fstF s c m i = i + m
  | 0, i, _ => rfl
  | m + 1, i, h => by
    rw [fstF, if_neg (h i (Nat.le_refl _) (by omega)), fstF_no fun q h1 h2 => h q (by omega) (by omega)]
    omega
theorem cut_fst (s : ByteArray) (c : UInt8) : Lib.cut s.data.toList [c] = (s.data.toList.take (fstC s c.toNat), s.data.toList.drop (fstC s c.toNat + 1), decide (fstC s c.toNat < s.size)) := by
  have hl : s.data.toList.length = s.size := by rw [Array.length_toList]; rfl
  have hbyte : ∀ (q : Nat) b, s.data.toList[q]? = some b → byteAt s q = (b.toNat : Int) := fun q b hb => by
    have hq : q < s.size := by rw [← hl]; exact (List.getElem?_eq_some_iff.1 hb).1
    obtain ⟨b', h1, h2⟩ := byteAt_list s q hq
    rw [hb] at h1
    cases h1
    exact h2
  rcases byte_parts (c := c) s.data.toList with hn | ⟨p, r, h, hp⟩
  · have hf : fstC s c.toNat = s.size := by
      have := fstF_no (s := s) (c := (c.toNat : Int)) (m := s.size) (i := 0) fun q _ hq e => by
        obtain ⟨b, h1, h2⟩ := byteAt_list s q (by omega)
        exact hn b (List.mem_of_getElem? h1) (UInt8.toNat_inj.1 (by omega))
      rw [fstC, this]
      omega
    rw [Lib.cut, index_miss hn, hf, if_neg (by omega), List.take_of_length_le (by omega), List.drop_of_length_le (by omega)]
    simp
  · have hpl : p.length < s.size := by rw [← hl, h]; simp
    have hf : fstC s c.toNat = p.length := by
      refine fstF_at (Nat.zero_le _) (by omega) (hbyte _ c (by rw [h]; simp)) fun q _ hq e => ?_
      have hq2 : s.data.toList[q]? = some p[q] := by rw [h, List.getElem?_append_left hq, List.getElem?_eq_getElem hq]
      exact hp p[q] (List.getElem_mem hq) (UInt8.toNat_inj.1 (by have := hbyte _ _ hq2; omega))
    have hi := index_at (r := r) hp
    rw [Lib.cut, h, hi, hf, if_pos (by omega)]
    simp [hpl]
theorem cut_call (hm : MaxW w0) (s : ByteArray) (c : UInt8) (hs : s.size < 4294967281) : CallAt Tryz.prog w0 k 52 [.str s, .str ⟨#[c]⟩] H H (.tup [.str (s.extract 0 (fstC s c.toNat)), .str (s.extract (fstC s c.toNat + 1) s.size), .bool (decide (fstC s c.toNat < s.size))]) := by
  refine callAt_of_law' Tryz.func52 rfl (by kernel_rfl) fun G w ca hsm hr => ?_
  obtain rfl := rep2 hr
  obtain ⟨m, hm⟩ := hm
  refine (Tryz.strings_Cut s ⟨#[c]⟩ m w hs (cell_below hsm.below hm)).mono fun e w' he => ?_
  obtain ⟨rfl, n, rfl⟩ := he
  refine ⟨_, fun _ => none, rfl, ?_, (fun a u h => by cases h), ?_⟩
  · have hd : ∀ (j : Nat) (w : World), Below w.heap.size w (w.drewN j) := fun j w => ⟨rfl, rfl, rfl, Nat.le_refl _, fun _ _ => rfl⟩
    exact hd n w
  · have h1 := cut_fst s c
    have e1 : (⟨(Lib.cut s.data.toList [c]).1.toArray⟩ : ByteArray) = s.extract 0 (fstC s c.toNat) := by rw [h1, Lib.extract_eq]; simp
    have e2 : (⟨(Lib.cut s.data.toList [c]).2.1.toArray⟩ : ByteArray) = s.extract (fstC s c.toNat + 1) s.size := by
      have hl : s.data.toList.length = s.size := by rw [Array.length_toList]; rfl
      rw [h1, Lib.extract_eq, List.take_of_length_le (l := s.data.toList.drop _) (by rw [List.length_drop]; omega)]
    have e3 : (Lib.cut s.data.toList [c]).2.2 = decide (fstC s c.toNat < s.size) := by rw [h1]
    show Rep _ _ (.tuple #[.string ⟨(Lib.cut s.data.toList [c]).1.toArray⟩, .string ⟨(Lib.cut s.data.toList [c]).2.1.toArray⟩, .bool (Lib.cut s.data.toList [c]).2.2])
    rw [e1, e2, e3]
    simp [Rep, RepL]
end Go.Proofs.YtkdendaohlnlcaaGreatDoor.Av

/- strings.Builder: a text that grows. No condition. -/
namespace Go.Proofs.YtkdendaohlnlcaaGreatDoor.Av
set_option linter.unusedVariables false
set_option linter.unusedSimpArgs false
set_option maxRecDepth 4000
set_option maxHeartbeats 1000000
variable {w0 : Base} {k : List Nat} {H : Hp}
theorem noEscape_call (v : AV) : CallAt Tryz.prog w0 k 102 [v] H H v := by
  refine .inr ⟨_, Extern.AbiNoEscape.same, Tryz.func102, rfl, by kernel_rfl, by kernel_rfl, by kernel_rfl, fun G w ca hs hf hr => ?_⟩
  obtain ⟨V, hV, h1⟩ : ∃ V, ca.toList = [V] ∧ Rep G v V := by
    simp only [RepL] at hr
    obtain ⟨u, us, e, h1, rfl⟩ := hr
    exact ⟨u, e, h1⟩
  obtain rfl : ca = #[V] := by apply Array.ext'; simpa using hV
  exact ⟨G, w, V, Gh.Le.refl G, New.refl k G, hs, h1, rfl⟩
theorem Hp.upd_self {H : Hp} {i : Id} {e : Option Ent} (h : H i = e) : (H.upd i e).Le H := fun j x hj => by
  by_cases hji : j = i
  · subst hji; rw [Hp.upd_same] at hj; rw [h, hj]
  · rwa [Hp.upd_ne _ _ hji] at hj
theorem builder_lies : liesAt Tryz.prog Tryz.prog.depth 63 (2 / Tryz.prog.cellsOf 63) 0 63 1 = true := by kernel_rfl
theorem copyCheck_call (id : Id) (p X : AV) (hp : p = .raw (.pointer none) ∨ p = .ptr id 0) (hH : H id = some (.cells [p, X])) (hz : id.sz = 2) (hy : id.ty = 63) :
    CallAt Tryz.prog w0 k 68 [.ptr id 0] H (H.upd id (some (.cells [.ptr id 0, X]))) (.tup []) := by
  refine callAt tabOk Spec.no_ok mixed Tryz.func68 rfl rfl Tryz.results68 Tryz.ntmps68 (by simp) [] ?_
  intro hfr t hl ht
  simp only [At, Nat.reduceAdd, List.cons_append, List.nil_append] at ht
  rcases hp with rfl | rfl
  · simp (config := {contextual := true, maxSteps := 5000000}) only [go_sem, false_and, Nat.reduceAdd, Nat.reduceLT, Nat.reduceBEq, Nat.reduceSub, Nat.reduceMul, Nat.reduceLeDiff, Int.reduceToNat, Nat.reduceEqDiff, Nat.reduceMod, ht, hl, hH, hz, hy, Spec.no]
    refine callK_intro (noEscape_call _) ?_
    simp (config := {contextual := true, maxSteps := 5000000}) only [go_sem, false_and, Nat.reduceAdd, Nat.reduceLT, Nat.reduceBEq, Nat.reduceSub, Nat.reduceMul, Nat.reduceLeDiff, Int.reduceToNat, Nat.reduceEqDiff, Nat.reduceMod, ht, hl, hH, hz, hy, Spec.no, builder_lies]
  · simp (config := {contextual := true, maxSteps := 5000000}) only [go_sem, false_and, Nat.reduceAdd, Nat.reduceLT, Nat.reduceBEq, Nat.reduceSub, Nat.reduceMul, Nat.reduceLeDiff, Int.reduceToNat, Nat.reduceEqDiff, Nat.reduceMod, ht, hl, hH, hz, hy, Spec.no]
    exact Hp.upd_self hH
/-- What may be at the end of a text that grows. -/
def tokB (H : Hp) : Tok → ByteArray → Prop
  | .nil, s => s = .empty
  | .tok t, _ => t.sz = 1 ∧ t.ty = 5 ∧ H t = none
  | _, _ => False
def tokUp (H : Hp) : Tok → Hp
  | .tok t => H.upd t (some .tok)
  | _ => H
/-- The heap H0 with a builder besides, that holds s. -/
def bdH (H : Hp) (id : Id) (p : AV) (tk : Tok) (s : ByteArray) : Hp := (tokUp H tk).upd id (some (.cells [p, .list tk (bytesA s)]))
def BdAt (H0 : Hp) (id : Id) (s : ByteArray) (H : Hp) : Prop := (id.sz = 2 ∧ id.ty = 63) ∧ ∃ p tk, (p = .raw (.pointer none) ∨ p = .ptr id 0) ∧ tokB H0 tk s ∧ (bdH H0 id p tk s).Le H
theorem bytesA_append (s t : ByteArray) : bytesA s ++ (bytesA t).map (·.map strip) = bytesA (s ++ t) := by
  simp only [bytesA, List.map_map, ByteArray.data_append, Array.toList_append, List.map_append]
  rfl
theorem BdAt.mono {H0 H H' : Hp} {id : Id} {s : ByteArray} (h : BdAt H0 id s H) (hl : H.Le H') : BdAt H0 id s H' := by
  obtain ⟨h0, p, tk, h1, h2, h3⟩ := h
  exact ⟨h0, p, tk, h1, h2, h3.trans hl⟩
theorem bytes_one (s : ByteArray) : (bytesA s).flatten.all oneA = true := by
  rw [List.all_eq_true]
  intro x hx
  obtain ⟨l, hl, hx⟩ := List.mem_flatten.1 hx
  obtain ⟨b, _, rfl⟩ := List.mem_map.1 hl
  simp only [List.mem_cons, List.not_mem_nil, or_false] at hx
  subst hx
  rfl
/-- A call that writes a text to the builder. -/
def Wrote (f : FuncId) (args : List AV) (id : Id) (txt : ByteArray) (v : AV) : Prop := ∀ w0 k H0 H s, BdAt H0 id s H → s.size + txt.size ≤ 140737488355328 → (∀ i : Id, k <:+ i.key → H0 i = none) → ∃ H' u, (BdAt H0 id (s ++ txt) H' ∧ u = v) ∧ CallAt Tryz.prog w0 k f args H H' u
theorem tokB_live {H0 H : Hp} {id : Id} {p : AV} {tk : Tok} {s : ByteArray} (hid : id.sz = 2) (h : tokB H0 tk s) (hl : (bdH H0 id p tk s).Le H) : tokLive H 1 5 tk := by
  cases tk with
  | none => exact h
  | nil => trivial
  | full => exact h.elim
  | tok t =>
    refine ⟨hl t .tok ?_, h.1, h.2.1⟩
    have hne : t ≠ id := fun e => by have := h.1; rw [e, hid] at this; omega
    rw [bdH, Hp.upd_ne _ _ hne, tokUp, Hp.upd_same]
theorem bdH_at {H0 : Hp} {id j : Id} {p : AV} {tk : Tok} {s : ByteArray} {e : Ent} (hji : j ≠ id) (htk : tokB H0 tk s) (h : H0 j = some e) : bdH H0 id p tk s j = some e := by
  rw [bdH, Hp.upd_ne _ _ hji]
  cases tk with
  | tok t0 =>
    have hjt : j ≠ t0 := fun e => by have := htk.2.2; rw [← e, h] at this; cases this
    rw [tokUp, Hp.upd_ne _ _ hjt, h]
  | _ => exact h
theorem ws_call (id : Id) (t : ByteArray) (ht : (t.size : Int) ≤ 9223372036854775807) : Wrote 39 [.ptr id 0, .str t] id t (.tup [.int .i64 t.size, .raw .nilIface]) := by
  intro w0 k H0 H s ⟨⟨hz, hy⟩, p, tk, hp, htk, hle⟩ hsz hfr0
  have hH : H id = some (.cells [p, .list tk (bytesA s)]) := hle _ _ (Hp.upd_same _ _ _)
  have hlive := tokB_live hz htk hle
  have hno : H0 ⟨1, 6 :: 2 :: k, 5⟩ = none := hfr0 _ (sfx2 _ _ _)
  refine ⟨bdH H0 id (.ptr id 0) (tokBy tk (bytesA t) ⟨1, 6 :: 2 :: k, 5⟩) (s ++ t), _, ⟨⟨⟨hz, hy⟩, _, _, .inr rfl, ?_, Hp.Le.refl _⟩, rfl⟩, ?_⟩
  · cases tk with
    | none => exact htk.elim
    | full => exact htk.elim
    | nil =>
      cases htb : bytesA t with
      | nil =>
        have h0 : t = .empty := by
          have : (bytesA t).length = 0 := by rw [htb]; rfl
          rw [bytesA_length] at this
          exact ByteArray.size_eq_zero_iff.1 this
        rw [show s = .empty from htk, h0]
        rfl
      | cons b l => exact ⟨rfl, rfl, hno⟩
    | tok t0 => exact ⟨rfl, rfl, hno⟩
  refine callAt tabOk Spec.no_ok mixed Tryz.func39 rfl rfl Tryz.results39 Tryz.ntmps39 (by simp) [] ?_
  intro hfr u hl ht'
  simp only [At, Nat.reduceAdd] at ht'
  simp (config := {contextual := true, maxSteps := 5000000}) only [go_sem, false_and, Nat.reduceAdd, Nat.reduceLT, Nat.reduceBEq, Nat.reduceSub, Nat.reduceMul, Nat.reduceLeDiff, Int.reduceToNat, Nat.reduceEqDiff, Nat.reduceMod, ht', hl, hH, hz, hy, Spec.no]
  refine callK_intro (copyCheck_call id p _ hp hH hz hy) ?_
  simp (config := {contextual := true, maxSteps := 5000000}) only [go_sem, false_and, Nat.reduceAdd, Nat.reduceLT, Nat.reduceBEq, Nat.reduceSub, Nat.reduceMul, Nat.reduceLeDiff, Int.reduceToNat, Nat.reduceEqDiff, Nat.reduceMod, ht', hl, hH, hz, hy, Spec.no]
  have hne : id ≠ ⟨1, 6 :: 2 :: k, 5⟩ := fun e => by rw [e] at hz; cases hz
  have htn : ∀ t0, tk = .tok t0 → t0 ≠ id := fun t0 e hh => by
    subst e
    have := htk.1
    rw [hh, hz] at this
    omega
  have hk2 : killTok (H.upd id (some (.cells [.ptr id 0, .list tk (bytesA s)]))) tk id = some (.cells [.ptr id 0, .list tk (bytesA s)]) := by
    cases tk with
    | tok t0 => rw [killTok, Hp.upd_ne _ _ (htn t0 rfl).symm, Hp.upd_same]
    | _ => exact Hp.upd_same _ _ _
  refine ⟨bytesA_each s, bytes_one t, by rw [bytesA_length, bytesA_length]; omega, by rw [bytesA_length, bytesA_length]; omega, ?_, ?_⟩
  · cases tk with
    | tok t0 => exact ⟨by rw [Hp.upd_ne _ _ (htn t0 rfl)]; exact hlive.1, hlive.2⟩
    | _ => exact hlive
  simp (config := {contextual := true, maxSteps := 5000000}) only [go_sem, false_and, Nat.reduceAdd, Nat.reduceLT, Nat.reduceBEq, Nat.reduceSub, Nat.reduceMul, Nat.reduceLeDiff, Int.reduceToNat, Nat.reduceEqDiff, Nat.reduceMod, ht', hl, hz, hy, Spec.no, bytesA_append, hne, hk2]
  intro j e hj
  by_cases hji : j = id
  · subst hji
    rw [bdH, Hp.upd_same] at hj
    rw [Hp.upd_same, hj]
  · rw [bdH, Hp.upd_ne _ _ hji] at hj
    rw [Hp.upd_ne _ _ hji]
    by_cases hjx : j = ⟨1, 6 :: 2 :: k, 5⟩
    · subst hjx
      rw [Hp.upd_same]
      have : ∀ tk', tk' = .nil ∨ tk' = .tok ⟨1, 6 :: 2 :: k, 5⟩ → tokUp H0 tk' ⟨1, 6 :: 2 :: k, 5⟩ = some e → some Ent.tok = some e := fun tk' h h2 => by
        rcases h with rfl | rfl
        · have h3 : H0 ⟨1, 6 :: 2 :: k, 5⟩ = some e := h2
          rw [hno] at h3; cases h3
        · rw [tokUp, Hp.upd_same] at h2; exact h2
      refine this _ ?_ hj
      cases tk with
      | none => exact htk.elim
      | full => exact htk.elim
      | nil => cases bytesA t with
        | nil => exact .inl rfl
        | cons b l => exact .inr rfl
      | tok t0 => exact .inr rfl
    · rw [Hp.upd_ne _ _ hjx]
      have hj0 : H0 j = some e := by
        have : ∀ tk', tk' = .nil ∨ tk' = .tok ⟨1, 6 :: 2 :: k, 5⟩ → tokUp H0 tk' j = some e → H0 j = some e := fun tk' h h2 => by
          rcases h with rfl | rfl
          · exact h2
          · rwa [tokUp, Hp.upd_ne _ _ hjx] at h2
        refine this _ ?_ hj
        cases tk with
        | none => exact htk.elim
        | full => exact htk.elim
        | nil => cases bytesA t with
          | nil => exact .inl rfl
          | cons b l => exact .inr rfl
        | tok t0 => exact .inr rfl
      have h2 := hle _ _ (bdH_at hji htk hj0)
      cases tk with
      | none => exact htk.elim
      | full => exact htk.elim
      | nil => exact (Hp.upd_ne _ _ hji).trans h2
      | tok t0 =>
        have hjt : j ≠ t0 := fun e => by have := htk.2.2; rw [← e, hj0] at this; cases this
        rw [killTok, Hp.upd_ne _ _ hjt, Hp.upd_ne _ _ hji]
        exact h2
theorem BdAt.upd {H0 H : Hp} {id X : Id} {s : ByteArray} {e : Option Ent} (h : BdAt H0 id s H) (h1 : X.sz ≠ 1) (h2 : X.sz ≠ 2) (h0 : H0 X = none) : BdAt H0 id s (H.upd X e) := by
  obtain ⟨⟨hz, hy⟩, p, tk, hp, htk, hle⟩ := h
  refine ⟨⟨hz, hy⟩, p, tk, hp, htk, Hp.le_upd hle ?_⟩
  have hX : X ≠ id := fun e => h2 (by rw [e, hz])
  rw [bdH, Hp.upd_ne _ _ hX]
  cases tk with
  | tok t0 =>
    have hXt : X ≠ t0 := fun e => h1 (by rw [e]; exact htk.1)
    rw [tokUp, Hp.upd_ne _ _ hXt, h0]
  | _ => exact h0
theorem BdAt.ex {H0 : Hp} {id : Id} (hz : id.sz = 2) (hy : id.ty = 63) {k : List Nat} (h0 : ∀ i : Id, k <:+ i.key → H0 i = none) (s : ByteArray) : ∃ H', BdAt H0 id s H' :=
  ⟨bdH H0 id (.ptr id 0) (.tok ⟨1, k, 5⟩) s, ⟨hz, hy⟩, .ptr id 0, .tok ⟨1, k, 5⟩, .inr rfl, ⟨rfl, rfl, h0 _ (List.suffix_refl _)⟩, Hp.Le.refl _⟩
/-- A new builder. -/
theorem BdAt.new {H0 : Hp} {id : Id} (hz : id.sz = 2) (hy : id.ty = 63) (h0 : H0 id = none) : BdAt H0 id .empty (H0.upd id (some (.cells [.raw (.pointer none), .list .nil []]))) :=
  ⟨⟨hz, hy⟩, _, .nil, .inl rfl, rfl, Hp.Le.refl _⟩
theorem BdAt.le {H0 H : Hp} {id : Id} {s : ByteArray} (h : BdAt H0 id s H) (h0 : H0 id = Option.none) : H0.Le H := by
  obtain ⟨_, p, tk, _, htk, hle⟩ := h
  intro j e hj
  exact hle _ _ (bdH_at (fun e => by rw [e, h0] at hj; cases hj) htk hj)
theorem len_call (id : Id) {H0 : Hp} {s : ByteArray} (hb : BdAt H0 id s H) : CallAt Tryz.prog w0 k 43 [.ptr id 0] H H (.int .i64 s.size) := by
  obtain ⟨⟨hz, hy⟩, p, tk, hp, htk, hle⟩ := hb
  have hH : H id = some (.cells [p, .list tk (bytesA s)]) := hle _ _ (Hp.upd_same _ _ _)
  refine callAt tabOk Spec.no_ok mixed Tryz.func43 rfl rfl Tryz.results43 Tryz.ntmps43 (by simp) [] ?_
  intro hfr u hl ht
  simp only [At, Nat.reduceAdd] at ht
  simp (config := {contextual := true, maxSteps := 5000000}) only [go_sem, false_and, Nat.reduceAdd, Nat.reduceLT, Nat.reduceBEq, Nat.reduceSub, Nat.reduceMul, Nat.reduceLeDiff, Int.reduceToNat, Nat.reduceEqDiff, Nat.reduceMod, ht, hl, hH, hz, hy, Spec.no, bytesA_length]
theorem string_call (id : Id) {H0 : Hp} {s : ByteArray} (hb : BdAt H0 id s H) (h0 : H0 id = none) (hs : (s.size : Int) ≤ 9223372036854775807) : CallAt Tryz.prog w0 k 44 [.ptr id 0] H H0 (.str s) := by
  obtain ⟨⟨hz, hy⟩, p, tk, hp, htk, hle⟩ := hb
  have hH : H id = some (.cells [p, .list tk (bytesA s)]) := hle _ _ (Hp.upd_same _ _ _)
  have hlive := tokB_live hz htk hle
  refine callAt tabOk Spec.no_ok mixed Tryz.func44 rfl rfl Tryz.results44 Tryz.ntmps44 (by simp) [] ?_
  intro hfr u hl ht
  simp only [At, Nat.reduceAdd] at ht
  have hne0 : ∀ t0, tk = .tok t0 → H0 t0 = none := fun t0 e => by subst e; exact htk.2.2
  simp (config := {contextual := true, maxSteps := 5000000}) only [go_sem, false_and, Nat.reduceAdd, Nat.reduceLT, Nat.reduceBEq, Nat.reduceSub, Nat.reduceMul, Nat.reduceLeDiff, Int.reduceToNat, Nat.reduceEqDiff, Nat.reduceMod, ht, hl, hH, hz, hy, Spec.no, bytesA_length]
  refine ⟨by kernel_rfl, ?_, hs, ?_, by (refine pw_of ?_; (repeat' (first | exact trivial | apply And.intro)); all_goals (first | exact .inr rfl | exact .inr trivial | exact .inl (by kernel_rfl))), fun j e hj => ?_⟩
  · cases tk with
    | nil => exact .inl rfl
    | tok t0 => exact .inr (.inr ⟨t0, rfl, hlive.1⟩)
    | none => exact htk.elim
    | full => exact htk.elim
  · cases tk with
    | nil => exact .inl (by rw [show s = .empty from htk]; rfl)
    | tok t0 => exact .inr ⟨by kernel_rfl, t0, rfl, hlive.1, htk.2.1, htk.1⟩
    | none => exact htk.elim
    | full => exact htk.elim
  · have hji : j ≠ id := fun e => by rw [e, h0] at hj; cases hj
    have h2 := hle _ _ (bdH_at hji htk hj)
    cases tk with
    | tok t0 =>
      have hjt : j ≠ t0 := fun e => by rw [e, hne0 t0 rfl] at hj; cases hj
      rw [killTok, Hp.upd_ne _ _ hjt]
      exact h2
    | _ => exact h2
end Go.Proofs.YtkdendaohlnlcaaGreatDoor.Av

/- Functions of Go's library that answer texts. No condition. -/
namespace Go.Proofs.YtkdendaohlnlcaaGreatDoor.Av
set_option linter.unusedVariables false
set_option linter.unusedSimpArgs false
set_option maxRecDepth 4000
set_option maxHeartbeats 1000000
open Go.RowKit
variable {w0 : Base} {k : List Nat} {H : Hp}
/-- A text, out of its bytes. -/
abbrev T (l : List UInt8) : ByteArray := ⟨l.toArray⟩
@[go_sem] theorem T_append (l m : List UInt8) : ByteArray.mk l.toArray ++ ByteArray.mk m.toArray = ByteArray.mk (l ++ m).toArray := by
  apply ByteArray.ext
  simp [ByteArray.data_append]
theorem T_size (l : List UInt8) : (T l).size = l.length := by simp [ByteArray.size]
def L (s : ByteArray) : List UInt8 := s.data.toList
theorem T_L (s : ByteArray) : T (L s) = s := rfl
theorem L_T (l : List UInt8) : L (T l) = l := by simp [L]
theorem L_append (s t : ByteArray) : L (s ++ t) = L s ++ L t := by simp [L, ByteArray.data_append]
theorem L_length (s : ByteArray) : (L s).length = s.size := by
  unfold L
  rw [Array.length_toList]
  rfl
theorem L_inj {s t : ByteArray} (h : L s = L t) : s = t := by rw [← T_L s, ← T_L t, h]
theorem below_sort {w : World} {n : Nat} {os : Array Obj} : Below w.heap.size w (Go.Sort.grow (w.drewN n) os) :=
  ⟨rfl, rfl, rfl, by simp [Go.Sort.grow, World.drewN], fun k hk => by
    show (w.heap ++ os)[k]? = _
    exact Array.getElem?_append_left hk⟩
theorem tabIs_below {P : Program} {w w' : World} {name : String} {kd : IntKind} {zs : List Int} (h : Lib.TabIs P w name kd zs) (hb : Below w.heap.size w w') : Lib.TabIs P w' name kd zs := by
  unfold Lib.TabIs World.var? at h ⊢
  rw [Option.bind_eq_some_iff] at h ⊢
  obtain ⟨g, h1, h2⟩ := h
  refine ⟨g, h1, ?_⟩
  have hg : g < w.heap.size := by
    cases hh : w.heap[g]? with
    | none => rw [hh] at h2; cases h2
    | some o => exact (Array.getElem?_eq_some_iff.1 hh).1
  rw [hb.block g hg]
  exact h2
/-- The table that strconv.Itoa reads. -/
def TabW (w0 : Base) : Prop := Lib.TabIs Tryz.prog w0.w "internal/strconv.uint64pow10" .u64 Lib.pow10Tab
theorem itoa_call (hw : TabW w0) (n : Int) (h0 : -9223372036854775808 ≤ n) (h1 : n ≤ 9223372036854775807) : CallAt Tryz.prog w0 k 37 [.int .i64 n] H H (.str (T (Lib.itoa n))) := by
  refine callAt_of_law' Tryz.func37 rfl (by kernel_rfl) fun G w ca hs hr => ?_
  obtain rfl : ca = #[.int .i64 n] := by
    simp only [RepL, Rep] at hr
    obtain ⟨u, us, e, rfl, rfl⟩ := hr
    apply Array.ext'
    simpa using e
  have htab : Lib.TabIs Tryz.prog w "internal/strconv.uint64pow10" .u64 Lib.pow10Tab := tabIs_below hw hs.below
  refine (Tryz.strconv_Itoa n h0 h1 w htab).mono fun e w' he => ?_
  obtain ⟨rfl, kk, os, rfl⟩ := he
  exact ⟨_, fun _ => none, rfl, below_sort, (fun a u h => by cases h), by simp [Rep]⟩
theorem itoa_small (n : Int) (h0 : 0 ≤ n) (h1 : n < 100) : CallAt Tryz.prog w0 k 37 [.int .i64 n] H H (.str (T (Lib.itoa n))) := by
  refine callAt_of_law' Tryz.func37 rfl (by kernel_rfl) fun G w ca hs hr => ?_
  obtain ⟨m, rfl⟩ : ∃ m : Nat, n = m := ⟨n.toNat, by omega⟩
  obtain rfl : ca = #[.int .i64 m] := by
    simp only [RepL, Rep] at hr
    obtain ⟨u, us, e, rfl, rfl⟩ := hr
    apply Array.ext'
    simpa using e
  refine (Tryz.strconv_Itoa_small m (by omega) w).mono fun e w' he => ?_
  obtain ⟨rfl, rfl⟩ := he
  refine ⟨_, fun _ => none, rfl, Below.refl _ _, (fun a u h => by cases h), ?_⟩
  simp only [Rep]
  rw [Lib.itoa, if_neg (by omega)]
  simp
theorem repE_str {G : Gh} {ad : Addr} : ∀ (l : List ByteArray) (i : Nat), RepE G ad i (l.map cS.enc) → ∀ j x, l[j]? = some x → G.C (ad.add (i + j)) = some (.string x)
  | [], i, _, j, x, h => by simp at h
  | s :: l, i, hr, j, x, h => by
    simp only [List.map_cons, cS, RepE, RepC, Rep] at hr
    obtain ⟨⟨⟨v, e, rfl⟩, _⟩, h2⟩ := hr
    cases j with
    | zero =>
      simp only [List.getElem?_cons_zero, Option.some.injEq] at h
      subst h
      simpa using e
    | succ j =>
      have := repE_str l (i + 1) h2 j x (by simpa using h)
      rwa [show i + 1 + j = i + (j + 1) by omega] at this
/-- The texts, with another one between. -/
def joinT (l : List ByteArray) (sep : ByteArray) : List UInt8 := Lib.join (l.map L) (L sep)
theorem join_call (l : List ByteArray) (sep : ByteArray) (hl : l.length ≤ 140737488355328) (hj : (joinT l sep).length ≤ 140737488355328) : CallAt Tryz.prog w0 k 40 [(dL cS).enc l, .str sep] H H (.str (T (joinT l sep))) := by
  refine callAt_of_law' Tryz.func40 rfl (by kernel_rfl) fun G w ca hs hr => ?_
  simp only [dL, RepL, Rep] at hr
  obtain ⟨V, us, e1, ⟨A, n, c, rfl, hn, hc, _, _, ad, ha, hre⟩, V2, us2, rfl, rfl, rfl⟩ := hr
  obtain rfl : ca = #[.slice A n c, .string sep] := by apply Array.ext'; simpa using e1
  rw [List.length_map] at hn
  subst hn
  cases l with
  | nil =>
    refine (Tryz.strings_Join_none A c sep w).mono fun e w' he => ?_
    obtain ⟨rfl, rfl⟩ := he
    exact ⟨_, fun _ => none, rfl, Below.refl _ _, (fun a u h => by cases h), by simp [Rep, joinT, Lib.join_nil]⟩
  | cons x l =>
    have hA := ha (by simp)
    subst hA
    have hcell := repE_str _ 0 hre
    obtain ⟨bk, o, sp⟩ := ad
    have h0 := hs.c _ _ (by simpa using hcell 0 x rfl)
    have hsp : sp = none := by
      cases sp with
      | none => rfl
      | some q =>
        exfalso
        unfold World.cell? at h0
        simp only [Addr.add, if_true] at h0
        split at h0
        · simp at h0
        · cases h0
    subst hsp
    have hlt := World.block_lt_of_cell? w _ h0
    refine (Tryz.strings_Join bk o c (x :: l) sep w (fun j y hy => ?_) (by simpa [Addr.add] using hlt) hl hc hj).mono fun e w' he => ?_
    · have := hs.c _ _ (by simpa using hcell j y hy)
      have hadd : (⟨bk, o, none⟩ : Addr).add j = ⟨bk, o + j, none⟩ := by unfold Addr.add; split <;> simp_all
      rwa [hadd] at this
    · obtain ⟨rfl, hb⟩ := he
      exact ⟨_, fun _ => none, rfl, hb, (fun a u h => by cases h), by simp only [Rep]; rfl⟩
end Go.Proofs.YtkdendaohlnlcaaGreatDoor.Av

/- The tokens read back: a text made of lexemes is read as their tokens. Plain. No condition. -/
namespace Go.Proofs.YtkdendaohlnlcaaGreatDoor.Av
set_option linter.unusedVariables false
set_option linter.unusedSimpArgs false
set_option maxRecDepth 4000
set_option maxHeartbeats 1000000
inductive Lx where
  | sp
  | sg (c : UInt8)
  | sy (c : UInt8) (n : Nat)
def Lx.bs : Lx → List UInt8
  | .sp => [32]
  | .sg c => [c]
  | .sy c n => c :: Lib.decDigits n
def Lx.sig : Lx → List (Int × Int)
  | .sp => []
  | .sg c => [(4, c.toNat)]
  | .sy c n => [(kindOf c.toNat, n)]
def Lx.fine : Lx → Prop
  | .sp => True
  | .sg c => isSign c.toNat = true
  | .sy c n => (c = 120 ∧ n ≤ 63) ∨ ((c = 102 ∨ c = 80) ∧ n ≤ 99)
theorem byteAt_T {l : List UInt8} {i : Nat} {b : UInt8} (h : l[i]? = some b) : byteAt (T l) i = b.toNat := by
  obtain ⟨c, h1, h2⟩ := byteAt_list (T l) i (by rw [T_size]; exact (List.getElem?_eq_some_iff.1 h).1)
  have h3 : l[i]? = some c := h1
  rw [h] at h3
  cases h3
  exact h2
theorem byteAt_at (pre r : List UInt8) (b : UInt8) : byteAt (T (pre ++ b :: r)) pre.length = b.toNat := byteAt_T (by simp)
theorem T_drop (pre r : List UInt8) (b : UInt8) : (T (pre ++ b :: r)).extract (pre.length + 1) (T (pre ++ b :: r)).size = T r := by
  apply ByteArray.ext
  apply Array.toList_inj.1
  rw [Lib.extract_data, T_size]
  show List.take _ (List.drop (pre.length + 1) (pre ++ b :: r)) = r
  rw [show pre.length + 1 = (pre ++ [b]).length by simp, show pre ++ b :: r = (pre ++ [b]) ++ r by simp, List.drop_left, List.take_of_length_le (by simp <;> omega)]
/-- No digit stands first. -/
def noDig : List UInt8 → Prop
  | [] => True
  | b :: _ => isDig b.toNat = false
theorem digs_none {r : List UInt8} {pre : List UInt8} (h : noDig r) : digs (T (pre ++ r)) pre.length = 0 := by
  refine digs_stop fun hh => ?_
  cases r with
  | nil =>
    rw [T_size] at hh
    simp at hh
  | cons b r =>
    rw [byteAt_at] at hh
    rw [show isDig b.toNat = false from h] at hh
    exact absurd hh.2 (by simp)
theorem dig_of {n : Nat} (h : n < 10) : isDig ((UInt8.ofNat (48 + n)).toNat : Int) = true ∧ ((UInt8.ofNat (48 + n)).toNat : Int) = 48 + n := by
  have e : (UInt8.ofNat (48 + n)).toNat = 48 + n := by simp; omega
  rw [e]
  simp [isDig]
  omega
theorem digs_cons {pre r : List UInt8} {b : UInt8} (h : isDig b.toNat = true) : digs (T (pre ++ b :: r)) pre.length = digs (T ((pre ++ [b]) ++ r)) (pre ++ [b]).length + 1 := by
  rw [digs_step (by rw [T_size]; simp) (by rw [byteAt_at]; exact h)]
  simp
theorem numR_T {n : Nat} {r : List UInt8} {mst : Int} (hr : noDig r) (hn : (n : Int) ≤ mst) (hm : mst ≤ 99) : numR (T (Lib.decDigits n ++ r)) mst = ((n : Int), (Lib.decDigits n).length) := by
  by_cases h : n < 10
  · rw [Lib.decDigits_one h]
    obtain ⟨d1, d2⟩ := dig_of h
    have hb : byteAt (T ([UInt8.ofNat (48 + n)] ++ r)) 0 = ((UInt8.ofNat (48 + n)).toNat : Int) := byteAt_at [] r (UInt8.ofNat (48 + n))
    have h0 : digs (T ([UInt8.ofNat (48 + n)] ++ r)) 0 = 1 := by
      have := digs_cons (pre := []) (r := r) d1
      rw [digs_none hr] at this
      exact this
    rw [numR, if_pos h0, hb, d2]
    exact congrArg (fun z : Int => (z, 1)) (show (48 + (n : Int) - 48) = n by omega)
  · rw [Lib.decDigits_two h (by omega)]
    obtain ⟨d1, d2⟩ := dig_of (n := n / 10) (by omega)
    obtain ⟨d3, d4⟩ := dig_of (n := n % 10) (by omega)
    have hb : byteAt (T ([UInt8.ofNat (48 + n / 10), UInt8.ofNat (48 + n % 10)] ++ r)) 0 = ((UInt8.ofNat (48 + n / 10)).toNat : Int) := byteAt_at [] _ _
    have hb2 : byteAt (T ([UInt8.ofNat (48 + n / 10), UInt8.ofNat (48 + n % 10)] ++ r)) 1 = ((UInt8.ofNat (48 + n % 10)).toNat : Int) := byteAt_at [_] _ _
    have h0 : digs (T ([UInt8.ofNat (48 + n / 10), UInt8.ofNat (48 + n % 10)] ++ r)) 0 = 2 := by
      have := digs_cons (pre := []) (r := UInt8.ofNat (48 + n % 10) :: r) d1
      rw [digs_cons d3, digs_none hr] at this
      exact this
    rw [numR, if_neg (by rw [h0]; decide), hb, hb2, d2, d4, if_pos ⟨h0, by omega, by omega⟩]
    exact congrArg (fun z : Int => (z, 2)) (show (10 * (48 + ((n / 10 : Nat) : Int) - 48) + (48 + ((n % 10 : Nat) : Int) - 48)) = n by omega)
theorem Lx.noDig : ∀ (x : Lx) (r : List UInt8), x.fine → Av.noDig (x.bs ++ r)
  | .sp, _, _ => rfl
  | .sg c, r, h => by
    show isDig c.toNat = false
    simp only [Lx.fine, isSign, signs, List.any_cons, List.any_nil, Bool.or_false, Bool.or_eq_true, beq_iff_eq] at h
    simp [isDig]
    omega
  | .sy c n, r, h => by
    rcases h with ⟨rfl, _⟩ | ⟨rfl | rfl, _⟩ <;> rfl
def lxB (ls : List Lx) : List UInt8 := (ls.map Lx.bs).flatten
def lxS (ls : List Lx) : List (Int × Int) := (ls.map Lx.sig).flatten
theorem lxB_noDig : ∀ (ls : List Lx) (r : List UInt8), (∀ x ∈ ls, x.fine) → Av.noDig r → Av.noDig (lxB ls ++ r)
  | [], r, _, h => h
  | x :: ls, r, h, _ => by
    rw [lxB, List.map_cons, List.flatten_cons, List.append_assoc]
    exact x.noDig _ (h x (by simp))
theorem tok_sg {pre r : List UInt8} {c : UInt8} (h : isSign c.toNat = true) : tokOne (T (pre ++ c :: r)) pre.length = .tok ⟨4, c.toNat, pre.length⟩ 0 := by
  have hc : ¬ ((c.toNat : Int) = 32 ∨ (c.toNat : Int) = 9) := by
    simp only [isSign, signs, List.any_cons, List.any_nil, Bool.or_false, Bool.or_eq_true, beq_iff_eq] at h
    omega
  rw [tokOne, byteAt_at, if_neg hc, if_pos h]
theorem tok_sy {pre r : List UInt8} {c : UInt8} {n : Nat} (h : (Lx.sy c n).fine) (hr : noDig r) : tokOne (T (pre ++ c :: (Lib.decDigits n ++ r))) pre.length = .tok ⟨kindOf c.toNat, n, pre.length⟩ (Lib.decDigits n).length := by
  have hp : (Lib.decDigits n).length ≠ 0 := by
    rw [Lib.decDigits_length]
    unfold Lib.nDigits
    split <;> omega
  rw [tokOne, byteAt_at]
  rcases h with ⟨rfl, hn⟩ | ⟨rfl | rfl, hn⟩
  · have hb : numB (T (pre ++ 120 :: (Lib.decDigits n ++ r))) pre.length 63 = ((n : Int), (Lib.decDigits n).length) := by rw [numB, T_drop, numR_T hr (by omega) (by omega)]
    show (if ((120 : Int) = 32 ∨ (120 : Int) = 9) then _ else _) = _
    rw [if_neg (by decide), if_neg (by decide), if_neg (by decide)]
    show (if (numB (T (pre ++ 120 :: (Lib.decDigits n ++ r))) pre.length 63).2 = 0 then TOne.err 31 else .tok ⟨1, (numB (T (pre ++ 120 :: (Lib.decDigits n ++ r))) pre.length 63).1, pre.length⟩ (numB (T (pre ++ 120 :: (Lib.decDigits n ++ r))) pre.length 63).2) = _
    rw [hb, if_neg hp]
    rfl
  · have hb : numB (T (pre ++ 102 :: (Lib.decDigits n ++ r))) pre.length 99 = ((n : Int), (Lib.decDigits n).length) := by rw [numB, T_drop, numR_T hr (by omega) (by omega)]
    show (if ((102 : Int) = 32 ∨ (102 : Int) = 9) then _ else _) = _
    rw [if_neg (by decide), if_neg (by decide), if_neg (by decide)]
    show (if (numB (T (pre ++ 102 :: (Lib.decDigits n ++ r))) pre.length 99).2 = 0 then TOne.err 31 else .tok ⟨2, (numB (T (pre ++ 102 :: (Lib.decDigits n ++ r))) pre.length 99).1, pre.length⟩ (numB (T (pre ++ 102 :: (Lib.decDigits n ++ r))) pre.length 99).2) = _
    rw [hb, if_neg hp]
    rfl
  · have hb : numB (T (pre ++ 80 :: (Lib.decDigits n ++ r))) pre.length 99 = ((n : Int), (Lib.decDigits n).length) := by rw [numB, T_drop, numR_T hr (by omega) (by omega)]
    show (if ((80 : Int) = 32 ∨ (80 : Int) = 9) then _ else _) = _
    rw [if_neg (by decide), if_neg (by decide), if_neg (by decide)]
    show (if (numB (T (pre ++ 80 :: (Lib.decDigits n ++ r))) pre.length 99).2 = 0 then TOne.err 31 else .tok ⟨3, (numB (T (pre ++ 80 :: (Lib.decDigits n ++ r))) pre.length 99).1, pre.length⟩ (numB (T (pre ++ 80 :: (Lib.decDigits n ++ r))) pre.length 99).2) = _
    rw [hb, if_neg hp]
    rfl
/-- A text of lexemes is read as their tokens. -/
theorem tkGo_lx : ∀ (ls : List Lx) (pre : List UInt8) (acc : List Tk), (∀ x ∈ ls, x.fine) → ∃ l, tkGo (T (pre ++ lxB ls)) pre.length acc = .ok (acc ++ l) ∧ l.map (fun t => (t.kind, t.n)) = lxS ls
  | [], pre, acc, _ => ⟨[], by rw [tkGo_end (by rw [T_size]; simp [lxB])]; simp, rfl⟩
  | .sp :: ls, pre, acc, h => by
    obtain ⟨l, h1, h2⟩ := tkGo_lx ls (pre ++ [32]) acc (fun x hx => h x (by simp [hx]))
    refine ⟨l, ?_, h2⟩
    have e : pre ++ lxB (.sp :: ls) = pre ++ 32 :: lxB ls := rfl
    rw [e, tkGo_skip (by rw [T_size]; simp) (by rw [tokOne, byteAt_at]; rfl)]
    rw [List.append_assoc, List.length_append] at h1
    exact h1
  | .sg c :: ls, pre, acc, h => by
    obtain ⟨l, h1, h2⟩ := tkGo_lx ls (pre ++ [c]) (acc ++ [⟨4, c.toNat, pre.length⟩]) (fun x hx => h x (by simp [hx]))
    refine ⟨⟨4, c.toNat, pre.length⟩ :: l, ?_, by rw [List.map_cons, h2]; rfl⟩
    have e : pre ++ lxB (.sg c :: ls) = pre ++ c :: lxB ls := rfl
    rw [e, tkGo_tok (by rw [T_size]; simp) (tok_sg (h (.sg c) (by simp)))]
    rw [List.append_assoc, List.length_append, List.append_assoc] at h1
    exact h1
  | .sy c n :: ls, pre, acc, h => by
    have hf := h (.sy c n) (by simp)
    have hls : ∀ x ∈ ls, x.fine := fun x hx => h x (by simp [hx])
    have hr : noDig (lxB ls) := by
      have := lxB_noDig ls [] hls trivial
      rwa [List.append_nil] at this
    obtain ⟨l, h1, h2⟩ := tkGo_lx ls (pre ++ c :: Lib.decDigits n) (acc ++ [⟨kindOf c.toNat, n, pre.length⟩]) hls
    refine ⟨⟨kindOf c.toNat, n, pre.length⟩ :: l, ?_, by rw [List.map_cons, h2]; rfl⟩
    have e : pre ++ lxB (.sy c n :: ls) = pre ++ c :: (Lib.decDigits n ++ lxB ls) := rfl
    rw [e, tkGo_tok (by rw [T_size]; simp) (tok_sy hf hr)]
    rw [List.append_assoc, List.length_append, List.append_assoc, List.length_cons] at h1
    rw [show pre.length + 1 + (Lib.decDigits n).length = pre.length + ((Lib.decDigits n).length + 1) by omega]
    exact h1
end Go.Proofs.YtkdendaohlnlcaaGreatDoor.Av

/- What parse.Print writes. No condition. -/
namespace Go.Proofs.YtkdendaohlnlcaaGreatDoor.Av
set_option linter.unusedVariables false
set_option linter.unusedSimpArgs false
set_option maxRecDepth 4000
set_option maxHeartbeats 1000000
variable {w0 : Base} {k : List Nat} {H : Hp}
def txtP (ts : List (List UInt8)) : Nat → List UInt8
  | 0 => []
  | i + 1 => txtP ts i ++ ((if i = 0 then [40] else [44, 32]) ++ ts.getD i [])
def txtK (k i : Int) (ts : List (List UInt8)) : List UInt8 :=
  if k = 1 then [120] ++ Lib.itoa i
  else if k = 2 ∨ k = 3 then (if k = 3 then [80] else [102]) ++ Lib.itoa i ++ (txtP ts ts.length ++ if ts.length = 0 then [] else [41])
  else if k = 4 then ts.getD 0 [] ++ [32, 61, 32] ++ ts.getD 1 []
  else if k = 5 then [33] ++ ts.getD 0 []
  else if k = 7 ∨ k = 10 then (if k = 10 then [63] else [64]) ++ [120] ++ Lib.itoa i ++ [32] ++ ts.getD 0 []
  else [40] ++ ts.getD 0 [] ++ (if k = 8 then [32, 38, 32] else if k = 9 then [32, 124, 32] else [32, 62, 32]) ++ ts.getD 1 [] ++ [41]
mutual
def E.txt : E → List UInt8
  | .mk k i ks => txtK k i (E.txtL ks)
def E.txtL : List E → List (List UInt8)
  | [] => []
  | e :: es => e.txt :: E.txtL es
end
theorem E.txtL_eq : ∀ l : List E, E.txtL l = l.map E.txt
  | [] => rfl
  | e :: es => by simp [E.txtL, E.txtL_eq es]
theorem E.txt_eq (e : E) : e.txt = txtK e.kind e.id (e.kids.map E.txt) := by cases e; simp [E.txt, E.kind, E.id, E.kids, E.txtL_eq]
/-- What a right node is. -/
theorem E.sh_kind {e : E} (h : e.sh = true) : (e.kind = 1 ∨ e.kind = 2 ∨ e.kind = 3 ∨ e.kind = 4 ∨ e.kind = 5 ∨ e.kind = 6 ∨ e.kind = 7 ∨ e.kind = 8 ∨ e.kind = 9 ∨ e.kind = 10) ∧ 0 ≤ e.id ∧ e.id ≤ 99 ∧ (∀ x ∈ e.kids, x.sh = true) ∧ e.kids.length ≤ 4 ∧
    (e.kind = 4 ∨ e.kind = 6 ∨ e.kind = 8 ∨ e.kind = 9 → e.kids.length = 2) ∧ (e.kind = 5 ∨ e.kind = 7 ∨ e.kind = 10 → e.kids.length = 1) ∧ (e.kind = 1 → e.kids.length = 0) := by
  rw [E.sh_eq, Bool.and_eq_true, List.all_eq_true] at h
  obtain ⟨h1, h2⟩ := h
  unfold E.loc at h1
  split at h1
  · rename_i mx l m t hw
    simp only [Bool.and_eq_true, decide_eq_true_eq] at h1
    obtain ⟨⟨⟨⟨a1, a2⟩, a3⟩, a4⟩, a5⟩ := h1
    unfold E.want at hw
    refine ⟨?_, a1, ?_, h2, ?_⟩
    all_goals (repeat' (split at hw)) <;> simp only [Option.some.injEq, Prod.mk.injEq, reduceCtorEq] at hw <;> obtain ⟨rfl, rfl, rfl, rfl⟩ := hw <;> omega
  · cases h1
def specIt : Spec := Spec.no.add 37 (sp1 dI (fun n => 0 ≤ n ∧ n < 100) fun n => .str (T (Lib.itoa n)))
theorem specIt_ok : SpecOk Tryz.prog w0 specIt := Spec.no_ok.add (sp1_ok fun n h k H => itoa_small n h.1 h.2)
def Writes (e : E) : Prop := ∀ id, Wrote 71 [.ptr id 0, e.av] id (T e.txt) (.tup [])
theorem bdK {key : List Nat} {id : Id} {H0 H : Hp} {s txt : ByteArray} {f : FuncId} {args : List AV} {v : AV} {K : Ev → Prop} (hw : Wrote f args id txt v) (hB : BdAt H0 id s H) (hs : s.size + txt.size ≤ 140737488355328) (hf : ∀ i : Id, key <:+ i.key → H0 i = none)
    (hk : ∀ H', BdAt H0 id (s ++ txt) H' → K (.eff H H' v)) : callK Tryz.prog w0 key f args H K none :=
  callK_ex (hw w0 key H0 H s hB hs hf) fun H' u ⟨h1, h2⟩ => by rw [h2]; exact hk H' h1
theorem BdAt.cast {H0 H : Hp} {id : Id} {s t : ByteArray} (h : BdAt H0 id s H) (e : L s = L t) : BdAt H0 id t H := by
  rw [← L_inj e]
  exact h
/-- A variable beside the builder. -/
theorem BdAt.frame {H0 H : Hp} {id X : Id} {s : ByteArray} {e : Option Ent} (h : BdAt H0 id s H) (h1 : X.sz ≠ 1) (h2 : X.sz ≠ 2) : BdAt (H0.upd X e) id s (H.upd X e) := by
  obtain ⟨⟨hz, hy⟩, p, tk, hp, htk, hle⟩ := h
  have hX : X ≠ id := fun e => h2 (by rw [e, hz])
  have ht : ∀ t0, tk = .tok t0 → t0 ≠ X := fun t0 e hh => h1 (by subst e; rw [← hh]; exact htk.1)
  refine ⟨⟨hz, hy⟩, p, tk, hp, ?_, fun j x hj => ?_⟩
  · cases tk with
    | tok t0 => exact ⟨htk.1, htk.2.1, by rw [Hp.upd_ne _ _ (ht t0 rfl)]; exact htk.2.2⟩
    | _ => exact htk
  · by_cases hjX : j = X
    · subst hjX
      rw [Hp.upd_same]
      rw [bdH, Hp.upd_ne _ _ hX] at hj
      cases tk with
      | tok t0 => rwa [tokUp, Hp.upd_ne _ _ (fun e => ht t0 rfl e.symm), Hp.upd_same] at hj
      | none => exact htk.elim
      | full => exact htk.elim
      | nil => rw [← hj]; exact (Hp.upd_same _ _ _).symm
    · rw [Hp.upd_ne _ _ hjX]
      refine hle j x ?_
      by_cases hji : j = id
      · subst hji
        rw [bdH, Hp.upd_same] at hj ⊢
        exact hj
      · rw [bdH, Hp.upd_ne _ _ hji] at hj ⊢
        cases tk with
        | tok t0 =>
          by_cases hjt : j = t0
          · subst hjt; rw [tokUp, Hp.upd_same] at hj ⊢; exact hj
          · rw [tokUp, Hp.upd_ne _ _ hjt] at hj ⊢
            rwa [Hp.upd_ne _ _ hjX] at hj
        | none => exact htk.elim
        | full => exact htk.elim
        | nil => exact (Hp.upd_ne _ _ hjX).symm.trans hj
theorem BdAt.at {H0 H : Hp} {id X : Id} {s : ByteArray} {e : Ent} (h : BdAt H0 id s H) (h2 : X.sz ≠ 2) (hX : H0 X = Option.some e) : H X = Option.some e := by
  obtain ⟨⟨hz, hy⟩, p, tk, hp, htk, hle⟩ := h
  exact hle _ _ (bdH_at (fun e => h2 (by rw [e, hz])) htk hX)
theorem BdAt.unframe {H0 H : Hp} {id X : Id} {s : ByteArray} {e : Ent} (h : BdAt (H0.upd X (Option.some e)) id s H) (hX : H0 X = Option.none) : BdAt H0 id s H := by
  obtain ⟨⟨hz, hy⟩, p, tk, hp, htk, hle⟩ := h
  have hl : H0.Le (H0.upd X (Option.some e)) := Hp.le_upd (Hp.Le.refl _) hX
  have ht : ∀ t0, tk = .tok t0 → H0 t0 = Option.none := fun t0 h => by
    subst h
    cases hh : H0 t0 with
    | none => rfl
    | some x => have := htk.2.2; rw [hl _ _ hh] at this; cases this
  refine ⟨⟨hz, hy⟩, p, tk, hp, ?_, Hp.Le.trans (fun j x hj => ?_) hle⟩
  · cases tk with
    | tok t0 => exact ⟨htk.1, htk.2.1, ht t0 rfl⟩
    | _ => exact htk
  · by_cases hji : j = id
    · subst hji
      rw [bdH, Hp.upd_same] at hj ⊢
      exact hj
    · rw [bdH, Hp.upd_ne _ _ hji] at hj
      cases tk with
      | tok t0 =>
        by_cases hjt : j = t0
        · subst hjt
          rw [bdH, Hp.upd_ne _ _ hji, tokUp, Hp.upd_same]
          rwa [tokUp, Hp.upd_same] at hj
        · rw [tokUp, Hp.upd_ne _ _ hjt] at hj
          exact bdH_at hji htk (hl _ _ hj)
      | none => exact htk.elim
      | full => exact htk.elim
      | nil => exact bdH_at hji htk (hl _ _ hj)
theorem freeU {H0 : Hp} {a m c n : Nat} {k : List Nat} {sz : Nat} {ty : TypeId} {e : Option Ent} (h : ∀ i : Id, k <:+ i.key → H0 i = none) (hne : m ≠ n) : ∀ i : Id, (a :: m :: k) <:+ i.key → (H0.upd ⟨sz, c :: n :: k, ty⟩ e) i = none := fun i hi => by
  have hiX : i ≠ ⟨sz, c :: n :: k, ty⟩ := fun e => by
    subst e
    have := hi.eq_of_length (by simp)
    simp only [List.cons.injEq] at this
    exact hne this.2.1
  rw [Hp.upd_ne _ _ hiX]
  exact h i ((sfx2 _ _ _).trans hi)
theorem free2 {H0 : Hp} {a b : Nat} {k : List Nat} (h : ∀ i : Id, k <:+ i.key → H0 i = none) : ∀ i : Id, (a :: b :: k) <:+ i.key → H0 i = none := fun i hi => h i ((sfx2 _ _ _).trans hi)
theorem free1 {H0 : Hp} {a : Nat} {k : List Nat} (h : ∀ i : Id, k <:+ i.key → H0 i = none) : ∀ i : Id, (a :: k) <:+ i.key → H0 i = none := fun i hi => h i ((sfx1 _ _).trans hi)
theorem txtP_mono (ts : List (List UInt8)) : ∀ (n i : Nat), (txtP ts i).length ≤ (txtP ts (i + n)).length
  | 0, i => Nat.le_refl _
  | n + 1, i => by
    have := txtP_mono ts n i
    rw [show i + (n + 1) = (i + n) + 1 by omega, txtP, List.length_append]
    omega
theorem txtP_le (ts : List (List UInt8)) (i : Nat) (h : i ≤ ts.length) : (txtP ts i).length ≤ (txtP ts ts.length).length := by
  have := txtP_mono ts (ts.length - i) i
  rwa [show i + (ts.length - i) = ts.length by omega] at this
theorem kidL (l : List E) {i : Nat} {x : E} (h : l[i]? = some x) : (l.map E.cells).getD i [] = [.int .i64 x.kind, .int .i64 x.id, .list .none (x.kids.map E.cells)] := by
  rw [← E.cells_eq]
  simp [List.getD_eq_getElem?_getD, h]
theorem joined_call (kd i : Int) (l : List E) (x y : E) (sep : List UInt8) (hx : l[0]? = some x) (hy : l[1]? = some y) (wx : Writes x) (wy : Writes y) (id : Id) : Wrote 106 [.ptr id 0, .agg [.int .i64 kd, .int .i64 i, .list .none (l.map E.cells)], .str (T sep)] id (T (x.txt ++ sep ++ y.txt)) (.tup []) := by
  intro w0 k H0 H s hB hsz0 hfr0
  have hsz : s.size + (x.txt ++ sep ++ y.txt).length ≤ 140737488355328 := by rw [← T_size]; exact hsz0
  clear hsz0
  simp only [List.length_append] at hsz
  have l0 : 0 < l.length := (List.getElem?_eq_some_iff.1 hx).1
  have l1 : 1 < l.length := (List.getElem?_eq_some_iff.1 hy).1
  have hxe := kidL l hx
  have hye := kidL l hy
  refine callX (Q := fun H' u => BdAt H0 id (s ++ T (x.txt ++ sep ++ y.txt)) H' ∧ u = .tup []) tabOk Spec.no_ok mixed Tryz.func106 rfl rfl Tryz.results106 Tryz.ntmps106 (by simp) [] ?_ ?_
  · obtain ⟨H', h⟩ := BdAt.ex hB.1.1 hB.1.2 hfr0 (s ++ T (x.txt ++ sep ++ y.txt))
    exact ⟨H', _, h, rfl⟩
  intro hfr t hl ht
  simp only [At, Nat.reduceAdd] at ht
  simp (config := {contextual := true, maxSteps := 5000000}) only [go_sem, false_and, Nat.reduceAdd, Nat.reduceLT, Nat.reduceBEq, Nat.reduceSub, Nat.reduceMul, Nat.reduceLeDiff, Int.reduceToNat, Nat.reduceEqDiff, Nat.reduceMod, ht, hl, Spec.no, hxe]
  refine ⟨⟨by omega, by omega⟩, bdK (wx id) hB (by (first | omega | ((try simp only [ByteArray.size_append, ByteArray.size_empty, T_size, List.size_toArray, List.length_append, List.length_cons, List.length_nil, Int.natCast_add] at *); omega))) (free2 hfr0) fun H1 hB1 => ?_⟩
  simp (config := {contextual := true, maxSteps := 5000000}) only [go_sem, false_and, Nat.reduceAdd, Nat.reduceLT, Nat.reduceBEq, Nat.reduceSub, Nat.reduceMul, Nat.reduceLeDiff, Int.reduceToNat, Nat.reduceEqDiff, Nat.reduceMod, ht, hl, Spec.no, hxe]
  refine bdK (ws_call id _ (by (first | omega | ((try simp only [ByteArray.size_append, ByteArray.size_empty, T_size, List.size_toArray, List.length_append, List.length_cons, List.length_nil, Int.natCast_add] at *); omega)))) hB1 (by (first | omega | ((try simp only [ByteArray.size_append, ByteArray.size_empty, T_size, List.size_toArray, List.length_append, List.length_cons, List.length_nil, Int.natCast_add] at *); omega))) (free2 hfr0) fun H2 hB2 => ?_
  simp (config := {contextual := true, maxSteps := 5000000}) only [go_sem, false_and, Nat.reduceAdd, Nat.reduceLT, Nat.reduceBEq, Nat.reduceSub, Nat.reduceMul, Nat.reduceLeDiff, Int.reduceToNat, Nat.reduceEqDiff, Nat.reduceMod, ht, hl, Spec.no, hye, Int.reduceToNat]
  refine ⟨⟨by omega, by omega⟩, bdK (wy id) hB2 (by (first | omega | ((try simp only [ByteArray.size_append, ByteArray.size_empty, T_size, List.size_toArray, List.length_append, List.length_cons, List.length_nil, Int.natCast_add] at *); omega))) (free2 hfr0) fun H3 hB3 => ?_⟩
  simp (config := {contextual := true, maxSteps := 5000000}) only [go_sem, false_and, Nat.reduceAdd, Nat.reduceLT, Nat.reduceBEq, Nat.reduceSub, Nat.reduceMul, Nat.reduceLeDiff, Int.reduceToNat, Nat.reduceEqDiff, Nat.reduceMod, ht, hl, Spec.no, hye]
  exact ⟨_, Weak.refl _, H3, Hp.Le.refl _, hB3.cast (by simp only [L_append, L_T, List.append_assoc]), rfl⟩
theorem write_step (e : E) (ih : ∀ x ∈ e.kids, Writes x) (hok : e.ok) (hsh : e.sh = true) : Writes e := by
  intro id w0 k H0 H s hB hsz0 hfr0
  obtain ⟨hk, hi0, hi9, hsk, hn4, hn2, hn1, hn0⟩ := E.sh_kind hsh
  have hsz : s.size + e.txt.length ≤ 140737488355328 := by rw [← T_size e.txt]; exact hsz0
  clear hsz0
  refine callX (Q := fun H' u => BdAt H0 id (s ++ T e.txt) H' ∧ u = .tup []) tabOk specIt_ok mixed Tryz.func71 rfl rfl Tryz.results71 Tryz.ntmps71 (by simp) [] ?_ ?_
  · obtain ⟨H', h⟩ := BdAt.ex hB.1.1 hB.1.2 hfr0 (s ++ T e.txt)
    exact ⟨H', _, h, rfl⟩
  intro hfr t hl ht
  simp only [At, Nat.reduceAdd, List.cons_append, List.nil_append] at ht
  have wok : ∀ (x : E) (i : Nat), e.kids[i]? = some x → Writes x := fun x i h => ih x (List.mem_of_getElem? h)
  rcases hk with hk | hk | hk | hk | hk | hk | hk | hk | hk | hk
  · have htx : e.txt = [120] ++ Lib.itoa e.id := by rw [E.txt_eq, txtK, if_pos hk]
    have hln : e.txt.length = 1 + (Lib.itoa e.id).length := by rw [htx]; simp; omega
    simp (config := {contextual := true, maxSteps := 5000000}) only [go_sem, false_and, Nat.reduceAdd, Nat.reduceLT, Nat.reduceBEq, Nat.reduceSub, Nat.reduceMul, Nat.reduceLeDiff, Int.reduceToNat, Nat.reduceEqDiff, Nat.reduceMod, ht, hl, hk, specIt, Int.reduceBEq]
    refine ⟨⟨hi0, by omega⟩, by (first | omega | ((try simp only [ByteArray.size_append, ByteArray.size_empty, T_size, List.size_toArray, List.length_append, List.length_cons, List.length_nil, Int.natCast_add] at *); omega)), ?_⟩
    refine bdK (ws_call id _ (by (first | omega | ((try simp only [ByteArray.size_append, ByteArray.size_empty, T_size, List.size_toArray, List.length_append, List.length_cons, List.length_nil, Int.natCast_add] at *); omega)))) hB (by (first | omega | ((try simp only [ByteArray.size_append, ByteArray.size_empty, T_size, List.size_toArray, List.length_append, List.length_cons, List.length_nil, Int.natCast_add] at *); omega))) (free2 hfr0) fun H1 hB1 => ?_
    simp (config := {contextual := true, maxSteps := 5000000}) only [go_sem, false_and, Nat.reduceAdd, Nat.reduceLT, Nat.reduceBEq, Nat.reduceSub, Nat.reduceMul, Nat.reduceLeDiff, Int.reduceToNat, Nat.reduceEqDiff, Nat.reduceMod, ht, hl, hk, specIt, Int.reduceBEq]
    exact ⟨_, Weak.refl _, H1, Hp.Le.refl _, hB1.cast (by simp only [L_append, L_T, htx]; rfl), rfl⟩
  · have htx : e.txt = [102] ++ Lib.itoa e.id ++ (txtP (e.kids.map E.txt) e.kids.length ++ if e.kids.length = 0 then [] else [41]) := by
      rw [E.txt_eq, txtK, hk]
      simp
    have hln := congrArg List.length htx
    simp only [List.length_append, List.length_cons, List.length_nil] at hln
    simp (config := {contextual := true, maxSteps := 5000000}) only [go_sem, false_and, Nat.reduceAdd, Nat.reduceLT, Nat.reduceBEq, Nat.reduceSub, Nat.reduceMul, Nat.reduceLeDiff, Int.reduceToNat, Nat.reduceEqDiff, Nat.reduceMod, ht, hl, hk, specIt, Int.reduceBEq]
    refine ⟨⟨hi0, by omega⟩, by (first | omega | ((try simp only [ByteArray.size_append, ByteArray.size_empty, T_size, List.size_toArray, List.length_append, List.length_cons, List.length_nil, Int.natCast_add] at *); omega)), ?_⟩
    refine bdK (ws_call id _ (by (first | omega | ((try simp only [ByteArray.size_append, ByteArray.size_empty, T_size, List.size_toArray, List.length_append, List.length_cons, List.length_nil, Int.natCast_add] at *); omega)))) hB (by (first | omega | ((try simp only [ByteArray.size_append, ByteArray.size_empty, T_size, List.size_toArray, List.length_append, List.length_cons, List.length_nil, Int.natCast_add] at *); omega))) (free2 hfr0) fun H1 hB1 => ?_
    simp (config := {contextual := true, maxSteps := 5000000}) only [go_sem, false_and, Nat.reduceAdd, Nat.reduceLT, Nat.reduceBEq, Nat.reduceSub, Nat.reduceMul, Nat.reduceLeDiff, Int.reduceToNat, Nat.reduceEqDiff, Nat.reduceMod, ht, hl, hk, specIt, Int.reduceBEq]
    refine loop_inv tabOk specIt_ok mixed [] (fun j x => ∃ i : Nat, x.tmps.length = 107 ∧ x.tmps.getD 0 AV.undef = .ptr id 0 ∧ x.tmps.getD 3 AV.undef = .sptr [.int .i64 2, .int .i64 e.id, .list .none (e.kids.map E.cells)] ∧ x.tmps.getD 47 AV.undef = .list .none (e.kids.map E.cells) ∧
      x.tmps.getD 48 AV.undef = .int .i64 e.kids.length ∧ x.tmps.getD 49 AV.undef = .int .i64 i ∧ i + j = e.kids.length ∧ BdAt H0 id (s ++ T ([102] ++ Lib.itoa e.id ++ txtP (e.kids.map E.txt) i)) x.H) e.kids.length ⟨0, ?_⟩ ?_
    · simp (config := {contextual := true, maxSteps := 5000000}) only [go_sem, false_and, Nat.reduceAdd, Nat.reduceLT, Nat.reduceBEq, Nat.reduceSub, Nat.reduceMul, Nat.reduceLeDiff, Int.reduceToNat, Nat.reduceEqDiff, Nat.reduceMod, ht, hl]
      exact ⟨by omega, by omega, hB1.cast (by simp [L_append, L_T, txtP])⟩
    · rintro j ⟨t, n, H2⟩ ⟨i, hl, h0, h3, h47, h48, h49, hij, hB2⟩
      simp only at hl h0 h3 h47 h48 h49 hB2
      by_cases hi : i < e.kids.length
      · have hd : decide ((i : Int) < (e.kids.length : Int)) = true := by simp [hi]
        have hw : IntKind.i64.wrap ((i : Int) + 1) = ((i + 1 : Nat) : Int) := by rw [wrap_i64] <;> omega
        obtain ⟨x, hx, hxe⟩ := e.kid hi
        have hP : txtP (e.kids.map E.txt) (i + 1) = txtP (e.kids.map E.txt) i ++ ((if i = 0 then [40] else [44, 32]) ++ x.txt) := by
          rw [txtP]
          simp [List.getD_eq_getElem?_getD, hx]
        have hPl := txtP_le (e.kids.map E.txt) (i + 1) (by simp; omega)
        rw [hP, List.length_map] at hPl
        have hX : H0 ⟨3, 3 :: (n + 1) :: k, 25⟩ = none := hfr0 _ (sfx2 _ _ _)
        have hm : (if 1 < (i : Int) then 1 else (i : Int)) = ((min i 1 : Nat) : Int) := by split <;> omega
        have hg : ([[AV.raw (.string ⟨#[40]⟩)], [AV.raw (.string ⟨#[44, 32]⟩)]] : List (List AV)).getD (min i 1) [] = [.str (T (if i = 0 then [40] else [44, 32]))] := by
          by_cases h0 : i = 0
          · subst h0; rfl
          · rw [show min i 1 = 1 by omega, if_neg h0]; rfl
        rw [List.length_append] at hPl
        simp (config := {contextual := true, maxSteps := 5000000}) only [go_sem, false_and, Nat.reduceAdd, Nat.reduceLT, Nat.reduceBEq, Nat.reduceSub, Nat.reduceMul, Nat.reduceLeDiff, Int.reduceToNat, Nat.reduceEqDiff, Nat.reduceMod, h0, h3, h47, h48, h49, hl, hd, hw, hxe, hm, hg]
        refine ⟨⟨by omega, by omega⟩, ⟨by omega, by omega⟩, bdK (ws_call id _ (by (first | omega | ((try simp only [ByteArray.size_append, ByteArray.size_empty, T_size, List.size_toArray, List.length_append, List.length_cons, List.length_nil, Int.natCast_add] at *); omega)))) (hB2.frame (X := ⟨3, 3 :: (n + 1) :: k, 25⟩) (by simp) (by simp)) (by (first | omega | ((try simp only [ByteArray.size_append, ByteArray.size_empty, T_size, List.size_toArray, List.length_append, List.length_cons, List.length_nil, Int.natCast_add] at *); omega))) (freeU hfr0 (by omega)) fun H3 hB3 => ?_⟩
        have hat := hB3.at (by simp) (Hp.upd_same _ _ _)
        have hB3' := hB3.unframe hX
        simp (config := {contextual := true, maxSteps := 5000000}) only [go_sem, false_and, Nat.reduceAdd, Nat.reduceLT, Nat.reduceBEq, Nat.reduceSub, Nat.reduceMul, Nat.reduceLeDiff, Int.reduceToNat, Nat.reduceEqDiff, Nat.reduceMod, h0, h3, h47, h48, h49, hl, hd, hw, hat]
        refine bdK (wok x i hx id) hB3' (by (first | omega | ((try simp only [ByteArray.size_append, ByteArray.size_empty, T_size, List.size_toArray, List.length_append, List.length_cons, List.length_nil, Int.natCast_add] at *); omega))) (free2 hfr0) fun H4 hB4 => ?_
        simp (config := {contextual := true, maxSteps := 5000000}) only [go_sem, false_and, Nat.reduceAdd, Nat.reduceLT, Nat.reduceBEq, Nat.reduceSub, Nat.reduceMul, Nat.reduceLeDiff, Int.reduceToNat, Nat.reduceEqDiff, Nat.reduceMod, h0, h3, h47, h48, h49, hl, hd, hw]
        exact ⟨j - 1, by omega, i + 1, rfl, by omega, hB4.cast (by rw [hP]; simp only [L_append, L_T, List.append_assoc, List.cons_append, List.nil_append])⟩
      · have hd : decide ((i : Int) < (e.kids.length : Int)) = false := by simp; omega
        obtain rfl : i = e.kids.length := by omega
        simp (config := {contextual := true, maxSteps := 5000000}) only [go_sem, false_and, Nat.reduceAdd, Nat.reduceLT, Nat.reduceBEq, Nat.reduceSub, Nat.reduceMul, Nat.reduceLeDiff, Int.reduceToNat, Nat.reduceEqDiff, Nat.reduceMod, h0, h3, h47, h48, h49, hl, hd, specIt]
        refine ⟨fun a => ?_, fun a => ?_⟩
        · simp only [decide_eq_true_eq] at a
          rw [if_neg (by omega)] at htx hln
          simp only [List.length_cons, List.length_nil] at hln
          refine bdK (ws_call id _ (by (first | omega | ((try simp only [ByteArray.size_append, ByteArray.size_empty, T_size, List.size_toArray, List.length_append, List.length_cons, List.length_nil, Int.natCast_add] at *); omega)))) hB2 (by (first | omega | ((try simp only [ByteArray.size_append, ByteArray.size_empty, T_size, List.size_toArray, List.length_append, List.length_cons, List.length_nil, Int.natCast_add] at *); omega))) (free2 hfr0) fun H3 hB3 => ?_
          simp (config := {contextual := true, maxSteps := 5000000}) only [go_sem, false_and, Nat.reduceAdd, Nat.reduceLT, Nat.reduceBEq, Nat.reduceSub, Nat.reduceMul, Nat.reduceLeDiff, Int.reduceToNat, Nat.reduceEqDiff, Nat.reduceMod, hl]
          exact ⟨_, Weak.refl _, H3, Hp.Le.refl _, hB3.cast (by simp only [L_append, L_T, htx, List.append_assoc]), rfl⟩
        · simp only [decide_eq_false_iff_not] at a
          rw [if_pos (by omega), List.append_nil] at htx
          exact ⟨_, Weak.refl _, H2, Hp.Le.refl _, hB2.cast (by simp only [L_append, L_T, htx, List.append_assoc]), rfl⟩
  · have htx : e.txt = [80] ++ Lib.itoa e.id ++ (txtP (e.kids.map E.txt) e.kids.length ++ if e.kids.length = 0 then [] else [41]) := by
      rw [E.txt_eq, txtK, hk]
      simp
    have hln := congrArg List.length htx
    simp only [List.length_append, List.length_cons, List.length_nil] at hln
    simp (config := {contextual := true, maxSteps := 5000000}) only [go_sem, false_and, Nat.reduceAdd, Nat.reduceLT, Nat.reduceBEq, Nat.reduceSub, Nat.reduceMul, Nat.reduceLeDiff, Int.reduceToNat, Nat.reduceEqDiff, Nat.reduceMod, ht, hl, hk, specIt, Int.reduceBEq]
    refine ⟨⟨hi0, by omega⟩, by (first | omega | ((try simp only [ByteArray.size_append, ByteArray.size_empty, T_size, List.size_toArray, List.length_append, List.length_cons, List.length_nil, Int.natCast_add] at *); omega)), ?_⟩
    refine bdK (ws_call id _ (by (first | omega | ((try simp only [ByteArray.size_append, ByteArray.size_empty, T_size, List.size_toArray, List.length_append, List.length_cons, List.length_nil, Int.natCast_add] at *); omega)))) hB (by (first | omega | ((try simp only [ByteArray.size_append, ByteArray.size_empty, T_size, List.size_toArray, List.length_append, List.length_cons, List.length_nil, Int.natCast_add] at *); omega))) (free2 hfr0) fun H1 hB1 => ?_
    simp (config := {contextual := true, maxSteps := 5000000}) only [go_sem, false_and, Nat.reduceAdd, Nat.reduceLT, Nat.reduceBEq, Nat.reduceSub, Nat.reduceMul, Nat.reduceLeDiff, Int.reduceToNat, Nat.reduceEqDiff, Nat.reduceMod, ht, hl, hk, specIt, Int.reduceBEq]
    refine loop_inv tabOk specIt_ok mixed [] (fun j x => ∃ i : Nat, x.tmps.length = 107 ∧ x.tmps.getD 0 AV.undef = .ptr id 0 ∧ x.tmps.getD 3 AV.undef = .sptr [.int .i64 3, .int .i64 e.id, .list .none (e.kids.map E.cells)] ∧ x.tmps.getD 47 AV.undef = .list .none (e.kids.map E.cells) ∧
      x.tmps.getD 48 AV.undef = .int .i64 e.kids.length ∧ x.tmps.getD 49 AV.undef = .int .i64 i ∧ i + j = e.kids.length ∧ BdAt H0 id (s ++ T ([80] ++ Lib.itoa e.id ++ txtP (e.kids.map E.txt) i)) x.H) e.kids.length ⟨0, ?_⟩ ?_
    · simp (config := {contextual := true, maxSteps := 5000000}) only [go_sem, false_and, Nat.reduceAdd, Nat.reduceLT, Nat.reduceBEq, Nat.reduceSub, Nat.reduceMul, Nat.reduceLeDiff, Int.reduceToNat, Nat.reduceEqDiff, Nat.reduceMod, ht, hl]
      exact ⟨by omega, by omega, hB1.cast (by simp [L_append, L_T, txtP])⟩
    · rintro j ⟨t, n, H2⟩ ⟨i, hl, h0, h3, h47, h48, h49, hij, hB2⟩
      simp only at hl h0 h3 h47 h48 h49 hB2
      by_cases hi : i < e.kids.length
      · have hd : decide ((i : Int) < (e.kids.length : Int)) = true := by simp [hi]
        have hw : IntKind.i64.wrap ((i : Int) + 1) = ((i + 1 : Nat) : Int) := by rw [wrap_i64] <;> omega
        obtain ⟨x, hx, hxe⟩ := e.kid hi
        have hP : txtP (e.kids.map E.txt) (i + 1) = txtP (e.kids.map E.txt) i ++ ((if i = 0 then [40] else [44, 32]) ++ x.txt) := by
          rw [txtP]
          simp [List.getD_eq_getElem?_getD, hx]
        have hPl := txtP_le (e.kids.map E.txt) (i + 1) (by simp; omega)
        rw [hP, List.length_map] at hPl
        have hX : H0 ⟨3, 3 :: (n + 1) :: k, 25⟩ = none := hfr0 _ (sfx2 _ _ _)
        have hm : (if 1 < (i : Int) then 1 else (i : Int)) = ((min i 1 : Nat) : Int) := by split <;> omega
        have hg : ([[AV.raw (.string ⟨#[40]⟩)], [AV.raw (.string ⟨#[44, 32]⟩)]] : List (List AV)).getD (min i 1) [] = [.str (T (if i = 0 then [40] else [44, 32]))] := by
          by_cases h0 : i = 0
          · subst h0; rfl
          · rw [show min i 1 = 1 by omega, if_neg h0]; rfl
        rw [List.length_append] at hPl
        simp (config := {contextual := true, maxSteps := 5000000}) only [go_sem, false_and, Nat.reduceAdd, Nat.reduceLT, Nat.reduceBEq, Nat.reduceSub, Nat.reduceMul, Nat.reduceLeDiff, Int.reduceToNat, Nat.reduceEqDiff, Nat.reduceMod, h0, h3, h47, h48, h49, hl, hd, hw, hxe, hm, hg]
        refine ⟨⟨by omega, by omega⟩, ⟨by omega, by omega⟩, bdK (ws_call id _ (by (first | omega | ((try simp only [ByteArray.size_append, ByteArray.size_empty, T_size, List.size_toArray, List.length_append, List.length_cons, List.length_nil, Int.natCast_add] at *); omega)))) (hB2.frame (X := ⟨3, 3 :: (n + 1) :: k, 25⟩) (by simp) (by simp)) (by (first | omega | ((try simp only [ByteArray.size_append, ByteArray.size_empty, T_size, List.size_toArray, List.length_append, List.length_cons, List.length_nil, Int.natCast_add] at *); omega))) (freeU hfr0 (by omega)) fun H3 hB3 => ?_⟩
        have hat := hB3.at (by simp) (Hp.upd_same _ _ _)
        have hB3' := hB3.unframe hX
        simp (config := {contextual := true, maxSteps := 5000000}) only [go_sem, false_and, Nat.reduceAdd, Nat.reduceLT, Nat.reduceBEq, Nat.reduceSub, Nat.reduceMul, Nat.reduceLeDiff, Int.reduceToNat, Nat.reduceEqDiff, Nat.reduceMod, h0, h3, h47, h48, h49, hl, hd, hw, hat]
        refine bdK (wok x i hx id) hB3' (by (first | omega | ((try simp only [ByteArray.size_append, ByteArray.size_empty, T_size, List.size_toArray, List.length_append, List.length_cons, List.length_nil, Int.natCast_add] at *); omega))) (free2 hfr0) fun H4 hB4 => ?_
        simp (config := {contextual := true, maxSteps := 5000000}) only [go_sem, false_and, Nat.reduceAdd, Nat.reduceLT, Nat.reduceBEq, Nat.reduceSub, Nat.reduceMul, Nat.reduceLeDiff, Int.reduceToNat, Nat.reduceEqDiff, Nat.reduceMod, h0, h3, h47, h48, h49, hl, hd, hw]
        exact ⟨j - 1, by omega, i + 1, rfl, by omega, hB4.cast (by rw [hP]; simp only [L_append, L_T, List.append_assoc, List.cons_append, List.nil_append])⟩
      · have hd : decide ((i : Int) < (e.kids.length : Int)) = false := by simp; omega
        obtain rfl : i = e.kids.length := by omega
        simp (config := {contextual := true, maxSteps := 5000000}) only [go_sem, false_and, Nat.reduceAdd, Nat.reduceLT, Nat.reduceBEq, Nat.reduceSub, Nat.reduceMul, Nat.reduceLeDiff, Int.reduceToNat, Nat.reduceEqDiff, Nat.reduceMod, h0, h3, h47, h48, h49, hl, hd, specIt]
        refine ⟨fun a => ?_, fun a => ?_⟩
        · simp only [decide_eq_true_eq] at a
          rw [if_neg (by omega)] at htx hln
          simp only [List.length_cons, List.length_nil] at hln
          refine bdK (ws_call id _ (by (first | omega | ((try simp only [ByteArray.size_append, ByteArray.size_empty, T_size, List.size_toArray, List.length_append, List.length_cons, List.length_nil, Int.natCast_add] at *); omega)))) hB2 (by (first | omega | ((try simp only [ByteArray.size_append, ByteArray.size_empty, T_size, List.size_toArray, List.length_append, List.length_cons, List.length_nil, Int.natCast_add] at *); omega))) (free2 hfr0) fun H3 hB3 => ?_
          simp (config := {contextual := true, maxSteps := 5000000}) only [go_sem, false_and, Nat.reduceAdd, Nat.reduceLT, Nat.reduceBEq, Nat.reduceSub, Nat.reduceMul, Nat.reduceLeDiff, Int.reduceToNat, Nat.reduceEqDiff, Nat.reduceMod, hl]
          exact ⟨_, Weak.refl _, H3, Hp.Le.refl _, hB3.cast (by simp only [L_append, L_T, htx, List.append_assoc]), rfl⟩
        · simp only [decide_eq_false_iff_not] at a
          rw [if_pos (by omega), List.append_nil] at htx
          exact ⟨_, Weak.refl _, H2, Hp.Le.refl _, hB2.cast (by simp only [L_append, L_T, htx, List.append_assoc, List.cons_append, List.nil_append]), rfl⟩
  · have hlen : e.kids.length = 2 := hn2 (by omega)
    obtain ⟨x, hx, hxe⟩ := e.kid (i := 0) (by omega)
    obtain ⟨y, hy, hye⟩ := e.kid (i := 1) (by omega)
    have htx : e.txt = x.txt ++ [32, 61, 32] ++ y.txt := by
      rw [E.txt_eq, txtK, hk]
      simp [List.getD_eq_getElem?_getD, hx, hy]
    have hln := congrArg List.length htx
    simp only [List.length_append, List.length_cons, List.length_nil] at hln
    simp (config := {contextual := true, maxSteps := 5000000}) only [go_sem, false_and, Nat.reduceAdd, Nat.reduceLT, Nat.reduceBEq, Nat.reduceSub, Nat.reduceMul, Nat.reduceLeDiff, Int.reduceToNat, Nat.reduceEqDiff, Nat.reduceMod, ht, hl, hk, specIt, Int.reduceBEq]
    refine bdK (joined_call _ _ e.kids x y _ hx hy (wok x 0 hx) (wok y 1 hy) id) hB (by (first | omega | ((try simp only [ByteArray.size_append, ByteArray.size_empty, T_size, List.size_toArray, List.length_append, List.length_cons, List.length_nil, Int.natCast_add] at *); omega))) (free2 hfr0) fun H1 hB1 => ?_
    simp (config := {contextual := true, maxSteps := 5000000}) only [go_sem, false_and, Nat.reduceAdd, Nat.reduceLT, Nat.reduceBEq, Nat.reduceSub, Nat.reduceMul, Nat.reduceLeDiff, Int.reduceToNat, Nat.reduceEqDiff, Nat.reduceMod, ht, hl, hk, specIt, Int.reduceBEq]
    exact ⟨_, Weak.refl _, H1, Hp.Le.refl _, hB1.cast (by simp only [L_append, L_T, htx, List.append_assoc]), rfl⟩
  · have hlen : e.kids.length = 1 := hn1 (.inl hk)
    obtain ⟨x, hx, hxe⟩ := e.kid (i := 0) (by omega)
    have htx : e.txt = [33] ++ x.txt := by
      rw [E.txt_eq, txtK, hk]
      simp [List.getD_eq_getElem?_getD, hx]
    have hln : e.txt.length = 1 + x.txt.length := by rw [htx]; simp; omega
    simp (config := {contextual := true, maxSteps := 5000000}) only [go_sem, false_and, Nat.reduceAdd, Nat.reduceLT, Nat.reduceBEq, Nat.reduceSub, Nat.reduceMul, Nat.reduceLeDiff, Int.reduceToNat, Nat.reduceEqDiff, Nat.reduceMod, ht, hl, hk, specIt, Int.reduceBEq]
    refine bdK (ws_call id _ (by (first | omega | ((try simp only [ByteArray.size_append, ByteArray.size_empty, T_size, List.size_toArray, List.length_append, List.length_cons, List.length_nil, Int.natCast_add] at *); omega)))) hB (by (first | omega | ((try simp only [ByteArray.size_append, ByteArray.size_empty, T_size, List.size_toArray, List.length_append, List.length_cons, List.length_nil, Int.natCast_add] at *); omega))) (free2 hfr0) fun H1 hB1 => ?_
    simp (config := {contextual := true, maxSteps := 5000000}) only [go_sem, false_and, Nat.reduceAdd, Nat.reduceLT, Nat.reduceBEq, Nat.reduceSub, Nat.reduceMul, Nat.reduceLeDiff, Int.reduceToNat, Nat.reduceEqDiff, Nat.reduceMod, ht, hl, hk, specIt, Int.reduceBEq, hxe, hlen]
    refine ⟨⟨by omega, by omega⟩, bdK (wok x 0 hx id) hB1 (by (first | omega | ((try simp only [ByteArray.size_append, ByteArray.size_empty, T_size, List.size_toArray, List.length_append, List.length_cons, List.length_nil, Int.natCast_add] at *); omega))) (free2 hfr0) fun H2 hB2 => ?_⟩
    simp (config := {contextual := true, maxSteps := 5000000}) only [go_sem, false_and, Nat.reduceAdd, Nat.reduceLT, Nat.reduceBEq, Nat.reduceSub, Nat.reduceMul, Nat.reduceLeDiff, Int.reduceToNat, Nat.reduceEqDiff, Nat.reduceMod, ht, hl, hk, specIt, Int.reduceBEq, hxe, hlen]
    exact ⟨_, Weak.refl _, H2, Hp.Le.refl _, hB2.cast (by simp only [L_append, L_T, htx, List.append_assoc, List.cons_append, List.nil_append]), rfl⟩
  · have hlen : e.kids.length = 2 := hn2 (by omega)
    obtain ⟨x, hx, hxe⟩ := e.kid (i := 0) (by omega)
    obtain ⟨y, hy, hye⟩ := e.kid (i := 1) (by omega)
    have htx : e.txt = [40] ++ (x.txt ++ [32, 62, 32] ++ y.txt) ++ [41] := by
      rw [E.txt_eq, txtK, hk]
      simp [List.getD_eq_getElem?_getD, hx, hy]
    have hln := congrArg List.length htx
    simp only [List.length_append, List.length_cons, List.length_nil] at hln
    simp (config := {contextual := true, maxSteps := 5000000}) only [go_sem, false_and, Nat.reduceAdd, Nat.reduceLT, Nat.reduceBEq, Nat.reduceSub, Nat.reduceMul, Nat.reduceLeDiff, Int.reduceToNat, Nat.reduceEqDiff, Nat.reduceMod, ht, hl, hk, specIt, Int.reduceBEq]
    refine bdK (ws_call id _ (by (first | omega | ((try simp only [ByteArray.size_append, ByteArray.size_empty, T_size, List.size_toArray, List.length_append, List.length_cons, List.length_nil, Int.natCast_add] at *); omega)))) hB (by (first | omega | ((try simp only [ByteArray.size_append, ByteArray.size_empty, T_size, List.size_toArray, List.length_append, List.length_cons, List.length_nil, Int.natCast_add] at *); omega))) (free2 hfr0) fun H1 hB1 => ?_
    simp (config := {contextual := true, maxSteps := 5000000}) only [go_sem, false_and, Nat.reduceAdd, Nat.reduceLT, Nat.reduceBEq, Nat.reduceSub, Nat.reduceMul, Nat.reduceLeDiff, Int.reduceToNat, Nat.reduceEqDiff, Nat.reduceMod, ht, hl, hk, specIt, Int.reduceBEq]
    refine bdK (joined_call _ _ e.kids x y _ hx hy (wok x 0 hx) (wok y 1 hy) id) hB1 (by (first | omega | ((try simp only [ByteArray.size_append, ByteArray.size_empty, T_size, List.size_toArray, List.length_append, List.length_cons, List.length_nil, Int.natCast_add] at *); omega))) (free2 hfr0) fun H2 hB2 => ?_
    simp (config := {contextual := true, maxSteps := 5000000}) only [go_sem, false_and, Nat.reduceAdd, Nat.reduceLT, Nat.reduceBEq, Nat.reduceSub, Nat.reduceMul, Nat.reduceLeDiff, Int.reduceToNat, Nat.reduceEqDiff, Nat.reduceMod, ht, hl, hk, specIt, Int.reduceBEq]
    refine bdK (ws_call id _ (by (first | omega | ((try simp only [ByteArray.size_append, ByteArray.size_empty, T_size, List.size_toArray, List.length_append, List.length_cons, List.length_nil, Int.natCast_add] at *); omega)))) hB2 (by (first | omega | ((try simp only [ByteArray.size_append, ByteArray.size_empty, T_size, List.size_toArray, List.length_append, List.length_cons, List.length_nil, Int.natCast_add] at *); omega))) (free2 hfr0) fun H3 hB3 => ?_
    simp (config := {contextual := true, maxSteps := 5000000}) only [go_sem, false_and, Nat.reduceAdd, Nat.reduceLT, Nat.reduceBEq, Nat.reduceSub, Nat.reduceMul, Nat.reduceLeDiff, Int.reduceToNat, Nat.reduceEqDiff, Nat.reduceMod, ht, hl, hk, specIt, Int.reduceBEq]
    exact ⟨_, Weak.refl _, H3, Hp.Le.refl _, hB3.cast (by simp only [L_append, L_T, htx, List.append_assoc]), rfl⟩
  · have hlen : e.kids.length = 1 := hn1 (by omega)
    obtain ⟨x, hx, hxe⟩ := e.kid (i := 0) (by omega)
    have htx : e.txt = [64, 120] ++ Lib.itoa e.id ++ [32] ++ x.txt := by
      rw [E.txt_eq, txtK, hk]
      simp [List.getD_eq_getElem?_getD, hx]
    have hln := congrArg List.length htx
    simp only [List.length_append, List.length_cons, List.length_nil] at hln
    simp (config := {contextual := true, maxSteps := 5000000}) only [go_sem, false_and, Nat.reduceAdd, Nat.reduceLT, Nat.reduceBEq, Nat.reduceSub, Nat.reduceMul, Nat.reduceLeDiff, Int.reduceToNat, Nat.reduceEqDiff, Nat.reduceMod, ht, hl, hk, specIt, Int.reduceBEq]
    refine ⟨by (first | omega | ((try simp only [ByteArray.size_append, ByteArray.size_empty, T_size, List.size_toArray, List.length_append, List.length_cons, List.length_nil, Int.natCast_add] at *); omega)), ⟨hi0, by omega⟩, by (first | omega | ((try simp only [ByteArray.size_append, ByteArray.size_empty, T_size, List.size_toArray, List.length_append, List.length_cons, List.length_nil, Int.natCast_add] at *); omega)), by (first | omega | ((try simp only [ByteArray.size_append, ByteArray.size_empty, T_size, List.size_toArray, List.length_append, List.length_cons, List.length_nil, Int.natCast_add] at *); omega)), ?_⟩
    refine bdK (ws_call id _ (by (first | omega | ((try simp only [ByteArray.size_append, ByteArray.size_empty, T_size, List.size_toArray, List.length_append, List.length_cons, List.length_nil, Int.natCast_add] at *); omega)))) hB (by (first | omega | ((try simp only [ByteArray.size_append, ByteArray.size_empty, T_size, List.size_toArray, List.length_append, List.length_cons, List.length_nil, Int.natCast_add] at *); omega))) (free2 hfr0) fun H1 hB1 => ?_
    simp (config := {contextual := true, maxSteps := 5000000}) only [go_sem, false_and, Nat.reduceAdd, Nat.reduceLT, Nat.reduceBEq, Nat.reduceSub, Nat.reduceMul, Nat.reduceLeDiff, Int.reduceToNat, Nat.reduceEqDiff, Nat.reduceMod, ht, hl, hk, specIt, Int.reduceBEq, hxe, hlen]
    refine ⟨⟨by omega, by omega⟩, bdK (wok x 0 hx id) hB1 (by (first | omega | ((try simp only [ByteArray.size_append, ByteArray.size_empty, T_size, List.size_toArray, List.length_append, List.length_cons, List.length_nil, Int.natCast_add] at *); omega))) (free2 hfr0) fun H2 hB2 => ?_⟩
    simp (config := {contextual := true, maxSteps := 5000000}) only [go_sem, false_and, Nat.reduceAdd, Nat.reduceLT, Nat.reduceBEq, Nat.reduceSub, Nat.reduceMul, Nat.reduceLeDiff, Int.reduceToNat, Nat.reduceEqDiff, Nat.reduceMod, ht, hl, hk, specIt, Int.reduceBEq, hxe, hlen]
    exact ⟨_, Weak.refl _, H2, Hp.Le.refl _, hB2.cast (by simp only [L_append, L_T, htx, List.append_assoc, List.cons_append, List.nil_append]), rfl⟩
  · have hlen : e.kids.length = 2 := hn2 (by omega)
    obtain ⟨x, hx, hxe⟩ := e.kid (i := 0) (by omega)
    obtain ⟨y, hy, hye⟩ := e.kid (i := 1) (by omega)
    have htx : e.txt = [40] ++ (x.txt ++ [32, 38, 32] ++ y.txt) ++ [41] := by
      rw [E.txt_eq, txtK, hk]
      simp [List.getD_eq_getElem?_getD, hx, hy]
    have hln := congrArg List.length htx
    simp only [List.length_append, List.length_cons, List.length_nil] at hln
    simp (config := {contextual := true, maxSteps := 5000000}) only [go_sem, false_and, Nat.reduceAdd, Nat.reduceLT, Nat.reduceBEq, Nat.reduceSub, Nat.reduceMul, Nat.reduceLeDiff, Int.reduceToNat, Nat.reduceEqDiff, Nat.reduceMod, ht, hl, hk, specIt, Int.reduceBEq]
    refine bdK (ws_call id _ (by (first | omega | ((try simp only [ByteArray.size_append, ByteArray.size_empty, T_size, List.size_toArray, List.length_append, List.length_cons, List.length_nil, Int.natCast_add] at *); omega)))) hB (by (first | omega | ((try simp only [ByteArray.size_append, ByteArray.size_empty, T_size, List.size_toArray, List.length_append, List.length_cons, List.length_nil, Int.natCast_add] at *); omega))) (free2 hfr0) fun H1 hB1 => ?_
    simp (config := {contextual := true, maxSteps := 5000000}) only [go_sem, false_and, Nat.reduceAdd, Nat.reduceLT, Nat.reduceBEq, Nat.reduceSub, Nat.reduceMul, Nat.reduceLeDiff, Int.reduceToNat, Nat.reduceEqDiff, Nat.reduceMod, ht, hl, hk, specIt, Int.reduceBEq]
    refine bdK (joined_call _ _ e.kids x y _ hx hy (wok x 0 hx) (wok y 1 hy) id) hB1 (by (first | omega | ((try simp only [ByteArray.size_append, ByteArray.size_empty, T_size, List.size_toArray, List.length_append, List.length_cons, List.length_nil, Int.natCast_add] at *); omega))) (free2 hfr0) fun H2 hB2 => ?_
    simp (config := {contextual := true, maxSteps := 5000000}) only [go_sem, false_and, Nat.reduceAdd, Nat.reduceLT, Nat.reduceBEq, Nat.reduceSub, Nat.reduceMul, Nat.reduceLeDiff, Int.reduceToNat, Nat.reduceEqDiff, Nat.reduceMod, ht, hl, hk, specIt, Int.reduceBEq]
    refine bdK (ws_call id _ (by (first | omega | ((try simp only [ByteArray.size_append, ByteArray.size_empty, T_size, List.size_toArray, List.length_append, List.length_cons, List.length_nil, Int.natCast_add] at *); omega)))) hB2 (by (first | omega | ((try simp only [ByteArray.size_append, ByteArray.size_empty, T_size, List.size_toArray, List.length_append, List.length_cons, List.length_nil, Int.natCast_add] at *); omega))) (free2 hfr0) fun H3 hB3 => ?_
    simp (config := {contextual := true, maxSteps := 5000000}) only [go_sem, false_and, Nat.reduceAdd, Nat.reduceLT, Nat.reduceBEq, Nat.reduceSub, Nat.reduceMul, Nat.reduceLeDiff, Int.reduceToNat, Nat.reduceEqDiff, Nat.reduceMod, ht, hl, hk, specIt, Int.reduceBEq]
    exact ⟨_, Weak.refl _, H3, Hp.Le.refl _, hB3.cast (by simp only [L_append, L_T, htx, List.append_assoc]), rfl⟩
  · have hlen : e.kids.length = 2 := hn2 (by omega)
    obtain ⟨x, hx, hxe⟩ := e.kid (i := 0) (by omega)
    obtain ⟨y, hy, hye⟩ := e.kid (i := 1) (by omega)
    have htx : e.txt = [40] ++ (x.txt ++ [32, 124, 32] ++ y.txt) ++ [41] := by
      rw [E.txt_eq, txtK, hk]
      simp [List.getD_eq_getElem?_getD, hx, hy]
    have hln := congrArg List.length htx
    simp only [List.length_append, List.length_cons, List.length_nil] at hln
    simp (config := {contextual := true, maxSteps := 5000000}) only [go_sem, false_and, Nat.reduceAdd, Nat.reduceLT, Nat.reduceBEq, Nat.reduceSub, Nat.reduceMul, Nat.reduceLeDiff, Int.reduceToNat, Nat.reduceEqDiff, Nat.reduceMod, ht, hl, hk, specIt, Int.reduceBEq]
    refine bdK (ws_call id _ (by (first | omega | ((try simp only [ByteArray.size_append, ByteArray.size_empty, T_size, List.size_toArray, List.length_append, List.length_cons, List.length_nil, Int.natCast_add] at *); omega)))) hB (by (first | omega | ((try simp only [ByteArray.size_append, ByteArray.size_empty, T_size, List.size_toArray, List.length_append, List.length_cons, List.length_nil, Int.natCast_add] at *); omega))) (free2 hfr0) fun H1 hB1 => ?_
    simp (config := {contextual := true, maxSteps := 5000000}) only [go_sem, false_and, Nat.reduceAdd, Nat.reduceLT, Nat.reduceBEq, Nat.reduceSub, Nat.reduceMul, Nat.reduceLeDiff, Int.reduceToNat, Nat.reduceEqDiff, Nat.reduceMod, ht, hl, hk, specIt, Int.reduceBEq]
    refine bdK (joined_call _ _ e.kids x y _ hx hy (wok x 0 hx) (wok y 1 hy) id) hB1 (by (first | omega | ((try simp only [ByteArray.size_append, ByteArray.size_empty, T_size, List.size_toArray, List.length_append, List.length_cons, List.length_nil, Int.natCast_add] at *); omega))) (free2 hfr0) fun H2 hB2 => ?_
    simp (config := {contextual := true, maxSteps := 5000000}) only [go_sem, false_and, Nat.reduceAdd, Nat.reduceLT, Nat.reduceBEq, Nat.reduceSub, Nat.reduceMul, Nat.reduceLeDiff, Int.reduceToNat, Nat.reduceEqDiff, Nat.reduceMod, ht, hl, hk, specIt, Int.reduceBEq]
    refine bdK (ws_call id _ (by (first | omega | ((try simp only [ByteArray.size_append, ByteArray.size_empty, T_size, List.size_toArray, List.length_append, List.length_cons, List.length_nil, Int.natCast_add] at *); omega)))) hB2 (by (first | omega | ((try simp only [ByteArray.size_append, ByteArray.size_empty, T_size, List.size_toArray, List.length_append, List.length_cons, List.length_nil, Int.natCast_add] at *); omega))) (free2 hfr0) fun H3 hB3 => ?_
    simp (config := {contextual := true, maxSteps := 5000000}) only [go_sem, false_and, Nat.reduceAdd, Nat.reduceLT, Nat.reduceBEq, Nat.reduceSub, Nat.reduceMul, Nat.reduceLeDiff, Int.reduceToNat, Nat.reduceEqDiff, Nat.reduceMod, ht, hl, hk, specIt, Int.reduceBEq]
    exact ⟨_, Weak.refl _, H3, Hp.Le.refl _, hB3.cast (by simp only [L_append, L_T, htx, List.append_assoc]), rfl⟩
  · have hlen : e.kids.length = 1 := hn1 (by omega)
    obtain ⟨x, hx, hxe⟩ := e.kid (i := 0) (by omega)
    have htx : e.txt = [63, 120] ++ Lib.itoa e.id ++ [32] ++ x.txt := by
      rw [E.txt_eq, txtK, hk]
      simp [List.getD_eq_getElem?_getD, hx]
    have hln := congrArg List.length htx
    simp only [List.length_append, List.length_cons, List.length_nil] at hln
    simp (config := {contextual := true, maxSteps := 5000000}) only [go_sem, false_and, Nat.reduceAdd, Nat.reduceLT, Nat.reduceBEq, Nat.reduceSub, Nat.reduceMul, Nat.reduceLeDiff, Int.reduceToNat, Nat.reduceEqDiff, Nat.reduceMod, ht, hl, hk, specIt, Int.reduceBEq]
    refine ⟨by (first | omega | ((try simp only [ByteArray.size_append, ByteArray.size_empty, T_size, List.size_toArray, List.length_append, List.length_cons, List.length_nil, Int.natCast_add] at *); omega)), ⟨hi0, by omega⟩, by (first | omega | ((try simp only [ByteArray.size_append, ByteArray.size_empty, T_size, List.size_toArray, List.length_append, List.length_cons, List.length_nil, Int.natCast_add] at *); omega)), by (first | omega | ((try simp only [ByteArray.size_append, ByteArray.size_empty, T_size, List.size_toArray, List.length_append, List.length_cons, List.length_nil, Int.natCast_add] at *); omega)), ?_⟩
    refine bdK (ws_call id _ (by (first | omega | ((try simp only [ByteArray.size_append, ByteArray.size_empty, T_size, List.size_toArray, List.length_append, List.length_cons, List.length_nil, Int.natCast_add] at *); omega)))) hB (by (first | omega | ((try simp only [ByteArray.size_append, ByteArray.size_empty, T_size, List.size_toArray, List.length_append, List.length_cons, List.length_nil, Int.natCast_add] at *); omega))) (free2 hfr0) fun H1 hB1 => ?_
    simp (config := {contextual := true, maxSteps := 5000000}) only [go_sem, false_and, Nat.reduceAdd, Nat.reduceLT, Nat.reduceBEq, Nat.reduceSub, Nat.reduceMul, Nat.reduceLeDiff, Int.reduceToNat, Nat.reduceEqDiff, Nat.reduceMod, ht, hl, hk, specIt, Int.reduceBEq, hxe, hlen]
    refine ⟨⟨by omega, by omega⟩, bdK (wok x 0 hx id) hB1 (by (first | omega | ((try simp only [ByteArray.size_append, ByteArray.size_empty, T_size, List.size_toArray, List.length_append, List.length_cons, List.length_nil, Int.natCast_add] at *); omega))) (free2 hfr0) fun H2 hB2 => ?_⟩
    simp (config := {contextual := true, maxSteps := 5000000}) only [go_sem, false_and, Nat.reduceAdd, Nat.reduceLT, Nat.reduceBEq, Nat.reduceSub, Nat.reduceMul, Nat.reduceLeDiff, Int.reduceToNat, Nat.reduceEqDiff, Nat.reduceMod, ht, hl, hk, specIt, Int.reduceBEq, hxe, hlen]
    exact ⟨_, Weak.refl _, H2, Hp.Le.refl _, hB2.cast (by simp only [L_append, L_T, htx, List.append_assoc, List.cons_append, List.nil_append]), rfl⟩
end Go.Proofs.YtkdendaohlnlcaaGreatDoor.Av

/- Whether two expressions, names, steps, units are the same, by the reference. No condition. -/
namespace Go.Proofs.YtkdendaohlnlcaaGreatDoor.Av
set_option linter.unusedVariables false
set_option linter.unusedSimpArgs false
set_option maxRecDepth 4000
set_option maxHeartbeats 1000000
variable {w0 : Base} {k : List Nat} {H : Hp}
def byI (a b : Int) : Int := if a < b then -1 else if b < a then 1 else 0
theorem byI_zero {a b : Int} : byI a b = 0 ↔ a = b := by
  unfold byI
  split
  · omega
  · split <;> omega
mutual
def E.ord : E → E → Int
  | .mk k i ks, e => if byI k e.kind = 0 then (if byI i e.id = 0 then (if byI ks.length e.kids.length = 0 then E.ordL ks e.kids else byI ks.length e.kids.length) else byI i e.id) else byI k e.kind
def E.ordL : List E → List E → Int
  | x :: xs, y :: ys => if E.ord x y = 0 then E.ordL xs ys else E.ord x y
  | _, _ => 0
end
theorem E.ord_eq (a b : E) : a.ord b = if byI a.kind b.kind = 0 then (if byI a.id b.id = 0 then (if byI a.kids.length b.kids.length = 0 then E.ordL a.kids b.kids else byI a.kids.length b.kids.length) else byI a.id b.id) else byI a.kind b.kind := by
  cases a
  rw [E.ord]
  rfl
theorem E.ordL_cons (x y : E) (xs ys : List E) : E.ordL (x :: xs) (y :: ys) = if x.ord y = 0 then E.ordL xs ys else x.ord y := by rw [E.ordL]
theorem E.ordL_nil (l : List E) : E.ordL [] l = 0 := by
  unfold E.ordL
  rfl
mutual
theorem E.ord_zero : ∀ a b : E, a.ord b = 0 ↔ a = b
  | .mk k i ks, b => by
    have hL := E.ordL_zero ks b.kids
    rw [E.ord]
    constructor
    · intro h
      split at h
      · rename_i h1
        split at h
        · rename_i h2
          split at h
          · rename_i h3
            have h1 := byI_zero.1 h1
            have h2 := byI_zero.1 h2
            have h3 := byI_zero.1 h3
            have h4 := (hL (by omega)).1 h
            cases b
            simp only [E.kind, E.id, E.kids] at h1 h2 h4
            rw [h1, h2, h4]
          · exact absurd h (by assumption)
        · exact absurd h (by assumption)
      · exact absurd h (by assumption)
    · intro h
      subst h
      rw [if_pos (show byI k (E.mk k i ks).kind = 0 from byI_zero.2 rfl), if_pos (show byI i (E.mk k i ks).id = 0 from byI_zero.2 rfl), if_pos (show byI ks.length (E.mk k i ks).kids.length = 0 from byI_zero.2 rfl)]
      exact (E.ordL_zero ks ks rfl).2 rfl
theorem E.ordL_zero : ∀ l m : List E, l.length = m.length → (E.ordL l m = 0 ↔ l = m)
  | [], [], _ => by simp [E.ordL]
  | [], y :: m, h => by simp at h
  | x :: l, [], h => by simp at h
  | x :: l, y :: m, h => by
    have h1 := E.ord_zero x y
    have h2 := E.ordL_zero l m (by simpa using h)
    rw [E.ordL_cons]
    constructor
    · intro hh
      split at hh
      · rename_i h3
        rw [h1.1 h3, h2.1 hh]
      · exact absurd hh (by assumption)
    · intro hh
      cases hh
      rw [if_pos (h1.2 rfl)]
      exact h2.2 rfl
end
theorem by_call (a b : Int) : CallAt Tryz.prog w0 k 64 [.int .i64 a, .int .i64 b] H H (.int .i64 (byI a b)) := by
  refine callAt tabOk Spec.no_ok mixed Tryz.func64 rfl rfl Tryz.results64 Tryz.ntmps64 (by simp) [] ?_
  intro hfr t hl ht
  simp only [At, Nat.reduceAdd, List.cons_append, List.nil_append] at ht
  simp (config := {contextual := true, maxSteps := 5000000}) only [go_sem, false_and, Nat.reduceAdd, Nat.reduceLT, Nat.reduceBEq, Nat.reduceSub, Nat.reduceMul, Nat.reduceLeDiff, Int.reduceToNat, Nat.reduceEqDiff, Nat.reduceMod, ht, hl]
  unfold byI
  (repeat' (first | (with_reducible apply And.intro) | (with_reducible intro _))) <;> simp_all <;> omega
def specOr (N : Nat) : Spec := (Spec.no.add 64 (sp2 dI dI (fun _ _ => True) fun a b => .int .i64 (byI a b))).add 34 (sp2 dE dE (fun a _ => a.ok ∧ a.sz < N) fun a b => .int .i64 (a.ord b))
/-- What holds at the head of the loop over the kids. -/
def ordI (a b : E) (R : Int) (H : Hp) (j : Nat) (x : FS) : Prop := ∃ (i : Nat) (c : Int), x.tmps.length = 58 ∧ x.tmps.getD 2 AV.undef = .sptr [.int .i64 a.kind, .int .i64 a.id, .list .none (a.kids.map E.cells)] ∧ x.tmps.getD 3 AV.undef = .sptr [.int .i64 b.kind, .int .i64 b.id, .list .none (b.kids.map E.cells)] ∧ x.tmps.getD 5 AV.undef = .int .i64 c ∧ x.tmps.getD 6 AV.undef = .int .i64 i ∧ x.H = H ∧ i + j = a.kids.length ∧
  (c = 0 → a.kids.length = b.kids.length ∧ R = E.ordL (a.kids.drop i) (b.kids.drop i)) ∧ (c ≠ 0 → R = c)
theorem order_step (N : Nat) (hS : SpecOk Tryz.prog w0 (specOr N)) (a b : E) (hok : a.ok) (hN : a.sz < N + 1) : CallAt Tryz.prog w0 k 34 [a.av, b.av] H H (.int .i64 (a.ord b)) := by
  refine callAt tabOk hS mixed Tryz.func34 rfl rfl Tryz.results34 Tryz.ntmps34 (by simp) [] ?_
  intro hfr t hl ht
  simp only [At, Nat.reduceAdd, List.cons_append, List.nil_append] at ht
  have hlk := E.ok_len hok
  obtain ⟨R, hR⟩ : ∃ R, R = a.ord b := ⟨_, rfl⟩
  rw [← hR]
  rw [E.ord_eq] at hR
  have e00 : ((0 : Int) == 0) = true := rfl
  by_cases h1 : byI a.kind b.kind = 0
  · rw [if_pos h1] at hR
    by_cases h2 : byI a.id b.id = 0
    · rw [if_pos h2] at hR
      by_cases h3 : byI a.kids.length b.kids.length = 0
      · rw [if_pos h3] at hR
        simp (config := {contextual := true, maxSteps := 5000000}) only [go_sem, false_and, Nat.reduceAdd, Nat.reduceLT, Nat.reduceBEq, Nat.reduceSub, Nat.reduceMul, Nat.reduceLeDiff, Int.reduceToNat, Nat.reduceEqDiff, Nat.reduceMod, ht, hl, specOr, h1, h2, h3, e00]
        refine loop_inv tabOk hS mixed [] (ordI a b R H) a.kids.length ⟨0, 0, ?_⟩ ?_
        · simp (config := {contextual := true, maxSteps := 5000000}) only [go_sem, false_and, Nat.reduceAdd, Nat.reduceLT, Nat.reduceBEq, Nat.reduceSub, Nat.reduceMul, Nat.reduceLeDiff, Int.reduceToNat, Nat.reduceEqDiff, Nat.reduceMod, ht, hl]
          exact ⟨rfl, by omega, ⟨(by have := byI_zero.1 h3; omega), hR⟩, fun h => absurd rfl h⟩
        · rintro j ⟨t, n, H2⟩ ⟨i, c, hl, h2', h3', h5, h6, rfl, hij, hz, hnz⟩
          simp only at hl h2' h3' h5 h6
          by_cases hc : c = 0
          · obtain ⟨hlen, hRR⟩ := hz hc
            subst hc
            by_cases hi : i < a.kids.length
            · have hd : decide ((i : Int) < (a.kids.length : Int)) = true := by simp [hi]
              have hw : IntKind.i64.wrap ((i : Int) + 1) = ((i + 1 : Nat) : Int) := by rw [wrap_i64] <;> omega
              have hd2 : decide ((i : Int) < (b.kids.length : Int)) = true := by simp; omega
              obtain ⟨x, hx, hxe⟩ := a.kid hi
              obtain ⟨y, hy, hye⟩ := b.kid (show i < b.kids.length by omega)
              have hxN := E.kid_sz hx
              have hxo := E.ok_kid hok hx
              have hdx : a.kids.drop i = x :: a.kids.drop (i + 1) := by
                obtain ⟨q1, q2⟩ := List.getElem?_eq_some_iff.1 hx
                rw [List.drop_eq_getElem_cons q1, q2]
              have hdy : b.kids.drop i = y :: b.kids.drop (i + 1) := by
                obtain ⟨q1, q2⟩ := List.getElem?_eq_some_iff.1 hy
                rw [List.drop_eq_getElem_cons q1, q2]
              rw [hdx, hdy, E.ordL_cons] at hRR
              simp (config := {contextual := true, maxSteps := 5000000}) only [go_sem, false_and, Nat.reduceAdd, Nat.reduceLT, Nat.reduceBEq, Nat.reduceSub, Nat.reduceMul, Nat.reduceLeDiff, Int.reduceToNat, Nat.reduceEqDiff, Nat.reduceMod, h2', h3', h5, h6, hl, hd, hd2, hxe, hye, hw, specOr, toE_at, e00]
              refine ⟨by kernel_rfl, ⟨by omega, by omega⟩, ⟨by omega, by omega⟩, ⟨hxo, by omega⟩, List.Pairwise.nil, j - 1, by omega, i + 1, x.ord y, ?_⟩
              simp (config := {contextual := true, maxSteps := 5000000}) only [go_sem, false_and, Nat.reduceAdd, Nat.reduceLT, Nat.reduceBEq, Nat.reduceSub, Nat.reduceMul, Nat.reduceLeDiff, Int.reduceToNat, Nat.reduceEqDiff, Nat.reduceMod, h2', h3', h5, h6, hl]
              exact ⟨by omega, fun h => ⟨hlen, by rw [if_pos h] at hRR; exact hRR⟩, fun h => by rw [if_neg h] at hRR; exact hRR⟩
            · have hd : decide ((i : Int) < (a.kids.length : Int)) = false := by simp; omega
              simp (config := {contextual := true, maxSteps := 5000000}) only [go_sem, false_and, Nat.reduceAdd, Nat.reduceLT, Nat.reduceBEq, Nat.reduceSub, Nat.reduceMul, Nat.reduceLeDiff, Int.reduceToNat, Nat.reduceEqDiff, Nat.reduceMod, h2', h3', h5, h6, hl, hd, e00]
              rw [hRR, List.drop_of_length_le (by omega), E.ordL_nil]
          · have hcb : (c == 0) = false := by simpa using hc
            simp (config := {contextual := true, maxSteps := 5000000}) only [go_sem, false_and, Nat.reduceAdd, Nat.reduceLT, Nat.reduceBEq, Nat.reduceSub, Nat.reduceMul, Nat.reduceLeDiff, Int.reduceToNat, Nat.reduceEqDiff, Nat.reduceMod, h2', h3', h5, h6, hl, hcb]
            exact (hnz hc).symm
      · have h3b : (byI a.kids.length b.kids.length == 0) = false := by simpa using h3
        rw [if_neg h3] at hR
        simp (config := {contextual := true, maxSteps := 5000000}) only [go_sem, false_and, Nat.reduceAdd, Nat.reduceLT, Nat.reduceBEq, Nat.reduceSub, Nat.reduceMul, Nat.reduceLeDiff, Int.reduceToNat, Nat.reduceEqDiff, Nat.reduceMod, ht, hl, specOr, h1, h2, h3b, e00]
        refine loop_inv tabOk hS mixed [] (ordI a b R H) a.kids.length ⟨0, byI a.kids.length b.kids.length, ?_⟩ ?_
        · simp (config := {contextual := true, maxSteps := 5000000}) only [go_sem, false_and, Nat.reduceAdd, Nat.reduceLT, Nat.reduceBEq, Nat.reduceSub, Nat.reduceMul, Nat.reduceLeDiff, Int.reduceToNat, Nat.reduceEqDiff, Nat.reduceMod, ht, hl]
          exact ⟨rfl, by omega, fun h => absurd h h3, fun _ => hR⟩
        · rintro j ⟨t, n, H2⟩ ⟨i, c, hl, h2', h3', h5, h6, rfl, hij, hz, hnz⟩
          simp only at hl h2' h3' h5 h6
          by_cases hc : c = 0
          · obtain ⟨hlen, hRR⟩ := hz hc
            subst hc
            by_cases hi : i < a.kids.length
            · have hd : decide ((i : Int) < (a.kids.length : Int)) = true := by simp [hi]
              have hw : IntKind.i64.wrap ((i : Int) + 1) = ((i + 1 : Nat) : Int) := by rw [wrap_i64] <;> omega
              have hd2 : decide ((i : Int) < (b.kids.length : Int)) = true := by simp; omega
              obtain ⟨x, hx, hxe⟩ := a.kid hi
              obtain ⟨y, hy, hye⟩ := b.kid (show i < b.kids.length by omega)
              have hxN := E.kid_sz hx
              have hxo := E.ok_kid hok hx
              have hdx : a.kids.drop i = x :: a.kids.drop (i + 1) := by
                obtain ⟨q1, q2⟩ := List.getElem?_eq_some_iff.1 hx
                rw [List.drop_eq_getElem_cons q1, q2]
              have hdy : b.kids.drop i = y :: b.kids.drop (i + 1) := by
                obtain ⟨q1, q2⟩ := List.getElem?_eq_some_iff.1 hy
                rw [List.drop_eq_getElem_cons q1, q2]
              rw [hdx, hdy, E.ordL_cons] at hRR
              simp (config := {contextual := true, maxSteps := 5000000}) only [go_sem, false_and, Nat.reduceAdd, Nat.reduceLT, Nat.reduceBEq, Nat.reduceSub, Nat.reduceMul, Nat.reduceLeDiff, Int.reduceToNat, Nat.reduceEqDiff, Nat.reduceMod, h2', h3', h5, h6, hl, hd, hd2, hxe, hye, hw, specOr, toE_at, e00]
              refine ⟨by kernel_rfl, ⟨by omega, by omega⟩, ⟨by omega, by omega⟩, ⟨hxo, by omega⟩, List.Pairwise.nil, j - 1, by omega, i + 1, x.ord y, ?_⟩
              simp (config := {contextual := true, maxSteps := 5000000}) only [go_sem, false_and, Nat.reduceAdd, Nat.reduceLT, Nat.reduceBEq, Nat.reduceSub, Nat.reduceMul, Nat.reduceLeDiff, Int.reduceToNat, Nat.reduceEqDiff, Nat.reduceMod, h2', h3', h5, h6, hl]
              exact ⟨by omega, fun h => ⟨hlen, by rw [if_pos h] at hRR; exact hRR⟩, fun h => by rw [if_neg h] at hRR; exact hRR⟩
            · have hd : decide ((i : Int) < (a.kids.length : Int)) = false := by simp; omega
              simp (config := {contextual := true, maxSteps := 5000000}) only [go_sem, false_and, Nat.reduceAdd, Nat.reduceLT, Nat.reduceBEq, Nat.reduceSub, Nat.reduceMul, Nat.reduceLeDiff, Int.reduceToNat, Nat.reduceEqDiff, Nat.reduceMod, h2', h3', h5, h6, hl, hd, e00]
              rw [hRR, List.drop_of_length_le (by omega), E.ordL_nil]
          · have hcb : (c == 0) = false := by simpa using hc
            simp (config := {contextual := true, maxSteps := 5000000}) only [go_sem, false_and, Nat.reduceAdd, Nat.reduceLT, Nat.reduceBEq, Nat.reduceSub, Nat.reduceMul, Nat.reduceLeDiff, Int.reduceToNat, Nat.reduceEqDiff, Nat.reduceMod, h2', h3', h5, h6, hl, hcb]
            exact (hnz hc).symm
    · have h2b : (byI a.id b.id == 0) = false := by simpa using h2
      rw [if_neg h2] at hR
      simp (config := {contextual := true, maxSteps := 5000000}) only [go_sem, false_and, Nat.reduceAdd, Nat.reduceLT, Nat.reduceBEq, Nat.reduceSub, Nat.reduceMul, Nat.reduceLeDiff, Int.reduceToNat, Nat.reduceEqDiff, Nat.reduceMod, ht, hl, specOr, h1, h2b, e00]
      refine loop_inv tabOk hS mixed [] (ordI a b R H) a.kids.length ⟨0, byI a.id b.id, ?_⟩ ?_
      · simp (config := {contextual := true, maxSteps := 5000000}) only [go_sem, false_and, Nat.reduceAdd, Nat.reduceLT, Nat.reduceBEq, Nat.reduceSub, Nat.reduceMul, Nat.reduceLeDiff, Int.reduceToNat, Nat.reduceEqDiff, Nat.reduceMod, ht, hl, ordI]
        exact ⟨rfl, by omega, fun h => absurd h h2, fun _ => hR⟩
      · rintro j ⟨t, n, H2⟩ ⟨i, c, hl, h2', h3', h5, h6, rfl, hij, hz, hnz⟩
        simp only at hl h2' h3' h5 h6
        by_cases hc : c = 0
        · obtain ⟨hlen, hRR⟩ := hz hc
          subst hc
          by_cases hi : i < a.kids.length
          · have hd : decide ((i : Int) < (a.kids.length : Int)) = true := by simp [hi]
            have hw : IntKind.i64.wrap ((i : Int) + 1) = ((i + 1 : Nat) : Int) := by rw [wrap_i64] <;> omega
            have hd2 : decide ((i : Int) < (b.kids.length : Int)) = true := by simp; omega
            obtain ⟨x, hx, hxe⟩ := a.kid hi
            obtain ⟨y, hy, hye⟩ := b.kid (show i < b.kids.length by omega)
            have hxN := E.kid_sz hx
            have hxo := E.ok_kid hok hx
            have hdx : a.kids.drop i = x :: a.kids.drop (i + 1) := by
              obtain ⟨q1, q2⟩ := List.getElem?_eq_some_iff.1 hx
              rw [List.drop_eq_getElem_cons q1, q2]
            have hdy : b.kids.drop i = y :: b.kids.drop (i + 1) := by
              obtain ⟨q1, q2⟩ := List.getElem?_eq_some_iff.1 hy
              rw [List.drop_eq_getElem_cons q1, q2]
            rw [hdx, hdy, E.ordL_cons] at hRR
            simp (config := {contextual := true, maxSteps := 5000000}) only [go_sem, false_and, Nat.reduceAdd, Nat.reduceLT, Nat.reduceBEq, Nat.reduceSub, Nat.reduceMul, Nat.reduceLeDiff, Int.reduceToNat, Nat.reduceEqDiff, Nat.reduceMod, h2', h3', h5, h6, hl, hd, hd2, hxe, hye, hw, specOr, toE_at, e00]
            refine ⟨by kernel_rfl, ⟨by omega, by omega⟩, ⟨by omega, by omega⟩, ⟨hxo, by omega⟩, List.Pairwise.nil, j - 1, by omega, i + 1, x.ord y, ?_⟩
            simp (config := {contextual := true, maxSteps := 5000000}) only [go_sem, false_and, Nat.reduceAdd, Nat.reduceLT, Nat.reduceBEq, Nat.reduceSub, Nat.reduceMul, Nat.reduceLeDiff, Int.reduceToNat, Nat.reduceEqDiff, Nat.reduceMod, h2', h3', h5, h6, hl]
            exact ⟨by omega, fun h => ⟨hlen, by rw [if_pos h] at hRR; exact hRR⟩, fun h => by rw [if_neg h] at hRR; exact hRR⟩
          · have hd : decide ((i : Int) < (a.kids.length : Int)) = false := by simp; omega
            simp (config := {contextual := true, maxSteps := 5000000}) only [go_sem, false_and, Nat.reduceAdd, Nat.reduceLT, Nat.reduceBEq, Nat.reduceSub, Nat.reduceMul, Nat.reduceLeDiff, Int.reduceToNat, Nat.reduceEqDiff, Nat.reduceMod, h2', h3', h5, h6, hl, hd, e00]
            rw [hRR, List.drop_of_length_le (by omega), E.ordL_nil]
        · have hcb : (c == 0) = false := by simpa using hc
          simp (config := {contextual := true, maxSteps := 5000000}) only [go_sem, false_and, Nat.reduceAdd, Nat.reduceLT, Nat.reduceBEq, Nat.reduceSub, Nat.reduceMul, Nat.reduceLeDiff, Int.reduceToNat, Nat.reduceEqDiff, Nat.reduceMod, h2', h3', h5, h6, hl, hcb]
          exact (hnz hc).symm
  · have h1b : (byI a.kind b.kind == 0) = false := by simpa using h1
    rw [if_neg h1] at hR
    simp (config := {contextual := true, maxSteps := 5000000}) only [go_sem, false_and, Nat.reduceAdd, Nat.reduceLT, Nat.reduceBEq, Nat.reduceSub, Nat.reduceMul, Nat.reduceLeDiff, Int.reduceToNat, Nat.reduceEqDiff, Nat.reduceMod, ht, hl, specOr, h1b, e00]
    refine loop_inv tabOk hS mixed [] (ordI a b R H) a.kids.length ⟨0, byI a.kind b.kind, ?_⟩ ?_
    · simp (config := {contextual := true, maxSteps := 5000000}) only [go_sem, false_and, Nat.reduceAdd, Nat.reduceLT, Nat.reduceBEq, Nat.reduceSub, Nat.reduceMul, Nat.reduceLeDiff, Int.reduceToNat, Nat.reduceEqDiff, Nat.reduceMod, ht, hl]
      exact ⟨rfl, by omega, fun h => absurd h h1, fun _ => hR⟩
    · rintro j ⟨t, n, H2⟩ ⟨i, c, hl, h2', h3', h5, h6, rfl, hij, hz, hnz⟩
      simp only at hl h2' h3' h5 h6
      by_cases hc : c = 0
      · obtain ⟨hlen, hRR⟩ := hz hc
        subst hc
        by_cases hi : i < a.kids.length
        · have hd : decide ((i : Int) < (a.kids.length : Int)) = true := by simp [hi]
          have hw : IntKind.i64.wrap ((i : Int) + 1) = ((i + 1 : Nat) : Int) := by rw [wrap_i64] <;> omega
          have hd2 : decide ((i : Int) < (b.kids.length : Int)) = true := by simp; omega
          obtain ⟨x, hx, hxe⟩ := a.kid hi
          obtain ⟨y, hy, hye⟩ := b.kid (show i < b.kids.length by omega)
          have hxN := E.kid_sz hx
          have hxo := E.ok_kid hok hx
          have hdx : a.kids.drop i = x :: a.kids.drop (i + 1) := by
            obtain ⟨q1, q2⟩ := List.getElem?_eq_some_iff.1 hx
            rw [List.drop_eq_getElem_cons q1, q2]
          have hdy : b.kids.drop i = y :: b.kids.drop (i + 1) := by
            obtain ⟨q1, q2⟩ := List.getElem?_eq_some_iff.1 hy
            rw [List.drop_eq_getElem_cons q1, q2]
          rw [hdx, hdy, E.ordL_cons] at hRR
          simp (config := {contextual := true, maxSteps := 5000000}) only [go_sem, false_and, Nat.reduceAdd, Nat.reduceLT, Nat.reduceBEq, Nat.reduceSub, Nat.reduceMul, Nat.reduceLeDiff, Int.reduceToNat, Nat.reduceEqDiff, Nat.reduceMod, h2', h3', h5, h6, hl, hd, hd2, hxe, hye, hw, specOr, toE_at, e00]
          refine ⟨by kernel_rfl, ⟨by omega, by omega⟩, ⟨by omega, by omega⟩, ⟨hxo, by omega⟩, List.Pairwise.nil, j - 1, by omega, i + 1, x.ord y, ?_⟩
          simp (config := {contextual := true, maxSteps := 5000000}) only [go_sem, false_and, Nat.reduceAdd, Nat.reduceLT, Nat.reduceBEq, Nat.reduceSub, Nat.reduceMul, Nat.reduceLeDiff, Int.reduceToNat, Nat.reduceEqDiff, Nat.reduceMod, h2', h3', h5, h6, hl]
          exact ⟨by omega, fun h => ⟨hlen, by rw [if_pos h] at hRR; exact hRR⟩, fun h => by rw [if_neg h] at hRR; exact hRR⟩
        · have hd : decide ((i : Int) < (a.kids.length : Int)) = false := by simp; omega
          simp (config := {contextual := true, maxSteps := 5000000}) only [go_sem, false_and, Nat.reduceAdd, Nat.reduceLT, Nat.reduceBEq, Nat.reduceSub, Nat.reduceMul, Nat.reduceLeDiff, Int.reduceToNat, Nat.reduceEqDiff, Nat.reduceMod, h2', h3', h5, h6, hl, hd, e00]
          rw [hRR, List.drop_of_length_le (by omega), E.ordL_nil]
      · have hcb : (c == 0) = false := by simpa using hc
        simp (config := {contextual := true, maxSteps := 5000000}) only [go_sem, false_and, Nat.reduceAdd, Nat.reduceLT, Nat.reduceBEq, Nat.reduceSub, Nat.reduceMul, Nat.reduceLeDiff, Int.reduceToNat, Nat.reduceEqDiff, Nat.reduceMod, h2', h3', h5, h6, hl, hcb]
        exact (hnz hc).symm
theorem specOr_ok : ∀ N, SpecOk Tryz.prog w0 (specOr N)
  | 0 => (Spec.no_ok.add (sp2_ok fun a b _ k H => by_call a b)).add (sp2_ok fun a b h => by omega)
  | N + 1 => (Spec.no_ok.add (sp2_ok fun a b _ k H => by_call a b)).add (sp2_ok fun a b h k H => order_step N (specOr_ok N) a b h.1 h.2)
theorem order_call (a b : E) (hok : a.ok) : CallAt Tryz.prog w0 k 34 [a.av, b.av] H H (.int .i64 (a.ord b)) := order_step a.sz (specOr_ok _) a b hok (Nat.lt_succ_self _)
def specLi : Spec := Spec.no.add 34 (sp2 dE dE (fun a _ => a.ok) fun a b => .int .i64 (a.ord b))
theorem specLi_ok : SpecOk Tryz.prog w0 specLi := Spec.no_ok.add (sp2_ok fun a b h k H => order_call a b h)
def E.like (a b : E) : Bool := a.ord b == 0
theorem E.like_iff {a b : E} : a.like b = true ↔ a = b := by
  unfold E.like
  rw [beq_iff_eq]
  exact E.ord_zero a b
theorem like02_call (a b : E) (hok : a.ok) : CallAt Tryz.prog w0 k 14 [a.av, b.av] H H (.bool (a.like b)) := by
  refine callAt tabOk specLi_ok mixed Tryz.func14 rfl rfl Tryz.results14 Tryz.ntmps14 (by simp) [] ?_
  intro hfr t hl ht
  simp only [At, Nat.reduceAdd, List.cons_append, List.nil_append] at ht
  simp (config := {contextual := true, maxSteps := 5000000}) only [go_sem, false_and, Nat.reduceAdd, Nat.reduceLT, Nat.reduceBEq, Nat.reduceSub, Nat.reduceMul, Nat.reduceLeDiff, Int.reduceToNat, Nat.reduceEqDiff, Nat.reduceMod, ht, hl, specLi, toE_at]
  exact ⟨hok, rfl⟩
end Go.Proofs.YtkdendaohlnlcaaGreatDoor.Av

/- What the functions of layer 8 answer, of the reference and of the program: abbreviations unfolded. No condition. -/
namespace Go.Proofs.YtkdendaohlnlcaaGreatDoor.Av
set_option linter.unusedVariables false
set_option linter.unusedSimpArgs false
set_option maxRecDepth 4000
set_option maxHeartbeats 1000000
variable {w0 : Base} {k : List Nat} {H : Hp}
def nt (e : E) : E := .mk 5 0 [e]
def im (a b : E) : E := .mk 6 0 [a, b]
def al (n : Int) (e : E) : E := .mk 7 n [e]
def shrt (k i : Int) (us : List E) : E :=
  if k = 8 then (match us with | [a, b] => nt (im a (nt b)) | _ => .mk k i us)
  else if k = 9 then (match us with | [a, b] => im (nt a) b | _ => .mk k i us)
  else if k = 10 then (match us with | [a] => nt (al i (nt a)) | _ => .mk k i us)
  else .mk k i us
mutual
def E.unf : E → E
  | .mk k i ks => shrt k i (E.unfL ks)
def E.unfL : List E → List E
  | [] => []
  | e :: es => e.unf :: E.unfL es
end
theorem E.unfL_eq : ∀ l : List E, E.unfL l = l.map E.unf
  | [] => rfl
  | e :: es => by simp [E.unfL, E.unfL_eq es]
theorem E.unf_eq (e : E) : e.unf = shrt e.kind e.id (e.kids.map E.unf) := by cases e; simp only [E.unf, E.kind, E.id, E.kids, E.unfL_eq]
theorem E.sh_kid {e : E} (h : e.sh = true) {i : Nat} {x : E} (hx : e.kids[i]? = some x) : x.sh = true := by
  rw [E.sh_eq, Bool.and_eq_true] at h
  exact List.all_eq_true.1 h.2 x (List.mem_of_getElem? hx)
theorem E.sh_loc {e : E} (h : e.sh = true) : e.loc = true := by
  rw [E.sh_eq, Bool.and_eq_true] at h
  exact h.1
theorem E.loc_len {e : E} (h : e.loc = true) : e.kids.length ≤ 4 := by
  unfold E.loc E.want at h
  (repeat' split at h) <;> simp_all <;> grind
theorem E.loc_two {e : E} (h : e.loc = true) (hk : e.kind = 8 ∨ e.kind = 9) : ∃ p q, e.kids = [p, q] := by
  have h2 : e.kids.length = 2 := by
    unfold E.loc E.want at h
    rcases hk with hk | hk <;> simp [hk] at h <;> omega
  match hl : e.kids, h2 with
  | [p, q], _ => exact ⟨p, q, rfl⟩
theorem E.loc_one {e : E} (h : e.loc = true) (hk : e.kind = 10) : ∃ p, e.kids = [p] := by
  have h2 : e.kids.length = 1 := by
    unfold E.loc E.want at h
    simp [hk] at h
    omega
  match hl : e.kids, h2 with
  | [p], _ => exact ⟨p, rfl⟩
theorem nt_ok {e : E} (h : e.ok) : (nt e).ok := ⟨by simp, h, trivial⟩
theorem im_ok {a b : E} (h : a.ok) (h2 : b.ok) : (im a b).ok := ⟨by simp, h, h2, trivial⟩
theorem al_ok {n : Int} {e : E} (h : e.ok) : (al n e).ok := ⟨by simp, h, trivial⟩
theorem shrt_ok {k i : Int} {us : List E} (hl : us.length ≤ 4) (h : ∀ x ∈ us, x.ok) : (shrt k i us).ok := by
  have hm : (E.mk k i us).ok := by
    simp only [E.ok]
    exact ⟨by omega, okL_all h⟩
  unfold shrt
  (repeat' split) <;> first | (with_reducible exact hm) | (simp only [List.mem_cons, List.not_mem_nil, or_false, forall_eq_or_imp, forall_eq] at h; first | (with_reducible exact nt_ok (im_ok h.1 (nt_ok h.2))) | (with_reducible exact im_ok (nt_ok h.1) h.2) | (with_reducible exact nt_ok (al_ok (nt_ok h))))
theorem unf_ok : ∀ N (e : E), e.sz < N → e.sh = true → e.unf.ok
  | 0, e, h, _ => by omega
  | N + 1, e, h, hs => by
    rw [E.unf_eq]
    refine shrt_ok (by rw [List.length_map]; exact E.loc_len (E.sh_loc hs)) fun x hx => ?_
    obtain ⟨y, hy, rfl⟩ := List.mem_map.1 hx
    obtain ⟨i, hi⟩ := List.mem_iff_getElem?.1 hy
    exact unf_ok N y (by have := E.kid_sz hi; omega) (E.sh_kid hs hi)
theorem E.unf_ok {e : E} (hs : e.sh = true) : e.unf.ok := Av.unf_ok _ e (Nat.lt_succ_self _) hs
theorem right_sh {e : E} (h : e.right = 0) : e.sh = true := by
  unfold E.right at h
  (repeat' split at h) <;> simp_all
theorem E.kcase (e : E) : (e.kind = 8 ∨ e.kind = 9 ∨ e.kind = 10) ∨ ((e.kind == 8) = false ∧ (e.kind == 9) = false ∧ (e.kind == 10) = false) := by
  simp only [beq_eq_false_iff_ne]
  omega
theorem shrt_no {k i : Int} {us : List E} (h8 : (k == 8) = false) (h9 : (k == 9) = false) (h10 : (k == 10) = false) : shrt k i us = .mk k i us := by
  simp only [beq_eq_false_iff_ne] at h8 h9 h10
  unfold shrt
  simp only [h8, h9, h10, if_false]

theorem not07_call (e : E) : CallAt Tryz.prog w0 k 97 [e.av] H H (nt e).av := by
  refine callAt tabOk specOk_none mixed Tryz.func97 rfl rfl Tryz.results97 Tryz.ntmps97 (by simp) [] ?_
  intro hfr t hl ht
  simp only [At, Nat.reduceAdd, List.cons_append, List.nil_append] at ht
  have fN : ∀ (a b : Nat) z ty, H ⟨z, a :: b :: k, ty⟩ = none := fun a b z ty => hfr _ (sfx2 _ _ _)
  simp (config := {contextual := true, maxSteps := 5000000}) only [go_sem, false_and, Nat.reduceAdd, Nat.reduceLT, Nat.reduceBEq, Nat.reduceSub, Nat.reduceMul, Nat.reduceLeDiff, Int.reduceToNat, Nat.reduceEqDiff, Nat.reduceMod, ht, hl, strip]
  exact ⟨mk1_weak, by (repeat (first | exact Hp.Le.refl _ | refine Hp.le_upd ?_ (fN _ _ _ _)))⟩
theorem imp07_call (a b : E) : CallAt Tryz.prog w0 k 98 [a.av, b.av] H H (im a b).av := by
  refine callAt tabOk specOk_none mixed Tryz.func98 rfl rfl Tryz.results98 Tryz.ntmps98 (by simp) [] ?_
  intro hfr t hl ht
  simp only [At, Nat.reduceAdd, List.cons_append, List.nil_append] at ht
  have fN : ∀ (a b : Nat) z ty, H ⟨z, a :: b :: k, ty⟩ = none := fun a b z ty => hfr _ (sfx2 _ _ _)
  simp (config := {contextual := true, maxSteps := 5000000}) only [go_sem, false_and, Nat.reduceAdd, Nat.reduceLT, Nat.reduceBEq, Nat.reduceSub, Nat.reduceMul, Nat.reduceLeDiff, Int.reduceToNat, Nat.reduceEqDiff, Nat.reduceMod, ht, hl, strip]
  exact ⟨mk2_weak, by (repeat (first | exact Hp.Le.refl _ | refine Hp.le_upd ?_ (fN _ _ _ _)))⟩
theorem all07_call (n : Int) (e : E) : CallAt Tryz.prog w0 k 99 [.int .i64 n, e.av] H H (al n e).av := by
  refine callAt tabOk specOk_none mixed Tryz.func99 rfl rfl Tryz.results99 Tryz.ntmps99 (by simp) [] ?_
  intro hfr t hl ht
  simp only [At, Nat.reduceAdd, List.cons_append, List.nil_append] at ht
  have fN : ∀ (a b : Nat) z ty, H ⟨z, a :: b :: k, ty⟩ = none := fun a b z ty => hfr _ (sfx2 _ _ _)
  simp (config := {contextual := true, maxSteps := 5000000}) only [go_sem, false_and, Nat.reduceAdd, Nat.reduceLT, Nat.reduceBEq, Nat.reduceSub, Nat.reduceMul, Nat.reduceLeDiff, Int.reduceToNat, Nat.reduceEqDiff, Nat.reduceMod, ht, hl, strip]
  exact ⟨mk1_weak, by (repeat (first | exact Hp.Le.refl _ | refine Hp.le_upd ?_ (fN _ _ _ _)))⟩
theorem notP_call (e : E) : CallAt Tryz.prog w0 k 94 [e.av] H H (nt e).av := by
  refine callAt tabOk specOk_none mixed Tryz.func94 rfl rfl Tryz.results94 Tryz.ntmps94 (by simp) [] ?_
  intro hfr t hl ht
  simp only [At, Nat.reduceAdd, List.cons_append, List.nil_append] at ht
  have fN : ∀ (a b : Nat) z ty, H ⟨z, a :: b :: k, ty⟩ = none := fun a b z ty => hfr _ (sfx2 _ _ _)
  simp (config := {contextual := true, maxSteps := 5000000}) only [go_sem, false_and, Nat.reduceAdd, Nat.reduceLT, Nat.reduceBEq, Nat.reduceSub, Nat.reduceMul, Nat.reduceLeDiff, Int.reduceToNat, Nat.reduceEqDiff, Nat.reduceMod, ht, hl, strip]
  exact ⟨mk1_weak, by (repeat (first | exact Hp.Le.refl _ | refine Hp.le_upd ?_ (fN _ _ _ _)))⟩
theorem impP_call (a b : E) : CallAt Tryz.prog w0 k 95 [a.av, b.av] H H (im a b).av := by
  refine callAt tabOk specOk_none mixed Tryz.func95 rfl rfl Tryz.results95 Tryz.ntmps95 (by simp) [] ?_
  intro hfr t hl ht
  simp only [At, Nat.reduceAdd, List.cons_append, List.nil_append] at ht
  have fN : ∀ (a b : Nat) z ty, H ⟨z, a :: b :: k, ty⟩ = none := fun a b z ty => hfr _ (sfx2 _ _ _)
  simp (config := {contextual := true, maxSteps := 5000000}) only [go_sem, false_and, Nat.reduceAdd, Nat.reduceLT, Nat.reduceBEq, Nat.reduceSub, Nat.reduceMul, Nat.reduceLeDiff, Int.reduceToNat, Nat.reduceEqDiff, Nat.reduceMod, ht, hl, strip]
  exact ⟨mk2_weak, by (repeat (first | exact Hp.Le.refl _ | refine Hp.le_upd ?_ (fN _ _ _ _)))⟩
/-- The abbreviation of two. -/
def bothA (a b : E) : AV := .agg [.int .i64 a.kind, .int .i64 a.id, .list .none (a.kids.map E.cells), .int .i64 b.kind, .int .i64 b.id, .list .none (b.kids.map E.cells)]
def someA (n : Int) (a : E) : AV := .agg [.int .i64 n, .int .i64 a.kind, .int .i64 a.id, .list .none (a.kids.map E.cells)]
def shrtA (k i : Int) (us : List E) : AV :=
  if k = 8 then (match us with | [a, b] => .iface 114 (bothA a b) | _ => .raw .nilIface)
  else if k = 9 then (match us with | [a, b] => .iface 116 (bothA a b) | _ => .raw .nilIface)
  else if k = 10 then (match us with | [a] => .iface 118 (someA i a) | _ => .raw .nilIface)
  else .raw .nilIface
def shrtOk (k : Int) (us : List E) : Prop := (k = 8 ∨ k = 9 → ∃ a b, us = [a, b]) ∧ (k = 10 → ∃ a, us = [a])
theorem shortOf_call (e : E) (us : List E) (hu : shrtOk e.kind us) : CallAt Tryz.prog w0 k 93 [e.av, .list .none (us.map E.cells)] H H (shrtA e.kind e.id us) := by
  refine callAt tabOk specOk_none mixed Tryz.func93 rfl rfl Tryz.results93 Tryz.ntmps93 (by simp) [] ?_
  intro hfr t hl ht
  simp only [At, Nat.reduceAdd, List.cons_append, List.nil_append] at ht
  have fN : ∀ (a b : Nat) z ty, H ⟨z, a :: b :: k, ty⟩ = none := fun a b z ty => hfr _ (sfx2 _ _ _)
  unfold shrtA
  rcases e.kcase with (h8 | h9 | h10) | ⟨h8, h9, h10⟩
  · obtain ⟨a, b, rfl⟩ := hu.1 (.inl h8)
    simp only [List.map_cons, List.map_nil, E.cells_eq] at ht
    simp (config := {contextual := true, maxSteps := 5000000}) only [go_sem, false_and, Nat.reduceAdd, Nat.reduceLT, Nat.reduceBEq, Nat.reduceSub, Nat.reduceMul, Nat.reduceLeDiff, Int.reduceToNat, Nat.reduceEqDiff, Nat.reduceMod, ht, hl, h8, bothA, Int.reduceBEq, if_true]
    ((repeat' apply And.intro) <;> first | omega | with_reducible assumption | exact Weak.refl _ | rfl | exact List.Pairwise.nil | (refine pw_of ?_; (repeat' (first | exact trivial | apply And.intro)); all_goals (first | exact .inr rfl | exact .inr trivial | exact .inl (by kernel_rfl))) | ((with_reducible (show drawOk _ = true)); kernel_rfl) | ((with_reducible (show panOk _ _ _ = true)); kernel_rfl) | (repeat (first | exact Hp.Le.refl _ | refine Hp.le_upd ?_ (fN _ _ _ _))))
  · obtain ⟨a, b, rfl⟩ := hu.1 (.inr h9)
    simp only [List.map_cons, List.map_nil, E.cells_eq] at ht
    simp (config := {contextual := true, maxSteps := 5000000}) only [go_sem, false_and, Nat.reduceAdd, Nat.reduceLT, Nat.reduceBEq, Nat.reduceSub, Nat.reduceMul, Nat.reduceLeDiff, Int.reduceToNat, Nat.reduceEqDiff, Nat.reduceMod, ht, hl, h9, bothA, Int.reduceBEq, if_true]
    ((repeat' apply And.intro) <;> first | omega | with_reducible assumption | exact Weak.refl _ | rfl | exact List.Pairwise.nil | (refine pw_of ?_; (repeat' (first | exact trivial | apply And.intro)); all_goals (first | exact .inr rfl | exact .inr trivial | exact .inl (by kernel_rfl))) | ((with_reducible (show drawOk _ = true)); kernel_rfl) | ((with_reducible (show panOk _ _ _ = true)); kernel_rfl) | (repeat (first | exact Hp.Le.refl _ | refine Hp.le_upd ?_ (fN _ _ _ _))))
  · obtain ⟨a, rfl⟩ := hu.2 h10
    simp only [List.map_cons, List.map_nil, E.cells_eq] at ht
    simp (config := {contextual := true, maxSteps := 5000000}) only [go_sem, false_and, Nat.reduceAdd, Nat.reduceLT, Nat.reduceBEq, Nat.reduceSub, Nat.reduceMul, Nat.reduceLeDiff, Int.reduceToNat, Nat.reduceEqDiff, Nat.reduceMod, ht, hl, h10, someA, Int.reduceBEq, if_true]
    ((repeat' apply And.intro) <;> first | omega | with_reducible assumption | exact Weak.refl _ | rfl | exact List.Pairwise.nil | (refine pw_of ?_; (repeat' (first | exact trivial | apply And.intro)); all_goals (first | exact .inr rfl | exact .inr trivial | exact .inl (by kernel_rfl))) | ((with_reducible (show drawOk _ = true)); kernel_rfl) | ((with_reducible (show panOk _ _ _ = true)); kernel_rfl) | (repeat (first | exact Hp.Le.refl _ | refine Hp.le_upd ?_ (fN _ _ _ _))))
  · simp (config := {contextual := true, maxSteps := 5000000}) only [go_sem, false_and, Nat.reduceAdd, Nat.reduceLT, Nat.reduceBEq, Nat.reduceSub, Nat.reduceMul, Nat.reduceLeDiff, Int.reduceToNat, Nat.reduceEqDiff, Nat.reduceMod, ht, hl, h8, h9, h10]
    simp only [beq_eq_false_iff_ne] at h8 h9 h10
    simp only [h8, h9, h10, if_false]
    exact Weak.refl _

def specNx : Spec := ((Spec.no.add 94 (sp1 dE (fun _ => True) fun e => (nt e).av)).add 95 (sp2 dE dE (fun _ _ => True) fun a b => (im a b).av)).add 93 (sp2 dE (dL cE) (fun e us => shrtOk e.kind us) fun e us => shrtA e.kind e.id us)
theorem specNx_ok : SpecOk Tryz.prog w0 specNx := ((Spec.no_ok.add (sp1_ok fun e _ k H => notP_call e)).add (sp2_ok fun a b _ k H => impP_call a b)).add (sp2_ok fun e us h k H => shortOf_call e us h)
theorem dLE_at {tk : Tok} {us : List E} : (dL cE).dec (.list tk (List.map E.cells us)) = some us := dL_at
theorem take_map {α β : Type} (f : α → β) {l : List α} {i : Nat} {x : α} (h : l[i]? = some x) : (l.take (i + 1)).map f = (l.take i).map f ++ [f x] := by
  rw [List.take_add_one, h, List.map_append]
  rfl
theorem toE_al {n : Int} {tk : Tok} {x : E} : toE [.raw (.int .i64 7), .raw (.int .i64 n), .list tk [[.raw (.int .i64 x.kind), .raw (.int .i64 x.id), .list .none (x.kids.map E.cells)]]] = some (al n x) := by
  simp only [toE, toEL, toE_at]
  rfl
def specUf (N : Nat) : Spec := specNx.add 61 (sp1 dE (fun e => e.sh = true ∧ e.sz < N) fun e => e.unf.av)
theorem unfold_step (N : Nat) (hS : SpecOk Tryz.prog w0 (specUf N)) (e : E) (hs : e.sh = true) (hN : e.sz < N + 1) : CallAt Tryz.prog w0 k 61 [e.av] H H e.unf.av := by
  refine callAt tabOk hS mixed Tryz.func61 rfl rfl Tryz.results61 Tryz.ntmps61 (by simp) [] ?_
  intro hfr t hl ht
  simp only [At, Nat.reduceAdd, List.cons_append, List.nil_append] at ht
  have fN : ∀ (a b : Nat) z ty, H ⟨z, a :: b :: k, ty⟩ = none := fun a b z ty => hfr _ (sfx2 _ _ _)
  have h4 := E.loc_len (E.sh_loc hs)
  simp (config := {contextual := true, maxSteps := 5000000}) only [go_sem, false_and, Nat.reduceAdd, Nat.reduceLT, Nat.reduceBEq, Nat.reduceSub, Nat.reduceMul, Nat.reduceLeDiff, Int.reduceToNat, Nat.reduceEqDiff, Nat.reduceMod, ht, hl]
  refine loop_inv tabOk hS mixed [] (fun j x => ∃ (i : Nat) (tk : Tok), x.tmps.length = 61 ∧ x.tmps.getD 1 AV.undef = .sptr [.int .i64 e.kind, .int .i64 e.id, .list .none (e.kids.map E.cells)] ∧ x.tmps.getD 2 AV.undef = .ptr ⟨3, 1 :: 0 :: k, 25⟩ 0 ∧ x.tmps.getD 3 AV.undef = .list tk ((e.kids.take i).map fun x => x.unf.cells) ∧ x.tmps.getD 10 AV.undef = .list .none (e.kids.map E.cells) ∧ x.tmps.getD 11 AV.undef = .int .i64 e.kids.length ∧ x.tmps.getD 12 AV.undef = .int .i64 i ∧
    LstK (H.upd ⟨3, 1 :: 0 :: k, 25⟩ (some (.cells [.int .i64 0, .int .i64 0, .list .nil []]))) 3 25 4 k tk x.H ∧ i + j = e.kids.length) e.kids.length ⟨0, .nil, ?_⟩ ?_
  · simp (config := {contextual := true, maxSteps := 5000000}) only [go_sem, false_and, Nat.reduceAdd, Nat.reduceLT, Nat.reduceBEq, Nat.reduceSub, Nat.reduceMul, Nat.reduceLeDiff, Int.reduceToNat, Nat.reduceEqDiff, Nat.reduceMod, ht, hl]
    exact ⟨rfl, ⟨Hp.Le.refl _, .inl rfl⟩, by omega⟩
  · rintro j ⟨t, n, H2⟩ ⟨i, tk, hl, h1, h2, h3, h10, h11, h12, hL, hij⟩
    simp only at hl h1 h2 h3 h10 h11 h12 hL
    have fN1 : ∀ (a b : Nat) z ty, a ≠ 1 → (H.upd ⟨3, 1 :: 0 :: k, 25⟩ (some (.cells [.int .i64 0, .int .i64 0, .list .nil []]))) ⟨z, a :: b :: k, ty⟩ = none := fun a b z ty ha => by
      rw [Hp.upd_ne _ _ (fun h => by cases h; exact ha rfl)]
      exact fN _ _ _ _
    have hle : H.Le H2 := fun i y hi => hL.1 i y (by rw [Hp.upd_ne _ _ (fun h => by rw [h, fN] at hi; cases hi)]; exact hi)
    by_cases hi : i < e.kids.length
    · have hd : decide ((i : Int) < (e.kids.length : Int)) = true := by simp [hi]
      have hw : IntKind.i64.wrap ((i : Int) + 1) = ((i + 1 : Nat) : Int) := by rw [wrap_i64] <;> omega
      obtain ⟨x, hx, he⟩ := E.kid e hi
      simp (config := {contextual := true, maxSteps := 5000000}) only [go_sem, false_and, Nat.reduceAdd, Nat.reduceLT, Nat.reduceBEq, Nat.reduceSub, Nat.reduceMul, Nat.reduceLeDiff, Int.reduceToNat, Nat.reduceEqDiff, Nat.reduceMod, he, toE_at, specUf, specNx, h1, h2, h3, h10, h11, h12, hl, hd, hw, strip, tokBy_cons]
      have hy : [[AV.int .i64 x.unf.kind, .int .i64 x.unf.id, .list .none (x.unf.kids.map E.cells)]] = [x.unf.cells] := by rw [E.cells_eq x.unf]
      have hlt : (e.kids.take i).length = i := by rw [List.length_take]; omega
      have hF : ∀ c, LstK (H.upd ⟨3, 1 :: 0 :: k, 25⟩ (some (.cells [.int .i64 0, .int .i64 0, .list .nil []]))) 3 25 4 k tk (H2.upd ⟨3, 2 :: (n + 1) :: k, 25⟩ c) := fun c => hL.frame (fN1 _ _ _ _ (by decide)) (fun m he => by cases he)
      have hP := fun c => (hF c).push (fun m => fN1 _ _ _ _ (by decide)) (y := x.unf.cells) (ys := []) (n + 1 + 1)
      simp only [tokBy_cons] at hP
      refine ⟨by omega, ⟨E.sh_kid hs hx, by have := E.kid_sz hx; omega⟩, fun y h => (h.elim (fun h => by rw [h]; rfl) (fun h => h.elim)), fun y h => by (obtain ⟨z, _, rfl⟩ := List.mem_map.1 h; exact E.cells_length _), rfl, by omega, by omega, (hF _).live, j - 1, by omega, i + 1, _, ?_, rfl, hP _, by omega⟩
      rw [hy, take_map _ hx]
    · have hd : decide ((i : Int) < (e.kids.length : Int)) = false := by simp; omega
      have e6 : e.kids.take i = e.kids := List.take_of_length_le (by omega)
      rw [e6] at h3
      have hc : (e.kids.map fun x => x.unf.cells) = (e.kids.map E.unf).map E.cells := by rw [List.map_map]; rfl
      rw [hc] at h3
      have hR : H2 ⟨3, 1 :: 0 :: k, 25⟩ = some (.cells [.int .i64 0, .int .i64 0, .list .nil []]) := hL.1 _ _ (Hp.upd_same _ _ _)
      have hu := e.unf_eq
      rcases e.kcase with (h8 | h9 | h10') | ⟨h8, h9, h10'⟩
      · obtain ⟨p, q, hpq⟩ := E.loc_two (E.sh_loc hs) (.inl h8)
        have hA : shrtA e.kind e.id (e.kids.map E.unf) = .iface 114 (bothA p.unf q.unf) := by simp [shrtA, h8, hpq]
        have hO : shrtOk e.kind (e.kids.map E.unf) := ⟨fun _ => ⟨_, _, by rw [hpq]; rfl⟩, fun h => by omega⟩
        have hu : e.unf = nt (im p.unf (nt q.unf)) := by rw [hu]; simp [shrt, h8, hpq]
        simp (config := {contextual := true, maxSteps := 5000000}) only [go_sem, false_and, Nat.reduceAdd, Nat.reduceLT, Nat.reduceBEq, Nat.reduceSub, Nat.reduceMul, Nat.reduceLeDiff, Int.reduceToNat, Nat.reduceEqDiff, Nat.reduceMod, specUf, specNx, h1, h2, h3, h10, h11, h12, hl, hd, hA, hO, hR, bothA, dLE_at]
        rw [hu]
        ((repeat' apply And.intro) <;> first | exact hO | exact Weak.refl _ | exact List.Pairwise.nil | (refine pw_of ?_; (repeat' (first | exact trivial | apply And.intro)); all_goals (first | exact .inr rfl | exact .inr trivial | exact .inl (by kernel_rfl))) | ((with_reducible (show drawOk _ = true)); kernel_rfl) | (repeat (first | exact hle | refine Hp.le_upd ?_ (fN _ _ _ _))))
      · obtain ⟨p, q, hpq⟩ := E.loc_two (E.sh_loc hs) (.inr h9)
        have hA : shrtA e.kind e.id (e.kids.map E.unf) = .iface 116 (bothA p.unf q.unf) := by simp [shrtA, h9, hpq]
        have hO : shrtOk e.kind (e.kids.map E.unf) := ⟨fun _ => ⟨_, _, by rw [hpq]; rfl⟩, fun h => by omega⟩
        have hu : e.unf = im (nt p.unf) q.unf := by rw [hu]; simp [shrt, h9, hpq]
        simp (config := {contextual := true, maxSteps := 5000000}) only [go_sem, false_and, Nat.reduceAdd, Nat.reduceLT, Nat.reduceBEq, Nat.reduceSub, Nat.reduceMul, Nat.reduceLeDiff, Int.reduceToNat, Nat.reduceEqDiff, Nat.reduceMod, specUf, specNx, h1, h2, h3, h10, h11, h12, hl, hd, hA, hO, hR, bothA, dLE_at]
        rw [hu]
        ((repeat' apply And.intro) <;> first | exact hO | exact Weak.refl _ | exact List.Pairwise.nil | (refine pw_of ?_; (repeat' (first | exact trivial | apply And.intro)); all_goals (first | exact .inr rfl | exact .inr trivial | exact .inl (by kernel_rfl))) | ((with_reducible (show drawOk _ = true)); kernel_rfl) | (repeat (first | exact hle | refine Hp.le_upd ?_ (fN _ _ _ _))))
      · obtain ⟨p, hpq⟩ := E.loc_one (E.sh_loc hs) h10'
        have hA : shrtA e.kind e.id (e.kids.map E.unf) = .iface 118 (someA e.id p.unf) := by simp [shrtA, h10', hpq]
        have hO : shrtOk e.kind (e.kids.map E.unf) := ⟨fun h => by omega, fun _ => ⟨_, by rw [hpq]; rfl⟩⟩
        have hu : e.unf = nt (al e.id (nt p.unf)) := by rw [hu]; simp [shrt, h10', hpq]
        simp (config := {contextual := true, maxSteps := 5000000}) only [go_sem, false_and, Nat.reduceAdd, Nat.reduceLT, Nat.reduceBEq, Nat.reduceSub, Nat.reduceMul, Nat.reduceLeDiff, Int.reduceToNat, Nat.reduceEqDiff, Nat.reduceMod, specUf, specNx, h1, h2, h3, h10, h11, h12, hl, hd, hA, hO, hR, someA, dLE_at, strip, toE_al]
        rw [hu]
        ((repeat' apply And.intro) <;> first | exact hO | exact Weak.refl _ | exact List.Pairwise.nil | (refine pw_of ?_; (repeat' (first | exact trivial | apply And.intro)); all_goals (first | exact .inr rfl | exact .inr trivial | exact .inl (by kernel_rfl))) | ((with_reducible (show drawOk _ = true)); kernel_rfl) | (repeat (first | exact hle | refine Hp.le_upd ?_ (fN _ _ _ _))))
      · have hA : shrtA e.kind e.id (e.kids.map E.unf) = .raw .nilIface := by
          simp only [beq_eq_false_iff_ne] at h8 h9 h10'
          simp [shrtA, h8, h9, h10']
        have hO : shrtOk e.kind (e.kids.map E.unf) := by
          simp only [beq_eq_false_iff_ne] at h8 h9 h10'
          exact ⟨fun h => by omega, fun h => by omega⟩
        rw [shrt_no h8 h9 h10'] at hu
        simp (config := {contextual := true, maxSteps := 5000000}) only [go_sem, false_and, Nat.reduceAdd, Nat.reduceLT, Nat.reduceBEq, Nat.reduceSub, Nat.reduceMul, Nat.reduceLeDiff, Int.reduceToNat, Nat.reduceEqDiff, Nat.reduceMod, specUf, specNx, h1, h2, h3, h10, h11, h12, hl, hd, hA, hO, hR, someA, dLE_at]
        rw [hu]
        exact ⟨WeakL.agg ⟨_, _, rfl, Weak.refl _, _, _, rfl, Weak.refl _, _, _, rfl, list_weak, rfl⟩, by (repeat (first | exact hle | refine Hp.le_upd ?_ (fN _ _ _ _)))⟩
theorem specUf_ok : ∀ N, SpecOk Tryz.prog w0 (specUf N)
  | 0 => specNx_ok.add (sp1_ok fun e h => by omega)
  | N + 1 => specNx_ok.add (sp1_ok fun e h k H => unfold_step N (specUf_ok N) e h.1 h.2)
theorem unfold_call (e : E) (hs : e.sh = true) : CallAt Tryz.prog w0 k 61 [e.av] H H e.unf.av := unfold_step e.sz (specUf_ok _) e hs (Nat.lt_succ_self _)
end Go.Proofs.YtkdendaohlnlcaaGreatDoor.Av

/- The grammar read back: the tokens of an expression's text, and what both formula readers make of them. Plain. No condition. -/
namespace Go.Proofs.YtkdendaohlnlcaaGreatDoor.Av
set_option linter.unusedVariables false
set_option linter.unusedSimpArgs false
set_option maxRecDepth 4000
set_option maxHeartbeats 1000000
/-- Tokens behind an opening bracket. -/
def sigA : List (List (Int × Int)) → List (Int × Int)
  | [] => []
  | [x] => x ++ [(4, 41)]
  | x :: y :: r => x ++ (4, 44) :: sigA (y :: r)
def sigK (k i : Int) (ts : List (List (Int × Int))) : List (Int × Int) :=
  if k = 1 then [(1, i)] else if k = 2 ∨ k = 3 then (k, i) :: (match ts with
    | [] => []
    | x :: r => (4, 40) :: sigA (x :: r))
  else if k = 4 then ts.getD 0 [] ++ (4, 61) :: ts.getD 1 [] else if k = 5 then (4, 33) :: ts.getD 0 []
  else if k = 7 ∨ k = 10 then (4, if k = 10 then 63 else 64) :: (1, i) :: ts.getD 0 []
  else (4, 40) :: (ts.getD 0 [] ++ (4, if k = 8 then 38 else if k = 9 then 124 else 62) :: (ts.getD 1 [] ++ [(4, 41)]))
mutual
def E.sig : E → List (Int × Int)
  | .mk k i ks => sigK k i (E.sigL ks)
def E.sigL : List E → List (List (Int × Int))
  | [] => []
  | e :: es => e.sig :: E.sigL es
end
theorem E.sigL_eq : ∀ l : List E, E.sigL l = l.map E.sig
  | [] => rfl
  | e :: es => by simp [E.sigL, E.sigL_eq es]
theorem E.sig_mk (k i : Int) (ks : List E) : (E.mk k i ks).sig = sigK k i (ks.map E.sig) := by simp only [E.sig, E.sigL_eq]
/-- From a place on, tokens are of these kinds and numbers. -/
def Seg (l : List Tk) : Nat → List (Int × Int) → Prop
  | _, [] => True
  | p, x :: r => (∃ t, l[p]? = some t ∧ t.kind = x.1 ∧ t.n = x.2) ∧ Seg l (p + 1) r
theorem Seg.app {l : List Tk} : ∀ {a b : List (Int × Int)} {p : Nat}, Seg l p (a ++ b) ↔ Seg l p a ∧ Seg l (p + a.length) b
  | [], b, p => by simp [Seg]
  | x :: a, b, p => by
    simp only [List.cons_append, Seg, Seg.app (a := a), List.length_cons, and_assoc]
    rw [show p + 1 + a.length = p + (a.length + 1) by omega]
theorem Seg.le {l : List Tk} : ∀ {a : List (Int × Int)} {p : Nat}, Seg l p a → p ≤ l.length → p + a.length ≤ l.length
  | [], p, _, h => by simpa using h
  | x :: a, p, h, hp => by
    obtain ⟨⟨t, h1, _⟩, h2⟩ := h
    have := (List.getElem?_eq_some_iff.1 h1).1
    have := Seg.le h2 (by omega)
    simp only [List.length_cons]
    omega
theorem Seg.kAt {l : List Tk} {p : Nat} {x : Int × Int} {r : List (Int × Int)} (h : Seg l p (x :: r)) : kAt l p = x.1 := by
  obtain ⟨⟨t, h1, h2, h3⟩, _⟩ := h
  simp [Av.kAt, h1, h2]
theorem Seg.nAt {l : List Tk} {p : Nat} {x : Int × Int} {r : List (Int × Int)} (h : Seg l p (x :: r)) : nAt l p = x.2 := by
  obtain ⟨⟨t, h1, h2, h3⟩, _⟩ := h
  simp [Av.nAt, h1, h3]
theorem Seg.sgn {l : List Tk} {p : Nat} {x : Int × Int} {r : List (Int × Int)} (h : Seg l p (x :: r)) (c : Int) : sgn l p c = (x.1 == 4 && x.2 == c) := by
  obtain ⟨⟨t, h1, h2, h3⟩, _⟩ := h
  simp [Av.sgn, h1, h2, h3]
theorem E.kid_term {e : E} (h : e.sh = true) : (e.kind = 2 ∨ e.kind = 3 ∨ e.kind = 4 → ∀ x ∈ e.kids, x.term = true) ∧ (e.kind = 5 ∨ e.kind = 6 ∨ e.kind = 7 ∨ e.kind = 8 ∨ e.kind = 9 ∨ e.kind = 10 → ∀ x ∈ e.kids, x.term = false) := by
  rw [E.sh_eq, Bool.and_eq_true] at h
  have h1 := h.1
  unfold E.loc E.want at h1
  constructor
  · intro hk x hx
    rcases hk with hk | hk | hk <;> simp [hk] at h1 <;> exact h1.2 x hx
  · intro hk x hx
    rcases hk with hk | hk | hk | hk | hk | hk <;> simp [hk] at h1 <;> exact h1.2 x hx
theorem E.sh_id0 {e : E} (h : e.sh = true) (hk : e.kind = 4 ∨ e.kind = 5 ∨ e.kind = 6 ∨ e.kind = 8 ∨ e.kind = 9) : e.id = 0 := by
  rw [E.sh_eq, Bool.and_eq_true] at h
  have h1 := h.1
  unfold E.loc E.want at h1
  rcases hk with hk | hk | hk | hk | hk <;> simp [hk] at h1 <;> omega
theorem argL_rt {l : List Tk} {T : Nat → Got} {kd id : Int} : ∀ (ks acc : List E) (c p : Nat), ks ≠ [] → ks.length ≤ c → Seg l p (sigA (ks.map E.sig)) →
    (∀ x ∈ ks, ∀ q, Seg l q x.sig → sgn l (q + x.sig.length) 40 = false → T q = .ok x (q + x.sig.length)) → argL l T kd id c acc p = .ok (.mk kd id (acc ++ ks)) (p + (sigA (ks.map E.sig)).length)
  | [], _, _, _, h, _, _, _ => absurd rfl h
  | [x], acc, 0, p, _, h, _, _ => by simp at h
  | [x], acc, c + 1, p, _, _, hs, hT => by
    simp only [List.map_cons, List.map_nil, sigA] at hs ⊢
    obtain ⟨s1, s2⟩ := Seg.app.1 hs
    have h41 := s2.sgn 41
    have h40 := s2.sgn 40
    rw [argL, hT x (by simp) p s1 (by rw [h40]; rfl)]
    simp only [h41]
    simp
    omega
  | x :: y :: r, acc, 0, p, _, h, _, _ => by simp at h
  | x :: y :: r, acc, c + 1, p, _, hc, hs, hT => by
    simp only [List.map_cons, sigA] at hs ⊢
    obtain ⟨s1, s2⟩ := Seg.app.1 hs
    have h41 := s2.sgn 41
    have h40 := s2.sgn 40
    have h44 := s2.sgn 44
    simp only [List.length_cons] at hc
    have ih := argL_rt (l := l) (T := T) (kd := kd) (id := id) (y :: r) (acc ++ [x]) c (p + x.sig.length + 1) (by simp) (by simp; omega) s2.2 (fun z hz => hT z (by simp [hz]))
    rw [argL, hT x (by simp) p s1 (by rw [h40]; rfl)]
    simp only [h41, h44]
    rw [if_neg (by decide), if_neg (by simp; omega), ih]
    simp only [List.append_assoc, List.singleton_append, List.map_cons, List.length_append, List.length_cons, Got.ok.injEq, true_and]
    omega
theorem sigA_mem : ∀ {ts : List (List (Int × Int))} {x : List (Int × Int)}, x ∈ ts → x.length < (sigA ts).length
  | [], x, h => by simp at h
  | [y], x, h => by
    simp at h
    subst h
    simp [sigA]
  | y :: z :: r, x, h => by
    simp only [sigA, List.length_append, List.length_cons]
    rcases List.mem_cons.1 h with rfl | h
    · omega
    · have := sigA_mem h
      omega
theorem tm_rt (l : List Tk) : ∀ (m : Nat) (e : E) (p : Nat), e.sh = true → e.term = true → e.sig.length ≤ m → Seg l p e.sig → sgn l (p + e.sig.length) 40 = false → tmF l m p = .ok e (p + e.sig.length)
  | 0, .mk k i ks, p, hs, ht, hm, _, _ => by
    simp only [E.term, E.kind, Bool.or_eq_true, beq_iff_eq] at ht
    rw [E.sig_mk] at hm
    rcases ht with rfl | rfl <;> simp [sigK] at hm
  | m + 1, .mk k i ks, p, hs, ht, hm, hg, hn => by
    have hk := E.sh_kind hs
    simp only [E.term, E.kind, E.kids, Bool.or_eq_true, beq_iff_eq] at ht hk
    obtain ⟨_, _, _, hsh, hl4, _, _, h1⟩ := hk
    rcases ht with rfl | rfl
    · obtain rfl : ks = [] := List.length_eq_zero_iff.1 (h1 rfl)
      simp only [E.sig_mk, sigK, if_true, List.map_nil] at hg ⊢
      rw [tmF, hg.kAt, if_pos rfl, hg.nAt]
      rfl
    · simp only [E.sig_mk, sigK, List.map_nil] at hg hm hn ⊢
      rw [if_neg (by decide), if_pos (.inl trivial)] at hg hm hn ⊢
      have hkt : ∀ x ∈ ks, x.term = true := (E.kid_term hs).1 (.inl rfl)
      rw [tmF, hg.kAt, if_neg (by simp), if_pos rfl, hg.nAt]
      cases ks with
      | nil =>
        simp only [List.map_nil] at hn ⊢
        rw [argG, if_neg (by simpa using hn)]
        rfl
      | cons x r =>
        simp only [List.map_cons, List.length_cons] at hg hm ⊢
        have h40 := hg.2.sgn 40
        rw [argG, if_pos (by rw [h40]; rfl), argL_rt (x :: r) [] 4 (p + 1 + 1) (by simp) hl4 hg.2.2 (fun y hy q hq hq2 => tm_rt l m y q (hsh y hy) (hkt y hy) (by
          have := sigA_mem (List.mem_map_of_mem (f := E.sig) hy)
          simp only [List.map_cons] at this
          omega) hq hq2)]
        simp only [List.nil_append, List.map_cons, Got.ok.injEq, true_and]
        omega
theorem term_head {e : E} (h : e.term = true) : ∃ k i r, e.sig = (k, i) :: r ∧ (k = 1 ∨ k = 2) := by
  obtain ⟨k, i, ks⟩ := e
  simp only [E.term, E.kind, Bool.or_eq_true, beq_iff_eq] at h
  rw [E.sig_mk]
  rcases h with rfl | rfl
  · exact ⟨1, i, [], rfl, .inl rfl⟩
  · exact ⟨2, i, _, rfl, .inr rfl⟩
theorem list_one {α : Type} {l : List α} (h : l.length = 1) : ∃ a, l = [a] := List.length_eq_one_iff.1 h
theorem list_two {α : Type} {l : List α} (h : l.length = 2) : ∃ a b, l = [a, b] := by
  match l, h with
  | [a, b], _ => exact ⟨a, b, rfl⟩
theorem fm_rt (l : List Tk) : ∀ (m : Nat) (e : E) (p : Nat), p ≤ l.length → e.sh = true → e.term = false → e.sig.length ≤ m → Seg l p e.sig → sgn l (p + e.sig.length) 40 = false → fmF l m p = .ok e (p + e.sig.length)
  | 0, .mk k i ks, p, hpl, hs, ht, hm, _, _ => by
    rw [E.sig_mk] at hm
    unfold sigK at hm
    (repeat' split at hm) <;> simp at hm
  | m + 1, .mk k i ks, p, hpl, hs, ht, hm, hg, hn => by
    have hk := E.sh_kind hs
    have hkt := E.kid_term hs
    have hgl := hg.le hpl
    simp only [E.kind, E.kids, E.id] at hk
    have ht2 : k ≠ 1 ∧ k ≠ 2 := by simpa [E.term, E.kind] using ht
    obtain ⟨hk0, _, _, hsh, hl4, h2, h1, _⟩ := hk
    have c : k = 3 ∨ k = 4 ∨ k = 5 ∨ (k = 7 ∨ k = 10) ∨ (k = 6 ∨ k = 8 ∨ k = 9) := by omega
    rw [E.sig_mk] at hg hm hn hgl ⊢
    rcases c with rfl | rfl | rfl | c | c
    · have hkt : ∀ x ∈ ks, x.term = true := hkt.1 (.inr (.inl rfl))
      simp only [sigK] at hg hm hn hgl ⊢
      rw [if_neg (by decide), if_pos (.inr trivial)] at hg hm hn hgl ⊢
      rw [fmF, hg.sgn 33, hg.sgn 64, hg.sgn 63, hg.sgn 40, hg.kAt, hg.nAt, if_neg (by simp), if_neg (by simp), if_neg (by simp), if_neg (by simp), if_pos rfl]
      cases ks with
      | nil =>
        simp only [List.map_nil] at hn ⊢
        rw [argG, if_neg (by simpa using hn)]
        rfl
      | cons x r =>
        simp only [List.map_cons, List.length_cons] at hg hm hgl ⊢
        have h40 := hg.2.sgn 40
        rw [argG, if_pos (by rw [h40]; rfl), argL_rt (T := tmL l) (x :: r) [] 4 (p + 1 + 1) (by simp) hl4 hg.2.2 (fun y hy q hq hq2 => tm_rt l (l.length + 1) y q (hsh y hy) (hkt y hy) (by
          have := sigA_mem (List.mem_map_of_mem (f := E.sig) hy)
          simp only [List.map_cons] at this
          omega) hq hq2)]
        simp only [List.nil_append, List.map_cons, Got.ok.injEq, true_and]
        omega
    · obtain ⟨a, b, rfl⟩ := list_two (h2 (.inl rfl))
      have hkt : ∀ x ∈ [a, b], x.term = true := hkt.1 (.inr (.inr rfl))
      have e0 : sigK 4 i ([a, b].map E.sig) = a.sig ++ (4, 61) :: b.sig := rfl
      rw [e0] at hg hm hn hgl ⊢
      obtain ⟨ka, ia, ra, ea, hka⟩ := term_head (hkt a (by simp))
      obtain ⟨s1, s2⟩ := Seg.app.1 hg
      have s1' := s1
      rw [ea] at s1'
      have h61 := s2.sgn 61
      have h40 := s2.sgn 40
      simp only [List.length_append, List.length_cons] at hm hn hgl ⊢
      have n4 : ∀ c, sgn l p c = false := fun c => by
        rw [s1'.sgn c]
        rcases hka with rfl | rfl <;> simp
      have n3 : kAt l p ≠ 3 := by
        rw [s1'.kAt]
        rcases hka with rfl | rfl <;> simp
      have hnb : sgn l (p + a.sig.length + 1 + b.sig.length) 40 = false := by
        rw [show p + a.sig.length + 1 + b.sig.length = p + (a.sig.length + (b.sig.length + 1)) by omega]
        exact hn
      have hi0 : i = 0 := E.sh_id0 hs (.inl rfl)
      rw [fmF, if_neg (by simp [n4]), if_neg (by simp [n4]), if_neg (by simp [n4]), if_neg (by simp [n4]), if_neg n3, fE, tmL, tm_rt l (l.length + 1) a p (hsh a (by simp)) (hkt a (by simp)) (by omega) s1 (by rw [h40]; rfl)]
      simp only [h61]
      rw [if_pos (by decide), tm_rt l (l.length + 1) b (p + a.sig.length + 1) (hsh b (by simp)) (hkt b (by simp)) (by omega) s2.2 hnb, hi0]
      simp only [Got.ok.injEq, true_and]
      omega
    · obtain ⟨a, rfl⟩ := list_one (h1 (.inl rfl))
      have e0 : sigK 5 i ([a].map E.sig) = (4, 33) :: a.sig := rfl
      rw [e0] at hg hm hn hgl ⊢
      simp only [List.length_cons] at hm hn hgl ⊢
      have hi0 : i = 0 := E.sh_id0 hs (.inr (.inl rfl))
      have hta : a.term = false := hkt.2 (.inl rfl) a (by simp [E.kids])
      rw [fmF, hg.sgn 33, if_pos (by decide), fm_rt l m a (p + 1) (by omega) (hsh a (by simp)) hta (by omega) hg.2 (by rw [show p + 1 + a.sig.length = p + (a.sig.length + 1) by omega]; exact hn), hi0]
      simp only [Got.ok.injEq, true_and]
      omega
    · obtain ⟨a, rfl⟩ := list_one (h1 (.inr c))
      have hta : a.term = false := hkt.2 (by rcases c with rfl | rfl <;> simp [E.kind]) a (by simp [E.kids])
      have e0 : sigK k i ([a].map E.sig) = (4, if k = 10 then 63 else 64) :: (1, i) :: a.sig := by rcases c with rfl | rfl <;> rfl
      rw [e0] at hg hm hn hgl ⊢
      simp only [List.length_cons] at hm hn hgl ⊢
      have ih := fm_rt l m a (p + 1 + 1) (by omega) (hsh a (by simp)) hta (by omega) hg.2.2 (by rw [show p + 1 + 1 + a.sig.length = p + (a.sig.length + 1 + 1) by omega]; exact hn)
      have hq : ∀ kd, fQ l (fmF l m) kd (p + 1) = .ok (.mk kd i [a]) (p + 1 + 1 + a.sig.length) := fun kd => by
        rw [fQ, Seg.kAt hg.2, if_pos rfl, ih, Seg.nAt hg.2]
      rw [fmF, hg.sgn 33, hg.sgn 64, hg.sgn 63]
      rcases c with rfl | rfl
      · rw [if_neg (by simp), if_pos (by simp), hq]
        simp only [Got.ok.injEq, true_and]
        omega
      · rw [if_neg (by simp), if_neg (by simp), if_pos (by simp), hq]
        simp only [Got.ok.injEq, true_and]
        omega
    · obtain ⟨a, b, rfl⟩ := list_two (h2 (by omega))
      have hi0 : i = 0 := E.sh_id0 hs (by simp only [E.kind]; omega)
      have hta : ∀ x ∈ [a, b], x.term = false := hkt.2 (by simp only [E.kind]; omega)
      have e0 : sigK k i ([a, b].map E.sig) = (4, 40) :: (a.sig ++ (4, if k = 8 then 38 else if k = 9 then 124 else 62) :: (b.sig ++ [(4, 41)])) := by rcases c with rfl | rfl | rfl <;> rfl
      rw [e0] at hg hm hn hgl ⊢
      simp only [List.length_append, List.length_cons, List.length_nil] at hm hn hgl ⊢
      obtain ⟨s1, s2⟩ := Seg.app.1 hg.2
      obtain ⟨s3, s4⟩ := Seg.app.1 s2.2
      have hj : jnt l (p + 1 + a.sig.length) = k := by
        rw [jnt, s2.sgn 62, s2.sgn 38, s2.sgn 124]
        rcases c with rfl | rfl | rfl <;> rfl
      have h40 : sgn l (p + 1 + a.sig.length) 40 = false := by
        rw [s2.sgn 40]
        rcases c with rfl | rfl | rfl <;> rfl
      have h41 := s4.sgn 41
      have h40b := s4.sgn 40
      rw [fmF, hg.sgn 33, hg.sgn 64, hg.sgn 63, hg.sgn 40, if_neg (by simp), if_neg (by simp), if_neg (by simp), if_pos (by simp), fP, fm_rt l m a (p + 1) (by omega) (hsh a (by simp)) (hta a (by simp)) (by omega) s1 h40]
      simp only [hj]
      rw [if_neg (by omega), fm_rt l m b (p + 1 + a.sig.length + 1) (by omega) (hsh b (by simp)) (hta b (by simp)) (by omega) s3 (by rw [h40b]; rfl)]
      simp only [h41]
      rw [if_pos (by decide), hi0]
      simp only [Got.ok.injEq, true_and]
      omega
end Go.Proofs.YtkdendaohlnlcaaGreatDoor.Av

/- What the functions of the reference of layer 9 answer. No condition. -/
namespace Go.Proofs.YtkdendaohlnlcaaGreatDoor.Av
set_option linter.unusedVariables false
set_option linter.unusedSimpArgs false
set_option maxRecDepth 4000
set_option maxHeartbeats 1000000
variable {w0 : Base} {k : List Nat} {H : Hp}
def small (c : Int) : Bool := decide (97 ≤ c) && decide (c ≤ 122)
def digit (c : Int) : Bool := decide (48 ≤ c) && decide (c ≤ 57)
def number (c : Int) : Bool := decide (0 ≤ c) && decide (c ≤ 999999999)
theorem small_call (c : Int) : CallAt Tryz.prog w0 k 91 [.int .u8 c] H H (.bool (small c)) := by
  refine callAt tabOk Spec.no_ok mixed Tryz.func91 rfl rfl Tryz.results91 Tryz.ntmps91 (by simp) [] ?_
  intro hfr t hl ht
  simp only [At, Nat.reduceAdd, List.cons_append, List.nil_append] at ht
  simp (config := {contextual := true, maxSteps := 5000000}) only [go_sem, false_and, Nat.reduceAdd, Nat.reduceLT, Nat.reduceBEq, Nat.reduceSub, Nat.reduceMul, Nat.reduceLeDiff, Int.reduceToNat, Nat.reduceEqDiff, Nat.reduceMod, ht, hl]
  simp +contextual [small] <;> omega
theorem digit_call (c : Int) : CallAt Tryz.prog w0 k 92 [.int .u8 c] H H (.bool (digit c)) := by
  refine callAt tabOk Spec.no_ok mixed Tryz.func92 rfl rfl Tryz.results92 Tryz.ntmps92 (by simp) [] ?_
  intro hfr t hl ht
  simp only [At, Nat.reduceAdd, List.cons_append, List.nil_append] at ht
  simp (config := {contextual := true, maxSteps := 5000000}) only [go_sem, false_and, Nat.reduceAdd, Nat.reduceLT, Nat.reduceBEq, Nat.reduceSub, Nat.reduceMul, Nat.reduceLeDiff, Int.reduceToNat, Nat.reduceEqDiff, Nat.reduceMod, ht, hl]
  simp +contextual [digit] <;> omega
theorem number09_call (c : Int) : CallAt Tryz.prog w0 k 100 [.int .i64 c] H H (.bool (number c)) := by
  refine callAt tabOk Spec.no_ok mixed Tryz.func100 rfl rfl Tryz.results100 Tryz.ntmps100 (by simp) [] ?_
  intro hfr t hl ht
  simp only [At, Nat.reduceAdd, List.cons_append, List.nil_append] at ht
  simp (config := {contextual := true, maxSteps := 5000000}) only [go_sem, false_and, Nat.reduceAdd, Nat.reduceLT, Nat.reduceBEq, Nat.reduceSub, Nat.reduceMul, Nat.reduceLeDiff, Int.reduceToNat, Nat.reduceEqDiff, Nat.reduceMod, ht, hl]
  simp +contextual [number] <;> omega
def specN : Spec := (Spec.no.add 91 (sp1 dC (fun _ => True) fun c => .bool (small c))).add 92 (sp1 dC (fun _ => True) fun c => .bool (digit c))
theorem specN_ok : SpecOk Tryz.prog w0 specN := (Spec.no_ok.add (sp1_ok fun c _ k H => small_call c)).add (sp1_ok fun c _ k H => digit_call c)
def okc (c : Int) : Bool := small c || digit c || c == 45
def isName (s : ByteArray) : Bool := decide (1 ≤ s.size ∧ s.size ≤ 12 ∧ small (byteAt s 0) = true ∧ ∀ i, i < s.size → okc (byteAt s i) = true)
theorem name09_call (s : ByteArray) : CallAt Tryz.prog w0 k 59 [.str s] H H (.bool (isName s)) := by
  refine callAt tabOk specN_ok mixed Tryz.func59 rfl rfl Tryz.results59 Tryz.ntmps59 (by simp) [] ?_
  intro hfr t hl ht
  simp only [At, Nat.reduceAdd, List.cons_append, List.nil_append] at ht
  simp (config := {contextual := true, maxSteps := 5000000}) only [go_sem, false_and, Nat.reduceAdd, Nat.reduceLT, Nat.reduceBEq, Nat.reduceSub, Nat.reduceMul, Nat.reduceLeDiff, Int.reduceToNat, Nat.reduceEqDiff, Nat.reduceMod, ht, hl, specN]
  refine ⟨fun h1 => ⟨fun h2 => ⟨by simp at h1; omega, fun h3 => ?_, fun h3 => ?_⟩, fun h2 => ?_⟩, fun h1 => ?_⟩
  · simp at h1 h2 h3
    simp [isName, h3]
  · simp at h1 h2 h3
    refine loop_inv tabOk specN_ok mixed [] (fun j x => ∃ i : Nat, x.tmps.length = 42 ∧ x.tmps.getD 0 AV.undef = .str s ∧ x.tmps.getD 3 AV.undef = .int .i64 i ∧ x.H = H ∧ i + j = s.size ∧ ∀ i', i' < i → okc (byteAt s i') = true) s.size ⟨0, ?_⟩ ?_
    · simp (config := {contextual := true, maxSteps := 5000000}) only [go_sem, false_and, Nat.reduceAdd, Nat.reduceLT, Nat.reduceBEq, Nat.reduceSub, Nat.reduceMul, Nat.reduceLeDiff, Int.reduceToNat, Nat.reduceEqDiff, Nat.reduceMod, ht, hl]
      simp
    · rintro j ⟨t, m, H'⟩ ⟨i, hl, h0, h3', rfl, hij, hall⟩
      simp only at hl h0 h3'
      by_cases hi : i < s.size
      · have hd : decide ((i : Int) < (s.size : Int)) = true := by simp [hi]
        have hw : IntKind.i64.wrap ((i : Int) + 1) = ((i + 1 : Nat) : Int) := by rw [wrap_i64] <;> omega
        simp (config := {contextual := true, maxSteps := 5000000}) only [go_sem, false_and, Nat.reduceAdd, Nat.reduceLT, Nat.reduceBEq, Nat.reduceSub, Nat.reduceMul, Nat.reduceLeDiff, Int.reduceToNat, Nat.reduceEqDiff, Nat.reduceMod, h0, h3', hl, hd, hw, specN]
        have nx : okc (byteAt s i) = true → ∃ j', j = j' + 1 ∧ ∃ i_1 : Nat, ((i + 1 : Nat) : Int) = (i_1 : Int) ∧ i_1 + j' = s.size ∧ ∀ i', i' < i_1 → okc (byteAt s i') = true :=
          fun h => ⟨j - 1, by omega, i + 1, rfl, by omega, fun i' h' => by
            by_cases e : i' = i
            · rw [e]; exact h
            · exact hall i' (by omega)⟩
        have no : okc (byteAt s i) = false → false = isName s := fun h => by
          symm
          simp only [isName, decide_eq_false_iff_not]
          intro hh
          rw [hh.2.2.2 i hi] at h
          cases h
        have b : 0 ≤ (i : Int) ∧ (i : Int) < s.size := by omega
        generalize (∃ j', j = j' + 1 ∧ ∃ i_1 : Nat, ((i + 1 : Nat) : Int) = (i_1 : Int) ∧ i_1 + j' = s.size ∧ ∀ i', i' < i_1 → okc (byteAt s i') = true) = NX at nx ⊢
        have ok : okc (byteAt s i) = (small (byteAt s i) || digit (byteAt s i) || byteAt s i == 45) := rfl
        rw [ok] at nx no
        revert nx no
        cases small (byteAt s i) <;> cases digit (byteAt s i) <;> cases hc : (byteAt s i == 45) <;> simp_all
      · have hd : decide ((i : Int) < (s.size : Int)) = false := by simp; omega
        simp (config := {contextual := true, maxSteps := 5000000}) only [go_sem, false_and, Nat.reduceAdd, Nat.reduceLT, Nat.reduceBEq, Nat.reduceSub, Nat.reduceMul, Nat.reduceLeDiff, Int.reduceToNat, Nat.reduceEqDiff, Nat.reduceMod, h0, h3', hl, hd]
        symm
        simp only [isName, decide_eq_true_eq]
        exact ⟨by omega, by omega, h3, fun i' h' => hall i' (by omega)⟩
  · simp at h2
    simp [isName]
    omega
  · simp at h1
    simp [isName]
    omega

theorem wantF_call (e : E) (hok : e.ok) : CallAt Tryz.prog w0 k 87 [e.av] H H (.int .i64 e.wantF) := by
  have hS : SpecOk Tryz.prog w0 (spec02b.add 62 (sp1 dE (fun e => e.ok) fun e => .int .i64 e.right)) := spec02b_ok.add (sp1_ok fun e h k H => right02_call e h)
  refine callAt tabOk hS mixed Tryz.func87 rfl rfl Tryz.results87 Tryz.ntmps87 (by simp) [] ?_
  intro hfr t hl ht
  simp only [At, Nat.reduceAdd, List.cons_append, List.nil_append] at ht
  simp (config := {contextual := true, maxSteps := 5000000}) only [go_sem, false_and, Nat.reduceAdd, Nat.reduceLT, Nat.reduceBEq, Nat.reduceSub, Nat.reduceMul, Nat.reduceLeDiff, Int.reduceToNat, Nat.reduceEqDiff, Nat.reduceMod, ht, hl, spec02b]
  unfold E.wantF
  (repeat' (first | apply And.intro | intro _)) <;> simp_all
def specW : Spec := spec02b.add 87 (sp1 dE (fun e => e.ok) fun e => .int .i64 e.wantF)
theorem specW_ok : SpecOk Tryz.prog w0 specW := spec02b_ok.add (sp1_ok fun e h k H => wantF_call e h)
theorem written09_call (e : E) (hok : e.ok) : CallAt Tryz.prog w0 k 56 [e.av] H H (.int .i64 e.written) := by
  refine callAt tabOk specW_ok mixed Tryz.func56 rfl rfl Tryz.results56 Tryz.ntmps56 (by simp) [] ?_
  intro hfr t hl ht
  simp only [At, Nat.reduceAdd, List.cons_append, List.nil_append] at ht
  simp (config := {contextual := true, maxSteps := 5000000}) only [go_sem, false_and, Nat.reduceAdd, Nat.reduceLT, Nat.reduceBEq, Nat.reduceSub, Nat.reduceMul, Nat.reduceLeDiff, Int.reduceToNat, Nat.reduceEqDiff, Nat.reduceMod, ht, hl, specW, spec02b]
  unfold E.written
  (repeat' (first | apply And.intro | intro _)) <;> simp_all <;> omega
end Go.Proofs.YtkdendaohlnlcaaGreatDoor.Av

/- What the functions of the reference of layer 9 answer: steps, names, units. No condition. -/
namespace Go.Proofs.YtkdendaohlnlcaaGreatDoor.Av
set_option linter.unusedVariables false
set_option linter.unusedSimpArgs false
set_option maxRecDepth 4000
set_option maxHeartbeats 1000000
variable {w0 : Base} {k : List Nat} {H : Hp}
def e0 (s : ByteArray) : Bool := s.toList == (⟨#[]⟩ : ByteArray).toList
def Step.fine (s : Step) : Bool :=
  if s.by_ = 1 then number s.a && (s.b == 0 && e0 s.cite) else if s.by_ = 2 then number s.a && (number s.b && e0 s.cite)
  else if s.by_ = 3 then number s.a && (decide (0 ≤ s.b) && (decide (s.b ≤ 63) && e0 s.cite)) else if s.by_ = 4 then s.a == 0 && s.b == 0 else false
def Step.why (s : Step) : Int := if s.fine then (if s.by_ = 4 ∧ isName s.cite = false then 91 else 0) else 90
def specR : Spec := (Spec.no.add 100 (sp1 dI (fun _ => True) fun c => .bool (number c))).add 59 (sp1 dS (fun _ => True) fun c => .bool (isName c))
theorem specR_ok : SpecOk Tryz.prog w0 specR := (Spec.no_ok.add (sp1_ok fun c _ k H => number09_call c)).add (sp1_ok fun c _ k H => name09_call c)
theorem reason09_call (s : Step) : CallAt Tryz.prog w0 k 65 [(dA cStep).enc s] H H (.int .i64 s.why) := by
  refine callAt tabOk specR_ok mixed Tryz.func65 rfl rfl Tryz.results65 Tryz.ntmps65 (by simp) [] ?_
  intro hfr t hl ht
  simp only [At, dA, cStep, Step.cells] at ht
  have hc : (s.by_ = 1 ∨ s.by_ = 2 ∨ s.by_ = 3 ∨ s.by_ = 4) ∨ (s.by_ == 1) = false ∧ (s.by_ == 2) = false ∧ (s.by_ == 3) = false ∧ (s.by_ == 4) = false := by
    simp only [beq_eq_false_iff_ne]
    omega
  unfold Step.why Step.fine
  rcases hc with (hb | hb | hb | hb) | ⟨b1, b2, b3, b4⟩
  · simp (config := {contextual := true, maxSteps := 5000000}) only [go_sem, false_and, Nat.reduceAdd, Nat.reduceLT, Nat.reduceBEq, Nat.reduceSub, Nat.reduceMul, Nat.reduceLeDiff, Int.reduceToNat, Nat.reduceEqDiff, Nat.reduceMod, ht, hl, hb, specR, Int.reduceBEq]
    (repeat' (first | apply And.intro | intro _)) <;> simp_all [e0]
  · simp (config := {contextual := true, maxSteps := 5000000}) only [go_sem, false_and, Nat.reduceAdd, Nat.reduceLT, Nat.reduceBEq, Nat.reduceSub, Nat.reduceMul, Nat.reduceLeDiff, Int.reduceToNat, Nat.reduceEqDiff, Nat.reduceMod, ht, hl, hb, specR, Int.reduceBEq]
    (repeat' (first | apply And.intro | intro _)) <;> simp_all [e0]
  · simp (config := {contextual := true, maxSteps := 5000000}) only [go_sem, false_and, Nat.reduceAdd, Nat.reduceLT, Nat.reduceBEq, Nat.reduceSub, Nat.reduceMul, Nat.reduceLeDiff, Int.reduceToNat, Nat.reduceEqDiff, Nat.reduceMod, ht, hl, hb, specR, Int.reduceBEq]
    (repeat' (first | apply And.intro | intro _)) <;> simp_all [e0]
  · simp (config := {contextual := true, maxSteps := 5000000}) only [go_sem, false_and, Nat.reduceAdd, Nat.reduceLT, Nat.reduceBEq, Nat.reduceSub, Nat.reduceMul, Nat.reduceLeDiff, Int.reduceToNat, Nat.reduceEqDiff, Nat.reduceMod, ht, hl, hb, specR, Int.reduceBEq]
    (repeat' (first | apply And.intro | intro _)) <;> simp_all [e0]
  · simp (config := {contextual := true, maxSteps := 5000000}) only [go_sem, false_and, Nat.reduceAdd, Nat.reduceLT, Nat.reduceBEq, Nat.reduceSub, Nat.reduceMul, Nat.reduceLeDiff, Int.reduceToNat, Nat.reduceEqDiff, Nat.reduceMod, ht, hl, b1, b2, b3, b4, specR, Int.reduceBEq]
    simp only [beq_eq_false_iff_ne] at b1 b2 b3 b4
    simp [b1, b2, b3, b4]

/-- What is wrong with names, behind those that are had. -/
def namesGo (had : List ByteArray) : List ByteArray → Int
  | [] => 0
  | s :: r => if isName s then (if had.any fun t => t.toList == s.toList then 92 else if 8 ≤ had.length then 2 else namesGo (had ++ [s]) r) else 91
theorem namesGo_at (l : List ByteArray) {i : Nat} {s : ByteArray} (h : l[i]? = some s) :
    namesGo (l.take i) (l.drop i) = if isName s then (if (l.take i).any fun t => t.toList == s.toList then 92 else if 8 ≤ i then 2 else namesGo (l.take (i + 1)) (l.drop (i + 1))) else 91 := by
  obtain ⟨hi, h'⟩ := List.getElem?_eq_some_iff.1 h
  rw [List.drop_eq_getElem_cons hi, h', namesGo, List.length_take, Nat.min_eq_left (by omega), List.take_add_one, h]
  rfl
theorem names09_call (l : List ByteArray) (hn : (l.length : Int) ≤ 9223372036854775807) : CallAt Tryz.prog w0 k 54 [(dL cS).enc l] H H (.int .i64 (namesGo [] l)) := by
  refine callAt tabOk specR_ok mixed Tryz.func54 rfl rfl Tryz.results54 Tryz.ntmps54 (by simp) [] ?_
  intro hfr t hl ht
  simp only [At, dL] at ht
  simp (config := {contextual := true, maxSteps := 5000000}) only [go_sem, false_and, Nat.reduceAdd, Nat.reduceLT, Nat.reduceBEq, Nat.reduceSub, Nat.reduceMul, Nat.reduceLeDiff, Int.reduceToNat, Nat.reduceEqDiff, Nat.reduceMod, ht, hl]
  refine loop_inv tabOk specR_ok mixed [] (fun j x => ∃ i : Nat, x.tmps.length = 30 ∧ x.tmps.getD 0 AV.undef = .list .none (l.map cS.enc) ∧ x.tmps.getD 6 AV.undef = .list .none (l.map cS.enc) ∧
    x.tmps.getD 7 AV.undef = .int .i64 l.length ∧ x.tmps.getD 8 AV.undef = .int .i64 i ∧ x.H = H ∧ i + j = l.length ∧ namesGo (l.take i) (l.drop i) = namesGo [] l) l.length ⟨0, ?_⟩ ?_
  · simp (config := {contextual := true, maxSteps := 5000000}) only [go_sem, false_and, Nat.reduceAdd, Nat.reduceLT, Nat.reduceBEq, Nat.reduceSub, Nat.reduceMul, Nat.reduceLeDiff, Int.reduceToNat, Nat.reduceEqDiff, Nat.reduceMod, ht, hl]
    simp
  · rintro j ⟨t, n, H'⟩ ⟨i, hl, h0, h6, h7, h8, rfl, hij, hgo⟩
    simp only at hl h0 h6 h7 h8
    by_cases hi : i < l.length
    · have hd : decide ((i : Int) < (l.length : Int)) = true := by simp [hi]
      have hw2 : IntKind.i64.wrap ((i : Int) + 1) = ((i + 1 : Nat) : Int) := by rw [wrap_i64] <;> omega
      obtain ⟨s, hs, he⟩ := str_get l hi
      have hat := namesGo_at l hs
      simp (config := {contextual := true, maxSteps := 5000000}) only [go_sem, false_and, Nat.reduceAdd, Nat.reduceLT, Nat.reduceBEq, Nat.reduceSub, Nat.reduceMul, Nat.reduceLeDiff, Int.reduceToNat, Nat.reduceEqDiff, Nat.reduceMod, he, specR, h0, h6, h7, h8, hl, hd, hw2]
      refine ⟨⟨by omega, by omega⟩, fun a => ?_, fun a => ?_⟩ <;> simp only [Bool.not_eq_true', Bool.not_eq_false'] at a <;> simp only [a, Bool.false_eq_true, if_false, if_true] at hat
      · rw [← hgo, hat]
      · refine loop_inv tabOk specR_ok mixed [] (fun q x => ∃ m : Nat, x.tmps.length = 30 ∧ x.tmps.getD 0 AV.undef = .list .none (l.map cS.enc) ∧ x.tmps.getD 3 AV.undef = .int .i64 i ∧ x.tmps.getD 4 AV.undef = .str s ∧ x.tmps.getD 5 AV.undef = .int .i64 m ∧ x.tmps.getD 6 AV.undef = .list .none (l.map cS.enc) ∧
          x.tmps.getD 7 AV.undef = .int .i64 l.length ∧ x.tmps.getD 8 AV.undef = .int .i64 i ∧ x.H = H' ∧ m + q = i ∧ ∀ m' y, m' < m → l[m']? = some y → (y.toList == s.toList) = false) i ⟨0, ?_⟩ ?_
        · simp (config := {contextual := true, maxSteps := 5000000}) only [go_sem, false_and, Nat.reduceAdd, Nat.reduceLT, Nat.reduceBEq, Nat.reduceSub, Nat.reduceMul, Nat.reduceLeDiff, Int.reduceToNat, Nat.reduceEqDiff, Nat.reduceMod, h0, h6, h7, h8, hl]
          simp
        · rintro q ⟨t, n, H''⟩ ⟨m, hl, h0, h3, h4, h5, h6, h7, h8, hH, hmq, hno⟩
          simp only at hl h0 h3 h4 h5 h6 h7 h8 hH
          subst hH
          by_cases hm : m < i
          · have hd : decide ((m : Int) < (i : Int)) = true := by simp [hm]
            have hw3 : IntKind.i64.wrap ((m : Int) + 1) = ((m + 1 : Nat) : Int) := by rw [wrap_i64] <;> omega
            obtain ⟨y, hy, hye⟩ := str_get l (show m < l.length by omega)
            simp (config := {contextual := true, maxSteps := 5000000}) only [go_sem, false_and, Nat.reduceAdd, Nat.reduceLT, Nat.reduceBEq, Nat.reduceSub, Nat.reduceMul, Nat.reduceLeDiff, Int.reduceToNat, Nat.reduceEqDiff, Nat.reduceMod, hye, h0, h3, h4, h5, h6, h7, h8, hl, hd, hw3]
            refine ⟨⟨by omega, by omega⟩, fun b => ?_, fun b => ⟨q - 1, by omega, m + 1, rfl, by omega, fun m' z hm' hz => ?_⟩⟩
            · have : ((l.take i).any fun t => t.toList == s.toList) = true := by
                rw [List.any_eq_true]
                exact ⟨y, List.mem_of_getElem? (by rw [List.getElem?_take_of_lt hm]; exact hy), b⟩
              rw [← hgo, hat, if_pos this]
            · by_cases e : m' = m
              · subst e
                rw [hy] at hz
                cases hz
                exact b
              · exact hno m' z (by omega) hz
          · have hd : decide ((m : Int) < (i : Int)) = false := by simp; omega
            simp (config := {contextual := true, maxSteps := 5000000}) only [go_sem, false_and, Nat.reduceAdd, Nat.reduceLT, Nat.reduceBEq, Nat.reduceSub, Nat.reduceMul, Nat.reduceLeDiff, Int.reduceToNat, Nat.reduceEqDiff, Nat.reduceMod, h0, h3, h4, h5, h6, h7, h8, hl, hd, hw2]
            have : ((l.take i).any fun t => t.toList == s.toList) = false := by
              rw [List.any_eq_false]
              intro y hy
              obtain ⟨m', hm', rfl⟩ := List.getElem_of_mem hy
              simp only [List.length_take] at hm'
              have := hno m' l[m'] (by omega) (by simp)
              simp [this]
            simp only [this, Bool.false_eq_true, if_false] at hat
            refine ⟨fun b => ?_, fun b => ⟨j - 1, by omega, i + 1, rfl, by omega, ?_⟩⟩ <;> simp only [decide_eq_true_eq, decide_eq_false_iff_not] at b
            · rw [← hgo, hat, if_pos (by omega)]
            · rw [← hgo, hat, if_neg (by omega)]
    · have hd : decide ((i : Int) < (l.length : Int)) = false := by simp; omega
      simp (config := {contextual := true, maxSteps := 5000000}) only [go_sem, false_and, Nat.reduceAdd, Nat.reduceLT, Nat.reduceBEq, Nat.reduceSub, Nat.reduceMul, Nat.reduceLeDiff, Int.reduceToNat, Nat.reduceEqDiff, Nat.reduceMod, h0, h6, h7, h8, hl, hd]
      rw [← hgo, List.drop_of_length_le (by omega)]
      rfl

def U.okS (u : U) : Prop := u.states.ok ∧ ∀ s, s ∈ u.steps → s.says.ok
/-- What is wrong with steps, behind so many. -/
def stepsGo (i : Nat) : List Step → Int
  | [] => 0
  | s :: r => if 60 ≤ i then 2 else if s.why = 0 then (if s.says.written = 0 then stepsGo (i + 1) r else s.says.written) else s.why
theorem stepsGo_at (l : List Step) {i : Nat} {s : Step} (h : l[i]? = some s) :
    stepsGo i (l.drop i) = if 60 ≤ i then 2 else if s.why = 0 then (if s.says.written = 0 then stepsGo (i + 1) (l.drop (i + 1)) else s.says.written) else s.why := by
  obtain ⟨hi, h'⟩ := List.getElem?_eq_some_iff.1 h
  rw [List.drop_eq_getElem_cons hi, h', stepsGo]
def U.right (u : U) : Int := if namesGo [] u.cites = 0 then (if u.states.written = 0 then (if u.steps.length = 0 then 90 else stepsGo 0 u.steps) else u.states.written) else namesGo [] u.cites
def U.ok (u : U) : Prop := (u.cites.length : Int) ≤ 9223372036854775807 ∧ (u.steps.length : Int) ≤ 9223372036854775807 ∧ u.okS
def specU : Spec := ((Spec.no.add 54 (sp1 (dL cS) (fun l => (l.length : Int) ≤ 9223372036854775807) fun l => .int .i64 (namesGo [] l))).add 56 (sp1 dE (fun e => e.ok) fun e => .int .i64 e.written)).add
  65 (sp1 (dA cStep) (fun _ => True) fun s => .int .i64 s.why)
theorem specU_ok : SpecOk Tryz.prog w0 specU := ((Spec.no_ok.add (sp1_ok fun l h k H => names09_call l h)).add (sp1_ok fun e h k H => written09_call e h)).add (sp1_ok fun s _ k H => reason09_call s)
theorem right09_call (u : U) (hok : u.ok) : CallAt Tryz.prog w0 k 35 [(dA cU).enc u] H H (.int .i64 u.right) := by
  refine callAt tabOk specU_ok mixed Tryz.func35 rfl rfl Tryz.results35 Tryz.ntmps35 (by simp) [] ?_
  intro hfr t hl ht
  simp only [At, dA, cU, U.cells] at ht
  simp (config := {contextual := true, maxSteps := 5000000}) only [go_sem, false_and, Nat.reduceAdd, Nat.reduceLT, Nat.reduceBEq, Nat.reduceSub, Nat.reduceMul, Nat.reduceLeDiff, Int.reduceToNat, Nat.reduceEqDiff, Nat.reduceMod, ht, hl, specU]
  obtain ⟨ok1, ok2, ok3, ok4⟩ := hok
  refine ⟨ok1, fun a => ?_, fun a => ⟨ok3, fun b => ?_, fun b => ⟨fun c => ?_, fun c => ?_⟩⟩⟩
  · simp only [bne_iff_ne, ne_eq] at a
    simp [U.right, a]
  · simp only [bne_eq_false_iff_eq, bne_iff_ne, ne_eq] at a b
    simp [U.right, a, b]
  · simp only [bne_eq_false_iff_eq, beq_iff_eq] at a b c
    have : u.steps.length = 0 := by omega
    simp [U.right, a, b, this]
  · simp only [bne_eq_false_iff_eq, beq_eq_false_iff_ne] at a b c
    have hr : u.right = stepsGo 0 u.steps := by
      have : u.steps.length ≠ 0 := by omega
      simp [U.right, a, b, this]
    refine loop_inv tabOk specU_ok mixed [] (fun j x => ∃ i : Nat, x.tmps.length = 44 ∧ x.tmps.getD 23 AV.undef = .list .none (u.steps.map cStep.enc) ∧
      x.tmps.getD 24 AV.undef = .int .i64 u.steps.length ∧ x.tmps.getD 25 AV.undef = .int .i64 i ∧ H.Le x.H ∧ i + j = u.steps.length ∧ stepsGo i (u.steps.drop i) = u.right) u.steps.length ⟨0, ?_⟩ ?_
    · simp (config := {contextual := true, maxSteps := 5000000}) only [go_sem, false_and, Nat.reduceAdd, Nat.reduceLT, Nat.reduceBEq, Nat.reduceSub, Nat.reduceMul, Nat.reduceLeDiff, Int.reduceToNat, Nat.reduceEqDiff, Nat.reduceMod, ht, hl]
      simp [hr]
    · rintro j ⟨t, n, H'⟩ ⟨i, hl, h23, h24, h25, hH, hij, hgo⟩
      simp only at hl h23 h24 h25 hH
      by_cases hi : i < u.steps.length
      · have hd : decide ((i : Int) < (u.steps.length : Int)) = true := by simp [hi]
        have hw2 : IntKind.i64.wrap ((i : Int) + 1) = ((i + 1 : Nat) : Int) := by rw [wrap_i64] <;> omega
        obtain ⟨s, hs, he⟩ := step_get u.steps hi
        have hat := stepsGo_at u.steps hs
        have hcs : s.cells = [.int .i64 s.says.kind, .int .i64 s.says.id, .list .none (s.says.kids.map E.cells), .int .i64 s.by_, .int .i64 s.a, .int .i64 s.b, .str s.cite] := rfl
        rw [hcs] at he
        simp (config := {contextual := true, maxSteps := 5000000}) only [go_sem, false_and, Nat.reduceAdd, Nat.reduceLT, Nat.reduceBEq, Nat.reduceSub, Nat.reduceMul, Nat.reduceLeDiff, Int.reduceToNat, Nat.reduceEqDiff, Nat.reduceMod, he, specU, h23, h24, h25, hl, hd, hw2]
        have hn : H ⟨7, 3 :: (n + 1) :: k, 50⟩ = none := hfr _ (sfx2 _ _ _)
        have hle : ∀ a, H.Le (H'.upd ⟨7, 3 :: (n + 1) :: k, 50⟩ a) := fun a => Hp.le_upd hH hn
        rw [← hgo, hat]
        refine ⟨⟨by omega, by omega⟩, fun a => ⟨?_, hle _⟩, fun a => ⟨fun b => ⟨?_, hle _⟩, fun b => ⟨ok4 s (List.mem_of_getElem? hs), fun c => ⟨?_, hle _⟩, fun c => ⟨j - 1, by omega, i + 1, rfl, hle _, by omega, ?_⟩⟩⟩⟩
        · simp only [decide_eq_true_eq] at a
          rw [if_pos (by omega)]
        · simp only [decide_eq_false_iff_not, bne_iff_ne, ne_eq] at a b
          rw [if_neg (by omega), if_neg b]
        · simp only [decide_eq_false_iff_not, bne_iff_ne, ne_eq, bne_eq_false_iff_eq] at a b c
          rw [if_neg (by omega), if_pos b, if_neg c]
        · simp only [decide_eq_false_iff_not, bne_eq_false_iff_eq] at a b c
          rw [if_neg (by omega), if_pos b, if_pos c]
      · have hd : decide ((i : Int) < (u.steps.length : Int)) = false := by simp; omega
        simp (config := {contextual := true, maxSteps := 5000000}) only [go_sem, false_and, Nat.reduceAdd, Nat.reduceLT, Nat.reduceBEq, Nat.reduceSub, Nat.reduceMul, Nat.reduceLeDiff, Int.reduceToNat, Nat.reduceEqDiff, Nat.reduceMod, h23, h24, h25, hl, hd]
        rw [← hgo, List.drop_of_length_le (by omega)]
        exact ⟨rfl, hH⟩
end Go.Proofs.YtkdendaohlnlcaaGreatDoor.Av

/- What the functions of the reference of layer 9 answer that cut texts. No condition. -/
namespace Go.Proofs.YtkdendaohlnlcaaGreatDoor.Av
set_option linter.unusedVariables false
set_option linter.unusedSimpArgs false
set_option maxRecDepth 4000
set_option maxHeartbeats 1000000
variable {w0 : Base} {k : List Nat} {H : Hp}
theorem cS_at (s : ByteArray) : cS.enc s = [.str s] := rfl
theorem pushS_ok {H2 : Hp} {l : List ByteArray} {tk : Tok} (hL : LstAt H 1 9 tk H2) (hll : l.length ≤ 4294967296) (x : ByteArray) : (∀ y : List AV, y = cS.enc x ∨ False → y.length = 1) ∧ (∀ y : List AV, y ∈ l.map cS.enc → y.length = 1) ∧ [cS.enc x].flatten.all oneA = true ∧ (l.length + 1) * 16 ≤ 140737488355328 ∧ l.length ≤ 4611686018427387903 ∧ tokLive H2 1 9 tk := by
  refine ⟨fun y h => ?_, fun y h => cS_each l y h, rfl, by omega, by omega, hL.live⟩
  rcases h with rfl | h
  · rfl
  · exact h.elim
theorem cutF_cons {s : ByteArray} {c : Int} {fr i : Nat} (h : i < s.size) : cutF s c (s.size - i) fr i = if byteAt s i = c then s.extract fr i :: cutF s c (s.size - (i + 1)) (i + 1) (i + 1) else cutF s c (s.size - (i + 1)) fr (i + 1) := by
  rw [show s.size - i = (s.size - (i + 1)) + 1 by omega, cutF]
theorem cut09_call (s : ByteArray) (c : Int) (hs : s.size ≤ 4000000000) : CallAt Tryz.prog w0 k 31 [.str s, .int .u8 c] H H (.list .none ((cutC s c).map cS.enc)) := by
  refine callAt tabOk Spec.no_ok mixed Tryz.func31 rfl rfl Tryz.results31 Tryz.ntmps31 (by simp) [] ?_
  intro hfr t hl ht
  simp only [At, Nat.reduceAdd, List.cons_append, List.nil_append] at ht
  simp (config := {contextual := true, maxSteps := 5000000}) only [go_sem, false_and, Nat.reduceAdd, Nat.reduceLT, Nat.reduceBEq, Nat.reduceSub, Nat.reduceMul, Nat.reduceLeDiff, Int.reduceToNat, Nat.reduceEqDiff, Nat.reduceMod, ht, hl]
  refine loop_inv tabOk Spec.no_ok mixed [] (fun j x => ∃ (i fr : Nat) (l : List ByteArray) (tk : Tok), x.tmps.length = 36 ∧ x.tmps.getD 0 AV.undef = .str s ∧ x.tmps.getD 1 AV.undef = .int .u8 c ∧ x.tmps.getD 5 AV.undef = .list tk (l.map cS.enc) ∧ x.tmps.getD 6 AV.undef = .int .i64 fr ∧ x.tmps.getD 7 AV.undef = .int .i64 i ∧
    LstAt H 1 9 tk x.H ∧ i + j = s.size ∧ fr ≤ i ∧ l.length ≤ i ∧ l ++ cutF s c (s.size - i) fr i = cutC s c) s.size ⟨0, 0, [], .full, ?_⟩ ?_
  · simp (config := {contextual := true, maxSteps := 5000000}) only [go_sem, false_and, Nat.reduceAdd, Nat.reduceLT, Nat.reduceBEq, Nat.reduceSub, Nat.reduceMul, Nat.reduceLeDiff, Int.reduceToNat, Nat.reduceEqDiff, Nat.reduceMod, ht, hl]
    exact ⟨rfl, rfl, ⟨Hp.Le.refl _, .inl (.inr rfl)⟩, by omega, rfl⟩
  · rintro j ⟨t, n, H2⟩ ⟨i, fr, l, tk, hl, h0, h1, h5, h6, h7, hL, hij, hfi, hll, hgo⟩
    simp only at hl h0 h1 h5 h6 h7 hL
    by_cases hi : i < s.size
    · have hd : decide ((i : Int) < (s.size : Int)) = true := by simp [hi]
      have hw : IntKind.i64.wrap ((i : Int) + 1) = ((i + 1 : Nat) : Int) := by rw [wrap_i64] <;> omega
      have hc := cutF_cons (c := c) (fr := fr) hi
      rw [hc] at hgo
      simp (config := {contextual := true, maxSteps := 5000000}) only [go_sem, false_and, Nat.reduceAdd, Nat.reduceLT, Nat.reduceBEq, Nat.reduceSub, Nat.reduceMul, Nat.reduceLeDiff, Int.reduceToNat, Nat.reduceEqDiff, Nat.reduceMod, h0, h1, h5, h6, h7, hl, hd, hw]
      refine ⟨⟨by omega, by omega⟩, fun a => ?_, fun a => ?_⟩ <;> simp only [beq_iff_eq, beq_eq_false_iff_ne, ne_eq] at a
      · rw [if_pos a] at hgo
        obtain ⟨q1, q2, q3, q4, q5, q6⟩ := pushS_ok (l := l) hL (by omega) (s.extract fr i)
        exact ⟨⟨by omega, by omega, by omega⟩, q1, q2, q3, q4, q5, q6, j - 1, by omega, i + 1, i + 1, l ++ [s.extract fr i], _, by rw [List.map_append]; rfl, rfl, rfl, hL.push (hfr _ (sfx2 _ _ _)), by omega, by omega, by simp; omega, by rw [← hgo]; simp⟩
      · rw [if_neg a] at hgo
        exact ⟨j - 1, by omega, i + 1, fr, l, tk, rfl, rfl, rfl, hL, by omega, by omega, by omega, hgo⟩
    · have hd : decide ((i : Int) < (s.size : Int)) = false := by simp; omega
      have hz : s.size - i = 0 := by omega
      rw [hz, cutF] at hgo
      obtain ⟨q1, q2, q3, q4, q5, q6⟩ := pushS_ok (l := l) hL (by omega) (s.extract fr s.size)
      simp (config := {contextual := true, maxSteps := 5000000}) only [go_sem, false_and, Nat.reduceAdd, Nat.reduceLT, Nat.reduceBEq, Nat.reduceSub, Nat.reduceMul, Nat.reduceLeDiff, Int.reduceToNat, Nat.reduceEqDiff, Nat.reduceMod, h0, h1, h5, h6, h7, hl, hd]
      refine ⟨⟨by omega, by omega⟩, q1, q2, q3, q4, q5, q6, ?_, (hL.push (y := cS.enc (s.extract fr s.size)) (ys := []) (hfr _ (sfx2 _ _ _))).le⟩
      rw [← hgo, List.map_append]
      exact list_weak
theorem cutF_len (s : ByteArray) (c : Int) : ∀ m fr i, 1 ≤ (cutF s c m fr i).length ∧ (cutF s c m fr i).length ≤ m + 1
  | 0, fr, i => by simp [cutF]
  | m + 1, fr, i => by
    rw [cutF]
    split
    · have := cutF_len s c m (i + 1) (i + 1)
      simp only [List.length_cons]
      omega
    · have := cutF_len s c m fr (i + 1)
      omega
theorem cutC_len (s : ByteArray) (c : Int) : 1 ≤ (cutC s c).length ∧ (cutC s c).length ≤ s.size + 1 := cutF_len s c _ _ _
/-- The lines of a text that was cut. -/
def lns (l : List ByteArray) : List ByteArray := match l[l.length - 1]? with
  | some x => if e0 x then l.take (l.length - 1) else l
  | none => l
def linesOf (s : ByteArray) : List ByteArray := lns (cutC s 10)
def specCut : Spec := Spec.no.add 31 (sp2 dS dC (fun s _ => s.size ≤ 4000000000) fun s c => .list .none ((cutC s c).map cS.enc))
theorem specCut_ok : SpecOk Tryz.prog w0 specCut := Spec.no_ok.add (sp2_ok fun s c h k H => cut09_call s c h)
theorem lines09_call (s : ByteArray) (hs : s.size ≤ 4000000000) : CallAt Tryz.prog w0 k 11 [.str s] H H (.list .none ((linesOf s).map cS.enc)) := by
  refine callAt tabOk specCut_ok mixed Tryz.func11 rfl rfl Tryz.results11 Tryz.ntmps11 (by simp) [] ?_
  intro hfr t hl ht
  simp only [At, Nat.reduceAdd, List.cons_append, List.nil_append] at ht
  have hn := cutC_len s 10
  obtain ⟨x, hx, hxe⟩ := str_get (cutC s 10) (i := (cutC s 10).length - 1) (by omega)
  have hw : IntKind.i64.wrap (((cutC s 10).length : Int) - 1) = (((cutC s 10).length - 1 : Nat) : Int) := by rw [wrap_i64] <;> omega
  unfold linesOf lns
  rw [hx]
  simp (config := {contextual := true, maxSteps := 5000000}) only [go_sem, false_and, Nat.reduceAdd, Nat.reduceLT, Nat.reduceBEq, Nat.reduceSub, Nat.reduceMul, Nat.reduceLeDiff, Int.reduceToNat, Nat.reduceEqDiff, Nat.reduceMod, ht, hl, specCut, hw, hxe]
  refine ⟨hs, ⟨by omega, by omega⟩, fun a => ⟨⟨by omega, by omega, cS_each _⟩, ?_⟩, fun a => ?_⟩
  · rw [show e0 x = true from a, if_pos rfl, List.map_take]
    exact Weak.refl _
  · rw [show e0 x = false from a, if_neg (by simp)]
    exact Weak.refl _
theorem begins_call (s p : ByteArray) : CallAt Tryz.prog w0 k 27 [.str s, .str p] H H (.tup [.str (if beg s p then s.extract p.size s.size else ⟨#[]⟩), .bool (beg s p)]) := by
  refine callAt tabOk specCut_ok mixed Tryz.func27 rfl rfl Tryz.results27 Tryz.ntmps27 (by simp) [] ?_
  intro hfr t hl ht
  simp only [At, Nat.reduceAdd, List.cons_append, List.nil_append] at ht
  simp (config := {contextual := true, maxSteps := 5000000}) only [go_sem, false_and, Nat.reduceAdd, Nat.reduceLT, Nat.reduceBEq, Nat.reduceSub, Nat.reduceMul, Nat.reduceLeDiff, Int.reduceToNat, Nat.reduceEqDiff, Nat.reduceMod, ht, hl]
  unfold beg
  refine ⟨fun a => ⟨by simp only [decide_eq_false_iff_not] at a; omega, fun b => ?_, fun b => ⟨by simp only [decide_eq_false_iff_not] at a; omega, ?_⟩⟩, fun a => ?_⟩
  · simp only [Bool.not_eq_true'] at b
    rw [b, Bool.and_false]
    exact Weak.refl _
  · simp only [Bool.not_eq_false', decide_eq_false_iff_not] at a b
    have ha : decide (p.size ≤ s.size) = true := by simp; omega
    rw [ha, b]
    exact Weak.refl _
  · simp only [decide_eq_true_eq] at a
    have ha : decide (p.size ≤ s.size) = false := by simp; omega
    rw [ha]
    exact Weak.refl _
/-! numbers of at most nine digits -/
def valN (s : ByteArray) : Nat → Int
  | 0 => 0
  | i + 1 => valN s i * 10 + (byteAt s i - 48)
def badLen (s : ByteArray) : Bool := decide (s.size < 1) || (decide (9 < s.size) || (decide (1 < s.size) && byteAt s 0 == 48))
theorem badLen_iff {s : ByteArray} : badLen s = true ↔ s.size < 1 ∨ 9 < s.size ∨ (1 < s.size ∧ byteAt s 0 = 48) := by simp only [badLen, Bool.or_eq_true, Bool.and_eq_true, decide_eq_true_eq, beq_iff_eq]
def decAll (s : ByteArray) : Bool := (List.range s.size).all fun i => digit (byteAt s i)
def decR (s : ByteArray) : Option Int := if badLen s = false ∧ decAll s = true then some (valN s s.size) else none
theorem valN_le {s : ByteArray} : ∀ i : Nat, (∀ j : Nat, j < i → digit (byteAt s j) = true) → 0 ≤ valN s i ∧ valN s i + 1 ≤ 10 ^ i
  | 0, _ => by simp [valN]
  | i + 1, h => by
    have ih := valN_le i fun j hj => h j (by omega)
    have hd := h i (by omega)
    simp only [digit, Bool.and_eq_true, decide_eq_true_eq] at hd
    rw [valN, Int.pow_succ]
    omega
theorem pow_small {i : Nat} (h : i ≤ 9) : (10 : Int) ^ i ≤ 1000000000 := by
  have : (10 : Nat) ^ i ≤ 10 ^ 9 := Nat.pow_le_pow_right (by omega) h
  have h2 : ((10 : Nat) ^ i : Int) ≤ ((10 ^ 9 : Nat) : Int) := by exact_mod_cast this
  simpa using h2
theorem decAll_iff {s : ByteArray} : decAll s = true ↔ ∀ j : Nat, j < s.size → digit (byteAt s j) = true := by
  simp [decAll, List.all_eq_true]
theorem decR_ge {s : ByteArray} {n : Int} (h : decR s = some n) : 0 ≤ n ∧ n ≤ 999999999 := by
  unfold decR at h
  split at h
  · rename_i hb
    cases h
    have h1 := valN_le s.size (decAll_iff.1 hb.2)
    have h2 : s.size ≤ 9 := by
      have := hb.1
      simp only [badLen, Bool.or_eq_false_iff, decide_eq_false_iff_not] at this
      omega
    have := pow_small h2
    omega
  · cases h
def decI (s : ByteArray) : Int := match decR s with
  | some n => n
  | none => -1
def specDi : Spec := Spec.no.add 92 (sp1 dC (fun _ => True) fun c => .bool (digit c))
theorem specDi_ok : SpecOk Tryz.prog w0 specDi := Spec.no_ok.add (sp1_ok fun c _ k H => digit_call c)
theorem decimal09_call (s : ByteArray) : CallAt Tryz.prog w0 k 90 [.str s] H H (.int .i64 (decI s)) := by
  refine callAt tabOk specDi_ok mixed Tryz.func90 rfl rfl Tryz.results90 Tryz.ntmps90 (by simp) [] ?_
  intro hfr t hl ht
  simp only [At, Nat.reduceAdd, List.cons_append, List.nil_append] at ht
  have hbad : badLen s = true → -1 = decI s := fun h => by simp [decI, decR, h]
  simp (config := {contextual := true, maxSteps := 5000000}) only [go_sem, false_and, Nat.reduceAdd, Nat.reduceLT, Nat.reduceBEq, Nat.reduceSub, Nat.reduceMul, Nat.reduceLeDiff, Int.reduceToNat, Nat.reduceEqDiff, Nat.reduceMod, ht, hl]
  refine ⟨fun a => ⟨fun b => ⟨fun c => ⟨by simp only [decide_eq_true_eq] at c; omega, fun d => hbad (badLen_iff.2 (by simp only [decide_eq_true_eq, beq_iff_eq] at c d; omega)), fun d => ?_⟩, fun c => ?_⟩, fun b => hbad (badLen_iff.2 (by simp only [decide_eq_true_eq] at b; omega))⟩, fun a => hbad (badLen_iff.2 (by simp only [decide_eq_true_eq] at a; omega))⟩
  all_goals
    have hb0 : badLen s = false := by
      rw [← Bool.not_eq_true, badLen_iff]
      simp only [decide_eq_true_eq, decide_eq_false_iff_not] at a b c
      first | omega | (simp only [beq_eq_false_iff_ne, ne_eq] at d; omega)
    simp only [decide_eq_false_iff_not] at b
    refine loop_inv tabOk specDi_ok mixed [] (fun j x => ∃ i : Nat, x.tmps.length = 43 ∧ x.tmps.getD 0 AV.undef = .str s ∧ x.tmps.getD 3 AV.undef = .int .i64 (valN s i) ∧ x.tmps.getD 4 AV.undef = .int .i64 i ∧ x.H = H ∧ i + j = s.size ∧ ∀ q : Nat, q < i → digit (byteAt s q) = true) s.size ⟨0, ?_⟩ ?_
    · simp (config := {contextual := true, maxSteps := 5000000}) only [go_sem, false_and, Nat.reduceAdd, Nat.reduceLT, Nat.reduceBEq, Nat.reduceSub, Nat.reduceMul, Nat.reduceLeDiff, Int.reduceToNat, Nat.reduceEqDiff, Nat.reduceMod, ht, hl]
      exact ⟨rfl, rfl, by omega, fun q hq => by omega⟩
    · rintro j ⟨t, n, H2⟩ ⟨i, hl, h0, h3, h4, rfl, hij, hall⟩
      simp only at hl h0 h3 h4
      have hv := valN_le i hall
      have hp := pow_small (show i ≤ 9 by omega)
      by_cases hi : i < s.size
      · have hd : decide ((i : Int) < (s.size : Int)) = true := by simp [hi]
        have hw : IntKind.i64.wrap ((i : Int) + 1) = ((i + 1 : Nat) : Int) := by rw [wrap_i64] <;> omega
        have hw2 : IntKind.i64.wrap (valN s i * 10) = valN s i * 10 := wrap_i64 (by omega) (by omega)
        cases hdg : digit (byteAt s i) with
        | true =>
          have hdb := hdg
          simp only [digit, Bool.and_eq_true, decide_eq_true_eq] at hdb
          have hw3 : IntKind.u8.wrap (byteAt s i - 48) = byteAt s i - 48 := num_u8 (by omega)
          have hw4 : IntKind.i64.wrap (byteAt s i - 48) = byteAt s i - 48 := wrap_i64 (by omega) (by omega)
          have hw5 : IntKind.i64.wrap (valN s i * 10 + (byteAt s i - 48)) = valN s (i + 1) := wrap_i64 (by omega) (by omega)
          simp (config := {contextual := true, maxSteps := 5000000}) only [go_sem, false_and, Nat.reduceAdd, Nat.reduceLT, Nat.reduceBEq, Nat.reduceSub, Nat.reduceMul, Nat.reduceLeDiff, Int.reduceToNat, Nat.reduceEqDiff, Nat.reduceMod, h0, h3, h4, hl, hd, hw, hw2, hw3, hw4, hw5, hdg, specDi]
          exact ⟨⟨by omega, by omega⟩, ⟨by omega, by omega⟩, j - 1, by omega, i + 1, rfl, rfl, by omega, fun q hq => by
            by_cases e : q = i
            · rw [e]; exact hdg
            · exact hall q (by omega)⟩
        | false =>
          simp (config := {contextual := true, maxSteps := 5000000}) only [go_sem, false_and, Nat.reduceAdd, Nat.reduceLT, Nat.reduceBEq, Nat.reduceSub, Nat.reduceMul, Nat.reduceLeDiff, Int.reduceToNat, Nat.reduceEqDiff, Nat.reduceMod, h0, h3, h4, hl, hd, hdg, specDi]
          have : decAll s = false := by
            cases ha : decAll s with
            | false => rfl
            | true => rw [decAll_iff.1 ha i hi] at hdg; cases hdg
          exact ⟨⟨by omega, by omega⟩, by simp [decI, decR, this]⟩
      · have hd : decide ((i : Int) < (s.size : Int)) = false := by simp; omega
        have hii : i = s.size := by omega
        have : decAll s = true := decAll_iff.2 fun q hq => hall q (by omega)
        simp (config := {contextual := true, maxSteps := 5000000}) only [go_sem, false_and, Nat.reduceAdd, Nat.reduceLT, Nat.reduceBEq, Nat.reduceSub, Nat.reduceMul, Nat.reduceLeDiff, Int.reduceToNat, Nat.reduceEqDiff, Nat.reduceMod, h0, h3, h4, hl, hd, specDi]
        rw [hii]
        simp [decI, decR, hb0, this]
theorem colon_call (s : ByteArray) (hs : s.size ≤ 4000000000) : CallAt Tryz.prog w0 k 57 [.str s] H H (.int .i64 (if fstC s 58 < s.size then (fstC s 58 : Int) else -1)) := by
  refine callAt tabOk Spec.no_ok mixed Tryz.func57 rfl rfl Tryz.results57 Tryz.ntmps57 (by simp) [] ?_
  intro hfr t hl ht
  simp only [At, Nat.reduceAdd, List.cons_append, List.nil_append] at ht
  simp (config := {contextual := true, maxSteps := 5000000}) only [go_sem, false_and, Nat.reduceAdd, Nat.reduceLT, Nat.reduceBEq, Nat.reduceSub, Nat.reduceMul, Nat.reduceLeDiff, Int.reduceToNat, Nat.reduceEqDiff, Nat.reduceMod, ht, hl]
  refine loop_inv tabOk Spec.no_ok mixed [] (fun j x => ∃ i : Nat, x.tmps.length = 15 ∧ x.tmps.getD 0 AV.undef = .str s ∧ x.tmps.getD 3 AV.undef = .int .i64 i ∧ x.H = H ∧ i + j = s.size ∧ ∀ q : Nat, q < i → byteAt s q ≠ 58) s.size ⟨0, ?_⟩ ?_
  · simp (config := {contextual := true, maxSteps := 5000000}) only [go_sem, false_and, Nat.reduceAdd, Nat.reduceLT, Nat.reduceBEq, Nat.reduceSub, Nat.reduceMul, Nat.reduceLeDiff, Int.reduceToNat, Nat.reduceEqDiff, Nat.reduceMod, ht, hl]
    exact ⟨rfl, by omega, fun q hq => by omega⟩
  · rintro j ⟨t, n, H2⟩ ⟨i, hl, h0, h3, rfl, hij, hall⟩
    simp only at hl h0 h3
    by_cases hi : i < s.size
    · have hd : decide ((i : Int) < (s.size : Int)) = true := by simp [hi]
      have hw : IntKind.i64.wrap ((i : Int) + 1) = ((i + 1 : Nat) : Int) := by rw [wrap_i64] <;> omega
      simp (config := {contextual := true, maxSteps := 5000000}) only [go_sem, false_and, Nat.reduceAdd, Nat.reduceLT, Nat.reduceBEq, Nat.reduceSub, Nat.reduceMul, Nat.reduceLeDiff, Int.reduceToNat, Nat.reduceEqDiff, Nat.reduceMod, h0, h3, hl, hd, hw]
      refine ⟨⟨by omega, by omega⟩, fun a => ?_, fun a => ⟨j - 1, by omega, i + 1, rfl, by omega, fun q hq => ?_⟩⟩ <;> simp only [beq_iff_eq, beq_eq_false_iff_ne, ne_eq] at a
      · have hf : fstC s 58 = i := fstF_at (Nat.zero_le _) (by omega) a fun q _ hq => hall q hq
        rw [hf, if_pos hi]
      · by_cases e : q = i
        · rw [e]; exact a
        · exact hall q (by omega)
    · have hd : decide ((i : Int) < (s.size : Int)) = false := by simp; omega
      have hf : fstC s 58 = s.size := by
        have := fstF_no (s := s) (c := 58) (m := s.size) (i := 0) fun q _ hq => hall q (by omega)
        rw [fstC, this]
        omega
      simp (config := {contextual := true, maxSteps := 5000000}) only [go_sem, false_and, Nat.reduceAdd, Nat.reduceLT, Nat.reduceBEq, Nat.reduceSub, Nat.reduceMul, Nat.reduceLeDiff, Int.reduceToNat, Nat.reduceEqDiff, Nat.reduceMod, h0, h3, hl, hd]
      rw [hf, if_neg (by omega)]
end Go.Proofs.YtkdendaohlnlcaaGreatDoor.Av

/- What the reference of layer 9 reads of a step's reason, of a formula. No condition. -/
namespace Go.Proofs.YtkdendaohlnlcaaGreatDoor.Av
set_option linter.unusedVariables false
set_option linter.unusedSimpArgs false
set_option maxRecDepth 4000
set_option maxHeartbeats 1000000
variable {w0 : Base} {k : List Nat} {H : Hp}
abbrev eqS (a p : ByteArray) : Bool := a.toList == p.toList
def noStep : Step := ⟨noE, 0, 0, 0, ⟨#[]⟩⟩
/-- What is read of a reason's words: a step, and whether it is one. -/
def rdW : List ByteArray → Step × Bool
  | [a, b] => if eqS a ⟨#[97, 120, 105, 111, 109]⟩ = true then (⟨noE, 1, decI b, 0, ⟨#[]⟩⟩, decide (0 ≤ decI b)) else if eqS a ⟨#[99, 105, 116, 101]⟩ = true then (⟨noE, 4, 0, 0, b⟩, true) else (noStep, false)
  | [a, b, c] => if eqS a ⟨#[100, 101, 116, 97, 99, 104]⟩ = true then (⟨noE, 2, decI b, decI c, ⟨#[]⟩⟩, decide (0 ≤ decI b) && decide (0 ≤ decI c))
    else if eqS a ⟨#[103, 101, 110]⟩ = true ∧ (0 < c.size ∧ byteAt c 0 = 120) then (⟨noE, 3, decI b, decI (c.extract 1 c.size), ⟨#[]⟩⟩, (decide (0 ≤ decI b) && decide (0 ≤ decI (c.extract 1 c.size))) && decide (decI (c.extract 1 c.size) ≤ 63))
    else (noStep, false)
  | _ => (noStep, false)
abbrev Step.av (s : Step) : AV := .agg s.cells
def specRe : Spec := (Spec.no.add 31 (sp2 dS dC (fun s _ => s.size ≤ 4000000000) fun s c => .list .none ((cutC s c).map cS.enc))).add 90 (sp1 dS (fun _ => True) fun s => .int .i64 (decI s))
theorem specRe_ok : SpecOk Tryz.prog w0 specRe := (Spec.no_ok.add (sp2_ok fun s c h k H => cut09_call s c h)).add (sp1_ok fun s _ k H => decimal09_call s)
theorem step_weak {n a b : Int} {c : ByteArray} {t : Bool} : Weak (.tup [.agg [.int .i64 0, .int .i64 0, .list .nil [], .int .i64 n, .int .i64 a, .int .i64 b, .str c], .bool t]) (.tup [(⟨noE, n, a, b, c⟩ : Step).av, .bool t]) :=
  WeakL.tup ⟨_, _, rfl, WeakL.agg ⟨_, _, rfl, Weak.refl _, _, _, rfl, Weak.refl _, _, _, rfl, nil_weak, _, _, rfl, Weak.refl _, _, _, rfl, Weak.refl _, _, _, rfl, Weak.refl _, _, _, rfl, Weak.refl _, rfl⟩, _, _, rfl, Weak.refl _, rfl⟩
theorem step_weakR {w : List ByteArray} {n a b : Int} {c : ByteArray} {t : Bool} (h : rdW w = (⟨noE, n, a, b, c⟩, t)) : Weak (.tup [.agg [.int .i64 0, .int .i64 0, .list .nil [], .int .i64 n, .int .i64 a, .int .i64 b, .str c], .bool t]) (.tup [(rdW w).1.av, .bool (rdW w).2]) := by
  rw [h]
  exact step_weak
theorem read09_call (s : ByteArray) (hs : s.size ≤ 4000000000) : CallAt Tryz.prog w0 k 58 [.str s] H H (.tup [(rdW (cutC s 32)).1.av, .bool (rdW (cutC s 32)).2]) := by
  refine callAt tabOk specRe_ok mixed Tryz.func58 rfl rfl Tryz.results58 Tryz.ntmps58 (by simp) [] ?_
  intro hfr t hl ht
  simp only [At, Nat.reduceAdd, List.cons_append, List.nil_append] at ht
  have fN : ∀ (a b : Nat) z ty, H ⟨z, a :: b :: k, ty⟩ = none := fun a b z ty => hfr _ (sfx2 _ _ _)
  have hlen := cutC_len s 32
  have hcut : (sp2 dS dC (fun s _ => s.size ≤ 4000000000) fun s c => .list .none ((cutC s c).map cS.enc)) [.str s, .int .u8 32] = some (s.size ≤ 4000000000, .list .none ((cutC s 32).map cS.enc)) := rfl
  obtain ⟨w, hw⟩ : ∃ w, w = cutC s 32 := ⟨_, rfl⟩
  rw [← hw] at hlen hcut ⊢
  have n22 : (((2 : Nat) : Int) == 2) = true := rfl
  have n23 : (((2 : Nat) : Int) == 3) = false := rfl
  have n32 : (((3 : Nat) : Int) == 2) = false := rfl
  have n33 : (((3 : Nat) : Int) == 3) = true := rfl
  have b01 : (0 : Int) ≤ 0 ∧ (0 : Int) < ((2 : Nat) : Int) := by omega
  have b11 : (0 : Int) ≤ 1 ∧ (1 : Int) < ((2 : Nat) : Int) := by omega
  have b02 : (0 : Int) ≤ 0 ∧ (0 : Int) < ((3 : Nat) : Int) := by omega
  have b12 : (0 : Int) ≤ 1 ∧ (1 : Int) < ((3 : Nat) : Int) := by omega
  have b22 : (0 : Int) ≤ 2 ∧ (2 : Int) < ((3 : Nat) : Int) := by omega
  have hA : True := trivial
  have hB := hA
  match w, hw with
  | [a, b], hw =>
    have hlc : (cutC s 32).length = 2 := by rw [← hw]; rfl
    cases h1 : eqS a ⟨#[97, 120, 105, 111, 109]⟩ with
    | true =>
      simp (config := {contextual := true, maxSteps := 5000000}) only [go_sem, false_and, Nat.reduceAdd, Nat.reduceLT, Nat.reduceBEq, Nat.reduceSub, Nat.reduceMul, Nat.reduceLeDiff, Int.reduceToNat, Nat.reduceEqDiff, Nat.reduceMod, ht, hl, specRe, ← hw, cS, h1, n22, n23, b01, b11]
      exact ⟨hs, by kernel_rfl, by (refine pw_of ?_; (repeat' (first | exact trivial | apply And.intro)); all_goals (first | exact .inr rfl | exact .inr trivial | exact .inr (by show _ = _; simp (config := {contextual := true, maxSteps := 5000000}) only [go_sem, false_and, Nat.reduceAdd, Nat.reduceLT, Nat.reduceBEq, Nat.reduceSub, Nat.reduceMul, Nat.reduceLeDiff, Int.reduceToNat, Nat.reduceEqDiff, Nat.reduceMod, hA, hB]) | exact .inl (by kernel_rfl))), step_weakR (by simp [rdW, h1]), by (repeat (first | exact Hp.Le.refl _ | refine Hp.le_upd ?_ (fN _ _ _ _)))⟩
    | false =>
      cases h2 : eqS a ⟨#[99, 105, 116, 101]⟩ with
      | true =>
        simp (config := {contextual := true, maxSteps := 5000000}) only [go_sem, false_and, Nat.reduceAdd, Nat.reduceLT, Nat.reduceBEq, Nat.reduceSub, Nat.reduceMul, Nat.reduceLeDiff, Int.reduceToNat, Nat.reduceEqDiff, Nat.reduceMod, ht, hl, specRe, ← hw, cS, h1, h2, n22, n23, b01, b11]
        exact ⟨hs, step_weakR (by simp [rdW, h1, h2]), by (repeat (first | exact Hp.Le.refl _ | refine Hp.le_upd ?_ (fN _ _ _ _)))⟩
      | false =>
        simp (config := {contextual := true, maxSteps := 5000000}) only [go_sem, false_and, Nat.reduceAdd, Nat.reduceLT, Nat.reduceBEq, Nat.reduceSub, Nat.reduceMul, Nat.reduceLeDiff, Int.reduceToNat, Nat.reduceEqDiff, Nat.reduceMod, ht, hl, specRe, ← hw, cS, h1, h2, n22, n23, b01, b11]
        exact ⟨hs, step_weakR (by simp [rdW, h1, h2, noStep]), by (repeat (first | exact Hp.Le.refl _ | refine Hp.le_upd ?_ (fN _ _ _ _)))⟩
  | [a, b, c], hw =>
    cases h1 : eqS a ⟨#[100, 101, 116, 97, 99, 104]⟩ with
    | true =>
      simp (config := {contextual := true, maxSteps := 5000000}) only [go_sem, false_and, Nat.reduceAdd, Nat.reduceLT, Nat.reduceBEq, Nat.reduceSub, Nat.reduceMul, Nat.reduceLeDiff, Int.reduceToNat, Nat.reduceEqDiff, Nat.reduceMod, ht, hl, specRe, ← hw, cS, h1, n32, n33, b02, b12, b22]
      exact ⟨hs, by kernel_rfl, fun x => ⟨by (refine pw_of ?_; (repeat' (first | exact trivial | apply And.intro)); all_goals (first | exact .inr rfl | exact .inr trivial | exact .inr (by show _ = _; simp (config := {contextual := true, maxSteps := 5000000}) only [go_sem, false_and, Nat.reduceAdd, Nat.reduceLT, Nat.reduceBEq, Nat.reduceSub, Nat.reduceMul, Nat.reduceLeDiff, Int.reduceToNat, Nat.reduceEqDiff, Nat.reduceMod, hA, hB]) | exact .inl (by kernel_rfl))), step_weakR (by simp only [rdW, h1, if_true, x, Bool.true_and]), by (repeat (first | exact Hp.Le.refl _ | refine Hp.le_upd ?_ (fN _ _ _ _)))⟩, fun x => ⟨by (refine pw_of ?_; (repeat' (first | exact trivial | apply And.intro)); all_goals (first | exact .inr rfl | exact .inr trivial | exact .inr (by show _ = _; simp (config := {contextual := true, maxSteps := 5000000}) only [go_sem, false_and, Nat.reduceAdd, Nat.reduceLT, Nat.reduceBEq, Nat.reduceSub, Nat.reduceMul, Nat.reduceLeDiff, Int.reduceToNat, Nat.reduceEqDiff, Nat.reduceMod, hA, hB]) | exact .inl (by kernel_rfl))), step_weakR (by simp only [rdW, h1, if_true, x, Bool.false_and]), by (repeat (first | exact Hp.Le.refl _ | refine Hp.le_upd ?_ (fN _ _ _ _)))⟩⟩
    | false =>
      cases h2 : eqS a ⟨#[103, 101, 110]⟩ with
      | true =>
        simp (config := {contextual := true, maxSteps := 5000000}) only [go_sem, false_and, Nat.reduceAdd, Nat.reduceLT, Nat.reduceBEq, Nat.reduceSub, Nat.reduceMul, Nat.reduceLeDiff, Int.reduceToNat, Nat.reduceEqDiff, Nat.reduceMod, ht, hl, specRe, ← hw, cS, h1, h2, n32, n33, b02, b12, b22]
        have hne : ∀ {P : Prop}, ¬ (0 < c.size ∧ byteAt c 0 = 120) → rdW [a, b, c] = (noStep, false) := fun h => by
          simp only [rdW, h1, h2]
          rw [if_neg (by simp), if_neg (fun hh => h hh.2)]
        have hye : 0 < c.size → (byteAt c 0 == 120) = true → rdW [a, b, c] = (⟨noE, 3, decI b, decI (c.extract 1 c.size), ⟨#[]⟩⟩, (decide (0 ≤ decI b) && decide (0 ≤ decI (c.extract 1 c.size))) && decide (decI (c.extract 1 c.size) ≤ 63)) := fun h h' => by
          simp only [rdW, h1, h2]
          rw [if_neg (by simp), if_pos ⟨trivial, h, by simpa using h'⟩]
        refine ⟨hs, fun x => ⟨by simp only [decide_eq_true_eq] at x; omega, fun y => ⟨by simp only [decide_eq_true_eq] at x; omega, by kernel_rfl, fun z => ⟨fun v => ⟨by (refine pw_of ?_; (repeat' (first | exact trivial | apply And.intro)); all_goals (first | exact .inr rfl | exact .inr trivial | exact .inr (by show _ = _; simp (config := {contextual := true, maxSteps := 5000000}) only [go_sem, false_and, Nat.reduceAdd, Nat.reduceLT, Nat.reduceBEq, Nat.reduceSub, Nat.reduceMul, Nat.reduceLeDiff, Int.reduceToNat, Nat.reduceEqDiff, Nat.reduceMod, hA, hB]) | exact .inl (by kernel_rfl))), step_weakR ?_, by (repeat (first | exact Hp.Le.refl _ | refine Hp.le_upd ?_ (fN _ _ _ _)))⟩, fun v => ⟨by (refine pw_of ?_; (repeat' (first | exact trivial | apply And.intro)); all_goals (first | exact .inr rfl | exact .inr trivial | exact .inr (by show _ = _; simp (config := {contextual := true, maxSteps := 5000000}) only [go_sem, false_and, Nat.reduceAdd, Nat.reduceLT, Nat.reduceBEq, Nat.reduceSub, Nat.reduceMul, Nat.reduceLeDiff, Int.reduceToNat, Nat.reduceEqDiff, Nat.reduceMod, hA, hB]) | exact .inl (by kernel_rfl))), step_weakR ?_, by (repeat (first | exact Hp.Le.refl _ | refine Hp.le_upd ?_ (fN _ _ _ _)))⟩⟩, fun z => ⟨by (refine pw_of ?_; (repeat' (first | exact trivial | apply And.intro)); all_goals (first | exact .inr rfl | exact .inr trivial | exact .inr (by show _ = _; simp (config := {contextual := true, maxSteps := 5000000}) only [go_sem, false_and, Nat.reduceAdd, Nat.reduceLT, Nat.reduceBEq, Nat.reduceSub, Nat.reduceMul, Nat.reduceLeDiff, Int.reduceToNat, Nat.reduceEqDiff, Nat.reduceMod, hA, hB]) | exact .inl (by kernel_rfl))), step_weakR ?_, by (repeat (first | exact Hp.Le.refl _ | refine Hp.le_upd ?_ (fN _ _ _ _)))⟩⟩, fun y => ⟨step_weakR ?_, by (repeat (first | exact Hp.Le.refl _ | refine Hp.le_upd ?_ (fN _ _ _ _)))⟩⟩, fun x => ⟨step_weakR ?_, by (repeat (first | exact Hp.Le.refl _ | refine Hp.le_upd ?_ (fN _ _ _ _)))⟩⟩
        · rw [hye (by simp only [decide_eq_true_eq] at x; omega) y, z, v, Bool.true_and, Bool.true_and]
        · rw [hye (by simp only [decide_eq_true_eq] at x; omega) y, z, v, Bool.and_false, Bool.false_and]
        · rw [hye (by simp only [decide_eq_true_eq] at x; omega) y, z, Bool.false_and, Bool.false_and]
        · exact hne (P := True) fun h => by simp only [beq_eq_false_iff_ne, ne_eq] at y; exact y h.2
        · exact hne (P := True) fun h => by simp only [decide_eq_false_iff_not] at x; omega
      | false =>
        simp (config := {contextual := true, maxSteps := 5000000}) only [go_sem, false_and, Nat.reduceAdd, Nat.reduceLT, Nat.reduceBEq, Nat.reduceSub, Nat.reduceMul, Nat.reduceLeDiff, Int.reduceToNat, Nat.reduceEqDiff, Nat.reduceMod, ht, hl, specRe, ← hw, cS, h1, h2, n32, n33, b02, b12, b22]
        exact ⟨hs, step_weakR (by simp [rdW, h1, h2, noStep]), by (repeat (first | exact Hp.Le.refl _ | refine Hp.le_upd ?_ (fN _ _ _ _)))⟩
  | [], hw => simp at hlen
  | [a], hw =>
    have n12 : (((1 : Nat) : Int) == 2) = false := rfl
    have n13 : (((1 : Nat) : Int) == 3) = false := rfl
    simp (config := {contextual := true, maxSteps := 5000000}) only [go_sem, false_and, Nat.reduceAdd, Nat.reduceLT, Nat.reduceBEq, Nat.reduceSub, Nat.reduceMul, Nat.reduceLeDiff, Int.reduceToNat, Nat.reduceEqDiff, Nat.reduceMod, ht, hl, specRe, ← hw, cS, n12, n13]
    exact ⟨hs, step_weakR (by simp [rdW, noStep]), by (repeat (first | exact Hp.Le.refl _ | refine Hp.le_upd ?_ (fN _ _ _ _)))⟩
  | a :: b :: c :: d :: w, hw =>
    have n12 : (((w.length + 1 + 1 + 1 + 1 : Nat) : Int) == 2) = false := by simp; omega
    have n13 : (((w.length + 1 + 1 + 1 + 1 : Nat) : Int) == 3) = false := by simp; omega
    simp (config := {contextual := true, maxSteps := 5000000}) only [go_sem, false_and, Nat.reduceAdd, Nat.reduceLT, Nat.reduceBEq, Nat.reduceSub, Nat.reduceMul, Nat.reduceLeDiff, Int.reduceToNat, Nat.reduceEqDiff, Nat.reduceMod, ht, hl, specRe, ← hw, cS, n12, n13]
    exact ⟨hs, step_weakR (by simp [rdW, noStep]), by (repeat (first | exact Hp.Le.refl _ | refine Hp.le_upd ?_ (fN _ _ _ _)))⟩
end Go.Proofs.YtkdendaohlnlcaaGreatDoor.Av

/- What the reference of layer 9 reads of a line. No condition. -/
namespace Go.Proofs.YtkdendaohlnlcaaGreatDoor.Av
set_option linter.unusedVariables false
set_option linter.unusedSimpArgs false
set_option maxRecDepth 4000
set_option maxHeartbeats 1000000
variable {w0 : Base} {k : List Nat} {H : Hp}
theorem fmRes_ok {s : ByteArray} {x : E} (h : fmRes s = .ok x) : x.ok ∧ x.right = 0 := by
  unfold fmRes at h
  cases ht : toks s with
  | err e a => rw [ht] at h; cases h
  | ok l =>
    rw [ht] at h
    simp only [wholeR] at h
    have hf := fmF_fine l (l.length + 1) 0
    generalize fmF l (l.length + 1) 0 = g at h hf
    cases g with
    | no q => cases h
    | ok y q =>
      simp only at h
      split at h
      · cases h
      · split at h
        · cases h
          exact ⟨hf, by assumption⟩
        · cases h
theorem fmRes_ne {s : ByteArray} {e a : Int} (h : fmRes s = .err e a) : e ≠ 0 := by
  unfold fmRes at h
  cases ht : toks s with
  | err e a =>
    rw [ht] at h
    cases h
    exact toks_ne ht
  | ok l =>
    rw [ht] at h
    simp only [wholeR] at h
    generalize fmF l (l.length + 1) 0 = g at h
    cases g with
    | no q => cases h; decide
    | ok y q =>
      simp only at h
      split at h
      · cases h; decide
      · split at h
        · cases h
        · cases h; assumption
/-- A formula of a unit, and what is wrong with it. -/
def fmU (s : ByteArray) : E × Int := match fmRes s with
  | .ok x => (x, x.written)
  | .err e _ => (noE, e)
def specFu : Spec := (Spec.no.add 55 (sp1 dS (fun _ => True) fun s => (fmRes s).av)).add 56 (sp1 dE (fun e => e.ok) fun e => .int .i64 e.written)
theorem specFu_ok : SpecOk Tryz.prog w0 specFu := (Spec.no_ok.add (sp1_ok fun s _ k H => formula03_call s)).add (sp1_ok fun e h k H => written09_call e h)
theorem formula09_call (s : ByteArray) : CallAt Tryz.prog w0 k 28 [.str s] H H (.tup [(fmU s).1.av, .int .i64 (fmU s).2]) := by
  refine callAt tabOk specFu_ok mixed Tryz.func28 rfl rfl Tryz.results28 Tryz.ntmps28 (by simp) [] ?_
  intro hfr t hl ht
  simp only [At, Nat.reduceAdd, List.cons_append, List.nil_append] at ht
  have fN : ∀ (a b : Nat) z ty, H ⟨z, a :: b :: k, ty⟩ = none := fun a b z ty => hfr _ (sfx2 _ _ _)
  unfold fmU
  have he0 : ((0 : Int) != 0) = false := rfl
  cases hf : fmRes s with
  | ok x =>
    simp (config := {contextual := true, maxSteps := 5000000}) only [go_sem, false_and, Nat.reduceAdd, Nat.reduceLT, Nat.reduceBEq, Nat.reduceSub, Nat.reduceMul, Nat.reduceLeDiff, Int.reduceToNat, Nat.reduceEqDiff, Nat.reduceMod, ht, hl, specFu, hf, FR.av, he0, toE_at]
    exact ⟨(fmRes_ok hf).1, by (repeat (first | exact Hp.Le.refl _ | refine Hp.le_upd ?_ (fN _ _ _ _)))⟩
  | err e a =>
    have he : (e != 0) = true := by simpa using fmRes_ne hf
    simp (config := {contextual := true, maxSteps := 5000000}) only [go_sem, false_and, Nat.reduceAdd, Nat.reduceLT, Nat.reduceBEq, Nat.reduceSub, Nat.reduceMul, Nat.reduceLeDiff, Int.reduceToNat, Nat.reduceEqDiff, Nat.reduceMod, ht, hl, specFu, hf, FR.av, he]
    exact ⟨noE_weak, by (repeat (first | exact Hp.Le.refl _ | refine Hp.le_upd ?_ (fN _ _ _ _)))⟩
/-- The step of a line, out of what was read of its reason and its formula. -/
def stepF (r : Step × Bool) (f : E × Int) : Step × Int := if r.2 = false then (noStep, 90) else if r.1.by_ = 4 ∧ isName r.1.cite = false then (noStep, 91) else (⟨f.1, r.1.by_, r.1.a, r.1.b, r.1.cite⟩, f.2)
def numT (n : Int) : ByteArray := T (Lib.itoa n ++ [32])
def stepR (s : ByteArray) (n : Int) : Step × Int :=
  if 60 < n then (noStep, 2) else if fstC s 58 < s.size then
    (if beg (s.extract 0 (fstC s 58)) (numT n) && beg (s.extract (fstC s 58 + 1) s.size) ⟨#[32]⟩ then
      stepF (rdW (cutC ((s.extract (fstC s 58 + 1) s.size).extract 1 (s.extract (fstC s 58 + 1) s.size).size) 32)) (fmU ((s.extract 0 (fstC s 58)).extract (numT n).size (s.extract 0 (fstC s 58)).size))
     else (noStep, 90))
  else (noStep, 90)
def specSt : Spec := (((((Spec.no.add 57 (sp1 dS (fun s => s.size ≤ 4000000000) fun s => .int .i64 (if fstC s 58 < s.size then (fstC s 58 : Int) else -1))).add 37 (sp1 dI (fun n => 0 ≤ n ∧ n < 100) fun n => .str (T (Lib.itoa n)))).add 27 (sp2 dS dS (fun _ _ => True) fun s p => .tup [.str (if beg s p then s.extract p.size s.size else ⟨#[]⟩), .bool (beg s p)])).add
  58 (sp1 dS (fun s => s.size ≤ 4000000000) fun s => .tup [(rdW (cutC s 32)).1.av, .bool (rdW (cutC s 32)).2])).add 59 (sp1 dS (fun _ => True) fun c => .bool (isName c))).add 28 (sp1 dS (fun _ => True) fun s => .tup [(fmU s).1.av, .int .i64 (fmU s).2])
theorem specSt_ok : SpecOk Tryz.prog w0 specSt := (((((Spec.no_ok.add (sp1_ok fun s h k H => colon_call s h)).add (sp1_ok fun n h k H => itoa_small n h.1 h.2)).add (sp2_ok fun s p _ k H => begins_call s p)).add (sp1_ok fun s h k H => read09_call s h)).add (sp1_ok fun c _ k H => name09_call c)).add (sp1_ok fun s _ k H => formula09_call s)
theorem step_weakE {e : Int} : Weak (.tup [.agg [.int .i64 0, .int .i64 0, .list .nil [], .int .i64 0, .int .i64 0, .int .i64 0, .str ⟨#[]⟩], .int .i64 e]) (.tup [noStep.av, .int .i64 e]) :=
  WeakL.tup ⟨_, _, rfl, WeakL.agg ⟨_, _, rfl, Weak.refl _, _, _, rfl, Weak.refl _, _, _, rfl, nil_weak, _, _, rfl, Weak.refl _, _, _, rfl, Weak.refl _, _, _, rfl, Weak.refl _, _, _, rfl, Weak.refl _, rfl⟩, _, _, rfl, Weak.refl _, rfl⟩
theorem step09_call (s : ByteArray) (n : Int) (hs : s.size ≤ 4000000000) (hn : 0 ≤ n) : CallAt Tryz.prog w0 k 29 [.str s, .int .i64 n] H H (.tup [(stepR s n).1.av, .int .i64 (stepR s n).2]) := by
  refine callAt tabOk specSt_ok mixed Tryz.func29 rfl rfl Tryz.results29 Tryz.ntmps29 (by simp) [] ?_
  intro hfr t hl ht
  simp only [At, Nat.reduceAdd, List.cons_append, List.nil_append] at ht
  have fN : ∀ (a b : Nat) z ty, H ⟨z, a :: b :: k, ty⟩ = none := fun a b z ty => hfr _ (sfx2 _ _ _)
  have z32 : (#[32] : Array UInt8).size = 1 := rfl
  have hA : True := trivial
  have hB := hA
  by_cases h60 : 60 < n
  · have d60 : decide (60 < n) = true := by simpa using h60
    rw [stepR, if_pos h60]
    simp (config := {contextual := true, maxSteps := 5000000}) only [go_sem, false_and, Nat.reduceAdd, Nat.reduceLT, Nat.reduceBEq, Nat.reduceSub, Nat.reduceMul, Nat.reduceLeDiff, Int.reduceToNat, Nat.reduceEqDiff, Nat.reduceMod, ht, hl, specSt, d60]
    exact ⟨step_weakE, by (repeat (first | exact Hp.Le.refl _ | refine Hp.le_upd ?_ (fN _ _ _ _)))⟩
  have d60 : decide (60 < n) = false := by simpa using h60
  rw [stepR, if_neg h60]
  by_cases hat : fstC s 58 < s.size
  · have dat : decide ((fstC s 58 : Int) < 0) = false := by simp <;> omega
    have hw : IntKind.i64.wrap ((fstC s 58 : Int) + 1) = ((fstC s 58 + 1 : Nat) : Int) := by rw [wrap_i64] <;> omega
    have hrg : (0 : Int) ≤ (fstC s 58 : Int) ∧ (fstC s 58 : Int) ≤ (s.size : Int) := by omega
    have hrg2 : (0 : Int) ≤ ((fstC s 58 + 1 : Nat) : Int) ∧ ((fstC s 58 + 1 : Nat) : Int) ≤ (s.size : Int) := by omega
    have hn2 : 0 ≤ n ∧ n < 100 := by omega
    have hnl := Lib.itoa_length_le n (by omega) (by omega)
    have hszn : (((Lib.itoa n).toArray.size + 1 : Nat) : Int) ≤ 9223372036854775807 := by rw [List.size_toArray]; omega
    rw [if_pos hat]
    have hsz2 : ((s.extract (fstC s 58 + 1) s.size).extract 1 (s.extract (fstC s 58 + 1) s.size).size).size ≤ 4000000000 := by simp only [ByteArray.size_extract]; omega
    generalize ha : s.extract 0 (fstC s 58) = said
    generalize hb : s.extract (fstC s 58 + 1) s.size = behind at hsz2 ⊢
    have hnt : ByteArray.mk (Lib.itoa n ++ [32]).toArray = numT n := rfl
    cases h1 : beg said (numT n) with
    | false =>
      simp (config := {contextual := true, maxSteps := 5000000}) only [go_sem, false_and, Nat.reduceAdd, Nat.reduceLT, Nat.reduceBEq, Nat.reduceSub, Nat.reduceMul, Nat.reduceLeDiff, Int.reduceToNat, Nat.reduceEqDiff, Nat.reduceMod, ht, hl, specSt, d60, hat, dat, hw, ha, hb, hnt, h1]
      exact ⟨hs, by kernel_rfl, hrg, hn2, hszn, List.Pairwise.nil, hrg2, step_weakE, by (repeat (first | exact Hp.Le.refl _ | refine Hp.le_upd ?_ (fN _ _ _ _)))⟩
    | true =>
      cases h2 : beg behind ⟨#[32]⟩ with
      | false =>
        simp (config := {contextual := true, maxSteps := 5000000}) only [go_sem, false_and, Nat.reduceAdd, Nat.reduceLT, Nat.reduceBEq, Nat.reduceSub, Nat.reduceMul, Nat.reduceLeDiff, Int.reduceToNat, Nat.reduceEqDiff, Nat.reduceMod, ht, hl, specSt, d60, hat, dat, hw, ha, hb, hnt, h1, h2, z32]
        exact ⟨hs, by kernel_rfl, hrg, hn2, hszn, List.Pairwise.nil, hrg2, step_weakE, by (repeat (first | exact Hp.Le.refl _ | refine Hp.le_upd ?_ (fN _ _ _ _)))⟩
      | true =>
        generalize hr : rdW (cutC (behind.extract 1 behind.size) 32) = r
        generalize hf : fmU (said.extract (numT n).size said.size) = f
        obtain ⟨st, b⟩ := r
        cases b with
        | false =>
          simp (config := {contextual := true, maxSteps := 5000000}) only [go_sem, false_and, Nat.reduceAdd, Nat.reduceLT, Nat.reduceBEq, Nat.reduceSub, Nat.reduceMul, Nat.reduceLeDiff, Int.reduceToNat, Nat.reduceEqDiff, Nat.reduceMod, ht, hl, specSt, d60, hat, dat, hw, ha, hb, hnt, h1, h2, z32, hr, Step.cells]
          exact ⟨hs, by kernel_rfl, hrg, hn2, hszn, List.Pairwise.nil, hrg2, hsz2, step_weakE, by (repeat (first | exact Hp.Le.refl _ | refine Hp.le_upd ?_ (fN _ _ _ _)))⟩
        | true =>
          simp (config := {contextual := true, maxSteps := 5000000}) only [go_sem, false_and, Nat.reduceAdd, Nat.reduceLT, Nat.reduceBEq, Nat.reduceSub, Nat.reduceMul, Nat.reduceLeDiff, Int.reduceToNat, Nat.reduceEqDiff, Nat.reduceMod, ht, hl, specSt, d60, hat, dat, hw, ha, hb, hnt, h1, h2, z32, hr, hf, Step.cells]
          refine ⟨hs, by kernel_rfl, hrg, hn2, hszn, List.Pairwise.nil, hrg2, hsz2, fun x => ⟨fun y => ⟨?_, by (repeat (first | exact Hp.Le.refl _ | refine Hp.le_upd ?_ (fN _ _ _ _)))⟩, fun y => ⟨?_, by (repeat (first | exact Hp.Le.refl _ | refine Hp.le_upd ?_ (fN _ _ _ _)))⟩⟩, fun x => ⟨?_, by (repeat (first | exact Hp.Le.refl _ | refine Hp.le_upd ?_ (fN _ _ _ _)))⟩⟩
          · rw [stepF, if_neg (by simp), if_pos ⟨by simpa using x, by simpa using y⟩]
            exact step_weakE
          · rw [stepF, if_neg (by simp), if_neg (fun h => by rw [h.2] at y; cases y)]
            exact Weak.refl _
          · rw [stepF, if_neg (by simp), if_neg (fun h => by rw [h.1] at x; cases x)]
            exact Weak.refl _
  · have dat : decide ((-1 : Int) < 0) = true := rfl
    rw [if_neg hat]
    simp (config := {contextual := true, maxSteps := 5000000}) only [go_sem, false_and, Nat.reduceAdd, Nat.reduceLT, Nat.reduceBEq, Nat.reduceSub, Nat.reduceMul, Nat.reduceLeDiff, Int.reduceToNat, Nat.reduceEqDiff, Nat.reduceMod, ht, hl, specSt, d60, hat, dat]
    exact ⟨hs, step_weakE, by (repeat (first | exact Hp.Le.refl _ | refine Hp.le_upd ?_ (fN _ _ _ _)))⟩
end Go.Proofs.YtkdendaohlnlcaaGreatDoor.Av

/- A formula's text is read as the formula. Plain. No condition. -/
namespace Go.Proofs.YtkdendaohlnlcaaGreatDoor.Av
set_option linter.unusedVariables false
set_option linter.unusedSimpArgs false
set_option maxRecDepth 4000
set_option maxHeartbeats 1000000
def lxA : List (List Lx) → List Lx
  | [] => []
  | [x] => x ++ [.sg 41]
  | x :: y :: r => x ++ .sg 44 :: .sp :: lxA (y :: r)
def lxK (k i : Int) (ts : List (List Lx)) : List Lx :=
  if k = 1 then [.sy 120 i.toNat] else if k = 2 ∨ k = 3 then .sy (if k = 3 then 80 else 102) i.toNat :: (match ts with
    | [] => []
    | x :: r => .sg 40 :: lxA (x :: r))
  else if k = 4 then ts.getD 0 [] ++ .sp :: .sg 61 :: .sp :: ts.getD 1 [] else if k = 5 then .sg 33 :: ts.getD 0 []
  else if k = 7 ∨ k = 10 then .sg (if k = 10 then 63 else 64) :: .sy 120 i.toNat :: .sp :: ts.getD 0 []
  else .sg 40 :: (ts.getD 0 [] ++ .sp :: .sg (if k = 8 then 38 else if k = 9 then 124 else 62) :: .sp :: (ts.getD 1 [] ++ [.sg 41]))
mutual
def E.lx : E → List Lx
  | .mk k i ks => lxK k i (E.lxL ks)
def E.lxL : List E → List (List Lx)
  | [] => []
  | e :: es => e.lx :: E.lxL es
end
theorem E.lxL_eq : ∀ l : List E, E.lxL l = l.map E.lx
  | [] => rfl
  | e :: es => by simp [E.lxL, E.lxL_eq es]
theorem E.lx_mk (k i : Int) (ks : List E) : (E.mk k i ks).lx = lxK k i (ks.map E.lx) := by simp only [E.lx, E.lxL_eq]
theorem E.txt_mk (k i : Int) (ks : List E) : (E.mk k i ks).txt = txtK k i (ks.map E.txt) := by simp only [E.txt, E.txtL_eq]
theorem lxB_nil : lxB [] = [] := rfl
theorem lxB_cons (x : Lx) (r : List Lx) : lxB (x :: r) = x.bs ++ lxB r := rfl
theorem lxB_app (a b : List Lx) : lxB (a ++ b) = lxB a ++ lxB b := by simp [lxB]
theorem lxS_nil : lxS [] = [] := rfl
theorem lxS_cons (x : Lx) (r : List Lx) : lxS (x :: r) = x.sig ++ lxS r := rfl
theorem lxS_app (a b : List Lx) : lxS (a ++ b) = lxS a ++ lxS b := by simp [lxS]
theorem itoa_dec {i : Int} (h : 0 ≤ i) : Lib.itoa i = Lib.decDigits i.toNat := by rw [Lib.itoa, if_neg (by omega)]
theorem E.sh_63 {e : E} (h : e.sh = true) (hk : e.kind = 1 ∨ e.kind = 7 ∨ e.kind = 10) : e.id ≤ 63 := by
  rw [E.sh_eq, Bool.and_eq_true] at h
  have h1 := h.1
  unfold E.loc E.want at h1
  rcases hk with hk | hk | hk <;> simp [hk] at h1 <;> omega
def E.lxOk (e : E) : Prop := e.txt = lxB e.lx ∧ lxS e.lx = e.sig ∧ ∀ x ∈ e.lx, x.fine
theorem lx_all : ∀ (N : Nat) (e : E), e.sz < N → e.sh = true → e.lxOk
  | 0, e, h, _ => by omega
  | N + 1, .mk k i ks, hN, hs => by
    have hk := E.sh_kind hs
    have hmx := E.sh_loc hs
    have ih : ∀ x ∈ ks, x.lxOk := fun x hx => by
      obtain ⟨j, hj⟩ := List.mem_iff_getElem?.1 hx
      refine lx_all N x ?_ ?_
      · have := E.kid_sz (e := .mk k i ks) hj
        omega
      · rw [E.sh_eq, Bool.and_eq_true] at hs
        exact List.all_eq_true.1 hs.2 x hx
    simp only [E.kind, E.kids, E.id] at hk
    obtain ⟨hk0, hi0, hi9, hsh, hl4, h2, h1, h0⟩ := hk
    have hit := itoa_dec hi0
    have hti : ((i.toNat : Nat) : Int) = i := by omega
    have h63 : k = 1 ∨ k = 7 ∨ k = 10 → i.toNat ≤ 63 := fun h => by
      have := E.sh_63 hs h
      simp only [E.id] at this
      omega
    unfold E.lxOk
    rw [E.lx_mk, E.txt_mk, E.sig_mk]
    have c : k = 1 ∨ (k = 2 ∨ k = 3) ∨ k = 4 ∨ k = 5 ∨ (k = 7 ∨ k = 10) ∨ (k = 6 ∨ k = 8 ∨ k = 9) := by omega
    rcases c with rfl | c | rfl | rfl | c | c
    · obtain rfl : ks = [] := List.length_eq_zero_iff.1 (h0 rfl)
      refine ⟨?_, ?_, ?_⟩
      · simp [txtK, lxK, lxB, Lx.bs, hit]
      · simp [sigK, lxK, lxS, Lx.sig, kindOf, hti]
      · intro x hx
        simp [lxK] at hx
        subst hx
        exact .inl ⟨rfl, h63 (.inl rfl)⟩
    · have hf : (Lx.sy (if k = 3 then 80 else 102) i.toNat).fine := by
        rcases c with rfl | rfl
        · exact .inr ⟨.inl rfl, by omega⟩
        · exact .inr ⟨.inr rfl, by omega⟩
      have h41 : (Lx.sg 41).fine := by show isSign _ = true; decide
      have h40 : (Lx.sg 40).fine := by show isSign _ = true; decide
      have h44 : (Lx.sg 44).fine := by show isSign _ = true; decide
      have hk1 : k ≠ 1 := by omega
      match ks, hl4, ih with
      | [], _, _ =>
        refine ⟨?_, ?_, ?_⟩
        · rcases c with rfl | rfl <;> simp [txtK, lxK, lxB_cons, lxB_nil, Lx.bs, hit, txtP]
        · rcases c with rfl | rfl <;> simp [sigK, lxK, lxS_cons, lxS_nil, Lx.sig, kindOf, hti]
        · intro x hx
          unfold lxK at hx
          rw [if_neg hk1, if_pos c] at hx
          simp at hx
          rw [hx]
          exact hf
      | [a], _, ih =>
        obtain ⟨a1, a2, a3⟩ := ih a (by simp)
        refine ⟨?_, ?_, ?_⟩
        · rcases c with rfl | rfl <;> simp [txtK, lxK, lxA, lxB_app, lxB_cons, lxB_nil, Lx.bs, hit, txtP, a1]
        · rcases c with rfl | rfl <;> simp [sigK, lxK, lxA, sigA, lxS_app, lxS_cons, lxS_nil, Lx.sig, kindOf, hti, a2]
        · intro x hx
          unfold lxK at hx
          rw [if_neg hk1, if_pos c] at hx
          simp [lxA] at hx
          rcases hx with rfl | rfl | h | rfl <;> first | exact hf | exact h40 | exact h41 | exact a3 x h
      | [a, b], _, ih =>
        obtain ⟨a1, a2, a3⟩ := ih a (by simp)
        obtain ⟨b1, b2, b3⟩ := ih b (by simp)
        refine ⟨?_, ?_, ?_⟩
        · rcases c with rfl | rfl <;> simp [txtK, lxK, lxA, lxB_app, lxB_cons, lxB_nil, Lx.bs, hit, txtP, a1, b1]
        · rcases c with rfl | rfl <;> simp [sigK, lxK, lxA, sigA, lxS_app, lxS_cons, lxS_nil, Lx.sig, kindOf, hti, a2, b2]
        · intro x hx
          unfold lxK at hx
          rw [if_neg hk1, if_pos c] at hx
          simp [lxA] at hx
          rcases hx with rfl | rfl | h | rfl | rfl | h | rfl <;> first | exact hf | exact h40 | exact h41 | exact h44 | exact a3 x h | exact b3 x h | trivial
      | [a, b, d], _, ih =>
        obtain ⟨a1, a2, a3⟩ := ih a (by simp)
        obtain ⟨b1, b2, b3⟩ := ih b (by simp)
        obtain ⟨d1, d2, d3⟩ := ih d (by simp)
        refine ⟨?_, ?_, ?_⟩
        · rcases c with rfl | rfl <;> simp [txtK, lxK, lxA, lxB_app, lxB_cons, lxB_nil, Lx.bs, hit, txtP, a1, b1, d1]
        · rcases c with rfl | rfl <;> simp [sigK, lxK, lxA, sigA, lxS_app, lxS_cons, lxS_nil, Lx.sig, kindOf, hti, a2, b2, d2]
        · intro x hx
          unfold lxK at hx
          rw [if_neg hk1, if_pos c] at hx
          simp [lxA] at hx
          rcases hx with rfl | rfl | h | rfl | rfl | h | rfl | rfl | h | rfl <;> first | exact hf | exact h40 | exact h41 | exact h44 | exact a3 x h | exact b3 x h | exact d3 x h | trivial
      | [a, b, d, g], _, ih =>
        obtain ⟨a1, a2, a3⟩ := ih a (by simp)
        obtain ⟨b1, b2, b3⟩ := ih b (by simp)
        obtain ⟨d1, d2, d3⟩ := ih d (by simp)
        obtain ⟨g1, g2, g3⟩ := ih g (by simp)
        refine ⟨?_, ?_, ?_⟩
        · rcases c with rfl | rfl <;> simp [txtK, lxK, lxA, lxB_app, lxB_cons, lxB_nil, Lx.bs, hit, txtP, a1, b1, d1, g1]
        · rcases c with rfl | rfl <;> simp [sigK, lxK, lxA, sigA, lxS_app, lxS_cons, lxS_nil, Lx.sig, kindOf, hti, a2, b2, d2, g2]
        · intro x hx
          unfold lxK at hx
          rw [if_neg hk1, if_pos c] at hx
          simp [lxA] at hx
          rcases hx with rfl | rfl | h | rfl | rfl | h | rfl | rfl | h | rfl | rfl | h | rfl <;> first | exact hf | exact h40 | exact h41 | exact h44 | exact a3 x h | exact b3 x h | exact d3 x h | exact g3 x h | trivial
    · obtain ⟨a, b, rfl⟩ := list_two (h2 (.inl rfl))
      obtain ⟨a1, a2, a3⟩ := ih a (by simp)
      obtain ⟨b1, b2, b3⟩ := ih b (by simp)
      refine ⟨?_, ?_, ?_⟩
      · simp [txtK, lxK, lxB_app, lxB_cons, Lx.bs, a1, b1]
      · simp [sigK, lxK, lxS_app, lxS_cons, Lx.sig, a2, b2]
      · intro x hx
        simp [lxK] at hx
        rcases hx with h | rfl | rfl | rfl | h
        · exact a3 x h
        · trivial
        · show isSign _ = true
          decide
        · trivial
        · exact b3 x h
    · obtain ⟨a, rfl⟩ := list_one (h1 (.inl rfl))
      obtain ⟨a1, a2, a3⟩ := ih a (by simp)
      refine ⟨?_, ?_, ?_⟩
      · simp [txtK, lxK, lxB_app, lxB_cons, Lx.bs, a1]
      · simp [sigK, lxK, lxS_app, lxS_cons, Lx.sig, a2]
      · intro x hx
        simp [lxK] at hx
        rcases hx with rfl | h
        · show isSign _ = true
          decide
        · exact a3 x h
    · obtain ⟨a, rfl⟩ := list_one (h1 (.inr c))
      obtain ⟨a1, a2, a3⟩ := ih a (by simp)
      have hf : (Lx.sy 120 i.toNat).fine := .inl ⟨rfl, h63 (.inr c)⟩
      refine ⟨?_, ?_, ?_⟩
      · rcases c with rfl | rfl <;> simp [txtK, lxK, lxB_app, lxB_cons, Lx.bs, a1, hit]
      · rcases c with rfl | rfl <;> simp [sigK, lxK, lxS_app, lxS_cons, Lx.sig, a2, kindOf, hti]
      · intro x hx
        rcases c with rfl | rfl <;> simp [lxK] at hx <;> rcases hx with rfl | rfl | rfl | h <;> first | exact hf | exact a3 x h | trivial | (show isSign _ = true; decide)
    · obtain ⟨a, b, rfl⟩ := list_two (h2 (by omega))
      obtain ⟨a1, a2, a3⟩ := ih a (by simp)
      obtain ⟨b1, b2, b3⟩ := ih b (by simp)
      refine ⟨?_, ?_, ?_⟩
      · rcases c with rfl | rfl | rfl <;> simp [txtK, lxK, lxB_app, lxB_cons, lxB_nil, Lx.bs, a1, b1]
      · rcases c with rfl | rfl | rfl <;> simp [sigK, lxK, lxS_app, lxS_cons, lxS_nil, Lx.sig, a2, b2]
      · intro x hx
        rcases c with rfl | rfl | rfl <;> simp [lxK] at hx <;> rcases hx with rfl | h | rfl | rfl | rfl | h | rfl <;> first | exact a3 x h | exact b3 x h | trivial | (show isSign _ = true; decide)
theorem lx_of {e : E} (hs : e.sh = true) : e.lxOk := lx_all _ e (Nat.lt_succ_self _) hs
theorem Seg.of_map {l : List Tk} : ∀ {a : List (Int × Int)} {p : Nat}, (l.drop p).map (fun t => (t.kind, t.n)) = a → Seg l p a
  | [], p, _ => trivial
  | x :: a, p, h => by
    have hp : p < l.length := by
      rcases Nat.lt_or_ge p l.length with h1 | h1
      · exact h1
      · rw [List.drop_of_length_le h1] at h
        simp at h
    rw [List.drop_eq_getElem_cons hp, List.map_cons, List.cons.injEq] at h
    refine ⟨⟨l[p], by simp, ?_, ?_⟩, Seg.of_map h.2⟩
    · rw [← h.1]
    · rw [← h.1]
/-- The text of a formula that may be written is read as it. -/
theorem fmRes_rt {e : E} (h0 : e.right = 0) (ht : e.term = false) (hl : e.txt.length ≤ 8000) : fmRes (T e.txt) = .ok e := by
  have hs := right_sh h0
  obtain ⟨h1, h2, h3⟩ := lx_of hs
  obtain ⟨l, h4, h5⟩ := tkGo_lx e.lx [] [] h3
  have h6 : toks (T e.txt) = .ok l := by
    rw [toks, if_neg (by rw [T_size]; omega), h1]
    exact h4
  rw [h2] at h5
  have hg : Seg l 0 e.sig := Seg.of_map (by rw [List.drop_zero]; exact h5)
  have hlen : l.length = e.sig.length := by rw [← h5, List.length_map]
  have hf := fm_rt l (l.length + 1) e 0 (Nat.zero_le _) hs ht (by omega) hg (by
    unfold sgn
    rw [List.getElem?_eq_none (by omega)])
  rw [fmRes, h6]
  show wholeR (T e.txt) l (fmF l (l.length + 1) 0) = _
  rw [hf, wholeR, if_neg (by omega), if_pos h0]
theorem fmU_rt {e : E} (h : e.written = 0) (ht : e.term = false) (hl : e.txt.length ≤ 8000) : fmU (T e.txt) = (e, 0) := by
  have h0 : e.right = 0 := by
    unfold E.written E.wantF at h
    (repeat' split at h) <;> simp_all
  rw [fmU, fmRes_rt h0 ht hl]
  simp [h]
end Go.Proofs.YtkdendaohlnlcaaGreatDoor.Av

/- What the reference of layer 9 reads of a text. No condition. -/
namespace Go.Proofs.YtkdendaohlnlcaaGreatDoor.Av
set_option linter.unusedVariables false
set_option linter.unusedSimpArgs false
set_option maxRecDepth 4000
set_option maxHeartbeats 1000000
variable {w0 : Base} {k : List Nat} {H : Hp}
theorem cutF_mem {s : ByteArray} {c : Int} : ∀ {m fr i : Nat} {x : ByteArray}, x ∈ cutF s c m fr i → x.size ≤ s.size
  | 0, fr, i, x, h => by
    simp only [cutF, List.mem_singleton] at h
    subst h
    simp only [ByteArray.size_extract]
    omega
  | m + 1, fr, i, x, h => by
    rw [cutF] at h
    split at h
    · rcases List.mem_cons.1 h with rfl | h
      · simp only [ByteArray.size_extract]
        omega
      · exact cutF_mem h
    · exact cutF_mem h
theorem lns_mem {l : List ByteArray} {x : ByteArray} (h : x ∈ lns l) : x ∈ l := by
  unfold lns at h
  split at h
  · split at h
    · exact List.mem_of_mem_take h
    · exact h
  · exact h
theorem linesOf_size {s x : ByteArray} (h : x ∈ linesOf s) : x.size ≤ s.size := cutF_mem (lns_mem h)
theorem lns_len (l : List ByteArray) : (lns l).length ≤ l.length := by
  unfold lns
  split
  · split
    · simp
    · exact Nat.le_refl _
  · exact Nat.le_refl _
theorem linesOf_len (s : ByteArray) : (linesOf s).length ≤ s.size + 1 := Nat.le_trans (lns_len _) (cutC_len s 10).2
/-- The names of the first line, and what is wrong with them. -/
def citR (s : ByteArray) : List ByteArray × Int := if beg s ⟨#[99, 105, 116, 101, 115]⟩ = false then ([], 90) else if e0 (s.extract 5 s.size) = true then ([], 0) else if byteAt (s.extract 5 s.size) 0 = 32 then
  (cutC ((s.extract 5 s.size).extract 1 (s.extract 5 s.size).size) 32, namesGo [] (cutC ((s.extract 5 s.size).extract 1 (s.extract 5 s.size).size) 32)) else ([], 90)
def stepsR : List ByteArray → Nat → List Step → List Step × Int × Int
  | [], _, acc => (acc, 0, 0)
  | x :: xs, i, acc => if (stepR x ((i : Int) - 1)).2 = 0 then stepsR xs (i + 1) (acc ++ [(stepR x ((i : Int) - 1)).1]) else ([], (stepR x ((i : Int) - 1)).2, (i : Int) + 1)
inductive PR where
  | ok (u : U)
  | err (e line : Int)
def noU : U := ⟨[], noE, []⟩
def PR.av : PR → AV
  | .ok u => .tup [.agg u.cells, .int .i64 0, .int .i64 0]
  | .err e a => .tup [.agg noU.cells, .int .i64 e, .int .i64 a]
def statesB : ByteArray := ⟨#[115, 116, 97, 116, 101, 115, 32]⟩
def parse3 (c : List ByteArray) (x : E) (r : List Step × Int × Int) : PR := if r.2.1 = 0 then .ok ⟨c, x, r.1⟩ else .err r.2.1 r.2.2
def parse2 (c : List ByteArray) (b : ByteArray) (rest : List ByteArray) : PR :=
  if beg b statesB = false then .err 90 2 else if (fmU (b.extract 7 b.size)).2 = 0 then (match rest with
    | [] => .err 90 3
    | x :: xs => parse3 c (fmU (b.extract 7 b.size)).1 (stepsR (x :: xs) 2 [])) else .err (fmU (b.extract 7 b.size)).2 2
def parse1 (a : ByteArray) (rest : List ByteArray) : PR := if (citR a).2 = 0 then (match rest with
  | [] => .err 90 2
  | b :: r => parse2 (citR a).1 b r) else .err (citR a).2 1
def parseL : List ByteArray → PR
  | [] => .err 90 1
  | a :: rest => parse1 a rest
def parseR (s : ByteArray) : PR := if 20000 < s.size then .err 2 0 else parseL (linesOf s)
/-! the first line -/
def specCi : Spec := ((Spec.no.add 27 (sp2 dS dS (fun _ _ => True) fun s p => .tup [.str (if beg s p then s.extract p.size s.size else ⟨#[]⟩), .bool (beg s p)])).add 31 (sp2 dS dC (fun s _ => s.size ≤ 4000000000) fun s c => .list .none ((cutC s c).map cS.enc))).add 54 (sp1 (dL cS) (fun l => (l.length : Int) ≤ 9223372036854775807) fun l => .int .i64 (namesGo [] l))
theorem specCi_ok : SpecOk Tryz.prog w0 specCi := ((Spec.no_ok.add (sp2_ok fun s p _ k H => begins_call s p)).add (sp2_ok fun s c h k H => cut09_call s c h)).add (sp1_ok fun l h k H => names09_call l h)
theorem cites_weak {e : Int} : Weak (.tup [.list .nil [], .int .i64 e]) (.tup [.list .none [], .int .i64 e]) := WeakL.tup ⟨_, _, rfl, nil_weak, _, _, rfl, Weak.refl _, rfl⟩
theorem cites09_call (s : ByteArray) (hs : s.size ≤ 4000000000) : CallAt Tryz.prog w0 k 26 [.str s] H H (.tup [.list .none ((citR s).1.map cS.enc), .int .i64 (citR s).2]) := by
  refine callAt tabOk specCi_ok mixed Tryz.func26 rfl rfl Tryz.results26 Tryz.ntmps26 (by simp) [] ?_
  intro hfr t hl ht
  simp only [At, Nat.reduceAdd, List.cons_append, List.nil_append] at ht
  have z5 : (#[99, 105, 116, 101, 115] : Array UInt8).size = 5 := rfl
  unfold citR
  cases h1 : beg s ⟨#[99, 105, 116, 101, 115]⟩ with
  | false =>
    simp (config := {contextual := true, maxSteps := 5000000}) only [go_sem, false_and, Nat.reduceAdd, Nat.reduceLT, Nat.reduceBEq, Nat.reduceSub, Nat.reduceMul, Nat.reduceLeDiff, Int.reduceToNat, Nat.reduceEqDiff, Nat.reduceMod, ht, hl, specCi, h1]
    exact cites_weak
  | true =>
    have hx : (s.extract 5 s.size).size ≤ 4000000000 := by simp only [ByteArray.size_extract]; omega
    generalize hr : s.extract 5 s.size = r at hx ⊢
    have hx2 : (r.extract 1 r.size).size ≤ 4000000000 := by simp only [ByteArray.size_extract]; omega
    have hlc := cutC_len (r.extract 1 r.size) 32
    have hr0 : e0 r = false → 0 < r.size := fun h => by
      rcases Nat.eq_zero_or_pos r.size with hz | hz
      · have : r = ⟨#[]⟩ := by apply ByteArray.ext; exact Array.eq_empty_of_size_eq_zero hz
        rw [this] at h
        simp [e0] at h
      · exact hz
    simp (config := {contextual := true, maxSteps := 5000000}) only [go_sem, false_and, Nat.reduceAdd, Nat.reduceLT, Nat.reduceBEq, Nat.reduceSub, Nat.reduceMul, Nat.reduceLeDiff, Int.reduceToNat, Nat.reduceEqDiff, Nat.reduceMod, ht, hl, specCi, h1, z5, hr]
    refine ⟨fun a => ?_, fun a => ⟨⟨by omega, by have := hr0 a; omega⟩, fun b => ?_, fun b => ⟨⟨by omega, by have := hr0 a; omega⟩, hx2, by omega, ?_⟩⟩⟩
    · rw [if_pos (show e0 r = true from a)]
      exact cites_weak
    · rw [if_neg (by rw [show e0 r = false from a]; simp), if_neg (by simpa using b)]
      exact cites_weak
    · rw [if_neg (by rw [show e0 r = false from a]; simp), if_pos (by simpa using b)]
      exact Weak.refl _
end Go.Proofs.YtkdendaohlnlcaaGreatDoor.Av
