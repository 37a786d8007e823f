/- A part of the theory and of the contracts: P09, P09b, U7, U8, U9, Pr, Ln, R08c, LawUnitTells, Br. No condition. -/
import Derived.Test.YtkdendaohlnlcaaGreatDoorMc
import Derived.Test.YtkdendaohlnlcaaGreatDoorMd
import Derived.DataReads
import Derived.DataElems
/- What the functions of package unit answer: names, steps. No condition. -/
namespace Go.Proofs.YtkdendaohlnlcaaGreatDoor.Av
set_option linter.unusedVariables false
set_option linter.unusedSimpArgs false
set_option maxRecDepth 4000
set_option maxHeartbeats 1000000
variable {w0 : Base} {k : List Nat} {H : Hp}
theorem number_call (c : Int) : CallAt Tryz.prog w0 k 108 [.int .i64 c] H H (.bool (number c)) := by
  refine callAt tabOk Spec.no_ok mixed Tryz.func108 rfl rfl Tryz.results108 Tryz.ntmps108 (by simp) [] ?_
  intro hfr t hl ht
  simp only [At, Nat.reduceAdd, List.cons_append, List.nil_append] at ht
  simp (config := {contextual := true, maxSteps := 5000000}) only [go_sem, false_and, Nat.reduceAdd, Nat.reduceLT, Nat.reduceBEq, Nat.reduceSub, Nat.reduceMul, Nat.reduceLeDiff, Int.reduceToNat, Nat.reduceEqDiff, Nat.reduceMod, ht, hl]
  simp +contextual [number] <;> omega
theorem okc_iff (c : Int) : okc c = true ↔ (97 ≤ c ∧ c ≤ 122) ∨ (48 ≤ c ∧ c ≤ 57) ∨ c = 45 := by
  simp [okc, small, digit]
  omega
theorem small_iff (c : Int) : small c = true ↔ 97 ≤ c ∧ c ≤ 122 := by simp [small]
theorem isName_iff (s : ByteArray) : isName s = true ↔ 1 ≤ s.size ∧ s.size ≤ 12 ∧ small (byteAt s 0) = true ∧ ∀ i : Nat, i < s.size → okc (byteAt s i) = true := by simp only [isName, decide_eq_true_eq]
theorem name_call (s : ByteArray) (hs : (s.size : Int) ≤ 9223372036854775807) : CallAt Tryz.prog w0 k 72 [.str s] H H (.bool (isName s)) := by
  refine callAt tabOk Spec.no_ok mixed Tryz.func72 rfl rfl Tryz.results72 Tryz.ntmps72 (by simp) [] ?_
  intro hfr t hl ht
  simp only [At, Nat.reduceAdd, List.cons_append, List.nil_append] at ht
  simp (config := {contextual := true, maxSteps := 5000000}) only [go_sem, false_and, Nat.reduceAdd, Nat.reduceLT, Nat.reduceBEq, Nat.reduceSub, Nat.reduceMul, Nat.reduceLeDiff, Int.reduceToNat, Nat.reduceEqDiff, Nat.reduceMod, ht, hl]
  refine loop_inv tabOk Spec.no_ok mixed [] (fun j x => ∃ i : Nat, x.tmps.length = 47 ∧ x.tmps.getD 0 AV.undef = .str s ∧ x.tmps.getD 3 AV.undef = .int .i64 i ∧ x.H = H ∧ i + j = s.size ∧ (0 < i → small (byteAt s 0) = true) ∧ ∀ i', i' < i → okc (byteAt s i') = true) s.size ⟨0, ?_⟩ ?_
  · simp (config := {contextual := true, maxSteps := 5000000}) only [go_sem, false_and, Nat.reduceAdd, Nat.reduceLT, Nat.reduceBEq, Nat.reduceSub, Nat.reduceMul, Nat.reduceLeDiff, Int.reduceToNat, Nat.reduceEqDiff, Nat.reduceMod, ht, hl]
    simp
  · rintro j ⟨t, m, H'⟩ ⟨i, hl, h0, h3', rfl, hij, hz, hall⟩
    simp only at hl h0 h3'
    by_cases hi : i < s.size
    · have hd : decide ((i : Int) < (s.size : Int)) = true := by simp [hi]
      have hw : IntKind.i64.wrap ((i : Int) + 1) = ((i + 1 : Nat) : Int) := by rw [wrap_i64] <;> omega
      simp (config := {contextual := true, maxSteps := 5000000}) only [go_sem, false_and, Nat.reduceAdd, Nat.reduceLT, Nat.reduceBEq, Nat.reduceSub, Nat.reduceMul, Nat.reduceLeDiff, Int.reduceToNat, Nat.reduceEqDiff, Nat.reduceMod, h0, h3', hl, hd, hw]
      have nx : ((97 ≤ byteAt s i ∧ byteAt s i ≤ 122) ∨ (48 ≤ byteAt s i ∧ byteAt s i ≤ 57) ∨ byteAt s i = 45) → ((i : Int) = 0 → 97 ≤ byteAt s i ∧ byteAt s i ≤ 122) → ∃ j', j = j' + 1 ∧ ∃ i_1 : Nat, ((i + 1 : Nat) : Int) = (i_1 : Int) ∧ i_1 + j' = s.size ∧ (0 < i_1 → small (byteAt s 0) = true) ∧ ∀ i', i' < i_1 → okc (byteAt s i') = true :=
        fun h h2 => ⟨j - 1, by omega, i + 1, rfl, by omega, fun _ => by
          by_cases e : i = 0
          · subst e
            exact (small_iff _).2 (h2 rfl)
          · exact hz (by omega), fun i' h' => by
          by_cases e : i' = i
          · rw [e]; exact (okc_iff _).2 h
          · exact hall i' (by omega)⟩
      have no1 : ¬ ((97 ≤ byteAt s i ∧ byteAt s i ≤ 122) ∨ (48 ≤ byteAt s i ∧ byteAt s i ≤ 57) ∨ byteAt s i = 45) → isName s = false := fun h => by
        rw [← okc_iff] at h
        cases hn : isName s with
        | false => rfl
        | true => exact absurd (((isName_iff s).1 hn).2.2.2 i hi) h
      have no2 : (i : Int) = 0 → ¬ (97 ≤ byteAt s i ∧ byteAt s i ≤ 122) → isName s = false := fun h0 h => by
        obtain rfl : i = 0 := by omega
        rw [← small_iff] at h
        cases hn : isName s with
        | false => rfl
        | true => exact absurd ((isName_iff s).1 hn).2.2.1 h
      generalize (∃ j', j = j' + 1 ∧ ∃ i_1 : Nat, ((i + 1 : Nat) : Int) = (i_1 : Int) ∧ i_1 + j' = s.size ∧ (0 < i_1 → small (byteAt s 0) = true) ∧ ∀ i', i' < i_1 → okc (byteAt s i') = true) = NX at nx ⊢
      simp only [decide_eq_true_eq, decide_eq_false_iff_not, Bool.not_eq_true', Bool.not_eq_false', bne_iff_ne, bne_eq_false_iff_eq, beq_iff_eq, beq_eq_false_iff_ne, ne_eq, Bool.false_eq, Bool.true_eq]
      (repeat' (first | apply And.intro | intro _)) <;> first | omega | exact nx (by omega) (by omega) | exact no1 (by omega) | exact no2 (by omega) (by omega)
    · have hd : decide ((i : Int) < (s.size : Int)) = false := by simp; omega
      simp (config := {contextual := true, maxSteps := 5000000}) only [go_sem, false_and, Nat.reduceAdd, Nat.reduceLT, Nat.reduceBEq, Nat.reduceSub, Nat.reduceMul, Nat.reduceLeDiff, Int.reduceToNat, Nat.reduceEqDiff, Nat.reduceMod, h0, h3', hl, hd]
      have key : 1 ≤ s.size → s.size ≤ 12 → isName s = true := fun h1 h2 => (isName_iff s).2 ⟨h1, h2, hz (by omega), fun i' h' => hall i' (by omega)⟩
      have k2 : ¬ (1 ≤ s.size ∧ s.size ≤ 12) → isName s = false := fun h => by
        cases hn : isName s with
        | false => rfl
        | true => exact absurd ⟨((isName_iff s).1 hn).1, ((isName_iff s).1 hn).2.1⟩ h
      refine ⟨fun a => ?_, fun a => ?_⟩ <;> simp only [decide_eq_true_eq, decide_eq_false_iff_not] at a
      · by_cases b : s.size ≤ 12
        · rw [key (by omega) b]
          simp
          omega
        · rw [k2 (by omega)]
          simp
          omega
      · rw [k2 (by omega)]
def specP0 : Spec := (Spec.no.add 108 (sp1 dI (fun _ => True) fun c => .bool (number c))).add 72 (sp1 dS (fun s => (s.size : Int) ≤ 9223372036854775807) fun c => .bool (isName c))
theorem specP0_ok : SpecOk Tryz.prog w0 specP0 := (Spec.no_ok.add (sp1_ok fun c _ k H => number_call c)).add (sp1_ok fun c h k H => name_call c h)
theorem shaped09_call (s : Step) : CallAt Tryz.prog w0 k 76 [(dA cStep).enc s] H H (.bool s.fine) := by
  refine callAt tabOk specP0_ok mixed Tryz.func76 rfl rfl Tryz.results76 Tryz.ntmps76 (by simp) [] ?_
  intro hfr t hl ht
  simp only [At, dA, cStep, Step.cells] at ht
  have hc : (s.by_ = 1 ∨ s.by_ = 2 ∨ s.by_ = 3 ∨ s.by_ = 4) ∨ (s.by_ == 1) = false ∧ (s.by_ == 2) = false ∧ (s.by_ == 3) = false ∧ (s.by_ == 4) = false := by
    simp only [beq_eq_false_iff_ne]
    omega
  unfold Step.fine
  rcases hc with (hb | hb | hb | hb) | ⟨b1, b2, b3, b4⟩
  · simp (config := {contextual := true, maxSteps := 5000000}) only [go_sem, false_and, Nat.reduceAdd, Nat.reduceLT, Nat.reduceBEq, Nat.reduceSub, Nat.reduceMul, Nat.reduceLeDiff, Int.reduceToNat, Nat.reduceEqDiff, Nat.reduceMod, ht, hl, hb, specP0, Int.reduceBEq]
    (repeat' (first | apply And.intro | intro _)) <;> simp_all [e0]
  · simp (config := {contextual := true, maxSteps := 5000000}) only [go_sem, false_and, Nat.reduceAdd, Nat.reduceLT, Nat.reduceBEq, Nat.reduceSub, Nat.reduceMul, Nat.reduceLeDiff, Int.reduceToNat, Nat.reduceEqDiff, Nat.reduceMod, ht, hl, hb, specP0, Int.reduceBEq]
    (repeat' (first | apply And.intro | intro _)) <;> simp_all [e0]
  · simp (config := {contextual := true, maxSteps := 5000000}) only [go_sem, false_and, Nat.reduceAdd, Nat.reduceLT, Nat.reduceBEq, Nat.reduceSub, Nat.reduceMul, Nat.reduceLeDiff, Int.reduceToNat, Nat.reduceEqDiff, Nat.reduceMod, ht, hl, hb, specP0, Int.reduceBEq]
    (repeat' (first | apply And.intro | intro _)) <;> simp_all [e0]
  · simp (config := {contextual := true, maxSteps := 5000000}) only [go_sem, false_and, Nat.reduceAdd, Nat.reduceLT, Nat.reduceBEq, Nat.reduceSub, Nat.reduceMul, Nat.reduceLeDiff, Int.reduceToNat, Nat.reduceEqDiff, Nat.reduceMod, ht, hl, hb, specP0, Int.reduceBEq]
    (repeat' (first | apply And.intro | intro _)) <;> simp_all [e0]
  · simp (config := {contextual := true, maxSteps := 5000000}) only [go_sem, false_and, Nat.reduceAdd, Nat.reduceLT, Nat.reduceBEq, Nat.reduceSub, Nat.reduceMul, Nat.reduceLeDiff, Int.reduceToNat, Nat.reduceEqDiff, Nat.reduceMod, ht, hl, b1, b2, b3, b4, specP0, Int.reduceBEq]
    simp only [beq_eq_false_iff_ne] at b1 b2 b3 b4
    simp [b1, b2, b3, b4]
def specP1 : Spec := specP0.add 76 (sp1 (dA cStep) (fun _ => True) fun s => .bool s.fine)
theorem specP1_ok : SpecOk Tryz.prog w0 specP1 := specP0_ok.add (sp1_ok fun s _ k H => shaped09_call s)
def Step.err (s : Step) (i : Int) : Int := if 60 ≤ i then 2 else s.why
theorem reasoned_call (s : Step) (i : Int) (hs : (s.cite.size : Int) ≤ 9223372036854775807) : CallAt Tryz.prog w0 k 47 [(dA cStep).enc s, .int .i64 i] H H (.int .i64 (s.err i)) := by
  refine callAt tabOk specP1_ok mixed Tryz.func47 rfl rfl Tryz.results47 Tryz.ntmps47 (by simp) [] ?_
  intro hfr t hl ht
  simp only [At, dA, cStep, Step.cells, Nat.reduceAdd] at ht
  simp (config := {contextual := true, maxSteps := 5000000}) only [go_sem, false_and, Nat.reduceAdd, Nat.reduceLT, Nat.reduceBEq, Nat.reduceSub, Nat.reduceMul, Nat.reduceLeDiff, Int.reduceToNat, Nat.reduceEqDiff, Nat.reduceMod, ht, hl, specP1, specP0]
  unfold Step.err Step.why
  (repeat' (first | apply And.intro | intro _)) <;> simp_all <;> omega
def citedErr (had : List ByteArray) (s : ByteArray) : Int := if isName s then (if had.any fun t => t.toList == s.toList then 92 else if 8 ≤ had.length then 2 else 0) else 91
theorem cited_call (l : List ByteArray) (s : ByteArray) (hn : (l.length : Int) ≤ 9223372036854775807) (hs : (s.size : Int) ≤ 9223372036854775807) : CallAt Tryz.prog w0 k 45 [(dL cS).enc l, .str s] H H (.int .i64 (citedErr l s)) := by
  refine callAt tabOk specP1_ok mixed Tryz.func45 rfl rfl Tryz.results45 Tryz.ntmps45 (by simp) [] ?_
  intro hfr t hl ht
  simp only [At, dL, Nat.reduceAdd] at ht
  simp (config := {contextual := true, maxSteps := 5000000}) only [go_sem, false_and, Nat.reduceAdd, Nat.reduceLT, Nat.reduceBEq, Nat.reduceSub, Nat.reduceMul, Nat.reduceLeDiff, Int.reduceToNat, Nat.reduceEqDiff, Nat.reduceMod, ht, hl, specP1, specP0]
  refine ⟨hs, fun a => ?_, fun a => ?_⟩ <;> simp only [Bool.not_eq_true', Bool.not_eq_false'] at a
  · simp [citedErr, a]
  · refine loop_inv tabOk specP1_ok mixed [] (fun q x => ∃ m : Nat, x.tmps.length = 23 ∧ x.tmps.getD 0 AV.undef = .list .none (l.map cS.enc) ∧ x.tmps.getD 1 AV.undef = .str s ∧ x.tmps.getD 10 AV.undef = .list .none (l.map cS.enc) ∧ x.tmps.getD 11 AV.undef = .int .i64 l.length ∧
      x.tmps.getD 12 AV.undef = .int .i64 m ∧ x.H = H ∧ m + q = l.length ∧ ∀ m' y, m' < m → l[m']? = some y → (y.toList == s.toList) = false) l.length ⟨0, ?_⟩ ?_
    · simp (config := {contextual := true, maxSteps := 5000000}) only [go_sem, false_and, Nat.reduceAdd, Nat.reduceLT, Nat.reduceBEq, Nat.reduceSub, Nat.reduceMul, Nat.reduceLeDiff, Int.reduceToNat, Nat.reduceEqDiff, Nat.reduceMod, ht, hl]
      simp
    · rintro q ⟨t, n, H'⟩ ⟨m, hl, h0, h1, h10, h11, h12, hH, hmq, hno⟩
      simp only at hl h0 h1 h10 h11 h12 hH
      subst hH
      by_cases hm : m < l.length
      · have hd : decide ((m : Int) < (l.length : Int)) = true := by simp [hm]
        have hw3 : IntKind.i64.wrap ((m : Int) + 1) = ((m + 1 : Nat) : Int) := by rw [wrap_i64] <;> omega
        obtain ⟨y, hy, hye⟩ := str_get l hm
        simp (config := {contextual := true, maxSteps := 5000000}) only [go_sem, false_and, Nat.reduceAdd, Nat.reduceLT, Nat.reduceBEq, Nat.reduceSub, Nat.reduceMul, Nat.reduceLeDiff, Int.reduceToNat, Nat.reduceEqDiff, Nat.reduceMod, hye, h0, h1, h10, h11, h12, hl, hd, hw3]
        refine ⟨⟨by omega, by omega⟩, fun b => ?_, fun b => ⟨q - 1, by omega, m + 1, rfl, by omega, fun m' z hm' hz => ?_⟩⟩
        · have : (l.any fun t => t.toList == s.toList) = true := by
            rw [List.any_eq_true]
            exact ⟨y, List.mem_of_getElem? hy, b⟩
          simp [citedErr, a, this]
        · by_cases e : m' = m
          · subst e
            rw [hy] at hz
            cases hz
            exact b
          · exact hno m' z (by omega) hz
      · have hd : decide ((m : Int) < (l.length : Int)) = false := by simp; omega
        simp (config := {contextual := true, maxSteps := 5000000}) only [go_sem, false_and, Nat.reduceAdd, Nat.reduceLT, Nat.reduceBEq, Nat.reduceSub, Nat.reduceMul, Nat.reduceLeDiff, Int.reduceToNat, Nat.reduceEqDiff, Nat.reduceMod, h0, h1, h10, h11, h12, hl, hd]
        have : (l.any fun t => t.toList == s.toList) = false := by
          rw [List.any_eq_false]
          intro y hy
          obtain ⟨m', hm', rfl⟩ := List.getElem_of_mem hy
          have := hno m' l[m'] (by omega) (by simp)
          simp [this]
        simp only [citedErr, a, this, Bool.false_eq_true, if_false, if_true]
        refine ⟨fun b => ?_, fun b => ?_⟩ <;> simp only [decide_eq_true_eq, decide_eq_false_iff_not] at b
        · rw [if_pos (by omega)]
        · rw [if_neg (by omega)]
end Go.Proofs.YtkdendaohlnlcaaGreatDoor.Av

/- What unit.written and unit.Right answer. No condition. -/
namespace Go.Proofs.YtkdendaohlnlcaaGreatDoor.Av
set_option linter.unusedVariables false
set_option linter.unusedSimpArgs false
set_option maxRecDepth 4000
set_option maxHeartbeats 1000000
variable {w0 : Base} {k : List Nat} {H : Hp}
theorem written_call (e : E) (hok : e.ok) : CallAt Tryz.prog w0 k 46 [e.av] H H (.int .i64 e.written) := by
  refine callAt tabOk specX5_ok mixed Tryz.func46 rfl rfl Tryz.results46 Tryz.ntmps46 (by simp) [] ?_
  intro hfr t hl ht
  simp only [At, Nat.reduceAdd, List.cons_append, List.nil_append] at ht
  simp (config := {contextual := true, maxSteps := 5000000}) only [go_sem, false_and, Nat.reduceAdd, Nat.reduceLT, Nat.reduceBEq, Nat.reduceSub, Nat.reduceMul, Nat.reduceLeDiff, Int.reduceToNat, Nat.reduceEqDiff, Nat.reduceMod, ht, hl, specX5]
  unfold E.written E.wantF
  (repeat' (first | apply And.intro | intro _)) <;> simp_all <;> omega
def U.okN (u : U) : Prop := u.ok ∧ (∀ s ∈ u.cites, (s.size : Int) ≤ 9223372036854775807) ∧ ∀ s ∈ u.steps, (s.cite.size : Int) ≤ 9223372036854775807
def specPU : Spec := ((Spec.no.add 45 (sp2 (dL cS) dS (fun l s => (l.length : Int) ≤ 9223372036854775807 ∧ (s.size : Int) ≤ 9223372036854775807) fun l s => .int .i64 (citedErr l s))).add
  46 (sp1 dE (fun e => e.ok) fun e => .int .i64 e.written)).add 47 (sp2 (dA cStep) dI (fun s _ => (s.cite.size : Int) ≤ 9223372036854775807) fun s i => .int .i64 (s.err i))
theorem specPU_ok : SpecOk Tryz.prog w0 specPU := ((Spec.no_ok.add (sp2_ok fun l s h k H => cited_call l s h.1 h.2)).add (sp1_ok fun e h k H => written_call e h)).add (sp2_ok fun s i h k H => reasoned_call s i h)
theorem namesGo_cited (l : List ByteArray) {i : Nat} {s : ByteArray} (hs : l[i]? = some s) : namesGo (l.take i) (l.drop i) = if citedErr (l.take i) s = 0 then namesGo (l.take (i + 1)) (l.drop (i + 1)) else citedErr (l.take i) s := by
  have hi : i < l.length := (List.getElem?_eq_some_iff.1 hs).1
  have hlen : (l.take i).length = i := by rw [List.length_take]; omega
  rw [namesGo_at l hs]
  unfold citedErr
  rw [hlen]
  cases isName s with
  | false => simp
  | true =>
    cases (l.take i).any fun t => t.toList == s.toList with
    | true => simp
    | false =>
      by_cases h8 : 8 ≤ i
      · simp [h8]
      · simp [h8]
theorem stepsGo_err (l : List Step) {i : Nat} {s : Step} (h : l[i]? = some s) : stepsGo i (l.drop i) = if s.err i = 0 then (if s.says.written = 0 then stepsGo (i + 1) (l.drop (i + 1)) else s.says.written) else s.err i := by
  rw [stepsGo_at l h]
  unfold Step.err
  by_cases h6 : 60 ≤ i
  · have h6' : (60 : Int) ≤ (i : Int) := by omega
    simp only [if_pos h6, if_pos h6']
    simp
  · have h6' : ¬ (60 : Int) ≤ (i : Int) := by omega
    simp only [if_neg h6, if_neg h6']
theorem right_call (u : U) (hok : u.okN) : CallAt Tryz.prog w0 k 20 [(dA cU).enc u] H H (.int .i64 u.right) := by
  refine callAt tabOk specPU_ok mixed Tryz.func20 rfl rfl Tryz.results20 Tryz.ntmps20 (by simp) [] ?_
  intro hfr t hl ht
  simp only [At, dA, cU, U.cells] at ht
  simp (config := {contextual := true, maxSteps := 5000000}) only [go_sem, false_and, Nat.reduceAdd, Nat.reduceLT, Nat.reduceBEq, Nat.reduceSub, Nat.reduceMul, Nat.reduceLeDiff, Int.reduceToNat, Nat.reduceEqDiff, Nat.reduceMod, ht, hl, specPU]
  refine loop_inv tabOk specPU_ok mixed [] (fun j x => x.tmps.length = 54 ∧ x.tmps.getD 1 AV.undef = .sptr u.cells ∧ x.H = H) 1 ?_ ?_
  · simp (config := {contextual := true, maxSteps := 5000000}) only [go_sem, false_and, Nat.reduceAdd, Nat.reduceLT, Nat.reduceBEq, Nat.reduceSub, Nat.reduceMul, Nat.reduceLeDiff, Int.reduceToNat, Nat.reduceEqDiff, Nat.reduceMod, ht, hl, U.cells]
  · rintro j ⟨t, n, H'⟩ ⟨hl, h1, rfl⟩
    simp only [U.cells] at hl h1
    simp (config := {contextual := true, maxSteps := 5000000}) only [go_sem, false_and, Nat.reduceAdd, Nat.reduceLT, Nat.reduceBEq, Nat.reduceSub, Nat.reduceMul, Nat.reduceLeDiff, Int.reduceToNat, Nat.reduceEqDiff, Nat.reduceMod, h1, hl]
    obtain ⟨⟨ok1, ok2, ok3, ok4⟩, ok5, ok6⟩ := hok
    refine loop_inv tabOk specPU_ok mixed [] (fun j x => ∃ i : Nat, x.tmps.length = 54 ∧ x.tmps.getD 1 AV.undef = .sptr u.cells ∧ x.tmps.getD 9 AV.undef = .list .none (u.cites.map cS.enc) ∧ x.tmps.getD 10 AV.undef = .int .i64 u.cites.length ∧ x.tmps.getD 11 AV.undef = .int .i64 i ∧ x.H = H' ∧ i + j = u.cites.length ∧
      namesGo (u.cites.take i) (u.cites.drop i) = namesGo [] u.cites) u.cites.length ⟨0, ?_⟩ ?_
    · simp (config := {contextual := true, maxSteps := 5000000}) only [go_sem, false_and, Nat.reduceAdd, Nat.reduceLT, Nat.reduceBEq, Nat.reduceSub, Nat.reduceMul, Nat.reduceLeDiff, Int.reduceToNat, Nat.reduceEqDiff, Nat.reduceMod, h1, hl, U.cells]
      simp
    · rintro j ⟨t, n, H''⟩ ⟨i, hl, h1, h9, h10, h11, hH, hij, hgo⟩
      simp only [U.cells] at hl h1 h9 h10 h11 hH
      subst hH
      by_cases hi : i < u.cites.length
      · have hd : decide ((i : Int) < (u.cites.length : Int)) = true := by simp [hi]
        have hw2 : IntKind.i64.wrap ((i : Int) + 1) = ((i + 1 : Nat) : Int) := by rw [wrap_i64] <;> omega
        obtain ⟨s, hs, he⟩ := str_get u.cites hi
        have htk : (u.cites.map cS.enc).take i = (u.cites.take i).map cS.enc := by rw [List.map_take]
        have hat := namesGo_at u.cites hs
        have hgo2 := namesGo_cited u.cites hs
        simp (config := {contextual := true, maxSteps := 5000000}) only [go_sem, false_and, Nat.reduceAdd, Nat.reduceLT, Nat.reduceBEq, Nat.reduceSub, Nat.reduceMul, Nat.reduceLeDiff, Int.reduceToNat, Nat.reduceEqDiff, Nat.reduceMod, he, htk, specPU, h1, h9, h10, h11, hl, hd, hw2]
        have hen : ∀ x ∈ u.cites.map cS.enc, x.length = 1 := fun x hx => by
          obtain ⟨y, _, rfl⟩ := List.mem_map.1 hx
          rfl
        have hsz : (s.size : Int) ≤ 9223372036854775807 := ok5 s (List.mem_of_getElem? hs)
        refine ⟨⟨by omega, by omega⟩, ⟨by omega, by omega, hen⟩, ⟨by rw [List.length_take]; omega, hsz⟩, fun a => ?_, fun a => ⟨j - 1, by omega, i + 1, rfl, rfl, by omega, ?_⟩⟩
        · simp only [bne_iff_ne, ne_eq] at a
          have : namesGo [] u.cites = citedErr (u.cites.take i) s := by rw [← hgo, hgo2, if_neg a]
          rw [U.right, this, if_neg a]
        · simp only [bne_eq_false_iff_eq] at a
          rw [← hgo, hgo2, if_pos a]
      · have hd : decide ((i : Int) < (u.cites.length : Int)) = false := by simp; omega
        have hnm : namesGo [] u.cites = 0 := by rw [← hgo, List.drop_of_length_le (by omega)]; rfl
        simp (config := {contextual := true, maxSteps := 5000000}) only [go_sem, false_and, Nat.reduceAdd, Nat.reduceLT, Nat.reduceBEq, Nat.reduceSub, Nat.reduceMul, Nat.reduceLeDiff, Int.reduceToNat, Nat.reduceEqDiff, Nat.reduceMod, h1, h9, h10, h11, hl, hd, specPU]
        refine ⟨ok3, fun a => ?_, fun a => ⟨fun b => ?_, fun b => ?_⟩⟩
        · simp only [bne_iff_ne, ne_eq] at a
          simp [U.right, hnm, a]
        · simp only [bne_eq_false_iff_eq, beq_iff_eq] at a b
          have : u.steps.length = 0 := by omega
          simp [U.right, hnm, a, this]
        · simp only [bne_eq_false_iff_eq, beq_eq_false_iff_ne] at a b
          have hr : u.right = stepsGo 0 u.steps := by
            have : u.steps.length ≠ 0 := by omega
            simp [U.right, hnm, a, this]
          refine loop_inv tabOk specPU_ok mixed [] (fun j x => ∃ i : Nat, x.tmps.length = 54 ∧ x.tmps.getD 3 AV.undef = .int .i64 0 ∧ x.tmps.getD 35 AV.undef = .list .none (u.steps.map cStep.enc) ∧
            x.tmps.getD 36 AV.undef = .int .i64 u.steps.length ∧ x.tmps.getD 37 AV.undef = .int .i64 i ∧ H''.Le x.H ∧ i + j = u.steps.length ∧ stepsGo i (u.steps.drop i) = u.right) u.steps.length ⟨0, ?_⟩ ?_
          · simp (config := {contextual := true, maxSteps := 5000000}) only [go_sem, false_and, Nat.reduceAdd, Nat.reduceLT, Nat.reduceBEq, Nat.reduceSub, Nat.reduceMul, Nat.reduceLeDiff, Int.reduceToNat, Nat.reduceEqDiff, Nat.reduceMod, h1, h9, h10, h11, hl]
            simp [hr, a, Hp.Le.refl]
          · rintro j ⟨t, n, H3⟩ ⟨i, hl, h3, h35, h36, h37, hH, hij, hgo⟩
            simp only at hl h3 h35 h36 h37 hH
            by_cases hi : i < u.steps.length
            · have hd : decide ((i : Int) < (u.steps.length : Int)) = true := by simp [hi]
              have hw2 : IntKind.i64.wrap ((i : Int) + 1) = ((i + 1 : Nat) : Int) := by rw [wrap_i64] <;> omega
              obtain ⟨s, hs, he⟩ := step_get u.steps hi
              have hat := stepsGo_err u.steps hs
              have hcs : s.cells = [.int .i64 s.says.kind, .int .i64 s.says.id, .list .none (s.says.kids.map E.cells), .int .i64 s.by_, .int .i64 s.a, .int .i64 s.b, .str s.cite] := rfl
              rw [hcs] at he
              simp (config := {contextual := true, maxSteps := 5000000}) only [go_sem, false_and, Nat.reduceAdd, Nat.reduceLT, Nat.reduceBEq, Nat.reduceSub, Nat.reduceMul, Nat.reduceLeDiff, Int.reduceToNat, Nat.reduceEqDiff, Nat.reduceMod, he, specPU, h3, h35, h36, h37, hl, hd, hw2]
              have hn : H'' ⟨7, 3 :: (n + 1) :: k, 50⟩ = none := hfr _ (sfx2 _ _ _)
              have hle : ∀ a, H''.Le (H3.upd ⟨7, 3 :: (n + 1) :: k, 50⟩ a) := fun a => Hp.le_upd hH hn
              have hcz := ok6 s (List.mem_of_getElem? hs)
              have hso := ok4 s (List.mem_of_getElem? hs)
              rw [← hgo, hat]
              refine ⟨⟨by omega, by omega⟩, hcz, fun a => ⟨hso, fun b => ⟨?_, hle _⟩, fun b => ⟨j - 1, by omega, i + 1, ?_, rfl, hle _, by omega, ?_⟩⟩, fun a => ⟨fun b => ⟨?_, hle _⟩, fun b => ?_⟩⟩ <;> simp only [beq_iff_eq, beq_eq_false_iff_ne, bne_iff_ne, ne_eq, bne_eq_false_iff_eq] at a b
              · rw [if_pos a, if_neg b]
              · exact b
              · rw [if_pos a, if_pos b]
              · rw [if_neg a]
              · exact absurd b a
            · have hd : decide ((i : Int) < (u.steps.length : Int)) = false := by simp; omega
              simp (config := {contextual := true, maxSteps := 5000000}) only [go_sem, false_and, Nat.reduceAdd, Nat.reduceLT, Nat.reduceBEq, Nat.reduceSub, Nat.reduceMul, Nat.reduceLeDiff, Int.reduceToNat, Nat.reduceEqDiff, Nat.reduceMod, h3, h35, h36, h37, hl, hd]
              rw [← hgo, List.drop_of_length_le (by omega)]
              exact ⟨rfl, hH⟩
end Go.Proofs.YtkdendaohlnlcaaGreatDoor.Av

/- What package unit reads of a line. No condition. -/
namespace Go.Proofs.YtkdendaohlnlcaaGreatDoor.Av
set_option linter.unusedVariables false
set_option linter.unusedSimpArgs false
set_option maxRecDepth 4000
set_option maxHeartbeats 1000000
variable {w0 : Base} {k : List Nat} {H : Hp}
def specFv : Spec := (Spec.no.add 51 (sp1 dS (fun _ => True) fun s => (fmRes s).av)).add 46 (sp1 dE (fun e => e.ok) fun e => .int .i64 e.written)
theorem specFv_ok : SpecOk Tryz.prog w0 specFv := (Spec.no_ok.add (sp1_ok fun s _ k H => formulaX_call s)).add (sp1_ok fun e h k H => written_call e h)
theorem formulaU_call (s : ByteArray) : CallAt Tryz.prog w0 k 24 [.str s] H H (.tup [(fmU s).1.av, .int .i64 (fmU s).2]) := by
  refine callAt tabOk specFv_ok mixed Tryz.func24 rfl rfl Tryz.results24 Tryz.ntmps24 (by simp) [] ?_
  intro hfr t hl ht
  simp only [At, Nat.reduceAdd, List.cons_append, List.nil_append] at ht
  have fN : ∀ (a b : Nat) z ty, H ⟨z, a :: b :: k, ty⟩ = none := fun a b z ty => hfr _ (sfx2 _ _ _)
  unfold fmU
  have he0 : ((0 : Int) == 0) = true := rfl
  cases hf : fmRes s with
  | ok x =>
    simp (config := {contextual := true, maxSteps := 5000000}) only [go_sem, false_and, Nat.reduceAdd, Nat.reduceLT, Nat.reduceBEq, Nat.reduceSub, Nat.reduceMul, Nat.reduceLeDiff, Int.reduceToNat, Nat.reduceEqDiff, Nat.reduceMod, ht, hl, specFv, hf, FR.av, he0, toE_at]
    exact ⟨(fmRes_ok hf).1, by (repeat (first | exact Hp.Le.refl _ | refine Hp.le_upd ?_ (fN _ _ _ _)))⟩
  | err e a =>
    have he : (e == 0) = false := by simpa using fmRes_ne hf
    simp (config := {contextual := true, maxSteps := 5000000}) only [go_sem, false_and, Nat.reduceAdd, Nat.reduceLT, Nat.reduceBEq, Nat.reduceSub, Nat.reduceMul, Nat.reduceLeDiff, Int.reduceToNat, Nat.reduceEqDiff, Nat.reduceMod, ht, hl, specFv, hf, FR.av, he]
    exact ⟨noE_weak, by (repeat (first | exact Hp.Le.refl _ | refine Hp.le_upd ?_ (fN _ _ _ _)))⟩
theorem linesU_call (hm : MaxW w0) (s : ByteArray) (hs : s.size ≤ 4000000000) : CallAt Tryz.prog w0 k 21 [.str s] H H (.list .none ((linesOf s).map cS.enc)) := by
  refine callAt tabOk Spec.no_ok mixed Tryz.func21 rfl rfl Tryz.results21 Tryz.ntmps21 (by simp) [] ?_
  intro hfr t hl ht
  simp only [At, Nat.reduceAdd, List.cons_append, List.nil_append] at ht
  have fN : ∀ (a b : Nat) z ty, H ⟨z, a :: b :: k, ty⟩ = none := fun a b z ty => hfr _ (sfx2 _ _ _)
  have hn := cutC_len s 10
  have hsp : ∀ k H, CallAt Tryz.prog w0 k 48 [.str s, .str ⟨#[10]⟩] H (H.upd ⟨1, k, 9⟩ (some .tok)) (.list (.tok ⟨1, k, 9⟩) ((cutC s 10).map cS.enc)) := fun k H => split_call (w0 := w0) (k := k) (H := H) hm s 10 (by omega)
  obtain ⟨x, hx, hxe⟩ := str_get (cutC s 10) (i := (cutC s 10).length - 1) (by omega)
  have hw : IntKind.i64.wrap (((cutC s 10).length : Int) - 1) = (((cutC s 10).length - 1 : Nat) : Int) := by rw [wrap_i64] <;> omega
  unfold linesOf lns
  rw [hx]
  simp (config := {contextual := true, maxSteps := 5000000}) only [go_sem, false_and, Nat.reduceAdd, Nat.reduceLT, Nat.reduceBEq, Nat.reduceSub, Nat.reduceMul, Nat.reduceLeDiff, Int.reduceToNat, Nat.reduceEqDiff, Nat.reduceMod, ht, hl]
  refine callK_intro (hsp _ _) ?_
  simp (config := {contextual := true, maxSteps := 5000000}) only [go_sem, false_and, Nat.reduceAdd, Nat.reduceLT, Nat.reduceBEq, Nat.reduceSub, Nat.reduceMul, Nat.reduceLeDiff, Int.reduceToNat, Nat.reduceEqDiff, Nat.reduceMod, ht, hl, hw, hxe]
  refine ⟨⟨by omega, by omega⟩, fun a => ⟨⟨by omega, by omega, cS_each _⟩, ?_, Hp.le_upd (Hp.Le.refl _) (fN _ _ _ _)⟩, fun a => ⟨?_, Hp.le_upd (Hp.Le.refl _) (fN _ _ _ _)⟩⟩
  · rw [show e0 x = true from a, if_pos rfl, List.map_take]
    exact Weak.refl _
  · rw [show e0 x = false from a, if_neg (by simp)]
    exact list_weak
def specSp : Spec := ((((Spec.no.add 37 (sp1 dI (fun n => 0 ≤ n ∧ n < 100) fun n => .str (T (Lib.itoa n)))).add 23 (sp2 dS dS (fun _ _ => True) fun s p => .tup [.str (if beg s p then s.extract p.size s.size else s), .bool (beg s p)])).add 47 (sp2 (dA cStep) dI (fun s _ => (s.cite.size : Int) ≤ 9223372036854775807) fun s i => .int .i64 (s.err i))).add
  24 (sp1 dS (fun _ => True) fun s => .tup [(fmU s).1.av, .int .i64 (fmU s).2]))
theorem specSp_ok : SpecOk Tryz.prog w0 specSp := ((((Spec.no_ok.add (sp1_ok fun n h k H => itoa_small n h.1 h.2)).add (sp2_ok fun s p _ k H => cutPrefix_call s p)).add (sp2_ok fun s i h k H => reasoned_call s i h)).add (sp1_ok fun s _ k H => formulaU_call s))
def specSq (hm : MaxW w0) : Spec := (specSp.add 52 (sp2 dS dS (fun s p => s.size < 4294967281 ∧ p = ⟨#[58]⟩) fun s _ => .tup [.str (s.extract 0 (fstC s 58)), .str (s.extract (fstC s 58 + 1) s.size), .bool (decide (fstC s 58 < s.size))])).add 53 (sp1 dS (fun s => s.size ≤ 4000000000) fun s => .tup [(rdP (cutC s 32)).1.av, .bool (rdP (cutC s 32)).2])
theorem specSq_ok (hm : MaxW w0) : SpecOk Tryz.prog w0 (specSq hm) := (specSp_ok.add (sp2_ok fun s p h k H => by
  obtain ⟨h1, rfl⟩ := h
  exact cut_call (w0 := w0) (k := k) (H := H) hm s 58 h1)).add (sp1_ok fun s h k H => read_callU hm s h)
theorem rdP_cite {w : List ByteArray} {n : Nat} (h : ∀ x ∈ w, x.size ≤ n) : (rdP w).1.cite.size ≤ n := by
  have z : (⟨#[]⟩ : ByteArray).size ≤ n := Nat.zero_le _
  unfold rdP
  split
  · rename_i a b
    split
    · exact z
    · split
      · exact h b (by simp)
      · exact z
  · split
    · exact z
    · split
      · exact z
      · exact z
  · exact z
theorem err_fine {st : Step} {i : Int} (hf : st.fine = true) (hi : ¬ 60 ≤ i) : st.err i = if st.by_ = 4 ∧ isName st.cite = false then 91 else 0 := by
  rw [Step.err, if_neg hi, Step.why, if_pos hf]
theorem stepU_call (hm : MaxW w0) (s : ByteArray) (i : Int) (hs : s.size ≤ 4000000000) (hn : 0 ≤ i) : CallAt Tryz.prog w0 k 25 [.str s, .int .i64 i] H H (.tup [(stepR s (i + 1)).1.av, .int .i64 (stepR s (i + 1)).2]) := by
  refine callAt tabOk (specSq_ok hm) mixed Tryz.func25 rfl rfl Tryz.results25 Tryz.ntmps25 (by simp) [] ?_
  intro hfr t hl ht
  simp only [At, Nat.reduceAdd, List.cons_append, List.nil_append] at ht
  have fN : ∀ (a b : Nat) z ty, H ⟨z, a :: b :: k, ty⟩ = none := fun a b z ty => hfr _ (sfx2 _ _ _)
  by_cases h60 : 60 ≤ i
  · have d60 : decide ((60 : Int) ≤ i) = true := by simpa using h60
    rw [stepR, if_pos (by omega)]
    simp (config := {contextual := true, maxSteps := 5000000}) only [go_sem, false_and, Nat.reduceAdd, Nat.reduceLT, Nat.reduceBEq, Nat.reduceSub, Nat.reduceMul, Nat.reduceLeDiff, Int.reduceToNat, Nat.reduceEqDiff, Nat.reduceMod, ht, hl, specSq, specSp, d60]
    exact ⟨step_weakE, by (repeat (first | exact Hp.Le.refl _ | refine Hp.le_upd ?_ (fN _ _ _ _)))⟩
  have d60 : decide ((60 : Int) ≤ i) = false := by simpa using h60
  rw [stepR, if_neg (by omega)]
  have hw : IntKind.i64.wrap (i + 1) = i + 1 := by rw [wrap_i64] <;> omega
  have hnt : ByteArray.mk (Lib.itoa (i + 1) ++ [32]).toArray = numT (i + 1) := rfl
  have z32 : (#[32] : Array UInt8).size = 1 := rfl
  have hsz2 : ((s.extract (fstC s 58 + 1) s.size).extract 1 (s.extract (fstC s 58 + 1) s.size).size).size ≤ 4000000000 := by simp only [ByteArray.size_extract]; omega
  generalize ha : s.extract 0 (fstC s 58) = said
  generalize hb : s.extract (fstC s 58 + 1) s.size = behind at hsz2 ⊢
  have hs2 : s.size < 4294967281 := by omega
  have hi2 : 0 ≤ i + 1 ∧ i + 1 < 100 := by omega
  have hnl := Lib.itoa_length_le (i + 1) (by omega) (by omega)
  have hszn : (((Lib.itoa (i + 1)).toArray.size + 1 : Nat) : Int) ≤ 9223372036854775807 := by rw [List.size_toArray]; omega
  by_cases h3 : fstC s 58 < s.size
  · have d3 : decide (fstC s 58 < s.size) = true := by simpa using h3
    rw [if_pos h3]
    cases h1 : beg said (numT (i + 1)) with
    | false =>
      cases h2 : beg behind ⟨#[32]⟩ <;>
      · simp (config := {contextual := true, maxSteps := 5000000}) only [go_sem, false_and, Nat.reduceAdd, Nat.reduceLT, Nat.reduceBEq, Nat.reduceSub, Nat.reduceMul, Nat.reduceLeDiff, Int.reduceToNat, Nat.reduceEqDiff, Nat.reduceMod, ht, hl, specSq, specSp, d60, hw, ha, hb, hnt, h1, h2, d3, z32]
        exact ⟨hs2, hi2, hszn, step_weakE, by (repeat (first | exact Hp.Le.refl _ | refine Hp.le_upd ?_ (fN _ _ _ _)))⟩
    | true =>
      cases h2 : beg behind ⟨#[32]⟩ with
      | false =>
        simp (config := {contextual := true, maxSteps := 5000000}) only [go_sem, false_and, Nat.reduceAdd, Nat.reduceLT, Nat.reduceBEq, Nat.reduceSub, Nat.reduceMul, Nat.reduceLeDiff, Int.reduceToNat, Nat.reduceEqDiff, Nat.reduceMod, ht, hl, specSq, specSp, d60, hw, ha, hb, hnt, h1, h2, d3, z32]
        exact ⟨hs2, hi2, hszn, step_weakE, by (repeat (first | exact Hp.Le.refl _ | refine Hp.le_upd ?_ (fN _ _ _ _)))⟩
      | true =>
        obtain ⟨q1, q2⟩ := rd_eq (cutC (behind.extract 1 behind.size) 32)
        have hcz := rdP_cite (w := cutC (behind.extract 1 behind.size) 32) (n := 4000000000) fun x hx => by have := cutF_mem hx; omega
        generalize hf : fmU (said.extract (numT (i + 1)).size said.size) = f
        generalize hr : rdP (cutC (behind.extract 1 behind.size) 32) = rp at q1 q2 hcz
        generalize hrw : rdW (cutC (behind.extract 1 behind.size) 32) = r at q1 q2
        obtain ⟨st, b⟩ := r
        obtain ⟨sp, bp⟩ := rp
        simp only at q1 q2 hcz
        subst q1
        cases bp with
        | false =>
          simp (config := {contextual := true, maxSteps := 5000000}) only [go_sem, false_and, Nat.reduceAdd, Nat.reduceLT, Nat.reduceBEq, Nat.reduceSub, Nat.reduceMul, Nat.reduceLeDiff, Int.reduceToNat, Nat.reduceEqDiff, Nat.reduceMod, ht, hl, specSq, specSp, d60, hw, ha, hb, hnt, h1, h2, d3, z32, hr, Step.cells]
          exact ⟨hs2, hi2, hszn, hsz2, step_weakE, by (repeat (first | exact Hp.Le.refl _ | refine Hp.le_upd ?_ (fN _ _ _ _)))⟩
        | true =>
          obtain ⟨q3, q4⟩ := q2 rfl
          cases q3
          have herr := err_fine (i := i) q4 h60
          have hcz2 : (st.cite.size : Int) ≤ 9223372036854775807 := by omega
          have n91 : ((91 : Int) != 0) = true := rfl
          have n00 : ((0 : Int) != 0) = false := rfl
          by_cases hq : st.by_ = 4 ∧ isName st.cite = false
          · rw [if_pos hq] at herr
            rw [show stepF (st, true) f = (noStep, 91) by rw [stepF, if_neg (by simp), if_pos hq]]
            simp (config := {contextual := true, maxSteps := 5000000}) only [go_sem, false_and, Nat.reduceAdd, Nat.reduceLT, Nat.reduceBEq, Nat.reduceSub, Nat.reduceMul, Nat.reduceLeDiff, Int.reduceToNat, Nat.reduceEqDiff, Nat.reduceMod, ht, hl, specSq, specSp, d60, hw, ha, hb, hnt, h1, h2, d3, z32, hr, hf, Step.cells, herr, n91]
            exact ⟨hs2, hi2, hszn, hsz2, hcz2, step_weakE, by (repeat (first | exact Hp.Le.refl _ | refine Hp.le_upd ?_ (fN _ _ _ _)))⟩
          · rw [if_neg hq] at herr
            rw [show stepF (st, true) f = (⟨f.1, st.by_, st.a, st.b, st.cite⟩, f.2) by rw [stepF, if_neg (by simp), if_neg hq]]
            simp (config := {contextual := true, maxSteps := 5000000}) only [go_sem, false_and, Nat.reduceAdd, Nat.reduceLT, Nat.reduceBEq, Nat.reduceSub, Nat.reduceMul, Nat.reduceLeDiff, Int.reduceToNat, Nat.reduceEqDiff, Nat.reduceMod, ht, hl, specSq, specSp, d60, hw, ha, hb, hnt, h1, h2, d3, z32, hr, hf, Step.cells, herr, n00]
            exact ⟨hs2, hi2, hszn, hsz2, hcz2, Weak.refl _, by (repeat (first | exact Hp.Le.refl _ | refine Hp.le_upd ?_ (fN _ _ _ _)))⟩
  · have d3 : decide (fstC s 58 < s.size) = false := by simpa using h3
    rw [if_neg h3]
    cases h1 : beg said (numT (i + 1)) <;> cases h2 : beg behind ⟨#[32]⟩ <;>
    · simp (config := {contextual := true, maxSteps := 5000000}) only [go_sem, false_and, Nat.reduceAdd, Nat.reduceLT, Nat.reduceBEq, Nat.reduceSub, Nat.reduceMul, Nat.reduceLeDiff, Int.reduceToNat, Nat.reduceEqDiff, Nat.reduceMod, ht, hl, specSq, specSp, d60, hw, ha, hb, hnt, h1, h2, d3, z32]
      exact ⟨hs2, hi2, hszn, step_weakE, by (repeat (first | exact Hp.Le.refl _ | refine Hp.le_upd ?_ (fN _ _ _ _)))⟩
end Go.Proofs.YtkdendaohlnlcaaGreatDoor.Av

/- What package unit reads of a text's first line. No condition. -/
namespace Go.Proofs.YtkdendaohlnlcaaGreatDoor.Av
set_option linter.unusedVariables false
set_option linter.unusedSimpArgs false
set_option maxRecDepth 4000
set_option maxHeartbeats 1000000
variable {w0 : Base} {k : List Nat} {H : Hp}
def nmU (s : ByteArray) : List ByteArray × Int := if (citR s).2 = 0 then citR s else ([], (citR s).2)
def specNm : Spec := ((Spec.no.add 23 (sp2 dS dS (fun _ _ => True) fun s p => .tup [.str (if beg s p then s.extract p.size s.size else s), .bool (beg s p)])).add 45 (sp2 (dL cS) dS (fun l s => (l.length : Int) ≤ 9223372036854775807 ∧ (s.size : Int) ≤ 9223372036854775807) fun l s => .int .i64 (citedErr l s))).add 49 (sp1 dS (fun s => s.size ≤ 281474976710656) fun s => .str s)
theorem specNm_ok : SpecOk Tryz.prog w0 specNm := ((Spec.no_ok.add (sp2_ok fun s p _ k H => cutPrefix_call s p)).add (sp2_ok fun l s h k H => cited_call l s h.1 h.2)).add (sp1_ok fun s h k H => clone_call s h)
theorem namesU_call (hm : MaxW w0) (s : ByteArray) (hs : s.size ≤ 4000000000) : CallAt Tryz.prog w0 k 22 [.str s] H H (.tup [.list .none ((nmU s).1.map cS.enc), .int .i64 (nmU s).2]) := by
  refine callAt tabOk specNm_ok mixed Tryz.func22 rfl rfl Tryz.results22 Tryz.ntmps22 (by simp) [] ?_
  intro hfr t hl ht
  simp only [At, Nat.reduceAdd, List.cons_append, List.nil_append] at ht
  have fN : ∀ (a b : Nat) z ty, H ⟨z, a :: b :: k, ty⟩ = none := fun a b z ty => hfr _ (sfx2 _ _ _)
  have z5 : (#[99, 105, 116, 101, 115] : Array UInt8).size = 5 := rfl
  have n90 : ¬ ((90 : Int) = 0) := by decide
  cases h1 : beg s ⟨#[99, 105, 116, 101, 115]⟩ with
  | false =>
    rw [show nmU s = ([], 90) by simp [nmU, citR, h1]]
    simp (config := {contextual := true, maxSteps := 5000000}) only [go_sem, false_and, Nat.reduceAdd, Nat.reduceLT, Nat.reduceBEq, Nat.reduceSub, Nat.reduceMul, Nat.reduceLeDiff, Int.reduceToNat, Nat.reduceEqDiff, Nat.reduceMod, ht, hl, specNm, h1]
    exact cites_weak
  | true =>
    have hx : (s.extract 5 s.size).size ≤ 4000000000 := by simp only [ByteArray.size_extract]; omega
    generalize hr : s.extract 5 s.size = r at hx
    have hr0 : e0 r = false → 0 < r.size := fun h => by
      rcases Nat.eq_zero_or_pos r.size with hz | hz
      · have : r = ⟨#[]⟩ := by apply ByteArray.ext; exact Array.eq_empty_of_size_eq_zero hz
        rw [this] at h
        simp [e0] at h
      · exact hz
    cases h2 : e0 r with
    | true =>
      rw [show nmU s = ([], 0) by simp [nmU, citR, h1, hr, h2]]
      have h2' : (r.toList == (⟨#[]⟩ : ByteArray).toList) = true := h2
      simp (config := {contextual := true, maxSteps := 5000000}) only [go_sem, false_and, Nat.reduceAdd, Nat.reduceLT, Nat.reduceBEq, Nat.reduceSub, Nat.reduceMul, Nat.reduceLeDiff, Int.reduceToNat, Nat.reduceEqDiff, Nat.reduceMod, ht, hl, specNm, h1, hr, h2', z5]
      exact cites_weak
    | false =>
      have hrp := hr0 h2
      have h2' : (r.toList == (⟨#[]⟩ : ByteArray).toList) = false := h2
      cases h3 : byteAt r 0 != 32 with
      | true =>
        rw [show nmU s = ([], 90) by simp [nmU, citR, h1, hr, h2, show ¬ byteAt r 0 = 32 by simpa using h3]]
        simp (config := {contextual := true, maxSteps := 5000000}) only [go_sem, false_and, Nat.reduceAdd, Nat.reduceLT, Nat.reduceBEq, Nat.reduceSub, Nat.reduceMul, Nat.reduceLeDiff, Int.reduceToNat, Nat.reduceEqDiff, Nat.reduceMod, ht, hl, specNm, h1, hr, h2', z5, h3]
        exact ⟨⟨by omega, by omega⟩, cites_weak⟩
      | false =>
        have hx2 : (r.extract 1 r.size).size ≤ 4000000000 := by simp only [ByteArray.size_extract]; omega
        have hsp : ∀ k H, CallAt Tryz.prog w0 k 48 [.str (r.extract 1 r.size), .str ⟨#[32]⟩] H (H.upd ⟨1, k, 9⟩ (some .tok)) (.list (.tok ⟨1, k, 9⟩) ((cutC (r.extract 1 r.size) 32).map cS.enc)) := fun k H => split_call (w0 := w0) (k := k) (H := H) hm _ 32 (by omega)
        have hci : citR s = (cutC (r.extract 1 r.size) 32, namesGo [] (cutC (r.extract 1 r.size) 32)) := by simp [citR, h1, hr, h2, show byteAt r 0 = 32 by simpa using h3]
        have hlen := cutC_len (r.extract 1 r.size) 32
        have hmem : ∀ x ∈ cutC (r.extract 1 r.size) 32, x.size ≤ 4000000000 := fun x hx => by have := cutF_mem hx; omega
        rw [nmU, hci]
        generalize cutC (r.extract 1 r.size) 32 = l at hsp hlen hmem ⊢
        simp (config := {contextual := true, maxSteps := 5000000}) only [go_sem, false_and, Nat.reduceAdd, Nat.reduceLT, Nat.reduceBEq, Nat.reduceSub, Nat.reduceMul, Nat.reduceLeDiff, Int.reduceToNat, Nat.reduceEqDiff, Nat.reduceMod, ht, hl, specNm, h1, hr, h2', z5, h3]
        refine ⟨⟨by omega, by omega⟩, ⟨by omega, by omega⟩, callK_intro (hsp _ _) ?_⟩
        simp (config := {contextual := true, maxSteps := 5000000}) only [go_sem, false_and, Nat.reduceAdd, Nat.reduceLT, Nat.reduceBEq, Nat.reduceSub, Nat.reduceMul, Nat.reduceLeDiff, Int.reduceToNat, Nat.reduceEqDiff, Nat.reduceMod, ht, hl, specNm]
        have hen : ∀ x ∈ l.map cS.enc, x.length = 1 := cS_each l
        refine loop_invD (fun j y => ∃ i : Nat, y.tmps.length = 53 ∧ y.tmps.getD 6 AV.undef = .list (.tok ⟨1, 2 :: 4 :: k, 9⟩) (l.map cS.enc) ∧ y.tmps.getD 31 AV.undef = .list (.tok ⟨1, 2 :: 4 :: k, 9⟩) (l.map cS.enc) ∧ y.tmps.getD 32 AV.undef = .int .i64 l.length ∧ y.tmps.getD 33 AV.undef = .int .i64 i ∧
          y.H = H.upd ⟨1, 2 :: 4 :: k, 9⟩ (some .tok) ∧ i + j = l.length ∧ namesGo (l.take i) (l.drop i) = namesGo [] l) l.length ⟨0, ?_⟩ ?_
        · simp (config := {contextual := true, maxSteps := 5000000}) only [go_sem, false_and, Nat.reduceAdd, Nat.reduceLT, Nat.reduceBEq, Nat.reduceSub, Nat.reduceMul, Nat.reduceLeDiff, Int.reduceToNat, Nat.reduceEqDiff, Nat.reduceMod, ht, hl]
          exact ⟨rfl, by omega⟩
        · rintro j ⟨t, n, H2⟩ ⟨i, hl, h6, h31, h32, h33, hH, hij, hgo⟩
          simp only at hl h6 h31 h32 h33 hH
          subst hH
          by_cases hi : i < l.length
          · have hd : decide ((i : Int) < (l.length : Int)) = true := by simp [hi]
            have hw : IntKind.i64.wrap ((i : Int) + 1) = ((i + 1 : Nat) : Int) := by rw [wrap_i64] <;> omega
            obtain ⟨x, hx, he⟩ := str_get l hi
            have htk : (l.map cS.enc).take i = (l.take i).map cS.enc := by rw [List.map_take]
            have hgo2 := namesGo_cited l hx
            have hxs := hmem x (List.mem_of_getElem? hx)
            refine DetOk.cut tabOk specNm_ok mixed [] ?_
            simp (config := {contextual := true, maxSteps := 5000000}) only [go_sem, false_and, Nat.reduceAdd, Nat.reduceLT, Nat.reduceBEq, Nat.reduceSub, Nat.reduceMul, Nat.reduceLeDiff, Int.reduceToNat, Nat.reduceEqDiff, Nat.reduceMod, h6, h31, h32, h33, hl, hd]
            refine DetOk.cut tabOk specNm_ok mixed [] ?_
            simp (config := {contextual := true, maxSteps := 5000000}) only [go_sem, false_and, Nat.reduceAdd, Nat.reduceLT, Nat.reduceBEq, Nat.reduceSub, Nat.reduceMul, Nat.reduceLeDiff, Int.reduceToNat, Nat.reduceEqDiff, Nat.reduceMod, h6, h31, h32, h33, hl, hd]
            refine DetOk.seq (DetOk.block (DetOk.cut tabOk specNm_ok mixed [] ?_))
            simp (config := {contextual := true, maxSteps := 5000000}) only [go_sem, false_and, Nat.reduceAdd, Nat.reduceLT, Nat.reduceBEq, Nat.reduceSub, Nat.reduceMul, Nat.reduceLeDiff, Int.reduceToNat, Nat.reduceEqDiff, Nat.reduceMod, h6, h31, h32, h33, hl, hd, he]
            refine ⟨⟨by omega, by omega⟩, DetOk.cut tabOk specNm_ok mixed [] ?_⟩
            simp (config := {contextual := true, maxSteps := 5000000}) only [go_sem, false_and, Nat.reduceAdd, Nat.reduceLT, Nat.reduceBEq, Nat.reduceSub, Nat.reduceMul, Nat.reduceLeDiff, Int.reduceToNat, Nat.reduceEqDiff, Nat.reduceMod, h6, h31, h32, h33, hl, hd, he, htk, specNm]
            refine ⟨⟨by omega, by omega, hen⟩, ⟨by rw [List.length_take]; omega, by omega⟩, fun a => ?_, fun a => ?_⟩
            · simp only [bne_iff_ne, ne_eq] at a
              have hz : namesGo [] l = citedErr (l.take i) x := by rw [← hgo, hgo2, if_neg a]
              rw [hz, if_neg a]
              exact ⟨cites_weak, Hp.le_upd (Hp.Le.refl _) (fN _ _ _ _)⟩
            · simp only [bne_eq_false_iff_eq] at a
              refine DetOk.keep tabOk specNm_ok [] 4 rfl rfl rfl rfl rfl rfl rfl rfl rfl tab_22 tab_9 (by intro h; cases h) (by simp [hl]) ?_
              simp (config := {contextual := true, maxSteps := 5000000}) only [go_sem, false_and, Nat.reduceAdd, Nat.reduceLT, Nat.reduceBEq, Nat.reduceSub, Nat.reduceMul, Nat.reduceLeDiff, Int.reduceToNat, Nat.reduceEqDiff, Nat.reduceMod, h6, h31, h32, h33, hl, hd, he, specNm]
              refine ⟨by omega, ⟨by omega, by omega⟩, ?_⟩
              refine DetOk.of_vc tabOk specNm_ok mixed [] ?_
              simp (config := {contextual := true, maxSteps := 5000000}) only [go_sem, false_and, Nat.reduceAdd, Nat.reduceLT, Nat.reduceBEq, Nat.reduceSub, Nat.reduceMul, Nat.reduceLeDiff, Int.reduceToNat, Nat.reduceEqDiff, Nat.reduceMod, h6, h31, h32, h33, hl, hw]
              exact ⟨j - 1, by omega, i + 1, rfl, by omega, by rw [← hgo, hgo2, if_pos a]⟩
          · have hd : decide ((i : Int) < (l.length : Int)) = false := by simp; omega
            have hnm : namesGo [] l = 0 := by rw [← hgo, List.drop_of_length_le (by omega)]; rfl
            refine DetOk.of_vc tabOk specNm_ok mixed [] ?_
            simp (config := {contextual := true, maxSteps := 5000000}) only [go_sem, false_and, Nat.reduceAdd, Nat.reduceLT, Nat.reduceBEq, Nat.reduceSub, Nat.reduceMul, Nat.reduceLeDiff, Int.reduceToNat, Nat.reduceEqDiff, Nat.reduceMod, h6, h31, h32, h33, hl, hd]
            rw [hnm, if_pos rfl]
            exact ⟨WeakL.tup ⟨_, _, rfl, list_weak, _, _, rfl, Weak.refl _, rfl⟩, Hp.le_upd (Hp.Le.refl _) (fN _ _ _ _)⟩
end Go.Proofs.YtkdendaohlnlcaaGreatDoor.Av

/- What package unit reads of a text. No condition. -/
namespace Go.Proofs.YtkdendaohlnlcaaGreatDoor.Av
set_option linter.unusedVariables false
set_option linter.unusedSimpArgs false
set_option maxRecDepth 4000
set_option maxHeartbeats 1000000
variable {w0 : Base} {k : List Nat} {H : Hp}
def specPu (hm : MaxW w0) : Spec := ((((Spec.no.add 21 (sp1 dS (fun s => s.size ≤ 4000000000) fun s => .list .none ((linesOf s).map cS.enc))).add 22 (sp1 dS (fun s => s.size ≤ 4000000000) fun s => .tup [.list .none ((nmU s).1.map cS.enc), .int .i64 (nmU s).2])).add 23 (sp2 dS dS (fun _ _ => True) fun s p => .tup [.str (if beg s p then s.extract p.size s.size else s), .bool (beg s p)])).add
  24 (sp1 dS (fun _ => True) fun s => .tup [(fmU s).1.av, .int .i64 (fmU s).2])).add 25 (sp2 dS dI (fun s n => s.size ≤ 4000000000 ∧ 0 ≤ n) fun s n => .tup [(stepR s (n + 1)).1.av, .int .i64 (stepR s (n + 1)).2])
theorem specPu_ok (hm : MaxW w0) : SpecOk Tryz.prog w0 (specPu hm) := ((((Spec.no_ok.add (sp1_ok fun s h k H => linesU_call hm s h)).add (sp1_ok fun s h k H => namesU_call hm s h)).add (sp2_ok fun s p _ k H => cutPrefix_call s p)).add (sp1_ok fun s _ k H => formulaU_call s)).add (sp2_ok fun s n h k H => stepU_call hm s n h.1 h.2)
/-- How far the reading is, ahead of the line i: the unit's cells, and what the whole comes to. -/
def PState (l : List ByteArray) (H0 : Hp) (k : List Nat) (i : Nat) (c : List AV) (H : Hp) : Prop :=
  (i = 0 ∧ c = [.list .nil [], .int .i64 0, .int .i64 0, .list .nil [], .list .nil []]) ∨
  (i = 1 ∧ ∃ a rest, l = a :: rest ∧ (citR a).2 = 0 ∧ c = [.list .none ((citR a).1.map cS.enc), .int .i64 0, .int .i64 0, .list .nil [], .list .nil []]) ∨
  ((2 ≤ i ∧ i ≤ l.length) ∧ ∃ cs x acc tk, parseL l = (match l.drop 2 with
    | [] => .err 90 3
    | y :: ys => parse3 cs x (stepsR (y :: ys) 2 [])) ∧ 2 ≤ l.length ∧ stepsR (l.drop i) i acc = stepsR (l.drop 2) 2 [] ∧ acc.length ≤ i ∧ c = [.list .none (cs.map cS.enc), .int .i64 x.kind, .int .i64 x.id, .list .none (x.kids.map E.cells), .list tk (acc.map cStep.enc)] ∧ LstK H0 7 50 4 k tk H)
theorem parseU_call (hm : MaxW w0) (s : ByteArray) : CallAt Tryz.prog w0 k 8 [.str s] H H (parseR s).av := by
  refine callAt tabOk (specPu_ok hm) mixed Tryz.func8 rfl rfl Tryz.results8 Tryz.ntmps8 (by simp) [] ?_
  intro hfr t hl ht
  simp only [At, Nat.reduceAdd, List.cons_append, List.nil_append] at ht
  have fN : ∀ (a b : Nat) z ty, H ⟨z, a :: b :: k, ty⟩ = none := fun a b z ty => hfr _ (sfx2 _ _ _)
  have he0 : ((0 : Int) != 0) = false := rfl
  unfold parseR
  by_cases hbig : 20000 < s.size
  · have d : decide ((20000 : Int) < (s.size : Int)) = true := by simp; omega
    rw [if_pos hbig]
    simp (config := {contextual := true, maxSteps := 5000000}) only [go_sem, false_and, Nat.reduceAdd, Nat.reduceLT, Nat.reduceBEq, Nat.reduceSub, Nat.reduceMul, Nat.reduceLeDiff, Int.reduceToNat, Nat.reduceEqDiff, Nat.reduceMod, ht, hl, specPu, d]
    exact ⟨unit_weak0, by (repeat (first | exact Hp.Le.refl _ | refine Hp.le_upd ?_ (fN _ _ _ _)))⟩
  have d : decide ((20000 : Int) < (s.size : Int)) = false := by simp; omega
  have hs : s.size ≤ 4000000000 := by omega
  rw [if_neg hbig]
  have hlen := linesOf_len s
  have hsz : ∀ x ∈ linesOf s, x.size ≤ 4000000000 := fun x hx => by have := linesOf_size hx; omega
  generalize hln : linesOf s = l at hlen hsz ⊢
  obtain ⟨mx, hmx⟩ : ∃ mx : Nat, mx = max 3 l.length := ⟨_, rfl⟩
  have hmi : (if (3 : Int) < (l.length : Int) then (l.length : Int) else 3) = (mx : Int) := by
    split <;> omega
  simp (config := {contextual := true, maxSteps := 5000000}) only [go_sem, false_and, Nat.reduceAdd, Nat.reduceLT, Nat.reduceBEq, Nat.reduceSub, Nat.reduceMul, Nat.reduceLeDiff, Int.reduceToNat, Nat.reduceEqDiff, Nat.reduceMod, ht, hl, specPu, d, hln, hmi]
  refine ⟨hs, ?_⟩
  refine loop_inv tabOk (specPu_ok hm) mixed [] (fun j y => ∃ (i : Nat) (c : List AV), y.tmps.length = 82 ∧ y.tmps.getD 2 AV.undef = .ptr ⟨5, 0 :: 0 :: k, 28⟩ 0 ∧ y.tmps.getD 5 AV.undef = .list .none (l.map cS.enc) ∧ y.tmps.getD 6 AV.undef = .ptr ⟨5, 0 :: 3 :: k, 28⟩ 0 ∧ y.tmps.getD 7 AV.undef = .int .i64 0 ∧
    y.tmps.getD 20 AV.undef = .int .i64 mx ∧ y.tmps.getD 21 AV.undef = .int .i64 i ∧ y.H ⟨5, 0 :: 3 :: k, 28⟩ = some (.cells c) ∧ H.Le y.H ∧ i + j = mx ∧ PState l H k i c y.H) mx ⟨0, [.list .nil [], .int .i64 0, .int .i64 0, .list .nil [], .list .nil []], ?_⟩ ?_
  · simp (config := {contextual := true, maxSteps := 5000000}) only [go_sem, false_and, Nat.reduceAdd, Nat.reduceLT, Nat.reduceBEq, Nat.reduceSub, Nat.reduceMul, Nat.reduceLeDiff, Int.reduceToNat, Nat.reduceEqDiff, Nat.reduceMod, ht, hl]
    exact ⟨rfl, by (repeat (first | exact Hp.Le.refl _ | refine Hp.le_upd ?_ (fN _ _ _ _))), by omega, .inl ⟨rfl, rfl⟩⟩
  · rintro j ⟨t, n, H2⟩ ⟨i, c, hl, h2, h5, h6, h7, h20, h21, hc, hle, hij, hst⟩
    simp only at hl h2 h5 h6 h7 h20 h21 hc hle hst
    have hw : IntKind.i64.wrap ((i : Int) + 1) = ((i + 1 : Nat) : Int) := by rw [wrap_i64] <;> omega
    by_cases hi : i < mx
    · have hd : decide ((i : Int) < (mx : Int)) = true := by simp [hi]
      have hw2 : IntKind.i64.wrap ((i : Int) - 2) = (i : Int) - 2 := by rw [wrap_i64] <;> omega
      rcases hst with ⟨rfl, rfl⟩ | ⟨rfl, a, rest, rfl, hca, rfl⟩ | ⟨⟨h2i, hil2⟩, cs, x, acc, tk, hF, hl2, hgo, hacc, rfl, hL⟩
      · have e00 : (((0 : Nat) : Int) == 0) = true := rfl
        cases l with
        | nil =>
          have d0 : decide (((0 : Nat) : Int) ≤ ((0 : Nat) : Int)) = true := rfl
          have n90 : ((90 : Int) != 0) = true := rfl
          simp (config := {contextual := true, maxSteps := 5000000}) only [go_sem, false_and, Nat.reduceAdd, Nat.reduceLT, Nat.reduceBEq, Nat.reduceSub, Nat.reduceMul, Nat.reduceLeDiff, Int.reduceToNat, Nat.reduceEqDiff, Nat.reduceMod, h2, h5, h6, h7, h20, h21, hl, hd, hc, hw, d0, n90]
          exact ⟨unit_weak0, by (repeat (first | exact hle | refine Hp.le_upd ?_ (fN _ _ _ _)))⟩
        | cons a rest =>
          have d0 : decide (((rest.length + 1 : Nat) : Int) ≤ ((0 : Nat) : Int)) = false := by simp <;> omega
          have b0 : (0 : Int) ≤ 0 ∧ (0 : Int) < ((rest.length + 1 : Nat) : Int) := by omega
          have ha := hsz a (by simp)
          by_cases hca : (citR a).2 = 0
          · have hnm : nmU a = citR a := by rw [nmU, if_pos hca]
            simp (config := {contextual := true, maxSteps := 5000000}) only [go_sem, false_and, Nat.reduceAdd, Nat.reduceLT, Nat.reduceBEq, Nat.reduceSub, Nat.reduceMul, Nat.reduceLeDiff, Int.reduceToNat, Nat.reduceEqDiff, Nat.reduceMod, h2, h5, h6, h7, h20, h21, hl, hd, hc, hw, d0, e00, cS_at, b0, specPu, hnm, hca, he0]
            exact ⟨ha, j - 1, by omega, 1, _, rfl, rfl, by (repeat (first | exact hle | refine Hp.le_upd ?_ (fN _ _ _ _))), by omega, .inr (.inl ⟨rfl, a, rest, rfl, hca, rfl⟩)⟩
          · have hnm : nmU a = ([], (citR a).2) := by rw [nmU, if_neg hca]
            have hcb : ((citR a).2 != 0) = true := by simpa using hca
            simp (config := {contextual := true, maxSteps := 5000000}) only [go_sem, false_and, Nat.reduceAdd, Nat.reduceLT, Nat.reduceBEq, Nat.reduceSub, Nat.reduceMul, Nat.reduceLeDiff, Int.reduceToNat, Nat.reduceEqDiff, Nat.reduceMod, h2, h5, h6, h7, h20, h21, hl, hd, hc, hw, d0, e00, cS_at, b0, specPu, hnm, hcb]
            rw [show parseL (a :: rest) = .err (citR a).2 1 by simp [parseL, parse1, hca]]
            exact ⟨ha, unit_weak0, by (repeat (first | exact hle | refine Hp.le_upd ?_ (fN _ _ _ _)))⟩
      · have e10 : (((1 : Nat) : Int) == 0) = false := rfl
        have e11 : (((1 : Nat) : Int) == 1) = true := rfl
        cases rest with
        | nil =>
          have d0 : decide (((1 : Nat) : Int) ≤ ((1 : Nat) : Int)) = true := rfl
          have n90 : ((90 : Int) != 0) = true := rfl
          simp (config := {contextual := true, maxSteps := 5000000}) only [go_sem, false_and, Nat.reduceAdd, Nat.reduceLT, Nat.reduceBEq, Nat.reduceSub, Nat.reduceMul, Nat.reduceLeDiff, Int.reduceToNat, Nat.reduceEqDiff, Nat.reduceMod, h2, h5, h6, h7, h20, h21, hl, hd, hc, hw, d0, n90]
          rw [show parseL [a] = .err 90 2 by simp [parseL, parse1, hca]]
          exact ⟨unit_weak0, by (repeat (first | exact hle | refine Hp.le_upd ?_ (fN _ _ _ _)))⟩
        | cons b rest2 =>
          have d0 : decide (((rest2.length + 1 + 1 : Nat) : Int) ≤ ((1 : Nat) : Int)) = false := by simp; omega
          have b1 : (0 : Int) ≤ 1 ∧ (1 : Int) < ((rest2.length + 1 + 1 : Nat) : Int) := by omega
          have n90 : ((90 : Int) != 0) = true := rfl
          cases hb : beg b ⟨#[115, 116, 97, 116, 101, 115, 32]⟩ with
          | false =>
            simp (config := {contextual := true, maxSteps := 5000000}) only [go_sem, false_and, Nat.reduceAdd, Nat.reduceLT, Nat.reduceBEq, Nat.reduceSub, Nat.reduceMul, Nat.reduceLeDiff, Int.reduceToNat, Nat.reduceEqDiff, Nat.reduceMod, h2, h5, h6, h7, h20, h21, hl, hd, hc, hw, d0, e10, e11, cS_at, b1, specPu, hb, n90]
            rw [show parseL (a :: b :: rest2) = .err 90 2 by simp [parseL, parse1, hca, parse2, statesB, hb]]
            exact ⟨unit_weak0, by (repeat (first | exact hle | refine Hp.le_upd ?_ (fN _ _ _ _)))⟩
          | true =>
            have z7 : (#[115, 116, 97, 116, 101, 115, 32] : Array UInt8).size = 7 := rfl
            by_cases hfe : (fmU (b.extract 7 b.size)).2 = 0
            · simp (config := {contextual := true, maxSteps := 5000000}) only [go_sem, false_and, Nat.reduceAdd, Nat.reduceLT, Nat.reduceBEq, Nat.reduceSub, Nat.reduceMul, Nat.reduceLeDiff, Int.reduceToNat, Nat.reduceEqDiff, Nat.reduceMod, h2, h5, h6, h7, h20, h21, hl, hd, hc, hw, d0, e10, e11, cS_at, b1, specPu, hb, z7, hfe, he0]
              refine ⟨j - 1, by omega, 2, _, rfl, rfl, by (repeat (first | exact hle | refine Hp.le_upd ?_ (fN _ _ _ _))), by omega, .inr (.inr ⟨⟨by omega, by simp⟩, (citR a).1, (fmU (b.extract 7 b.size)).1, [], .nil, ?_, by simp, rfl, by simp, rfl, ⟨by (repeat (first | exact hle | refine Hp.le_upd ?_ (fN _ _ _ _))), .inl rfl⟩⟩)⟩
              simp only [parseL, parse1, hca, parse2, statesB, hb, hfe, if_true]
              cases rest2 <;> rfl
            · have hfe2 : ((fmU (b.extract 7 b.size)).2 != 0) = true := by simpa using hfe
              simp (config := {contextual := true, maxSteps := 5000000}) only [go_sem, false_and, Nat.reduceAdd, Nat.reduceLT, Nat.reduceBEq, Nat.reduceSub, Nat.reduceMul, Nat.reduceLeDiff, Int.reduceToNat, Nat.reduceEqDiff, Nat.reduceMod, h2, h5, h6, h7, h20, h21, hl, hd, hc, hw, d0, e10, e11, cS_at, b1, specPu, hb, z7, hfe2]
              rw [show parseL (a :: b :: rest2) = .err (fmU (b.extract 7 b.size)).2 2 by simp [parseL, parse1, hca, parse2, statesB, hb, hfe]]
              exact ⟨unit_weak0, by (repeat (first | exact hle | refine Hp.le_upd ?_ (fN _ _ _ _)))⟩
      · have ei0 : ((i : Int) == 0) = false := by simp; omega
        have ei1 : ((i : Int) == 1) = false := by simp; omega
        by_cases hil : i < l.length
        · have d0 : decide ((l.length : Int) ≤ (i : Int)) = false := by simp; omega
          have hn4 : ∀ m, H ⟨7, 4 :: m :: k, 50⟩ = none := fun m => fN _ _ _ _
          obtain ⟨y, hy, hye⟩ := str_get l hil
          have hy4 := hsz y (List.mem_of_getElem? hy)
          have hdr : l.drop i = y :: l.drop (i + 1) := by
            obtain ⟨q1, q2⟩ := List.getElem?_eq_some_iff.1 hy
            rw [List.drop_eq_getElem_cons q1, q2]
          rw [hdr, stepsR] at hgo
          have e21 : (i : Int) - 2 + 1 = (i : Int) - 1 := by omega
          generalize hr : stepR y ((i : Int) - 1) = r at hgo
          rw [← e21] at hr
          obtain ⟨st, e⟩ := r
          have hLX : ∀ m e, LstK H 7 50 4 k tk (H2.upd ⟨7, 0 :: m :: k, 50⟩ e) := fun m e => hL.frame (fN _ _ _ _) (fun m he => by cases he)
          have hkk : ∀ m e, killTok (H2.upd ⟨7, 0 :: m :: k, 50⟩ e) tk ⟨5, 0 :: 3 :: k, 28⟩ = some (.cells [.list .none (cs.map cS.enc), .int .i64 x.kind, .int .i64 x.id, .list .none (x.kids.map E.cells), .list tk (acc.map cStep.enc)]) := fun m e =>
            killTok_keeps (by rw [Hp.upd_ne _ _ (fun he => by cases he)]; exact hc) ((hLX m e).2.imp id fun ⟨m, h1, h2⟩ => ⟨_, h1, h2⟩)
          have hpush : ∀ m e m2, LstK H 7 50 4 k (.tok ⟨7, 4 :: m2 :: k, 50⟩) ((killTok (H2.upd ⟨7, 0 :: m :: k, 50⟩ e) tk).upd ⟨7, 4 :: m2 :: k, 50⟩ (some .tok)) := fun m e m2 => by
            have := (hLX m e).push hn4 (y := st.cells) (ys := []) m2
            rwa [tokBy_cons] at this
          by_cases he : e = 0
          · subst he
            simp (config := {contextual := true, maxSteps := 5000000}) only [go_sem, false_and, Nat.reduceAdd, Nat.reduceLT, Nat.reduceBEq, Nat.reduceSub, Nat.reduceMul, Nat.reduceLeDiff, Int.reduceToNat, Nat.reduceEqDiff, Nat.reduceMod, h2, h5, h6, h7, h20, h21, hl, hd, hc, hw, hw2, d0, ei0, ei1, hye, specPu, hr, Step.cells, hkk, strip, tokBy_cons, he0]
            refine ⟨⟨by omega, by omega⟩, ⟨hy4, by omega⟩, fun y h => (h.elim (fun h => by rw [h]; rfl) (fun h => h.elim)), fun y h => by (obtain ⟨z, _, rfl⟩ := List.mem_map.1 h; rfl), rfl, by omega, by omega, (hLX _ _).live, j - 1, by omega, i + 1, _, rfl, rfl, Hp.le_upd (hpush _ _ _).1 (fN _ _ _ _), by omega,
              .inr (.inr ⟨⟨by omega, by omega⟩, cs, x, acc ++ [st], _, hF, hl2, by rw [if_pos rfl] at hgo; exact hgo, by simp; omega, by rw [List.map_append]; rfl, (hpush _ _ _).frame (fN _ _ _ _) (fun m he => by cases he)⟩)⟩
          · have he2 : (e != 0) = true := by simpa using he
            simp (config := {contextual := true, maxSteps := 5000000}) only [go_sem, false_and, Nat.reduceAdd, Nat.reduceLT, Nat.reduceBEq, Nat.reduceSub, Nat.reduceMul, Nat.reduceLeDiff, Int.reduceToNat, Nat.reduceEqDiff, Nat.reduceMod, h2, h5, h6, h7, h20, h21, hl, hd, hc, hw, hw2, d0, ei0, ei1, hye, specPu, hr, Step.cells, hkk, strip, tokBy_cons, he2]
            refine ⟨⟨by omega, by omega⟩, ⟨hy4, by omega⟩, fun y h => (h.elim (fun h => by rw [h]; rfl) (fun h => h.elim)), fun y h => by (obtain ⟨z, _, rfl⟩ := List.mem_map.1 h; rfl), rfl, by omega, by omega, (hLX _ _).live, ?_, Hp.le_upd (Hp.le_upd (hpush _ _ _).1 (fN _ _ _ _)) (fN _ _ _ _)⟩
            have hpe : parseL l = .err e ((i : Int) + 1) := by
              rw [hF]
              cases hd2 : l.drop 2 with
              | nil =>
                have := congrArg List.length hd2
                simp at this
                omega
              | cons y ys =>
                rw [hd2, if_neg he] at hgo
                show parse3 cs x (stepsR (y :: ys) 2 []) = _
                rw [← hgo, parse3, if_neg he]
            rw [hpe]
            exact unit_weak0
        · have d0 : decide ((l.length : Int) ≤ (i : Int)) = true := by simp; omega
          have n90 : ((90 : Int) != 0) = true := rfl
          simp (config := {contextual := true, maxSteps := 5000000}) only [go_sem, false_and, Nat.reduceAdd, Nat.reduceLT, Nat.reduceBEq, Nat.reduceSub, Nat.reduceMul, Nat.reduceLeDiff, Int.reduceToNat, Nat.reduceEqDiff, Nat.reduceMod, h2, h5, h6, h7, h20, h21, hl, hd, hc, hw, d0, n90]
          have hi2 : i = 2 := by omega
          subst hi2
          have hdr : l.drop 2 = [] := List.drop_of_length_le (by omega)
          rw [hF, hdr]
          exact ⟨unit_weak0, by (repeat (first | exact hle | refine Hp.le_upd ?_ (fN _ _ _ _)))⟩
    · have hd : decide ((i : Int) < (mx : Int)) = false := by simp; omega
      rcases hst with ⟨rfl, _⟩ | ⟨rfl, _⟩ | ⟨⟨h2i, hil2⟩, cs, x, acc, tk, hF, hl2, hgo, hacc, rfl, hL⟩
      · omega
      · omega
      · simp (config := {contextual := true, maxSteps := 5000000}) only [go_sem, false_and, Nat.reduceAdd, Nat.reduceLT, Nat.reduceBEq, Nat.reduceSub, Nat.reduceMul, Nat.reduceLeDiff, Int.reduceToNat, Nat.reduceEqDiff, Nat.reduceMod, h2, h5, h6, h7, h20, h21, hl, hd, hc, he0]
        have hdr : l.drop i = [] := List.drop_of_length_le (by omega)
        rw [hdr, stepsR] at hgo
        rw [hF]
        cases hd2 : l.drop 2 with
        | nil =>
          have := congrArg List.length hd2
          simp at this
          omega
        | cons y ys =>
          rw [hd2] at hgo
          dsimp only
          rw [← hgo]
          exact ⟨unit_weak, by (repeat (first | exact hle | refine Hp.le_upd ?_ (fN _ _ _ _)))⟩
end Go.Proofs.YtkdendaohlnlcaaGreatDoor.Av

/- What is read of a text is a unit that may lie in memory. No condition. -/
namespace Go.Proofs.YtkdendaohlnlcaaGreatDoor.Av
set_option linter.unusedVariables false
set_option linter.unusedSimpArgs false
set_option maxRecDepth 4000
set_option maxHeartbeats 1000000
theorem noE_ok : noE.ok := by simp [noE, E.ok, E.okL]
theorem fmU_ok (s : ByteArray) : (fmU s).1.ok := by
  unfold fmU
  cases h : fmRes s with
  | ok x => exact (fmRes_ok h).1
  | err e a => exact noE_ok
theorem stepF_ok (r : Step × Bool) (f : E × Int) (hf : f.1.ok) : (stepF r f).1.says.ok := by
  by_cases h1 : r.2 = false
  · rw [stepF, if_pos h1]
    exact noE_ok
  · by_cases h2 : r.1.by_ = 4 ∧ isName r.1.cite = false
    · rw [stepF, if_neg h1, if_pos h2]
      exact noE_ok
    · rw [stepF, if_neg h1, if_neg h2]
      exact hf
theorem stepR_ok (s : ByteArray) (n : Int) : (stepR s n).1.says.ok := by
  by_cases h1 : 60 < n
  · rw [stepR, if_pos h1]
    exact noE_ok
  · by_cases h2 : fstC s 58 < s.size
    · rw [stepR, if_neg h1, if_pos h2]
      have hf := fmU_ok ((s.extract 0 (fstC s 58)).extract (numT n).size (s.extract 0 (fstC s 58)).size)
      generalize fmU ((s.extract 0 (fstC s 58)).extract (numT n).size (s.extract 0 (fstC s 58)).size) = f at hf ⊢
      generalize rdW (cutC ((s.extract (fstC s 58 + 1) s.size).extract 1 (s.extract (fstC s 58 + 1) s.size).size) 32) = r
      have hF := stepF_ok r f hf
      cases (beg (s.extract 0 (fstC s 58)) (numT n) && beg (s.extract (fstC s 58 + 1) s.size) ⟨#[32]⟩) with
      | true =>
        rw [if_pos rfl]
        exact hF
      | false =>
        rw [if_neg (by simp)]
        exact noE_ok
    · rw [stepR, if_neg h1, if_neg h2]
      exact noE_ok
theorem stepsR_ok : ∀ (xs : List ByteArray) (i : Nat) (acc : List Step), (∀ s ∈ acc, s.says.ok) → (∀ s ∈ (stepsR xs i acc).1, s.says.ok) ∧ (stepsR xs i acc).1.length ≤ acc.length + xs.length
  | [], i, acc, h => by simpa [stepsR] using h
  | x :: xs, i, acc, h => by
    unfold stepsR
    split
    · have := stepsR_ok xs (i + 1) (acc ++ [(stepR x ((i : Int) - 1)).1]) fun s hs => by
        rcases List.mem_append.1 hs with h1 | h1
        · exact h s h1
        · rw [List.mem_singleton.1 h1]
          exact stepR_ok _ _
      refine ⟨this.1, ?_⟩
      have h2 := this.2
      simp only [List.length_append, List.length_cons, List.length_nil] at h2 ⊢
      omega
    · simp
theorem citR_len (s : ByteArray) : (citR s).1.length ≤ s.size + 1 := by
  have key : ∀ r : ByteArray, r.size ≤ s.size → (cutC r 32).length ≤ s.size + 1 := fun r hr => by have := (cutC_len r 32).2; omega
  have hk := key ((s.extract 5 s.size).extract 1 (s.extract 5 s.size).size) (by simp only [ByteArray.size_extract]; omega)
  unfold citR
  generalize cutC ((s.extract 5 s.size).extract 1 (s.extract 5 s.size).size) 32 = l at hk ⊢
  by_cases h1 : beg s ⟨#[99, 105, 116, 101, 115]⟩ = false
  · rw [if_pos h1]
    exact Nat.zero_le _
  · by_cases h2 : e0 (s.extract 5 s.size) = true
    · rw [if_neg h1, if_pos h2]
      exact Nat.zero_le _
    · by_cases h3 : byteAt (s.extract 5 s.size) 0 = 32
      · rw [if_neg h1, if_neg h2, if_pos h3]
        exact hk
      · rw [if_neg h1, if_neg h2, if_neg h3]
        exact Nat.zero_le _
theorem parseL_ok {l : List ByteArray} {u : U} (hl : l.length ≤ 4000000000) (hs : ∀ x ∈ l, x.size ≤ 4000000000) (h : parseL l = .ok u) : u.ok := by
  unfold parseL at h
  split at h
  · cases h
  · rename_i a rest
    unfold parse1 at h
    split at h
    · split at h
      · cases h
      · rename_i b r
        unfold parse2 at h
        split at h
        · cases h
        · split at h
          · split at h
            · cases h
            · rename_i x xs
              unfold parse3 at h
              split at h
              · cases h
                have h1 := stepsR_ok (x :: xs) 2 [] (by simp)
                have h2 := citR_len a
                have h3 := hs a (by simp)
                have h4 := h1.2
                simp only [List.length_cons, List.length_nil] at hl h4
                exact ⟨by simp only; omega, by simp only; omega, fmU_ok _, h1.1⟩
              · cases h
          · cases h
    · cases h
theorem parseR_ok {s : ByteArray} {u : U} (h : parseR s = .ok u) : u.ok := by
  unfold parseR at h
  split at h
  · cases h
  · have h1 := linesOf_len s
    exact parseL_ok (by omega) (fun x hx => by have := linesOf_size hx; omega) h
theorem noU_ok : noU.ok := ⟨by simp [noU], by simp [noU], noE_ok, by simp [noU]⟩
end Go.Proofs.YtkdendaohlnlcaaGreatDoor.Av

/- A text that is refused at a line is refused there whatever stands behind that line, in plain words. No condition. -/
namespace Go.Proofs.YtkdendaohlnlcaaGreatDoor.Av
set_option linter.unusedVariables false
set_option linter.unusedSimpArgs false
set_option maxRecDepth 4000
set_option maxHeartbeats 1000000
theorem cutU_no {c : UInt8} : ∀ {l x : List UInt8}, x ∈ cutU c l → ∀ b ∈ x, b ≠ c
  | [], x, h, b, hb => by
    simp only [cutU, List.mem_singleton] at h
    subst h
    cases hb
  | a :: l, x, h, b, hb => by
    unfold cutU at h
    split at h
    · rcases List.mem_cons.1 h with rfl | h
      · cases hb
      · exact cutU_no h b hb
    · rename_i hac
      split at h
      · simp only [List.mem_singleton] at h
        subst h
        simp only [List.mem_singleton] at hb
        subst hb
        exact hac
      · rename_i y ys he
        rcases List.mem_cons.1 h with rfl | h
        · rcases List.mem_cons.1 hb with rfl | hb
          · exact hac
          · exact cutU_no (by rw [he]; simp) b hb
        · exact cutU_no (by rw [he]; exact List.mem_cons_of_mem _ h) b hb
theorem linesOf_no {s x : ByteArray} (h : x ∈ linesOf s) : ∀ b ∈ x.data.toList, b ≠ 10 := by
  have h1 : x.data.toList ∈ (cutC s 10).map (·.data.toList) := List.mem_map_of_mem (lns_mem h)
  have e : (cutC s 10).map (·.data.toList) = cutU 10 s.data.toList := cutC_spec s 10
  rw [e] at h1
  exact cutU_no h1
/-- The first lines, each with its end. -/
def accT (l : List ByteArray) : Nat → ByteArray
  | 0 => ⟨#[]⟩
  | i + 1 => match l[i]? with
    | some x => (accT l i ++ x) ++ ⟨#[10]⟩
    | none => accT l i
theorem accT_data (l : List ByteArray) : ∀ i, (accT l i).data.toList = ((l.take i).map fun x => x.data.toList ++ [10]).flatten
  | 0 => by simp [accT]
  | i + 1 => by
    rw [accT, List.take_add_one]
    cases h : l[i]? with
    | none => simpa using accT_data l i
    | some x =>
      simp only [ByteArray.data_append, Array.toList_append, accT_data l i, Option.toList_some, List.map_append, List.map_cons, List.map_nil, List.flatten_append, List.flatten_cons, List.flatten_nil, List.append_nil, List.append_assoc]
theorem accT_size (l : List ByteArray) {n : Nat} (h : ∀ x ∈ l, x.size ≤ n) : ∀ i, (accT l i).size ≤ i * (n + 1)
  | 0 => by rw [accT, Nat.zero_mul]; exact Nat.le_refl 0
  | i + 1 => by
    have ih := accT_size l h i
    rw [accT, Nat.succ_mul]
    cases hx : l[i]? with
    | none => simp only; omega
    | some x =>
      have := h x (List.mem_of_getElem? hx)
      simp only [ByteArray.size_append]
      have e : (⟨#[10]⟩ : ByteArray).size = 1 := rfl
      omega
theorem cutU_lines {c : UInt8} {r : List UInt8} : ∀ {l : List (List UInt8)}, (∀ x ∈ l, ∀ b ∈ x, b ≠ c) → cutU c ((l.map fun x => x ++ [c]).flatten ++ r) = l ++ cutU c r
  | [], _ => by simp
  | x :: l, h => by
    simp only [List.map_cons, List.flatten_cons, List.append_assoc, List.cons_append, List.nil_append]
    rw [cutU_hit (h x (by simp)), cutU_lines fun y hy => h y (by simp [hy])]
theorem cutC_acc {l : List ByteArray} (h : ∀ x ∈ l, ∀ b ∈ x.data.toList, b ≠ 10) (i : Nat) (more : ByteArray) : cutC (accT l i ++ more) 10 = l.take i ++ cutC more 10 := by
  apply map_data_inj
  have e1 : (cutC (accT l i ++ more) 10).map (·.data.toList) = cutU 10 (accT l i ++ more).data.toList := cutC_spec _ 10
  have e2 : (cutC more 10).map (·.data.toList) = cutU 10 more.data.toList := cutC_spec _ 10
  rw [e1, List.map_append, e2, ByteArray.data_append, Array.toList_append, accT_data]
  have := cutU_lines (c := 10) (r := more.data.toList) (l := (l.take i).map (·.data.toList)) fun x hx => by
    obtain ⟨y, hy, rfl⟩ := List.mem_map.1 hx
    exact h y (List.mem_of_mem_take hy)
  rw [← this, List.map_map]
  rfl
theorem lns_append (a m : List ByteArray) (hm : 1 ≤ m.length) : ∃ m', lns (a ++ m) = a ++ m' := by
  unfold lns
  split
  · split
    · refine ⟨m.take (m.length - 1), ?_⟩
      rw [List.length_append, show a.length + m.length - 1 = a.length + (m.length - 1) by omega, List.take_append, List.take_of_length_le (by omega), show a.length + (m.length - 1) - a.length = m.length - 1 by omega]
    · exact ⟨m, rfl⟩
  · exact ⟨m, rfl⟩
theorem stepR_late {x : ByteArray} {n : Int} (h : 60 < n) : (stepR x n).2 = 2 := by rw [stepR, if_pos h]
theorem stepsR_err : ∀ (xs : List ByteArray) (i : Nat) (acc l : List Step) (e at_ : Int), i ≤ 62 → stepsR xs i acc = (l, e, at_) → e ≠ 0 →
    ∃ j : Nat, at_ = j ∧ i < j ∧ j ≤ i + xs.length ∧ j ≤ 63 ∧ ∀ m, stepsR (xs.take (j - i) ++ m) i acc = (l, e, at_)
  | [], i, acc, l, e, at_, hi, h, he => by
    simp only [stepsR, Prod.mk.injEq] at h
    exact absurd h.2.1.symm he
  | x :: xs, i, acc, l, e, at_, hi, h, he => by
    by_cases hz : (stepR x ((i : Int) - 1)).2 = 0
    · have hi2 : i < 62 := by
        rcases Nat.lt_or_ge i 62 with h1 | h1
        · exact h1
        · rw [stepR_late (by omega)] at hz
          cases hz
      rw [stepsR, if_pos hz] at h
      obtain ⟨j, h1, h2, h3, h4, h5⟩ := stepsR_err xs (i + 1) _ l e at_ (by omega) h he
      refine ⟨j, h1, by omega, by simp only [List.length_cons]; omega, h4, fun m => ?_⟩
      rw [show j - i = (j - (i + 1)) + 1 by omega, List.take_succ_cons, List.cons_append, stepsR, if_pos hz]
      exact h5 m
    · rw [stepsR, if_neg hz] at h
      simp only [Prod.mk.injEq] at h
      obtain ⟨rfl, rfl, rfl⟩ := h
      refine ⟨i + 1, by omega, by omega, by simp only [List.length_cons]; omega, by omega, fun m => ?_⟩
      rw [show i + 1 - i = 0 + 1 by omega, List.take_succ_cons, List.cons_append, stepsR, if_neg hz]
theorem parseL_err {l : List ByteArray} {e a : Int} (h : parseL l = .err e a) : ∃ j : Nat, a = j ∧ 1 ≤ j ∧ j ≤ l.length + 1 ∧ j ≤ 63 ∧ e ≠ 0 ∧ (j ≤ l.length → ∀ m, parseL (l.take j ++ m) = .err e a) := by
  cases l with
  | nil =>
    simp only [parseL, PR.err.injEq] at h
    obtain ⟨rfl, rfl⟩ := h
    exact ⟨1, rfl, by omega, by simp, by omega, by omega, fun h => by simp at h⟩
  | cons b rest =>
    by_cases hc : (citR b).2 = 0
    · cases rest with
      | nil =>
        simp only [parseL, parse1, if_pos hc, PR.err.injEq] at h
        obtain ⟨rfl, rfl⟩ := h
        exact ⟨2, rfl, by omega, by simp, by omega, by omega, fun h => by simp at h⟩
      | cons d r =>
        cases hb : beg d statesB with
        | false =>
          have hv : ∀ r', parseL (b :: d :: r') = .err 90 2 := fun r' => by simp [parseL, parse1, hc, parse2, hb]
          rw [hv] at h
          cases h
          exact ⟨2, rfl, by omega, by simp, by omega, by omega, fun _ m => hv _⟩
        | true =>
          by_cases hf : (fmU (d.extract 7 d.size)).2 = 0
          · cases r with
            | nil =>
              have hv : parseL [b, d] = .err 90 3 := by simp [parseL, parse1, hc, parse2, hb, hf]
              rw [hv] at h
              cases h
              exact ⟨3, rfl, by omega, by simp, by omega, by omega, fun h => by simp at h⟩
            | cons x xs =>
              have hv : ∀ y ys, parseL (b :: d :: y :: ys) = parse3 (citR b).1 (fmU (d.extract 7 d.size)).1 (stepsR (y :: ys) 2 []) := fun y ys => by simp [parseL, parse1, hc, parse2, hb, hf]
              rw [hv] at h
              generalize hst : stepsR (x :: xs) 2 [] = st at h
              obtain ⟨l', e', a'⟩ := st
              by_cases he : e' = 0
              · simp [parse3, he] at h
              · simp only [parse3, if_neg he, PR.err.injEq] at h
                obtain ⟨rfl, rfl⟩ := h
                obtain ⟨j, h1, h2, h3, h4, h5⟩ := stepsR_err _ 2 [] l' e' a' (by omega) hst he
                simp only [List.length_cons] at h3
                refine ⟨j, h1, by omega, by simp only [List.length_cons]; omega, h4, he, fun _ m => ?_⟩
                have h6 := h5 m
                rw [show j = (j - 2 - 1) + 1 + 1 + 1 by omega] at h6 ⊢
                simp only [List.take_succ_cons, List.cons_append] at h6 ⊢
                rw [hv]
                rw [show j - 2 - 1 + 1 + 1 + 1 - 2 = (j - 2 - 1) + 1 by omega, List.take_succ_cons, List.cons_append] at h6
                rw [h6, parse3, if_neg he]
          · have hv : ∀ r', parseL (b :: d :: r') = .err (fmU (d.extract 7 d.size)).2 2 := fun r' => by simp [parseL, parse1, hc, parse2, hb, hf]
            rw [hv] at h
            cases h
            exact ⟨2, rfl, by omega, by simp, by omega, hf, fun _ m => hv _⟩
    · have hv : ∀ r', parseL (b :: r') = .err (citR b).2 1 := fun r' => by simp [parseL, parse1, hc]
      rw [hv] at h
      cases h
      exact ⟨1, rfl, by omega, by simp, by omega, hc, fun _ m => hv _⟩
/-- The law, in plain words. -/
theorem lines_law {s : ByteArray} {e a : Int} (hs : s.size ≤ 20000) (h : parseL (linesOf s) = .err e a) {j : Nat} (hj : a = j) (hjl : j ≤ (linesOf s).length) (more : ByteArray) : parseL (linesOf (accT (linesOf s) j ++ more)) = .err e a := by
  obtain ⟨j', h1, h2, h3, h4, h5, h6⟩ := parseL_err h
  obtain rfl : j' = j := by omega
  have hc := cutC_acc (fun x hx => linesOf_no hx) j' more (l := linesOf s)
  obtain ⟨m', hm⟩ := lns_append ((linesOf s).take j') (cutC more 10) (cutC_len more 10).1
  rw [show linesOf (accT (linesOf s) j' ++ more) = (linesOf s).take j' ++ m' by rw [linesOf, hc, hm]]
  exact h6 hjl m'
end Go.Proofs.YtkdendaohlnlcaaGreatDoor.Av

/- What the functions of layer 8 answer: Plain, of both; and what a unit tells, and cites. No condition. -/
namespace Go.Proofs.YtkdendaohlnlcaaGreatDoor.Av
set_option linter.unusedVariables false
set_option linter.unusedSimpArgs false
set_option maxRecDepth 4000
set_option maxHeartbeats 1000000
variable {w0 : Base} {k : List Nat} {H : Hp}
def rgt (e : E) : E × Int := if e.right = 0 then (e, 0) else (noE, e.right)
def plainE (e : E) : E × Int := if e.right = 0 then rgt e.unf else (noE, e.right)
theorem noEw_weak : Weak (.agg [.int .i64 0, .int .i64 0, .list .nil []]) noE.av := WeakL.agg ⟨_, _, rfl, Weak.refl _, _, _, rfl, Weak.refl _, _, _, rfl, nil_weak, rfl⟩
theorem tup2_weak {a b : AV} {c : AV} (h : Weak a b) : Weak (.tup [a, c]) (.tup [b, c]) := WeakL.tup ⟨_, _, rfl, h, _, _, rfl, Weak.refl _, rfl⟩
theorem rgt_call (e : E) (hok : e.ok) : CallAt Tryz.prog w0 k 60 [e.av] H H (.tup [(rgt e).1.av, .int .i64 (rgt e).2]) := by
  refine callAt tabOk specX4_ok mixed Tryz.func60 rfl rfl Tryz.results60 Tryz.ntmps60 (by simp) [] ?_
  intro hfr t hl ht
  simp only [At, Nat.reduceAdd, List.cons_append, List.nil_append] at ht
  have fN : ∀ (a b : Nat) z ty, H ⟨z, a :: b :: k, ty⟩ = none := fun a b z ty => hfr _ (sfx2 _ _ _)
  unfold rgt
  by_cases h0 : e.right = 0
  · rw [if_pos h0]
    have hb : (e.right != 0) = false := by simp [h0]
    simp (config := {contextual := true, maxSteps := 5000000}) only [go_sem, false_and, Nat.reduceAdd, Nat.reduceLT, Nat.reduceBEq, Nat.reduceSub, Nat.reduceMul, Nat.reduceLeDiff, Int.reduceToNat, Nat.reduceEqDiff, Nat.reduceMod, ht, hl, specX4, toE_at, hb]
    exact ⟨hok, by (repeat (first | exact Hp.Le.refl _ | refine Hp.le_upd ?_ (fN _ _ _ _)))⟩
  · rw [if_neg h0]
    have hb : (e.right != 0) = true := by simpa using h0
    simp (config := {contextual := true, maxSteps := 5000000}) only [go_sem, false_and, Nat.reduceAdd, Nat.reduceLT, Nat.reduceBEq, Nat.reduceSub, Nat.reduceMul, Nat.reduceLeDiff, Int.reduceToNat, Nat.reduceEqDiff, Nat.reduceMod, ht, hl, specX4, toE_at, hb]
    exact ⟨hok, tup2_weak noEw_weak, by (repeat (first | exact Hp.Le.refl _ | refine Hp.le_upd ?_ (fN _ _ _ _)))⟩
def specPl : Spec := (Spec.no.add 60 (sp1 dE (fun e => e.ok) fun e => .tup [(rgt e).1.av, .int .i64 (rgt e).2])).add 61 (sp1 dE (fun e => e.sh = true) fun e => e.unf.av)
theorem specPl_ok : SpecOk Tryz.prog w0 specPl := (Spec.no_ok.add (sp1_ok fun e h k H => rgt_call e h)).add (sp1_ok fun e h k H => unfold_call e h)
theorem rgt_snd (e : E) : (rgt e).2 = e.right := by
  unfold rgt
  split
  · rename_i h
    exact h.symm
  · rfl
theorem plainP_call (e : E) (hok : e.ok) : CallAt Tryz.prog w0 k 32 [e.av] H H (.tup [(plainE e).1.av, .int .i64 (plainE e).2]) := by
  refine callAt tabOk specPl_ok mixed Tryz.func32 rfl rfl Tryz.results32 Tryz.ntmps32 (by simp) [] ?_
  intro hfr t hl ht
  simp only [At, Nat.reduceAdd, List.cons_append, List.nil_append] at ht
  have fN : ∀ (a b : Nat) z ty, H ⟨z, a :: b :: k, ty⟩ = none := fun a b z ty => hfr _ (sfx2 _ _ _)
  unfold plainE
  have h2 := rgt_snd e
  by_cases h0 : e.right = 0
  · rw [if_pos h0]
    have hb : ((rgt e).2 != 0) = false := by simp [h2, h0]
    have hs := right_sh h0
    simp (config := {contextual := true, maxSteps := 5000000}) only [go_sem, false_and, Nat.reduceAdd, Nat.reduceLT, Nat.reduceBEq, Nat.reduceSub, Nat.reduceMul, Nat.reduceLeDiff, Int.reduceToNat, Nat.reduceEqDiff, Nat.reduceMod, ht, hl, specPl, toE_at, hb]
    exact ⟨hok, hs, E.unf_ok hs, by (repeat (first | exact Hp.Le.refl _ | refine Hp.le_upd ?_ (fN _ _ _ _)))⟩
  · rw [if_neg h0]
    have hb : ((rgt e).2 != 0) = true := by simpa [h2] using h0
    simp (config := {contextual := true, maxSteps := 5000000}) only [go_sem, false_and, Nat.reduceAdd, Nat.reduceLT, Nat.reduceBEq, Nat.reduceSub, Nat.reduceMul, Nat.reduceLeDiff, Int.reduceToNat, Nat.reduceEqDiff, Nat.reduceMod, ht, hl, specPl, toE_at, hb]
    rw [h2]
    exact ⟨hok, tup2_weak noEw_weak, by (repeat (first | exact Hp.Le.refl _ | refine Hp.le_upd ?_ (fN _ _ _ _)))⟩
def specPr : Spec := (Spec.no.add 62 (sp1 dE (fun e => e.ok) fun e => .int .i64 e.right)).add 63 (sp1 dE (fun e => e.sh = true) fun e => e.unf.av)
theorem specPr_ok : SpecOk Tryz.prog w0 specPr := (Spec.no_ok.add (sp1_ok fun e h k H => right02_call e h)).add (sp1_ok fun e h k H => unfolded_call e h)
theorem plain08_call (e : E) (hok : e.ok) : CallAt Tryz.prog w0 k 33 [e.av] H H (.tup [(plainE e).1.av, .int .i64 (plainE e).2]) := by
  refine callAt tabOk specPr_ok mixed Tryz.func33 rfl rfl Tryz.results33 Tryz.ntmps33 (by simp) [] ?_
  intro hfr t hl ht
  simp only [At, Nat.reduceAdd, List.cons_append, List.nil_append] at ht
  have fN : ∀ (a b : Nat) z ty, H ⟨z, a :: b :: k, ty⟩ = none := fun a b z ty => hfr _ (sfx2 _ _ _)
  unfold plainE rgt
  by_cases h0 : e.right = 0
  · rw [if_pos h0]
    have hb : (e.right != 0) = false := by simp [h0]
    have hs := right_sh h0
    by_cases h1 : e.unf.right = 0
    · rw [if_pos h1]
      have hb1 : (e.unf.right != 0) = false := by simp [h1]
      simp (config := {contextual := true, maxSteps := 5000000}) only [go_sem, false_and, Nat.reduceAdd, Nat.reduceLT, Nat.reduceBEq, Nat.reduceSub, Nat.reduceMul, Nat.reduceLeDiff, Int.reduceToNat, Nat.reduceEqDiff, Nat.reduceMod, ht, hl, specPr, toE_at, hb, hb1]
      exact ⟨hok, hs, E.unf_ok hs, by (repeat (first | exact Hp.Le.refl _ | refine Hp.le_upd ?_ (fN _ _ _ _)))⟩
    · rw [if_neg h1]
      have hb1 : (e.unf.right != 0) = true := by simpa using h1
      simp (config := {contextual := true, maxSteps := 5000000}) only [go_sem, false_and, Nat.reduceAdd, Nat.reduceLT, Nat.reduceBEq, Nat.reduceSub, Nat.reduceMul, Nat.reduceLeDiff, Int.reduceToNat, Nat.reduceEqDiff, Nat.reduceMod, ht, hl, specPr, toE_at, hb, hb1]
      exact ⟨hok, hs, E.unf_ok hs, E.unf_ok hs, tup2_weak noEw_weak, by (repeat (first | exact Hp.Le.refl _ | refine Hp.le_upd ?_ (fN _ _ _ _)))⟩
  · rw [if_neg h0]
    have hb : (e.right != 0) = true := by simpa using h0
    simp (config := {contextual := true, maxSteps := 5000000}) only [go_sem, false_and, Nat.reduceAdd, Nat.reduceLT, Nat.reduceBEq, Nat.reduceSub, Nat.reduceMul, Nat.reduceLeDiff, Int.reduceToNat, Nat.reduceEqDiff, Nat.reduceMod, ht, hl, specPr, toE_at, hb]
    exact ⟨hok, hok, tup2_weak noEw_weak, by (repeat (first | exact Hp.Le.refl _ | refine Hp.le_upd ?_ (fN _ _ _ _)))⟩
/-- What a text tells, and cites. -/
def tellsE (s : ByteArray) : E × Bool := match parseR s with
  | .ok u => ((plainE u.states).1, (plainE u.states).2 == 0)
  | .err _ _ => (noE, false)
def citesE (s : ByteArray) : List ByteArray := match parseR s with
  | .ok u => u.cites
  | .err _ _ => []
theorem parseR_ne {s : ByteArray} {e a : Int} (h : parseR s = .err e a) : e ≠ 0 := by
  unfold parseR at h
  split at h
  · simp only [PR.err.injEq] at h
    omega
  · obtain ⟨_, _, _, _, _, h4, _⟩ := parseL_err h
    exact h4
def specTl (hm : MaxW w0) : Spec := (Spec.no.add 8 (sp1 dS (fun _ => True) fun s => (parseR s).av)).add 32 (sp1 dE (fun e => e.ok) fun e => .tup [(plainE e).1.av, .int .i64 (plainE e).2])
theorem specTl_ok (hm : MaxW w0) : SpecOk Tryz.prog w0 (specTl hm) := (Spec.no_ok.add (sp1_ok fun s _ k H => parseU_call hm s)).add (sp1_ok fun e h k H => plainP_call e h)
theorem tellsP_call (hm : MaxW w0) (s : ByteArray) : CallAt Tryz.prog w0 k 12 [.str s] H H (.tup [(tellsE s).1.av, .bool (tellsE s).2]) := by
  refine callAt tabOk (specTl_ok hm) mixed Tryz.func12 rfl rfl Tryz.results12 Tryz.ntmps12 (by simp) [] ?_
  intro hfr t hl ht
  simp only [At, Nat.reduceAdd, List.cons_append, List.nil_append] at ht
  have fN : ∀ (a b : Nat) z ty, H ⟨z, a :: b :: k, ty⟩ = none := fun a b z ty => hfr _ (sfx2 _ _ _)
  unfold tellsE
  cases hp : parseR s with
  | ok u =>
    have hok := (parseR_ok hp).2.2.1
    have n00 : ((0 : Int) != 0) = false := rfl
    simp (config := {contextual := true, maxSteps := 5000000}) only [go_sem, false_and, Nat.reduceAdd, Nat.reduceLT, Nat.reduceBEq, Nat.reduceSub, Nat.reduceMul, Nat.reduceLeDiff, Int.reduceToNat, Nat.reduceEqDiff, Nat.reduceMod, ht, hl, specTl, hp, PR.av, U.cells, n00, toE_at]
    exact ⟨hok, by (repeat (first | exact Hp.Le.refl _ | refine Hp.le_upd ?_ (fN _ _ _ _)))⟩
  | err e a =>
    have he : (e != 0) = true := by simpa using parseR_ne hp
    simp (config := {contextual := true, maxSteps := 5000000}) only [go_sem, false_and, Nat.reduceAdd, Nat.reduceLT, Nat.reduceBEq, Nat.reduceSub, Nat.reduceMul, Nat.reduceLeDiff, Int.reduceToNat, Nat.reduceEqDiff, Nat.reduceMod, ht, hl, specTl, hp, PR.av, U.cells, he]
    exact ⟨tup2_weak noEw_weak, by (repeat (first | exact Hp.Le.refl _ | refine Hp.le_upd ?_ (fN _ _ _ _)))⟩
theorem citesP_call (hm : MaxW w0) (s : ByteArray) : CallAt Tryz.prog w0 k 16 [.str s] H H (.list .none ((citesE s).map cS.enc)) := by
  refine callAt tabOk (specTl_ok hm) mixed Tryz.func16 rfl rfl Tryz.results16 Tryz.ntmps16 (by simp) [] ?_
  intro hfr t hl ht
  simp only [At, Nat.reduceAdd, List.cons_append, List.nil_append] at ht
  have fN : ∀ (a b : Nat) z ty, H ⟨z, a :: b :: k, ty⟩ = none := fun a b z ty => hfr _ (sfx2 _ _ _)
  unfold citesE
  cases hp : parseR s with
  | ok u =>
    simp (config := {contextual := true, maxSteps := 5000000}) only [go_sem, false_and, Nat.reduceAdd, Nat.reduceLT, Nat.reduceBEq, Nat.reduceSub, Nat.reduceMul, Nat.reduceLeDiff, Int.reduceToNat, Nat.reduceEqDiff, Nat.reduceMod, ht, hl, specTl, hp, PR.av, U.cells]
    exact by (repeat (first | exact Hp.Le.refl _ | refine Hp.le_upd ?_ (fN _ _ _ _)))
  | err e a =>
    have hpe : (PR.err e a).av = .tup [.agg [.list .none [], .int .i64 0, .int .i64 0, .list .none [], .list .none []], .int .i64 e, .int .i64 a] := rfl
    simp (config := {contextual := true, maxSteps := 5000000}) only [go_sem, false_and, Nat.reduceAdd, Nat.reduceLT, Nat.reduceBEq, Nat.reduceSub, Nat.reduceMul, Nat.reduceLeDiff, Int.reduceToNat, Nat.reduceEqDiff, Nat.reduceMod, ht, hl, specTl, hp, hpe]
    exact by (repeat (first | exact Hp.Le.refl _ | refine Hp.le_upd ?_ (fN _ _ _ _)))
def specT9 : Spec := (Spec.no.add 9 (sp1 dS (fun _ => True) fun s => (parseR s).av)).add 33 (sp1 dE (fun e => e.ok) fun e => .tup [(plainE e).1.av, .int .i64 (plainE e).2])
theorem specT9_ok : SpecOk Tryz.prog w0 specT9 := (Spec.no_ok.add (sp1_ok fun s _ k H => parse09_call s)).add (sp1_ok fun e h k H => plain08_call e h)
theorem tells09_call (s : ByteArray) : CallAt Tryz.prog w0 k 13 [.str s] H H (.tup [(tellsE s).1.av, .bool (tellsE s).2]) := by
  refine callAt tabOk specT9_ok mixed Tryz.func13 rfl rfl Tryz.results13 Tryz.ntmps13 (by simp) [] ?_
  intro hfr t hl ht
  simp only [At, Nat.reduceAdd, List.cons_append, List.nil_append] at ht
  have fN : ∀ (a b : Nat) z ty, H ⟨z, a :: b :: k, ty⟩ = none := fun a b z ty => hfr _ (sfx2 _ _ _)
  unfold tellsE
  cases hp : parseR s with
  | ok u =>
    have hok := (parseR_ok hp).2.2.1
    have n00 : ((0 : Int) != 0) = false := rfl
    simp (config := {contextual := true, maxSteps := 5000000}) only [go_sem, false_and, Nat.reduceAdd, Nat.reduceLT, Nat.reduceBEq, Nat.reduceSub, Nat.reduceMul, Nat.reduceLeDiff, Int.reduceToNat, Nat.reduceEqDiff, Nat.reduceMod, ht, hl, specT9, hp, PR.av, U.cells, n00, toE_at]
    exact ⟨hok, by (repeat (first | exact Hp.Le.refl _ | refine Hp.le_upd ?_ (fN _ _ _ _)))⟩
  | err e a =>
    have he : (e != 0) = true := by simpa using parseR_ne hp
    simp (config := {contextual := true, maxSteps := 5000000}) only [go_sem, false_and, Nat.reduceAdd, Nat.reduceLT, Nat.reduceBEq, Nat.reduceSub, Nat.reduceMul, Nat.reduceLeDiff, Int.reduceToNat, Nat.reduceEqDiff, Nat.reduceMod, ht, hl, specT9, hp, PR.av, U.cells, he]
    exact ⟨tup2_weak noEw_weak, by (repeat (first | exact Hp.Le.refl _ | refine Hp.le_upd ?_ (fN _ _ _ _)))⟩
theorem cites09x_call (s : ByteArray) : CallAt Tryz.prog w0 k 17 [.str s] H H (.list .none ((citesE s).map cS.enc)) := by
  refine callAt tabOk specT9_ok mixed Tryz.func17 rfl rfl Tryz.results17 Tryz.ntmps17 (by simp) [] ?_
  intro hfr t hl ht
  simp only [At, Nat.reduceAdd, List.cons_append, List.nil_append] at ht
  have fN : ∀ (a b : Nat) z ty, H ⟨z, a :: b :: k, ty⟩ = none := fun a b z ty => hfr _ (sfx2 _ _ _)
  unfold citesE
  cases hp : parseR s with
  | ok u =>
    simp (config := {contextual := true, maxSteps := 5000000}) only [go_sem, false_and, Nat.reduceAdd, Nat.reduceLT, Nat.reduceBEq, Nat.reduceSub, Nat.reduceMul, Nat.reduceLeDiff, Int.reduceToNat, Nat.reduceEqDiff, Nat.reduceMod, ht, hl, specT9, hp, PR.av, U.cells]
    exact by (repeat (first | exact Hp.Le.refl _ | refine Hp.le_upd ?_ (fN _ _ _ _)))
  | err e a =>
    have hpe : (PR.err e a).av = .tup [.agg [.list .none [], .int .i64 0, .int .i64 0, .list .none [], .list .none []], .int .i64 e, .int .i64 a] := rfl
    simp (config := {contextual := true, maxSteps := 5000000}) only [go_sem, false_and, Nat.reduceAdd, Nat.reduceLT, Nat.reduceBEq, Nat.reduceSub, Nat.reduceMul, Nat.reduceLeDiff, Int.reduceToNat, Nat.reduceEqDiff, Nat.reduceMod, ht, hl, specT9, hp, hpe]
    exact by (repeat (first | exact Hp.Le.refl _ | refine Hp.le_upd ?_ (fN _ _ _ _)))
end Go.Proofs.YtkdendaohlnlcaaGreatDoor.Av

/- The law of UnitTells answers true, whatever the text is. No condition. -/
namespace Go.Proofs.YtkdendaohlnlcaaGreatDoor.Av
set_option linter.unusedVariables false
set_option linter.unusedSimpArgs false
set_option maxRecDepth 4000
set_option maxHeartbeats 1000000
variable {w0 : Base} {k : List Nat} {H : Hp}
theorem rgt_ok {e : E} (h : e.ok) : (rgt e).1.ok := by
  unfold rgt
  split
  · exact h
  · exact noE_ok
theorem plainE_ok {e : E} : (plainE e).1.ok := by
  unfold plainE
  split
  · rename_i h
    exact rgt_ok (E.unf_ok (right_sh h))
  · exact noE_ok
theorem tellsE_ok (s : ByteArray) : (tellsE s).1.ok := by
  unfold tellsE
  split
  · exact plainE_ok
  · exact noE_ok
theorem citesE_len (s : ByteArray) : ((citesE s).length : Int) ≤ 9223372036854775807 := by
  unfold citesE
  split
  · rename_i h
    exact (parseR_ok h).1
  · simp
def specUt (hm : MaxW w0) : Spec := (((((Spec.no.add 12 (sp1 dS (fun _ => True) fun s => .tup [(tellsE s).1.av, .bool (tellsE s).2])).add 13 (sp1 dS (fun _ => True) fun s => .tup [(tellsE s).1.av, .bool (tellsE s).2])).add 16 (sp1 dS (fun _ => True) fun s => .list .none ((citesE s).map cS.enc))).add 17 (sp1 dS (fun _ => True) fun s => .list .none ((citesE s).map cS.enc))).add
  14 (sp2 dE dE (fun a _ => a.ok) fun a b => .bool (a.like b))).add 15 (sp2 (dL cS) (dL cS) (fun l _ => (l.length : Int) ≤ 9223372036854775807) fun l m => .bool (likeN l m))
theorem specUt_ok (hm : MaxW w0) : SpecOk Tryz.prog w0 (specUt hm) := (((((Spec.no_ok.add (sp1_ok fun s _ k H => tellsP_call hm s)).add (sp1_ok fun s _ k H => tells09_call s)).add (sp1_ok fun s _ k H => citesP_call hm s)).add (sp1_ok fun s _ k H => cites09x_call s)).add (sp2_ok fun a b h k H => like02_call a b h)).add (sp2_ok fun l m h k H => likeNames_call l m h)
theorem unitTells_call (hm : MaxW w0) (s : ByteArray) : CallAt Tryz.prog w0 k 5 [.str s] H H (.bool true) := by
  refine callAt tabOk (specUt_ok hm) mixed Tryz.func5 rfl rfl Tryz.results5 Tryz.ntmps5 (by simp) [] ?_
  intro hfr t hl ht
  simp only [At, Nat.reduceAdd, List.cons_append, List.nil_append] at ht
  have fN : ∀ (a b : Nat) z ty, H ⟨z, a :: b :: k, ty⟩ = none := fun a b z ty => hfr _ (sfx2 _ _ _)
  have hok := tellsE_ok s
  have hlen := citesE_len s
  have h1 : ((tellsE s).2 == (tellsE s).2) = true := by simp
  have h2 : (tellsE s).1.like (tellsE s).1 = true := E.like_iff.2 rfl
  have h3 : likeN (citesE s) (citesE s) = true := likeN_iff.2 rfl
  simp (config := {contextual := true, maxSteps := 5000000}) only [go_sem, false_and, Nat.reduceAdd, Nat.reduceLT, Nat.reduceBEq, Nat.reduceSub, Nat.reduceMul, Nat.reduceLeDiff, Int.reduceToNat, Nat.reduceEqDiff, Nat.reduceMod, ht, hl, specUt, toE_at, h3]
  exact ⟨fun _ => ⟨hok, fun _ => ⟨hlen, by (repeat (first | exact Hp.Le.refl _ | refine Hp.le_upd ?_ (fN _ _ _ _)))⟩, fun h => by rw [h2] at h; cases h⟩, fun h => by rw [h1] at h; cases h⟩
end Go.Proofs.YtkdendaohlnlcaaGreatDoor.Av

/- From the reading of an argument to plain data. No condition. -/
namespace Go.Proofs.YtkdendaohlnlcaaGreatDoor.Av
set_option linter.unusedVariables false
set_option linter.unusedSimpArgs false
set_option maxRecDepth 4000
set_option maxHeartbeats 1000000
open Go.RowKit
section
variable {HT : Type} {enc : TypeId × Value → HT} {P : Program} {tb : Tab} {w : World} {base : Nat} {sp : Nat → Bool} {held : Bool}

/-- What is known at the start: the world's cells. -/
def ghOf (w : World) : Gh := ⟨w.cell?, fun _ => none, fun _ => none, fun _ => none⟩
theorem sim_start (w : World) : Sim ⟨w, ghOf w⟩ (ghOf w) (fun _ => none) w where
  c := fun _ _ h => h
  v := fun _ _ h => by cases h
  d := fun _ _ h => by cases h
  t := fun _ h => by cases h
  inj := fun _ _ _ h => by cases h
  tinj := fun _ _ _ _ _ h => by cases h
  vt := fun _ _ _ _ h => by cases h
  below := Below.refl _ _
  g := Gh.Le.refl _
  r := fun _ _ h => by cases h

theorem TabOk.cellsOf (hT : TabOk P tb) {t : TypeId} {ti : TI} (e : tb t = some ti) : P.cellsOf t = ti.size := by
  obtain ⟨i, d, h1, h2, h3, h4, _⟩ := hT t ti e
  simp [Program.cellsOf, h1, h4]
theorem TabOk.under (hT : TabOk P tb) {t : TypeId} {ti : TI} (e : tb t = some ti) : ∃ d, P.underlying t = some d ∧ tdOf d = ti.td := by
  obtain ⟨i, d, h1, h2, h3, h4, _⟩ := hT t ti e
  exact ⟨d, h2, h3⟩

theorem trod_int (hT : TabOk P tb) {t : TypeId} {k : IntKind} {a b : Nat} {z : Value} (e : tb t = some ⟨.int k, a, b, z⟩) {f : Nat} {cs : List Value} {x : DataW HT × List MemPlace} (h : DataW.trod enc P w base sp held f t cs = some x) : ∃ n, cs = [.int k n] := by
  obtain ⟨d, hu, hd⟩ := hT.under e
  cases d <;> simp [tdOf] at hd
  subst hd
  cases f with
  | zero => simp [DataW.trod] at h
  | succ f =>
    unfold DataW.trod at h
    rw [hu] at h
    split at h <;> simp_all
theorem trod_str (hT : TabOk P tb) {t : TypeId} {a b : Nat} {z : Value} (e : tb t = some ⟨.string, a, b, z⟩) {f : Nat} {cs : List Value} {x : DataW HT × List MemPlace} (h : DataW.trod enc P w base sp held f t cs = some x) : ∃ s : ByteArray, cs = [.string s] ∧ s.size ≤ maxLen := by
  obtain ⟨d, hu, hd⟩ := hT.under e
  cases d <;> simp [tdOf] at hd
  cases f with
  | zero => simp [DataW.trod] at h
  | succ f =>
    unfold DataW.trod at h
    rw [hu] at h
    split at h <;> simp_all
theorem trod_struct (hT : TabOk P tb) {t : TypeId} {fs : List (Nat × TypeId)} {a b : Nat} {z : Value} (e : tb t = some ⟨.struct fs, a, b, z⟩) {f : Nat} {cs : List Value} {x : DataW HT × List MemPlace} (h : DataW.trod enc P w base sp held f t cs = some x) :
    ∃ f', f = f' + 1 ∧ cs.length = a ∧ ∀ p ∈ fs, ∃ y, DataW.trod enc P w base sp held f' p.2 ((cs.drop p.1).take (P.cellsOf p.2)) = some y := by
  obtain ⟨d, hu, hd⟩ := hT.under e
  have hc := hT.cellsOf e
  cases d <;> simp [tdOf] at hd
  rename_i fa
  cases f with
  | zero => simp [DataW.trod] at h
  | succ f =>
    refine ⟨f, rfl, ?_⟩
    unfold DataW.trod at h
    rw [hu] at h
    have key : (if cs.length = P.cellsOf t then (fa.toList.mapM fun g => DataW.trod enc P w base sp held f g.type ((cs.drop g.offset).take (P.cellsOf g.type))).map fun xs => ((.agg (xs.map (·.1)) : DataW HT), xs.flatMap (·.2)) else none) = some x := by
      rcases cs with _ | ⟨c, _ | ⟨c2, cs⟩⟩
      · exact h
      · cases c <;> exact h
      · cases c <;> exact h
    split at key
    · rename_i hl
      refine ⟨by rw [hl, hc], ?_⟩
      cases hm : fa.toList.mapM fun g => DataW.trod enc P w base sp held f g.type ((cs.drop g.offset).take (P.cellsOf g.type)) with
      | none => rw [hm] at key; simp at key
      | some xs =>
        intro p hp
        rw [← hd] at hp
        obtain ⟨g, hg, rfl⟩ := List.mem_map.1 hp
        obtain ⟨i, hi, hgi⟩ := List.getElem_of_mem hg
        have := mapM_some_get hm i g (by rw [← hgi]; simp)
        have hlen := mapM_some_length hm
        have hx : i < xs.length := by omega
        exact ⟨xs[i], by simpa [hx] using this⟩
    · cases key
theorem trod_slice (hT : TabOk P tb) {t el : TypeId} {a b : Nat} {z : Value} (e : tb t = some ⟨.slice el, a, b, z⟩) {te : TI} (he : tb el = some te) {α : Type} (D : DecC α) (hD : D.sz = te.size) (okA : α → Prop) {f : Nat}
    (helem : ∀ cs y, DataW.trod enc P w base sp held (f - 1) el cs = some y → ∃ u : α, okA u ∧ RepL (ghOf w) (D.enc u) cs) {cs : List Value} {x : DataW HT × List MemPlace} (h : DataW.trod enc P w base sp held f t cs = some x) :
    ∃ (l : List α) (V : Value), cs = [V] ∧ Rep (ghOf w) (.list .none (l.map D.enc)) V ∧ l.length ≤ maxLen ∧ ∀ u ∈ l, okA u := by
  obtain ⟨d, hu, hd⟩ := hT.under e
  have hc := hT.cellsOf he
  cases d <;> simp [tdOf] at hd
  subst hd
  cases f with
  | zero => simp [DataW.trod] at h
  | succ f =>
    simp only [Nat.add_sub_cancel] at helem
    unfold DataW.trod at h
    rw [hu] at h
    split at h <;> try (simp_all; done)
    · exact ⟨[], _, rfl, by simp only [Rep]; exact ⟨none, 0, 0, rfl, rfl, Nat.le_refl _, trivial, ⟨0, by simp⟩, ⟨0, 0, none⟩, by simp, by simp [RepE]⟩, by simp, by simp⟩
    · rename_i d1 c1 el2 ad n c heq
      cases heq
      simp only at h
      split at h
      · rename_i hb
        obtain ⟨hb1, hb2, hb3⟩ := hb
        simp only [Option.bind_eq_some_iff] at h
        obtain ⟨elems, hm, _⟩ := h
        have hlen := mapM_some_length hm
        simp only [List.length_range] at hlen
        have each : ∀ i, i < n → ∃ u : α, okA u ∧ RepC (ghOf w) ad (i * D.sz) (D.enc u) := fun i hi => by
          have h1 := mapM_some_get hm i i (by simp [hi])
          rw [show elems[i]? = some (elems[i]'(by omega)) by simp [show i < elems.length by omega]] at h1
          obtain ⟨cs, h2, h3⟩ := Option.bind_eq_some_iff.1 h1
          obtain ⟨u, h4, h5⟩ := helem cs _ h3
          obtain ⟨_, h6, h7⟩ := World.cells?_some h2
          refine ⟨u, h4, RepC_of_list _ _ cs h5 fun j v hj => ?_⟩
          have hjl : j < cs.length := (List.getElem?_eq_some_iff.1 hj).1
          have h8 := h7 j (by omega)
          rw [Addr.add_add, hc, ← hD, hj] at h8
          exact h8
        have all : ∀ m i, i + m = n → ∃ l : List α, l.length = m ∧ RepE (ghOf w) ad (i * D.sz) (l.map D.enc) ∧ ∀ u ∈ l, okA u := by
          intro m
          induction m with
          | zero => exact fun i _ => ⟨[], rfl, by simp [RepE], by simp⟩
          | succ m ih =>
            intro i him
            obtain ⟨u, hu1, hu2⟩ := each i (by omega)
            obtain ⟨l, hl1, hl2, hl3⟩ := ih (i + 1) (by omega)
            refine ⟨u :: l, by simp [hl1], ?_, ?_⟩
            · simp only [List.map_cons, RepE]
              refine ⟨hu2, ?_⟩
              rw [D.elen, show i * D.sz + D.sz = (i + 1) * D.sz by rw [Nat.add_mul]; omega]
              exact hl2
            · intro v hv
              rcases List.mem_cons.1 hv with rfl | hv
              · exact hu1
              · exact hl3 v hv
        obtain ⟨l, hl1, hl2, hl3⟩ := all n 0 (by omega)
        refine ⟨l, _, rfl, ?_, by omega, hl3⟩
        simp only [Rep]
        refine ⟨some ad, n, c, rfl, by simp [hl1], hb2, trivial, ⟨D.sz, fun x hx => ?_⟩, ad, fun _ => rfl, by simpa using hl2⟩
        obtain ⟨y, _, rfl⟩ := List.mem_map.1 hx
        exact D.elen y
      · cases h
end
section
variable {HT : Type} {enc : TypeId × Value → HT} {w : World} {base : Nat} {sp : Nat → Bool} {held : Bool}
theorem maxLen_int {n : Nat} (h : n ≤ maxLen) : (n : Int) ≤ 9223372036854775807 := by
  have : maxLen = 9223372036854775807 := by decide
  omega
theorem E.ok_mk {k i : Int} {l : List E} (h1 : l.length ≤ maxLen) (h2 : ∀ u ∈ l, E.ok u) : (E.mk k i l).ok := by
  refine ⟨maxLen_int h1, ?_⟩
  clear h1
  induction l with
  | nil => trivial
  | cons u l ih => exact ⟨h2 u (by simp), ih fun v hv => h2 v (by simp [hv])⟩
theorem trodE : ∀ (f : Nat) (cs : List Value) (x : DataW HT × List MemPlace), DataW.trod enc Tryz.prog w base sp held f 25 cs = some x → ∃ e : E, e.ok ∧ RepL (ghOf w) e.cells cs := by
  intro f
  induction f using Nat.strongRecOn with
  | _ f ih =>
    intro cs x h
    obtain ⟨f', rfl, hl, hp⟩ := trod_struct tabOk (tab_25) h
    obtain ⟨a, b, c, rfl⟩ : ∃ a b c, cs = [a, b, c] := by
      match cs, hl with
      | [a, b, c], _ => exact ⟨a, b, c, rfl⟩
    obtain ⟨y1, h1⟩ := hp _ (by simp : (0, 3) ∈ _)
    obtain ⟨y2, h2⟩ := hp _ (by simp : (1, 3) ∈ _)
    obtain ⟨y3, h3⟩ := hp _ (by simp : (2, 23) ∈ _)
    simp only [tabOk.cellsOf tab_3, tabOk.cellsOf tab_23, List.drop_zero, List.drop_succ_cons, List.take_succ_cons, List.take_zero] at h1 h2 h3
    obtain ⟨n1, e1⟩ := trod_int tabOk tab_3 h1
    obtain ⟨n2, e2⟩ := trod_int tabOk tab_3 h2
    obtain ⟨l, V, e3, hr, hml, hok⟩ := trod_slice tabOk tab_23 tab_25 cE rfl E.ok (fun cs y hy => ih (f' - 1) (by omega) cs y hy) h3
    simp only [List.cons.injEq, and_true] at e1 e2 e3
    subst e1 e2 e3
    refine ⟨.mk n1 n2 l, E.ok_mk hml hok, ?_⟩
    simp only [E.cells, RepL, E.cellsL_eq]
    exact ⟨_, _, rfl, by simp [Rep], _, _, rfl, by simp [Rep], _, _, rfl, hr, rfl⟩
theorem trodS (f : Nat) (cs : List Value) (x : DataW HT × List MemPlace) (h : DataW.trod enc Tryz.prog w base sp held f 9 cs = some x) : ∃ s : ByteArray, (s.size : Int) ≤ 9223372036854775807 ∧ RepL (ghOf w) (cS.enc s) cs := by
  obtain ⟨s, rfl, hs⟩ := trod_str tabOk tab_9 h
  exact ⟨s, maxLen_int hs, by simp only [cS, RepL]; exact ⟨_, _, rfl, by simp [Rep], rfl⟩⟩
theorem trodStep (f : Nat) (cs : List Value) (x : DataW HT × List MemPlace) (h : DataW.trod enc Tryz.prog w base sp held f 50 cs = some x) : ∃ s : Step, (s.says.ok ∧ (s.cite.size : Int) ≤ 9223372036854775807) ∧ RepL (ghOf w) (cStep.enc s) cs := by
  obtain ⟨f', rfl, hl, hp⟩ := trod_struct tabOk (tab_50) h
  obtain ⟨a, b, c, d, e, g, i, rfl⟩ : ∃ a b c d e g i, cs = [a, b, c, d, e, g, i] := by
    match cs, hl with
    | [a, b, c, d, e, g, i], _ => exact ⟨a, b, c, d, e, g, i, rfl⟩
  obtain ⟨y1, h1⟩ := hp _ (by simp : (0, 25) ∈ _)
  obtain ⟨y2, h2⟩ := hp _ (by simp : (3, 3) ∈ _)
  obtain ⟨y3, h3⟩ := hp _ (by simp : (4, 3) ∈ _)
  obtain ⟨y4, h4⟩ := hp _ (by simp : (5, 3) ∈ _)
  obtain ⟨y5, h5⟩ := hp _ (by simp : (6, 9) ∈ _)
  simp only [tabOk.cellsOf tab_3, tabOk.cellsOf tab_25, tabOk.cellsOf tab_9, List.drop_zero, List.drop_succ_cons, List.take_succ_cons, List.take_zero] at h1 h2 h3 h4 h5
  obtain ⟨e0, hok, hr⟩ := trodE _ _ _ h1
  obtain ⟨n2, e2⟩ := trod_int tabOk tab_3 h2
  obtain ⟨n3, e3⟩ := trod_int tabOk tab_3 h3
  obtain ⟨n4, e4⟩ := trod_int tabOk tab_3 h4
  obtain ⟨s5, e5, hs⟩ := trod_str tabOk tab_9 h5
  simp only [List.cons.injEq, and_true] at e2 e3 e4 e5
  subst e2 e3 e4 e5
  refine ⟨⟨e0, n2, n3, n4, s5⟩, ⟨hok, maxLen_int hs⟩, ?_⟩
  rw [E.cells_eq] at hr
  have hr2 : RepL (ghOf w) [.int .i64 n2, .int .i64 n3, .int .i64 n4, .str s5] [.int .i64 n2, .int .i64 n3, .int .i64 n4, .string s5] := by
    simp only [RepL]
    exact ⟨_, _, rfl, by simp [Rep], _, _, rfl, by simp [Rep], _, _, rfl, by simp [Rep], _, _, rfl, by simp [Rep], rfl⟩
  exact RepL.append hr hr2
theorem trodU (f : Nat) (cs : List Value) (x : DataW HT × List MemPlace) (h : DataW.trod enc Tryz.prog w base sp held f 28 cs = some x) : ∃ u : U, u.okN ∧ RepL (ghOf w) (cU.enc u) cs := by
  obtain ⟨f', rfl, hl, hp⟩ := trod_struct tabOk (tab_28) h
  obtain ⟨a, b, c, d, e, rfl⟩ : ∃ a b c d e, cs = [a, b, c, d, e] := by
    match cs, hl with
    | [a, b, c, d, e], _ => exact ⟨a, b, c, d, e, rfl⟩
  obtain ⟨y1, h1⟩ := hp _ (by simp : (0, 22) ∈ _)
  obtain ⟨y2, h2⟩ := hp _ (by simp : (1, 25) ∈ _)
  obtain ⟨y3, h3⟩ := hp _ (by simp : (4, 26) ∈ _)
  simp only [tabOk.cellsOf tab_22, tabOk.cellsOf tab_25, tabOk.cellsOf tab_26, List.drop_zero, List.drop_succ_cons, List.take_succ_cons, List.take_zero] at h1 h2 h3
  obtain ⟨l, V, e1, hr1, hml1, hok1⟩ := trod_slice tabOk tab_22 tab_9 cS rfl (fun s => (s.size : Int) ≤ 9223372036854775807) (fun cs y hy => trodS _ cs y hy) h1
  obtain ⟨e0, hok, hr⟩ := trodE _ _ _ h2
  obtain ⟨m, V3, e3, hr3, hml3, hok3⟩ := trod_slice tabOk tab_26 tab_50 cStep rfl (fun s : Step => s.says.ok ∧ (s.cite.size : Int) ≤ 9223372036854775807) (fun cs y hy => trodStep _ cs y hy) h3
  simp only [List.cons.injEq, and_true] at e1 e3
  subst e1 e3
  refine ⟨⟨l, e0, m⟩, ⟨⟨maxLen_int hml1, maxLen_int hml3, hok, fun s hs => (hok3 s hs).1⟩, hok1, fun s hs => (hok3 s hs).2⟩, ?_⟩
  rw [E.cells_eq] at hr
  have q1 : RepL (ghOf w) [.list .none (l.map cS.enc)] [a] := repL_one hr1
  have q3 : RepL (ghOf w) [.list .none (m.map cStep.enc)] [e] := repL_one hr3
  exact RepL.append q1 (RepL.append hr q3)
end
end Go.Proofs.YtkdendaohlnlcaaGreatDoor.Av
