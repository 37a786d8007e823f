/- What the functions of package unit answer: names, steps. No condition. -/
import Derived.Test.YtkdendaohlnlcaaDoorR09b
namespace Go.Proofs.YtkdendaohlnlcaaDoor.Av
set_option linter.unusedVariables false
set_option linter.unusedSimpArgs false
set_option maxRecDepth 4000
set_option maxHeartbeats 1000000
variable {w0 : Base} {k : List Nat} {H : Hp}
theorem number_call (c : Int) : CallAt Tryd.prog w0 k 46 [.int .i64 c] H H (.bool (number c)) := by
  refine callAt tabOk Spec.no_ok mixed Tryd.func46 rfl rfl Tryd.results46 Tryd.ntmps46 (by simp) [] ?_
  intro hfr t hl ht
  simp only [At, Nat.reduceAdd, List.cons_append, List.nil_append] at ht
  simp (config := {contextual := true, maxSteps := 5000000}) only [go_sem, Nat.reduceAdd, Nat.reduceLT, Nat.reduceBEq, Nat.reduceSub, Nat.reduceMul, Nat.reduceLeDiff, Int.reduceToNat, Nat.reduceEqDiff, Nat.reduceMod, ht, hl]
  simp +contextual [number] <;> omega
theorem okc_iff (c : Int) : okc c = true ↔ (97 ≤ c ∧ c ≤ 122) ∨ (48 ≤ c ∧ c ≤ 57) ∨ c = 45 := by
  simp [okc, small, digit]
  omega
theorem small_iff (c : Int) : small c = true ↔ 97 ≤ c ∧ c ≤ 122 := by simp [small]
theorem isName_iff (s : ByteArray) : isName s = true ↔ 1 ≤ s.size ∧ s.size ≤ 12 ∧ small (byteAt s 0) = true ∧ ∀ i : Nat, i < s.size → okc (byteAt s i) = true := by simp only [isName, decide_eq_true_eq]
theorem name_call (s : ByteArray) (hs : (s.size : Int) ≤ 9223372036854775807) : CallAt Tryd.prog w0 k 29 [.str s] H H (.bool (isName s)) := by
  refine callAt tabOk Spec.no_ok mixed Tryd.func29 rfl rfl Tryd.results29 Tryd.ntmps29 (by simp) [] ?_
  intro hfr t hl ht
  simp only [At, Nat.reduceAdd, List.cons_append, List.nil_append] at ht
  simp (config := {contextual := true, maxSteps := 5000000}) only [go_sem, Nat.reduceAdd, Nat.reduceLT, Nat.reduceBEq, Nat.reduceSub, Nat.reduceMul, Nat.reduceLeDiff, Int.reduceToNat, Nat.reduceEqDiff, Nat.reduceMod, ht, hl]
  refine loop_inv tabOk Spec.no_ok mixed [] (fun j x => ∃ i : Nat, x.tmps.length = 47 ∧ x.tmps.getD 0 AV.undef = .str s ∧ x.tmps.getD 3 AV.undef = .int .i64 i ∧ x.H = H ∧ i + j = s.size ∧ (0 < i → small (byteAt s 0) = true) ∧ ∀ i', i' < i → okc (byteAt s i') = true) s.size ⟨0, ?_⟩ ?_
  · simp (config := {contextual := true, maxSteps := 5000000}) only [go_sem, Nat.reduceAdd, Nat.reduceLT, Nat.reduceBEq, Nat.reduceSub, Nat.reduceMul, Nat.reduceLeDiff, Int.reduceToNat, Nat.reduceEqDiff, Nat.reduceMod, ht, hl]
    simp
  · rintro j ⟨t, m, H'⟩ ⟨i, hl, h0, h3', rfl, hij, hz, hall⟩
    simp only at hl h0 h3'
    by_cases hi : i < s.size
    · have hd : decide ((i : Int) < (s.size : Int)) = true := by simp [hi]
      have hw : IntKind.i64.wrap ((i : Int) + 1) = ((i + 1 : Nat) : Int) := by rw [wrap_i64] <;> omega
      simp (config := {contextual := true, maxSteps := 5000000}) only [go_sem, Nat.reduceAdd, Nat.reduceLT, Nat.reduceBEq, Nat.reduceSub, Nat.reduceMul, Nat.reduceLeDiff, Int.reduceToNat, Nat.reduceEqDiff, Nat.reduceMod, h0, h3', hl, hd, hw]
      have nx : ((97 ≤ byteAt s i ∧ byteAt s i ≤ 122) ∨ (48 ≤ byteAt s i ∧ byteAt s i ≤ 57) ∨ byteAt s i = 45) → ((i : Int) = 0 → 97 ≤ byteAt s i ∧ byteAt s i ≤ 122) → ∃ j', j = j' + 1 ∧ ∃ i_1 : Nat, ((i + 1 : Nat) : Int) = (i_1 : Int) ∧ i_1 + j' = s.size ∧ (0 < i_1 → small (byteAt s 0) = true) ∧ ∀ i', i' < i_1 → okc (byteAt s i') = true :=
        fun h h2 => ⟨j - 1, by omega, i + 1, rfl, by omega, fun _ => by
          by_cases e : i = 0
          · subst e
            exact (small_iff _).2 (h2 rfl)
          · exact hz (by omega), fun i' h' => by
          by_cases e : i' = i
          · rw [e]; exact (okc_iff _).2 h
          · exact hall i' (by omega)⟩
      have no1 : ¬ ((97 ≤ byteAt s i ∧ byteAt s i ≤ 122) ∨ (48 ≤ byteAt s i ∧ byteAt s i ≤ 57) ∨ byteAt s i = 45) → isName s = false := fun h => by
        rw [← okc_iff] at h
        cases hn : isName s with
        | false => rfl
        | true => exact absurd (((isName_iff s).1 hn).2.2.2 i hi) h
      have no2 : (i : Int) = 0 → ¬ (97 ≤ byteAt s i ∧ byteAt s i ≤ 122) → isName s = false := fun h0 h => by
        obtain rfl : i = 0 := by omega
        rw [← small_iff] at h
        cases hn : isName s with
        | false => rfl
        | true => exact absurd ((isName_iff s).1 hn).2.2.1 h
      generalize (∃ j', j = j' + 1 ∧ ∃ i_1 : Nat, ((i + 1 : Nat) : Int) = (i_1 : Int) ∧ i_1 + j' = s.size ∧ (0 < i_1 → small (byteAt s 0) = true) ∧ ∀ i', i' < i_1 → okc (byteAt s i') = true) = NX at nx ⊢
      simp only [decide_eq_true_eq, decide_eq_false_iff_not, Bool.not_eq_true', Bool.not_eq_false', bne_iff_ne, bne_eq_false_iff_eq, beq_iff_eq, beq_eq_false_iff_ne, ne_eq, Bool.false_eq, Bool.true_eq]
      (repeat' (first | apply And.intro | intro _)) <;> first | omega | exact nx (by omega) (by omega) | exact no1 (by omega) | exact no2 (by omega) (by omega)
    · have hd : decide ((i : Int) < (s.size : Int)) = false := by simp; omega
      simp (config := {contextual := true, maxSteps := 5000000}) only [go_sem, Nat.reduceAdd, Nat.reduceLT, Nat.reduceBEq, Nat.reduceSub, Nat.reduceMul, Nat.reduceLeDiff, Int.reduceToNat, Nat.reduceEqDiff, Nat.reduceMod, h0, h3', hl, hd]
      have key : 1 ≤ s.size → s.size ≤ 12 → isName s = true := fun h1 h2 => (isName_iff s).2 ⟨h1, h2, hz (by omega), fun i' h' => hall i' (by omega)⟩
      have k2 : ¬ (1 ≤ s.size ∧ s.size ≤ 12) → isName s = false := fun h => by
        cases hn : isName s with
        | false => rfl
        | true => exact absurd ⟨((isName_iff s).1 hn).1, ((isName_iff s).1 hn).2.1⟩ h
      refine ⟨fun a => ?_, fun a => ?_⟩ <;> simp only [decide_eq_true_eq, decide_eq_false_iff_not] at a
      · by_cases b : s.size ≤ 12
        · rw [key (by omega) b]
          simp
          omega
        · rw [k2 (by omega)]
          simp
          omega
      · rw [k2 (by omega)]
def specP0 : Spec := (Spec.no.add 46 (sp1 dI (fun _ => True) fun c => .bool (number c))).add 29 (sp1 dS (fun s => (s.size : Int) ≤ 9223372036854775807) fun c => .bool (isName c))
theorem specP0_ok : SpecOk Tryd.prog w0 specP0 := (Spec.no_ok.add (sp1_ok fun c _ k H => number_call c)).add (sp1_ok fun c h k H => name_call c h)
theorem shaped09_call (s : Step) : CallAt Tryd.prog w0 k 33 [(dA cStep).enc s] H H (.bool s.fine) := by
  refine callAt tabOk specP0_ok mixed Tryd.func33 rfl rfl Tryd.results33 Tryd.ntmps33 (by simp) [] ?_
  intro hfr t hl ht
  simp only [At, dA, cStep, Step.cells] at ht
  have hc : (s.by_ = 1 ∨ s.by_ = 2 ∨ s.by_ = 3 ∨ s.by_ = 4) ∨ (s.by_ == 1) = false ∧ (s.by_ == 2) = false ∧ (s.by_ == 3) = false ∧ (s.by_ == 4) = false := by
    simp only [beq_eq_false_iff_ne]
    omega
  unfold Step.fine
  rcases hc with (hb | hb | hb | hb) | ⟨b1, b2, b3, b4⟩
  · simp (config := {contextual := true, maxSteps := 5000000}) only [go_sem, Nat.reduceAdd, Nat.reduceLT, Nat.reduceBEq, Nat.reduceSub, Nat.reduceMul, Nat.reduceLeDiff, Int.reduceToNat, Nat.reduceEqDiff, Nat.reduceMod, ht, hl, hb, specP0, Int.reduceBEq]
    (repeat' (first | apply And.intro | intro _)) <;> simp_all [e0]
  · simp (config := {contextual := true, maxSteps := 5000000}) only [go_sem, Nat.reduceAdd, Nat.reduceLT, Nat.reduceBEq, Nat.reduceSub, Nat.reduceMul, Nat.reduceLeDiff, Int.reduceToNat, Nat.reduceEqDiff, Nat.reduceMod, ht, hl, hb, specP0, Int.reduceBEq]
    (repeat' (first | apply And.intro | intro _)) <;> simp_all [e0]
  · simp (config := {contextual := true, maxSteps := 5000000}) only [go_sem, Nat.reduceAdd, Nat.reduceLT, Nat.reduceBEq, Nat.reduceSub, Nat.reduceMul, Nat.reduceLeDiff, Int.reduceToNat, Nat.reduceEqDiff, Nat.reduceMod, ht, hl, hb, specP0, Int.reduceBEq]
    (repeat' (first | apply And.intro | intro _)) <;> simp_all [e0]
  · simp (config := {contextual := true, maxSteps := 5000000}) only [go_sem, Nat.reduceAdd, Nat.reduceLT, Nat.reduceBEq, Nat.reduceSub, Nat.reduceMul, Nat.reduceLeDiff, Int.reduceToNat, Nat.reduceEqDiff, Nat.reduceMod, ht, hl, hb, specP0, Int.reduceBEq]
    (repeat' (first | apply And.intro | intro _)) <;> simp_all [e0]
  · simp (config := {contextual := true, maxSteps := 5000000}) only [go_sem, Nat.reduceAdd, Nat.reduceLT, Nat.reduceBEq, Nat.reduceSub, Nat.reduceMul, Nat.reduceLeDiff, Int.reduceToNat, Nat.reduceEqDiff, Nat.reduceMod, ht, hl, b1, b2, b3, b4, specP0, Int.reduceBEq]
    simp only [beq_eq_false_iff_ne] at b1 b2 b3 b4
    simp [b1, b2, b3, b4]
def specP1 : Spec := specP0.add 33 (sp1 (dA cStep) (fun _ => True) fun s => .bool s.fine)
theorem specP1_ok : SpecOk Tryd.prog w0 specP1 := specP0_ok.add (sp1_ok fun s _ k H => shaped09_call s)
def Step.err (s : Step) (i : Int) : Int := if 60 ≤ i then 2 else s.why
theorem reasoned_call (s : Step) (i : Int) (hs : (s.cite.size : Int) ≤ 9223372036854775807) : CallAt Tryd.prog w0 k 19 [(dA cStep).enc s, .int .i64 i] H H (.int .i64 (s.err i)) := by
  refine callAt tabOk specP1_ok mixed Tryd.func19 rfl rfl Tryd.results19 Tryd.ntmps19 (by simp) [] ?_
  intro hfr t hl ht
  simp only [At, dA, cStep, Step.cells, Nat.reduceAdd] at ht
  simp (config := {contextual := true, maxSteps := 5000000}) only [go_sem, Nat.reduceAdd, Nat.reduceLT, Nat.reduceBEq, Nat.reduceSub, Nat.reduceMul, Nat.reduceLeDiff, Int.reduceToNat, Nat.reduceEqDiff, Nat.reduceMod, ht, hl, specP1, specP0]
  unfold Step.err Step.why
  (repeat' (first | apply And.intro | intro _)) <;> simp_all <;> omega
def citedErr (had : List ByteArray) (s : ByteArray) : Int := if isName s then (if had.any fun t => t.toList == s.toList then 92 else if 8 ≤ had.length then 2 else 0) else 91
theorem cited_call (l : List ByteArray) (s : ByteArray) (hn : (l.length : Int) ≤ 9223372036854775807) (hs : (s.size : Int) ≤ 9223372036854775807) : CallAt Tryd.prog w0 k 17 [(dL cS).enc l, .str s] H H (.int .i64 (citedErr l s)) := by
  refine callAt tabOk specP1_ok mixed Tryd.func17 rfl rfl Tryd.results17 Tryd.ntmps17 (by simp) [] ?_
  intro hfr t hl ht
  simp only [At, dL, Nat.reduceAdd] at ht
  simp (config := {contextual := true, maxSteps := 5000000}) only [go_sem, Nat.reduceAdd, Nat.reduceLT, Nat.reduceBEq, Nat.reduceSub, Nat.reduceMul, Nat.reduceLeDiff, Int.reduceToNat, Nat.reduceEqDiff, Nat.reduceMod, ht, hl, specP1, specP0]
  refine ⟨hs, fun a => ?_, fun a => ?_⟩ <;> simp only [Bool.not_eq_true', Bool.not_eq_false'] at a
  · simp [citedErr, a]
  · refine loop_inv tabOk specP1_ok mixed [] (fun q x => ∃ m : Nat, x.tmps.length = 23 ∧ x.tmps.getD 0 AV.undef = .list .none (l.map cS.enc) ∧ x.tmps.getD 1 AV.undef = .str s ∧ x.tmps.getD 10 AV.undef = .list .none (l.map cS.enc) ∧ x.tmps.getD 11 AV.undef = .int .i64 l.length ∧
      x.tmps.getD 12 AV.undef = .int .i64 m ∧ x.H = H ∧ m + q = l.length ∧ ∀ m' y, m' < m → l[m']? = some y → (y.toList == s.toList) = false) l.length ⟨0, ?_⟩ ?_
    · simp (config := {contextual := true, maxSteps := 5000000}) only [go_sem, Nat.reduceAdd, Nat.reduceLT, Nat.reduceBEq, Nat.reduceSub, Nat.reduceMul, Nat.reduceLeDiff, Int.reduceToNat, Nat.reduceEqDiff, Nat.reduceMod, ht, hl]
      simp
    · rintro q ⟨t, n, H'⟩ ⟨m, hl, h0, h1, h10, h11, h12, hH, hmq, hno⟩
      simp only at hl h0 h1 h10 h11 h12 hH
      subst hH
      by_cases hm : m < l.length
      · have hd : decide ((m : Int) < (l.length : Int)) = true := by simp [hm]
        have hw3 : IntKind.i64.wrap ((m : Int) + 1) = ((m + 1 : Nat) : Int) := by rw [wrap_i64] <;> omega
        obtain ⟨y, hy, hye⟩ := str_get l hm
        simp (config := {contextual := true, maxSteps := 5000000}) only [go_sem, Nat.reduceAdd, Nat.reduceLT, Nat.reduceBEq, Nat.reduceSub, Nat.reduceMul, Nat.reduceLeDiff, Int.reduceToNat, Nat.reduceEqDiff, Nat.reduceMod, hye, h0, h1, h10, h11, h12, hl, hd, hw3]
        refine ⟨⟨by omega, by omega⟩, fun b => ?_, fun b => ⟨q - 1, by omega, m + 1, rfl, by omega, fun m' z hm' hz => ?_⟩⟩
        · have : (l.any fun t => t.toList == s.toList) = true := by
            rw [List.any_eq_true]
            exact ⟨y, List.mem_of_getElem? hy, b⟩
          simp [citedErr, a, this]
        · by_cases e : m' = m
          · subst e
            rw [hy] at hz
            cases hz
            exact b
          · exact hno m' z (by omega) hz
      · have hd : decide ((m : Int) < (l.length : Int)) = false := by simp; omega
        simp (config := {contextual := true, maxSteps := 5000000}) only [go_sem, Nat.reduceAdd, Nat.reduceLT, Nat.reduceBEq, Nat.reduceSub, Nat.reduceMul, Nat.reduceLeDiff, Int.reduceToNat, Nat.reduceEqDiff, Nat.reduceMod, h0, h1, h10, h11, h12, hl, hd]
        have : (l.any fun t => t.toList == s.toList) = false := by
          rw [List.any_eq_false]
          intro y hy
          obtain ⟨m', hm', rfl⟩ := List.getElem_of_mem hy
          have := hno m' l[m'] (by omega) (by simp)
          simp [this]
        simp only [citedErr, a, this, Bool.false_eq_true, if_false, if_true]
        refine ⟨fun b => ?_, fun b => ?_⟩ <;> simp only [decide_eq_true_eq, decide_eq_false_iff_not] at b
        · rw [if_pos (by omega)]
        · rw [if_neg (by omega)]
end Go.Proofs.YtkdendaohlnlcaaDoor.Av
