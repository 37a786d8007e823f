/- What the functions of the reference of layer 9 answer. No condition. -/
import Derived.Test.YtkdendaohlnlcaaDoorUn
import Derived.Test.YtkdendaohlnlcaaDoorR02
namespace Go.Proofs.YtkdendaohlnlcaaDoor.Av
set_option linter.unusedVariables false
set_option linter.unusedSimpArgs false
set_option maxRecDepth 4000
set_option maxHeartbeats 1000000
variable {w0 : Base} {k : List Nat} {H : Hp}
def small (c : Int) : Bool := decide (97 ≤ c) && decide (c ≤ 122)
def digit (c : Int) : Bool := decide (48 ≤ c) && decide (c ≤ 57)
def number (c : Int) : Bool := decide (0 ≤ c) && decide (c ≤ 999999999)
theorem small_call (c : Int) : CallAt Tryd.prog w0 k 55 [.int .u8 c] H H (.bool (small c)) := by
  refine callAt tabOk Spec.no_ok mixed Tryd.func55 rfl rfl Tryd.results55 Tryd.ntmps55 (by simp) [] ?_
  intro hfr t hl ht
  simp only [At, Nat.reduceAdd, List.cons_append, List.nil_append] at ht
  simp (config := {contextual := true, maxSteps := 5000000}) only [go_sem, Nat.reduceAdd, Nat.reduceLT, Nat.reduceBEq, Nat.reduceSub, Nat.reduceMul, Nat.reduceLeDiff, Int.reduceToNat, Nat.reduceEqDiff, Nat.reduceMod, ht, hl]
  simp +contextual [small] <;> omega
theorem digit_call (c : Int) : CallAt Tryd.prog w0 k 56 [.int .u8 c] H H (.bool (digit c)) := by
  refine callAt tabOk Spec.no_ok mixed Tryd.func56 rfl rfl Tryd.results56 Tryd.ntmps56 (by simp) [] ?_
  intro hfr t hl ht
  simp only [At, Nat.reduceAdd, List.cons_append, List.nil_append] at ht
  simp (config := {contextual := true, maxSteps := 5000000}) only [go_sem, Nat.reduceAdd, Nat.reduceLT, Nat.reduceBEq, Nat.reduceSub, Nat.reduceMul, Nat.reduceLeDiff, Int.reduceToNat, Nat.reduceEqDiff, Nat.reduceMod, ht, hl]
  simp +contextual [digit] <;> omega
theorem number09_call (c : Int) : CallAt Tryd.prog w0 k 44 [.int .i64 c] H H (.bool (number c)) := by
  refine callAt tabOk Spec.no_ok mixed Tryd.func44 rfl rfl Tryd.results44 Tryd.ntmps44 (by simp) [] ?_
  intro hfr t hl ht
  simp only [At, Nat.reduceAdd, List.cons_append, List.nil_append] at ht
  simp (config := {contextual := true, maxSteps := 5000000}) only [go_sem, Nat.reduceAdd, Nat.reduceLT, Nat.reduceBEq, Nat.reduceSub, Nat.reduceMul, Nat.reduceLeDiff, Int.reduceToNat, Nat.reduceEqDiff, Nat.reduceMod, ht, hl]
  simp +contextual [number] <;> omega
def specN : Spec := (Spec.no.add 55 (sp1 dC (fun _ => True) fun c => .bool (small c))).add 56 (sp1 dC (fun _ => True) fun c => .bool (digit c))
theorem specN_ok : SpecOk Tryd.prog w0 specN := (Spec.no_ok.add (sp1_ok fun c _ k H => small_call c)).add (sp1_ok fun c _ k H => digit_call c)
def okc (c : Int) : Bool := small c || digit c || c == 45
def isName (s : ByteArray) : Bool := decide (1 ≤ s.size ∧ s.size ≤ 12 ∧ small (byteAt s 0) = true ∧ ∀ i, i < s.size → okc (byteAt s i) = true)
theorem name09_call (s : ByteArray) : CallAt Tryd.prog w0 k 40 [.str s] H H (.bool (isName s)) := by
  refine callAt tabOk specN_ok mixed Tryd.func40 rfl rfl Tryd.results40 Tryd.ntmps40 (by simp) [] ?_
  intro hfr t hl ht
  simp only [At, Nat.reduceAdd, List.cons_append, List.nil_append] at ht
  simp (config := {contextual := true, maxSteps := 5000000}) only [go_sem, Nat.reduceAdd, Nat.reduceLT, Nat.reduceBEq, Nat.reduceSub, Nat.reduceMul, Nat.reduceLeDiff, Int.reduceToNat, Nat.reduceEqDiff, Nat.reduceMod, ht, hl, specN]
  refine ⟨fun h1 => ⟨fun h2 => ⟨by simp at h1; omega, fun h3 => ?_, fun h3 => ?_⟩, fun h2 => ?_⟩, fun h1 => ?_⟩
  · simp at h1 h2 h3
    simp [isName, h3]
  · simp at h1 h2 h3
    refine loop_inv tabOk specN_ok mixed [] (fun j x => ∃ i : Nat, x.tmps.length = 42 ∧ x.tmps.getD 0 AV.undef = .str s ∧ x.tmps.getD 3 AV.undef = .int .i64 i ∧ x.H = H ∧ i + j = s.size ∧ ∀ i', i' < i → okc (byteAt s i') = true) s.size ⟨0, ?_⟩ ?_
    · simp (config := {contextual := true, maxSteps := 5000000}) only [go_sem, Nat.reduceAdd, Nat.reduceLT, Nat.reduceBEq, Nat.reduceSub, Nat.reduceMul, Nat.reduceLeDiff, Int.reduceToNat, Nat.reduceEqDiff, Nat.reduceMod, ht, hl]
      simp
    · rintro j ⟨t, m, H'⟩ ⟨i, hl, h0, h3', rfl, hij, hall⟩
      simp only at hl h0 h3'
      by_cases hi : i < s.size
      · have hd : decide ((i : Int) < (s.size : Int)) = true := by simp [hi]
        have hw : IntKind.i64.wrap ((i : Int) + 1) = ((i + 1 : Nat) : Int) := by rw [wrap_i64] <;> omega
        simp (config := {contextual := true, maxSteps := 5000000}) only [go_sem, Nat.reduceAdd, Nat.reduceLT, Nat.reduceBEq, Nat.reduceSub, Nat.reduceMul, Nat.reduceLeDiff, Int.reduceToNat, Nat.reduceEqDiff, Nat.reduceMod, h0, h3', hl, hd, hw, specN]
        have nx : okc (byteAt s i) = true → ∃ j', j = j' + 1 ∧ ∃ i_1 : Nat, ((i + 1 : Nat) : Int) = (i_1 : Int) ∧ i_1 + j' = s.size ∧ ∀ i', i' < i_1 → okc (byteAt s i') = true :=
          fun h => ⟨j - 1, by omega, i + 1, rfl, by omega, fun i' h' => by
            by_cases e : i' = i
            · rw [e]; exact h
            · exact hall i' (by omega)⟩
        have no : okc (byteAt s i) = false → false = isName s := fun h => by
          symm
          simp only [isName, decide_eq_false_iff_not]
          intro hh
          rw [hh.2.2.2 i hi] at h
          cases h
        have b : 0 ≤ (i : Int) ∧ (i : Int) < s.size := by omega
        generalize (∃ j', j = j' + 1 ∧ ∃ i_1 : Nat, ((i + 1 : Nat) : Int) = (i_1 : Int) ∧ i_1 + j' = s.size ∧ ∀ i', i' < i_1 → okc (byteAt s i') = true) = NX at nx ⊢
        have ok : okc (byteAt s i) = (small (byteAt s i) || digit (byteAt s i) || byteAt s i == 45) := rfl
        rw [ok] at nx no
        revert nx no
        cases small (byteAt s i) <;> cases digit (byteAt s i) <;> cases hc : (byteAt s i == 45) <;> simp_all
      · have hd : decide ((i : Int) < (s.size : Int)) = false := by simp; omega
        simp (config := {contextual := true, maxSteps := 5000000}) only [go_sem, Nat.reduceAdd, Nat.reduceLT, Nat.reduceBEq, Nat.reduceSub, Nat.reduceMul, Nat.reduceLeDiff, Int.reduceToNat, Nat.reduceEqDiff, Nat.reduceMod, h0, h3', hl, hd]
        symm
        simp only [isName, decide_eq_true_eq]
        exact ⟨by omega, by omega, h3, fun i' h' => hall i' (by omega)⟩
  · simp at h2
    simp [isName]
    omega
  · simp at h1
    simp [isName]
    omega

theorem wantF_call (e : E) (hok : e.ok) : CallAt Tryd.prog w0 k 41 [e.av] H H (.int .i64 e.wantF) := by
  have hS : SpecOk Tryd.prog w0 (spec02b.add 57 (sp1 dE (fun e => e.ok) fun e => .int .i64 e.right)) := spec02b_ok.add (sp1_ok fun e h k H => right02_call e h)
  refine callAt tabOk hS mixed Tryd.func41 rfl rfl Tryd.results41 Tryd.ntmps41 (by simp) [] ?_
  intro hfr t hl ht
  simp only [At, Nat.reduceAdd, List.cons_append, List.nil_append] at ht
  simp (config := {contextual := true, maxSteps := 5000000}) only [go_sem, Nat.reduceAdd, Nat.reduceLT, Nat.reduceBEq, Nat.reduceSub, Nat.reduceMul, Nat.reduceLeDiff, Int.reduceToNat, Nat.reduceEqDiff, Nat.reduceMod, ht, hl, spec02b]
  unfold E.wantF
  (repeat' (first | apply And.intro | intro _)) <;> simp_all
def specW : Spec := spec02b.add 41 (sp1 dE (fun e => e.ok) fun e => .int .i64 e.wantF)
theorem specW_ok : SpecOk Tryd.prog w0 specW := spec02b_ok.add (sp1_ok fun e h k H => wantF_call e h)
theorem written09_call (e : E) (hok : e.ok) : CallAt Tryd.prog w0 k 26 [e.av] H H (.int .i64 e.written) := by
  refine callAt tabOk specW_ok mixed Tryd.func26 rfl rfl Tryd.results26 Tryd.ntmps26 (by simp) [] ?_
  intro hfr t hl ht
  simp only [At, Nat.reduceAdd, List.cons_append, List.nil_append] at ht
  simp (config := {contextual := true, maxSteps := 5000000}) only [go_sem, Nat.reduceAdd, Nat.reduceLT, Nat.reduceBEq, Nat.reduceSub, Nat.reduceMul, Nat.reduceLeDiff, Int.reduceToNat, Nat.reduceEqDiff, Nat.reduceMod, ht, hl, specW, spec02b]
  unfold E.written
  (repeat' (first | apply And.intro | intro _)) <;> simp_all <;> omega
end Go.Proofs.YtkdendaohlnlcaaDoor.Av
