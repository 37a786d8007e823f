/- What the functions of the reference of layer 9 answer: steps, names, units. No condition. -/
import Derived.Test.YtkdendaohlnlcaaDoorR09
namespace Go.Proofs.YtkdendaohlnlcaaDoor.Av
set_option linter.unusedVariables false
set_option linter.unusedSimpArgs false
set_option maxRecDepth 4000
set_option maxHeartbeats 1000000
variable {w0 : Base} {k : List Nat} {H : Hp}
def e0 (s : ByteArray) : Bool := s.toList == (⟨#[]⟩ : ByteArray).toList
def Step.fine (s : Step) : Bool :=
  if s.by_ = 1 then number s.a && (s.b == 0 && e0 s.cite) else if s.by_ = 2 then number s.a && (number s.b && e0 s.cite)
  else if s.by_ = 3 then number s.a && (decide (0 ≤ s.b) && (decide (s.b ≤ 63) && e0 s.cite)) else if s.by_ = 4 then s.a == 0 && s.b == 0 else false
def Step.why (s : Step) : Int := if s.fine then (if s.by_ = 4 ∧ isName s.cite = false then 91 else 0) else 90
def specR : Spec := (Spec.no.add 44 (sp1 dI (fun _ => True) fun c => .bool (number c))).add 40 (sp1 dS (fun _ => True) fun c => .bool (isName c))
theorem specR_ok : SpecOk Tryd.prog w0 specR := (Spec.no_ok.add (sp1_ok fun c _ k H => number09_call c)).add (sp1_ok fun c _ k H => name09_call c)
theorem reason09_call (s : Step) : CallAt Tryd.prog w0 k 27 [(dA cStep).enc s] H H (.int .i64 s.why) := by
  refine callAt tabOk specR_ok mixed Tryd.func27 rfl rfl Tryd.results27 Tryd.ntmps27 (by simp) [] ?_
  intro hfr t hl ht
  simp only [At, dA, cStep, Step.cells] at ht
  have hc : (s.by_ = 1 ∨ s.by_ = 2 ∨ s.by_ = 3 ∨ s.by_ = 4) ∨ (s.by_ == 1) = false ∧ (s.by_ == 2) = false ∧ (s.by_ == 3) = false ∧ (s.by_ == 4) = false := by
    simp only [beq_eq_false_iff_ne]
    omega
  unfold Step.why Step.fine
  rcases hc with (hb | hb | hb | hb) | ⟨b1, b2, b3, b4⟩
  · simp (config := {contextual := true, maxSteps := 5000000}) only [go_sem, Nat.reduceAdd, Nat.reduceLT, Nat.reduceBEq, Nat.reduceSub, Nat.reduceMul, Nat.reduceLeDiff, Int.reduceToNat, Nat.reduceEqDiff, Nat.reduceMod, ht, hl, hb, specR, Int.reduceBEq]
    (repeat' (first | apply And.intro | intro _)) <;> simp_all [e0]
  · simp (config := {contextual := true, maxSteps := 5000000}) only [go_sem, Nat.reduceAdd, Nat.reduceLT, Nat.reduceBEq, Nat.reduceSub, Nat.reduceMul, Nat.reduceLeDiff, Int.reduceToNat, Nat.reduceEqDiff, Nat.reduceMod, ht, hl, hb, specR, Int.reduceBEq]
    (repeat' (first | apply And.intro | intro _)) <;> simp_all [e0]
  · simp (config := {contextual := true, maxSteps := 5000000}) only [go_sem, Nat.reduceAdd, Nat.reduceLT, Nat.reduceBEq, Nat.reduceSub, Nat.reduceMul, Nat.reduceLeDiff, Int.reduceToNat, Nat.reduceEqDiff, Nat.reduceMod, ht, hl, hb, specR, Int.reduceBEq]
    (repeat' (first | apply And.intro | intro _)) <;> simp_all [e0]
  · simp (config := {contextual := true, maxSteps := 5000000}) only [go_sem, Nat.reduceAdd, Nat.reduceLT, Nat.reduceBEq, Nat.reduceSub, Nat.reduceMul, Nat.reduceLeDiff, Int.reduceToNat, Nat.reduceEqDiff, Nat.reduceMod, ht, hl, hb, specR, Int.reduceBEq]
    (repeat' (first | apply And.intro | intro _)) <;> simp_all [e0]
  · simp (config := {contextual := true, maxSteps := 5000000}) only [go_sem, Nat.reduceAdd, Nat.reduceLT, Nat.reduceBEq, Nat.reduceSub, Nat.reduceMul, Nat.reduceLeDiff, Int.reduceToNat, Nat.reduceEqDiff, Nat.reduceMod, ht, hl, b1, b2, b3, b4, specR, Int.reduceBEq]
    simp only [beq_eq_false_iff_ne] at b1 b2 b3 b4
    simp [b1, b2, b3, b4]

/-- What is wrong with names, behind those that are had. -/
def namesGo (had : List ByteArray) : List ByteArray → Int
  | [] => 0
  | s :: r => if isName s then (if had.any fun t => t.toList == s.toList then 92 else if 8 ≤ had.length then 2 else namesGo (had ++ [s]) r) else 91
theorem namesGo_at (l : List ByteArray) {i : Nat} {s : ByteArray} (h : l[i]? = some s) :
    namesGo (l.take i) (l.drop i) = if isName s then (if (l.take i).any fun t => t.toList == s.toList then 92 else if 8 ≤ i then 2 else namesGo (l.take (i + 1)) (l.drop (i + 1))) else 91 := by
  obtain ⟨hi, h'⟩ := List.getElem?_eq_some_iff.1 h
  rw [List.drop_eq_getElem_cons hi, h', namesGo, List.length_take, Nat.min_eq_left (by omega), List.take_add_one, h]
  rfl
theorem names09_call (l : List ByteArray) (hn : (l.length : Int) ≤ 9223372036854775807) : CallAt Tryd.prog w0 k 25 [(dL cS).enc l] H H (.int .i64 (namesGo [] l)) := by
  refine callAt tabOk specR_ok mixed Tryd.func25 rfl rfl Tryd.results25 Tryd.ntmps25 (by simp) [] ?_
  intro hfr t hl ht
  simp only [At, dL] at ht
  simp (config := {contextual := true, maxSteps := 5000000}) only [go_sem, Nat.reduceAdd, Nat.reduceLT, Nat.reduceBEq, Nat.reduceSub, Nat.reduceMul, Nat.reduceLeDiff, Int.reduceToNat, Nat.reduceEqDiff, Nat.reduceMod, ht, hl]
  refine loop_inv tabOk specR_ok mixed [] (fun j x => ∃ i : Nat, x.tmps.length = 30 ∧ x.tmps.getD 0 AV.undef = .list .none (l.map cS.enc) ∧ x.tmps.getD 6 AV.undef = .list .none (l.map cS.enc) ∧
    x.tmps.getD 7 AV.undef = .int .i64 l.length ∧ x.tmps.getD 8 AV.undef = .int .i64 i ∧ x.H = H ∧ i + j = l.length ∧ namesGo (l.take i) (l.drop i) = namesGo [] l) l.length ⟨0, ?_⟩ ?_
  · simp (config := {contextual := true, maxSteps := 5000000}) only [go_sem, Nat.reduceAdd, Nat.reduceLT, Nat.reduceBEq, Nat.reduceSub, Nat.reduceMul, Nat.reduceLeDiff, Int.reduceToNat, Nat.reduceEqDiff, Nat.reduceMod, ht, hl]
    simp
  · rintro j ⟨t, n, H'⟩ ⟨i, hl, h0, h6, h7, h8, rfl, hij, hgo⟩
    simp only at hl h0 h6 h7 h8
    by_cases hi : i < l.length
    · have hd : decide ((i : Int) < (l.length : Int)) = true := by simp [hi]
      have hw2 : IntKind.i64.wrap ((i : Int) + 1) = ((i + 1 : Nat) : Int) := by rw [wrap_i64] <;> omega
      obtain ⟨s, hs, he⟩ := str_get l hi
      have hat := namesGo_at l hs
      simp (config := {contextual := true, maxSteps := 5000000}) only [go_sem, Nat.reduceAdd, Nat.reduceLT, Nat.reduceBEq, Nat.reduceSub, Nat.reduceMul, Nat.reduceLeDiff, Int.reduceToNat, Nat.reduceEqDiff, Nat.reduceMod, he, specR, h0, h6, h7, h8, hl, hd, hw2]
      refine ⟨⟨by omega, by omega⟩, fun a => ?_, fun a => ?_⟩ <;> simp only [Bool.not_eq_true', Bool.not_eq_false'] at a <;> simp only [a, Bool.false_eq_true, if_false, if_true] at hat
      · rw [← hgo, hat]
      · refine loop_inv tabOk specR_ok mixed [] (fun q x => ∃ m : Nat, x.tmps.length = 30 ∧ x.tmps.getD 0 AV.undef = .list .none (l.map cS.enc) ∧ x.tmps.getD 3 AV.undef = .int .i64 i ∧ x.tmps.getD 4 AV.undef = .str s ∧ x.tmps.getD 5 AV.undef = .int .i64 m ∧ x.tmps.getD 6 AV.undef = .list .none (l.map cS.enc) ∧
          x.tmps.getD 7 AV.undef = .int .i64 l.length ∧ x.tmps.getD 8 AV.undef = .int .i64 i ∧ x.H = H' ∧ m + q = i ∧ ∀ m' y, m' < m → l[m']? = some y → (y.toList == s.toList) = false) i ⟨0, ?_⟩ ?_
        · simp (config := {contextual := true, maxSteps := 5000000}) only [go_sem, Nat.reduceAdd, Nat.reduceLT, Nat.reduceBEq, Nat.reduceSub, Nat.reduceMul, Nat.reduceLeDiff, Int.reduceToNat, Nat.reduceEqDiff, Nat.reduceMod, h0, h6, h7, h8, hl]
          simp
        · rintro q ⟨t, n, H''⟩ ⟨m, hl, h0, h3, h4, h5, h6, h7, h8, hH, hmq, hno⟩
          simp only at hl h0 h3 h4 h5 h6 h7 h8 hH
          subst hH
          by_cases hm : m < i
          · have hd : decide ((m : Int) < (i : Int)) = true := by simp [hm]
            have hw3 : IntKind.i64.wrap ((m : Int) + 1) = ((m + 1 : Nat) : Int) := by rw [wrap_i64] <;> omega
            obtain ⟨y, hy, hye⟩ := str_get l (show m < l.length by omega)
            simp (config := {contextual := true, maxSteps := 5000000}) only [go_sem, Nat.reduceAdd, Nat.reduceLT, Nat.reduceBEq, Nat.reduceSub, Nat.reduceMul, Nat.reduceLeDiff, Int.reduceToNat, Nat.reduceEqDiff, Nat.reduceMod, hye, h0, h3, h4, h5, h6, h7, h8, hl, hd, hw3]
            refine ⟨⟨by omega, by omega⟩, fun b => ?_, fun b => ⟨q - 1, by omega, m + 1, rfl, by omega, fun m' z hm' hz => ?_⟩⟩
            · have : ((l.take i).any fun t => t.toList == s.toList) = true := by
                rw [List.any_eq_true]
                exact ⟨y, List.mem_of_getElem? (by rw [List.getElem?_take_of_lt hm]; exact hy), b⟩
              rw [← hgo, hat, if_pos this]
            · by_cases e : m' = m
              · subst e
                rw [hy] at hz
                cases hz
                exact b
              · exact hno m' z (by omega) hz
          · have hd : decide ((m : Int) < (i : Int)) = false := by simp; omega
            simp (config := {contextual := true, maxSteps := 5000000}) only [go_sem, Nat.reduceAdd, Nat.reduceLT, Nat.reduceBEq, Nat.reduceSub, Nat.reduceMul, Nat.reduceLeDiff, Int.reduceToNat, Nat.reduceEqDiff, Nat.reduceMod, h0, h3, h4, h5, h6, h7, h8, hl, hd, hw2]
            have : ((l.take i).any fun t => t.toList == s.toList) = false := by
              rw [List.any_eq_false]
              intro y hy
              obtain ⟨m', hm', rfl⟩ := List.getElem_of_mem hy
              simp only [List.length_take] at hm'
              have := hno m' l[m'] (by omega) (by simp)
              simp [this]
            simp only [this, Bool.false_eq_true, if_false] at hat
            refine ⟨fun b => ?_, fun b => ⟨j - 1, by omega, i + 1, rfl, by omega, ?_⟩⟩ <;> simp only [decide_eq_true_eq, decide_eq_false_iff_not] at b
            · rw [← hgo, hat, if_pos (by omega)]
            · rw [← hgo, hat, if_neg (by omega)]
    · have hd : decide ((i : Int) < (l.length : Int)) = false := by simp; omega
      simp (config := {contextual := true, maxSteps := 5000000}) only [go_sem, Nat.reduceAdd, Nat.reduceLT, Nat.reduceBEq, Nat.reduceSub, Nat.reduceMul, Nat.reduceLeDiff, Int.reduceToNat, Nat.reduceEqDiff, Nat.reduceMod, h0, h6, h7, h8, hl, hd]
      rw [← hgo, List.drop_of_length_le (by omega)]
      rfl

def U.okS (u : U) : Prop := u.states.ok ∧ ∀ s, s ∈ u.steps → s.says.ok
/-- What is wrong with steps, behind so many. -/
def stepsGo (i : Nat) : List Step → Int
  | [] => 0
  | s :: r => if 60 ≤ i then 2 else if s.why = 0 then (if s.says.written = 0 then stepsGo (i + 1) r else s.says.written) else s.why
theorem stepsGo_at (l : List Step) {i : Nat} {s : Step} (h : l[i]? = some s) :
    stepsGo i (l.drop i) = if 60 ≤ i then 2 else if s.why = 0 then (if s.says.written = 0 then stepsGo (i + 1) (l.drop (i + 1)) else s.says.written) else s.why := by
  obtain ⟨hi, h'⟩ := List.getElem?_eq_some_iff.1 h
  rw [List.drop_eq_getElem_cons hi, h', stepsGo]
def U.right (u : U) : Int := if namesGo [] u.cites = 0 then (if u.states.written = 0 then (if u.steps.length = 0 then 90 else stepsGo 0 u.steps) else u.states.written) else namesGo [] u.cites
def U.ok (u : U) : Prop := (u.cites.length : Int) ≤ 9223372036854775807 ∧ (u.steps.length : Int) ≤ 9223372036854775807 ∧ u.okS
def specU : Spec := ((Spec.no.add 25 (sp1 (dL cS) (fun l => (l.length : Int) ≤ 9223372036854775807) fun l => .int .i64 (namesGo [] l))).add 26 (sp1 dE (fun e => e.ok) fun e => .int .i64 e.written)).add
  27 (sp1 (dA cStep) (fun _ => True) fun s => .int .i64 s.why)
theorem specU_ok : SpecOk Tryd.prog w0 specU := ((Spec.no_ok.add (sp1_ok fun l h k H => names09_call l h)).add (sp1_ok fun e h k H => written09_call e h)).add (sp1_ok fun s _ k H => reason09_call s)
theorem right09_call (u : U) (hok : u.ok) : CallAt Tryd.prog w0 k 14 [(dA cU).enc u] H H (.int .i64 u.right) := by
  refine callAt tabOk specU_ok mixed Tryd.func14 rfl rfl Tryd.results14 Tryd.ntmps14 (by simp) [] ?_
  intro hfr t hl ht
  simp only [At, dA, cU, U.cells] at ht
  simp (config := {contextual := true, maxSteps := 5000000}) only [go_sem, Nat.reduceAdd, Nat.reduceLT, Nat.reduceBEq, Nat.reduceSub, Nat.reduceMul, Nat.reduceLeDiff, Int.reduceToNat, Nat.reduceEqDiff, Nat.reduceMod, ht, hl, specU]
  obtain ⟨ok1, ok2, ok3, ok4⟩ := hok
  refine ⟨ok1, fun a => ?_, fun a => ⟨ok3, fun b => ?_, fun b => ⟨fun c => ?_, fun c => ?_⟩⟩⟩
  · simp only [bne_iff_ne, ne_eq] at a
    simp [U.right, a]
  · simp only [bne_eq_false_iff_eq, bne_iff_ne, ne_eq] at a b
    simp [U.right, a, b]
  · simp only [bne_eq_false_iff_eq, beq_iff_eq] at a b c
    have : u.steps.length = 0 := by omega
    simp [U.right, a, b, this]
  · simp only [bne_eq_false_iff_eq, beq_eq_false_iff_ne] at a b c
    have hr : u.right = stepsGo 0 u.steps := by
      have : u.steps.length ≠ 0 := by omega
      simp [U.right, a, b, this]
    refine loop_inv tabOk specU_ok mixed [] (fun j x => ∃ i : Nat, x.tmps.length = 44 ∧ x.tmps.getD 23 AV.undef = .list .none (u.steps.map cStep.enc) ∧
      x.tmps.getD 24 AV.undef = .int .i64 u.steps.length ∧ x.tmps.getD 25 AV.undef = .int .i64 i ∧ H.Le x.H ∧ i + j = u.steps.length ∧ stepsGo i (u.steps.drop i) = u.right) u.steps.length ⟨0, ?_⟩ ?_
    · simp (config := {contextual := true, maxSteps := 5000000}) only [go_sem, Nat.reduceAdd, Nat.reduceLT, Nat.reduceBEq, Nat.reduceSub, Nat.reduceMul, Nat.reduceLeDiff, Int.reduceToNat, Nat.reduceEqDiff, Nat.reduceMod, ht, hl]
      simp [hr]
    · rintro j ⟨t, n, H'⟩ ⟨i, hl, h23, h24, h25, hH, hij, hgo⟩
      simp only at hl h23 h24 h25 hH
      by_cases hi : i < u.steps.length
      · have hd : decide ((i : Int) < (u.steps.length : Int)) = true := by simp [hi]
        have hw2 : IntKind.i64.wrap ((i : Int) + 1) = ((i + 1 : Nat) : Int) := by rw [wrap_i64] <;> omega
        obtain ⟨s, hs, he⟩ := step_get u.steps hi
        have hat := stepsGo_at u.steps hs
        have hcs : s.cells = [.int .i64 s.says.kind, .int .i64 s.says.id, .list .none (s.says.kids.map E.cells), .int .i64 s.by_, .int .i64 s.a, .int .i64 s.b, .str s.cite] := rfl
        rw [hcs] at he
        simp (config := {contextual := true, maxSteps := 5000000}) only [go_sem, Nat.reduceAdd, Nat.reduceLT, Nat.reduceBEq, Nat.reduceSub, Nat.reduceMul, Nat.reduceLeDiff, Int.reduceToNat, Nat.reduceEqDiff, Nat.reduceMod, he, specU, h23, h24, h25, hl, hd, hw2]
        have hn : H ⟨7, 3 :: (n + 1) :: k, 45⟩ = none := hfr _ (sfx2 _ _ _)
        have hle : ∀ a, H.Le (H'.upd ⟨7, 3 :: (n + 1) :: k, 45⟩ a) := fun a => Hp.le_upd hH hn
        rw [← hgo, hat]
        refine ⟨⟨by omega, by omega⟩, fun a => ⟨?_, hle _⟩, fun a => ⟨fun b => ⟨?_, hle _⟩, fun b => ⟨ok4 s (List.mem_of_getElem? hs), fun c => ⟨?_, hle _⟩, fun c => ⟨j - 1, by omega, i + 1, rfl, hle _, by omega, ?_⟩⟩⟩⟩
        · simp only [decide_eq_true_eq] at a
          rw [if_pos (by omega)]
        · simp only [decide_eq_false_iff_not, bne_iff_ne, ne_eq] at a b
          rw [if_neg (by omega), if_neg b]
        · simp only [decide_eq_false_iff_not, bne_iff_ne, ne_eq, bne_eq_false_iff_eq] at a b c
          rw [if_neg (by omega), if_pos b, if_neg c]
        · simp only [decide_eq_false_iff_not, bne_eq_false_iff_eq] at a b c
          rw [if_neg (by omega), if_pos b, if_pos c]
      · have hd : decide ((i : Int) < (u.steps.length : Int)) = false := by simp; omega
        simp (config := {contextual := true, maxSteps := 5000000}) only [go_sem, Nat.reduceAdd, Nat.reduceLT, Nat.reduceBEq, Nat.reduceSub, Nat.reduceMul, Nat.reduceLeDiff, Int.reduceToNat, Nat.reduceEqDiff, Nat.reduceMod, h23, h24, h25, hl, hd]
        rw [← hgo, List.drop_of_length_le (by omega)]
        exact ⟨rfl, hH⟩
end Go.Proofs.YtkdendaohlnlcaaDoor.Av
