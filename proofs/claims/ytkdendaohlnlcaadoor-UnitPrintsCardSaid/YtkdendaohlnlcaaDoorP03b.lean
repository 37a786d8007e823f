/- What parse.Print answers; how long a text is. No condition. -/
import Derived.Test.YtkdendaohlnlcaaDoorP03
import Derived.Lib.ItoaLen
namespace Go.Proofs.YtkdendaohlnlcaaDoor.Av
set_option linter.unusedVariables false
set_option linter.unusedSimpArgs false
set_option maxRecDepth 4000
set_option maxHeartbeats 1000000
variable {w0 : Base} {k : List Nat} {H : Hp}
def sumL : List (List UInt8) → Nat
  | [] => 0
  | t :: ts => t.length + sumL ts
theorem sumL_take (ts : List (List UInt8)) : ∀ i, (txtP ts i).length ≤ 2 * i + sumL (ts.take i)
  | 0 => by simp [txtP]
  | i + 1 => by
    have := sumL_take ts i
    rw [txtP, List.length_append, List.length_append]
    have h1 : ((if i = 0 then [40] else [44, 32]) : List UInt8).length ≤ 2 := by split <;> simp
    have h2 : ∀ (l : List (List UInt8)) (i : Nat), sumL (l.take (i + 1)) = sumL (l.take i) + (l.getD i []).length := by
      intro l
      induction l with
      | nil => intro i; simp [sumL]
      | cons t l ih =>
        intro i
        cases i with
        | zero => simp [sumL]
        | succ i => simp only [List.take_succ_cons, sumL, ih i, List.getD_cons_succ]; omega
    have := h2 ts i
    omega
theorem sumL_getD (ts : List (List UInt8)) (i : Nat) : (ts.getD i []).length ≤ sumL ts := by
  induction ts generalizing i with
  | nil => simp [sumL]
  | cons t ts ih =>
    cases i with
    | zero => simp [sumL]
    | succ i => have := ih i; simp only [List.getD_cons_succ, sumL]; omega
theorem sumL_two (ts : List (List UInt8)) : (ts.getD 0 []).length + (ts.getD 1 []).length ≤ sumL ts := by
  match ts with
  | [] => simp [sumL]
  | [a] => simp [sumL]
  | a :: b :: l => simp only [List.getD_cons_zero, List.getD_cons_succ, sumL]; omega
theorem txtK_len (k i : Int) (ts : List (List UInt8)) (h0 : 0 ≤ i) (h1 : i ≤ 99) (h4 : ts.length ≤ 4) : (txtK k i ts).length ≤ 64 + sumL ts := by
  have hi := Lib.itoa_length_le i (by omega) (by omega)
  have t1 := sumL_getD ts 0
  have t2 := sumL_two ts
  have t3 := sumL_take ts ts.length
  rw [List.take_length] at t3
  unfold txtK
  (repeat' split) <;> simp only [List.length_append, List.length_cons, List.length_nil] <;> omega
mutual
theorem E.txt_len : ∀ e : E, e.sh = true → e.txt.length ≤ 64 * e.sz
  | .mk k i ks, h => by
    obtain ⟨_, h1, h2, h3, h4, _⟩ := E.sh_kind h
    have := E.txtL_len ks h3
    have h5 := txtK_len k i (E.txtL ks) h1 h2 (by rw [E.txtL_eq, List.length_map]; exact h4)
    simp only [E.txt, E.sz]
    omega
theorem E.txtL_len : ∀ l : List E, (∀ x ∈ l, x.sh = true) → sumL (E.txtL l) ≤ 64 * E.szL l
  | [], _ => by simp [E.txtL, sumL]
  | e :: es, h => by
    have h1 := E.txt_len e (h e (by simp))
    have h2 := E.txtL_len es fun x hx => h x (by simp [hx])
    simp only [E.txtL, sumL, E.szL]
    omega
end
theorem write_all : ∀ (N : Nat) (e : E), e.sz < N → e.ok → e.sh = true → Writes e
  | 0, e, h, _, _ => by omega
  | N + 1, e, h, hok, hsh => by
    refine write_step e (fun x hx => ?_) hok hsh
    obtain ⟨i, hi, rfl⟩ := List.getElem_of_mem hx
    have hx' : e.kids[i]? = some e.kids[i] := by simp [hi]
    have := E.kid_sz hx'
    exact write_all N _ (by omega) (E.ok_kid hok hx') ((E.sh_kind hsh).2.2.2.1 _ hx)
theorem right_zero {e : E} (h : e.right = 0) : e.sz ≤ 1000 ∧ e.dp ≤ 100 ∧ e.sh = true := by
  unfold E.right at h
  split at h
  · cases h
  · split at h
    · cases h
    · split at h
      · exact ⟨by omega, by omega, by assumption⟩
      · cases h
def E.print (e : E) : List UInt8 := if e.right = 0 then e.txt else []
def specPr : Spec := Spec.no.add 22 (sp1 dE (fun e => e.ok) fun e => .int .i64 e.right)
theorem specPr_ok : SpecOk Tryd.prog w0 specPr := Spec.no_ok.add (sp1_ok fun e h k H => rightX_call e h)
theorem print_call (e : E) (hok : e.ok) : CallAt Tryd.prog w0 k 9 [e.av] H H (.tup [.str (T e.print), .int .i64 e.right]) := by
  refine callAt tabOk specPr_ok mixed Tryd.func9 rfl rfl Tryd.results9 Tryd.ntmps9 (by simp) [] ?_
  intro hfr t hl ht
  simp only [At, Nat.reduceAdd, List.cons_append, List.nil_append] at ht
  simp (config := {contextual := true, maxSteps := 5000000}) only [go_sem, Nat.reduceAdd, Nat.reduceLT, Nat.reduceBEq, Nat.reduceSub, Nat.reduceMul, Nat.reduceLeDiff, Int.reduceToNat, Nat.reduceEqDiff, Nat.reduceMod, ht, hl, specPr]
  refine ⟨hok, fun a => ?_, fun a => ?_⟩
  · simp only [bne_iff_ne, ne_eq] at a
    rw [E.print, if_neg a]
    exact Weak.refl _
  · simp only [bne_eq_false_iff_eq] at a
    obtain ⟨h1, h2, h3⟩ := right_zero a
    have hlen := E.txt_len e h3
    have hid : H ⟨2, 0 :: 3 :: k, 37⟩ = none := hfr _ (sfx2 _ _ _)
    have hB := BdAt.new (H0 := H) (id := ⟨2, 0 :: 3 :: k, 37⟩) rfl rfl hid
    refine bdK (write_all _ e (Nat.lt_succ_self _) hok h3 _) hB (by have := T_size e.txt; show 0 + (T e.txt).size ≤ _; omega) (free2 fun i hi => hfr i hi) fun H1 hB1 => ?_
    simp (config := {contextual := true, maxSteps := 5000000}) only [go_sem, Nat.reduceAdd, Nat.reduceLT, Nat.reduceBEq, Nat.reduceSub, Nat.reduceMul, Nat.reduceLeDiff, Int.reduceToNat, Nat.reduceEqDiff, Nat.reduceMod, hl, specPr]
    have hB2 := hB1.cast (t := T e.txt) (by simp [L_append, L_T, L])
    refine callK_intro (string_call _ hB2 hid (by rw [T_size]; omega)) ?_
    simp (config := {contextual := true, maxSteps := 5000000}) only [go_sem, Nat.reduceAdd, Nat.reduceLT, Nat.reduceBEq, Nat.reduceSub, Nat.reduceMul, Nat.reduceLeDiff, Int.reduceToNat, Nat.reduceEqDiff, Nat.reduceMod, hl, specPr]
    rw [E.print, if_pos a, a]
    exact Weak.refl _
end Go.Proofs.YtkdendaohlnlcaaDoor.Av
