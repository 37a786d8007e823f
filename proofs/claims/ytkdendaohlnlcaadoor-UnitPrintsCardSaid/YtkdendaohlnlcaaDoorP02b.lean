/- What expr.Right and expr.IsTerm answer. No condition. -/
import Derived.Test.YtkdendaohlnlcaaDoorP02
namespace Go.Proofs.YtkdendaohlnlcaaDoor.Av
set_option linter.unusedVariables false
set_option linter.unusedSimpArgs false
set_option maxRecDepth 4000
set_option maxHeartbeats 1000000
variable {w0 : Base} {k : List Nat} {H : Hp}

mutual
theorem E.sh_nd : ∀ (e : E) (d : Int), e.sh = (e.nd d).all fun x => x.2.loc
  | .mk k i ks, d => by
    simp only [E.sh, E.nd, List.all_cons, E.shL_nd ks (IntKind.i64.wrap (d + 1))]
theorem E.shL_nd : ∀ (l : List E) (d : Int), E.shL l = (E.ndL d l).all fun x => x.2.loc
  | [], d => rfl
  | e :: es, d => by simp only [E.shL, E.ndL, List.all_append, E.sh_nd e d, E.shL_nd es d]
end
def specX3 : Spec := specX2.add 37 (sp1 dE (fun _ => True) fun e => .bool e.loc)
theorem specX3_ok : SpecOk Tryd.prog w0 specX3 := specX2_ok.add (sp1_ok fun e _ k H => shapedX_call e)
theorem Hp.upd_le {A B : Hp} {i : Id} {x : Option Ent} (h : A.Le B) : (A.upd i x).Le (B.upd i x) := by
  intro j e hj
  by_cases hji : j = i
  · subst hji
    rw [Hp.upd_same] at hj ⊢
    exact hj
  · rw [Hp.upd_ne _ _ hji] at hj ⊢
    exact h j e hj
theorem rightX_call (e : E) (hok : e.ok) : CallAt Tryd.prog w0 k 22 [e.av] H H (.int .i64 e.right) := by
  refine callAt tabOk specX3_ok mixed Tryd.func22 rfl rfl Tryd.results22 Tryd.ntmps22 (by simp) [] ?_
  intro hfr t hl ht
  simp only [At, Nat.reduceAdd, List.cons_append, List.nil_append] at ht
  simp (config := {contextual := true, maxSteps := 5000000}) only [go_sem, Nat.reduceAdd, Nat.reduceLT, Nat.reduceBEq, Nat.reduceSub, Nat.reduceMul, Nat.reduceLeDiff, Int.reduceToNat, Nat.reduceEqDiff, Nat.reduceMod, ht, hl, specX3, specX2, specX1, specX0, resOne]
  have hid : H ⟨1, 1 :: 0 :: k, 29⟩ = none := hfr _ (sfx2 _ _ _)
  have hle : ∀ a, H.Le (H.upd ⟨1, 1 :: 0 :: k, 29⟩ a) := fun a => Hp.le_upd (Hp.Le.refl _) hid
  refine ⟨hok, fun a => ⟨?_, hle _⟩, fun a => ⟨hok, fun b => ⟨?_, hle _⟩, fun b => ?_⟩⟩ <;> simp only [decide_eq_true_eq, decide_eq_false_iff_not] at a
  · rw [E.right, if_pos (by omega)]
  · simp only [decide_eq_true_eq] at b
    rw [E.right, if_neg (by omega), if_pos (by omega)]
  simp only [decide_eq_false_iff_not] at b
  have hright : e.right = if e.sh then 0 else 22 := by rw [E.right, if_neg (by omega), if_neg (by omega)]
  have hsh := E.sh_nd e 1
  have htk : ∀ j x, (e.nd 1)[j]? = some x → ((e.nd 1).take (j + 1)).all (fun x => x.2.loc) = (((e.nd 1).take j).all (fun x => x.2.loc) && x.2.loc) := fun j x hx => by
    rw [List.take_add_one, hx]
    simp [List.all_append]
  have hprev : ∀ j, (∀ i, i < j → (if ((e.nd 1).take (i + 1)).all (fun x => x.2.loc) then none else some AEx.ret) = none) → ((e.nd 1).take j).all (fun x => x.2.loc) = true := fun j hp => by
    cases j with
    | zero => simp
    | succ j =>
      have := hp j (by omega)
      cases h : ((e.nd 1).take (j + 1)).all (fun x => x.2.loc) with
      | true => rfl
      | false => rw [h] at this; simp at this
  refine rangeDet (gf := 48) (caps := [.sptr e.cells]) (xs := e.told) (by simp (config := {contextual := true, maxSteps := 5000000}) only [go_sem, Nat.reduceAdd, Nat.reduceLT, Nat.reduceBEq, Nat.reduceSub, Nat.reduceMul, Nat.reduceLeDiff, Int.reduceToNat, Nat.reduceEqDiff, Nat.reduceMod, ht, hl, E.cells_eq]) (nodes_iter e hok) (told_len e)
    (fun j => H.upd ⟨1, 1 :: 0 :: k, 29⟩ (some (.cells [.int .i64 (if ((e.nd 1).take j).all (fun x => x.2.loc) then 0 else 22)]))) (fun j => if ((e.nd 1).take (j + 1)).all (fun x => x.2.loc) then none else some .ret) (fun j => by split <;> simp) (by simp)
    (fun j i hi => by rw [Hp.upd_ne _ _ (notKey hi (by decide))]; exact hfr i ((List.suffix_cons _ _).trans hi)) ?_ (fun ha => ?_) (fun j c hj hp hc => ?_)
  · intro j x hx hp l key w0' hw0 hkey
    refine vc_sound (tab := tab) (Sp := Spec.no) (mb := []) tabOk Spec.no_ok mixed _ _ _ ?_
    obtain ⟨y, hy, rfl⟩ := told_at e hx
    have hm := hprev j hp
    have ht1 := htk j y hy
    rw [hm, Bool.true_and] at ht1
    simp (config := {contextual := true, maxSteps := 5000000}) only [go_sem, Nat.reduceAdd, Nat.reduceLT, Nat.reduceBEq, Nat.reduceSub, Nat.reduceMul, Nat.reduceLeDiff, Int.reduceToNat, Nat.reduceEqDiff, Nat.reduceMod, ht, hl, setPs, hm]
    intro w0'' hw0'
    refine vc_sound (tab := tab) (Sp := specX3) (mb := []) tabOk specX3_ok mixed _ _ _ ?_
    have hkn : k <:+ key := (List.suffix_cons _ _).trans hkey
    have hne : (⟨3, 0 :: 0 :: key, 25⟩ : Id) ≠ ⟨1, 1 :: 0 :: k, 29⟩ := fun h => by cases h
    have hnn : ∀ a, (H.upd ⟨1, 1 :: 0 :: k, 29⟩ a) ⟨3, 0 :: 0 :: key, 25⟩ = none := fun a => by
      rw [Hp.upd_ne _ _ hne]
      exact hfr _ (hkn.trans (sfx2 _ _ _))
    simp (config := {contextual := true, maxSteps := 5000000}) only [go_sem, Nat.reduceAdd, Nat.reduceLT, Nat.reduceBEq, Nat.reduceSub, Nat.reduceMul, Nat.reduceLeDiff, Int.reduceToNat, Nat.reduceEqDiff, Nat.reduceMod, ht, hl, hm, ht1, specX3, specX2, specX1, specX0]
    refine ⟨fun a => ?_, fun a => ?_⟩ <;> simp only [Bool.not_eq_true', Bool.not_eq_false'] at a <;> simp only [a, Bool.false_eq_true, if_false, if_true]
    · exact ⟨rfl, Hp.upd_le (Hp.le_upd (hle _) (hfr _ (hkn.trans (sfx2 _ _ _))))⟩
    · exact ⟨rfl, Hp.le_upd (Hp.Le.refl _) (hnn _)⟩
  · simp (config := {contextual := true, maxSteps := 5000000}) only [go_sem, Nat.reduceAdd, Nat.reduceLT, Nat.reduceBEq, Nat.reduceSub, Nat.reduceMul, Nat.reduceLeDiff, Int.reduceToNat, Nat.reduceEqDiff, Nat.reduceMod, ht, hl, resOne]
    refine ⟨?_, hle _⟩
    have := hprev _ ha
    rw [E.told_length, List.take_of_length_le (by rw [E.nd_len]; omega), ← hsh] at this
    rw [hright, this]
    rfl
  · split at hc
    · cases hc
    · rename_i hb
      cases hc
      simp (config := {contextual := true, maxSteps := 5000000}) only [go_sem, Nat.reduceAdd, Nat.reduceLT, Nat.reduceBEq, Nat.reduceSub, Nat.reduceMul, Nat.reduceLeDiff, Int.reduceToNat, Nat.reduceEqDiff, Nat.reduceMod, ht, hl, resOne]
      refine ⟨?_, hle _⟩
      rw [hright, if_neg hb, if_neg]
      rw [hsh]
      intro hall
      apply hb
      rw [List.all_eq_true] at hall ⊢
      exact fun x hx => hall x (List.mem_of_mem_take hx)
def specX4 : Spec := (Spec.no.add 22 (sp1 dE (fun e => e.ok) fun e => .int .i64 e.right)).add 45 (sp1 dE (fun _ => True) fun e => .bool e.term)
theorem specX4_ok : SpecOk Tryd.prog w0 specX4 := (Spec.no_ok.add (sp1_ok fun e h k H => rightX_call e h)).add (sp1_ok fun e _ k H => isTerm_call e)
theorem isTermX_call (e : E) (hok : e.ok) : CallAt Tryd.prog w0 k 30 [e.av] H H (.bool (e.right == 0 && e.term)) := by
  refine callAt tabOk specX4_ok mixed Tryd.func30 rfl rfl Tryd.results30 Tryd.ntmps30 (by simp) [] ?_
  intro hfr t hl ht
  simp only [At, Nat.reduceAdd, List.cons_append, List.nil_append] at ht
  simp (config := {contextual := true, maxSteps := 5000000}) only [go_sem, Nat.reduceAdd, Nat.reduceLT, Nat.reduceBEq, Nat.reduceSub, Nat.reduceMul, Nat.reduceLeDiff, Int.reduceToNat, Nat.reduceEqDiff, Nat.reduceMod, ht, hl, specX4]
  simp [hok]
def specX5 : Spec := (((Spec.no.add 22 (sp1 dE (fun e => e.ok) fun e => .int .i64 e.right)).add 30 (sp1 dE (fun e => e.ok) fun e => .bool (e.right == 0 && e.term))).add
  31 (sp1 dE (fun e => e.ok) fun e => .int .i64 (min (e.sz : Int) 1001))).add 32 (sp1 dE (fun e => e.ok) fun e => .int .i64 (min (e.dp : Int) 101))
theorem specX5_ok : SpecOk Tryd.prog w0 specX5 := (((Spec.no_ok.add (sp1_ok fun e h k H => rightX_call e h)).add (sp1_ok fun e h k H => isTermX_call e h)).add (sp1_ok fun e h k H => sizeX_call e h)).add (sp1_ok fun e h k H => depthX_call e h)
end Go.Proofs.YtkdendaohlnlcaaDoor.Av
