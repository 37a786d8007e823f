/- A part of the theory and of the contracts: Lk, Pr, Ln, LawUnitLines, Br. No condition. -/
import Derived.Test.YtkdendaohlnlcaaGreatDoorMd
import Derived.Test.YtkdendaohlnlcaaGreatDoorMc
import Derived.DataReads
import Derived.DataElems
/- Whether two expressions, names, steps, units are the same, by the reference. No condition. -/
namespace Go.Proofs.YtkdendaohlnlcaaGreatDoor.Av
set_option linter.unusedVariables false
set_option linter.unusedSimpArgs false
set_option maxRecDepth 4000
set_option maxHeartbeats 1000000
variable {w0 : Base} {k : List Nat} {H : Hp}
def byI (a b : Int) : Int := if a < b then -1 else if b < a then 1 else 0
theorem byI_zero {a b : Int} : byI a b = 0 ↔ a = b := by
  unfold byI
  split
  · omega
  · split <;> omega
mutual
def E.ord : E → E → Int
  | .mk k i ks, e => if byI k e.kind = 0 then (if byI i e.id = 0 then (if byI ks.length e.kids.length = 0 then E.ordL ks e.kids else byI ks.length e.kids.length) else byI i e.id) else byI k e.kind
def E.ordL : List E → List E → Int
  | x :: xs, y :: ys => if E.ord x y = 0 then E.ordL xs ys else E.ord x y
  | _, _ => 0
end
theorem E.ord_eq (a b : E) : a.ord b = if byI a.kind b.kind = 0 then (if byI a.id b.id = 0 then (if byI a.kids.length b.kids.length = 0 then E.ordL a.kids b.kids else byI a.kids.length b.kids.length) else byI a.id b.id) else byI a.kind b.kind := by
  cases a
  rw [E.ord]
  rfl
theorem E.ordL_cons (x y : E) (xs ys : List E) : E.ordL (x :: xs) (y :: ys) = if x.ord y = 0 then E.ordL xs ys else x.ord y := by rw [E.ordL]
theorem E.ordL_nil (l : List E) : E.ordL [] l = 0 := by
  unfold E.ordL
  rfl
mutual
theorem E.ord_zero : ∀ a b : E, a.ord b = 0 ↔ a = b
  | .mk k i ks, b => by
    have hL := E.ordL_zero ks b.kids
    rw [E.ord]
    constructor
    · intro h
      split at h
      · rename_i h1
        split at h
        · rename_i h2
          split at h
          · rename_i h3
            have h1 := byI_zero.1 h1
            have h2 := byI_zero.1 h2
            have h3 := byI_zero.1 h3
            have h4 := (hL (by omega)).1 h
            cases b
            simp only [E.kind, E.id, E.kids] at h1 h2 h4
            rw [h1, h2, h4]
          · exact absurd h (by assumption)
        · exact absurd h (by assumption)
      · exact absurd h (by assumption)
    · intro h
      subst h
      rw [if_pos (show byI k (E.mk k i ks).kind = 0 from byI_zero.2 rfl), if_pos (show byI i (E.mk k i ks).id = 0 from byI_zero.2 rfl), if_pos (show byI ks.length (E.mk k i ks).kids.length = 0 from byI_zero.2 rfl)]
      exact (E.ordL_zero ks ks rfl).2 rfl
theorem E.ordL_zero : ∀ l m : List E, l.length = m.length → (E.ordL l m = 0 ↔ l = m)
  | [], [], _ => by simp [E.ordL]
  | [], y :: m, h => by simp at h
  | x :: l, [], h => by simp at h
  | x :: l, y :: m, h => by
    have h1 := E.ord_zero x y
    have h2 := E.ordL_zero l m (by simpa using h)
    rw [E.ordL_cons]
    constructor
    · intro hh
      split at hh
      · rename_i h3
        rw [h1.1 h3, h2.1 hh]
      · exact absurd hh (by assumption)
    · intro hh
      cases hh
      rw [if_pos (h1.2 rfl)]
      exact h2.2 rfl
end
theorem by_call (a b : Int) : CallAt Tryz.prog w0 k 64 [.int .i64 a, .int .i64 b] H H (.int .i64 (byI a b)) := by
  refine callAt tabOk Spec.no_ok mixed Tryz.func64 rfl rfl Tryz.results64 Tryz.ntmps64 (by simp) [] ?_
  intro hfr t hl ht
  simp only [At, Nat.reduceAdd, List.cons_append, List.nil_append] at ht
  simp (config := {contextual := true, maxSteps := 5000000}) only [go_sem, false_and, Nat.reduceAdd, Nat.reduceLT, Nat.reduceBEq, Nat.reduceSub, Nat.reduceMul, Nat.reduceLeDiff, Int.reduceToNat, Nat.reduceEqDiff, Nat.reduceMod, ht, hl]
  unfold byI
  (repeat' (first | (with_reducible apply And.intro) | (with_reducible intro _))) <;> simp_all <;> omega
def specOr (N : Nat) : Spec := (Spec.no.add 64 (sp2 dI dI (fun _ _ => True) fun a b => .int .i64 (byI a b))).add 34 (sp2 dE dE (fun a _ => a.ok ∧ a.sz < N) fun a b => .int .i64 (a.ord b))
/-- What holds at the head of the loop over the kids. -/
def ordI (a b : E) (R : Int) (H : Hp) (j : Nat) (x : FS) : Prop := ∃ (i : Nat) (c : Int), x.tmps.length = 58 ∧ x.tmps.getD 2 AV.undef = .sptr [.int .i64 a.kind, .int .i64 a.id, .list .none (a.kids.map E.cells)] ∧ x.tmps.getD 3 AV.undef = .sptr [.int .i64 b.kind, .int .i64 b.id, .list .none (b.kids.map E.cells)] ∧ x.tmps.getD 5 AV.undef = .int .i64 c ∧ x.tmps.getD 6 AV.undef = .int .i64 i ∧ x.H = H ∧ i + j = a.kids.length ∧
  (c = 0 → a.kids.length = b.kids.length ∧ R = E.ordL (a.kids.drop i) (b.kids.drop i)) ∧ (c ≠ 0 → R = c)
theorem order_step (N : Nat) (hS : SpecOk Tryz.prog w0 (specOr N)) (a b : E) (hok : a.ok) (hN : a.sz < N + 1) : CallAt Tryz.prog w0 k 34 [a.av, b.av] H H (.int .i64 (a.ord b)) := by
  refine callAt tabOk hS mixed Tryz.func34 rfl rfl Tryz.results34 Tryz.ntmps34 (by simp) [] ?_
  intro hfr t hl ht
  simp only [At, Nat.reduceAdd, List.cons_append, List.nil_append] at ht
  have hlk := E.ok_len hok
  obtain ⟨R, hR⟩ : ∃ R, R = a.ord b := ⟨_, rfl⟩
  rw [← hR]
  rw [E.ord_eq] at hR
  have e00 : ((0 : Int) == 0) = true := rfl
  by_cases h1 : byI a.kind b.kind = 0
  · rw [if_pos h1] at hR
    by_cases h2 : byI a.id b.id = 0
    · rw [if_pos h2] at hR
      by_cases h3 : byI a.kids.length b.kids.length = 0
      · rw [if_pos h3] at hR
        simp (config := {contextual := true, maxSteps := 5000000}) only [go_sem, false_and, Nat.reduceAdd, Nat.reduceLT, Nat.reduceBEq, Nat.reduceSub, Nat.reduceMul, Nat.reduceLeDiff, Int.reduceToNat, Nat.reduceEqDiff, Nat.reduceMod, ht, hl, specOr, h1, h2, h3, e00]
        refine loop_inv tabOk hS mixed [] (ordI a b R H) a.kids.length ⟨0, 0, ?_⟩ ?_
        · simp (config := {contextual := true, maxSteps := 5000000}) only [go_sem, false_and, Nat.reduceAdd, Nat.reduceLT, Nat.reduceBEq, Nat.reduceSub, Nat.reduceMul, Nat.reduceLeDiff, Int.reduceToNat, Nat.reduceEqDiff, Nat.reduceMod, ht, hl]
          exact ⟨rfl, by omega, ⟨(by have := byI_zero.1 h3; omega), hR⟩, fun h => absurd rfl h⟩
        · rintro j ⟨t, n, H2⟩ ⟨i, c, hl, h2', h3', h5, h6, rfl, hij, hz, hnz⟩
          simp only at hl h2' h3' h5 h6
          by_cases hc : c = 0
          · obtain ⟨hlen, hRR⟩ := hz hc
            subst hc
            by_cases hi : i < a.kids.length
            · have hd : decide ((i : Int) < (a.kids.length : Int)) = true := by simp [hi]
              have hw : IntKind.i64.wrap ((i : Int) + 1) = ((i + 1 : Nat) : Int) := by rw [wrap_i64] <;> omega
              have hd2 : decide ((i : Int) < (b.kids.length : Int)) = true := by simp; omega
              obtain ⟨x, hx, hxe⟩ := a.kid hi
              obtain ⟨y, hy, hye⟩ := b.kid (show i < b.kids.length by omega)
              have hxN := E.kid_sz hx
              have hxo := E.ok_kid hok hx
              have hdx : a.kids.drop i = x :: a.kids.drop (i + 1) := by
                obtain ⟨q1, q2⟩ := List.getElem?_eq_some_iff.1 hx
                rw [List.drop_eq_getElem_cons q1, q2]
              have hdy : b.kids.drop i = y :: b.kids.drop (i + 1) := by
                obtain ⟨q1, q2⟩ := List.getElem?_eq_some_iff.1 hy
                rw [List.drop_eq_getElem_cons q1, q2]
              rw [hdx, hdy, E.ordL_cons] at hRR
              simp (config := {contextual := true, maxSteps := 5000000}) only [go_sem, false_and, Nat.reduceAdd, Nat.reduceLT, Nat.reduceBEq, Nat.reduceSub, Nat.reduceMul, Nat.reduceLeDiff, Int.reduceToNat, Nat.reduceEqDiff, Nat.reduceMod, h2', h3', h5, h6, hl, hd, hd2, hxe, hye, hw, specOr, toE_at, e00]
              refine ⟨by kernel_rfl, ⟨by omega, by omega⟩, ⟨by omega, by omega⟩, ⟨hxo, by omega⟩, List.Pairwise.nil, j - 1, by omega, i + 1, x.ord y, ?_⟩
              simp (config := {contextual := true, maxSteps := 5000000}) only [go_sem, false_and, Nat.reduceAdd, Nat.reduceLT, Nat.reduceBEq, Nat.reduceSub, Nat.reduceMul, Nat.reduceLeDiff, Int.reduceToNat, Nat.reduceEqDiff, Nat.reduceMod, h2', h3', h5, h6, hl]
              exact ⟨by omega, fun h => ⟨hlen, by rw [if_pos h] at hRR; exact hRR⟩, fun h => by rw [if_neg h] at hRR; exact hRR⟩
            · have hd : decide ((i : Int) < (a.kids.length : Int)) = false := by simp; omega
              simp (config := {contextual := true, maxSteps := 5000000}) only [go_sem, false_and, Nat.reduceAdd, Nat.reduceLT, Nat.reduceBEq, Nat.reduceSub, Nat.reduceMul, Nat.reduceLeDiff, Int.reduceToNat, Nat.reduceEqDiff, Nat.reduceMod, h2', h3', h5, h6, hl, hd, e00]
              rw [hRR, List.drop_of_length_le (by omega), E.ordL_nil]
          · have hcb : (c == 0) = false := by simpa using hc
            simp (config := {contextual := true, maxSteps := 5000000}) only [go_sem, false_and, Nat.reduceAdd, Nat.reduceLT, Nat.reduceBEq, Nat.reduceSub, Nat.reduceMul, Nat.reduceLeDiff, Int.reduceToNat, Nat.reduceEqDiff, Nat.reduceMod, h2', h3', h5, h6, hl, hcb]
            exact (hnz hc).symm
      · have h3b : (byI a.kids.length b.kids.length == 0) = false := by simpa using h3
        rw [if_neg h3] at hR
        simp (config := {contextual := true, maxSteps := 5000000}) only [go_sem, false_and, Nat.reduceAdd, Nat.reduceLT, Nat.reduceBEq, Nat.reduceSub, Nat.reduceMul, Nat.reduceLeDiff, Int.reduceToNat, Nat.reduceEqDiff, Nat.reduceMod, ht, hl, specOr, h1, h2, h3b, e00]
        refine loop_inv tabOk hS mixed [] (ordI a b R H) a.kids.length ⟨0, byI a.kids.length b.kids.length, ?_⟩ ?_
        · simp (config := {contextual := true, maxSteps := 5000000}) only [go_sem, false_and, Nat.reduceAdd, Nat.reduceLT, Nat.reduceBEq, Nat.reduceSub, Nat.reduceMul, Nat.reduceLeDiff, Int.reduceToNat, Nat.reduceEqDiff, Nat.reduceMod, ht, hl]
          exact ⟨rfl, by omega, fun h => absurd h h3, fun _ => hR⟩
        · rintro j ⟨t, n, H2⟩ ⟨i, c, hl, h2', h3', h5, h6, rfl, hij, hz, hnz⟩
          simp only at hl h2' h3' h5 h6
          by_cases hc : c = 0
          · obtain ⟨hlen, hRR⟩ := hz hc
            subst hc
            by_cases hi : i < a.kids.length
            · have hd : decide ((i : Int) < (a.kids.length : Int)) = true := by simp [hi]
              have hw : IntKind.i64.wrap ((i : Int) + 1) = ((i + 1 : Nat) : Int) := by rw [wrap_i64] <;> omega
              have hd2 : decide ((i : Int) < (b.kids.length : Int)) = true := by simp; omega
              obtain ⟨x, hx, hxe⟩ := a.kid hi
              obtain ⟨y, hy, hye⟩ := b.kid (show i < b.kids.length by omega)
              have hxN := E.kid_sz hx
              have hxo := E.ok_kid hok hx
              have hdx : a.kids.drop i = x :: a.kids.drop (i + 1) := by
                obtain ⟨q1, q2⟩ := List.getElem?_eq_some_iff.1 hx
                rw [List.drop_eq_getElem_cons q1, q2]
              have hdy : b.kids.drop i = y :: b.kids.drop (i + 1) := by
                obtain ⟨q1, q2⟩ := List.getElem?_eq_some_iff.1 hy
                rw [List.drop_eq_getElem_cons q1, q2]
              rw [hdx, hdy, E.ordL_cons] at hRR
              simp (config := {contextual := true, maxSteps := 5000000}) only [go_sem, false_and, Nat.reduceAdd, Nat.reduceLT, Nat.reduceBEq, Nat.reduceSub, Nat.reduceMul, Nat.reduceLeDiff, Int.reduceToNat, Nat.reduceEqDiff, Nat.reduceMod, h2', h3', h5, h6, hl, hd, hd2, hxe, hye, hw, specOr, toE_at, e00]
              refine ⟨by kernel_rfl, ⟨by omega, by omega⟩, ⟨by omega, by omega⟩, ⟨hxo, by omega⟩, List.Pairwise.nil, j - 1, by omega, i + 1, x.ord y, ?_⟩
              simp (config := {contextual := true, maxSteps := 5000000}) only [go_sem, false_and, Nat.reduceAdd, Nat.reduceLT, Nat.reduceBEq, Nat.reduceSub, Nat.reduceMul, Nat.reduceLeDiff, Int.reduceToNat, Nat.reduceEqDiff, Nat.reduceMod, h2', h3', h5, h6, hl]
              exact ⟨by omega, fun h => ⟨hlen, by rw [if_pos h] at hRR; exact hRR⟩, fun h => by rw [if_neg h] at hRR; exact hRR⟩
            · have hd : decide ((i : Int) < (a.kids.length : Int)) = false := by simp; omega
              simp (config := {contextual := true, maxSteps := 5000000}) only [go_sem, false_and, Nat.reduceAdd, Nat.reduceLT, Nat.reduceBEq, Nat.reduceSub, Nat.reduceMul, Nat.reduceLeDiff, Int.reduceToNat, Nat.reduceEqDiff, Nat.reduceMod, h2', h3', h5, h6, hl, hd, e00]
              rw [hRR, List.drop_of_length_le (by omega), E.ordL_nil]
          · have hcb : (c == 0) = false := by simpa using hc
            simp (config := {contextual := true, maxSteps := 5000000}) only [go_sem, false_and, Nat.reduceAdd, Nat.reduceLT, Nat.reduceBEq, Nat.reduceSub, Nat.reduceMul, Nat.reduceLeDiff, Int.reduceToNat, Nat.reduceEqDiff, Nat.reduceMod, h2', h3', h5, h6, hl, hcb]
            exact (hnz hc).symm
    · have h2b : (byI a.id b.id == 0) = false := by simpa using h2
      rw [if_neg h2] at hR
      simp (config := {contextual := true, maxSteps := 5000000}) only [go_sem, false_and, Nat.reduceAdd, Nat.reduceLT, Nat.reduceBEq, Nat.reduceSub, Nat.reduceMul, Nat.reduceLeDiff, Int.reduceToNat, Nat.reduceEqDiff, Nat.reduceMod, ht, hl, specOr, h1, h2b, e00]
      refine loop_inv tabOk hS mixed [] (ordI a b R H) a.kids.length ⟨0, byI a.id b.id, ?_⟩ ?_
      · simp (config := {contextual := true, maxSteps := 5000000}) only [go_sem, false_and, Nat.reduceAdd, Nat.reduceLT, Nat.reduceBEq, Nat.reduceSub, Nat.reduceMul, Nat.reduceLeDiff, Int.reduceToNat, Nat.reduceEqDiff, Nat.reduceMod, ht, hl, ordI]
        exact ⟨rfl, by omega, fun h => absurd h h2, fun _ => hR⟩
      · rintro j ⟨t, n, H2⟩ ⟨i, c, hl, h2', h3', h5, h6, rfl, hij, hz, hnz⟩
        simp only at hl h2' h3' h5 h6
        by_cases hc : c = 0
        · obtain ⟨hlen, hRR⟩ := hz hc
          subst hc
          by_cases hi : i < a.kids.length
          · have hd : decide ((i : Int) < (a.kids.length : Int)) = true := by simp [hi]
            have hw : IntKind.i64.wrap ((i : Int) + 1) = ((i + 1 : Nat) : Int) := by rw [wrap_i64] <;> omega
            have hd2 : decide ((i : Int) < (b.kids.length : Int)) = true := by simp; omega
            obtain ⟨x, hx, hxe⟩ := a.kid hi
            obtain ⟨y, hy, hye⟩ := b.kid (show i < b.kids.length by omega)
            have hxN := E.kid_sz hx
            have hxo := E.ok_kid hok hx
            have hdx : a.kids.drop i = x :: a.kids.drop (i + 1) := by
              obtain ⟨q1, q2⟩ := List.getElem?_eq_some_iff.1 hx
              rw [List.drop_eq_getElem_cons q1, q2]
            have hdy : b.kids.drop i = y :: b.kids.drop (i + 1) := by
              obtain ⟨q1, q2⟩ := List.getElem?_eq_some_iff.1 hy
              rw [List.drop_eq_getElem_cons q1, q2]
            rw [hdx, hdy, E.ordL_cons] at hRR
            simp (config := {contextual := true, maxSteps := 5000000}) only [go_sem, false_and, Nat.reduceAdd, Nat.reduceLT, Nat.reduceBEq, Nat.reduceSub, Nat.reduceMul, Nat.reduceLeDiff, Int.reduceToNat, Nat.reduceEqDiff, Nat.reduceMod, h2', h3', h5, h6, hl, hd, hd2, hxe, hye, hw, specOr, toE_at, e00]
            refine ⟨by kernel_rfl, ⟨by omega, by omega⟩, ⟨by omega, by omega⟩, ⟨hxo, by omega⟩, List.Pairwise.nil, j - 1, by omega, i + 1, x.ord y, ?_⟩
            simp (config := {contextual := true, maxSteps := 5000000}) only [go_sem, false_and, Nat.reduceAdd, Nat.reduceLT, Nat.reduceBEq, Nat.reduceSub, Nat.reduceMul, Nat.reduceLeDiff, Int.reduceToNat, Nat.reduceEqDiff, Nat.reduceMod, h2', h3', h5, h6, hl]
            exact ⟨by omega, fun h => ⟨hlen, by rw [if_pos h] at hRR; exact hRR⟩, fun h => by rw [if_neg h] at hRR; exact hRR⟩
          · have hd : decide ((i : Int) < (a.kids.length : Int)) = false := by simp; omega
            simp (config := {contextual := true, maxSteps := 5000000}) only [go_sem, false_and, Nat.reduceAdd, Nat.reduceLT, Nat.reduceBEq, Nat.reduceSub, Nat.reduceMul, Nat.reduceLeDiff, Int.reduceToNat, Nat.reduceEqDiff, Nat.reduceMod, h2', h3', h5, h6, hl, hd, e00]
            rw [hRR, List.drop_of_length_le (by omega), E.ordL_nil]
        · have hcb : (c == 0) = false := by simpa using hc
          simp (config := {contextual := true, maxSteps := 5000000}) only [go_sem, false_and, Nat.reduceAdd, Nat.reduceLT, Nat.reduceBEq, Nat.reduceSub, Nat.reduceMul, Nat.reduceLeDiff, Int.reduceToNat, Nat.reduceEqDiff, Nat.reduceMod, h2', h3', h5, h6, hl, hcb]
          exact (hnz hc).symm
  · have h1b : (byI a.kind b.kind == 0) = false := by simpa using h1
    rw [if_neg h1] at hR
    simp (config := {contextual := true, maxSteps := 5000000}) only [go_sem, false_and, Nat.reduceAdd, Nat.reduceLT, Nat.reduceBEq, Nat.reduceSub, Nat.reduceMul, Nat.reduceLeDiff, Int.reduceToNat, Nat.reduceEqDiff, Nat.reduceMod, ht, hl, specOr, h1b, e00]
    refine loop_inv tabOk hS mixed [] (ordI a b R H) a.kids.length ⟨0, byI a.kind b.kind, ?_⟩ ?_
    · simp (config := {contextual := true, maxSteps := 5000000}) only [go_sem, false_and, Nat.reduceAdd, Nat.reduceLT, Nat.reduceBEq, Nat.reduceSub, Nat.reduceMul, Nat.reduceLeDiff, Int.reduceToNat, Nat.reduceEqDiff, Nat.reduceMod, ht, hl]
      exact ⟨rfl, by omega, fun h => absurd h h1, fun _ => hR⟩
    · rintro j ⟨t, n, H2⟩ ⟨i, c, hl, h2', h3', h5, h6, rfl, hij, hz, hnz⟩
      simp only at hl h2' h3' h5 h6
      by_cases hc : c = 0
      · obtain ⟨hlen, hRR⟩ := hz hc
        subst hc
        by_cases hi : i < a.kids.length
        · have hd : decide ((i : Int) < (a.kids.length : Int)) = true := by simp [hi]
          have hw : IntKind.i64.wrap ((i : Int) + 1) = ((i + 1 : Nat) : Int) := by rw [wrap_i64] <;> omega
          have hd2 : decide ((i : Int) < (b.kids.length : Int)) = true := by simp; omega
          obtain ⟨x, hx, hxe⟩ := a.kid hi
          obtain ⟨y, hy, hye⟩ := b.kid (show i < b.kids.length by omega)
          have hxN := E.kid_sz hx
          have hxo := E.ok_kid hok hx
          have hdx : a.kids.drop i = x :: a.kids.drop (i + 1) := by
            obtain ⟨q1, q2⟩ := List.getElem?_eq_some_iff.1 hx
            rw [List.drop_eq_getElem_cons q1, q2]
          have hdy : b.kids.drop i = y :: b.kids.drop (i + 1) := by
            obtain ⟨q1, q2⟩ := List.getElem?_eq_some_iff.1 hy
            rw [List.drop_eq_getElem_cons q1, q2]
          rw [hdx, hdy, E.ordL_cons] at hRR
          simp (config := {contextual := true, maxSteps := 5000000}) only [go_sem, false_and, Nat.reduceAdd, Nat.reduceLT, Nat.reduceBEq, Nat.reduceSub, Nat.reduceMul, Nat.reduceLeDiff, Int.reduceToNat, Nat.reduceEqDiff, Nat.reduceMod, h2', h3', h5, h6, hl, hd, hd2, hxe, hye, hw, specOr, toE_at, e00]
          refine ⟨by kernel_rfl, ⟨by omega, by omega⟩, ⟨by omega, by omega⟩, ⟨hxo, by omega⟩, List.Pairwise.nil, j - 1, by omega, i + 1, x.ord y, ?_⟩
          simp (config := {contextual := true, maxSteps := 5000000}) only [go_sem, false_and, Nat.reduceAdd, Nat.reduceLT, Nat.reduceBEq, Nat.reduceSub, Nat.reduceMul, Nat.reduceLeDiff, Int.reduceToNat, Nat.reduceEqDiff, Nat.reduceMod, h2', h3', h5, h6, hl]
          exact ⟨by omega, fun h => ⟨hlen, by rw [if_pos h] at hRR; exact hRR⟩, fun h => by rw [if_neg h] at hRR; exact hRR⟩
        · have hd : decide ((i : Int) < (a.kids.length : Int)) = false := by simp; omega
          simp (config := {contextual := true, maxSteps := 5000000}) only [go_sem, false_and, Nat.reduceAdd, Nat.reduceLT, Nat.reduceBEq, Nat.reduceSub, Nat.reduceMul, Nat.reduceLeDiff, Int.reduceToNat, Nat.reduceEqDiff, Nat.reduceMod, h2', h3', h5, h6, hl, hd, e00]
          rw [hRR, List.drop_of_length_le (by omega), E.ordL_nil]
      · have hcb : (c == 0) = false := by simpa using hc
        simp (config := {contextual := true, maxSteps := 5000000}) only [go_sem, false_and, Nat.reduceAdd, Nat.reduceLT, Nat.reduceBEq, Nat.reduceSub, Nat.reduceMul, Nat.reduceLeDiff, Int.reduceToNat, Nat.reduceEqDiff, Nat.reduceMod, h2', h3', h5, h6, hl, hcb]
        exact (hnz hc).symm
theorem specOr_ok : ∀ N, SpecOk Tryz.prog w0 (specOr N)
  | 0 => (Spec.no_ok.add (sp2_ok fun a b _ k H => by_call a b)).add (sp2_ok fun a b h => by omega)
  | N + 1 => (Spec.no_ok.add (sp2_ok fun a b _ k H => by_call a b)).add (sp2_ok fun a b h k H => order_step N (specOr_ok N) a b h.1 h.2)
theorem order_call (a b : E) (hok : a.ok) : CallAt Tryz.prog w0 k 34 [a.av, b.av] H H (.int .i64 (a.ord b)) := order_step a.sz (specOr_ok _) a b hok (Nat.lt_succ_self _)
def specLi : Spec := Spec.no.add 34 (sp2 dE dE (fun a _ => a.ok) fun a b => .int .i64 (a.ord b))
theorem specLi_ok : SpecOk Tryz.prog w0 specLi := Spec.no_ok.add (sp2_ok fun a b h k H => order_call a b h)
def E.like (a b : E) : Bool := a.ord b == 0
theorem E.like_iff {a b : E} : a.like b = true ↔ a = b := by
  unfold E.like
  rw [beq_iff_eq]
  exact E.ord_zero a b
theorem like02_call (a b : E) (hok : a.ok) : CallAt Tryz.prog w0 k 14 [a.av, b.av] H H (.bool (a.like b)) := by
  refine callAt tabOk specLi_ok mixed Tryz.func14 rfl rfl Tryz.results14 Tryz.ntmps14 (by simp) [] ?_
  intro hfr t hl ht
  simp only [At, Nat.reduceAdd, List.cons_append, List.nil_append] at ht
  simp (config := {contextual := true, maxSteps := 5000000}) only [go_sem, false_and, Nat.reduceAdd, Nat.reduceLT, Nat.reduceBEq, Nat.reduceSub, Nat.reduceMul, Nat.reduceLeDiff, Int.reduceToNat, Nat.reduceEqDiff, Nat.reduceMod, ht, hl, specLi, toE_at]
  exact ⟨hok, rfl⟩
def likeN : List ByteArray → List ByteArray → Bool
  | [], [] => true
  | a :: l, b :: m => (a.toList == b.toList) && likeN l m
  | _, _ => false
theorem eqS_iff {a b : ByteArray} : (a.toList == b.toList) = true ↔ a = b := by
  rw [beq_iff_eq, Lib.toList_data, Lib.toList_data]
  exact ⟨fun h => ByteArray.ext (Array.ext' h), fun h => by rw [h]⟩
theorem likeN_iff : ∀ {l m : List ByteArray}, likeN l m = true ↔ l = m
  | [], [] => by simp [likeN]
  | [], b :: m => by simp [likeN]
  | a :: l, [] => by simp [likeN]
  | a :: l, b :: m => by
    rw [likeN, Bool.and_eq_true, eqS_iff, likeN_iff]
    constructor
    · rintro ⟨rfl, rfl⟩; rfl
    · intro h; cases h; exact ⟨rfl, rfl⟩
theorem likeN_len {l m : List ByteArray} (h : l.length ≠ m.length) : likeN l m = false := by
  rw [← Bool.not_eq_true, likeN_iff]
  intro hh
  rw [hh] at h
  exact h rfl
theorem likeNames_call (l m : List ByteArray) (hn : (l.length : Int) ≤ 9223372036854775807) : CallAt Tryz.prog w0 k 15 [(dL cS).enc l, (dL cS).enc m] H H (.bool (likeN l m)) := by
  refine callAt tabOk Spec.no_ok mixed Tryz.func15 rfl rfl Tryz.results15 Tryz.ntmps15 (by simp) [] ?_
  intro hfr t hl ht
  simp only [At, dL, Nat.reduceAdd] at ht
  simp (config := {contextual := true, maxSteps := 5000000}) only [go_sem, false_and, Nat.reduceAdd, Nat.reduceLT, Nat.reduceBEq, Nat.reduceSub, Nat.reduceMul, Nat.reduceLeDiff, Int.reduceToNat, Nat.reduceEqDiff, Nat.reduceMod, ht, hl]
  refine ⟨fun a => ?_, fun a => ?_⟩
  · simp only [bne_iff_ne, ne_eq] at a
    exact (likeN_len (by omega)).symm
  · simp only [bne_eq_false_iff_eq] at a
    refine loop_inv tabOk Spec.no_ok mixed [] (fun j x => ∃ i : Nat, x.tmps.length = 26 ∧ x.tmps.getD 0 AV.undef = .list .none (l.map cS.enc) ∧ x.tmps.getD 1 AV.undef = .list .none (m.map cS.enc) ∧ x.tmps.getD 12 AV.undef = .int .i64 l.length ∧ x.tmps.getD 13 AV.undef = .int .i64 i ∧ x.H = H ∧ i + j = l.length ∧ likeN (l.drop i) (m.drop i) = likeN l m) l.length ⟨0, ?_⟩ ?_
    · simp (config := {contextual := true, maxSteps := 5000000}) only [go_sem, false_and, Nat.reduceAdd, Nat.reduceLT, Nat.reduceBEq, Nat.reduceSub, Nat.reduceMul, Nat.reduceLeDiff, Int.reduceToNat, Nat.reduceEqDiff, Nat.reduceMod, ht, hl]
      exact ⟨rfl, by omega⟩
    · rintro j ⟨t, n, H2⟩ ⟨i, hl, h0, h1, h12, h13, rfl, hij, hgo⟩
      simp only at hl h0 h1 h12 h13
      by_cases hi : i < l.length
      · have hd : decide ((i : Int) < (l.length : Int)) = true := by simp [hi]
        have hw : IntKind.i64.wrap ((i : Int) + 1) = ((i + 1 : Nat) : Int) := by rw [wrap_i64] <;> omega
        obtain ⟨x, hx, hxe⟩ := str_get l hi
        obtain ⟨y, hy, hye⟩ := str_get m (show i < m.length by omega)
        have hdx : l.drop i = x :: l.drop (i + 1) := by
          obtain ⟨q1, q2⟩ := List.getElem?_eq_some_iff.1 hx
          rw [List.drop_eq_getElem_cons q1, q2]
        have hdy : m.drop i = y :: m.drop (i + 1) := by
          obtain ⟨q1, q2⟩ := List.getElem?_eq_some_iff.1 hy
          rw [List.drop_eq_getElem_cons q1, q2]
        rw [hdx, hdy, likeN] at hgo
        simp (config := {contextual := true, maxSteps := 5000000}) only [go_sem, false_and, Nat.reduceAdd, Nat.reduceLT, Nat.reduceBEq, Nat.reduceSub, Nat.reduceMul, Nat.reduceLeDiff, Int.reduceToNat, Nat.reduceEqDiff, Nat.reduceMod, h0, h1, h12, h13, hl, hd, hxe, hye, hw]
        refine ⟨by kernel_rfl, ⟨by omega, by omega⟩, ⟨by omega, by omega⟩, List.Pairwise.nil, fun e => ?_, fun e => ⟨j - 1, by omega, i + 1, rfl, by omega, ?_⟩⟩
        · simp only [Bool.not_eq_true'] at e
          rw [← hgo, e, Bool.false_and]
        · simp only [Bool.not_eq_false'] at e
          rw [← hgo, e, Bool.true_and]
      · have hd : decide ((i : Int) < (l.length : Int)) = false := by simp; omega
        simp (config := {contextual := true, maxSteps := 5000000}) only [go_sem, false_and, Nat.reduceAdd, Nat.reduceLT, Nat.reduceBEq, Nat.reduceSub, Nat.reduceMul, Nat.reduceLeDiff, Int.reduceToNat, Nat.reduceEqDiff, Nat.reduceMod, h0, h1, h12, h13, hl, hd]
        rw [← hgo, List.drop_of_length_le (by omega), List.drop_of_length_le (by omega)]
        rfl
def Step.like (a b : Step) : Bool := a.by_ == b.by_ && (a.a == b.a && (a.b == b.b && ((a.cite.toList == b.cite.toList) && a.says.like b.says)))
theorem Step.like_iff {a b : Step} : a.like b = true ↔ a = b := by
  unfold Step.like
  simp only [Bool.and_eq_true, eqS_iff, E.like_iff, beq_iff_eq]
  constructor
  · rintro ⟨h1, h2, h3, h4, h5⟩
    obtain ⟨a1, a2, a3, a4, a5⟩ := a
    obtain ⟨b1, b2, b3, b4, b5⟩ := b
    simp only at h1 h2 h3 h4 h5
    have h4 : a5 = b5 := eqS_iff.1 (by rw [h4]; simp)
    subst h1 h2 h3 h4 h5
    rfl
  · rintro rfl
    exact ⟨rfl, rfl, rfl, rfl, rfl⟩
def likeP : List Step → List Step → Bool
  | [], [] => true
  | a :: l, b :: m => a.like b && likeP l m
  | _, _ => false
theorem likeP_iff : ∀ {l m : List Step}, likeP l m = true ↔ l = m
  | [], [] => by simp [likeP]
  | [], b :: m => by simp [likeP]
  | a :: l, [] => by simp [likeP]
  | a :: l, b :: m => by
    rw [likeP, Bool.and_eq_true, Step.like_iff, likeP_iff]
    constructor
    · rintro ⟨rfl, rfl⟩; rfl
    · intro h; cases h; exact ⟨rfl, rfl⟩
theorem likeP_len {l m : List Step} (h : l.length ≠ m.length) : likeP l m = false := by
  rw [← Bool.not_eq_true, likeP_iff]
  intro hh
  rw [hh] at h
  exact h rfl
def specLs : Spec := Spec.no.add 14 (sp2 dE dE (fun a _ => a.ok) fun a b => .bool (a.like b))
theorem specLs_ok : SpecOk Tryz.prog w0 specLs := Spec.no_ok.add (sp2_ok fun a b h k H => like02_call a b h)
theorem likeSteps_call (l m : List Step) (hn : (l.length : Int) ≤ 9223372036854775807) (hok : ∀ s ∈ l, s.says.ok) : CallAt Tryz.prog w0 k 30 [(dL cStep).enc l, (dL cStep).enc m] H H (.bool (likeP l m)) := by
  refine callAt tabOk specLs_ok mixed Tryz.func30 rfl rfl Tryz.results30 Tryz.ntmps30 (by simp) [] ?_
  intro hfr t hl ht
  simp only [At, dL, Nat.reduceAdd] at ht
  simp (config := {contextual := true, maxSteps := 5000000}) only [go_sem, false_and, Nat.reduceAdd, Nat.reduceLT, Nat.reduceBEq, Nat.reduceSub, Nat.reduceMul, Nat.reduceLeDiff, Int.reduceToNat, Nat.reduceEqDiff, Nat.reduceMod, ht, hl]
  refine ⟨fun a => ?_, fun a => ?_⟩
  · simp only [bne_iff_ne, ne_eq] at a
    exact (likeP_len (by omega)).symm
  · simp only [bne_eq_false_iff_eq] at a
    refine loop_inv tabOk specLs_ok mixed [] (fun j x => ∃ i : Nat, x.tmps.length = 81 ∧ x.tmps.getD 0 AV.undef = .list .none (l.map cStep.enc) ∧ x.tmps.getD 1 AV.undef = .list .none (m.map cStep.enc) ∧ x.tmps.getD 12 AV.undef = .int .i64 l.length ∧ x.tmps.getD 13 AV.undef = .int .i64 i ∧ x.H = H ∧ i + j = l.length ∧ likeP (l.drop i) (m.drop i) = likeP l m) l.length ⟨0, ?_⟩ ?_
    · simp (config := {contextual := true, maxSteps := 5000000}) only [go_sem, false_and, Nat.reduceAdd, Nat.reduceLT, Nat.reduceBEq, Nat.reduceSub, Nat.reduceMul, Nat.reduceLeDiff, Int.reduceToNat, Nat.reduceEqDiff, Nat.reduceMod, ht, hl]
      exact ⟨rfl, by omega⟩
    · rintro j ⟨t, n, H2⟩ ⟨i, hl, h0, h1, h12, h13, rfl, hij, hgo⟩
      simp only at hl h0 h1 h12 h13
      by_cases hi : i < l.length
      · have hd : decide ((i : Int) < (l.length : Int)) = true := by simp [hi]
        have hw : IntKind.i64.wrap ((i : Int) + 1) = ((i + 1 : Nat) : Int) := by rw [wrap_i64] <;> omega
        obtain ⟨x, hx, hxe⟩ := step_get l hi
        obtain ⟨y, hy, hye⟩ := step_get m (show i < m.length by omega)
        have hxo := hok x (List.mem_of_getElem? hx)
        have hdx : l.drop i = x :: l.drop (i + 1) := by
          obtain ⟨q1, q2⟩ := List.getElem?_eq_some_iff.1 hx
          rw [List.drop_eq_getElem_cons q1, q2]
        have hdy : m.drop i = y :: m.drop (i + 1) := by
          obtain ⟨q1, q2⟩ := List.getElem?_eq_some_iff.1 hy
          rw [List.drop_eq_getElem_cons q1, q2]
        rw [hdx, hdy, likeP] at hgo
        have hno : Step.like x y = false → false = likeP l m := fun h => by rw [← hgo, h, Bool.false_and]
        have hyes : Step.like x y = true → likeP (l.drop (i + 1)) (m.drop (i + 1)) = likeP l m := fun h => by rw [← hgo, h, Bool.true_and]
        simp only [Step.cells] at hxe hye
        simp (config := {contextual := true, maxSteps := 5000000}) only [go_sem, false_and, Nat.reduceAdd, Nat.reduceLT, Nat.reduceBEq, Nat.reduceSub, Nat.reduceMul, Nat.reduceLeDiff, Int.reduceToNat, Nat.reduceEqDiff, Nat.reduceMod, h0, h1, h12, h13, hl, hd, hxe, hye, hw, specLs, toE_at, hxo]
        have n1 : (x.by_ != y.by_) = true → false = likeP l m := fun h => hno (by simp [Step.like, show (x.by_ == y.by_) = false by simpa using h])
        have n2 : (x.a != y.a) = true → false = likeP l m := fun h => hno (by simp [Step.like, show (x.a == y.a) = false by simpa using h])
        have n3 : (x.b != y.b) = true → false = likeP l m := fun h => hno (by simp [Step.like, show (x.b == y.b) = false by simpa using h])
        have n4 : (!x.cite.toList == y.cite.toList) = true → false = likeP l m := fun h => hno (by rw [Step.like, show (x.cite.toList == y.cite.toList) = false by simpa using h]; simp)
        have n5 : (!x.says.like y.says) = true → false = likeP l m := fun h => hno (by rw [Step.like, show x.says.like y.says = false by simpa using h]; simp)
        have yes : (x.by_ != y.by_) = false → (x.a != y.a) = false → (x.b != y.b) = false → (!x.cite.toList == y.cite.toList) = false → (!x.says.like y.says) = false → likeP (l.drop (i + 1)) (m.drop (i + 1)) = likeP l m := fun h1 h2 h3 h4 h5 => hyes (by
          rw [Step.like, show x.says.like y.says = true by simpa using h5, show (x.cite.toList == y.cite.toList) = true by simpa using h4, show (x.b == y.b) = true by simpa using h3, show (x.a == y.a) = true by simpa using h2, show (x.by_ == y.by_) = true by simpa using h1]
          rfl)
        have bi : (0 : Int) ≤ (i : Int) ∧ (i : Int) < (l.length : Int) := by omega
        have bj : (0 : Int) ≤ (i : Int) ∧ (i : Int) < (m.length : Int) := by omega
        exact ⟨by kernel_rfl, bi, bj, fun h1 => ⟨bi, bj, fun h2 => ⟨bi, bj, fun h3 => ⟨bi, bj, fun h4 => ⟨bi, bj, List.Pairwise.nil, n5, fun h5 => ⟨j - 1, by omega, i + 1, rfl, by omega, yes h1 h2 h3 h4 h5⟩⟩, fun h => ⟨List.Pairwise.nil, n4 h⟩⟩, fun h => ⟨List.Pairwise.nil, n3 h⟩⟩, fun h => ⟨List.Pairwise.nil, n2 h⟩⟩, fun h => ⟨List.Pairwise.nil, n1 h⟩⟩
      · have hd : decide ((i : Int) < (l.length : Int)) = false := by simp; omega
        simp (config := {contextual := true, maxSteps := 5000000}) only [go_sem, false_and, Nat.reduceAdd, Nat.reduceLT, Nat.reduceBEq, Nat.reduceSub, Nat.reduceMul, Nat.reduceLeDiff, Int.reduceToNat, Nat.reduceEqDiff, Nat.reduceMod, h0, h1, h12, h13, hl, hd]
        rw [← hgo, List.drop_of_length_le (by omega), List.drop_of_length_le (by omega)]
        rfl
def U.like (a b : U) : Bool := likeN a.cites b.cites && (a.states.like b.states && likeP a.steps b.steps)
theorem U.like_iff {a b : U} : a.like b = true ↔ a = b := by
  unfold U.like
  rw [Bool.and_eq_true, Bool.and_eq_true, likeN_iff, E.like_iff, likeP_iff]
  constructor
  · rintro ⟨h1, h2, h3⟩
    obtain ⟨a1, a2, a3⟩ := a
    obtain ⟨b1, b2, b3⟩ := b
    simp only at h1 h2 h3
    subst h1 h2 h3
    rfl
  · rintro rfl
    exact ⟨rfl, rfl, rfl⟩
def specLu : Spec := ((Spec.no.add 14 (sp2 dE dE (fun a _ => a.ok) fun a b => .bool (a.like b))).add 15 (sp2 (dL cS) (dL cS) (fun l _ => (l.length : Int) ≤ 9223372036854775807) fun l m => .bool (likeN l m))).add 30 (sp2 (dL cStep) (dL cStep) (fun l _ => (l.length : Int) ≤ 9223372036854775807 ∧ ∀ s ∈ l, s.says.ok) fun l m => .bool (likeP l m))
theorem specLu_ok : SpecOk Tryz.prog w0 specLu := ((Spec.no_ok.add (sp2_ok fun a b h k H => like02_call a b h)).add (sp2_ok fun l m h k H => likeNames_call l m h)).add (sp2_ok fun l m h k H => likeSteps_call l m h.1 h.2)
theorem like09_call (a b : U) (hok : a.ok) : CallAt Tryz.prog w0 k 10 [(dA cU).enc a, (dA cU).enc b] H H (.bool (a.like b)) := by
  refine callAt tabOk specLu_ok mixed Tryz.func10 rfl rfl Tryz.results10 Tryz.ntmps10 (by simp) [] ?_
  intro hfr t hl ht
  simp only [At, dA, cU, U.cells, Nat.reduceAdd] at ht
  obtain ⟨o1, o2, o3, o4⟩ := hok
  simp (config := {contextual := true, maxSteps := 5000000}) only [go_sem, false_and, Nat.reduceAdd, Nat.reduceLT, Nat.reduceBEq, Nat.reduceSub, Nat.reduceMul, Nat.reduceLeDiff, Int.reduceToNat, Nat.reduceEqDiff, Nat.reduceMod, ht, hl, specLu, toE_at]
  exact ⟨o1, fun x => ⟨o3, fun y => ⟨⟨o2, o4⟩, by rw [U.like, x, y]; rfl⟩, fun y => by rw [U.like, x, y]; rfl⟩, fun x => by rw [U.like, x]; rfl⟩
end Go.Proofs.YtkdendaohlnlcaaGreatDoor.Av

/- What is read of a text is a unit that may lie in memory. No condition. -/
namespace Go.Proofs.YtkdendaohlnlcaaGreatDoor.Av
set_option linter.unusedVariables false
set_option linter.unusedSimpArgs false
set_option maxRecDepth 4000
set_option maxHeartbeats 1000000
theorem noE_ok : noE.ok := by simp [noE, E.ok, E.okL]
theorem fmU_ok (s : ByteArray) : (fmU s).1.ok := by
  unfold fmU
  cases h : fmRes s with
  | ok x => exact (fmRes_ok h).1
  | err e a => exact noE_ok
theorem stepF_ok (r : Step × Bool) (f : E × Int) (hf : f.1.ok) : (stepF r f).1.says.ok := by
  by_cases h1 : r.2 = false
  · rw [stepF, if_pos h1]
    exact noE_ok
  · by_cases h2 : r.1.by_ = 4 ∧ isName r.1.cite = false
    · rw [stepF, if_neg h1, if_pos h2]
      exact noE_ok
    · rw [stepF, if_neg h1, if_neg h2]
      exact hf
theorem stepR_ok (s : ByteArray) (n : Int) : (stepR s n).1.says.ok := by
  by_cases h1 : 60 < n
  · rw [stepR, if_pos h1]
    exact noE_ok
  · by_cases h2 : fstC s 58 < s.size
    · rw [stepR, if_neg h1, if_pos h2]
      have hf := fmU_ok ((s.extract 0 (fstC s 58)).extract (numT n).size (s.extract 0 (fstC s 58)).size)
      generalize fmU ((s.extract 0 (fstC s 58)).extract (numT n).size (s.extract 0 (fstC s 58)).size) = f at hf ⊢
      generalize rdW (cutC ((s.extract (fstC s 58 + 1) s.size).extract 1 (s.extract (fstC s 58 + 1) s.size).size) 32) = r
      have hF := stepF_ok r f hf
      cases (beg (s.extract 0 (fstC s 58)) (numT n) && beg (s.extract (fstC s 58 + 1) s.size) ⟨#[32]⟩) with
      | true =>
        rw [if_pos rfl]
        exact hF
      | false =>
        rw [if_neg (by simp)]
        exact noE_ok
    · rw [stepR, if_neg h1, if_neg h2]
      exact noE_ok
theorem stepsR_ok : ∀ (xs : List ByteArray) (i : Nat) (acc : List Step), (∀ s ∈ acc, s.says.ok) → (∀ s ∈ (stepsR xs i acc).1, s.says.ok) ∧ (stepsR xs i acc).1.length ≤ acc.length + xs.length
  | [], i, acc, h => by simpa [stepsR] using h
  | x :: xs, i, acc, h => by
    unfold stepsR
    split
    · have := stepsR_ok xs (i + 1) (acc ++ [(stepR x ((i : Int) - 1)).1]) fun s hs => by
        rcases List.mem_append.1 hs with h1 | h1
        · exact h s h1
        · rw [List.mem_singleton.1 h1]
          exact stepR_ok _ _
      refine ⟨this.1, ?_⟩
      have h2 := this.2
      simp only [List.length_append, List.length_cons, List.length_nil] at h2 ⊢
      omega
    · simp
theorem citR_len (s : ByteArray) : (citR s).1.length ≤ s.size + 1 := by
  have key : ∀ r : ByteArray, r.size ≤ s.size → (cutC r 32).length ≤ s.size + 1 := fun r hr => by have := (cutC_len r 32).2; omega
  have hk := key ((s.extract 5 s.size).extract 1 (s.extract 5 s.size).size) (by simp only [ByteArray.size_extract]; omega)
  unfold citR
  generalize cutC ((s.extract 5 s.size).extract 1 (s.extract 5 s.size).size) 32 = l at hk ⊢
  by_cases h1 : beg s ⟨#[99, 105, 116, 101, 115]⟩ = false
  · rw [if_pos h1]
    exact Nat.zero_le _
  · by_cases h2 : e0 (s.extract 5 s.size) = true
    · rw [if_neg h1, if_pos h2]
      exact Nat.zero_le _
    · by_cases h3 : byteAt (s.extract 5 s.size) 0 = 32
      · rw [if_neg h1, if_neg h2, if_pos h3]
        exact hk
      · rw [if_neg h1, if_neg h2, if_neg h3]
        exact Nat.zero_le _
theorem parseL_ok {l : List ByteArray} {u : U} (hl : l.length ≤ 4000000000) (hs : ∀ x ∈ l, x.size ≤ 4000000000) (h : parseL l = .ok u) : u.ok := by
  unfold parseL at h
  split at h
  · cases h
  · rename_i a rest
    unfold parse1 at h
    split at h
    · split at h
      · cases h
      · rename_i b r
        unfold parse2 at h
        split at h
        · cases h
        · split at h
          · split at h
            · cases h
            · rename_i x xs
              unfold parse3 at h
              split at h
              · cases h
                have h1 := stepsR_ok (x :: xs) 2 [] (by simp)
                have h2 := citR_len a
                have h3 := hs a (by simp)
                have h4 := h1.2
                simp only [List.length_cons, List.length_nil] at hl h4
                exact ⟨by simp only; omega, by simp only; omega, fmU_ok _, h1.1⟩
              · cases h
          · cases h
    · cases h
theorem parseR_ok {s : ByteArray} {u : U} (h : parseR s = .ok u) : u.ok := by
  unfold parseR at h
  split at h
  · cases h
  · have h1 := linesOf_len s
    exact parseL_ok (by omega) (fun x hx => by have := linesOf_size hx; omega) h
theorem noU_ok : noU.ok := ⟨by simp [noU], by simp [noU], noE_ok, by simp [noU]⟩
end Go.Proofs.YtkdendaohlnlcaaGreatDoor.Av

/- A text that is refused at a line is refused there whatever stands behind that line, in plain words. No condition. -/
namespace Go.Proofs.YtkdendaohlnlcaaGreatDoor.Av
set_option linter.unusedVariables false
set_option linter.unusedSimpArgs false
set_option maxRecDepth 4000
set_option maxHeartbeats 1000000
theorem cutU_no {c : UInt8} : ∀ {l x : List UInt8}, x ∈ cutU c l → ∀ b ∈ x, b ≠ c
  | [], x, h, b, hb => by
    simp only [cutU, List.mem_singleton] at h
    subst h
    cases hb
  | a :: l, x, h, b, hb => by
    unfold cutU at h
    split at h
    · rcases List.mem_cons.1 h with rfl | h
      · cases hb
      · exact cutU_no h b hb
    · rename_i hac
      split at h
      · simp only [List.mem_singleton] at h
        subst h
        simp only [List.mem_singleton] at hb
        subst hb
        exact hac
      · rename_i y ys he
        rcases List.mem_cons.1 h with rfl | h
        · rcases List.mem_cons.1 hb with rfl | hb
          · exact hac
          · exact cutU_no (by rw [he]; simp) b hb
        · exact cutU_no (by rw [he]; exact List.mem_cons_of_mem _ h) b hb
theorem linesOf_no {s x : ByteArray} (h : x ∈ linesOf s) : ∀ b ∈ x.data.toList, b ≠ 10 := by
  have h1 : x.data.toList ∈ (cutC s 10).map (·.data.toList) := List.mem_map_of_mem (lns_mem h)
  have e : (cutC s 10).map (·.data.toList) = cutU 10 s.data.toList := cutC_spec s 10
  rw [e] at h1
  exact cutU_no h1
/-- The first lines, each with its end. -/
def accT (l : List ByteArray) : Nat → ByteArray
  | 0 => ⟨#[]⟩
  | i + 1 => match l[i]? with
    | some x => (accT l i ++ x) ++ ⟨#[10]⟩
    | none => accT l i
theorem accT_data (l : List ByteArray) : ∀ i, (accT l i).data.toList = ((l.take i).map fun x => x.data.toList ++ [10]).flatten
  | 0 => by simp [accT]
  | i + 1 => by
    rw [accT, List.take_add_one]
    cases h : l[i]? with
    | none => simpa using accT_data l i
    | some x =>
      simp only [ByteArray.data_append, Array.toList_append, accT_data l i, Option.toList_some, List.map_append, List.map_cons, List.map_nil, List.flatten_append, List.flatten_cons, List.flatten_nil, List.append_nil, List.append_assoc]
theorem accT_size (l : List ByteArray) {n : Nat} (h : ∀ x ∈ l, x.size ≤ n) : ∀ i, (accT l i).size ≤ i * (n + 1)
  | 0 => by rw [accT, Nat.zero_mul]; exact Nat.le_refl 0
  | i + 1 => by
    have ih := accT_size l h i
    rw [accT, Nat.succ_mul]
    cases hx : l[i]? with
    | none => simp only; omega
    | some x =>
      have := h x (List.mem_of_getElem? hx)
      simp only [ByteArray.size_append]
      have e : (⟨#[10]⟩ : ByteArray).size = 1 := rfl
      omega
theorem cutU_lines {c : UInt8} {r : List UInt8} : ∀ {l : List (List UInt8)}, (∀ x ∈ l, ∀ b ∈ x, b ≠ c) → cutU c ((l.map fun x => x ++ [c]).flatten ++ r) = l ++ cutU c r
  | [], _ => by simp
  | x :: l, h => by
    simp only [List.map_cons, List.flatten_cons, List.append_assoc, List.cons_append, List.nil_append]
    rw [cutU_hit (h x (by simp)), cutU_lines fun y hy => h y (by simp [hy])]
theorem cutC_acc {l : List ByteArray} (h : ∀ x ∈ l, ∀ b ∈ x.data.toList, b ≠ 10) (i : Nat) (more : ByteArray) : cutC (accT l i ++ more) 10 = l.take i ++ cutC more 10 := by
  apply map_data_inj
  have e1 : (cutC (accT l i ++ more) 10).map (·.data.toList) = cutU 10 (accT l i ++ more).data.toList := cutC_spec _ 10
  have e2 : (cutC more 10).map (·.data.toList) = cutU 10 more.data.toList := cutC_spec _ 10
  rw [e1, List.map_append, e2, ByteArray.data_append, Array.toList_append, accT_data]
  have := cutU_lines (c := 10) (r := more.data.toList) (l := (l.take i).map (·.data.toList)) fun x hx => by
    obtain ⟨y, hy, rfl⟩ := List.mem_map.1 hx
    exact h y (List.mem_of_mem_take hy)
  rw [← this, List.map_map]
  rfl
theorem lns_append (a m : List ByteArray) (hm : 1 ≤ m.length) : ∃ m', lns (a ++ m) = a ++ m' := by
  unfold lns
  split
  · split
    · refine ⟨m.take (m.length - 1), ?_⟩
      rw [List.length_append, show a.length + m.length - 1 = a.length + (m.length - 1) by omega, List.take_append, List.take_of_length_le (by omega), show a.length + (m.length - 1) - a.length = m.length - 1 by omega]
    · exact ⟨m, rfl⟩
  · exact ⟨m, rfl⟩
theorem stepR_late {x : ByteArray} {n : Int} (h : 60 < n) : (stepR x n).2 = 2 := by rw [stepR, if_pos h]
theorem stepsR_err : ∀ (xs : List ByteArray) (i : Nat) (acc l : List Step) (e at_ : Int), i ≤ 62 → stepsR xs i acc = (l, e, at_) → e ≠ 0 →
    ∃ j : Nat, at_ = j ∧ i < j ∧ j ≤ i + xs.length ∧ j ≤ 63 ∧ ∀ m, stepsR (xs.take (j - i) ++ m) i acc = (l, e, at_)
  | [], i, acc, l, e, at_, hi, h, he => by
    simp only [stepsR, Prod.mk.injEq] at h
    exact absurd h.2.1.symm he
  | x :: xs, i, acc, l, e, at_, hi, h, he => by
    by_cases hz : (stepR x ((i : Int) - 1)).2 = 0
    · have hi2 : i < 62 := by
        rcases Nat.lt_or_ge i 62 with h1 | h1
        · exact h1
        · rw [stepR_late (by omega)] at hz
          cases hz
      rw [stepsR, if_pos hz] at h
      obtain ⟨j, h1, h2, h3, h4, h5⟩ := stepsR_err xs (i + 1) _ l e at_ (by omega) h he
      refine ⟨j, h1, by omega, by simp only [List.length_cons]; omega, h4, fun m => ?_⟩
      rw [show j - i = (j - (i + 1)) + 1 by omega, List.take_succ_cons, List.cons_append, stepsR, if_pos hz]
      exact h5 m
    · rw [stepsR, if_neg hz] at h
      simp only [Prod.mk.injEq] at h
      obtain ⟨rfl, rfl, rfl⟩ := h
      refine ⟨i + 1, by omega, by omega, by simp only [List.length_cons]; omega, by omega, fun m => ?_⟩
      rw [show i + 1 - i = 0 + 1 by omega, List.take_succ_cons, List.cons_append, stepsR, if_neg hz]
theorem parseL_err {l : List ByteArray} {e a : Int} (h : parseL l = .err e a) : ∃ j : Nat, a = j ∧ 1 ≤ j ∧ j ≤ l.length + 1 ∧ j ≤ 63 ∧ e ≠ 0 ∧ (j ≤ l.length → ∀ m, parseL (l.take j ++ m) = .err e a) := by
  cases l with
  | nil =>
    simp only [parseL, PR.err.injEq] at h
    obtain ⟨rfl, rfl⟩ := h
    exact ⟨1, rfl, by omega, by simp, by omega, by omega, fun h => by simp at h⟩
  | cons b rest =>
    by_cases hc : (citR b).2 = 0
    · cases rest with
      | nil =>
        simp only [parseL, parse1, if_pos hc, PR.err.injEq] at h
        obtain ⟨rfl, rfl⟩ := h
        exact ⟨2, rfl, by omega, by simp, by omega, by omega, fun h => by simp at h⟩
      | cons d r =>
        cases hb : beg d statesB with
        | false =>
          have hv : ∀ r', parseL (b :: d :: r') = .err 90 2 := fun r' => by simp [parseL, parse1, hc, parse2, hb]
          rw [hv] at h
          cases h
          exact ⟨2, rfl, by omega, by simp, by omega, by omega, fun _ m => hv _⟩
        | true =>
          by_cases hf : (fmU (d.extract 7 d.size)).2 = 0
          · cases r with
            | nil =>
              have hv : parseL [b, d] = .err 90 3 := by simp [parseL, parse1, hc, parse2, hb, hf]
              rw [hv] at h
              cases h
              exact ⟨3, rfl, by omega, by simp, by omega, by omega, fun h => by simp at h⟩
            | cons x xs =>
              have hv : ∀ y ys, parseL (b :: d :: y :: ys) = parse3 (citR b).1 (fmU (d.extract 7 d.size)).1 (stepsR (y :: ys) 2 []) := fun y ys => by simp [parseL, parse1, hc, parse2, hb, hf]
              rw [hv] at h
              generalize hst : stepsR (x :: xs) 2 [] = st at h
              obtain ⟨l', e', a'⟩ := st
              by_cases he : e' = 0
              · simp [parse3, he] at h
              · simp only [parse3, if_neg he, PR.err.injEq] at h
                obtain ⟨rfl, rfl⟩ := h
                obtain ⟨j, h1, h2, h3, h4, h5⟩ := stepsR_err _ 2 [] l' e' a' (by omega) hst he
                simp only [List.length_cons] at h3
                refine ⟨j, h1, by omega, by simp only [List.length_cons]; omega, h4, he, fun _ m => ?_⟩
                have h6 := h5 m
                rw [show j = (j - 2 - 1) + 1 + 1 + 1 by omega] at h6 ⊢
                simp only [List.take_succ_cons, List.cons_append] at h6 ⊢
                rw [hv]
                rw [show j - 2 - 1 + 1 + 1 + 1 - 2 = (j - 2 - 1) + 1 by omega, List.take_succ_cons, List.cons_append] at h6
                rw [h6, parse3, if_neg he]
          · have hv : ∀ r', parseL (b :: d :: r') = .err (fmU (d.extract 7 d.size)).2 2 := fun r' => by simp [parseL, parse1, hc, parse2, hb, hf]
            rw [hv] at h
            cases h
            exact ⟨2, rfl, by omega, by simp, by omega, hf, fun _ m => hv _⟩
    · have hv : ∀ r', parseL (b :: r') = .err (citR b).2 1 := fun r' => by simp [parseL, parse1, hc]
      rw [hv] at h
      cases h
      exact ⟨1, rfl, by omega, by simp, by omega, hc, fun _ m => hv _⟩
/-- The law, in plain words. -/
theorem lines_law {s : ByteArray} {e a : Int} (hs : s.size ≤ 20000) (h : parseL (linesOf s) = .err e a) {j : Nat} (hj : a = j) (hjl : j ≤ (linesOf s).length) (more : ByteArray) : parseL (linesOf (accT (linesOf s) j ++ more)) = .err e a := by
  obtain ⟨j', h1, h2, h3, h4, h5, h6⟩ := parseL_err h
  obtain rfl : j' = j := by omega
  have hc := cutC_acc (fun x hx => linesOf_no hx) j' more (l := linesOf s)
  obtain ⟨m', hm⟩ := lns_append ((linesOf s).take j') (cutC more 10) (cutC_len more 10).1
  rw [show linesOf (accT (linesOf s) j' ++ more) = (linesOf s).take j' ++ m' by rw [linesOf, hc, hm]]
  exact h6 hjl m'
end Go.Proofs.YtkdendaohlnlcaaGreatDoor.Av

/- The law of UnitLines answers true, whatever the texts are. No condition. -/
namespace Go.Proofs.YtkdendaohlnlcaaGreatDoor.Av
set_option linter.unusedVariables false
set_option linter.unusedSimpArgs false
set_option maxRecDepth 4000
set_option maxHeartbeats 1000000
variable {w0 : Base} {k : List Nat} {H : Hp}
def specUl (hm : MaxW w0) : Spec := ((Spec.no.add 8 (sp1 dS (fun _ => True) fun s => (parseR s).av)).add 9 (sp1 dS (fun _ => True) fun s => (parseR s).av)).add 11 (sp1 dS (fun s => s.size ≤ 4000000000) fun s => .list .none ((linesOf s).map cS.enc))
theorem specUl_ok (hm : MaxW w0) : SpecOk Tryz.prog w0 (specUl hm) := ((Spec.no_ok.add (sp1_ok fun s _ k H => parseU_call hm s)).add (sp1_ok fun s _ k H => parse09_call s)).add (sp1_ok fun s h k H => lines09_call s h)
theorem unitLines_call (hm : MaxW w0) (s more : ByteArray) (hmore : more.size ≤ 140737488355328) : CallAt Tryz.prog w0 k 4 [.str s, .str more] H H (.bool true) := by
  refine callAt tabOk (specUl_ok hm) mixed Tryz.func4 rfl rfl Tryz.results4 Tryz.ntmps4 (by simp) [] ?_
  intro hfr t hl ht
  simp only [At, Nat.reduceAdd, List.cons_append, List.nil_append] at ht
  have fN : ∀ (a b : Nat) z ty, H ⟨z, a :: b :: k, ty⟩ = none := fun a b z ty => hfr _ (sfx2 _ _ _)
  have n00 : ((0 : Int) != 0) = false := rfl
  have e00 : ((0 : Int) == 0) = true := rfl
  have e22 : ((2 : Int) == 2) = true := rfl
  have n22 : ((2 : Int) != 2) = false := rfl
  have e20 : ((2 : Int) == 0) = false := rfl
  have hpe : ∀ e a, (PR.err e a).av = .tup [.agg [.list .none [], .int .i64 0, .int .i64 0, .list .none [], .list .none []], .int .i64 e, .int .i64 a] := fun e a => rfl
  by_cases hbig : 20000 < s.size
  · have hp : parseR s = .err 2 0 := by rw [parseR, if_pos hbig]
    simp (config := {contextual := true, maxSteps := 5000000}) only [go_sem, false_and, Nat.reduceAdd, Nat.reduceLT, Nat.reduceBEq, Nat.reduceSub, Nat.reduceMul, Nat.reduceLeDiff, Int.reduceToNat, Nat.reduceEqDiff, Nat.reduceMod, ht, hl, specUl, hp, hpe, n00, e00, e22, n22, e20]
    exact by (repeat (first | exact Hp.Le.refl _ | refine Hp.le_upd ?_ (fN _ _ _ _)))
  have hpl : parseR s = parseL (linesOf s) := by rw [parseR, if_neg hbig]
  have hlaw := @lines_law s
  have hsl : ∀ x ∈ linesOf s, x.size ≤ 20000 := fun x hx => by have := linesOf_size hx; omega
  generalize hln : linesOf s = l at hpl hlaw hsl
  cases hp : parseL l with
  | ok u =>
    rw [hp] at hpl
    have hpo : (PR.ok u).av = .tup [.agg [.list .none (u.cites.map cS.enc), .int .i64 u.states.kind, .int .i64 u.states.id, .list .none (u.states.kids.map E.cells), .list .none (u.steps.map cStep.enc)], .int .i64 0, .int .i64 0] := rfl
    simp (config := {contextual := true, maxSteps := 5000000}) only [go_sem, false_and, Nat.reduceAdd, Nat.reduceLT, Nat.reduceBEq, Nat.reduceSub, Nat.reduceMul, Nat.reduceLeDiff, Int.reduceToNat, Nat.reduceEqDiff, Nat.reduceMod, ht, hl, specUl, hpl, hpo, n00, e00, e22]
    exact by (repeat (first | exact Hp.Le.refl _ | refine Hp.le_upd ?_ (fN _ _ _ _)))
  | err e a =>
    rw [hp] at hpl
    obtain ⟨j, rfl, h1, h2, h3, h4, h5⟩ := parseL_err hp
    have hne : (e != e) = false := by simp
    have hee : (e == e) = true := by simp
    have he0 : (e == 0) = false := by simpa using h4
    have hj0 : (((j : Nat) : Int) == 0) = false := by simp; omega
    have hjj : (((j : Nat) : Int) == (j : Int)) = true := by simp
    have d1 : decide ((j : Int) < 1) = false := by simp; omega
    have hwl : IntKind.i64.wrap ((l.length : Int) + 1) = ((l.length + 1 : Nat) : Int) := by
      have := linesOf_len s
      rw [hln] at this
      rw [wrap_i64] <;> omega
    have d2 : decide (((l.length + 1 : Nat) : Int) < (j : Int)) = false := by simp; omega
    have d63 : decide ((63 : Int) < (j : Int)) = false := by simp; omega
    have hs4 : s.size ≤ 4000000000 := by omega
    by_cases hjl : j ≤ l.length
    · have d3 : decide ((l.length : Int) < (j : Int)) = false := by simp; omega
      cases he2 : (e == 2)
      all_goals
        simp (config := {contextual := true, maxSteps := 5000000}) only [go_sem, false_and, Nat.reduceAdd, Nat.reduceLT, Nat.reduceBEq, Nat.reduceSub, Nat.reduceMul, Nat.reduceLeDiff, Int.reduceToNat, Nat.reduceEqDiff, Nat.reduceMod, ht, hl, specUl, hpl, hpe, hne, hee, he0, hj0, he2, d1, hwl, d2, d63, hln, d3]
        refine ⟨hs4, loop_inv tabOk (specUl_ok hm) mixed [] (fun q y => ∃ i : Nat, y.tmps.length = 98 ∧ y.tmps.getD 1 AV.undef = .str more ∧ y.tmps.getD 9 AV.undef = .int .i64 e ∧ y.tmps.getD 10 AV.undef = .int .i64 j ∧ y.tmps.getD 11 AV.undef = .list .none (l.map cS.enc) ∧ y.tmps.getD 12 AV.undef = .str (accT l i) ∧ y.tmps.getD 13 AV.undef = .int .i64 i ∧ H.Le y.H ∧ i + q = j) j ⟨0, ?_⟩ ?_⟩
        · simp (config := {contextual := true, maxSteps := 5000000}) only [go_sem, false_and, Nat.reduceAdd, Nat.reduceLT, Nat.reduceBEq, Nat.reduceSub, Nat.reduceMul, Nat.reduceLeDiff, Int.reduceToNat, Nat.reduceEqDiff, Nat.reduceMod, ht, hl]
          exact ⟨rfl, rfl, by (repeat (first | exact Hp.Le.refl _ | refine Hp.le_upd ?_ (fN _ _ _ _))), by omega⟩
        · rintro q ⟨t, n, H2⟩ ⟨i, hl, g1, g9, g10, g11, g12, g13, hle, hiq⟩
          simp only at hl g1 g9 g10 g11 g12 g13 hle
          have hacc : (accT l i).size ≤ 64 * 20001 := Nat.le_trans (accT_size l hsl i) (Nat.mul_le_mul_right _ (by omega))
          have z10 : (#[10] : Array UInt8).size = 1 := rfl
          by_cases hi : i < j
          · have hd : decide ((i : Int) < (j : Int)) = true := by simp [hi]
            have hw : IntKind.i64.wrap ((i : Int) + 1) = ((i + 1 : Nat) : Int) := by rw [wrap_i64] <;> omega
            obtain ⟨y, hy, hye⟩ := str_get l (show i < l.length by omega)
            have hys := hsl y (List.mem_of_getElem? hy)
            have hat : accT l (i + 1) = (accT l i ++ y) ++ ⟨#[10]⟩ := by rw [accT, hy]
            simp (config := {contextual := true, maxSteps := 5000000}) only [go_sem, false_and, Nat.reduceAdd, Nat.reduceLT, Nat.reduceBEq, Nat.reduceSub, Nat.reduceMul, Nat.reduceLeDiff, Int.reduceToNat, Nat.reduceEqDiff, Nat.reduceMod, g1, g9, g10, g11, g12, g13, hl, hd, hw, hye, z10]
            exact ⟨⟨by omega, by omega⟩, by omega, by omega, q - 1, by omega, i + 1, hat.symm, rfl, hle, by omega⟩
          · have hd : decide ((i : Int) < (j : Int)) = false := by simp; omega
            obtain rfl : i = j := by omega
            by_cases hbt : 20000 < (accT l i ++ more).size
            · have dbt : decide ((20000 : Int) < (((accT l i).size + more.size : Nat) : Int)) = true := by rw [ByteArray.size_append] at hbt; simp; omega
              simp (config := {contextual := true, maxSteps := 5000000}) only [go_sem, false_and, Nat.reduceAdd, Nat.reduceLT, Nat.reduceBEq, Nat.reduceSub, Nat.reduceMul, Nat.reduceLeDiff, Int.reduceToNat, Nat.reduceEqDiff, Nat.reduceMod, g1, g9, g10, g11, g12, g13, hl, hd, dbt]
              exact ⟨by omega, hle⟩
            · have dbt : decide ((20000 : Int) < (((accT l i).size + more.size : Nat) : Int)) = false := by rw [ByteArray.size_append] at hbt; simp; omega
              have hpt : parseR (accT l i ++ more) = .err e i := by
                rw [parseR, if_neg hbt]
                exact hlaw (by omega) hp rfl hjl more
              simp (config := {contextual := true, maxSteps := 5000000}) only [go_sem, false_and, Nat.reduceAdd, Nat.reduceLT, Nat.reduceBEq, Nat.reduceSub, Nat.reduceMul, Nat.reduceLeDiff, Int.reduceToNat, Nat.reduceEqDiff, Nat.reduceMod, g1, g9, g10, g11, g12, g13, hl, hd, dbt, specUl, hpt, hpe, hee, hjj]
              exact ⟨by omega, by (repeat (first | exact hle | refine Hp.le_upd ?_ (fN _ _ _ _)))⟩
    · have d3 : decide ((l.length : Int) < (j : Int)) = true := by simp; omega
      cases he2 : (e == 2)
      all_goals
        simp (config := {contextual := true, maxSteps := 5000000}) only [go_sem, false_and, Nat.reduceAdd, Nat.reduceLT, Nat.reduceBEq, Nat.reduceSub, Nat.reduceMul, Nat.reduceLeDiff, Int.reduceToNat, Nat.reduceEqDiff, Nat.reduceMod, ht, hl, specUl, hpl, hpe, hne, hee, he0, hj0, he2, d1, hwl, d2, d63, hln, d3]
        exact ⟨hs4, by (repeat (first | exact Hp.Le.refl _ | refine Hp.le_upd ?_ (fN _ _ _ _)))⟩
end Go.Proofs.YtkdendaohlnlcaaGreatDoor.Av

/- From the reading of an argument to plain data. No condition. -/
namespace Go.Proofs.YtkdendaohlnlcaaGreatDoor.Av
set_option linter.unusedVariables false
set_option linter.unusedSimpArgs false
set_option maxRecDepth 4000
set_option maxHeartbeats 1000000
open Go.RowKit
section
variable {HT : Type} {enc : TypeId × Value → HT} {P : Program} {tb : Tab} {w : World} {base : Nat} {sp : Nat → Bool} {held : Bool}

/-- What is known at the start: the world's cells. -/
def ghOf (w : World) : Gh := ⟨w.cell?, fun _ => none, fun _ => none, fun _ => none⟩
theorem sim_start (w : World) : Sim ⟨w, ghOf w⟩ (ghOf w) (fun _ => none) w where
  c := fun _ _ h => h
  v := fun _ _ h => by cases h
  d := fun _ _ h => by cases h
  t := fun _ h => by cases h
  inj := fun _ _ _ h => by cases h
  tinj := fun _ _ _ _ _ h => by cases h
  vt := fun _ _ _ _ h => by cases h
  below := Below.refl _ _
  g := Gh.Le.refl _
  r := fun _ _ h => by cases h

theorem TabOk.cellsOf (hT : TabOk P tb) {t : TypeId} {ti : TI} (e : tb t = some ti) : P.cellsOf t = ti.size := by
  obtain ⟨i, d, h1, h2, h3, h4, _⟩ := hT t ti e
  simp [Program.cellsOf, h1, h4]
theorem TabOk.under (hT : TabOk P tb) {t : TypeId} {ti : TI} (e : tb t = some ti) : ∃ d, P.underlying t = some d ∧ tdOf d = ti.td := by
  obtain ⟨i, d, h1, h2, h3, h4, _⟩ := hT t ti e
  exact ⟨d, h2, h3⟩

theorem trod_int (hT : TabOk P tb) {t : TypeId} {k : IntKind} {a b : Nat} {z : Value} (e : tb t = some ⟨.int k, a, b, z⟩) {f : Nat} {cs : List Value} {x : DataW HT × List MemPlace} (h : DataW.trod enc P w base sp held f t cs = some x) : ∃ n, cs = [.int k n] := by
  obtain ⟨d, hu, hd⟩ := hT.under e
  cases d <;> simp [tdOf] at hd
  subst hd
  cases f with
  | zero => simp [DataW.trod] at h
  | succ f =>
    unfold DataW.trod at h
    rw [hu] at h
    split at h <;> simp_all
theorem trod_str (hT : TabOk P tb) {t : TypeId} {a b : Nat} {z : Value} (e : tb t = some ⟨.string, a, b, z⟩) {f : Nat} {cs : List Value} {x : DataW HT × List MemPlace} (h : DataW.trod enc P w base sp held f t cs = some x) : ∃ s : ByteArray, cs = [.string s] ∧ s.size ≤ maxLen := by
  obtain ⟨d, hu, hd⟩ := hT.under e
  cases d <;> simp [tdOf] at hd
  cases f with
  | zero => simp [DataW.trod] at h
  | succ f =>
    unfold DataW.trod at h
    rw [hu] at h
    split at h <;> simp_all
theorem trod_struct (hT : TabOk P tb) {t : TypeId} {fs : List (Nat × TypeId)} {a b : Nat} {z : Value} (e : tb t = some ⟨.struct fs, a, b, z⟩) {f : Nat} {cs : List Value} {x : DataW HT × List MemPlace} (h : DataW.trod enc P w base sp held f t cs = some x) :
    ∃ f', f = f' + 1 ∧ cs.length = a ∧ ∀ p ∈ fs, ∃ y, DataW.trod enc P w base sp held f' p.2 ((cs.drop p.1).take (P.cellsOf p.2)) = some y := by
  obtain ⟨d, hu, hd⟩ := hT.under e
  have hc := hT.cellsOf e
  cases d <;> simp [tdOf] at hd
  rename_i fa
  cases f with
  | zero => simp [DataW.trod] at h
  | succ f =>
    refine ⟨f, rfl, ?_⟩
    unfold DataW.trod at h
    rw [hu] at h
    have key : (if cs.length = P.cellsOf t then (fa.toList.mapM fun g => DataW.trod enc P w base sp held f g.type ((cs.drop g.offset).take (P.cellsOf g.type))).map fun xs => ((.agg (xs.map (·.1)) : DataW HT), xs.flatMap (·.2)) else none) = some x := by
      rcases cs with _ | ⟨c, _ | ⟨c2, cs⟩⟩
      · exact h
      · cases c <;> exact h
      · cases c <;> exact h
    split at key
    · rename_i hl
      refine ⟨by rw [hl, hc], ?_⟩
      cases hm : fa.toList.mapM fun g => DataW.trod enc P w base sp held f g.type ((cs.drop g.offset).take (P.cellsOf g.type)) with
      | none => rw [hm] at key; simp at key
      | some xs =>
        intro p hp
        rw [← hd] at hp
        obtain ⟨g, hg, rfl⟩ := List.mem_map.1 hp
        obtain ⟨i, hi, hgi⟩ := List.getElem_of_mem hg
        have := mapM_some_get hm i g (by rw [← hgi]; simp)
        have hlen := mapM_some_length hm
        have hx : i < xs.length := by omega
        exact ⟨xs[i], by simpa [hx] using this⟩
    · cases key
theorem trod_slice (hT : TabOk P tb) {t el : TypeId} {a b : Nat} {z : Value} (e : tb t = some ⟨.slice el, a, b, z⟩) {te : TI} (he : tb el = some te) {α : Type} (D : DecC α) (hD : D.sz = te.size) (okA : α → Prop) {f : Nat}
    (helem : ∀ cs y, DataW.trod enc P w base sp held (f - 1) el cs = some y → ∃ u : α, okA u ∧ RepL (ghOf w) (D.enc u) cs) {cs : List Value} {x : DataW HT × List MemPlace} (h : DataW.trod enc P w base sp held f t cs = some x) :
    ∃ (l : List α) (V : Value), cs = [V] ∧ Rep (ghOf w) (.list .none (l.map D.enc)) V ∧ l.length ≤ maxLen ∧ ∀ u ∈ l, okA u := by
  obtain ⟨d, hu, hd⟩ := hT.under e
  have hc := hT.cellsOf he
  cases d <;> simp [tdOf] at hd
  subst hd
  cases f with
  | zero => simp [DataW.trod] at h
  | succ f =>
    simp only [Nat.add_sub_cancel] at helem
    unfold DataW.trod at h
    rw [hu] at h
    split at h <;> try (simp_all; done)
    · exact ⟨[], _, rfl, by simp only [Rep]; exact ⟨none, 0, 0, rfl, rfl, Nat.le_refl _, trivial, ⟨0, by simp⟩, ⟨0, 0, none⟩, by simp, by simp [RepE]⟩, by simp, by simp⟩
    · rename_i d1 c1 el2 ad n c heq
      cases heq
      simp only at h
      split at h
      · rename_i hb
        obtain ⟨hb1, hb2, hb3⟩ := hb
        simp only [Option.bind_eq_some_iff] at h
        obtain ⟨elems, hm, _⟩ := h
        have hlen := mapM_some_length hm
        simp only [List.length_range] at hlen
        have each : ∀ i, i < n → ∃ u : α, okA u ∧ RepC (ghOf w) ad (i * D.sz) (D.enc u) := fun i hi => by
          have h1 := mapM_some_get hm i i (by simp [hi])
          rw [show elems[i]? = some (elems[i]'(by omega)) by simp [show i < elems.length by omega]] at h1
          obtain ⟨cs, h2, h3⟩ := Option.bind_eq_some_iff.1 h1
          obtain ⟨u, h4, h5⟩ := helem cs _ h3
          obtain ⟨_, h6, h7⟩ := World.cells?_some h2
          refine ⟨u, h4, RepC_of_list _ _ cs h5 fun j v hj => ?_⟩
          have hjl : j < cs.length := (List.getElem?_eq_some_iff.1 hj).1
          have h8 := h7 j (by omega)
          rw [Addr.add_add, hc, ← hD, hj] at h8
          exact h8
        have all : ∀ m i, i + m = n → ∃ l : List α, l.length = m ∧ RepE (ghOf w) ad (i * D.sz) (l.map D.enc) ∧ ∀ u ∈ l, okA u := by
          intro m
          induction m with
          | zero => exact fun i _ => ⟨[], rfl, by simp [RepE], by simp⟩
          | succ m ih =>
            intro i him
            obtain ⟨u, hu1, hu2⟩ := each i (by omega)
            obtain ⟨l, hl1, hl2, hl3⟩ := ih (i + 1) (by omega)
            refine ⟨u :: l, by simp [hl1], ?_, ?_⟩
            · simp only [List.map_cons, RepE]
              refine ⟨hu2, ?_⟩
              rw [D.elen, show i * D.sz + D.sz = (i + 1) * D.sz by rw [Nat.add_mul]; omega]
              exact hl2
            · intro v hv
              rcases List.mem_cons.1 hv with rfl | hv
              · exact hu1
              · exact hl3 v hv
        obtain ⟨l, hl1, hl2, hl3⟩ := all n 0 (by omega)
        refine ⟨l, _, rfl, ?_, by omega, hl3⟩
        simp only [Rep]
        refine ⟨some ad, n, c, rfl, by simp [hl1], hb2, trivial, ⟨D.sz, fun x hx => ?_⟩, ad, fun _ => rfl, by simpa using hl2⟩
        obtain ⟨y, _, rfl⟩ := List.mem_map.1 hx
        exact D.elen y
      · cases h
end
section
variable {HT : Type} {enc : TypeId × Value → HT} {w : World} {base : Nat} {sp : Nat → Bool} {held : Bool}
theorem maxLen_int {n : Nat} (h : n ≤ maxLen) : (n : Int) ≤ 9223372036854775807 := by
  have : maxLen = 9223372036854775807 := by decide
  omega
theorem E.ok_mk {k i : Int} {l : List E} (h1 : l.length ≤ maxLen) (h2 : ∀ u ∈ l, E.ok u) : (E.mk k i l).ok := by
  refine ⟨maxLen_int h1, ?_⟩
  clear h1
  induction l with
  | nil => trivial
  | cons u l ih => exact ⟨h2 u (by simp), ih fun v hv => h2 v (by simp [hv])⟩
theorem trodE : ∀ (f : Nat) (cs : List Value) (x : DataW HT × List MemPlace), DataW.trod enc Tryz.prog w base sp held f 25 cs = some x → ∃ e : E, e.ok ∧ RepL (ghOf w) e.cells cs := by
  intro f
  induction f using Nat.strongRecOn with
  | _ f ih =>
    intro cs x h
    obtain ⟨f', rfl, hl, hp⟩ := trod_struct tabOk (tab_25) h
    obtain ⟨a, b, c, rfl⟩ : ∃ a b c, cs = [a, b, c] := by
      match cs, hl with
      | [a, b, c], _ => exact ⟨a, b, c, rfl⟩
    obtain ⟨y1, h1⟩ := hp _ (by simp : (0, 3) ∈ _)
    obtain ⟨y2, h2⟩ := hp _ (by simp : (1, 3) ∈ _)
    obtain ⟨y3, h3⟩ := hp _ (by simp : (2, 23) ∈ _)
    simp only [tabOk.cellsOf tab_3, tabOk.cellsOf tab_23, List.drop_zero, List.drop_succ_cons, List.take_succ_cons, List.take_zero] at h1 h2 h3
    obtain ⟨n1, e1⟩ := trod_int tabOk tab_3 h1
    obtain ⟨n2, e2⟩ := trod_int tabOk tab_3 h2
    obtain ⟨l, V, e3, hr, hml, hok⟩ := trod_slice tabOk tab_23 tab_25 cE rfl E.ok (fun cs y hy => ih (f' - 1) (by omega) cs y hy) h3
    simp only [List.cons.injEq, and_true] at e1 e2 e3
    subst e1 e2 e3
    refine ⟨.mk n1 n2 l, E.ok_mk hml hok, ?_⟩
    simp only [E.cells, RepL, E.cellsL_eq]
    exact ⟨_, _, rfl, by simp [Rep], _, _, rfl, by simp [Rep], _, _, rfl, hr, rfl⟩
theorem trodS (f : Nat) (cs : List Value) (x : DataW HT × List MemPlace) (h : DataW.trod enc Tryz.prog w base sp held f 9 cs = some x) : ∃ s : ByteArray, (s.size : Int) ≤ 9223372036854775807 ∧ RepL (ghOf w) (cS.enc s) cs := by
  obtain ⟨s, rfl, hs⟩ := trod_str tabOk tab_9 h
  exact ⟨s, maxLen_int hs, by simp only [cS, RepL]; exact ⟨_, _, rfl, by simp [Rep], rfl⟩⟩
theorem trodStep (f : Nat) (cs : List Value) (x : DataW HT × List MemPlace) (h : DataW.trod enc Tryz.prog w base sp held f 50 cs = some x) : ∃ s : Step, (s.says.ok ∧ (s.cite.size : Int) ≤ 9223372036854775807) ∧ RepL (ghOf w) (cStep.enc s) cs := by
  obtain ⟨f', rfl, hl, hp⟩ := trod_struct tabOk (tab_50) h
  obtain ⟨a, b, c, d, e, g, i, rfl⟩ : ∃ a b c d e g i, cs = [a, b, c, d, e, g, i] := by
    match cs, hl with
    | [a, b, c, d, e, g, i], _ => exact ⟨a, b, c, d, e, g, i, rfl⟩
  obtain ⟨y1, h1⟩ := hp _ (by simp : (0, 25) ∈ _)
  obtain ⟨y2, h2⟩ := hp _ (by simp : (3, 3) ∈ _)
  obtain ⟨y3, h3⟩ := hp _ (by simp : (4, 3) ∈ _)
  obtain ⟨y4, h4⟩ := hp _ (by simp : (5, 3) ∈ _)
  obtain ⟨y5, h5⟩ := hp _ (by simp : (6, 9) ∈ _)
  simp only [tabOk.cellsOf tab_3, tabOk.cellsOf tab_25, tabOk.cellsOf tab_9, List.drop_zero, List.drop_succ_cons, List.take_succ_cons, List.take_zero] at h1 h2 h3 h4 h5
  obtain ⟨e0, hok, hr⟩ := trodE _ _ _ h1
  obtain ⟨n2, e2⟩ := trod_int tabOk tab_3 h2
  obtain ⟨n3, e3⟩ := trod_int tabOk tab_3 h3
  obtain ⟨n4, e4⟩ := trod_int tabOk tab_3 h4
  obtain ⟨s5, e5, hs⟩ := trod_str tabOk tab_9 h5
  simp only [List.cons.injEq, and_true] at e2 e3 e4 e5
  subst e2 e3 e4 e5
  refine ⟨⟨e0, n2, n3, n4, s5⟩, ⟨hok, maxLen_int hs⟩, ?_⟩
  rw [E.cells_eq] at hr
  have hr2 : RepL (ghOf w) [.int .i64 n2, .int .i64 n3, .int .i64 n4, .str s5] [.int .i64 n2, .int .i64 n3, .int .i64 n4, .string s5] := by
    simp only [RepL]
    exact ⟨_, _, rfl, by simp [Rep], _, _, rfl, by simp [Rep], _, _, rfl, by simp [Rep], _, _, rfl, by simp [Rep], rfl⟩
  exact RepL.append hr hr2
theorem trodU (f : Nat) (cs : List Value) (x : DataW HT × List MemPlace) (h : DataW.trod enc Tryz.prog w base sp held f 28 cs = some x) : ∃ u : U, u.okN ∧ RepL (ghOf w) (cU.enc u) cs := by
  obtain ⟨f', rfl, hl, hp⟩ := trod_struct tabOk (tab_28) h
  obtain ⟨a, b, c, d, e, rfl⟩ : ∃ a b c d e, cs = [a, b, c, d, e] := by
    match cs, hl with
    | [a, b, c, d, e], _ => exact ⟨a, b, c, d, e, rfl⟩
  obtain ⟨y1, h1⟩ := hp _ (by simp : (0, 22) ∈ _)
  obtain ⟨y2, h2⟩ := hp _ (by simp : (1, 25) ∈ _)
  obtain ⟨y3, h3⟩ := hp _ (by simp : (4, 26) ∈ _)
  simp only [tabOk.cellsOf tab_22, tabOk.cellsOf tab_25, tabOk.cellsOf tab_26, List.drop_zero, List.drop_succ_cons, List.take_succ_cons, List.take_zero] at h1 h2 h3
  obtain ⟨l, V, e1, hr1, hml1, hok1⟩ := trod_slice tabOk tab_22 tab_9 cS rfl (fun s => (s.size : Int) ≤ 9223372036854775807) (fun cs y hy => trodS _ cs y hy) h1
  obtain ⟨e0, hok, hr⟩ := trodE _ _ _ h2
  obtain ⟨m, V3, e3, hr3, hml3, hok3⟩ := trod_slice tabOk tab_26 tab_50 cStep rfl (fun s : Step => s.says.ok ∧ (s.cite.size : Int) ≤ 9223372036854775807) (fun cs y hy => trodStep _ cs y hy) h3
  simp only [List.cons.injEq, and_true] at e1 e3
  subst e1 e3
  refine ⟨⟨l, e0, m⟩, ⟨⟨maxLen_int hml1, maxLen_int hml3, hok, fun s hs => (hok3 s hs).1⟩, hok1, fun s hs => (hok3 s hs).2⟩, ?_⟩
  rw [E.cells_eq] at hr
  have q1 : RepL (ghOf w) [.list .none (l.map cS.enc)] [a] := repL_one hr1
  have q3 : RepL (ghOf w) [.list .none (m.map cStep.enc)] [e] := repL_one hr3
  exact RepL.append q1 (RepL.append hr q3)
end
end Go.Proofs.YtkdendaohlnlcaaGreatDoor.Av
