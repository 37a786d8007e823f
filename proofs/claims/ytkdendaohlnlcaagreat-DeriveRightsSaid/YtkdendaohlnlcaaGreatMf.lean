/- A part of the theory and of the contracts: P07e, P07f, P07g, P07h, P07i, P07j, P07k, Pf3, R22a, R22b, R22c, R22d, R22e, R22f, LawDeriveRights, BrE. No condition. -/
import Derived.Test.YtkdendaohlnlcaaGreatMe
import Derived.Test.YtkdendaohlnlcaaGreatMc
import Derived.DataReads
import Derived.DataElems
/- The program's schemas: grown, instance, instantiated, rows 7 and 11. No condition. -/
namespace Go.Proofs.YtkdendaohlnlcaaGreat.Av
set_option linter.unusedVariables false
set_option linter.unusedSimpArgs false
set_option maxRecDepth 4000
set_option maxHeartbeats 1000000
variable {w0 : Base} {k : List Nat} {H : Hp}
theorem row7_call (a b : E) (x : Int) (ha : a.right = 0) (hx : 0 ≤ x ∧ x ≤ 63) : CallAt Tryz.prog w0 k 97 [.list .none ([a, b].map E.cells), .int .i64 x] H H (.tup [(im (al x (im a b)) (im a (al x b))).av, .bool (!hasB a.fv x)]) := by
  have hn : notFreeE x a = (!hasB a.fv x, 0) := by simp [notFreeE, ha, hx]
  have hao := sh_ok a (right_sh' ha)
  have hS := (specRm_ok (w0 := w0)).add (sp2_ok (f := 98) (A := dI) (B := dE) (φ := fun _ e => e.ok) (v := fun x e => .tup [.bool (notFreeE x e).1, .int .i64 (notFreeE x e).2]) fun x e h k H => notFree_call x e h)
  refine callAt tabOk hS mixed Tryz.func97 rfl rfl Tryz.results97 Tryz.ntmps97 (by simp) [] ?_
  intro hfr t hl ht
  simp only [At, Nat.reduceAdd, List.cons_append, List.nil_append] at ht
  have fN : ∀ (a b : Nat) z ty, H ⟨z, a :: b :: k, ty⟩ = none := fun a b z ty => hfr _ (sfx2 _ _ _)
  simp only [List.map_cons, List.map_nil, E.cells_eq] at ht
  simp (config := {contextual := true, maxSteps := 5000000}) only [go_sem, false_and, Nat.reduceAdd, Nat.reduceLT, Nat.reduceBEq, Nat.reduceSub, Nat.reduceMul, Nat.reduceLeDiff, Int.reduceToNat, Nat.reduceEqDiff, Nat.reduceMod, ht, hl, specRm, toE_at, resOne, hn]
  (repeat' apply And.intro) <;> first | ((with_reducible (show drawOk _ = true)); kernel_rfl) | with_reducible assumption | omega | ((with_reducible (show List.Pairwise _ _)); (refine pw_of ?_; (repeat' (first | exact trivial | apply And.intro)); all_goals (first | exact .inr rfl | exact .inr trivial | exact .inl (by kernel_rfl)))) | (repeat (first | exact Hp.Le.refl _ | refine Hp.le_upd ?_ (fN _ _ _ _)))
theorem row11_call (a b c d : E) (x : Int) (ha : a.right = 0) (hb : b.right = 0) (hc : c.right = 0) (hd : d.right = 0) : CallAt Tryz.prog w0 k 104 [.list .none ([a, b, c, d].map E.cells), .int .i64 x] H H (.tup [(im (eqE a b) (im c d)).av, .bool (c.swp a b (a.vs ||| b.vs) d true)]) := by
  refine callAt tabOk specRm_ok mixed Tryz.func104 rfl rfl Tryz.results104 Tryz.ntmps104 (by simp) [] ?_
  intro hfr t hl ht
  simp only [At, Nat.reduceAdd, List.cons_append, List.nil_append] at ht
  have fN : ∀ (a b : Nat) z ty, H ⟨z, a :: b :: k, ty⟩ = none := fun a b z ty => hfr _ (sfx2 _ _ _)
  simp only [List.map_cons, List.map_nil, E.cells_eq] at ht
  simp (config := {contextual := true, maxSteps := 5000000}) only [go_sem, false_and, Nat.reduceAdd, Nat.reduceLT, Nat.reduceBEq, Nat.reduceSub, Nat.reduceMul, Nat.reduceLeDiff, Int.reduceToNat, Nat.reduceEqDiff, Nat.reduceMod, ht, hl, specRm, toE_at, resOne]
  refine ⟨by kernel_rfl, by decide, by decide, by decide, by decide, by decide, by decide, by decide, by decide, callK_intro (swapped_call c d a b hc hd ha hb) ?_⟩
  simp (config := {contextual := true, maxSteps := 5000000}) only [go_sem, false_and, Nat.reduceAdd, Nat.reduceLT, Nat.reduceBEq, Nat.reduceSub, Nat.reduceMul, Nat.reduceLeDiff, Int.reduceToNat, Nat.reduceEqDiff, Nat.reduceMod, ht, hl, specRm, toE_at, resOne]
  exact ⟨by (refine pw_of ?_; (repeat' (first | exact trivial | apply And.intro)); all_goals (first | exact .inr rfl | exact .inr trivial | exact .inl (by kernel_rfl))), (by (repeat (first | exact Hp.Le.refl _ | refine Hp.le_upd ?_ (fN _ _ _ _))))⟩
mutual
/-- What a formula grows to, counted. -/
def E.grw (x n : Int) : E → Int
  | .mk k i ks => if k = 1 ∧ i = x then n else if isQ k = true ∧ i = x then min ((E.mk k i ks).sz : Int) 1001 else 1 + E.grwL x n ks
def E.grwL (x n : Int) : List E → Int
  | [] => 0
  | e :: es => e.grw x n + E.grwL x n es
end
theorem E.grw_eq (x n : Int) (e : E) : e.grw x n = if e.kind = 1 ∧ e.id = x then n else if isQ e.kind = true ∧ e.id = x then min (e.sz : Int) 1001 else 1 + E.grwL x n e.kids := by cases e; rw [E.grw]; rfl
mutual
theorem E.grw_le {x n : Int} (h : 0 ≤ n ∧ n ≤ 1001) : ∀ e : E, 0 ≤ e.grw x n ∧ e.grw x n ≤ 1001 * e.sz
  | .mk k i ks => by
    have hs : (E.mk k i ks).sz = 1 + E.szL ks := by rw [E.sz]
    have hk := E.grwL_le (x := x) h ks
    rw [E.grw]
    split
    · omega
    · split <;> omega
theorem E.grwL_le {x n : Int} (h : 0 ≤ n ∧ n ≤ 1001) : ∀ l : List E, 0 ≤ E.grwL x n l ∧ E.grwL x n l ≤ 1001 * E.szL l
  | [] => by simp [E.grwL, E.szL]
  | e :: es => by
    have h1 := E.grw_le (x := x) h e
    have h2 := E.grwL_le (x := x) h es
    have hs : E.szL (e :: es) = e.sz + E.szL es := by rw [E.szL]
    rw [E.grwL]
    omega
end
theorem grwL_drop (x n : Int) {l : List E} {i : Nat} {y : E} (hy : l[i]? = some y) : E.grwL x n (l.drop i) = y.grw x n + E.grwL x n (l.drop (i + 1)) := by
  obtain ⟨h1, rfl⟩ := List.getElem?_eq_some_iff.1 hy
  rw [List.drop_eq_getElem_cons h1, E.grwL]
def specGz : Spec := Spec.no.add 37 (sp1 dE (fun e => e.ok) fun e => .int .i64 (min (e.sz : Int) 1001))
theorem specGz_ok : SpecOk Tryz.prog w0 specGz := Spec.no_ok.add (sp1_ok fun e h k H => sizeX_call e h)
def specGw (N : Nat) : Spec := specGz.add 115 (sp3 dE dI dI (fun e _ n => e.ok ∧ e.sz ≤ 1000 ∧ (0 ≤ n ∧ n ≤ 1001) ∧ e.sz < N) fun e x n => .int .i64 (e.grw x n))
theorem grown_step (N : Nat) (hS : SpecOk Tryz.prog w0 (specGw N)) (e : E) (x n : Int) (hok : e.ok) (hsz : e.sz ≤ 1000) (hn : 0 ≤ n ∧ n ≤ 1001) (hN : e.sz < N + 1) : CallAt Tryz.prog w0 k 115 [e.av, .int .i64 x, .int .i64 n] H H (.int .i64 (e.grw x n)) := by
  refine callAt tabOk hS mixed Tryz.func115 rfl rfl Tryz.results115 Tryz.ntmps115 (by simp) [] ?_
  intro hfr t hl ht
  simp only [At, Nat.reduceAdd, List.cons_append, List.nil_append] at ht
  have fN : ∀ (a b : Nat) z ty, H ⟨z, a :: b :: k, ty⟩ = none := fun a b z ty => hfr _ (sfx2 _ _ _)
  have hlen := E.ok_len hok
  have hg := E.grw_eq x n e
  have hle := E.grw_le (x := x) hn e
  by_cases h1 : e.kind = 1 ∧ e.id = x
  · have c1 : (e.kind == 1) = true := by simp [h1.1]
    have c2 : (e.id == x) = true := by simp [h1.2]
    rw [hg, if_pos h1]
    simp (config := {contextual := true, maxSteps := 5000000}) only [go_sem, false_and, Nat.reduceAdd, Nat.reduceLT, Nat.reduceBEq, Nat.reduceSub, Nat.reduceMul, Nat.reduceLeDiff, Int.reduceToNat, Nat.reduceEqDiff, Nat.reduceMod, ht, hl, specGw, specGz, toE_at, c1, c2]
  rw [if_neg h1] at hg
  have hv : (e.kind == 1) = true ∧ (e.id == x) = false ∨ (e.kind == 1) = false := by
    by_cases h : e.kind = 1
    · exact .inl ⟨by simp [h], by simpa using fun h2 => h1 ⟨h, h2⟩⟩
    · exact .inr (by simpa using h)
  by_cases hq : isQ e.kind = true ∧ e.id = x
  · have hv1 : (e.kind == 1) = false := by
      have := hq.1
      simp only [isQ, Bool.or_eq_true, beq_iff_eq] at this
      simp only [beq_eq_false_iff_ne]
      omega
    have c2 : (e.id == x) = true := by simp [hq.2]
    have h7 : (e.kind == 7) = true ∨ (e.kind == 7) = false ∧ (e.kind == 10) = true := by
      have := hq.1
      simp only [isQ, Bool.or_eq_true, beq_iff_eq] at this
      simp only [beq_eq_false_iff_ne, beq_iff_eq]
      omega
    rw [hg, if_pos hq]
    rcases h7 with h7 | h7
    all_goals
      simp (config := {contextual := true, maxSteps := 5000000}) only [go_sem, false_and, Nat.reduceAdd, Nat.reduceLT, Nat.reduceBEq, Nat.reduceSub, Nat.reduceMul, Nat.reduceLeDiff, Int.reduceToNat, Nat.reduceEqDiff, Nat.reduceMod, ht, hl, specGw, specGz, toE_at, hv1, c2, h7]
      exact hok
  rw [if_neg hq] at hg
  have h3 : (e.kind == 1) = false ∧ (e.kind == 7) = true ∧ (e.id == x) = false ∨ (e.kind == 1) = false ∧ (e.kind == 7) = false ∧ (e.kind == 10) = true ∧ (e.id == x) = false ∨ (e.kind == 7) = false ∧ (e.kind == 10) = false ∧ (e.kind == 1) = false ∨ (e.kind == 7) = false ∧ (e.kind == 10) = false ∧ (e.kind == 1) = true ∧ (e.id == x) = false := by
    simp only [isQ, Bool.or_eq_true, beq_iff_eq] at hq
    simp only [beq_eq_false_iff_ne, beq_iff_eq]
    omega
  rcases h3 with h3 | h3 | h3 | h3
  all_goals
    simp (config := {contextual := true, maxSteps := 5000000}) only [go_sem, false_and, Nat.reduceAdd, Nat.reduceLT, Nat.reduceBEq, Nat.reduceSub, Nat.reduceMul, Nat.reduceLeDiff, Int.reduceToNat, Nat.reduceEqDiff, Nat.reduceMod, ht, hl, specGw, specGz, toE_at, h3]
    refine loop_inv tabOk hS mixed [] (fun j x' => ∃ (i : Nat) (c : Int), x'.tmps.length = 51 ∧ x'.tmps.getD 1 AV.undef = .int .i64 x ∧ x'.tmps.getD 2 AV.undef = .int .i64 n ∧ x'.tmps.getD 7 AV.undef = .int .i64 c ∧ x'.tmps.getD 37 AV.undef = .list .none (e.kids.map E.cells) ∧ x'.tmps.getD 38 AV.undef = .int .i64 e.kids.length ∧ x'.tmps.getD 39 AV.undef = .int .i64 i ∧ H.Le x'.H ∧ i + j = e.kids.length ∧ 0 ≤ c ∧ c + E.grwL x n (e.kids.drop i) = e.grw x n) e.kids.length ⟨0, 1, ?_⟩ ?_
    · simp (config := {contextual := true, maxSteps := 5000000}) only [go_sem, false_and, Nat.reduceAdd, Nat.reduceLT, Nat.reduceBEq, Nat.reduceSub, Nat.reduceMul, Nat.reduceLeDiff, Int.reduceToNat, Nat.reduceEqDiff, Nat.reduceMod, ht, hl]
      ((repeat' apply And.intro) <;> first | rfl | exact Hp.Le.refl _ | omega | (rw [hg]; rfl))
    · rintro j ⟨t, m, H'⟩ ⟨i, c, hl, g1, g2, g7, g37, g38, g39, hH, hij, hc0, hd⟩
      simp only at hl g1 g2 g7 g37 g38 g39 hH
      by_cases hi : i < e.kids.length
      · have d : decide ((i : Int) < (e.kids.length : Int)) = true := by simp [hi]
        have hw2 : IntKind.i64.wrap ((i : Int) + 1) = ((i + 1 : Nat) : Int) := by rw [wrap_i64] <;> omega
        obtain ⟨y, hy, hye⟩ := E.kid e hi
        have hdr := grwL_drop x n hy
        have hyo := E.ok_kid hok hy
        have hys := E.kid_sz hy
        have hyg := E.grw_le (x := x) hn y
        have hrg := E.grwL_le (x := x) hn (e.kids.drop (i + 1))
        have hw3 : IntKind.i64.wrap (c + y.grw x n) = c + y.grw x n := by rw [wrap_i64] <;> omega
        simp (config := {contextual := true, maxSteps := 5000000}) only [go_sem, false_and, Nat.reduceAdd, Nat.reduceLT, Nat.reduceBEq, Nat.reduceSub, Nat.reduceMul, Nat.reduceLeDiff, Int.reduceToNat, Nat.reduceEqDiff, Nat.reduceMod, hye, specGw, specGz, toE_at, g1, g2, g7, g37, g38, g39, hl, d, hw2, hw3]
        exact ⟨⟨by omega, by omega⟩, ⟨hyo, by omega, hn, by omega⟩, j - 1, by omega, i + 1, _, rfl, rfl, Hp.le_upd hH (fN _ _ _ _), by omega, by omega, by rw [← hd, hdr]; omega⟩
      · have d : decide ((i : Int) < (e.kids.length : Int)) = false := by simp; omega
        have hno : e.grw x n = c := by rw [← hd, List.drop_of_length_le (show e.kids.length ≤ i by omega)]; simp [E.grwL]
        rw [hno]
        simp (config := {contextual := true, maxSteps := 5000000}) only [go_sem, false_and, Nat.reduceAdd, Nat.reduceLT, Nat.reduceBEq, Nat.reduceSub, Nat.reduceMul, Nat.reduceLeDiff, Int.reduceToNat, Nat.reduceEqDiff, Nat.reduceMod, g1, g2, g7, g37, g38, g39, hl, d]
        exact hH
theorem specGw_ok : ∀ N, SpecOk Tryz.prog w0 (specGw N)
  | 0 => specGz_ok.add (sp3_ok fun a b x h k H => absurd h.2.2.2 (Nat.not_lt_zero _))
  | N + 1 => specGz_ok.add (sp3_ok fun a b x h k H => grown_step N (specGw_ok N) a b x h.1 h.2.1 h.2.2.1 h.2.2.2)
theorem grown_call (e : E) (x n : Int) (hok : e.ok) (hsz : e.sz ≤ 1000) (hn : 0 ≤ n ∧ n ≤ 1001) : CallAt Tryz.prog w0 k 115 [e.av, .int .i64 x, .int .i64 n] H H (.int .i64 (e.grw x n)) := grown_step e.sz (specGw_ok _) e x n hok hsz hn (Nat.lt_succ_self _)
theorem inst_call (e : E) (hs : e.sh = true) : CallAt Tryz.prog w0 k 96 [e.av] H H (fdA (findE 4 e)) := by
  have hS := (specFd_ok (w0 := w0)).add (sp3_ok (f := 116) (A := dE) (B := dE) (C := dI) (φ := fun a b _ => a.ok ∧ b.ok) (v := fun a b x => .tup [(stW x a b).av, .bool (a.stP x b).isSome]) fun a b x h k H => standsS_call a b x h.1 h.2)
  refine callAt tabOk hS mixed Tryz.func96 rfl rfl Tryz.results96 Tryz.ntmps96 (by simp) [] ?_
  intro hfr t hl ht
  simp only [At, Nat.reduceAdd, List.cons_append, List.nil_append] at ht
  have fN : ∀ (a b : Nat) z ty, H ⟨z, a :: b :: k, ty⟩ = none := fun a b z ty => hfr _ (sfx2 _ _ _)
  cases hf : atK e [(6, 0), (7, 0)] with
  | none =>
    have hm : findE 4 e = none := by simp [findE, hf]
    rw [hm, fdA]
    simp (config := {contextual := true, maxSteps := 5000000}) only [go_sem, false_and, Nat.reduceAdd, Nat.reduceLT, Nat.reduceBEq, Nat.reduceSub, Nat.reduceMul, Nat.reduceLeDiff, Int.reduceToNat, Nat.reduceEqDiff, Nat.reduceMod, ht, hl, specFd, toE_at, resOne, List.zip_cons_cons, List.zip_nil_right, Int.reduceToNat, hf]
    (repeat' apply And.intro) <;> first | ((with_reducible (show drawOk _ = true)); kernel_rfl) | with_reducible assumption | (intro q h; simp only [or_false] at h; omega) | ((with_reducible (show goodP _)); unfold goodP; simp) | omega | ((with_reducible (show List.Pairwise _ _)); (refine pw_of ?_; (repeat' (first | exact trivial | apply And.intro)); all_goals (first | exact .inr rfl | exact .inr trivial | exact .inl (by kernel_rfl)))) | ((with_reducible (show Weak _ _)); exact fd_weak (by first | rfl | (simp only [E.cells_eq]; rfl))) | (repeat (first | exact Hp.Le.refl _ | refine Hp.le_upd ?_ (fN _ _ _ _)))
  | some b =>
    obtain ⟨k0, y0, hy0, f0⟩ := atK_step hf
    have s0 := E.sh_kid hs hy0
    have n0 := len6 hs (.inl k0)
    obtain ⟨k1, y1, hy1, f1⟩ := atK_step f0
    have n1 := len7 s0 k1
    cases f1
    obtain ⟨v0, gv0, ev0⟩ := E.kid e (i := 0) (by omega)
    cases Option.some.inj (gv0.symm.trans hy0)
    obtain ⟨v1, gv1, ev1⟩ := E.kid e (i := 1) (by omega)
    have hbo := sh_ok b (E.sh_kid s0 hy1)
    have hvo := sh_ok v1 (E.sh_kid hs gv1)
    cases hst : b.stP y0.id v1 with
    | none =>
      have hm : findE 4 e = some ([b, varE y0.id], y0.id) := by simp [findE, hf, kidE, gv0, gv1, hst]
      rw [hm, fdA]
      simp (config := {contextual := true, maxSteps := 5000000}) only [go_sem, false_and, Nat.reduceAdd, Nat.reduceLT, Nat.reduceBEq, Nat.reduceSub, Nat.reduceMul, Nat.reduceLeDiff, Int.reduceToNat, Nat.reduceEqDiff, Nat.reduceMod, ht, hl, specFd, toE_at, resOne, List.zip_cons_cons, List.zip_nil_right, Int.reduceToNat, hf, ev0, ev1, n0, n1, hst]
      (repeat' apply And.intro) <;> first | ((with_reducible (show drawOk _ = true)); kernel_rfl) | with_reducible assumption | (intro q h; simp only [or_false] at h; omega) | ((with_reducible (show goodP _)); unfold goodP; simp) | omega | ((with_reducible (show List.Pairwise _ _)); (refine pw_of ?_; (repeat' (first | exact trivial | apply And.intro)); all_goals (first | exact .inr rfl | exact .inr trivial | exact .inl (by kernel_rfl)))) | ((with_reducible (show Weak _ _)); exact fd_weak (by first | rfl | (simp only [E.cells_eq]; rfl))) | (repeat (first | exact Hp.Le.refl _ | refine Hp.le_upd ?_ (fN _ _ _ _)))
    | some w =>
      have hw := stW_some hst
      have hm : findE 4 e = some ([b, w], y0.id) := by simp [findE, hf, kidE, gv0, gv1, hst]
      rw [hm, fdA]
      simp (config := {contextual := true, maxSteps := 5000000}) only [go_sem, false_and, Nat.reduceAdd, Nat.reduceLT, Nat.reduceBEq, Nat.reduceSub, Nat.reduceMul, Nat.reduceLeDiff, Int.reduceToNat, Nat.reduceEqDiff, Nat.reduceMod, ht, hl, specFd, toE_at, resOne, List.zip_cons_cons, List.zip_nil_right, Int.reduceToNat, hf, ev0, ev1, n0, n1, hst, hw]
      (repeat' apply And.intro) <;> first | ((with_reducible (show drawOk _ = true)); kernel_rfl) | with_reducible assumption | (intro q h; simp only [or_false] at h; omega) | ((with_reducible (show goodP _)); unfold goodP; simp) | omega | ((with_reducible (show List.Pairwise _ _)); (refine pw_of ?_; (repeat' (first | exact trivial | apply And.intro)); all_goals (first | exact .inr rfl | exact .inr trivial | exact .inl (by kernel_rfl)))) | ((with_reducible (show Weak _ _)); exact fd_weak (by first | rfl | (simp only [E.cells_eq]; rfl))) | (repeat (first | exact Hp.Le.refl _ | refine Hp.le_upd ?_ (fN _ _ _ _)))
def specIi : Spec := ((((Spec.no.add 87 (sp2 dE dE (fun _ _ => True) fun a b => (im a b).av)).add 99 (sp2 dI dE (fun _ _ => True) fun n a => (al n a).av)).add 114 (sp3 dE dI dE (fun a _ u => a.ok ∧ u.ok) fun a x u => .tup [(putR a x u).1.av, .int .i64 (putR a x u).2])).add 37 (sp1 dE (fun e => e.ok) fun e => .int .i64 (min (e.sz : Int) 1001))).add 115 (sp3 dE dI dI (fun e _ n => e.ok ∧ e.sz ≤ 1000 ∧ (0 ≤ n ∧ n ≤ 1001)) fun e x n => .int .i64 (e.grw x n))
theorem specIi_ok : SpecOk Tryz.prog w0 specIi := ((((Spec.no_ok.add (sp2_ok fun a b _ k H => impS_call a b)).add (sp2_ok fun n a _ k H => allS_call n a)).add (sp3_ok fun a x u h k H => putS_call a x u h.1 h.2)).add (sp1_ok fun e h k H => sizeX_call e h)).add (sp3_ok fun e x n h k H => grown_call e x n h.1 h.2.1 h.2.2)
/-- The code of an instance that has no place: the program's. -/
def insC (a : E) (x : Int) (u : E) : Int := if (putR a x u).2 = 21 ∧ 1000 < 2 + min (a.sz : Int) 1001 + a.grw x (min (u.sz : Int) 1001) then 20 else (putR a x u).2
def insE (a : E) (x : Int) (u : E) : E × Bool := if (putR a x u).2 = 50 then (noE, false) else if insC a x u ≠ 0 then (.mk (-insC a x u) 0 [], true) else (im (al x a) (putR a x u).1, true)
theorem neg_weak {n m : Int} (h : n = m) : Weak (.tup [.agg [.int .i64 n, .int .i64 0, .list .nil []], .bool true]) (.tup [(E.mk m 0 []).av, .bool true]) := by
  subst h
  exact tup2_weak (WeakL.agg ⟨_, _, rfl, Weak.refl _, _, _, rfl, Weak.refl _, _, _, rfl, nil_weak, rfl⟩)
theorem right_rng (e : E) : 0 ≤ e.right ∧ e.right ≤ 22 := by
  unfold E.right
  (repeat' split) <;> omega
theorem putR_rng (a : E) (x : Int) (u : E) : 0 ≤ (putR a x u).2 ∧ (putR a x u).2 ≤ 50 := by
  have h1 := right_rng a
  have h2 := right_rng u
  have h3 := right_rng (a.put x u)
  unfold putR askedE putE bndE rgt
  (repeat' split) <;> simp only <;> omega
theorem instance_call (a u : E) (x : Int) (ha : a.right = 0) (hu : u.right = 0) : CallAt Tryz.prog w0 k 95 [.list .none ([a, u].map E.cells), .int .i64 x] H H (.tup [(insE a x u).1.av, .bool (insE a x u).2]) := by
  refine callAt tabOk specIi_ok mixed Tryz.func95 rfl rfl Tryz.results95 Tryz.ntmps95 (by simp) [] ?_
  intro hfr t hl ht
  simp only [At, Nat.reduceAdd, List.cons_append, List.nil_append] at ht
  have fN : ∀ (a b : Nat) z ty, H ⟨z, a :: b :: k, ty⟩ = none := fun a b z ty => hfr _ (sfx2 _ _ _)
  have hao := sh_ok a (right_sh' ha)
  have huo := sh_ok u (right_sh' hu)
  have hasz := (right_eq.1 ha).1
  have hgl := E.grw_le (x := x) (n := min (u.sz : Int) 1001) (by omega) a
  have w1 : IntKind.i64.wrap (2 + min (a.sz : Int) 1001) = 2 + min (a.sz : Int) 1001 := by rw [wrap_i64] <;> omega
  have w2 : IntKind.i64.wrap (2 + min (a.sz : Int) 1001 + a.grw x (min (u.sz : Int) 1001)) = 2 + min (a.sz : Int) 1001 + a.grw x (min (u.sz : Int) 1001) := by rw [wrap_i64] <;> omega
  simp only [List.map_cons, List.map_nil, E.cells_eq] at ht
  by_cases h50 : (putR a x u).2 = 50
  · have hi : insE a x u = (noE, false) := by rw [insE, if_pos h50]
    rw [hi]
    simp (config := {contextual := true, maxSteps := 5000000}) only [go_sem, false_and, Nat.reduceAdd, Nat.reduceLT, Nat.reduceBEq, Nat.reduceSub, Nat.reduceMul, Nat.reduceLeDiff, Int.reduceToNat, Nat.reduceEqDiff, Nat.reduceMod, ht, hl, specIi, toE_at, resOne, h50, Int.reduceBEq]
    (repeat' apply And.intro) <;> first | ((with_reducible (show drawOk _ = true)); kernel_rfl) | with_reducible assumption | omega | exact List.Pairwise.nil | ((with_reducible (show List.Pairwise _ _)); (refine pw_of ?_; (repeat' (first | exact trivial | apply And.intro)); all_goals (first | exact .inr rfl | exact .inr trivial | exact .inl (by kernel_rfl)))) | ((with_reducible (show Weak _ _)); first | exact tup2_weak noEw_weak | exact neg_weak rfl | exact neg_weak (by decide)) | (repeat (first | exact Hp.Le.refl _ | refine Hp.le_upd ?_ (fN _ _ _ _)))
  have c50 : ((putR a x u).2 == 50) = false := by simpa using h50
  by_cases h21 : (putR a x u).2 = 21
  · by_cases hg : 1000 < 2 + min (a.sz : Int) 1001 + a.grw x (min (u.sz : Int) 1001)
    · have hc : insC a x u = 20 := by rw [insC, if_pos ⟨h21, hg⟩]
      have hi : insE a x u = (.mk (-20) 0 [], true) := by rw [insE, if_neg h50, hc, if_pos (by decide)]
      have dg : decide (1000 < 2 + min (a.sz : Int) 1001 + a.grw x (min (u.sz : Int) 1001)) = true := decide_eq_true hg
      rw [hi]
      simp (config := {contextual := true, maxSteps := 5000000}) only [go_sem, false_and, Nat.reduceAdd, Nat.reduceLT, Nat.reduceBEq, Nat.reduceSub, Nat.reduceMul, Nat.reduceLeDiff, Int.reduceToNat, Nat.reduceEqDiff, Nat.reduceMod, ht, hl, specIi, toE_at, resOne, h21, Int.reduceBEq, Int.reduceBNe, w1, w2, dg]
      (repeat' apply And.intro) <;> first | ((with_reducible (show drawOk _ = true)); kernel_rfl) | with_reducible assumption | omega | exact List.Pairwise.nil | ((with_reducible (show List.Pairwise _ _)); (refine pw_of ?_; (repeat' (first | exact trivial | apply And.intro)); all_goals (first | exact .inr rfl | exact .inr trivial | exact .inl (by kernel_rfl)))) | ((with_reducible (show Weak _ _)); first | exact tup2_weak noEw_weak | exact neg_weak rfl | exact neg_weak (by decide)) | (repeat (first | exact Hp.Le.refl _ | refine Hp.le_upd ?_ (fN _ _ _ _)))
    · have hc : insC a x u = 21 := by rw [insC, if_neg (fun h => hg h.2), h21]
      have hi : insE a x u = (.mk (-21) 0 [], true) := by rw [insE, if_neg h50, hc, if_pos (by decide)]
      have dg : decide (1000 < 2 + min (a.sz : Int) 1001 + a.grw x (min (u.sz : Int) 1001)) = false := decide_eq_false hg
      rw [hi]
      simp (config := {contextual := true, maxSteps := 5000000}) only [go_sem, false_and, Nat.reduceAdd, Nat.reduceLT, Nat.reduceBEq, Nat.reduceSub, Nat.reduceMul, Nat.reduceLeDiff, Int.reduceToNat, Nat.reduceEqDiff, Nat.reduceMod, ht, hl, specIi, toE_at, resOne, h21, Int.reduceBEq, Int.reduceBNe, w1, w2, dg]
      (repeat' apply And.intro) <;> first | ((with_reducible (show drawOk _ = true)); kernel_rfl) | with_reducible assumption | omega | exact List.Pairwise.nil | ((with_reducible (show List.Pairwise _ _)); (refine pw_of ?_; (repeat' (first | exact trivial | apply And.intro)); all_goals (first | exact .inr rfl | exact .inr trivial | exact .inl (by kernel_rfl)))) | ((with_reducible (show Weak _ _)); first | exact tup2_weak noEw_weak | exact neg_weak rfl | exact neg_weak (by decide)) | (repeat (first | exact Hp.Le.refl _ | refine Hp.le_upd ?_ (fN _ _ _ _)))
  have c21 : ((putR a x u).2 == 21) = false := by simpa using h21
  have hc : insC a x u = (putR a x u).2 := by rw [insC, if_neg (fun h => h21 h.1)]
  by_cases h0 : (putR a x u).2 = 0
  · have hi : insE a x u = (im (al x a) (putR a x u).1, true) := by rw [insE, if_neg h50, hc, if_neg (fun h => h h0)]
    rw [hi]
    simp (config := {contextual := true, maxSteps := 5000000}) only [go_sem, false_and, Nat.reduceAdd, Nat.reduceLT, Nat.reduceBEq, Nat.reduceSub, Nat.reduceMul, Nat.reduceLeDiff, Int.reduceToNat, Nat.reduceEqDiff, Nat.reduceMod, ht, hl, specIi, toE_at, resOne, h0, Int.reduceBEq, Int.reduceBNe]
    (repeat' apply And.intro) <;> first | ((with_reducible (show drawOk _ = true)); kernel_rfl) | with_reducible assumption | omega | exact List.Pairwise.nil | ((with_reducible (show List.Pairwise _ _)); (refine pw_of ?_; (repeat' (first | exact trivial | apply And.intro)); all_goals (first | exact .inr rfl | exact .inr trivial | exact .inl (by kernel_rfl)))) | ((with_reducible (show Weak _ _)); first | exact tup2_weak noEw_weak | exact neg_weak rfl | exact neg_weak (by decide)) | (repeat (first | exact Hp.Le.refl _ | refine Hp.le_upd ?_ (fN _ _ _ _)))
  · have c0 : ((putR a x u).2 != 0) = true := by simpa using h0
    have hi : insE a x u = (.mk (-(putR a x u).2) 0 [], true) := by rw [insE, if_neg h50, hc, if_pos h0]
    have w3 : IntKind.i64.wrap (0 - (putR a x u).2) = -(putR a x u).2 := by have := putR_rng a x u; rw [wrap_i64] <;> omega
    rw [hi]
    simp (config := {contextual := true, maxSteps := 5000000}) only [go_sem, false_and, Nat.reduceAdd, Nat.reduceLT, Nat.reduceBEq, Nat.reduceSub, Nat.reduceMul, Nat.reduceLeDiff, Int.reduceToNat, Nat.reduceEqDiff, Nat.reduceMod, ht, hl, specIi, toE_at, resOne, c50, c21, c0, w3]
    (repeat' apply And.intro) <;> first | ((with_reducible (show drawOk _ = true)); kernel_rfl) | with_reducible assumption | omega | exact List.Pairwise.nil | ((with_reducible (show List.Pairwise _ _)); (refine pw_of ?_; (repeat' (first | exact trivial | apply And.intro)); all_goals (first | exact .inr rfl | exact .inr trivial | exact .inl (by kernel_rfl)))) | ((with_reducible (show Weak _ _)); first | exact tup2_weak noEw_weak | exact neg_weak rfl | exact neg_weak (by decide)) | (repeat (first | exact Hp.Le.refl _ | refine Hp.le_upd ?_ (fN _ _ _ _)))
end Go.Proofs.YtkdendaohlnlcaaGreat.Av

/- The program's schemas: the rows, picked. No condition. -/
namespace Go.Proofs.YtkdendaohlnlcaaGreat.Av
set_option linter.unusedVariables false
set_option linter.unusedSimpArgs false
set_option maxRecDepth 4000
set_option maxHeartbeats 1000000
variable {w0 : Base} {k : List Nat} {H : Hp}
def fnA (f : FuncId) : AV := .clo (.func f) [] []
def rowC (n : Int) (b : Bool) (f g : FuncId) : List AV := [.int .i64 n, .str (sortB (sortsE n)), .bool b, fnA f, fnA g]
def rowsL : List (List AV) := [rowC 1 false 86 88, rowC 2 false 90 91, rowC 3 false 92 94, rowC 4 true 95 96, rowC 5 true 97 100, rowC 6 false 101 103, rowC 7 false 104 106]
theorem rows_call : CallAt Tryz.prog w0 k 72 [] H H (.list .none rowsL) := by
  refine callAt tabOk Spec.no_ok mixed Tryz.func72 rfl rfl Tryz.results72 Tryz.ntmps72 (by simp) [] ?_
  intro hfr t hl ht
  simp only [At, Nat.reduceAdd, List.cons_append, List.nil_append] at ht
  have fN : ∀ (a b : Nat) z ty, H ⟨z, a :: b :: k, ty⟩ = none := fun a b z ty => hfr _ (sfx2 _ _ _)
  simp (config := {contextual := true, maxSteps := 5000000}) only [go_sem, false_and, Nat.reduceAdd, Nat.reduceLT, Nat.reduceBEq, Nat.reduceSub, Nat.reduceMul, Nat.reduceLeDiff, Int.reduceToNat, Nat.reduceEqDiff, Nat.reduceMod, ht, hl]
  exact list_weak
theorem sch1_call (n i : Int) (s : ByteArray) (b : Bool) (f g : FuncId) : CallAt Tryz.prog w0 k 73 [.agg [.int .i64 i, .str s, .bool b, fnA f, fnA g], .sptr [.int .i64 n]] H H (.bool (i == n)) := by
  refine callAt tabOk Spec.no_ok mixed Tryz.func73 rfl rfl Tryz.results73 Tryz.ntmps73 (by simp) [] ?_
  intro hfr t hl ht
  simp only [At, Nat.reduceAdd, List.cons_append, List.nil_append] at ht
  have fN : ∀ (a b : Nat) z ty, H ⟨z, a :: b :: k, ty⟩ = none := fun a b z ty => hfr _ (sfx2 _ _ _)
  simp (config := {contextual := true, maxSteps := 5000000}) only [go_sem, false_and, Nat.reduceAdd, Nat.reduceLT, Nat.reduceBEq, Nat.reduceSub, Nat.reduceMul, Nat.reduceLeDiff, Int.reduceToNat, Nat.reduceEqDiff, Nat.reduceMod, ht, hl, fnA]
end Go.Proofs.YtkdendaohlnlcaaGreat.Av

/- The program's schemas: a row picked. No condition. -/
namespace Go.Proofs.YtkdendaohlnlcaaGreat.Av
set_option linter.unusedVariables false
set_option linter.unusedSimpArgs false
set_option maxRecDepth 4000
set_option maxHeartbeats 1000000
variable {w0 : Base} {k : List Nat} {H : Hp}
theorem row_at {i : Nat} (h : i < 7) : ∃ b f g, rowsL.getD i [] = [.int .i64 (i + 1), .str (sortB (sortsE (i + 1))), .bool b, fnA f, fnA g] := by
  have hc : i = 0 ∨ i = 1 ∨ i = 2 ∨ i = 3 ∨ i = 4 ∨ i = 5 ∨ i = 6 := by omega
  rcases hc with rfl | rfl | rfl | rfl | rfl | rfl | rfl <;> exact ⟨_, _, _, rfl⟩
def pkA (n : Int) : AV := if 1 ≤ n ∧ n ≤ 7 then .tup [.agg (rowsL.getD (n.toNat - 1) []), .bool true] else .tup [.agg [.int .i64 0, .str ⟨#[]⟩, .bool false, .raw .nilFunc, .raw .nilFunc], .bool false]
theorem pickRow_call (n : Int) : CallAt Tryz.prog w0 k 71 [.list .none rowsL, .clo (.func 73) [] [.sptr [.int .i64 n]]] H H (pkA n) := by
  refine callAt tabOk Spec.no_ok mixed Tryz.func71 rfl rfl Tryz.results71 Tryz.ntmps71 (by simp) [] ?_
  intro hfr t hl ht
  simp only [At, Nat.reduceAdd, List.cons_append, List.nil_append] at ht
  have fN : ∀ (a b : Nat) z ty, H ⟨z, a :: b :: k, ty⟩ = none := fun a b z ty => hfr _ (sfx2 _ _ _)
  have hr7 : rowsL.length = 7 := rfl
  simp (config := {contextual := true, maxSteps := 5000000}) only [go_sem, false_and, Nat.reduceAdd, Nat.reduceLT, Nat.reduceBEq, Nat.reduceSub, Nat.reduceMul, Nat.reduceLeDiff, Int.reduceToNat, Nat.reduceEqDiff, Nat.reduceMod, ht, hl, hr7]
  refine loop_inv tabOk Spec.no_ok mixed [] (fun j x' => ∃ i : Nat, x'.tmps.length = 21 ∧ x'.tmps.getD 1 AV.undef = .clo (.func 73) [] [.sptr [.int .i64 n]] ∧ x'.tmps.getD 4 AV.undef = .ptr ⟨5, 0 :: 0 :: k, 88⟩ 0 ∧ x'.tmps.getD 9 AV.undef = .list .none rowsL ∧ x'.tmps.getD 10 AV.undef = .int .i64 7 ∧ x'.tmps.getD 11 AV.undef = .int .i64 i ∧ H.Le x'.H ∧ i + j = 7 ∧ ¬ (1 ≤ n ∧ n ≤ i)) 7 ⟨0, ?_⟩ ?_
  · simp (config := {contextual := true, maxSteps := 5000000}) only [go_sem, false_and, Nat.reduceAdd, Nat.reduceLT, Nat.reduceBEq, Nat.reduceSub, Nat.reduceMul, Nat.reduceLeDiff, Int.reduceToNat, Nat.reduceEqDiff, Nat.reduceMod, ht, hl]
    ((repeat' apply And.intro) <;> first | rfl | omega | exact (by (repeat (first | exact Hp.Le.refl _ | refine Hp.le_upd ?_ (fN _ _ _ _)))))
  · rintro j ⟨t, m, H'⟩ ⟨i, hl, g1, g4, g9, g10, g11, hH, hij, hno⟩
    simp only at hl g1 g4 g9 g10 g11 hH
    by_cases hi : i < 7
    · have d : decide ((i : Int) < 7) = true := by simp; omega
      have hw2 : IntKind.i64.wrap ((i : Int) + 1) = ((i + 1 : Nat) : Int) := by rw [wrap_i64] <;> omega
      obtain ⟨b, f, g, hr⟩ := row_at hi
      unfold fnA at hr
      simp (config := {contextual := true, maxSteps := 5000000}) only [go_sem, false_and, Nat.reduceAdd, Nat.reduceLT, Nat.reduceBEq, Nat.reduceSub, Nat.reduceMul, Nat.reduceLeDiff, Int.reduceToNat, Nat.reduceEqDiff, Nat.reduceMod, g1, g4, g9, g10, g11, hl, d, hw2, hr, hr7]
      refine ⟨⟨by omega, by omega⟩, callK_intro (sch1_call n (i + 1) _ b f g) ?_⟩
      by_cases hn : (i : Int) + 1 = n
      · have c : ((i : Int) + 1 == n) = true := by simpa using hn
        have hp : pkA n = .tup [.agg [.int .i64 (i + 1), .str (sortB (sortsE (i + 1))), .bool b, .clo (.func f) [] [], .clo (.func g) [] []], .bool true] := by
          have e : n.toNat - 1 = i := by omega
          rw [pkA, if_pos (by omega), e, hr]
        rw [hp]
        simp (config := {contextual := true, maxSteps := 5000000}) only [go_sem, false_and, Nat.reduceAdd, Nat.reduceLT, Nat.reduceBEq, Nat.reduceSub, Nat.reduceMul, Nat.reduceLeDiff, Int.reduceToNat, Nat.reduceEqDiff, Nat.reduceMod, g1, g4, g9, g10, g11, hl, d, hw2, hr, hr7, c]
        exact Hp.le_upd (Hp.le_upd hH (fN _ _ _ _)) (fN _ _ _ _)
      · have c : ((i : Int) + 1 == n) = false := by simpa using hn
        simp (config := {contextual := true, maxSteps := 5000000}) only [go_sem, false_and, Nat.reduceAdd, Nat.reduceLT, Nat.reduceBEq, Nat.reduceSub, Nat.reduceMul, Nat.reduceLeDiff, Int.reduceToNat, Nat.reduceEqDiff, Nat.reduceMod, g1, g4, g9, g10, g11, hl, d, hw2, hr, hr7, c]
        exact ⟨j - 1, by omega, i + 1, rfl, Hp.le_upd hH (fN _ _ _ _), by omega, by omega⟩
    · have d : decide ((i : Int) < 7) = false := by simp; omega
      have hp : pkA n = .tup [.agg [.int .i64 0, .str ⟨#[]⟩, .bool false, .raw .nilFunc, .raw .nilFunc], .bool false] := by rw [pkA, if_neg (by omega)]
      rw [hp]
      simp (config := {contextual := true, maxSteps := 5000000}) only [go_sem, false_and, Nat.reduceAdd, Nat.reduceLT, Nat.reduceBEq, Nat.reduceSub, Nat.reduceMul, Nat.reduceLeDiff, Int.reduceToNat, Nat.reduceEqDiff, Nat.reduceMod, g1, g4, g9, g10, g11, hl, d]
      exact Hp.le_upd (Hp.le_upd hH (fN _ _ _ _)) (fN _ _ _ _)
theorem schema_call (n : Int) : CallAt Tryz.prog w0 k 63 [.int .i64 n] H H (pkA n) := by
  refine callAt tabOk Spec.no_ok mixed Tryz.func63 rfl rfl Tryz.results63 Tryz.ntmps63 (by simp) [] ?_
  intro hfr t hl ht
  simp only [At, Nat.reduceAdd, List.cons_append, List.nil_append] at ht
  have fN : ∀ (a b : Nat) z ty, H ⟨z, a :: b :: k, ty⟩ = none := fun a b z ty => hfr _ (sfx2 _ _ _)
  simp (config := {contextual := true, maxSteps := 5000000}) only [go_sem, false_and, Nat.reduceAdd, Nat.reduceLT, Nat.reduceBEq, Nat.reduceSub, Nat.reduceMul, Nat.reduceLeDiff, Int.reduceToNat, Nat.reduceEqDiff, Nat.reduceMod, ht, hl]
  refine callK_intro rows_call ?_
  simp (config := {contextual := true, maxSteps := 5000000}) only [go_sem, false_and, Nat.reduceAdd, Nat.reduceLT, Nat.reduceBEq, Nat.reduceSub, Nat.reduceMul, Nat.reduceLeDiff, Int.reduceToNat, Nat.reduceEqDiff, Nat.reduceMod, ht, hl]
  refine callK_intro (pickRow_call n) ?_
  unfold pkA
  by_cases h : 1 ≤ n ∧ n ≤ 7
  · obtain ⟨b, f, g, hr⟩ := row_at (i := n.toNat - 1) (by omega)
    unfold fnA at hr
    rw [if_pos h, hr]
    simp (config := {contextual := true, maxSteps := 5000000}) only [go_sem, false_and, Nat.reduceAdd, Nat.reduceLT, Nat.reduceBEq, Nat.reduceSub, Nat.reduceMul, Nat.reduceLeDiff, Int.reduceToNat, Nat.reduceEqDiff, Nat.reduceMod, ht, hl]
    exact (by (repeat (first | exact Hp.Le.refl _ | refine Hp.le_upd ?_ (fN _ _ _ _))))
  · rw [if_neg h]
    simp (config := {contextual := true, maxSteps := 5000000}) only [go_sem, false_and, Nat.reduceAdd, Nat.reduceLT, Nat.reduceBEq, Nat.reduceSub, Nat.reduceMul, Nat.reduceLeDiff, Int.reduceToNat, Nat.reduceEqDiff, Nat.reduceMod, ht, hl]
    exact (by (repeat (first | exact Hp.Le.refl _ | refine Hp.le_upd ?_ (fN _ _ _ _))))
def specSr : Spec := Spec.no.add 21 (sp1 dE (fun e => e.ok) fun e => .int .i64 e.right)
theorem specSr_ok : SpecOk Tryz.prog w0 specSr := Spec.no_ok.add (sp1_ok fun e h k H => rightX_call e h)
theorem sort1_call (e : E) (hok : e.ok) : CallAt Tryz.prog w0 k 75 [e.av] H H (.bool (e.right != 0)) := by
  refine callAt tabOk specSr_ok mixed Tryz.func75 rfl rfl Tryz.results75 Tryz.ntmps75 (by simp) [] ?_
  intro hfr t hl ht
  simp only [At, Nat.reduceAdd, List.cons_append, List.nil_append] at ht
  have fN : ∀ (a b : Nat) z ty, H ⟨z, a :: b :: k, ty⟩ = none := fun a b z ty => hfr _ (sfx2 _ _ _)
  simp (config := {contextual := true, maxSteps := 5000000}) only [go_sem, false_and, Nat.reduceAdd, Nat.reduceLT, Nat.reduceBEq, Nat.reduceSub, Nat.reduceMul, Nat.reduceLeDiff, Int.reduceToNat, Nat.reduceEqDiff, Nat.reduceMod, ht, hl, specSr, toE_at]
  exact hok
/-- The first that is not right. -/
def badE : List E → Option E
  | [] => none
  | e :: es => if e.right = 0 then badE es else some e
theorem badE_drop {l : List E} {i : Nat} {x : E} (hx : l[i]? = some x) : badE (l.drop i) = if x.right = 0 then badE (l.drop (i + 1)) else some x := by
  obtain ⟨h, rfl⟩ := List.getElem?_eq_some_iff.1 hx
  rw [List.drop_eq_getElem_cons h, badE]
theorem pickE_call (l : List E) (hlen : (l.length : Int) ≤ 9223372036854775807) (hok : ∀ e ∈ l, e.ok) : CallAt Tryz.prog w0 k 74 [.list .none (l.map E.cells), .clo (.func 75) [] []] H H (.tup [((badE l).getD noE).av, .bool (badE l).isSome]) := by
  refine callAt tabOk Spec.no_ok mixed Tryz.func74 rfl rfl Tryz.results74 Tryz.ntmps74 (by simp) [] ?_
  intro hfr t hl ht
  simp only [At, Nat.reduceAdd, List.cons_append, List.nil_append] at ht
  have fN : ∀ (a b : Nat) z ty, H ⟨z, a :: b :: k, ty⟩ = none := fun a b z ty => hfr _ (sfx2 _ _ _)
  simp (config := {contextual := true, maxSteps := 5000000}) only [go_sem, false_and, Nat.reduceAdd, Nat.reduceLT, Nat.reduceBEq, Nat.reduceSub, Nat.reduceMul, Nat.reduceLeDiff, Int.reduceToNat, Nat.reduceEqDiff, Nat.reduceMod, ht, hl]
  refine loop_inv tabOk Spec.no_ok mixed [] (fun j x' => ∃ i : Nat, x'.tmps.length = 21 ∧ x'.tmps.getD 1 AV.undef = .clo (.func 75) [] [] ∧ x'.tmps.getD 4 AV.undef = .ptr ⟨3, 0 :: 0 :: k, 33⟩ 0 ∧ x'.tmps.getD 9 AV.undef = .list .none (l.map E.cells) ∧ x'.tmps.getD 10 AV.undef = .int .i64 l.length ∧ x'.tmps.getD 11 AV.undef = .int .i64 i ∧ H.Le x'.H ∧ i + j = l.length ∧ badE l = badE (l.drop i)) l.length ⟨0, ?_⟩ ?_
  · simp (config := {contextual := true, maxSteps := 5000000}) only [go_sem, false_and, Nat.reduceAdd, Nat.reduceLT, Nat.reduceBEq, Nat.reduceSub, Nat.reduceMul, Nat.reduceLeDiff, Int.reduceToNat, Nat.reduceEqDiff, Nat.reduceMod, ht, hl]
    ((repeat' apply And.intro) <;> first | rfl | omega | exact (by (repeat (first | exact Hp.Le.refl _ | refine Hp.le_upd ?_ (fN _ _ _ _)))))
  · rintro j ⟨t, m, H'⟩ ⟨i, hl, g1, g4, g9, g10, g11, hH, hij, hb⟩
    simp only at hl g1 g4 g9 g10 g11 hH
    by_cases hi : i < l.length
    · have d : decide ((i : Int) < (l.length : Int)) = true := by simp; omega
      have hw2 : IntKind.i64.wrap ((i : Int) + 1) = ((i + 1 : Nat) : Int) := by rw [wrap_i64] <;> omega
      obtain ⟨x, hx, hxe⟩ := E.at_ l hi
      have hxo := hok x (List.mem_of_getElem? hx)
      have hdr := badE_drop hx
      simp (config := {contextual := true, maxSteps := 5000000}) only [go_sem, false_and, Nat.reduceAdd, Nat.reduceLT, Nat.reduceBEq, Nat.reduceSub, Nat.reduceMul, Nat.reduceLeDiff, Int.reduceToNat, Nat.reduceEqDiff, Nat.reduceMod, g1, g4, g9, g10, g11, hl, d, hw2, hxe]
      refine ⟨⟨by omega, by omega⟩, callK_intro (sort1_call x hxo) ?_⟩
      by_cases h0 : x.right = 0
      · have c : (x.right != 0) = false := by simpa using h0
        rw [if_pos h0] at hdr
        simp (config := {contextual := true, maxSteps := 5000000}) only [go_sem, false_and, Nat.reduceAdd, Nat.reduceLT, Nat.reduceBEq, Nat.reduceSub, Nat.reduceMul, Nat.reduceLeDiff, Int.reduceToNat, Nat.reduceEqDiff, Nat.reduceMod, g1, g4, g9, g10, g11, hl, d, hw2, hxe, c]
        exact ⟨j - 1, by omega, i + 1, rfl, Hp.le_upd hH (fN _ _ _ _), by omega, by rw [hb, hdr]⟩
      · have c : (x.right != 0) = true := by simpa using h0
        rw [if_neg h0] at hdr
        rw [hb, hdr]
        simp (config := {contextual := true, maxSteps := 5000000}) only [go_sem, false_and, Nat.reduceAdd, Nat.reduceLT, Nat.reduceBEq, Nat.reduceSub, Nat.reduceMul, Nat.reduceLeDiff, Int.reduceToNat, Nat.reduceEqDiff, Nat.reduceMod, g1, g4, g9, g10, g11, hl, d, hw2, hxe, c]
        exact Hp.le_upd (Hp.le_upd hH (fN _ _ _ _)) (fN _ _ _ _)
    · have d : decide ((i : Int) < (l.length : Int)) = false := by simp; omega
      rw [hb, List.drop_of_length_le (by omega), badE]
      simp (config := {contextual := true, maxSteps := 5000000}) only [go_sem, false_and, Nat.reduceAdd, Nat.reduceLT, Nat.reduceBEq, Nat.reduceSub, Nat.reduceMul, Nat.reduceLeDiff, Int.reduceToNat, Nat.reduceEqDiff, Nat.reduceMod, g1, g4, g9, g10, g11, hl, d]
      exact ⟨tup2_weak noEw_weak, Hp.le_upd (Hp.le_upd hH (fN _ _ _ _)) (fN _ _ _ _)⟩
theorem badE_first : ∀ l : List E, firstBad l = ((badE l).map E.right).getD 0
  | [] => rfl
  | e :: es => by
    rw [firstBad, badE]
    split
    · exact badE_first es
    · rfl
theorem badE_none {l : List E} (h : badE l = none) : ∀ e ∈ l, e.right = 0 := firstBad_zero.1 (by rw [badE_first, h]; rfl)
theorem badE_mem : ∀ {l : List E} {e : E}, badE l = some e → e ∈ l ∧ e.right ≠ 0
  | [], _, h => by simp [badE] at h
  | x :: xs, e, h => by
    rw [badE] at h
    split at h
    · obtain ⟨h1, h2⟩ := badE_mem h
      exact ⟨List.mem_cons_of_mem _ h1, h2⟩
    · cases h
      rename_i h0
      exact ⟨List.mem_cons_self, h0⟩
def specSs : Spec := (Spec.no.add 21 (sp1 dE (fun e => e.ok) fun e => .int .i64 e.right)).add 22 (sp1 dE (fun e => e.ok) fun e => .bool (e.right == 0 && e.term))
theorem specSs_ok : SpecOk Tryz.prog w0 specSs := (Spec.no_ok.add (sp1_ok fun e h k H => rightX_call e h)).add (sp1_ok fun e h k H => isTermX_call e h)
theorem sortedS_call (l : List E) (bs : List Bool) (hlen : l.length = bs.length) (hlb : bs.length ≤ 4) (hok : ∀ e ∈ l, e.ok) : CallAt Tryz.prog w0 k 64 [.list .none (l.map E.cells), .str (sortB bs)] H H (.int .i64 (sortedC l bs)) := by
  refine callAt tabOk specSs_ok mixed Tryz.func64 rfl rfl Tryz.results64 Tryz.ntmps64 (by simp) [] ?_
  intro hfr t hl ht
  simp only [At, Nat.reduceAdd, List.cons_append, List.nil_append] at ht
  have fN : ∀ (a b : Nat) z ty, H ⟨z, a :: b :: k, ty⟩ = none := fun a b z ty => hfr _ (sfx2 _ _ _)
  have hbf := badE_first l
  unfold sortedC
  simp (config := {contextual := true, maxSteps := 5000000}) only [go_sem, false_and, Nat.reduceAdd, Nat.reduceLT, Nat.reduceBEq, Nat.reduceSub, Nat.reduceMul, Nat.reduceLeDiff, Int.reduceToNat, Nat.reduceEqDiff, Nat.reduceMod, ht, hl, specSs]
  refine callK_intro (pickE_call l (by omega) hok) ?_
  cases hb : badE l with
  | some e =>
    rw [hb] at hbf
    have hm := badE_mem hb
    have hbf : firstBad l = e.right := hbf
    rw [hbf, if_neg hm.2]
    have heo := hok e hm.1
    simp (config := {contextual := true, maxSteps := 5000000}) only [go_sem, false_and, Nat.reduceAdd, Nat.reduceLT, Nat.reduceBEq, Nat.reduceSub, Nat.reduceMul, Nat.reduceLeDiff, Int.reduceToNat, Nat.reduceEqDiff, Nat.reduceMod, ht, hl, specSs, toE_at, hb]
    exact ⟨heo, (by (repeat (first | exact Hp.Le.refl _ | refine Hp.le_upd ?_ (fN _ _ _ _))))⟩
  | none =>
    have hr := badE_none hb
    rw [hb] at hbf
    have hbf : firstBad l = 0 := hbf
    rw [hbf, if_pos rfl]
    simp (config := {contextual := true, maxSteps := 5000000}) only [go_sem, false_and, Nat.reduceAdd, Nat.reduceLT, Nat.reduceBEq, Nat.reduceSub, Nat.reduceMul, Nat.reduceLeDiff, Int.reduceToNat, Nat.reduceEqDiff, Nat.reduceMod, ht, hl, specSs, toE_at, hb]
    refine loop_inv tabOk specSs_ok mixed [] (fun j x' => ∃ i : Nat, x'.tmps.length = 32 ∧ x'.tmps.getD 1 AV.undef = .str (sortB bs) ∧ x'.tmps.getD 17 AV.undef = .list .none (l.map E.cells) ∧ x'.tmps.getD 18 AV.undef = .int .i64 l.length ∧ x'.tmps.getD 19 AV.undef = .int .i64 i ∧ H.Le x'.H ∧ i + j = l.length ∧ termsB l bs = termsB (l.drop i) (bs.drop i)) l.length ⟨0, ?_⟩ ?_
    · simp (config := {contextual := true, maxSteps := 5000000}) only [go_sem, false_and, Nat.reduceAdd, Nat.reduceLT, Nat.reduceBEq, Nat.reduceSub, Nat.reduceMul, Nat.reduceLeDiff, Int.reduceToNat, Nat.reduceEqDiff, Nat.reduceMod, ht, hl]
      ((repeat' apply And.intro) <;> first | rfl | omega | exact (by (repeat (first | exact Hp.Le.refl _ | refine Hp.le_upd ?_ (fN _ _ _ _)))))
    · rintro j ⟨t, m, H'⟩ ⟨i, hl, g1, g17, g18, g19, hH, hij, ht2⟩
      simp only at hl g1 g17 g18 g19 hH
      by_cases hi : i < l.length
      · have d : decide ((i : Int) < (l.length : Int)) = true := by simp; omega
        have hw2 : IntKind.i64.wrap ((i : Int) + 1) = ((i + 1 : Nat) : Int) := by rw [wrap_i64] <;> omega
        obtain ⟨x, hx, hxe⟩ := E.at_ l hi
        have hxo := hok x (List.mem_of_getElem? hx)
        have hx0 := hr x (List.mem_of_getElem? hx)
        have hib : i < bs.length := by omega
        have hbx : bs[i]? = some bs[i] := List.getElem?_eq_getElem hib
        have hdr := termsB_drop hx hbx
        have hat := sortB_at bs hib
        have hsz := sortB_size bs
        have hit : (x.right == 0 && x.term) = x.term := by simp [hx0]
        have hbb : ((if bs[i] = true then 116 else 102 : Int) == 116) = bs[i] := by cases bs[i] <;> rfl
        cases hv : x.term == bs[i]
        · rw [hv] at hdr
          have hz : termsB l bs = false := by rw [ht2, hdr]; rfl
          rw [hz, if_neg (by simp)]
          simp (config := {contextual := true, maxSteps := 5000000}) only [go_sem, false_and, Nat.reduceAdd, Nat.reduceLT, Nat.reduceBEq, Nat.reduceSub, Nat.reduceMul, Nat.reduceLeDiff, Int.reduceToNat, Nat.reduceEqDiff, Nat.reduceMod, g1, g17, g18, g19, hl, d, hw2, hxe, specSs, toE_at, hat, hsz, hit, hbb, hv]
          exact ⟨⟨by omega, by omega⟩, by kernel_rfl, hxo, ⟨by omega, by omega⟩, by (refine pw_of ?_; (repeat' (first | exact trivial | apply And.intro)); all_goals (first | exact .inr rfl | exact .inr trivial | exact .inl (by kernel_rfl))), Hp.le_upd hH (fN _ _ _ _)⟩
        · rw [hv] at hdr
          simp (config := {contextual := true, maxSteps := 5000000}) only [go_sem, false_and, Nat.reduceAdd, Nat.reduceLT, Nat.reduceBEq, Nat.reduceSub, Nat.reduceMul, Nat.reduceLeDiff, Int.reduceToNat, Nat.reduceEqDiff, Nat.reduceMod, g1, g17, g18, g19, hl, d, hw2, hxe, specSs, toE_at, hat, hsz, hit, hbb, hv]
          exact ⟨⟨by omega, by omega⟩, by kernel_rfl, hxo, ⟨by omega, by omega⟩, by (refine pw_of ?_; (repeat' (first | exact trivial | apply And.intro)); all_goals (first | exact .inr rfl | exact .inr trivial | exact .inl (by kernel_rfl))), j - 1, by omega, i + 1, rfl, Hp.le_upd hH (fN _ _ _ _), by omega, by rw [ht2, hdr]; rfl⟩
      · have d : decide ((i : Int) < (l.length : Int)) = false := by simp; omega
        have hz : termsB l bs = true := by rw [ht2, List.drop_of_length_le (by omega), List.drop_of_length_le (show bs.length ≤ i by omega)]; rfl
        rw [hz]
        simp (config := {contextual := true, maxSteps := 5000000}) only [go_sem, false_and, Nat.reduceAdd, Nat.reduceLT, Nat.reduceBEq, Nat.reduceSub, Nat.reduceMul, Nat.reduceLeDiff, Int.reduceToNat, Nat.reduceEqDiff, Nat.reduceMod, g1, g17, g18, g19, hl, d]
        exact hH
end Go.Proofs.YtkdendaohlnlcaaGreat.Av

/- The program's schemas: Make. No condition. -/
namespace Go.Proofs.YtkdendaohlnlcaaGreat.Av
set_option linter.unusedVariables false
set_option linter.unusedSimpArgs false
set_option maxRecDepth 4000
set_option maxHeartbeats 1000000
variable {w0 : Base} {k : List Nat} {H : Hp}
def mkId (i : Nat) : FuncId := if i = 0 then 86 else if i = 1 then 90 else if i = 2 then 92 else if i = 3 then 95 else if i = 4 then 97 else if i = 5 then 101 else 104
def fdId (i : Nat) : FuncId := if i = 0 then 88 else if i = 1 then 91 else if i = 2 then 94 else if i = 3 then 96 else if i = 4 then 100 else if i = 5 then 103 else 106
theorem row_at2 {n : Int} (h : 1 ≤ n ∧ n ≤ 7) : rowsL.getD (n.toNat - 1) [] = [.int .i64 n, .str (sortB (sortsE n)), .bool (boundE n), .clo (.func (mkId (n.toNat - 1))) [] [], .clo (.func (fdId (n.toNat - 1))) [] []] := by
  have hc : n = 1 ∨ n = 2 ∨ n = 3 ∨ n = 4 ∨ n = 5 ∨ n = 6 ∨ n = 7 := by omega
  rcases hc with rfl | rfl | rfl | rfl | rfl | rfl | rfl <;> rfl
/-- What a row makes of its parts. -/
def mkF (n : Int) (l : List E) (x : Int) : E × Bool := if n = 4 then insE (l.getD 0 noE) x (l.getD 1 noE) else (rawE n l x, sideE n l x)
theorem mkI_call (n : Int) (l : List E) (x : Int) (hx : 0 ≤ x ∧ x ≤ 63) (hp : PartsK n l) : CallAt Tryz.prog w0 k (mkId (n.toNat - 1)) [.list .none (l.map E.cells), .int .i64 x] H H (.tup [(mkF n l x).1.av, .bool (mkF n l x).2]) := by
  rcases hp with ⟨rfl, a, b, rfl, ha, hb⟩ | ⟨rfl, a, b, c, rfl, ha, hb, hc⟩ | ⟨rfl, a, b, rfl, ha, hb⟩ | ⟨rfl, a, b, rfl, ha, hb⟩ | ⟨rfl, a, b, rfl, ha, hb⟩ | ⟨rfl, a, rfl, ha⟩ | ⟨rfl, a, b, c, d, rfl, ha, hb, hc, hd⟩
  · exact row1_call a b x
  · exact row3_call a b c x
  · exact row5_call a b x
  · exact instance_call a b x ha.1 hb.1
  · exact row7_call a b x ha.1 hx
  · exact row9_call a x
  · exact row11_call a b c d x ha.1 hb.1 hc.1 hd.1
/-- What a row finds in a formula, as its function tells it. -/
def fdB (n : Int) (e : E) : AV := if n = 6 then .tup [.list .none [((atK e [(4, 0)]).getD noE).cells], .int .i64 0, .bool (atK e [(4, 0)]).isSome] else fdA (findE n e)
theorem fdI_call (n : Int) (e : E) (hn : 1 ≤ n ∧ n ≤ 7) (hs : e.sh = true) : CallAt Tryz.prog w0 k (fdId (n.toNat - 1)) [e.av] H H (fdB n e) := by
  have hc : n = 1 ∨ n = 2 ∨ n = 3 ∨ n = 4 ∨ n = 5 ∨ n = 6 ∨ n = 7 := by omega
  rcases hc with rfl | rfl | rfl | rfl | rfl | rfl | rfl
  · exact row2_call e hs
  · exact row4_call e hs
  · exact row6_call e hs
  · exact inst_call e hs
  · exact row8_call e hs
  · exact row10_call e hs
  · exact row12_call e hs
/-- What the program makes of right parts. -/
def mkG (n : Int) (l : List E) (x : Int) : E × Int := if (mkF n l x).2 = false then (noE, 72) else if (mkF n l x).1.kind < 0 then (noE, -(mkF n l x).1.kind) else atR (mkF n l x).1 []
def mkP (n : Int) (l : List E) (x : Int) : E × Int := if ¬ (1 ≤ n ∧ n ≤ 7) then (noE, 70) else if ¬ (l.length = (sortsE n).length ∧ (0 ≤ x ∧ x ≤ 63) ∧ (boundE n = true ∨ x = 0)) then (noE, 71) else if sortedC l (sortsE n) ≠ 0 then (noE, sortedC l (sortsE n)) else mkG n l x
theorem bnd_ok {x : Int} {u a : E} (ha : a.ok) (hu : u.ok) : (bndE x u a).1.ok := by
  unfold bndE rgt
  split
  · exact noE_ok
  · split
    · rename_i h
      exact sh_ok _ (right_sh' h)
    · exact noE_ok
theorem putR_ok (a : E) (x : Int) (u : E) (ha : a.ok) (hu : u.ok) : (putR a x u).1.ok := by
  unfold putR putE
  split
  · split
    · exact bnd_ok ha hu
    · exact noE_ok
  · exact noE_ok
theorem insE_ok (a : E) (x : Int) (u : E) (ha : a.ok) (hu : u.ok) : (insE a x u).1.ok := by
  unfold insE
  split
  · exact noE_ok
  · split
    · simp [E.ok, E.okL]
    · exact im_ok (al_ok ha) (putR_ok a x u ha hu)
theorem mkF_ok {n x : Int} {l : List E} (hx : 0 ≤ x ∧ x ≤ 63) (hp : PartsK n l) : (mkF n l x).1.ok := by
  unfold mkF
  split
  · rename_i h4
    rcases hp with ⟨rfl, a, b, rfl, ha, hb⟩ | ⟨rfl, a, b, c, rfl, ha, hb, hc⟩ | ⟨rfl, a, b, rfl, ha, hb⟩ | ⟨rfl, a, b, rfl, ha, hb⟩ | ⟨rfl, a, b, rfl, ha, hb⟩ | ⟨rfl, a, rfl, ha⟩ | ⟨rfl, a, b, c, d, rfl, ha, hb, hc, hd⟩ <;> first | omega | skip
    exact insE_ok a x b (sh_ok a (right_sh' ha.1)) (sh_ok b (right_sh' hb.1))
  · exact sh_ok _ (raw_sh hx hp).1
end Go.Proofs.YtkdendaohlnlcaaGreat.Av

/- The program's schemas: Make and parts. No condition. -/
namespace Go.Proofs.YtkdendaohlnlcaaGreat.Av
set_option linter.unusedVariables false
set_option linter.unusedSimpArgs false
set_option maxRecDepth 4000
set_option maxHeartbeats 1000000
variable {w0 : Base} {k : List Nat} {H : Hp}
theorem pkA_pos {n : Int} (h : 1 ≤ n ∧ n ≤ 7) : pkA n = .tup [.agg [.int .i64 n, .str (sortB (sortsE n)), .bool (boundE n), .clo (.func (mkId (n.toNat - 1))) [] [], .clo (.func (fdId (n.toNat - 1))) [] []], .bool true] := by rw [pkA, if_pos h, row_at2 h]
theorem at_nil_call (e : E) (hok : e.ok) : CallAt Tryz.prog w0 k 35 [e.av, .list .nil []] H H (.tup [(atR e []).1.av, .int .i64 (atR e []).2]) := by
  have h0 : AnsOk Tryz.prog w0 35 _ := sp2_ok (A := dE) (B := dL cI) (φ := fun e p => e.ok ∧ (p.length : Int) ≤ 9223372036854775807) (v := fun e p => .tup [(atR e p).1.av, .int .i64 (atR e p).2]) fun e p h k H => at_call e p h.1 h.2
  exact h0 [e.av, .list .nil []] (e.ok ∧ (([] : List Int).length : Int) ≤ 9223372036854775807) _ (by simp (config := {contextual := true, maxSteps := 5000000}) only [go_sem, false_and, Nat.reduceAdd, Nat.reduceLT, Nat.reduceBEq, Nat.reduceSub, Nat.reduceMul, Nat.reduceLeDiff, Int.reduceToNat, Nat.reduceEqDiff, Nat.reduceMod, toE_at]) ⟨hok, by decide⟩ k H
theorem mkF_kind {n x : Int} {l : List E} (hp : PartsK n l) : -50 ≤ (mkF n l x).1.kind := by
  rcases hp with ⟨rfl, a, b, rfl, ha, hb⟩ | ⟨rfl, a, b, c, rfl, ha, hb, hc⟩ | ⟨rfl, a, b, rfl, ha, hb⟩ | ⟨rfl, a, b, rfl, ha, hb⟩ | ⟨rfl, a, b, rfl, ha, hb⟩ | ⟨rfl, a, rfl, ha⟩ | ⟨rfl, a, b, c, d, rfl, ha, hb, hc, hd⟩
  · exact (by decide : (-50 : Int) ≤ 6)
  · exact (by decide : (-50 : Int) ≤ 6)
  · exact (by decide : (-50 : Int) ≤ 6)
  · show -50 ≤ (insE a x b).1.kind
    have hr := putR_rng a x b
    have hc : 0 ≤ insC a x b ∧ insC a x b ≤ 50 := by
      unfold insC
      split <;> omega
    unfold insE
    split
    · exact (by decide : (-50 : Int) ≤ 0)
    · split
      · show -50 ≤ -insC a x b
        omega
      · exact (by decide : (-50 : Int) ≤ 6)
  · exact (by decide : (-50 : Int) ≤ 6)
  · exact (by decide : (-50 : Int) ≤ 4)
  · exact (by decide : (-50 : Int) ≤ 6)
theorem makeS_call (n : Int) (l : List E) (x : Int) (hok : ∀ e ∈ l, e.ok) : CallAt Tryz.prog w0 k 76 [.int .i64 n, prA l x] H H (.tup [(mkP n l x).1.av, .int .i64 (mkP n l x).2]) := by
  refine callAt tabOk Spec.no_ok mixed Tryz.func76 rfl rfl Tryz.results76 Tryz.ntmps76 (by simp) [] ?_
  intro hfr t hl ht
  simp only [At, Nat.reduceAdd, List.cons_append, List.nil_append] at ht
  have fN : ∀ (a b : Nat) z ty, H ⟨z, a :: b :: k, ty⟩ = none := fun a b z ty => hfr _ (sfx2 _ _ _)
  unfold prA at ht
  simp (config := {contextual := true, maxSteps := 5000000}) only [go_sem, false_and, Nat.reduceAdd, Nat.reduceLT, Nat.reduceBEq, Nat.reduceSub, Nat.reduceMul, Nat.reduceLeDiff, Int.reduceToNat, Nat.reduceEqDiff, Nat.reduceMod, ht, hl]
  refine callK_intro (schema_call n) ?_
  by_cases hk : 1 ≤ n ∧ n ≤ 7
  rotate_left
  · have hm : mkP n l x = (noE, 70) := by rw [mkP, if_pos hk]
    rw [hm, pkA, if_neg hk]
    simp (config := {contextual := true, maxSteps := 5000000}) only [go_sem, false_and, Nat.reduceAdd, Nat.reduceLT, Nat.reduceBEq, Nat.reduceSub, Nat.reduceMul, Nat.reduceLeDiff, Int.reduceToNat, Nat.reduceEqDiff, Nat.reduceMod, ht, hl]
    exact ⟨tup2_weak noEw_weak, (by (repeat (first | exact Hp.Le.refl _ | refine Hp.le_upd ?_ (fN _ _ _ _))))⟩
  rw [pkA_pos hk]
  by_cases h3 : l.length = (sortsE n).length
  rotate_left
  · have hm : mkP n l x = (noE, 71) := by rw [mkP, if_neg (by omega), if_pos (fun h => h3 h.1)]
    have d3 : ((l.length : Int) != ((sortsE n).length : Int)) = true := by rw [bne_iff_ne]; omega
    rw [hm]
    simp (config := {contextual := true, maxSteps := 5000000}) only [go_sem, false_and, Nat.reduceAdd, Nat.reduceLT, Nat.reduceBEq, Nat.reduceSub, Nat.reduceMul, Nat.reduceLeDiff, Int.reduceToNat, Nat.reduceEqDiff, Nat.reduceMod, ht, hl, d3, sortB_size]
    exact ⟨tup2_weak noEw_weak, (by (repeat (first | exact Hp.Le.refl _ | refine Hp.le_upd ?_ (fN _ _ _ _))))⟩
  have d3 : ((l.length : Int) != ((sortsE n).length : Int)) = false := by rw [h3]; simp
  by_cases h4 : x < 0
  · have hm : mkP n l x = (noE, 71) := by rw [mkP, if_neg (by omega), if_pos (fun h => by omega)]
    have d4 : decide (x < 0) = true := decide_eq_true h4
    rw [hm]
    simp (config := {contextual := true, maxSteps := 5000000}) only [go_sem, false_and, Nat.reduceAdd, Nat.reduceLT, Nat.reduceBEq, Nat.reduceSub, Nat.reduceMul, Nat.reduceLeDiff, Int.reduceToNat, Nat.reduceEqDiff, Nat.reduceMod, ht, hl, d3, d4, sortB_size]
    exact ⟨tup2_weak noEw_weak, (by (repeat (first | exact Hp.Le.refl _ | refine Hp.le_upd ?_ (fN _ _ _ _))))⟩
  have d4 : decide (x < 0) = false := decide_eq_false h4
  by_cases h5 : 63 < x
  · have hm : mkP n l x = (noE, 71) := by rw [mkP, if_neg (by omega), if_pos (fun h => by omega)]
    have d5 : decide (63 < x) = true := decide_eq_true h5
    rw [hm]
    simp (config := {contextual := true, maxSteps := 5000000}) only [go_sem, false_and, Nat.reduceAdd, Nat.reduceLT, Nat.reduceBEq, Nat.reduceSub, Nat.reduceMul, Nat.reduceLeDiff, Int.reduceToNat, Nat.reduceEqDiff, Nat.reduceMod, ht, hl, d3, d4, d5, sortB_size]
    exact ⟨tup2_weak noEw_weak, (by (repeat (first | exact Hp.Le.refl _ | refine Hp.le_upd ?_ (fN _ _ _ _))))⟩
  have d5 : decide (63 < x) = false := decide_eq_false h5
  have hb : (boundE n = false ∧ (x != 0) = true) ∨ boundE n = true ∨ boundE n = false ∧ (x != 0) = false := by
    cases boundE n <;> cases (x != 0) <;> simp
  have hx : 0 ≤ x ∧ x ≤ 63 := ⟨by omega, by omega⟩
  rcases hb with ⟨h6, h7⟩ | hb
  · have hm : mkP n l x = (noE, 71) := by
      rw [mkP, if_neg (by omega), if_pos]
      rintro ⟨_, _, h | h⟩
      · rw [h6] at h
        cases h
      · rw [h] at h7
        cases h7
    rw [hm]
    simp (config := {contextual := true, maxSteps := 5000000}) only [go_sem, false_and, Nat.reduceAdd, Nat.reduceLT, Nat.reduceBEq, Nat.reduceSub, Nat.reduceMul, Nat.reduceLeDiff, Int.reduceToNat, Nat.reduceEqDiff, Nat.reduceMod, ht, hl, d3, d4, d5, h6, h7, sortB_size]
    exact ⟨tup2_weak noEw_weak, (by (repeat (first | exact Hp.Le.refl _ | refine Hp.le_upd ?_ (fN _ _ _ _))))⟩
  have hbx : boundE n = true ∨ x = 0 := by
    rcases hb with h | ⟨_, h⟩
    · exact .inl h
    · exact .inr (by simpa using h)
  rw [mkP, if_neg (by omega), if_neg (fun h => h ⟨h3, hx, hbx⟩)]
  by_cases h8 : sortedC l (sortsE n) = 0
  rotate_left
  · have d8 : (sortedC l (sortsE n) != 0) = true := by simpa using h8
    rw [if_pos h8]
    rcases hb with hb | hb
    all_goals
      simp (config := {contextual := true, maxSteps := 5000000}) only [go_sem, false_and, Nat.reduceAdd, Nat.reduceLT, Nat.reduceBEq, Nat.reduceSub, Nat.reduceMul, Nat.reduceLeDiff, Int.reduceToNat, Nat.reduceEqDiff, Nat.reduceMod, ht, hl, d3, d4, d5, hb, sortB_size]
      refine callK_intro (sortedS_call l (sortsE n) h3 (sortsE_len n) hok) ?_
      simp (config := {contextual := true, maxSteps := 5000000}) only [go_sem, false_and, Nat.reduceAdd, Nat.reduceLT, Nat.reduceBEq, Nat.reduceSub, Nat.reduceMul, Nat.reduceLeDiff, Int.reduceToNat, Nat.reduceEqDiff, Nat.reduceMod, ht, hl, d3, d4, d5, hb, d8]
      exact ⟨tup2_weak noEw_weak, (by (repeat (first | exact Hp.Le.refl _ | refine Hp.le_upd ?_ (fN _ _ _ _))))⟩
  have d8 : (sortedC l (sortsE n) != 0) = false := by simpa using h8
  have hp := partsK (by omega) ((sortedC_zero h3).1 h8)
  have hmo := mkF_ok hx hp
  rw [if_neg (by omega), mkG]
  cases h9 : (mkF n l x).2
  · rw [if_pos rfl]
    rcases hb with hb | hb
    all_goals
      simp (config := {contextual := true, maxSteps := 5000000}) only [go_sem, false_and, Nat.reduceAdd, Nat.reduceLT, Nat.reduceBEq, Nat.reduceSub, Nat.reduceMul, Nat.reduceLeDiff, Int.reduceToNat, Nat.reduceEqDiff, Nat.reduceMod, ht, hl, d3, d4, d5, hb, sortB_size]
      refine callK_intro (sortedS_call l (sortsE n) h3 (sortsE_len n) hok) ?_
      simp (config := {contextual := true, maxSteps := 5000000}) only [go_sem, false_and, Nat.reduceAdd, Nat.reduceLT, Nat.reduceBEq, Nat.reduceSub, Nat.reduceMul, Nat.reduceLeDiff, Int.reduceToNat, Nat.reduceEqDiff, Nat.reduceMod, ht, hl, d3, d4, d5, hb, d8]
      refine callK_intro (mkI_call n l x hx hp) ?_
      simp (config := {contextual := true, maxSteps := 5000000}) only [go_sem, false_and, Nat.reduceAdd, Nat.reduceLT, Nat.reduceBEq, Nat.reduceSub, Nat.reduceMul, Nat.reduceLeDiff, Int.reduceToNat, Nat.reduceEqDiff, Nat.reduceMod, ht, hl, d3, d4, d5, hb, d8, h9]
      exact ⟨tup2_weak noEw_weak, (by (repeat (first | exact Hp.Le.refl _ | refine Hp.le_upd ?_ (fN _ _ _ _))))⟩
  rw [if_neg (by simp)]
  by_cases h10 : (mkF n l x).1.kind < 0
  · have d10 : decide ((mkF n l x).1.kind < 0) = true := decide_eq_true h10
    have w3 : IntKind.i64.wrap (0 - (mkF n l x).1.kind) = -(mkF n l x).1.kind := by have := mkF_kind (x := x) hp; rw [wrap_i64] <;> omega
    rw [if_pos h10]
    rcases hb with hb | hb
    all_goals
      simp (config := {contextual := true, maxSteps := 5000000}) only [go_sem, false_and, Nat.reduceAdd, Nat.reduceLT, Nat.reduceBEq, Nat.reduceSub, Nat.reduceMul, Nat.reduceLeDiff, Int.reduceToNat, Nat.reduceEqDiff, Nat.reduceMod, ht, hl, d3, d4, d5, hb, sortB_size]
      refine callK_intro (sortedS_call l (sortsE n) h3 (sortsE_len n) hok) ?_
      simp (config := {contextual := true, maxSteps := 5000000}) only [go_sem, false_and, Nat.reduceAdd, Nat.reduceLT, Nat.reduceBEq, Nat.reduceSub, Nat.reduceMul, Nat.reduceLeDiff, Int.reduceToNat, Nat.reduceEqDiff, Nat.reduceMod, ht, hl, d3, d4, d5, hb, d8]
      refine callK_intro (mkI_call n l x hx hp) ?_
      simp (config := {contextual := true, maxSteps := 5000000}) only [go_sem, false_and, Nat.reduceAdd, Nat.reduceLT, Nat.reduceBEq, Nat.reduceSub, Nat.reduceMul, Nat.reduceLeDiff, Int.reduceToNat, Nat.reduceEqDiff, Nat.reduceMod, ht, hl, d3, d4, d5, hb, d8, h9, d10, w3]
      (repeat' apply And.intro) <;> first | ((with_reducible (show drawOk _ = true)); kernel_rfl) | ((with_reducible (show List.Pairwise _ _)); (refine pw_of ?_; (repeat' (first | exact trivial | apply And.intro)); all_goals (first | exact .inr rfl | exact .inr trivial | exact .inl (by kernel_rfl)))) | ((with_reducible (show Weak _ _)); exact tup2_weak noEw_weak) | (repeat (first | exact Hp.Le.refl _ | refine Hp.le_upd ?_ (fN _ _ _ _)))
  have d10 : decide ((mkF n l x).1.kind < 0) = false := decide_eq_false h10
  rw [if_neg h10]
  have hat : ∀ k H, CallAt Tryz.prog w0 k 35 [(mkF n l x).1.av, .list .nil []] H H (.tup [(atR (mkF n l x).1 []).1.av, .int .i64 (atR (mkF n l x).1 []).2]) := fun k H => at_nil_call _ hmo
  rcases hb with hb | hb
  all_goals
    simp (config := {contextual := true, maxSteps := 5000000}) only [go_sem, false_and, Nat.reduceAdd, Nat.reduceLT, Nat.reduceBEq, Nat.reduceSub, Nat.reduceMul, Nat.reduceLeDiff, Int.reduceToNat, Nat.reduceEqDiff, Nat.reduceMod, ht, hl, d3, d4, d5, hb, sortB_size]
    refine callK_intro (sortedS_call l (sortsE n) h3 (sortsE_len n) hok) ?_
    simp (config := {contextual := true, maxSteps := 5000000}) only [go_sem, false_and, Nat.reduceAdd, Nat.reduceLT, Nat.reduceBEq, Nat.reduceSub, Nat.reduceMul, Nat.reduceLeDiff, Int.reduceToNat, Nat.reduceEqDiff, Nat.reduceMod, ht, hl, d3, d4, d5, hb, d8]
    refine callK_intro (mkI_call n l x hx hp) ?_
    simp (config := {contextual := true, maxSteps := 5000000}) only [go_sem, false_and, Nat.reduceAdd, Nat.reduceLT, Nat.reduceBEq, Nat.reduceSub, Nat.reduceMul, Nat.reduceLeDiff, Int.reduceToNat, Nat.reduceEqDiff, Nat.reduceMod, ht, hl, d3, d4, d5, hb, d8, h9, d10]
    refine callK_intro (hat _ _) ?_
    simp (config := {contextual := true, maxSteps := 5000000}) only [go_sem, false_and, Nat.reduceAdd, Nat.reduceLT, Nat.reduceBEq, Nat.reduceSub, Nat.reduceMul, Nat.reduceLeDiff, Int.reduceToNat, Nat.reduceEqDiff, Nat.reduceMod, ht, hl, d3, d4, d5, hb, d8, h9, d10]
    exact (by (repeat (first | exact Hp.Le.refl _ | refine Hp.le_upd ?_ (fN _ _ _ _))))
end Go.Proofs.YtkdendaohlnlcaaGreat.Av

/- The program's schemas: parts. No condition. -/
namespace Go.Proofs.YtkdendaohlnlcaaGreat.Av
set_option linter.unusedVariables false
set_option linter.unusedSimpArgs false
set_option maxRecDepth 4000
set_option maxHeartbeats 1000000
variable {w0 : Base} {k : List Nat} {H : Hp}
/-- What the program finds and makes again. -/
def ptA (n : Int) (e : E) : AV := match findE n e with
  | none => .tup [.list .none [], .int .i64 0, .bool false]
  | some (l, x) => .tup [.list .none (l.map E.cells), .int .i64 x, .bool ((mkP n l x).2 == 0 && sameE (mkP n l x).1 e)]
theorem fd6 (e : E) : fdB 6 e = .tup [.list .none [((atK e [(4, 0)]).getD noE).cells], .int .i64 0, .bool (atK e [(4, 0)]).isSome] := rfl
theorem pn_weak {b : Bool} {x : Int} : Weak (.tup [.list .nil [], .int .i64 x, .bool b]) (.tup [.list .none [], .int .i64 x, .bool b]) := fd_weak rfl
theorem mkP_ok {n x : Int} {l : List E} : (mkP n l x).1.ok := by
  unfold mkP
  split
  · exact noE_ok
  split
  · exact noE_ok
  rename_i hk hb
  have hb := Classical.not_not.1 hb
  split
  · exact noE_ok
  rename_i hs
  have hp := partsK (Classical.not_not.1 hk) ((sortedC_zero hb.1).1 (Classical.not_not.1 hs))
  unfold mkG
  split
  · exact noE_ok
  split
  · exact noE_ok
  unfold atR
  split
  · rename_i h0
    exact sh_ok _ (right_sh' h0)
  · exact noE_ok
theorem stP_ok (x : Int) : ∀ (N : Nat) (a b z : E), a.sz < N → b.ok → a.stP x b = some z → z.ok
  | 0, a, b, z, h, _, _ => absurd h (Nat.not_lt_zero _)
  | N + 1, a, b, z, hN, hb, h => by
    rw [E.stP_eq] at h
    split at h
    · split at h
      · cases h
        exact hb
      · cases h
    · split at h
      · cases h
      · have hk : ∀ (n : Nat) (i : Nat), i + n = a.kids.length → (∀ y, E.stPL x (a.kids.drop i) (b.kids.drop i) = some y → y.ok) := by
          intro n
          induction n with
          | zero =>
            intro i hi y hy
            rw [List.drop_of_length_le (by omega)] at hy
            simp [E.stPL] at hy
          | succ n ih =>
            intro i hi y hy
            obtain ⟨p, hp, _⟩ := E.kid a (i := i) (by omega)
            cases hq : b.kids[i]? with
            | none =>
              rw [List.getElem?_eq_none_iff] at hq
              rw [List.drop_of_length_le hq] at hy
              cases hd : a.kids.drop i <;> rw [hd] at hy <;> simp [E.stPL] at hy
            | some q =>
              rw [stPL_drop x hp hq] at hy
              cases hw : p.stP x q with
              | some w =>
                rw [hw] at hy
                cases hy
                exact stP_ok x N p q _ (by have := E.kid_sz hp; omega) (E.ok_kid hb hq) hw
              | none =>
                rw [hw] at hy
                exact ih (i + 1) (by omega) y hy
        exact hk a.kids.length 0 (by omega) z (by simpa using h)
theorem atK_ok : ∀ {e x : E} {p : List (Int × Nat)}, e.ok → atK e p = some x → x.ok
  | e, x, [], he, h => by
    simp only [atK, Option.some.injEq] at h
    rw [← h]
    exact he
  | e, x, (c, i) :: p, he, h => by
    obtain ⟨_, y, hy, h2⟩ := atK_step h
    exact atK_ok (E.ok_kid he hy) h2
theorem find_ok {n : Int} {e : E} (hok : e.ok) {l : List E} {x : Int} (h : findE n e = some (l, x)) : ∀ y ∈ l, y.ok := by
  have hk := fun p => kidE_ok p e hok
  have hs : ∀ a : E, ((a.stP (kidE e [0]).id (kidE e [1])).getD (varE (kidE e [0]).id)).ok := fun a => by
    cases h : a.stP (kidE e [0]).id (kidE e [1]) with
    | none => simp [varE, E.ok, E.okL]
    | some z => exact stP_ok _ _ _ _ _ (Nat.lt_succ_self _) (hk _) h
  unfold findE at h
  (repeat' split at h) <;> simp only [Option.map_eq_some_iff, Option.bind_eq_some_iff, Prod.mk.injEq, reduceCtorEq] at h
  · obtain ⟨b, hb, rfl, _⟩ := h
    have := atK_ok hok hb
    intro y hy
    simp only [List.mem_cons, List.not_mem_nil, or_false] at hy
    rcases hy with rfl | rfl
    · exact hk _
    · exact this
  · obtain ⟨b, hb, rfl, _⟩ := h
    have := atK_ok hok hb
    intro y hy
    simp only [List.mem_cons, List.not_mem_nil, or_false] at hy
    rcases hy with rfl | rfl | rfl
    · exact hk _
    · exact hk _
    · exact this
  · obtain ⟨b, hb, rfl, _⟩ := h
    have := atK_ok hok hb
    intro y hy
    simp only [List.mem_cons, List.not_mem_nil, or_false] at hy
    rcases hy with rfl | rfl
    · exact hk _
    · exact this
  · obtain ⟨b, hb, rfl, _⟩ := h
    have := atK_ok hok hb
    intro y hy
    simp only [List.mem_cons, List.not_mem_nil, or_false] at hy
    rcases hy with rfl | rfl
    · exact this
    · exact hs _
  · obtain ⟨b, hb, rfl, _⟩ := h
    have := atK_ok hok hb
    intro y hy
    simp only [List.mem_cons, List.not_mem_nil, or_false] at hy
    rcases hy with rfl | rfl
    · exact hk _
    · exact this
  · obtain ⟨b, hb, rfl, _⟩ := h
    have := atK_ok hok hb
    intro y hy
    simp only [List.mem_cons, List.not_mem_nil, or_false] at hy
    rcases hy with rfl
    exact this
  · obtain ⟨b, hb, c, hc, rfl, _⟩ := h
    have h1 := atK_ok hok hb
    have h2 := atK_ok hok hc
    intro y hy
    simp only [List.mem_cons, List.not_mem_nil, or_false] at hy
    rcases hy with rfl | rfl | rfl | rfl
    · exact h1
    · exact hk _
    · exact h2
    · exact hk _
theorem partsS_call (n : Int) (e : E) (hn : 1 ≤ n ∧ n ≤ 7) (hr : e.right = 0) : CallAt Tryz.prog w0 k 65 [.agg [.int .i64 n, .str (sortB (sortsE n)), .bool (boundE n), .clo (.func (mkId (n.toNat - 1))) [] [], .clo (.func (fdId (n.toNat - 1))) [] []], e.av] H H (ptA n e) := by
  refine callAt tabOk Spec.no_ok mixed Tryz.func65 rfl rfl Tryz.results65 Tryz.ntmps65 (by simp) [] ?_
  intro hfr t hl ht
  simp only [At, Nat.reduceAdd, List.cons_append, List.nil_append] at ht
  have fN : ∀ (a b : Nat) z ty, H ⟨z, a :: b :: k, ty⟩ = none := fun a b z ty => hfr _ (sfx2 _ _ _)
  have hs := right_sh' hr
  have hok := sh_ok e hs
  simp (config := {contextual := true, maxSteps := 5000000}) only [go_sem, false_and, Nat.reduceAdd, Nat.reduceLT, Nat.reduceBEq, Nat.reduceSub, Nat.reduceMul, Nat.reduceLeDiff, Int.reduceToNat, Nat.reduceEqDiff, Nat.reduceMod, ht, hl]
  refine callK_intro (fdI_call n e hn hs) ?_
  unfold ptA
  cases hf : findE n e with
  | none =>
    by_cases h6 : n = 6
    · subst h6
      have ha : atK e [(4, 0)] = none := by
        cases ha : atK e [(4, 0)] with
        | none => rfl
        | some b => simp [findE, ha] at hf
      rw [fd6, ha]
      simp (config := {contextual := true, maxSteps := 5000000}) only [go_sem, false_and, Nat.reduceAdd, Nat.reduceLT, Nat.reduceBEq, Nat.reduceSub, Nat.reduceMul, Nat.reduceLeDiff, Int.reduceToNat, Nat.reduceEqDiff, Nat.reduceMod, ht, hl]
      exact pn_weak
    · rw [fdB, if_neg h6, hf, fdA]
      simp (config := {contextual := true, maxSteps := 5000000}) only [go_sem, false_and, Nat.reduceAdd, Nat.reduceLT, Nat.reduceBEq, Nat.reduceSub, Nat.reduceMul, Nat.reduceLeDiff, Int.reduceToNat, Nat.reduceEqDiff, Nat.reduceMod, ht, hl]
      exact pn_weak
  | some q =>
    obtain ⟨l, x⟩ := q
    have hlo := find_ok hok hf
    have hfb : fdB n e = fdA (some (l, x)) := by
      by_cases h6 : n = 6
      · subst h6
        cases ha : atK e [(4, 0)] with
        | none => simp [findE, ha] at hf
        | some b =>
          simp [findE, ha] at hf
          obtain ⟨rfl, rfl⟩ := hf
          rw [fd6, ha]
          rfl
      · rw [fdB, if_neg h6, hf]
    rw [hfb, fdA]
    simp (config := {contextual := true, maxSteps := 5000000}) only [go_sem, false_and, Nat.reduceAdd, Nat.reduceLT, Nat.reduceBEq, Nat.reduceSub, Nat.reduceMul, Nat.reduceLeDiff, Int.reduceToNat, Nat.reduceEqDiff, Nat.reduceMod, ht, hl]
    refine callK_intro (makeS_call n l x hlo) ?_
    by_cases h0 : (mkP n l x).2 = 0
    · have d0 : ((mkP n l x).2 == 0) = true := by simpa using h0
      simp (config := {contextual := true, maxSteps := 5000000}) only [go_sem, false_and, Nat.reduceAdd, Nat.reduceLT, Nat.reduceBEq, Nat.reduceSub, Nat.reduceMul, Nat.reduceLeDiff, Int.reduceToNat, Nat.reduceEqDiff, Nat.reduceMod, ht, hl, d0]
      refine callK_intro (same_call _ _ mkP_ok hok) ?_
      simp (config := {contextual := true, maxSteps := 5000000}) only [go_sem, false_and, Nat.reduceAdd, Nat.reduceLT, Nat.reduceBEq, Nat.reduceSub, Nat.reduceMul, Nat.reduceLeDiff, Int.reduceToNat, Nat.reduceEqDiff, Nat.reduceMod, ht, hl, d0]
      exact (by (repeat (first | exact Hp.Le.refl _ | refine Hp.le_upd ?_ (fN _ _ _ _))))
    · have d0 : ((mkP n l x).2 == 0) = false := by simpa using h0
      simp (config := {contextual := true, maxSteps := 5000000}) only [go_sem, false_and, Nat.reduceAdd, Nat.reduceLT, Nat.reduceBEq, Nat.reduceSub, Nat.reduceMul, Nat.reduceLeDiff, Int.reduceToNat, Nat.reduceEqDiff, Nat.reduceMod, ht, hl, d0]
      exact (by (repeat (first | exact Hp.Le.refl _ | refine Hp.le_upd ?_ (fN _ _ _ _))))
end Go.Proofs.YtkdendaohlnlcaaGreat.Av

/- The program's schemas: Parts, Is. No condition. -/
namespace Go.Proofs.YtkdendaohlnlcaaGreat.Av
set_option linter.unusedVariables false
set_option linter.unusedSimpArgs false
set_option maxRecDepth 4000
set_option maxHeartbeats 1000000
variable {w0 : Base} {k : List Nat} {H : Hp}
theorem sorted_f (e : E) : sortedC [e] [false] = e.wantF := by
  unfold sortedC E.wantF
  by_cases h : e.right = 0
  · cases ht : e.term <;> simp [firstBad, termsB, h, ht]
  · simp [firstBad, h]
theorem mkP_right {n x : Int} {l : List E} (h : (mkP n l x).2 = 0) : (∀ y ∈ l, y.right = 0) ∧ l.length ≤ 4 := by
  unfold mkP at h
  split at h
  · cases h
  split at h
  · cases h
  rename_i hb
  have hb := Classical.not_not.1 hb
  split at h
  · rename_i h8
    exact absurd h h8
  rename_i h8
  have h8 := Classical.not_not.1 h8
  have hl := sortsE_len n
  refine ⟨firstBad_zero.1 ?_, by omega⟩
  unfold sortedC at h8
  split at h8
  · assumption
  · assumption
/-- The parts that the program tells. -/
def prP (n : Int) (e : E) : (List E × Int) × Int := if ¬ (1 ≤ n ∧ n ≤ 7) then (([], 0), 70) else if e.wantF ≠ 0 then (([], 0), e.wantF) else match findE n e with
  | none => (([], 0), 73)
  | some (l, x) => if ((mkP n l x).2 == 0 && sameE (mkP n l x).1 e) = true then ((l, x), 0) else (([], 0), 73)
theorem prZ_weak {i : Int} : Weak (.tup [.agg [.list .nil [], .raw (.int .i64 0)], .int .i64 i]) (.tup [prA [] 0, .int .i64 i]) := tup2_weak (pr_weak rfl)
theorem sortF_call (e : E) (hok : e.ok) : CallAt Tryz.prog w0 k 64 [.list .full [[.raw (.int .i64 e.kind), .raw (.int .i64 e.id), strip (.list .none (e.kids.map E.cells))]], .raw (.string ⟨#[102]⟩)] H H (.int .i64 e.wantF) := by
  have h0 : AnsOk Tryz.prog w0 64 _ := sp2_ok (A := dL cE) (B := dS) (φ := fun l s => s = sortB [false] ∧ l.length = 1 ∧ ∀ y ∈ l, y.ok) (v := fun l _ => .int .i64 (sortedC l [false])) fun l s h k H => by rw [h.1]; exact sortedS_call l [false] h.2.1 (by decide) h.2.2
  have hx : [[AV.raw (.int .i64 e.kind), .raw (.int .i64 e.id), strip (.list .none (e.kids.map E.cells))]] = [e].map E.cells := by
    simp only [List.map_cons, List.map_nil, E.cells_eq]
    rfl
  rw [hx, ← sorted_f e]
  exact h0 [.list .full ([e].map E.cells), .raw (.string ⟨#[102]⟩)] ((⟨#[102]⟩ : ByteArray) = sortB [false] ∧ [e].length = 1 ∧ ∀ y ∈ [e], y.ok) _ (by simp only [sp2, dLE_at]; rfl) ⟨rfl, rfl, by simpa using hok⟩ k H
theorem partsT_call (n : Int) (e : E) (hok : e.ok) : CallAt Tryz.prog w0 k 45 [.int .i64 n, e.av] H H (.tup [prA (prP n e).1.1 (prP n e).1.2, .int .i64 (prP n e).2]) := by
  have hS := (Spec.no_ok (P := Tryz.prog) (w0 := w0)).add (sp2_ok (f := 35) (A := dE) (B := dL cI) (φ := fun e p => e.ok ∧ (p.length : Int) ≤ 9223372036854775807) (v := fun e p => .tup [(atR e p).1.av, .int .i64 (atR e p).2]) fun e p h k H => at_call e p h.1 h.2)
  refine callAt tabOk hS mixed Tryz.func45 rfl rfl Tryz.results45 Tryz.ntmps45 (by simp) [] ?_
  intro hfr t hl ht
  simp only [At, Nat.reduceAdd, List.cons_append, List.nil_append] at ht
  have fN : ∀ (a b : Nat) z ty, H ⟨z, a :: b :: k, ty⟩ = none := fun a b z ty => hfr _ (sfx2 _ _ _)
  simp (config := {contextual := true, maxSteps := 5000000}) only [go_sem, false_and, Nat.reduceAdd, Nat.reduceLT, Nat.reduceBEq, Nat.reduceSub, Nat.reduceMul, Nat.reduceLeDiff, Int.reduceToNat, Nat.reduceEqDiff, Nat.reduceMod, ht, hl]
  refine callK_intro (schema_call n) ?_
  by_cases hk : 1 ≤ n ∧ n ≤ 7
  rotate_left
  · have hm : prP n e = (([], 0), 70) := by rw [prP, if_pos hk]
    rw [hm, pkA, if_neg hk]
    simp (config := {contextual := true, maxSteps := 5000000}) only [go_sem, false_and, Nat.reduceAdd, Nat.reduceLT, Nat.reduceBEq, Nat.reduceSub, Nat.reduceMul, Nat.reduceLeDiff, Int.reduceToNat, Nat.reduceEqDiff, Nat.reduceMod, ht, hl]
    exact ⟨prZ_weak, (by (repeat (first | exact Hp.Le.refl _ | refine Hp.le_upd ?_ (fN _ _ _ _))))⟩
  rw [pkA_pos hk]
  by_cases h3 : e.wantF = 0
  rotate_left
  · have hm : prP n e = (([], 0), e.wantF) := by rw [prP, if_neg (by omega), if_pos h3]
    have d3 : (e.wantF != 0) = true := by simpa using h3
    rw [hm]
    simp (config := {contextual := true, maxSteps := 5000000}) only [go_sem, false_and, Nat.reduceAdd, Nat.reduceLT, Nat.reduceBEq, Nat.reduceSub, Nat.reduceMul, Nat.reduceLeDiff, Int.reduceToNat, Nat.reduceEqDiff, Nat.reduceMod, ht, hl, toE_at]
    refine callK_intro (sortF_call e hok) ?_
    simp (config := {contextual := true, maxSteps := 5000000}) only [go_sem, false_and, Nat.reduceAdd, Nat.reduceLT, Nat.reduceBEq, Nat.reduceSub, Nat.reduceMul, Nat.reduceLeDiff, Int.reduceToNat, Nat.reduceEqDiff, Nat.reduceMod, ht, hl, toE_at, d3]
    exact ⟨prZ_weak, (by (repeat (first | exact Hp.Le.refl _ | refine Hp.le_upd ?_ (fN _ _ _ _))))⟩
  have d3 : (e.wantF != 0) = false := by simpa using h3
  have hr : e.right = 0 := by
    unfold E.wantF at h3
    split at h3 <;> assumption
  have hm : prP n e = match findE n e with
    | none => (([], 0), 73)
    | some (l, x) => if ((mkP n l x).2 == 0 && sameE (mkP n l x).1 e) = true then ((l, x), 0) else (([], 0), 73) := by
    rw [prP, if_neg (by omega), if_neg (by omega)]
  rw [hm]
  simp (config := {contextual := true, maxSteps := 5000000}) only [go_sem, false_and, Nat.reduceAdd, Nat.reduceLT, Nat.reduceBEq, Nat.reduceSub, Nat.reduceMul, Nat.reduceLeDiff, Int.reduceToNat, Nat.reduceEqDiff, Nat.reduceMod, ht, hl, toE_at]
  refine callK_intro (sortF_call e hok) ?_
  simp (config := {contextual := true, maxSteps := 5000000}) only [go_sem, false_and, Nat.reduceAdd, Nat.reduceLT, Nat.reduceBEq, Nat.reduceSub, Nat.reduceMul, Nat.reduceLeDiff, Int.reduceToNat, Nat.reduceEqDiff, Nat.reduceMod, ht, hl, toE_at, d3]
  refine callK_intro (partsS_call n e hk hr) ?_
  unfold ptA
  cases hf : findE n e with
  | none =>
    simp (config := {contextual := true, maxSteps := 5000000}) only [go_sem, false_and, Nat.reduceAdd, Nat.reduceLT, Nat.reduceBEq, Nat.reduceSub, Nat.reduceMul, Nat.reduceLeDiff, Int.reduceToNat, Nat.reduceEqDiff, Nat.reduceMod, ht, hl, d3]
    exact ⟨prZ_weak, (by (repeat (first | exact Hp.Le.refl _ | refine Hp.le_upd ?_ (fN _ _ _ _))))⟩
  | some q =>
    obtain ⟨l, x⟩ := q
    simp only
    cases hq : ((mkP n l x).2 == 0 && sameE (mkP n l x).1 e)
    · rw [if_neg (by simp)]
      simp (config := {contextual := true, maxSteps := 5000000}) only [go_sem, false_and, Nat.reduceAdd, Nat.reduceLT, Nat.reduceBEq, Nat.reduceSub, Nat.reduceMul, Nat.reduceLeDiff, Int.reduceToNat, Nat.reduceEqDiff, Nat.reduceMod, ht, hl, d3, hq]
      exact ⟨prZ_weak, (by (repeat (first | exact Hp.Le.refl _ | refine Hp.le_upd ?_ (fN _ _ _ _))))⟩
    · rw [if_pos rfl]
      have hq0 : (mkP n l x).2 = 0 := by simp only [Bool.and_eq_true, beq_iff_eq] at hq; exact hq.1
      obtain ⟨hlr, h4⟩ := mkP_right hq0
      simp (config := {contextual := true, maxSteps := 5000000}) only [go_sem, false_and, Nat.reduceAdd, Nat.reduceLT, Nat.reduceBEq, Nat.reduceSub, Nat.reduceMul, Nat.reduceLeDiff, Int.reduceToNat, Nat.reduceEqDiff, Nat.reduceMod, ht, hl, d3, hq]
      have fN1 : ∀ (a b : Nat) z ty, a ≠ 1 → (H.upd ⟨2, 1 :: 0 :: k, 62⟩ (some (.cells [.list .nil [], .int .i64 0]))) ⟨z, a :: b :: k, ty⟩ = none := fun a b z ty ha => by
        rw [Hp.upd_ne _ _ (fun h => by cases h; exact ha rfl)]
        exact fN _ _ _ _
      refine loop_inv tabOk hS mixed [] (fun j x' => ∃ (i : Nat) (tk : Tok), x'.tmps.length = 62 ∧ x'.tmps.getD 4 AV.undef = .ptr ⟨2, 1 :: 0 :: k, 62⟩ 0 ∧ x'.tmps.getD 11 AV.undef = .ptr ⟨2, 2 :: 7 :: k, 62⟩ 0 ∧ x'.tmps.getD 43 AV.undef = .list .none (l.map E.cells) ∧ x'.tmps.getD 44 AV.undef = .int .i64 l.length ∧ x'.tmps.getD 45 AV.undef = .int .i64 i ∧
        x'.H ⟨2, 2 :: 7 :: k, 62⟩ = some (.cells [.list tk ((l.take i).map E.cells), .int .i64 x]) ∧ LstK (H.upd ⟨2, 1 :: 0 :: k, 62⟩ (some (.cells [.list .nil [], .int .i64 0]))) 3 33 4 k tk x'.H ∧ i + j = l.length) l.length ⟨0, .nil, ?_⟩ ?_
      · simp (config := {contextual := true, maxSteps := 5000000}) only [go_sem, false_and, Nat.reduceAdd, Nat.reduceLT, Nat.reduceBEq, Nat.reduceSub, Nat.reduceMul, Nat.reduceLeDiff, Int.reduceToNat, Nat.reduceEqDiff, Nat.reduceMod, ht, hl]
        exact ⟨rfl, ⟨Hp.le_upd (Hp.le_upd (Hp.Le.refl _) (fN1 _ _ _ _ (by decide))) (fN1 _ _ _ _ (by decide)), .inl rfl⟩, by omega⟩
      · rintro j ⟨t, m, H2⟩ ⟨i, tk, hl, g4, g11, g43, g44, g45, hX, hL, hij⟩
        simp only at hl g4 g11 g43 g44 g45 hX hL
        have hle : H.Le H2 := fun i y hi => hL.1 i y (by rw [Hp.upd_ne _ _ (fun h => by rw [h, fN] at hi; cases hi)]; exact hi)
        by_cases hi : i < l.length
        · have d : decide ((i : Int) < (l.length : Int)) = true := by simp [hi]
          have hw2 : IntKind.i64.wrap ((i : Int) + 1) = ((i + 1 : Nat) : Int) := by rw [wrap_i64] <;> omega
          obtain ⟨y, hy, hye⟩ := E.at_ l hi
          have hy0 := hlr y (List.mem_of_getElem? hy)
          have hyo := sh_ok y (right_sh' hy0)
          have hat : atR y [] = (y, 0) := by simp [atR, hy0, E.atP]
          have hyc : [[AV.int .i64 y.kind, .int .i64 y.id, .list .none (y.kids.map E.cells)]] = [y.cells] := by rw [E.cells_eq y]
          have hlt : (l.take i).length = i := by rw [List.length_take]; omega
          have hF : ∀ c d, LstK (H.upd ⟨2, 1 :: 0 :: k, 62⟩ (some (.cells [.list .nil [], .int .i64 0]))) 3 33 4 k tk ((H2.upd ⟨3, 2 :: (m + 1) :: k, 33⟩ c).upd ⟨3, 5 :: (m + 1 + 1) :: k, 33⟩ d) := fun c d => (hL.frame (fN1 _ _ _ _ (by decide)) (fun m he => by cases he)).frame (fN1 _ _ _ _ (by decide)) (fun m he => by cases he)
          have hP := fun c d f => ((hF c d).push (fun m => fN1 _ _ _ _ (by decide)) (y := y.cells) (ys := []) (m + 1 + 1 + 1)).frame (X := ⟨2, 2 :: 7 :: k, 62⟩) (e := f) (fN1 _ _ _ _ (by decide)) (fun m he => by cases he)
          simp only [tokBy_cons] at hP
          have hkk : ∀ c d, killTok ((H2.upd ⟨3, 2 :: (m + 1) :: k, 33⟩ c).upd ⟨3, 5 :: (m + 1 + 1) :: k, 33⟩ d) tk ⟨2, 2 :: 7 :: k, 62⟩ = some (.cells [.list tk ((l.take i).map E.cells), .int .i64 x]) := fun c d =>
            killTok_keeps (by rw [Hp.upd_ne _ _ (fun he => by cases he), Hp.upd_ne _ _ (fun he => by cases he)]; exact hX) ((hF c d).2.imp id fun ⟨m, h1, h2⟩ => ⟨_, h1, h2⟩)
          simp (config := {contextual := true, maxSteps := 5000000}) only [go_sem, false_and, Nat.reduceAdd, Nat.reduceLT, Nat.reduceBEq, Nat.reduceSub, Nat.reduceMul, Nat.reduceLeDiff, Int.reduceToNat, Nat.reduceEqDiff, Nat.reduceMod, hye, toE_at, g4, g11, g43, g44, g45, hX, hl, d, hw2, strip, tokBy_cons, hkk, hat]
          refine ⟨⟨by omega, by omega⟩, ⟨hyo, by decide⟩, fun y h => (h.elim (fun h => by rw [h]; rfl) (fun h => h.elim)), fun y h => by (obtain ⟨z, _, rfl⟩ := List.mem_map.1 h; exact E.cells_length _), rfl, by omega, by omega, (hF _ _).live, j - 1, by omega, i + 1, .tok ⟨3, 4 :: (m + 1 + 1 + 1) :: k, 33⟩, rfl, ?_, hP _ _ _, by omega⟩
          rw [hyc, take_map _ hy]
        · have d : decide ((i : Int) < (l.length : Int)) = false := by simp; omega
          have e6 : l.take i = l := List.take_of_length_le (by omega)
          rw [e6] at hX
          have hR : H2 ⟨2, 1 :: 0 :: k, 62⟩ = some (.cells [.list .nil [], .int .i64 0]) := hL.1 _ _ (Hp.upd_same _ _ _)
          simp (config := {contextual := true, maxSteps := 5000000}) only [go_sem, false_and, Nat.reduceAdd, Nat.reduceLT, Nat.reduceBEq, Nat.reduceSub, Nat.reduceMul, Nat.reduceLeDiff, Int.reduceToNat, Nat.reduceEqDiff, Nat.reduceMod, g4, g11, g43, g44, g45, hX, hl, d, hR]
          exact ⟨tup2_weak (pr_weak rfl), Hp.le_upd hle (fN _ _ _ _)⟩
def specIp : Spec := Spec.no.add 45 (sp2 dI dE (fun _ e => e.ok) fun n e => .tup [prA (prP n e).1.1 (prP n e).1.2, .int .i64 (prP n e).2])
theorem specIp_ok : SpecOk Tryz.prog w0 specIp := Spec.no_ok.add (sp2_ok fun n e h k H => partsT_call n e h)
theorem isS_call (n : Int) (e : E) (hok : e.ok) : CallAt Tryz.prog w0 k 26 [.int .i64 n, e.av] H H (.tup [.bool ((prP n e).2 == 0), .int .i64 (if (prP n e).2 = 73 then 0 else (prP n e).2)]) := by
  refine callAt tabOk specIp_ok mixed Tryz.func26 rfl rfl Tryz.results26 Tryz.ntmps26 (by simp) [] ?_
  intro hfr t hl ht
  simp only [At, Nat.reduceAdd, List.cons_append, List.nil_append] at ht
  have fN : ∀ (a b : Nat) z ty, H ⟨z, a :: b :: k, ty⟩ = none := fun a b z ty => hfr _ (sfx2 _ _ _)
  by_cases h : (prP n e).2 = 73
  · rw [if_pos h]
    simp (config := {contextual := true, maxSteps := 5000000}) only [go_sem, false_and, Nat.reduceAdd, Nat.reduceLT, Nat.reduceBEq, Nat.reduceSub, Nat.reduceMul, Nat.reduceLeDiff, Int.reduceToNat, Nat.reduceEqDiff, Nat.reduceMod, ht, hl, specIp, toE_at, prA, h, Int.reduceBEq]
    exact ⟨hok, (by (repeat (first | exact Hp.Le.refl _ | refine Hp.le_upd ?_ (fN _ _ _ _))))⟩
  · have d : ((prP n e).2 == 73) = false := by simpa using h
    rw [if_neg h]
    simp (config := {contextual := true, maxSteps := 5000000}) only [go_sem, false_and, Nat.reduceAdd, Nat.reduceLT, Nat.reduceBEq, Nat.reduceSub, Nat.reduceMul, Nat.reduceLeDiff, Int.reduceToNat, Nat.reduceEqDiff, Nat.reduceMod, ht, hl, specIp, toE_at, prA, d]
    exact ⟨hok, (by (repeat (first | exact Hp.Le.refl _ | refine Hp.le_upd ?_ (fN _ _ _ _))))⟩
end Go.Proofs.YtkdendaohlnlcaaGreat.Av

/- Of a schema the reference and the program tell the same. Plain. -/
namespace Go.Proofs.YtkdendaohlnlcaaGreat.Av
theorem sortedE_len : ∀ {l : List E} {bs : List Bool}, sortedE l bs = true → l.length = bs.length
  | [], [], _ => rfl
  | e :: es, b :: bs, h => by
    simp only [sortedE, Bool.and_eq_true] at h
    simp only [List.length_cons, sortedE_len h.2]
  | [], _ :: _, h => by simp [sortedE] at h
  | _ :: _, [], h => by simp [sortedE] at h
theorem madeE_raw {n x : Int} {l : List E} (hp : PartsK n l) (h : (rawE n l x).right = 0) : madeE n l x = some (rawE n l x) := by
  unfold madeE
  rw [if_neg]
  rintro ⟨rfl, hz⟩
  rcases hp with ⟨h4, _⟩ | ⟨h4, _⟩ | ⟨h4, _⟩ | ⟨_, a, b, rfl, ha, hb⟩ | ⟨h4, _⟩ | ⟨h4, _⟩ | ⟨h4, _⟩ <;> first | omega | skip
  have hr : (im (al x a) (a.put x b)).right = 0 := h
  have hk := right_kid (i := 1) hr rfl
  have := (right_eq.1 hk).1
  have hz : 1000 < (a.put x b).sz := hz
  omega
theorem mkR_ok_iff {n x : Int} {l : List E} {e : E} (hr : e.right = 0) : ((mkR n l x).2 = 0 ∧ (mkR n l x).1.like e = true) ↔ mkOk n l x e = true := by
  constructor
  · rintro ⟨h, hl⟩
    unfold mkR at h hl
    by_cases hk : 1 ≤ n ∧ n ≤ 7
    rotate_left
    · rw [if_pos hk] at h
      cases h
    rw [if_neg (by omega)] at h hl
    by_cases hb : l.length = (sortsE n).length ∧ (0 ≤ x ∧ x ≤ 63) ∧ (boundE n = true ∨ x = 0)
    rotate_left
    · rw [if_pos hb] at h
      cases h
    rw [if_neg (fun g => g hb)] at h hl
    by_cases hs : sortedC l (sortsE n) = 0
    rotate_left
    · rw [if_pos hs] at h
      exact absurd h hs
    rw [if_neg (by omega)] at h hl
    have hse := (sortedC_zero hb.1).1 hs
    cases hd : sideE n l x
    · rw [if_pos hd] at h
      cases h
    rw [if_neg (by rw [hd]; simp)] at h hl
    cases hm : madeE n l x with
    | none =>
      rw [hm] at h
      cases h
    | some z =>
      rw [hm] at h hl
      simp only at h hl
      have hz : z = rawE n l x := by
        unfold madeE at hm
        split at hm <;> cases hm
        rfl
      subst hz
      by_cases h0 : (rawE n l x).right = 0
      · rw [if_pos h0] at hl
        simp only [mkOk, hk, hse, hb.2.1, hd, hl, hr, and_self, decide_true, Bool.and_self, Bool.true_and, beq_self_eq_true, Bool.and_true]
        rcases hb.2.2 with g | g <;> simp [g]
      · rw [if_neg h0] at h
        exact absurd h h0
  · intro h
    obtain ⟨hk, hs, hx, hb, hd, hraw, _⟩ := mkOk_parts h
    have hlen := sortedE_len hs
    have hp := partsK hk hs
    have h0 : (rawE n l x).right = 0 := by rw [hraw]; exact hr
    have hm := madeE_raw hp h0
    have hR : mkR n l x = (rawE n l x, 0) := by
      unfold mkR
      rw [if_neg (by omega), if_neg (fun g => g ⟨hlen, hx, hb⟩), if_neg (by rw [(sortedC_zero hlen).2 hs]; simp), if_neg (by rw [hd]; simp), hm]
      simp only [h0, if_true]
    rw [hR]
    refine ⟨rfl, ?_⟩
    simp only [mkOk, Bool.and_eq_true] at h
    exact h.2.2.2.2.2.1
theorem rawE_kind {n x : Int} {l : List E} (hp : PartsK n l) : 0 ≤ (rawE n l x).kind := by
  rcases hp with ⟨rfl, a, b, rfl, ha, hb⟩ | ⟨rfl, a, b, c, rfl, ha, hb, hc⟩ | ⟨rfl, a, b, rfl, ha, hb⟩ | ⟨rfl, a, b, rfl, ha, hb⟩ | ⟨rfl, a, b, rfl, ha, hb⟩ | ⟨rfl, a, rfl, ha⟩ | ⟨rfl, a, b, c, d, rfl, ha, hb, hc, hd⟩
  · exact (by decide : (0 : Int) ≤ 6)
  · exact (by decide : (0 : Int) ≤ 6)
  · exact (by decide : (0 : Int) ≤ 6)
  · exact (by decide : (0 : Int) ≤ 6)
  · exact (by decide : (0 : Int) ≤ 6)
  · exact (by decide : (0 : Int) ≤ 4)
  · exact (by decide : (0 : Int) ≤ 6)
/-- What the program makes, where it makes it. -/
theorem mkG_ok {n x : Int} {l : List E} (hx : 0 ≤ x ∧ x ≤ 63) (hp : PartsK n l) (hs : sideE n l x = true) (hr : (rawE n l x).right = 0) : mkG n l x = (rawE n l x, 0) := by
  have hF : mkF n l x = (rawE n l x, true) := by
    unfold mkF
    by_cases h4 : n = 4
    · rw [if_pos h4]
      subst h4
      rcases hp with ⟨h4, _⟩ | ⟨h4, _⟩ | ⟨h4, _⟩ | ⟨_, a, b, rfl, ha, hb⟩ | ⟨h4, _⟩ | ⟨h4, _⟩ | ⟨h4, _⟩ <;> first | (exact absurd h4 (by decide)) | skip
      have hf : freeForE b x a = true := (freeFor_cau hx ha.1 hb.1 hb.2).trans hs
      have hput : (a.put x b).right = 0 := right_kid (i := 1) (show (im (al x a) (a.put x b)).right = 0 from hr) rfl
      have hsz := (right_eq.1 hput).1
      have hp2 : putR a x b = (a.put x b, 0) := by
        have ha0 : askedE a x b = 0 := by rw [askedE, if_pos hx, if_pos ha.1, if_pos hb.1, if_pos hb.2]
        rw [putR, if_pos ha0, putE, if_pos hf, bndE, if_neg (by omega), rgt, if_pos hput]
      have hc : insC a x b = 0 := by rw [insC, hp2, if_neg (by rintro ⟨h, _⟩; cases h)]
      show insE a x b = _
      rw [insE, hc, hp2, if_neg (by simp), if_neg (by simp)]
      rfl
    · rw [if_neg h4, hs]
  have hk := rawE_kind (x := x) hp
  rw [mkG, hF, if_neg (by simp), if_neg (by simp only; omega), atR_nil]
  simp only [rgt, hr, if_true]
theorem mkG_only {n x : Int} {l : List E} (hx : 0 ≤ x ∧ x ≤ 63) (hp : PartsK n l) (h : (mkG n l x).2 = 0) : sideE n l x = true ∧ (rawE n l x).right = 0 := by
  by_cases h4 : n = 4
  · subst h4
    rcases hp with ⟨h4, _⟩ | ⟨h4, _⟩ | ⟨h4, _⟩ | ⟨_, a, b, rfl, ha, hb⟩ | ⟨h4, _⟩ | ⟨h4, _⟩ | ⟨h4, _⟩ <;> first | (exact absurd h4 (by decide)) | skip
    have hf : freeForE b x a = sideE 4 [a, b] x := freeFor_cau hx ha.1 hb.1 hb.2
    have ha0 : askedE a x b = 0 := by rw [askedE, if_pos hx, if_pos ha.1, if_pos hb.1, if_pos hb.2]
    have hF : mkF 4 [a, b] x = insE a x b := rfl
    rw [mkG, hF] at h
    have hrr := right_rng (a.put x b)
    cases hd : sideE 4 [a, b] x
    · rw [hd] at hf
      have hp2 : putR a x b = (noE, 50) := by rw [putR, if_pos ha0, putE, if_neg (by rw [hf]; simp)]
      have hI : insE a x b = (noE, false) := by rw [insE, if_pos (by rw [hp2])]
      rw [hI, if_pos rfl] at h
      cases h
    · rw [hd] at hf
      have hp2 : putR a x b = bndE x b a := by rw [putR, if_pos ha0, putE, if_pos hf]
      have h50 : (putR a x b).2 ≠ 50 := by
        rw [hp2]
        unfold bndE rgt
        (repeat' split) <;> simp only <;> omega
      have hcr : 0 ≤ insC a x b := by
        have := putR_rng a x b
        unfold insC
        split <;> omega
      by_cases hc : insC a x b = 0
      · have h0 : (putR a x b).2 = 0 := by
          unfold insC at hc
          split at hc
          · cases hc
          · exact hc
        have hv : (putR a x b).1 = a.put x b := by
          rw [hp2] at h0 ⊢
          unfold bndE rgt at h0 ⊢
          split
          · rename_i g
            rw [if_pos g] at h0
            cases h0
          · rename_i g
            rw [if_neg g] at h0
            split
            · rfl
            · rename_i g2
              rw [if_neg g2] at h0
              exact absurd h0 g2
        have hI : insE a x b = (im (al x a) (a.put x b), true) := by rw [insE, if_neg h50, if_neg (fun g => g hc), hv]
        rw [hI, if_neg (by simp), if_neg (by show ¬ ((6 : Int) < 0); decide), atR_nil] at h
        refine ⟨rfl, ?_⟩
        show (im (al x a) (a.put x b)).right = 0
        simp only [rgt] at h
        split at h
        · assumption
        · exact h
      · have hI : insE a x b = (.mk (-insC a x b) 0 [], true) := by rw [insE, if_neg h50, if_pos hc]
        rw [hI, if_neg (by simp), if_pos (by show -insC a x b < 0; omega)] at h
        exact absurd (show insC a x b = 0 by have : -(-insC a x b) = 0 := h; omega) hc
  · have hF : mkF n l x = (rawE n l x, sideE n l x) := by rw [mkF, if_neg h4]
    have hk := rawE_kind (x := x) hp
    rw [mkG, hF] at h
    cases hd : sideE n l x
    · rw [hd, if_pos rfl] at h
      cases h
    · rw [hd, if_neg (by simp), if_neg (by simp only; omega), atR_nil] at h
      refine ⟨rfl, ?_⟩
      simp only [rgt] at h
      split at h
      · assumption
      · exact h
theorem mkP_ok_iff {n x : Int} {l : List E} {e : E} (hr : e.right = 0) : ((mkP n l x).2 == 0 && sameE (mkP n l x).1 e) = mkOk n l x e := by
  rw [Bool.eq_iff_iff]
  constructor
  · intro h
    simp only [Bool.and_eq_true, beq_iff_eq] at h
    obtain ⟨h, hl⟩ := h
    unfold mkP at h hl
    by_cases hk : 1 ≤ n ∧ n ≤ 7
    rotate_left
    · rw [if_pos hk] at h
      cases h
    rw [if_neg (by omega)] at h hl
    by_cases hb : l.length = (sortsE n).length ∧ (0 ≤ x ∧ x ≤ 63) ∧ (boundE n = true ∨ x = 0)
    rotate_left
    · rw [if_pos hb] at h
      cases h
    rw [if_neg (fun g => g hb)] at h hl
    by_cases hs : sortedC l (sortsE n) = 0
    rotate_left
    · rw [if_pos hs] at h
      exact absurd h hs
    rw [if_neg (by omega)] at h hl
    have hse := (sortedC_zero hb.1).1 hs
    have hp := partsK hk hse
    obtain ⟨hd, h0⟩ := mkG_only hb.2.1 hp h
    rw [mkG_ok hb.2.1 hp hd h0, sameE_right h0 hr] at hl
    simp only [mkOk, hk, hse, hb.2.1, hd, hl, hr, and_self, decide_true, Bool.and_self, Bool.true_and, beq_self_eq_true, Bool.and_true]
    rcases hb.2.2 with g | g <;> simp [g]
  · intro h
    obtain ⟨hk, hs, hx, hb, hd, hraw, _⟩ := mkOk_parts h
    have hlen := sortedE_len hs
    have hp := partsK hk hs
    have h0 : (rawE n l x).right = 0 := by rw [hraw]; exact hr
    have hP : mkP n l x = (rawE n l x, 0) := by
      unfold mkP
      rw [if_neg (by omega), if_neg (fun g => g ⟨hlen, hx, hb⟩), if_neg (by rw [(sortedC_zero hlen).2 hs]; simp), mkG_ok hx hp hd h0]
    rw [hP, hraw, sameE_right hr hr]
    simp [E.like_iff]
/-- Both tell the same of a schema. -/
theorem pr_same (n : Int) (e : E) : (prP n e).2 = (prR n e).2 := by
  unfold prP prR
  by_cases hk : 1 ≤ n ∧ n ≤ 7
  rotate_left
  · rw [if_pos hk, if_pos hk]
  have hk2 : ¬ ¬ (1 ≤ n ∧ n ≤ 7) := fun g => g hk
  rw [if_neg hk2, if_neg hk2]
  by_cases hw : e.wantF = 0
  rotate_left
  · rw [if_pos hw, if_pos hw]
  have hw2 : ¬ (e.wantF ≠ 0) := fun g => g hw
  rw [if_neg hw2, if_neg hw2]
  have hr : e.right = 0 := by
    unfold E.wantF at hw
    split at hw <;> assumption
  have hRi := mkR_ok_iff (n := n) (l := (guessE n e).1) (x := (guessE n e).2) hr
  have hPR := isP_isR n e
  cases hi : isR n e
  · have hR : ¬ ((mkR n (guessE n e).1 (guessE n e).2).2 = 0 ∧ (mkR n (guessE n e).1 (guessE n e).2).1.like e = true) := fun g => by
      have := hRi.1 g
      rw [isR, this] at hi
      cases hi
    have hz : (if (mkR n (guessE n e).1 (guessE n e).2).2 ≠ 0 then (([], 0), 73) else if (mkR n (guessE n e).1 (guessE n e).2).1.like e = false then (([], 0), 73) else (guessE n e, 0) : (List E × Int) × Int) = (([], 0), 73) := by
      by_cases h2 : (mkR n (guessE n e).1 (guessE n e).2).2 = 0
      · rw [if_neg (fun g => g h2), if_pos (by simpa using fun g => hR ⟨h2, g⟩)]
      · rw [if_pos h2]
    rw [hz]
    rw [hi] at hPR
    unfold isP at hPR
    cases hf : findE n e with
    | none => rfl
    | some q =>
      obtain ⟨l, x⟩ := q
      rw [hf] at hPR
      simp only at hPR ⊢
      rw [mkP_ok_iff hr, hPR]
      rfl
  · rw [isR] at hi
    obtain ⟨h2, h3⟩ := hRi.2 hi
    rw [if_neg (fun g => g h2), if_neg (by rw [h3]; simp)]
    rw [isR, hi] at hPR
    unfold isP at hPR
    cases hf : findE n e with
    | none =>
      rw [hf] at hPR
      cases hPR
    | some q =>
      obtain ⟨l, x⟩ := q
      rw [hf] at hPR
      simp only at hPR ⊢
      rw [mkP_ok_iff hr, hPR]
      rfl
end Go.Proofs.YtkdendaohlnlcaaGreat.Av

/- Detach, Gen: the program's and the reference's. No condition. -/
namespace Go.Proofs.YtkdendaohlnlcaaGreat.Av
set_option linter.unusedVariables false
set_option linter.unusedSimpArgs false
set_option maxRecDepth 4000
set_option maxHeartbeats 1000000
variable {w0 : Base} {k : List Nat} {H : Hp}
def anyT : List E → Bool
  | [] => false
  | e :: es => e.term || anyT es
theorem anyT_drop {l : List E} {i : Nat} {x : E} (hx : l[i]? = some x) : anyT (l.drop i) = (x.term || anyT (l.drop (i + 1))) := by
  obtain ⟨h, rfl⟩ := List.getElem?_eq_some_iff.1 hx
  rw [List.drop_eq_getElem_cons h, anyT]
def forC (l : List E) : Int := if firstBad l = 0 then (if anyT l = true then 40 else 0) else firstBad l
theorem formulas_call (l : List E) (hl4 : (l.length : Int) ≤ 9223372036854775807) (hok : ∀ e ∈ l, e.ok) : CallAt Tryz.prog w0 k 46 [.list .none (l.map E.cells)] H H (.int .i64 (forC l)) := by
  refine callAt tabOk specSs_ok mixed Tryz.func46 rfl rfl Tryz.results46 Tryz.ntmps46 (by simp) [] ?_
  intro hfr t hl ht
  simp only [At, Nat.reduceAdd, List.cons_append, List.nil_append] at ht
  have fN : ∀ (a b : Nat) z ty, H ⟨z, a :: b :: k, ty⟩ = none := fun a b z ty => hfr _ (sfx2 _ _ _)
  unfold forC
  simp (config := {contextual := true, maxSteps := 5000000}) only [go_sem, false_and, Nat.reduceAdd, Nat.reduceLT, Nat.reduceBEq, Nat.reduceSub, Nat.reduceMul, Nat.reduceLeDiff, Int.reduceToNat, Nat.reduceEqDiff, Nat.reduceMod, ht, hl]
  refine loop_inv tabOk specSs_ok mixed [] (fun j x => ∃ i : Nat, x.tmps.length = 29 ∧ x.tmps.getD 0 AV.undef = .list .none (l.map E.cells) ∧ x.tmps.getD 8 AV.undef = .list .none (l.map E.cells) ∧ x.tmps.getD 9 AV.undef = .int .i64 l.length ∧ x.tmps.getD 10 AV.undef = .int .i64 i ∧ H.Le x.H ∧ i + j = l.length ∧ firstBad l = firstBad (l.drop i)) l.length ⟨0, ?_⟩ ?_
  · simp (config := {contextual := true, maxSteps := 5000000}) only [go_sem, false_and, Nat.reduceAdd, Nat.reduceLT, Nat.reduceBEq, Nat.reduceSub, Nat.reduceMul, Nat.reduceLeDiff, Int.reduceToNat, Nat.reduceEqDiff, Nat.reduceMod, ht, hl]
    simp [Hp.Le.refl]
  · rintro j ⟨t, m, H'⟩ ⟨i, hl, g0, g8, g9, g10, hH, hij, hfb⟩
    simp only at hl g0 g8 g9 g10 hH
    by_cases hi : i < l.length
    · have hd : decide ((i : Int) < (l.length : Int)) = true := by simp [hi]
      have hw2 : IntKind.i64.wrap ((i : Int) + 1) = ((i + 1 : Nat) : Int) := by rw [wrap_i64] <;> omega
      obtain ⟨x, hx, hxe⟩ := E.at_ l hi
      have hxo := hok x (List.mem_of_getElem? hx)
      have hdr := firstBad_drop hx
      by_cases h0 : x.right = 0
      · have hb : (x.right != 0) = false := by simp [h0]
        rw [if_pos h0] at hdr
        simp (config := {contextual := true, maxSteps := 5000000}) only [go_sem, false_and, Nat.reduceAdd, Nat.reduceLT, Nat.reduceBEq, Nat.reduceSub, Nat.reduceMul, Nat.reduceLeDiff, Int.reduceToNat, Nat.reduceEqDiff, Nat.reduceMod, hxe, specSs, toE_at, g0, g8, g9, g10, hl, hd, hw2, hb]
        exact ⟨⟨by omega, by omega⟩, hxo, j - 1, by omega, i + 1, rfl, Hp.le_upd hH (fN _ _ _ _), by omega, by rw [hfb, hdr]⟩
      · have hb : (x.right != 0) = true := by simpa using h0
        rw [if_neg h0] at hdr
        have hf : firstBad l = x.right := by rw [hfb, hdr]
        rw [hf, if_neg h0]
        simp (config := {contextual := true, maxSteps := 5000000}) only [go_sem, false_and, Nat.reduceAdd, Nat.reduceLT, Nat.reduceBEq, Nat.reduceSub, Nat.reduceMul, Nat.reduceLeDiff, Int.reduceToNat, Nat.reduceEqDiff, Nat.reduceMod, hxe, specSs, toE_at, g0, g8, g9, g10, hl, hd, hw2, hb]
        exact ⟨⟨by omega, by omega⟩, hxo, Hp.le_upd hH (fN _ _ _ _)⟩
    · have hd : decide ((i : Int) < (l.length : Int)) = false := by simp; omega
      have hf : firstBad l = 0 := by rw [hfb, List.drop_of_length_le (by omega)]; rfl
      have hall := firstBad_zero.1 hf
      rw [hf, if_pos rfl]
      simp (config := {contextual := true, maxSteps := 5000000}) only [go_sem, false_and, Nat.reduceAdd, Nat.reduceLT, Nat.reduceBEq, Nat.reduceSub, Nat.reduceMul, Nat.reduceLeDiff, Int.reduceToNat, Nat.reduceEqDiff, Nat.reduceMod, specSs, g0, g8, g9, g10, hl, hd]
      refine loop_inv tabOk specSs_ok mixed [] (fun j x => ∃ i : Nat, x.tmps.length = 29 ∧ x.tmps.getD 20 AV.undef = .list .none (l.map E.cells) ∧ x.tmps.getD 21 AV.undef = .int .i64 l.length ∧ x.tmps.getD 22 AV.undef = .int .i64 i ∧ H.Le x.H ∧ i + j = l.length ∧ anyT l = anyT (l.drop i)) l.length ⟨0, ?_⟩ ?_
      · simp (config := {contextual := true, maxSteps := 5000000}) only [go_sem, false_and, Nat.reduceAdd, Nat.reduceLT, Nat.reduceBEq, Nat.reduceSub, Nat.reduceMul, Nat.reduceLeDiff, Int.reduceToNat, Nat.reduceEqDiff, Nat.reduceMod, g0, g8, g9, g10, hl]
        simp [hH]
      · rintro j2 ⟨t, m2, H2⟩ ⟨i, hl, g20, g21, g22, hH2, hij, htb⟩
        simp only at hl g20 g21 g22 hH2
        by_cases hi : i < l.length
        · have hd : decide ((i : Int) < (l.length : Int)) = true := by simp [hi]
          have hw2 : IntKind.i64.wrap ((i : Int) + 1) = ((i + 1 : Nat) : Int) := by rw [wrap_i64] <;> omega
          obtain ⟨x, hx, hxe⟩ := E.at_ l hi
          have hxo := hok x (List.mem_of_getElem? hx)
          have hx0 := hall x (List.mem_of_getElem? hx)
          have hdr := anyT_drop hx
          cases hv : x.term
          · have hit : (x.right == 0 && x.term) = false := by simp [hv]
            rw [hv] at hdr
            simp (config := {contextual := true, maxSteps := 5000000}) only [go_sem, false_and, Nat.reduceAdd, Nat.reduceLT, Nat.reduceBEq, Nat.reduceSub, Nat.reduceMul, Nat.reduceLeDiff, Int.reduceToNat, Nat.reduceEqDiff, Nat.reduceMod, hxe, specSs, toE_at, g20, g21, g22, hl, hd, hw2, hit]
            exact ⟨⟨by omega, by omega⟩, hxo, j2 - 1, by omega, i + 1, rfl, Hp.le_upd hH2 (fN _ _ _ _), by omega, by rw [htb, hdr]; rfl⟩
          · have hit : (x.right == 0 && x.term) = true := by simp [hv, hx0]
            rw [hv] at hdr
            have hz : anyT l = true := by rw [htb, hdr]; rfl
            rw [hz, if_pos rfl]
            simp (config := {contextual := true, maxSteps := 5000000}) only [go_sem, false_and, Nat.reduceAdd, Nat.reduceLT, Nat.reduceBEq, Nat.reduceSub, Nat.reduceMul, Nat.reduceLeDiff, Int.reduceToNat, Nat.reduceEqDiff, Nat.reduceMod, hxe, specSs, toE_at, g20, g21, g22, hl, hd, hw2, hit]
            exact ⟨⟨by omega, by omega⟩, hxo, Hp.le_upd hH2 (fN _ _ _ _)⟩
        · have hd : decide ((i : Int) < (l.length : Int)) = false := by simp; omega
          have hz : anyT l = false := by rw [htb, List.drop_of_length_le (by omega)]; rfl
          rw [hz, if_neg (by simp)]
          simp (config := {contextual := true, maxSteps := 5000000}) only [go_sem, false_and, Nat.reduceAdd, Nat.reduceLT, Nat.reduceBEq, Nat.reduceSub, Nat.reduceMul, Nat.reduceLeDiff, Int.reduceToNat, Nat.reduceEqDiff, Nat.reduceMod, specSs, g20, g21, g22, hl, hd]
          exact hH2
/-- A list that a call was built of. -/
theorem for2_call (a b : E) (ha : a.ok) (hb : b.ok) : CallAt Tryz.prog w0 k 46 [.list .full [[.raw (.int .i64 a.kind), .raw (.int .i64 a.id), strip (.list .none (a.kids.map E.cells))], [.raw (.int .i64 b.kind), .raw (.int .i64 b.id), strip (.list .none (b.kids.map E.cells))]]] H H (.int .i64 (forC [a, b])) := by
  have h0 : AnsOk Tryz.prog w0 46 _ := sp1_ok (A := dL cE) (φ := fun l => (l.length : Int) ≤ 9223372036854775807 ∧ ∀ y ∈ l, y.ok) (v := fun l => .int .i64 (forC l)) fun l h k H => formulas_call l h.1 h.2
  have hx : [[AV.raw (.int .i64 a.kind), .raw (.int .i64 a.id), strip (.list .none (a.kids.map E.cells))], [.raw (.int .i64 b.kind), .raw (.int .i64 b.id), strip (.list .none (b.kids.map E.cells))]] = [a, b].map E.cells := by
    simp only [List.map_cons, List.map_nil, E.cells_eq]
    rfl
  rw [hx]
  exact h0 [.list .full ([a, b].map E.cells)] (([a, b].length : Int) ≤ 9223372036854775807 ∧ ∀ y ∈ [a, b], y.ok) _ (by simp only [sp1, dLE_at]; rfl) ⟨(by decide : ((2 : Nat) : Int) ≤ 9223372036854775807), by simpa using ⟨ha, hb⟩⟩ k H
theorem for1_call (a : E) (ha : a.ok) : CallAt Tryz.prog w0 k 46 [.list .full [[.raw (.int .i64 a.kind), .raw (.int .i64 a.id), strip (.list .none (a.kids.map E.cells))]]] H H (.int .i64 (forC [a])) := by
  have h0 : AnsOk Tryz.prog w0 46 _ := sp1_ok (A := dL cE) (φ := fun l => (l.length : Int) ≤ 9223372036854775807 ∧ ∀ y ∈ l, y.ok) (v := fun l => .int .i64 (forC l)) fun l h k H => formulas_call l h.1 h.2
  have hx : [[AV.raw (.int .i64 a.kind), .raw (.int .i64 a.id), strip (.list .none (a.kids.map E.cells))]] = [a].map E.cells := by
    simp only [List.map_cons, List.map_nil, E.cells_eq]
    rfl
  rw [hx]
  exact h0 [.list .full ([a].map E.cells)] (([a].length : Int) ≤ 9223372036854775807 ∧ ∀ y ∈ [a], y.ok) _ (by simp only [sp1, dLE_at]; rfl) ⟨(by decide : ((1 : Nat) : Int) ≤ 9223372036854775807), by simpa using ha⟩ k H
theorem srt2_call (a b : E) (ha : a.ok) (hb : b.ok) : CallAt Tryz.prog w0 k 52 [.list .full [[.raw (.int .i64 a.kind), .raw (.int .i64 a.id), strip (.list .none (a.kids.map E.cells))], [.raw (.int .i64 b.kind), .raw (.int .i64 b.id), strip (.list .none (b.kids.map E.cells))]], .raw (.string ⟨#[102, 102]⟩)] H H (.int .i64 (sortedC [a, b] [false, false])) := by
  have h0 : AnsOk Tryz.prog w0 52 _ := sp2_ok (A := dL cE) (B := dS) (φ := fun l s => s = sortB [false, false] ∧ l.length = 2 ∧ ∀ y ∈ l, y.ok) (v := fun l _ => .int .i64 (sortedC l [false, false])) fun l s h k H => by rw [h.1]; exact sorted07_call l [false, false] h.2.1 (by decide) h.2.2
  have hx : [[AV.raw (.int .i64 a.kind), .raw (.int .i64 a.id), strip (.list .none (a.kids.map E.cells))], [.raw (.int .i64 b.kind), .raw (.int .i64 b.id), strip (.list .none (b.kids.map E.cells))]] = [a, b].map E.cells := by
    simp only [List.map_cons, List.map_nil, E.cells_eq]
    rfl
  rw [hx]
  exact h0 [.list .full ([a, b].map E.cells), .raw (.string ⟨#[102, 102]⟩)] ((⟨#[102, 102]⟩ : ByteArray) = sortB [false, false] ∧ [a, b].length = 2 ∧ ∀ y ∈ [a, b], y.ok) _ (by simp only [sp2, dLE_at]; rfl) ⟨rfl, rfl, by simpa using ⟨ha, hb⟩⟩ k H
end Go.Proofs.YtkdendaohlnlcaaGreat.Av

/- Detach, Gen: the program's and the reference's, walked. No condition. -/
namespace Go.Proofs.YtkdendaohlnlcaaGreat.Av
set_option linter.unusedVariables false
set_option linter.unusedSimpArgs false
set_option maxRecDepth 4000
set_option maxHeartbeats 1000000
variable {w0 : Base} {k : List Nat} {H : Hp}
theorem forC_sorted (a b : E) : sortedC [a, b] [false, false] = forC [a, b] := by
  unfold sortedC forC
  have : (termsB [a, b] [false, false] = true) ↔ ¬ (anyT [a, b] = true) := by
    cases ha : a.term <;> cases hb : b.term <;> simp [termsB, anyT, ha, hb]
  by_cases h : firstBad [a, b] = 0
  · rw [if_pos h, if_pos h]
    cases h2 : anyT [a, b]
    · rw [if_pos (this.2 (by rw [h2]; simp)), if_neg (by simp)]
    · rw [if_neg (fun g => this.1 g h2), if_pos rfl]
  · rw [if_neg h, if_neg h]
theorem forC_zero {l : List E} (h : forC l = 0) : ∀ y ∈ l, y.right = 0 := by
  refine firstBad_zero.1 ?_
  unfold forC at h
  split at h
  · assumption
  · exact h
/-- What follows of two formulas. -/
def detE (p q : E) : E × Int := if forC [p, q] ≠ 0 then (noE, forC [p, q]) else if q.kind = 6 ∧ p.like (q.kids.getD 0 noE) = true then (q.kids.getD 1 noE, 0) else (noE, 80)
def specDr : Spec := (Spec.no.add 12 (sp2 dE dE (fun a _ => a.ok) fun a b => .bool (a.like b))).add 19 (sp1 dE (fun e => e.sh = true) fun e => e.av)
theorem specDr_ok : SpecOk Tryz.prog w0 specDr := (Spec.no_ok.add (sp2_ok fun a b h k H => like02_call a b h)).add (sp1_ok fun e h k H => copy_call e h)
def specDpr : Spec := (Spec.no.add 24 (sp2 dE dE (fun a b => a.ok ∧ b.ok) fun a b => .bool (sameE a b))).add 35 (sp2 dE (dL cI) (fun e p => e.ok ∧ (p.length : Int) ≤ 9223372036854775807) fun e p => .tup [(atR e p).1.av, .int .i64 (atR e p).2])
theorem specDpr_ok : SpecOk Tryz.prog w0 specDpr := (Spec.no_ok.add (sp2_ok fun a b h k H => same_call a b h.1 h.2)).add (sp2_ok fun e p h k H => at_call e p h.1 h.2)
theorem det08_call (p q : E) (hp : p.ok) (hq : q.ok) : CallAt Tryz.prog w0 k 33 [p.av, q.av] H H (.tup [(detE p q).1.av, .int .i64 (detE p q).2]) := by
  refine callAt tabOk specDr_ok mixed Tryz.func33 rfl rfl Tryz.results33 Tryz.ntmps33 (by simp) [] ?_
  intro hfr t hl ht
  simp only [At, Nat.reduceAdd, List.cons_append, List.nil_append] at ht
  have fN : ∀ (a b : Nat) z ty, H ⟨z, a :: b :: k, ty⟩ = none := fun a b z ty => hfr _ (sfx2 _ _ _)
  simp (config := {contextual := true, maxSteps := 5000000}) only [go_sem, false_and, Nat.reduceAdd, Nat.reduceLT, Nat.reduceBEq, Nat.reduceSub, Nat.reduceMul, Nat.reduceLeDiff, Int.reduceToNat, Nat.reduceEqDiff, Nat.reduceMod, ht, hl]
  refine callK_intro (srt2_call p q hp hq) ?_
  rw [forC_sorted]
  by_cases h0 : forC [p, q] = 0
  rotate_left
  · have d0 : (forC [p, q] != 0) = true := by simpa using h0
    rw [detE, if_pos h0]
    simp (config := {contextual := true, maxSteps := 5000000}) only [go_sem, false_and, Nat.reduceAdd, Nat.reduceLT, Nat.reduceBEq, Nat.reduceSub, Nat.reduceMul, Nat.reduceLeDiff, Int.reduceToNat, Nat.reduceEqDiff, Nat.reduceMod, ht, hl, d0]
    exact ⟨tup2_weak noEw_weak, (by (repeat (first | exact Hp.Le.refl _ | refine Hp.le_upd ?_ (fN _ _ _ _))))⟩
  have d0 : (forC [p, q] != 0) = false := by simpa using h0
  have hqr := forC_zero h0 q (by simp)
  rw [detE, if_neg (fun g => g h0)]
  by_cases h6 : q.kind = 6
  rotate_left
  · have c6 : (q.kind != 6) = true := by simpa using h6
    rw [if_neg (fun g => h6 g.1)]
    simp (config := {contextual := true, maxSteps := 5000000}) only [go_sem, false_and, Nat.reduceAdd, Nat.reduceLT, Nat.reduceBEq, Nat.reduceSub, Nat.reduceMul, Nat.reduceLeDiff, Int.reduceToNat, Nat.reduceEqDiff, Nat.reduceMod, ht, hl, d0, c6]
    (repeat' apply And.intro) <;> first | ((with_reducible (show drawOk _ = true)); kernel_rfl) | with_reducible assumption | omega | exact List.Pairwise.nil | ((with_reducible (show List.Pairwise _ _)); (refine pw_of ?_; (repeat' (first | exact trivial | apply And.intro)); all_goals (first | exact .inr rfl | exact .inr trivial | exact .inl (by kernel_rfl)))) | ((with_reducible (show Weak _ _)); first | exact tup2_weak noEw_weak) | (repeat (first | exact Hp.Le.refl _ | refine Hp.le_upd ?_ (fN _ _ _ _)))
  have c6 : (q.kind != 6) = false := by simpa using h6
  have hqs := right_sh' hqr
  have n2 := len6 hqs (.inl h6)
  obtain ⟨a, ga, ea⟩ := E.kid q (i := 0) (by omega)
  obtain ⟨b, gb, eb⟩ := E.kid q (i := 1) (by omega)
  have hga : q.kids.getD 0 noE = a := by rw [List.getD_eq_getElem?_getD, ga]; rfl
  have hgb : q.kids.getD 1 noE = b := by rw [List.getD_eq_getElem?_getD, gb]; rfl
  have hbs := E.sh_kid hqs gb
  rw [hga, hgb]
  cases hlk : p.like a
  · rw [if_neg (by simp)]
    simp (config := {contextual := true, maxSteps := 5000000}) only [go_sem, false_and, Nat.reduceAdd, Nat.reduceLT, Nat.reduceBEq, Nat.reduceSub, Nat.reduceMul, Nat.reduceLeDiff, Int.reduceToNat, Nat.reduceEqDiff, Nat.reduceMod, ht, hl, d0, c6, ea, eb, n2, specDr, toE_at, hlk]
    (repeat' apply And.intro) <;> first | ((with_reducible (show drawOk _ = true)); kernel_rfl) | with_reducible assumption | omega | exact List.Pairwise.nil | ((with_reducible (show List.Pairwise _ _)); (refine pw_of ?_; (repeat' (first | exact trivial | apply And.intro)); all_goals (first | exact .inr rfl | exact .inr trivial | exact .inl (by kernel_rfl)))) | ((with_reducible (show Weak _ _)); first | exact tup2_weak noEw_weak) | (repeat (first | exact Hp.Le.refl _ | refine Hp.le_upd ?_ (fN _ _ _ _)))
  · rw [if_pos ⟨h6, rfl⟩]
    simp (config := {contextual := true, maxSteps := 5000000}) only [go_sem, false_and, Nat.reduceAdd, Nat.reduceLT, Nat.reduceBEq, Nat.reduceSub, Nat.reduceMul, Nat.reduceLeDiff, Int.reduceToNat, Nat.reduceEqDiff, Nat.reduceMod, ht, hl, d0, c6, ea, eb, n2, specDr, toE_at, hlk]
    (repeat' apply And.intro) <;> first | ((with_reducible (show drawOk _ = true)); kernel_rfl) | with_reducible assumption | omega | exact List.Pairwise.nil | ((with_reducible (show List.Pairwise _ _)); (refine pw_of ?_; (repeat' (first | exact trivial | apply And.intro)); all_goals (first | exact .inr rfl | exact .inr trivial | exact .inl (by kernel_rfl)))) | ((with_reducible (show Weak _ _)); first | exact tup2_weak noEw_weak) | (repeat (first | exact Hp.Le.refl _ | refine Hp.le_upd ?_ (fN _ _ _ _)))
theorem detP_call (p q : E) (hp : p.ok) (hq : q.ok) : CallAt Tryz.prog w0 k 27 [p.av, q.av] H H (.tup [(detE p q).1.av, .int .i64 (detE p q).2]) := by
  refine callAt tabOk specDpr_ok mixed Tryz.func27 rfl rfl Tryz.results27 Tryz.ntmps27 (by simp) [] ?_
  intro hfr t hl ht
  simp only [At, Nat.reduceAdd, List.cons_append, List.nil_append] at ht
  have fN : ∀ (a b : Nat) z ty, H ⟨z, a :: b :: k, ty⟩ = none := fun a b z ty => hfr _ (sfx2 _ _ _)
  simp (config := {contextual := true, maxSteps := 5000000}) only [go_sem, false_and, Nat.reduceAdd, Nat.reduceLT, Nat.reduceBEq, Nat.reduceSub, Nat.reduceMul, Nat.reduceLeDiff, Int.reduceToNat, Nat.reduceEqDiff, Nat.reduceMod, ht, hl]
  refine callK_intro (for2_call p q hp hq) ?_
  by_cases h0 : forC [p, q] = 0
  rotate_left
  · have d0 : (forC [p, q] != 0) = true := by simpa using h0
    rw [detE, if_pos h0]
    simp (config := {contextual := true, maxSteps := 5000000}) only [go_sem, false_and, Nat.reduceAdd, Nat.reduceLT, Nat.reduceBEq, Nat.reduceSub, Nat.reduceMul, Nat.reduceLeDiff, Int.reduceToNat, Nat.reduceEqDiff, Nat.reduceMod, ht, hl, d0]
    exact ⟨tup2_weak noEw_weak, (by (repeat (first | exact Hp.Le.refl _ | refine Hp.le_upd ?_ (fN _ _ _ _))))⟩
  have d0 : (forC [p, q] != 0) = false := by simpa using h0
  have hpr := forC_zero h0 p (by simp)
  have hqr := forC_zero h0 q (by simp)
  rw [detE, if_neg (fun g => g h0)]
  by_cases h6 : q.kind = 6
  rotate_left
  · have c6 : (q.kind != 6) = true := by simpa using h6
    rw [if_neg (fun g => h6 g.1)]
    simp (config := {contextual := true, maxSteps := 5000000}) only [go_sem, false_and, Nat.reduceAdd, Nat.reduceLT, Nat.reduceBEq, Nat.reduceSub, Nat.reduceMul, Nat.reduceLeDiff, Int.reduceToNat, Nat.reduceEqDiff, Nat.reduceMod, ht, hl, d0, c6]
    (repeat' apply And.intro) <;> first | ((with_reducible (show drawOk _ = true)); kernel_rfl) | with_reducible assumption | omega | exact List.Pairwise.nil | ((with_reducible (show List.Pairwise _ _)); (refine pw_of ?_; (repeat' (first | exact trivial | apply And.intro)); all_goals (first | exact .inr rfl | exact .inr trivial | exact .inl (by kernel_rfl)))) | ((with_reducible (show Weak _ _)); first | exact tup2_weak noEw_weak) | (repeat (first | exact Hp.Le.refl _ | refine Hp.le_upd ?_ (fN _ _ _ _)))
  have c6 : (q.kind != 6) = false := by simpa using h6
  have hqs := right_sh' hqr
  have n2 := len6 hqs (.inl h6)
  obtain ⟨a, ga, ea⟩ := E.kid q (i := 0) (by omega)
  obtain ⟨b, gb, eb⟩ := E.kid q (i := 1) (by omega)
  have hga : q.kids.getD 0 noE = a := by rw [List.getD_eq_getElem?_getD, ga]; rfl
  have hgb : q.kids.getD 1 noE = b := by rw [List.getD_eq_getElem?_getD, gb]; rfl
  have hao := sh_ok a (E.sh_kid hqs ga)
  have hsm : sameE p a = p.like a := sameE_right hpr (right_kid hqr ga)
  have hat : atR q [1] = (b, 0) := by simp [atR, hqr, E.atP, gb]
  rw [hga, hgb]
  cases hlk : p.like a
  · rw [if_neg (by simp)]
    simp (config := {contextual := true, maxSteps := 5000000}) only [go_sem, false_and, Nat.reduceAdd, Nat.reduceLT, Nat.reduceBEq, Nat.reduceSub, Nat.reduceMul, Nat.reduceLeDiff, Int.reduceToNat, Nat.reduceEqDiff, Nat.reduceMod, ht, hl, d0, c6, ea, eb, n2, specDpr, toE_at, hsm, hlk]
    (repeat' apply And.intro) <;> first | ((with_reducible (show drawOk _ = true)); kernel_rfl) | with_reducible assumption | omega | exact List.Pairwise.nil | ((with_reducible (show List.Pairwise _ _)); (refine pw_of ?_; (repeat' (first | exact trivial | apply And.intro)); all_goals (first | exact .inr rfl | exact .inr trivial | exact .inl (by kernel_rfl)))) | ((with_reducible (show Weak _ _)); first | exact tup2_weak noEw_weak) | (repeat (first | exact Hp.Le.refl _ | refine Hp.le_upd ?_ (fN _ _ _ _)))
  · rw [if_pos ⟨h6, rfl⟩]
    simp (config := {contextual := true, maxSteps := 5000000}) only [go_sem, false_and, Nat.reduceAdd, Nat.reduceLT, Nat.reduceBEq, Nat.reduceSub, Nat.reduceMul, Nat.reduceLeDiff, Int.reduceToNat, Nat.reduceEqDiff, Nat.reduceMod, ht, hl, d0, c6, ea, eb, n2, specDpr, toE_at, hsm, hlk, hat]
    (repeat' apply And.intro) <;> first | ((with_reducible (show drawOk _ = true)); kernel_rfl) | with_reducible assumption | omega | exact List.Pairwise.nil | ((with_reducible (show List.Pairwise _ _)); (refine pw_of ?_; (repeat' (first | exact trivial | apply And.intro)); all_goals (first | exact .inr rfl | exact .inr trivial | exact .inl (by kernel_rfl)))) | ((with_reducible (show Weak _ _)); first | exact tup2_weak noEw_weak) | (repeat (first | exact Hp.Le.refl _ | refine Hp.le_upd ?_ (fN _ _ _ _)))
end Go.Proofs.YtkdendaohlnlcaaGreat.Av

/- Gen; what may be said: the program's and the reference's. No condition. -/
namespace Go.Proofs.YtkdendaohlnlcaaGreat.Av
set_option linter.unusedVariables false
set_option linter.unusedSimpArgs false
set_option maxRecDepth 4000
set_option maxHeartbeats 1000000
variable {w0 : Base} {k : List Nat} {H : Hp}
def genE (e : E) (v : Int) : E × Int := if ¬ (0 ≤ v ∧ v ≤ 63) then (noE, 1) else if forC [e] ≠ 0 then (noE, forC [e]) else rgt (al v e)
theorem alr_call (e : E) (v : Int) (hok : e.ok) : CallAt Tryz.prog w0 k 42 [.agg [.raw (.int .i64 7), .raw (.int .i64 v), .list .full [[.int .i64 e.kind, .int .i64 e.id, .list .none (e.kids.map E.cells)]]]] H H (.tup [(rgt (al v e)).1.av, .int .i64 (rgt (al v e)).2]) := by
  have h0 : AnsOk Tryz.prog w0 42 _ := sp1_ok (A := dE) (φ := fun e => e.ok) (v := fun e => .tup [(rgt e).1.av, .int .i64 (rgt e).2]) fun e h k H => rgt_call e h
  have hx : [[AV.int .i64 e.kind, .int .i64 e.id, .list .none (e.kids.map E.cells)]] = [e].map E.cells := by simp only [List.map_cons, List.map_nil, E.cells_eq]
  rw [hx]
  have hd : dE.dec (.agg [.raw (.int .i64 7), .raw (.int .i64 v), .list .full ([e].map E.cells)]) = some (al v e) := toE_at (al v e) .full
  exact h0 [.agg [.raw (.int .i64 7), .raw (.int .i64 v), .list .full ([e].map E.cells)]] ((al v e).ok) _ (by simp only [sp1, hd]; rfl) (al_ok hok) k H
theorem gen_call (e : E) (v : Int) (hok : e.ok) : CallAt Tryz.prog w0 k 28 [e.av, .int .i64 v] H H (.tup [(genE e v).1.av, .int .i64 (genE e v).2]) := by
  refine callAt tabOk Spec.no_ok mixed Tryz.func28 rfl rfl Tryz.results28 Tryz.ntmps28 (by simp) [] ?_
  intro hfr t hl ht
  simp only [At, Nat.reduceAdd, List.cons_append, List.nil_append] at ht
  have fN : ∀ (a b : Nat) z ty, H ⟨z, a :: b :: k, ty⟩ = none := fun a b z ty => hfr _ (sfx2 _ _ _)
  by_cases h1 : v < 0
  · have d1 : decide (v < 0) = true := decide_eq_true h1
    rw [genE, if_pos (by omega)]
    simp (config := {contextual := true, maxSteps := 5000000}) only [go_sem, false_and, Nat.reduceAdd, Nat.reduceLT, Nat.reduceBEq, Nat.reduceSub, Nat.reduceMul, Nat.reduceLeDiff, Int.reduceToNat, Nat.reduceEqDiff, Nat.reduceMod, ht, hl, d1]
    exact ⟨tup2_weak noEw_weak, (by (repeat (first | exact Hp.Le.refl _ | refine Hp.le_upd ?_ (fN _ _ _ _))))⟩
  have d1 : decide (v < 0) = false := decide_eq_false h1
  by_cases h2 : 63 < v
  · have d2 : decide (63 < v) = true := decide_eq_true h2
    rw [genE, if_pos (by omega)]
    simp (config := {contextual := true, maxSteps := 5000000}) only [go_sem, false_and, Nat.reduceAdd, Nat.reduceLT, Nat.reduceBEq, Nat.reduceSub, Nat.reduceMul, Nat.reduceLeDiff, Int.reduceToNat, Nat.reduceEqDiff, Nat.reduceMod, ht, hl, d1, d2]
    exact ⟨tup2_weak noEw_weak, (by (repeat (first | exact Hp.Le.refl _ | refine Hp.le_upd ?_ (fN _ _ _ _))))⟩
  have d2 : decide (63 < v) = false := decide_eq_false h2
  rw [genE, if_neg (by omega)]
  simp (config := {contextual := true, maxSteps := 5000000}) only [go_sem, false_and, Nat.reduceAdd, Nat.reduceLT, Nat.reduceBEq, Nat.reduceSub, Nat.reduceMul, Nat.reduceLeDiff, Int.reduceToNat, Nat.reduceEqDiff, Nat.reduceMod, ht, hl, d1, d2]
  refine callK_intro (for1_call e hok) ?_
  by_cases h0 : forC [e] = 0
  rotate_left
  · have d0 : (forC [e] != 0) = true := by simpa using h0
    rw [if_pos h0]
    simp (config := {contextual := true, maxSteps := 5000000}) only [go_sem, false_and, Nat.reduceAdd, Nat.reduceLT, Nat.reduceBEq, Nat.reduceSub, Nat.reduceMul, Nat.reduceLeDiff, Int.reduceToNat, Nat.reduceEqDiff, Nat.reduceMod, ht, hl, d1, d2, d0]
    exact ⟨tup2_weak noEw_weak, (by (repeat (first | exact Hp.Le.refl _ | refine Hp.le_upd ?_ (fN _ _ _ _))))⟩
  have d0 : (forC [e] != 0) = false := by simpa using h0
  have hr := forC_zero h0 e (by simp)
  rw [if_neg (fun g => g h0)]
  simp (config := {contextual := true, maxSteps := 5000000}) only [go_sem, false_and, Nat.reduceAdd, Nat.reduceLT, Nat.reduceBEq, Nat.reduceSub, Nat.reduceMul, Nat.reduceLeDiff, Int.reduceToNat, Nat.reduceEqDiff, Nat.reduceMod, ht, hl, d1, d2, d0]
  refine callK_intro (at_nil_call e hok) ?_
  rw [show atR e [] = (e, 0) from by simp [atR, hr, E.atP]]
  simp (config := {contextual := true, maxSteps := 5000000}) only [go_sem, false_and, Nat.reduceAdd, Nat.reduceLT, Nat.reduceBEq, Nat.reduceSub, Nat.reduceMul, Nat.reduceLeDiff, Int.reduceToNat, Nat.reduceEqDiff, Nat.reduceMod, ht, hl, d1, d2, d0, toE_at, strip]
  refine callK_intro (alr_call e v hok) ?_
  simp (config := {contextual := true, maxSteps := 5000000}) only [go_sem, false_and, Nat.reduceAdd, Nat.reduceLT, Nat.reduceBEq, Nat.reduceSub, Nat.reduceMul, Nat.reduceLeDiff, Int.reduceToNat, Nat.reduceEqDiff, Nat.reduceMod, ht, hl, d1, d2, d0]
  exact (by (repeat (first | exact Hp.Le.refl _ | refine Hp.le_upd ?_ (fN _ _ _ _))))
/-- What may be said. -/
def saidE (e : E) : Int := if e.wantF ≠ 0 then e.wantF else if e.unf.like e = true then 0 else 11
def specSd2 : Spec := ((Spec.no.add 29 (sp1 dE (fun e => e.ok) fun e => .int .i64 e.wantF)).add 30 (sp1 dE (fun e => e.sh = true) fun e => e.unf.av)).add 12 (sp2 dE dE (fun a _ => a.ok) fun a b => .bool (a.like b))
theorem specSd2_ok : SpecOk Tryz.prog w0 specSd2 := ((Spec.no_ok.add (sp1_ok fun e h k H => wantF_call e h)).add (sp1_ok fun e h k H => unfolded_call e h)).add (sp2_ok fun a b h k H => like02_call a b h)
theorem wantF_zero {e : E} (h : e.wantF = 0) : e.right = 0 ∧ e.term = false := by
  unfold E.wantF at h
  split at h
  · rename_i h0
    refine ⟨h0, ?_⟩
    split at h
    · cases h
    · rename_i g
      simpa using g
  · rename_i g
    exact absurd h g
theorem said22_call (e : E) (hok : e.ok) : CallAt Tryz.prog w0 k 15 [e.av] H H (.int .i64 (saidE e)) := by
  refine callAt tabOk specSd2_ok mixed Tryz.func15 rfl rfl Tryz.results15 Tryz.ntmps15 (by simp) [] ?_
  intro hfr t hl ht
  simp only [At, Nat.reduceAdd, List.cons_append, List.nil_append] at ht
  have fN : ∀ (a b : Nat) z ty, H ⟨z, a :: b :: k, ty⟩ = none := fun a b z ty => hfr _ (sfx2 _ _ _)
  by_cases h : e.wantF = 0
  · have d : (e.wantF != 0) = false := by simpa using h
    have hs := right_sh' (wantF_zero h).1
    have huo : e.unf.ok := E.unf_ok hs
    rw [saidE, if_neg (fun g => g h)]
    cases hk : e.unf.like e
    · rw [if_neg (by simp)]
      simp (config := {contextual := true, maxSteps := 5000000}) only [go_sem, false_and, Nat.reduceAdd, Nat.reduceLT, Nat.reduceBEq, Nat.reduceSub, Nat.reduceMul, Nat.reduceLeDiff, Int.reduceToNat, Nat.reduceEqDiff, Nat.reduceMod, ht, hl, specSd2, toE_at, d, hk]
      (repeat' apply And.intro) <;> first | ((with_reducible (show drawOk _ = true)); kernel_rfl) | with_reducible assumption | exact List.Pairwise.nil | (repeat (first | exact Hp.Le.refl _ | refine Hp.le_upd ?_ (fN _ _ _ _)))
    · rw [if_pos rfl]
      simp (config := {contextual := true, maxSteps := 5000000}) only [go_sem, false_and, Nat.reduceAdd, Nat.reduceLT, Nat.reduceBEq, Nat.reduceSub, Nat.reduceMul, Nat.reduceLeDiff, Int.reduceToNat, Nat.reduceEqDiff, Nat.reduceMod, ht, hl, specSd2, toE_at, d, hk]
      (repeat' apply And.intro) <;> first | ((with_reducible (show drawOk _ = true)); kernel_rfl) | with_reducible assumption | exact List.Pairwise.nil | (repeat (first | exact Hp.Le.refl _ | refine Hp.le_upd ?_ (fN _ _ _ _)))
  · have d : (e.wantF != 0) = true := by simpa using h
    rw [saidE, if_pos h]
    simp (config := {contextual := true, maxSteps := 5000000}) only [go_sem, false_and, Nat.reduceAdd, Nat.reduceLT, Nat.reduceBEq, Nat.reduceSub, Nat.reduceMul, Nat.reduceLeDiff, Int.reduceToNat, Nat.reduceEqDiff, Nat.reduceMod, ht, hl, specSd2, toE_at, d]
    exact hok
def specSd3 : Spec := (((Spec.no.add 21 (sp1 dE (fun e => e.ok) fun e => .int .i64 e.right)).add 22 (sp1 dE (fun e => e.ok) fun e => .bool (e.right == 0 && e.term))).add 23 (sp1 dE (fun e => e.ok) fun e => .tup [(plainE e).1.av, .int .i64 (plainE e).2])).add 24 (sp2 dE dE (fun a b => a.ok ∧ b.ok) fun a b => .bool (sameE a b))
theorem specSd3_ok : SpecOk Tryz.prog w0 specSd3 := (((Spec.no_ok.add (sp1_ok fun e h k H => rightX_call e h)).add (sp1_ok fun e h k H => isTermX_call e h)).add (sp1_ok fun e h k H => plainP_call e h)).add (sp2_ok fun a b h k H => same_call a b h.1 h.2)
theorem saidP_call (e : E) (hok : e.ok) : CallAt Tryz.prog w0 k 13 [e.av] H H (.int .i64 (saidE e)) := by
  refine callAt tabOk specSd3_ok mixed Tryz.func13 rfl rfl Tryz.results13 Tryz.ntmps13 (by simp) [] ?_
  intro hfr t hl ht
  simp only [At, Nat.reduceAdd, List.cons_append, List.nil_append] at ht
  have fN : ∀ (a b : Nat) z ty, H ⟨z, a :: b :: k, ty⟩ = none := fun a b z ty => hfr _ (sfx2 _ _ _)
  by_cases h0 : e.right = 0
  rotate_left
  · have d0 : (e.right != 0) = true := by simpa using h0
    have hw : e.wantF = e.right := by rw [E.wantF, if_neg h0]
    rw [saidE, hw, if_pos h0]
    simp (config := {contextual := true, maxSteps := 5000000}) only [go_sem, false_and, Nat.reduceAdd, Nat.reduceLT, Nat.reduceBEq, Nat.reduceSub, Nat.reduceMul, Nat.reduceLeDiff, Int.reduceToNat, Nat.reduceEqDiff, Nat.reduceMod, ht, hl, specSd3, toE_at, d0]
    exact hok
  have d0 : (e.right != 0) = false := by simpa using h0
  cases ht1 : e.term
  rotate_left
  · have hit : (e.right == 0 && e.term) = true := by simp [h0, ht1]
    have hw : e.wantF = 40 := by rw [E.wantF, if_pos h0, if_pos ht1]
    rw [saidE, hw, if_pos (by decide)]
    simp (config := {contextual := true, maxSteps := 5000000}) only [go_sem, false_and, Nat.reduceAdd, Nat.reduceLT, Nat.reduceBEq, Nat.reduceSub, Nat.reduceMul, Nat.reduceLeDiff, Int.reduceToNat, Nat.reduceEqDiff, Nat.reduceMod, ht, hl, specSd3, toE_at, d0, hit]
    (repeat' apply And.intro) <;> first | ((with_reducible (show drawOk _ = true)); kernel_rfl) | with_reducible assumption | exact List.Pairwise.nil | (repeat (first | exact Hp.Le.refl _ | refine Hp.le_upd ?_ (fN _ _ _ _)))
  have hit : (e.right == 0 && e.term) = false := by simp [ht1]
  have hw : e.wantF = 0 := by rw [E.wantF, if_pos h0, if_neg (by rw [ht1]; simp)]
  have hpl : plainE e = rgt e.unf := by rw [plainE, if_pos h0]
  rw [saidE, if_neg (fun g => g hw)]
  by_cases hu : e.unf.right = 0
  · have hru : rgt e.unf = (e.unf, 0) := by rw [rgt, if_pos hu]
    have huo := sh_ok _ (right_sh' hu)
    have hsm := sameE_right hu h0
    cases hk : e.unf.like e
    · rw [if_neg (by simp)]
      simp (config := {contextual := true, maxSteps := 5000000}) only [go_sem, false_and, Nat.reduceAdd, Nat.reduceLT, Nat.reduceBEq, Nat.reduceSub, Nat.reduceMul, Nat.reduceLeDiff, Int.reduceToNat, Nat.reduceEqDiff, Nat.reduceMod, ht, hl, specSd3, toE_at, d0, hit, hpl, hru, hsm, hk, Int.reduceBNe]
      (repeat' apply And.intro) <;> first | ((with_reducible (show drawOk _ = true)); kernel_rfl) | with_reducible assumption | exact List.Pairwise.nil | (repeat (first | exact Hp.Le.refl _ | refine Hp.le_upd ?_ (fN _ _ _ _)))
    · rw [if_pos rfl]
      simp (config := {contextual := true, maxSteps := 5000000}) only [go_sem, false_and, Nat.reduceAdd, Nat.reduceLT, Nat.reduceBEq, Nat.reduceSub, Nat.reduceMul, Nat.reduceLeDiff, Int.reduceToNat, Nat.reduceEqDiff, Nat.reduceMod, ht, hl, specSd3, toE_at, d0, hit, hpl, hru, hsm, hk, Int.reduceBNe]
      (repeat' apply And.intro) <;> first | ((with_reducible (show drawOk _ = true)); kernel_rfl) | with_reducible assumption | exact List.Pairwise.nil | (repeat (first | exact Hp.Le.refl _ | refine Hp.le_upd ?_ (fN _ _ _ _)))
  · have hru : rgt e.unf = (noE, e.unf.right) := by rw [rgt, if_neg hu]
    have du : (e.unf.right != 0) = true := by simpa using hu
    have hk : ¬ e.unf.like e = true := fun g => hu (by rw [E.like_iff.1 g]; exact h0)
    rw [if_neg hk]
    simp (config := {contextual := true, maxSteps := 5000000}) only [go_sem, false_and, Nat.reduceAdd, Nat.reduceLT, Nat.reduceBEq, Nat.reduceSub, Nat.reduceMul, Nat.reduceLeDiff, Int.reduceToNat, Nat.reduceEqDiff, Nat.reduceMod, ht, hl, specSd3, toE_at, d0, hit, hpl, hru, du]
    (repeat' apply And.intro) <;> first | ((with_reducible (show drawOk _ = true)); kernel_rfl) | with_reducible assumption | exact List.Pairwise.nil | (repeat (first | exact Hp.Le.refl _ | refine Hp.le_upd ?_ (fN _ _ _ _)))
end Go.Proofs.YtkdendaohlnlcaaGreat.Av

/- Lines of a proof; what follows: the reference's. No condition. -/
namespace Go.Proofs.YtkdendaohlnlcaaGreat.Av
set_option linter.unusedVariables false
set_option linter.unusedSimpArgs false
set_option maxRecDepth 4000
set_option maxHeartbeats 1000000
variable {w0 : Base} {k : List Nat} {H : Hp}
structure Line where
  says : E
  by_ : Int
  a : Int
  b : Int
def Line.cells (s : Line) : List AV := [.int .i64 s.says.kind, .int .i64 s.says.id, .list .none (s.says.kids.map E.cells), .int .i64 s.by_, .int .i64 s.a, .int .i64 s.b]
def cLine : DecC Line where
  dec := fun c => match c with
    | [x, y, z, .raw (.int .i64 n), .raw (.int .i64 a), .raw (.int .i64 b)] => (toE [x, y, z]).map fun e => ⟨e, n, a, b⟩
    | _ => none
  enc := Line.cells
  sz := 6
  len := fun c x h => by
    split at h
    · rfl
    · cases h
  elen := fun x => rfl
  ok := fun c x h G V hr => by
    split at h
    · rename_i p q r n a b
      simp only [Option.map_eq_some_iff] at h
      obtain ⟨e, he, rfl⟩ := h
      have h1 : RepL G ([p, q, r] ++ [.raw (.int .i64 n), .raw (.int .i64 a), .raw (.int .i64 b)]) V := hr
      obtain ⟨v1, v2, rfl, h2, h3⟩ := RepL.parts h1
      have := toE_rep e _ he _ h2
      rw [E.cells_eq] at this
      exact RepL.append this h3
    · cases h
  self := fun x => by
    simp only [Line.cells]
    have := toE_cells x.says
    rw [E.cells_eq] at this
    simp [this]
theorem line_get (l : List Line) {i : Nat} (h : i < l.length) : ∃ s, l[i]? = some s ∧ (l.map cLine.enc).getD i [] = [.int .i64 s.says.kind, .int .i64 s.says.id, .list .none (s.says.kids.map E.cells), .int .i64 s.by_, .int .i64 s.a, .int .i64 s.b] :=
  ⟨l[i], by simp [h], by simp [List.getD_eq_getElem?_getD, h, cLine, Line.cells]⟩
def aheadB (n m : Int) : Bool := decide (1 ≤ n) && decide (n ≤ m)
theorem ahead22_call (a n : Int) : CallAt Tryz.prog w0 k 32 [.int .i64 a, .int .i64 n] H H (.bool (aheadB a (n - 1))) := by
  refine callAt tabOk Spec.no_ok mixed Tryz.func32 rfl rfl Tryz.results32 Tryz.ntmps32 (by simp) [] ?_
  intro hfr t hl ht
  simp only [At, Nat.reduceAdd, List.cons_append, List.nil_append] at ht
  have fN : ∀ (a b : Nat) z ty, H ⟨z, a :: b :: k, ty⟩ = none := fun a b z ty => hfr _ (sfx2 _ _ _)
  by_cases h1 : 1 ≤ a
  · have d1 : decide (1 ≤ a) = true := decide_eq_true h1
    have e : decide (a ≤ n - 1) = decide (a < n) := by
      rw [decide_eq_decide]
      omega
    rw [aheadB, d1, e]
    simp (config := {contextual := true, maxSteps := 5000000}) only [go_sem, false_and, Nat.reduceAdd, Nat.reduceLT, Nat.reduceBEq, Nat.reduceSub, Nat.reduceMul, Nat.reduceLeDiff, Int.reduceToNat, Nat.reduceEqDiff, Nat.reduceMod, ht, hl, d1]
  · have d1 : decide (1 ≤ a) = false := decide_eq_false h1
    rw [aheadB, d1]
    simp (config := {contextual := true, maxSteps := 5000000}) only [go_sem, false_and, Nat.reduceAdd, Nat.reduceLT, Nat.reduceBEq, Nat.reduceSub, Nat.reduceMul, Nat.reduceLeDiff, Int.reduceToNat, Nat.reduceEqDiff, Nat.reduceMod, ht, hl, d1]
/-- What follows from earlier lines. -/
def folE (p : List Line) (s : Line) : Int :=
  if s.by_ = 1 then (if s.b ≠ 0 then 90 else if (prR s.a s.says).2 = 0 then 0 else 100)
  else if s.by_ = 2 then (if (aheadB s.a p.length && aheadB s.b p.length) = false then 101 else match p[s.a.toNat - 1]?, p[s.b.toNat - 1]? with
    | some x, some y => if (detE x.says y.says).2 ≠ 0 then 80 else if (detE x.says y.says).1.like s.says = true then 0 else 107
    | _, _ => 0)
  else if s.by_ = 3 then (if ¬ (0 ≤ s.b ∧ s.b ≤ 63) then 90 else if aheadB s.a p.length = false then 101 else match p[s.a.toNat - 1]? with
    | some x => if (al s.b x.says).like s.says = true then 0 else 102
    | none => 0)
  else 90
theorem ahead_at {a : Int} {l : List Line} {n : Nat} (hn : n ≤ l.length) (h : aheadB a (n : Int) = true) : ∃ i : Nat, a = (i : Int) + 1 ∧ i < n ∧ ∃ x, l[i]? = some x ∧ (l.take n)[a.toNat - 1]? = some x ∧ x ∈ l.take n ∧ (l.map cLine.enc).getD i [] = [.int .i64 x.says.kind, .int .i64 x.says.id, .list .none (x.says.kids.map E.cells), .int .i64 x.by_, .int .i64 x.a, .int .i64 x.b] := by
  simp only [aheadB, Bool.and_eq_true, decide_eq_true_eq] at h
  refine ⟨a.toNat - 1, by omega, by omega, ?_⟩
  obtain ⟨x, hx, hxe⟩ := line_get l (i := a.toNat - 1) (by omega)
  have ht : (l.take n)[a.toNat - 1]? = some x := by rw [List.getElem?_take_of_lt (by omega)]; exact hx
  exact ⟨x, hx, ht, List.mem_of_getElem? ht, hxe⟩
def specF2 : Spec := (((((Spec.no.add 32 (sp2 dI dI (fun _ _ => True) fun a n => .bool (aheadB a (n - 1)))).add 31 (sp2 dI dE (fun _ e => e.ok) fun n e => .tup [.bool ((prR n e).2 == 0), .int .i64 (if (prR n e).2 = 73 then 0 else (prR n e).2)])).add 33 (sp2 dE dE (fun a b => a.ok ∧ b.ok) fun a b => .tup [(detE a b).1.av, .int .i64 (detE a b).2])).add 12 (sp2 dE dE (fun a _ => a.ok) fun a b => .bool (a.like b))).add 34 (sp2 dI dE (fun _ _ => True) fun n a => (al n a).av))
theorem specF2_ok : SpecOk Tryz.prog w0 specF2 := ((((Spec.no_ok.add (sp2_ok fun a n _ k H => ahead22_call a n)).add (sp2_ok fun n e h k H => is07_call n e h)).add (sp2_ok fun a b h k H => det08_call a b h.1 h.2)).add (sp2_ok fun a b h k H => like02_call a b h)).add (sp2_ok fun n a _ k H => all07_call n a)
theorem det_ok {p q : E} (hq : q.ok) : (detE p q).1.ok := by
  unfold detE
  split
  · exact noE_ok
  · split
    · simp only
      rw [List.getD_eq_getElem?_getD]
      cases h : q.kids[1]? with
      | none => exact noE_ok
      | some x => exact E.ok_kid hq h
    · exact noE_ok
theorem fol22_call (l : List Line) (n : Nat) (s : Line) (hn : l[n]? = some s) (hlen : (l.length : Int) ≤ 9223372036854775807) (hok : ∀ x ∈ l, x.says.ok) : CallAt Tryz.prog w0 k 16 [.list .none (l.map cLine.enc), .int .i64 (n + 1)] H H (.int .i64 (folE (l.take n) s)) := by
  refine callAt tabOk specF2_ok mixed Tryz.func16 rfl rfl Tryz.results16 Tryz.ntmps16 (by simp) [] ?_
  intro hfr t hl ht
  simp only [At, Nat.reduceAdd, List.cons_append, List.nil_append] at ht
  have fN : ∀ (a b : Nat) z ty, H ⟨z, a :: b :: k, ty⟩ = none := fun a b z ty => hfr _ (sfx2 _ _ _)
  have hnl : n < l.length := (List.getElem?_eq_some_iff.1 hn).1
  have hso := hok s (List.mem_of_getElem? hn)
  obtain ⟨s', hs', hse⟩ := line_get l hnl
  cases Option.some.inj (hs'.symm.trans hn)
  have hw : IntKind.i64.wrap ((n : Int) + 1 - 1) = (n : Int) := by rw [wrap_i64] <;> omega
  have hn1 : (n : Int) + 1 - 1 = (n : Int) := by omega
  have hwn : IntKind.i64.wrap (n : Int) = (n : Int) := by rw [wrap_i64] <;> omega
  have htl : (l.take n).length = n := by rw [List.length_take]; omega
  unfold folE
  rw [htl]
  by_cases b1 : s.by_ = 1
  · have c1 : (s.by_ == 1) = true := by simpa using b1
    rw [if_pos b1]
    by_cases hb : s.b = 0
    rotate_left
    · have cb : (s.b != 0) = true := by simpa using hb
      rw [if_pos hb]
      simp (config := {contextual := true, maxSteps := 5000000}) only [go_sem, false_and, Nat.reduceAdd, Nat.reduceLT, Nat.reduceBEq, Nat.reduceSub, Nat.reduceMul, Nat.reduceLeDiff, Int.reduceToNat, Nat.reduceEqDiff, Nat.reduceMod, ht, hl, hw, hse, c1, cb]
      (repeat' with_reducible apply And.intro) <;> first | ((with_reducible (show drawOk _ = true)); kernel_rfl) | with_reducible assumption | omega | exact List.Pairwise.nil | ((with_reducible (show List.Pairwise _ _)); (refine pw_of ?_; (repeat' (first | exact trivial | apply And.intro)); all_goals (first | exact .inr rfl | exact .inr trivial | exact .inl (by kernel_rfl)))) | (repeat (first | exact Hp.Le.refl _ | refine Hp.le_upd ?_ (fN _ _ _ _)))
    have cb : (s.b != 0) = false := by simpa using hb
    rw [if_neg (fun g => g hb)]
    by_cases h0 : (prR s.a s.says).2 = 0
    · have d0 : ((prR s.a s.says).2 == 0) = true := by simpa using h0
      have hv : (if (prR s.a s.says).2 = 73 then 0 else (prR s.a s.says).2) = 0 := by rw [h0]; rfl
      rw [if_pos h0]
      simp (config := {contextual := true, maxSteps := 5000000}) only [go_sem, false_and, Nat.reduceAdd, Nat.reduceLT, Nat.reduceBEq, Nat.reduceSub, Nat.reduceMul, Nat.reduceLeDiff, Int.reduceToNat, Nat.reduceEqDiff, Nat.reduceMod, ht, hl, hw, hse, c1, cb, specF2, toE_at, d0, hv, Int.reduceBNe]
      (repeat' with_reducible apply And.intro) <;> first | ((with_reducible (show drawOk _ = true)); kernel_rfl) | with_reducible assumption | omega | exact List.Pairwise.nil | ((with_reducible (show List.Pairwise _ _)); (refine pw_of ?_; (repeat' (first | exact trivial | apply And.intro)); all_goals (first | exact .inr rfl | exact .inr trivial | exact .inl (by kernel_rfl)))) | (repeat (first | exact Hp.Le.refl _ | refine Hp.le_upd ?_ (fN _ _ _ _)))
    · have d0 : ((prR s.a s.says).2 == 0) = false := by simpa using h0
      rw [if_neg h0]
      simp (config := {contextual := true, maxSteps := 5000000}) only [go_sem, false_and, Nat.reduceAdd, Nat.reduceLT, Nat.reduceBEq, Nat.reduceSub, Nat.reduceMul, Nat.reduceLeDiff, Int.reduceToNat, Nat.reduceEqDiff, Nat.reduceMod, ht, hl, hw, hse, c1, cb, specF2, toE_at, d0]
      (repeat' with_reducible apply And.intro) <;> first | ((with_reducible (show drawOk _ = true)); kernel_rfl) | with_reducible assumption | omega | exact List.Pairwise.nil | ((with_reducible (show List.Pairwise _ _)); (refine pw_of ?_; (repeat' (first | exact trivial | apply And.intro)); all_goals (first | exact .inr rfl | exact .inr trivial | exact .inl (by kernel_rfl)))) | (repeat (first | exact Hp.Le.refl _ | refine Hp.le_upd ?_ (fN _ _ _ _)))
  have c1 : (s.by_ == 1) = false := by simpa using b1
  rw [if_neg b1]
  by_cases b2 : s.by_ = 2
  · have c2 : (s.by_ == 2) = true := by simpa using b2
    rw [if_pos b2]
    cases ha : aheadB s.a (n : Int)
    · rw [if_pos (by rfl)]
      simp (config := {contextual := true, maxSteps := 5000000}) only [go_sem, false_and, Nat.reduceAdd, Nat.reduceLT, Nat.reduceBEq, Nat.reduceSub, Nat.reduceMul, Nat.reduceLeDiff, Int.reduceToNat, Nat.reduceEqDiff, Nat.reduceMod, ht, hl, hw, hse, c1, c2, specF2, hn1, hwn, ha]
      (repeat' with_reducible apply And.intro) <;> first | ((with_reducible (show drawOk _ = true)); kernel_rfl) | with_reducible assumption | omega | exact List.Pairwise.nil | ((with_reducible (show List.Pairwise _ _)); (refine pw_of ?_; (repeat' (first | exact trivial | apply And.intro)); all_goals (first | exact .inr rfl | exact .inr trivial | exact .inl (by kernel_rfl)))) | (repeat (first | exact Hp.Le.refl _ | refine Hp.le_upd ?_ (fN _ _ _ _)))
    cases hb : aheadB s.b (n : Int)
    · rw [if_pos (by rfl)]
      simp (config := {contextual := true, maxSteps := 5000000}) only [go_sem, false_and, Nat.reduceAdd, Nat.reduceLT, Nat.reduceBEq, Nat.reduceSub, Nat.reduceMul, Nat.reduceLeDiff, Int.reduceToNat, Nat.reduceEqDiff, Nat.reduceMod, ht, hl, hw, hse, c1, c2, specF2, hn1, hwn, ha, hb]
      (repeat' with_reducible apply And.intro) <;> first | ((with_reducible (show drawOk _ = true)); kernel_rfl) | with_reducible assumption | omega | exact List.Pairwise.nil | ((with_reducible (show List.Pairwise _ _)); (refine pw_of ?_; (repeat' (first | exact trivial | apply And.intro)); all_goals (first | exact .inr rfl | exact .inr trivial | exact .inl (by kernel_rfl)))) | (repeat (first | exact Hp.Le.refl _ | refine Hp.le_upd ?_ (fN _ _ _ _)))
    rw [if_neg (by simp)]
    obtain ⟨i, hi, hin, x, hx, htx, hxm, hxe⟩ := ahead_at (l := l) (by omega) ha
    obtain ⟨j, hj, hjn, y, hy, hty, hym, hye⟩ := ahead_at (l := l) (by omega) hb
    have w1 : IntKind.i64.wrap (s.a - 1) = (i : Int) := by rw [wrap_i64] <;> omega
    have w2 : IntKind.i64.wrap (s.b - 1) = (j : Int) := by rw [wrap_i64] <;> omega
    have hxo := hok x (List.mem_of_getElem? hx)
    have hyo := hok y (List.mem_of_getElem? hy)
    have hdo := det_ok (p := x.says) hyo
    rw [htx, hty]
    simp only
    by_cases h0 : (detE x.says y.says).2 = 0
    rotate_left
    · have d0 : ((detE x.says y.says).2 != 0) = true := by simpa using h0
      rw [if_pos h0]
      simp (config := {contextual := true, maxSteps := 5000000}) only [go_sem, false_and, Nat.reduceAdd, Nat.reduceLT, Nat.reduceBEq, Nat.reduceSub, Nat.reduceMul, Nat.reduceLeDiff, Int.reduceToNat, Nat.reduceEqDiff, Nat.reduceMod, ht, hl, hw, hse, c1, c2, specF2, hn1, hwn, ha, hb, w1, w2, hxe, hye, toE_at, d0]
      (repeat' with_reducible apply And.intro) <;> first | ((with_reducible (show drawOk _ = true)); kernel_rfl) | with_reducible assumption | omega | exact List.Pairwise.nil | ((with_reducible (show List.Pairwise _ _)); (refine pw_of ?_; (repeat' (first | exact trivial | apply And.intro)); all_goals (first | exact .inr rfl | exact .inr trivial | exact .inl (by kernel_rfl)))) | (repeat (first | exact Hp.Le.refl _ | refine Hp.le_upd ?_ (fN _ _ _ _)))
    have d0 : ((detE x.says y.says).2 != 0) = false := by simpa using h0
    rw [if_neg (fun g => g h0)]
    cases hk : (detE x.says y.says).1.like s.says
    · rw [if_neg (by simp)]
      simp (config := {contextual := true, maxSteps := 5000000}) only [go_sem, false_and, Nat.reduceAdd, Nat.reduceLT, Nat.reduceBEq, Nat.reduceSub, Nat.reduceMul, Nat.reduceLeDiff, Int.reduceToNat, Nat.reduceEqDiff, Nat.reduceMod, ht, hl, hw, hse, c1, c2, specF2, hn1, hwn, ha, hb, w1, w2, hxe, hye, toE_at, d0, hk]
      (repeat' with_reducible apply And.intro) <;> first | ((with_reducible (show drawOk _ = true)); kernel_rfl) | with_reducible assumption | omega | exact List.Pairwise.nil | ((with_reducible (show List.Pairwise _ _)); (refine pw_of ?_; (repeat' (first | exact trivial | apply And.intro)); all_goals (first | exact .inr rfl | exact .inr trivial | exact .inl (by kernel_rfl)))) | (repeat (first | exact Hp.Le.refl _ | refine Hp.le_upd ?_ (fN _ _ _ _)))
    · rw [if_pos rfl]
      simp (config := {contextual := true, maxSteps := 5000000}) only [go_sem, false_and, Nat.reduceAdd, Nat.reduceLT, Nat.reduceBEq, Nat.reduceSub, Nat.reduceMul, Nat.reduceLeDiff, Int.reduceToNat, Nat.reduceEqDiff, Nat.reduceMod, ht, hl, hw, hse, c1, c2, specF2, hn1, hwn, ha, hb, w1, w2, hxe, hye, toE_at, d0, hk]
      (repeat' with_reducible apply And.intro) <;> first | ((with_reducible (show drawOk _ = true)); kernel_rfl) | with_reducible assumption | omega | exact List.Pairwise.nil | ((with_reducible (show List.Pairwise _ _)); (refine pw_of ?_; (repeat' (first | exact trivial | apply And.intro)); all_goals (first | exact .inr rfl | exact .inr trivial | exact .inl (by kernel_rfl)))) | (repeat (first | exact Hp.Le.refl _ | refine Hp.le_upd ?_ (fN _ _ _ _)))
  have c2 : (s.by_ == 2) = false := by simpa using b2
  rw [if_neg b2]
  by_cases b3 : s.by_ = 3
  rotate_left
  · have c3 : (s.by_ == 3) = false := by simpa using b3
    rw [if_neg b3]
    simp (config := {contextual := true, maxSteps := 5000000}) only [go_sem, false_and, Nat.reduceAdd, Nat.reduceLT, Nat.reduceBEq, Nat.reduceSub, Nat.reduceMul, Nat.reduceLeDiff, Int.reduceToNat, Nat.reduceEqDiff, Nat.reduceMod, ht, hl, hw, hse, c1, c2, c3]
    (repeat' with_reducible apply And.intro) <;> first | ((with_reducible (show drawOk _ = true)); kernel_rfl) | with_reducible assumption | omega | exact List.Pairwise.nil | ((with_reducible (show List.Pairwise _ _)); (refine pw_of ?_; (repeat' (first | exact trivial | apply And.intro)); all_goals (first | exact .inr rfl | exact .inr trivial | exact .inl (by kernel_rfl)))) | (repeat (first | exact Hp.Le.refl _ | refine Hp.le_upd ?_ (fN _ _ _ _)))
  have c3 : (s.by_ == 3) = true := by simpa using b3
  rw [if_pos b3]
  by_cases h1 : s.b < 0
  · have d1 : decide (s.b < 0) = true := decide_eq_true h1
    rw [if_pos (by omega)]
    simp (config := {contextual := true, maxSteps := 5000000}) only [go_sem, false_and, Nat.reduceAdd, Nat.reduceLT, Nat.reduceBEq, Nat.reduceSub, Nat.reduceMul, Nat.reduceLeDiff, Int.reduceToNat, Nat.reduceEqDiff, Nat.reduceMod, ht, hl, hw, hse, c1, c2, c3, d1]
    (repeat' with_reducible apply And.intro) <;> first | ((with_reducible (show drawOk _ = true)); kernel_rfl) | with_reducible assumption | omega | exact List.Pairwise.nil | ((with_reducible (show List.Pairwise _ _)); (refine pw_of ?_; (repeat' (first | exact trivial | apply And.intro)); all_goals (first | exact .inr rfl | exact .inr trivial | exact .inl (by kernel_rfl)))) | (repeat (first | exact Hp.Le.refl _ | refine Hp.le_upd ?_ (fN _ _ _ _)))
  have d1 : decide (s.b < 0) = false := decide_eq_false h1
  by_cases h2 : 63 < s.b
  · have d2 : decide (63 < s.b) = true := decide_eq_true h2
    rw [if_pos (by omega)]
    simp (config := {contextual := true, maxSteps := 5000000}) only [go_sem, false_and, Nat.reduceAdd, Nat.reduceLT, Nat.reduceBEq, Nat.reduceSub, Nat.reduceMul, Nat.reduceLeDiff, Int.reduceToNat, Nat.reduceEqDiff, Nat.reduceMod, ht, hl, hw, hse, c1, c2, c3, d1, d2]
    (repeat' with_reducible apply And.intro) <;> first | ((with_reducible (show drawOk _ = true)); kernel_rfl) | with_reducible assumption | omega | exact List.Pairwise.nil | ((with_reducible (show List.Pairwise _ _)); (refine pw_of ?_; (repeat' (first | exact trivial | apply And.intro)); all_goals (first | exact .inr rfl | exact .inr trivial | exact .inl (by kernel_rfl)))) | (repeat (first | exact Hp.Le.refl _ | refine Hp.le_upd ?_ (fN _ _ _ _)))
  have d2 : decide (63 < s.b) = false := decide_eq_false h2
  rw [if_neg (by omega)]
  cases ha : aheadB s.a (n : Int)
  · rw [if_pos rfl]
    simp (config := {contextual := true, maxSteps := 5000000}) only [go_sem, false_and, Nat.reduceAdd, Nat.reduceLT, Nat.reduceBEq, Nat.reduceSub, Nat.reduceMul, Nat.reduceLeDiff, Int.reduceToNat, Nat.reduceEqDiff, Nat.reduceMod, ht, hl, hw, hse, c1, c2, c3, d1, d2, specF2, hn1, hwn, ha]
    (repeat' with_reducible apply And.intro) <;> first | ((with_reducible (show drawOk _ = true)); kernel_rfl) | with_reducible assumption | omega | exact List.Pairwise.nil | ((with_reducible (show List.Pairwise _ _)); (refine pw_of ?_; (repeat' (first | exact trivial | apply And.intro)); all_goals (first | exact .inr rfl | exact .inr trivial | exact .inl (by kernel_rfl)))) | (repeat (first | exact Hp.Le.refl _ | refine Hp.le_upd ?_ (fN _ _ _ _)))
  rw [if_neg (by simp)]
  obtain ⟨i, hi, hin, x, hx, htx, hxm, hxe⟩ := ahead_at (l := l) (by omega) ha
  have w1 : IntKind.i64.wrap (s.a - 1) = (i : Int) := by rw [wrap_i64] <;> omega
  have hxo := hok x (List.mem_of_getElem? hx)
  have hao := al_ok (n := s.b) hxo
  rw [htx]
  simp only
  cases hk : (al s.b x.says).like s.says
  · rw [if_neg (by simp)]
    simp (config := {contextual := true, maxSteps := 5000000}) only [go_sem, false_and, Nat.reduceAdd, Nat.reduceLT, Nat.reduceBEq, Nat.reduceSub, Nat.reduceMul, Nat.reduceLeDiff, Int.reduceToNat, Nat.reduceEqDiff, Nat.reduceMod, ht, hl, hw, hse, c1, c2, c3, d1, d2, specF2, hn1, hwn, ha, w1, hxe, toE_at, hk]
    (repeat' with_reducible apply And.intro) <;> first | ((with_reducible (show drawOk _ = true)); kernel_rfl) | with_reducible assumption | omega | exact List.Pairwise.nil | ((with_reducible (show List.Pairwise _ _)); (refine pw_of ?_; (repeat' (first | exact trivial | apply And.intro)); all_goals (first | exact .inr rfl | exact .inr trivial | exact .inl (by kernel_rfl)))) | (repeat (first | exact Hp.Le.refl _ | refine Hp.le_upd ?_ (fN _ _ _ _)))
  · rw [if_pos rfl]
    simp (config := {contextual := true, maxSteps := 5000000}) only [go_sem, false_and, Nat.reduceAdd, Nat.reduceLT, Nat.reduceBEq, Nat.reduceSub, Nat.reduceMul, Nat.reduceLeDiff, Int.reduceToNat, Nat.reduceEqDiff, Nat.reduceMod, ht, hl, hw, hse, c1, c2, c3, d1, d2, specF2, hn1, hwn, ha, w1, hxe, toE_at, hk]
    (repeat' with_reducible apply And.intro) <;> first | ((with_reducible (show drawOk _ = true)); kernel_rfl) | with_reducible assumption | omega | exact List.Pairwise.nil | ((with_reducible (show List.Pairwise _ _)); (refine pw_of ?_; (repeat' (first | exact trivial | apply And.intro)); all_goals (first | exact .inr rfl | exact .inr trivial | exact .inl (by kernel_rfl)))) | (repeat (first | exact Hp.Le.refl _ | refine Hp.le_upd ?_ (fN _ _ _ _)))
end Go.Proofs.YtkdendaohlnlcaaGreat.Av

/- What follows: the program's. No condition. -/
namespace Go.Proofs.YtkdendaohlnlcaaGreat.Av
set_option linter.unusedVariables false
set_option linter.unusedSimpArgs false
set_option maxRecDepth 4000
set_option maxHeartbeats 1000000
variable {w0 : Base} {k : List Nat} {H : Hp}
theorem fol1_call (n : Int) (tk : Tok) (xs : List (List AV)) : CallAt Tryz.prog w0 k 25 [.int .i64 n, .sptr [.list tk xs]] H H (.bool (aheadB n xs.length)) := by
  refine callAt tabOk Spec.no_ok mixed Tryz.func25 rfl rfl Tryz.results25 Tryz.ntmps25 (by simp) [] ?_
  intro hfr t hl ht
  simp only [At, Nat.reduceAdd, List.cons_append, List.nil_append] at ht
  have fN : ∀ (a b : Nat) z ty, H ⟨z, a :: b :: k, ty⟩ = none := fun a b z ty => hfr _ (sfx2 _ _ _)
  by_cases h1 : 1 ≤ n
  · have d1 : decide (1 ≤ n) = true := decide_eq_true h1
    rw [aheadB, d1]
    simp (config := {contextual := true, maxSteps := 5000000}) only [go_sem, false_and, Nat.reduceAdd, Nat.reduceLT, Nat.reduceBEq, Nat.reduceSub, Nat.reduceMul, Nat.reduceLeDiff, Int.reduceToNat, Nat.reduceEqDiff, Nat.reduceMod, ht, hl, d1]
  · have d1 : decide (1 ≤ n) = false := decide_eq_false h1
    rw [aheadB, d1]
    simp (config := {contextual := true, maxSteps := 5000000}) only [go_sem, false_and, Nat.reduceAdd, Nat.reduceLT, Nat.reduceBEq, Nat.reduceSub, Nat.reduceMul, Nat.reduceLeDiff, Int.reduceToNat, Nat.reduceEqDiff, Nat.reduceMod, ht, hl, d1]
def spAh : Ans
  | [.raw (.int .i64 n), .sptr [.list _ xs]] => some (True, .bool (aheadB n xs.length))
  | _ => none
@[go_sem] theorem spAh_at {n : Int} {tk : Tok} {xs : List (List AV)} : spAh [.raw (.int .i64 n), .sptr [.list tk xs]] = some (True, .bool (aheadB n xs.length)) := rfl
theorem spAh_ok : AnsOk Tryz.prog w0 25 spAh := by
  intro l φ v e hφ k H
  unfold spAh at e
  split at e
  · cases e
    exact fol1_call _ _ _
  · cases e
def specF3 : Spec := ((((Spec.no.add 25 spAh).add 26 (sp2 dI dE (fun _ e => e.ok) fun n e => .tup [.bool ((prP n e).2 == 0), .int .i64 (if (prP n e).2 = 73 then 0 else (prP n e).2)])).add 27 (sp2 dE dE (fun a b => a.ok ∧ b.ok) fun a b => .tup [(detE a b).1.av, .int .i64 (detE a b).2])).add 24 (sp2 dE dE (fun a b => a.ok ∧ b.ok) fun a b => .bool (sameE a b))).add 28 (sp2 dE dI (fun e _ => e.ok) fun e v => .tup [(genE e v).1.av, .int .i64 (genE e v).2])
theorem specF3_ok : SpecOk Tryz.prog w0 specF3 := ((((Spec.no_ok.add spAh_ok).add (sp2_ok fun n e h k H => isS_call n e h)).add (sp2_ok fun a b h k H => detP_call a b h.1 h.2)).add (sp2_ok fun a b h k H => same_call a b h.1 h.2)).add (sp2_ok fun e v h k H => gen_call e v h)
theorem ahead_full {a : Int} {l : List Line} (h : aheadB a (l.length : Int) = true) : ∃ i : Nat, a = (i : Int) + 1 ∧ i < l.length ∧ ∃ x, l[i]? = some x ∧ l[a.toNat - 1]? = some x ∧ x ∈ l ∧ (l.map cLine.enc).getD i [] = [.int .i64 x.says.kind, .int .i64 x.says.id, .list .none (x.says.kids.map E.cells), .int .i64 x.by_, .int .i64 x.a, .int .i64 x.b] := by
  simp only [aheadB, Bool.and_eq_true, decide_eq_true_eq] at h
  refine ⟨a.toNat - 1, by omega, by omega, ?_⟩
  obtain ⟨x, hx, hxe⟩ := line_get l (i := a.toNat - 1) (by omega)
  exact ⟨x, hx, hx, List.mem_of_getElem? hx, hxe⟩
theorem said_zero {e : E} (h : saidE e = 0) : e.right = 0 ∧ e.term = false := by
  unfold saidE at h
  split at h
  · rename_i g
    exact absurd h g
  · rename_i g
    exact wantF_zero (Classical.not_not.1 g)
theorem det_right {p q : E} (hq : q.right = 0) (h : (detE p q).2 = 0) : (detE p q).1.right = 0 := by
  unfold detE at h ⊢
  split at h
  · rename_i g
    exact absurd h g
  · rename_i g
    rw [if_neg g]
    split at h
    · rename_i g2
      rw [if_pos g2]
      obtain ⟨b, gb, _⟩ := E.kid q (i := 1) (by have := len6 (right_sh' hq) (.inl g2.1); omega)
      show (q.kids.getD 1 noE).right = 0
      rw [List.getD_eq_getElem?_getD, gb]
      exact right_kid hq gb
    · cases h
theorem gen_ok {e : E} {v : Int} : (genE e v).1.ok := by
  unfold genE
  split
  · exact noE_ok
  · split
    · exact noE_ok
    · unfold rgt
      split
      · rename_i h
        exact sh_ok _ (right_sh' h)
      · exact noE_ok
theorem gen_says {e s : E} {v : Int} (hv : 0 ≤ v ∧ v ≤ 63) (he : e.right = 0 ∧ e.term = false) (hs : s.right = 0) : ((genE e v).2 ≠ 0 → ¬ (al v e).like s = true) ∧ ((genE e v).2 = 0 → sameE (genE e v).1 s = (al v e).like s) := by
  have hf : forC [e] = 0 := by simp [forC, firstBad, anyT, he.1, he.2]
  have hg : genE e v = rgt (al v e) := by rw [genE, if_neg (fun g => g hv), if_neg (fun g => g hf)]
  rw [hg, rgt]
  by_cases h : (al v e).right = 0
  · rw [if_pos h]
    exact ⟨fun g => absurd rfl g, fun _ => sameE_right h hs⟩
  · rw [if_neg h]
    exact ⟨fun _ g => h (by rw [E.like_iff.1 g]; exact hs), fun g => absurd g h⟩
theorem follows_call (l : List Line) (s : Line) (tk : Tok) (hlen : (l.length : Int) ≤ 9223372036854775807) (hok : ∀ x ∈ l, saidE x.says = 0) (hs : saidE s.says = 0) : CallAt Tryz.prog w0 k 14 [.list .none (l.map cLine.enc), (dA cLine).enc s] H H (.int .i64 (folE l s)) := by
  refine callAt tabOk specF3_ok mixed Tryz.func14 rfl rfl Tryz.results14 Tryz.ntmps14 (by simp) [] ?_
  intro hfr t hl ht
  simp only [At, dA, cLine, Line.cells, Nat.reduceAdd] at ht
  have fN : ∀ (a b : Nat) z ty, H ⟨z, a :: b :: k, ty⟩ = none := fun a b z ty => hfr _ (sfx2 _ _ _)
  have hsr := (said_zero hs).1
  have hso := sh_ok _ (right_sh' hsr)
  have hll : (l.map cLine.enc).length = l.length := List.length_map ..
  unfold folE
  by_cases b1 : s.by_ = 1
  · have c1 : (s.by_ == 1) = true := by simpa using b1
    rw [if_pos b1]
    by_cases hb : s.b = 0
    rotate_left
    · have cb : (s.b != 0) = true := by simpa using hb
      rw [if_pos hb]
      simp (config := {contextual := true, maxSteps := 5000000}) only [go_sem, false_and, Nat.reduceAdd, Nat.reduceLT, Nat.reduceBEq, Nat.reduceSub, Nat.reduceMul, Nat.reduceLeDiff, Int.reduceToNat, Nat.reduceEqDiff, Nat.reduceMod, ht, hl, c1, cb]
    have cb : (s.b != 0) = false := by simpa using hb
    rw [if_neg (fun g => g hb), ← pr_same]
    by_cases h0 : (prP s.a s.says).2 = 0
    · have d0 : ((prP s.a s.says).2 == 0) = true := by simpa using h0
      have hv : (if (prP s.a s.says).2 = 73 then 0 else (prP s.a s.says).2) = 0 := by rw [h0]; rfl
      rw [if_pos h0]
      simp (config := {contextual := true, maxSteps := 5000000}) only [go_sem, false_and, Nat.reduceAdd, Nat.reduceLT, Nat.reduceBEq, Nat.reduceSub, Nat.reduceMul, Nat.reduceLeDiff, Int.reduceToNat, Nat.reduceEqDiff, Nat.reduceMod, ht, hl, c1, cb, specF3, toE_at, d0, hv, Int.reduceBNe]
      (repeat' with_reducible apply And.intro) <;> first | ((with_reducible (show drawOk _ = true)); kernel_rfl) | with_reducible assumption | omega | exact List.Pairwise.nil | ((with_reducible (show List.Pairwise _ _)); (refine pw_of ?_; (repeat' (first | exact trivial | apply And.intro)); all_goals (first | exact .inr rfl | exact .inr trivial | exact .inl (by kernel_rfl)))) | (repeat (first | exact Hp.Le.refl _ | refine Hp.le_upd ?_ (fN _ _ _ _)))
    · have d0 : ((prP s.a s.says).2 == 0) = false := by simpa using h0
      rw [if_neg h0]
      simp (config := {contextual := true, maxSteps := 5000000}) only [go_sem, false_and, Nat.reduceAdd, Nat.reduceLT, Nat.reduceBEq, Nat.reduceSub, Nat.reduceMul, Nat.reduceLeDiff, Int.reduceToNat, Nat.reduceEqDiff, Nat.reduceMod, ht, hl, c1, cb, specF3, toE_at, d0]
      (repeat' with_reducible apply And.intro) <;> first | ((with_reducible (show drawOk _ = true)); kernel_rfl) | with_reducible assumption | omega | exact List.Pairwise.nil | ((with_reducible (show List.Pairwise _ _)); (refine pw_of ?_; (repeat' (first | exact trivial | apply And.intro)); all_goals (first | exact .inr rfl | exact .inr trivial | exact .inl (by kernel_rfl)))) | (repeat (first | exact Hp.Le.refl _ | refine Hp.le_upd ?_ (fN _ _ _ _)))
  have c1 : (s.by_ == 1) = false := by simpa using b1
  rw [if_neg b1]
  by_cases b2 : s.by_ = 2
  · have c2 : (s.by_ == 2) = true := by simpa using b2
    rw [if_pos b2]
    cases ha : aheadB s.a (l.length : Int)
    · rw [if_pos (by rfl)]
      simp (config := {contextual := true, maxSteps := 5000000}) only [go_sem, false_and, Nat.reduceAdd, Nat.reduceLT, Nat.reduceBEq, Nat.reduceSub, Nat.reduceMul, Nat.reduceLeDiff, Int.reduceToNat, Nat.reduceEqDiff, Nat.reduceMod, ht, hl, c1, c2, specF3, hll, ha]
    cases hb : aheadB s.b (l.length : Int)
    · rw [if_pos (by rfl)]
      simp (config := {contextual := true, maxSteps := 5000000}) only [go_sem, false_and, Nat.reduceAdd, Nat.reduceLT, Nat.reduceBEq, Nat.reduceSub, Nat.reduceMul, Nat.reduceLeDiff, Int.reduceToNat, Nat.reduceEqDiff, Nat.reduceMod, ht, hl, c1, c2, specF3, hll, ha, hb]
    rw [if_neg (by simp)]
    obtain ⟨i, hi, hin, x, hx, htx, hxm, hxe⟩ := ahead_full (l := l) ha
    have hxe : (l.map Line.cells).getD i [] = _ := hxe
    obtain ⟨j, hj, hjn, y, hy, hty, hym, hye⟩ := ahead_full (l := l) hb
    have hye : (l.map Line.cells).getD j [] = _ := hye
    have w1 : IntKind.i64.wrap (s.a - 1) = (i : Int) := by rw [wrap_i64] <;> omega
    have w2 : IntKind.i64.wrap (s.b - 1) = (j : Int) := by rw [wrap_i64] <;> omega
    have hxr := (said_zero (hok x hxm)).1
    have hyr := (said_zero (hok y hym)).1
    have hxo := sh_ok _ (right_sh' hxr)
    have hyo := sh_ok _ (right_sh' hyr)
    have hdo := det_ok (p := x.says) hyo
    rw [htx, hty]
    simp only
    by_cases h0 : (detE x.says y.says).2 = 0
    rotate_left
    · have d0 : ((detE x.says y.says).2 != 0) = true := by simpa using h0
      rw [if_pos h0]
      simp (config := {contextual := true, maxSteps := 5000000}) only [go_sem, false_and, Nat.reduceAdd, Nat.reduceLT, Nat.reduceBEq, Nat.reduceSub, Nat.reduceMul, Nat.reduceLeDiff, Int.reduceToNat, Nat.reduceEqDiff, Nat.reduceMod, ht, hl, c1, c2, specF3, hll, ha, hb, w1, w2, hxe, hye, toE_at, d0]
      (repeat' with_reducible apply And.intro) <;> first | ((with_reducible (show drawOk _ = true)); kernel_rfl) | with_reducible assumption | omega | exact List.Pairwise.nil | ((with_reducible (show List.Pairwise _ _)); (refine pw_of ?_; (repeat' (first | exact trivial | apply And.intro)); all_goals (first | exact .inr rfl | exact .inr trivial | exact .inl (by kernel_rfl)))) | (repeat (first | exact Hp.Le.refl _ | refine Hp.le_upd ?_ (fN _ _ _ _)))
    have d0 : ((detE x.says y.says).2 != 0) = false := by simpa using h0
    have hdr : (detE x.says y.says).1.right = 0 := det_right hyr h0
    have hsm := sameE_right hdr hsr
    rw [if_neg (fun g => g h0)]
    cases hk : (detE x.says y.says).1.like s.says
    · rw [if_neg (by simp)]
      simp (config := {contextual := true, maxSteps := 5000000}) only [go_sem, false_and, Nat.reduceAdd, Nat.reduceLT, Nat.reduceBEq, Nat.reduceSub, Nat.reduceMul, Nat.reduceLeDiff, Int.reduceToNat, Nat.reduceEqDiff, Nat.reduceMod, ht, hl, c1, c2, specF3, hll, ha, hb, w1, w2, hxe, hye, toE_at, d0, hsm, hk]
      (repeat' with_reducible apply And.intro) <;> first | ((with_reducible (show drawOk _ = true)); kernel_rfl) | with_reducible assumption | omega | exact List.Pairwise.nil | ((with_reducible (show List.Pairwise _ _)); (refine pw_of ?_; (repeat' (first | exact trivial | apply And.intro)); all_goals (first | exact .inr rfl | exact .inr trivial | exact .inl (by kernel_rfl)))) | (repeat (first | exact Hp.Le.refl _ | refine Hp.le_upd ?_ (fN _ _ _ _)))
    · rw [if_pos rfl]
      simp (config := {contextual := true, maxSteps := 5000000}) only [go_sem, false_and, Nat.reduceAdd, Nat.reduceLT, Nat.reduceBEq, Nat.reduceSub, Nat.reduceMul, Nat.reduceLeDiff, Int.reduceToNat, Nat.reduceEqDiff, Nat.reduceMod, ht, hl, c1, c2, specF3, hll, ha, hb, w1, w2, hxe, hye, toE_at, d0, hsm, hk]
      (repeat' with_reducible apply And.intro) <;> first | ((with_reducible (show drawOk _ = true)); kernel_rfl) | with_reducible assumption | omega | exact List.Pairwise.nil | ((with_reducible (show List.Pairwise _ _)); (refine pw_of ?_; (repeat' (first | exact trivial | apply And.intro)); all_goals (first | exact .inr rfl | exact .inr trivial | exact .inl (by kernel_rfl)))) | (repeat (first | exact Hp.Le.refl _ | refine Hp.le_upd ?_ (fN _ _ _ _)))
  have c2 : (s.by_ == 2) = false := by simpa using b2
  rw [if_neg b2]
  by_cases b3 : s.by_ = 3
  rotate_left
  · have c3 : (s.by_ == 3) = false := by simpa using b3
    rw [if_neg b3]
    simp (config := {contextual := true, maxSteps := 5000000}) only [go_sem, false_and, Nat.reduceAdd, Nat.reduceLT, Nat.reduceBEq, Nat.reduceSub, Nat.reduceMul, Nat.reduceLeDiff, Int.reduceToNat, Nat.reduceEqDiff, Nat.reduceMod, ht, hl, c1, c2, c3]
  have c3 : (s.by_ == 3) = true := by simpa using b3
  rw [if_pos b3]
  by_cases h1 : s.b < 0
  · have d1 : decide (s.b < 0) = true := decide_eq_true h1
    rw [if_pos (by omega)]
    simp (config := {contextual := true, maxSteps := 5000000}) only [go_sem, false_and, Nat.reduceAdd, Nat.reduceLT, Nat.reduceBEq, Nat.reduceSub, Nat.reduceMul, Nat.reduceLeDiff, Int.reduceToNat, Nat.reduceEqDiff, Nat.reduceMod, ht, hl, c1, c2, c3, d1]
  have d1 : decide (s.b < 0) = false := decide_eq_false h1
  by_cases h2 : 63 < s.b
  · have d2 : decide (63 < s.b) = true := decide_eq_true h2
    rw [if_pos (by omega)]
    simp (config := {contextual := true, maxSteps := 5000000}) only [go_sem, false_and, Nat.reduceAdd, Nat.reduceLT, Nat.reduceBEq, Nat.reduceSub, Nat.reduceMul, Nat.reduceLeDiff, Int.reduceToNat, Nat.reduceEqDiff, Nat.reduceMod, ht, hl, c1, c2, c3, d1, d2]
  have d2 : decide (63 < s.b) = false := decide_eq_false h2
  rw [if_neg (by omega)]
  cases ha : aheadB s.a (l.length : Int)
  · rw [if_pos rfl]
    simp (config := {contextual := true, maxSteps := 5000000}) only [go_sem, false_and, Nat.reduceAdd, Nat.reduceLT, Nat.reduceBEq, Nat.reduceSub, Nat.reduceMul, Nat.reduceLeDiff, Int.reduceToNat, Nat.reduceEqDiff, Nat.reduceMod, ht, hl, c1, c2, c3, d1, d2, specF3, hll, ha]
  rw [if_neg (by simp)]
  obtain ⟨i, hi, hin, x, hx, htx, hxm, hxe⟩ := ahead_full (l := l) ha
  have hxe : (l.map Line.cells).getD i [] = _ := hxe
  have w1 : IntKind.i64.wrap (s.a - 1) = (i : Int) := by rw [wrap_i64] <;> omega
  have hxr := said_zero (hok x hxm)
  have hxo := sh_ok _ (right_sh' hxr.1)
  rw [htx]
  simp only
  have hgo : (genE x.says s.b).1.ok := gen_ok
  obtain ⟨hg1, hg2⟩ := gen_says (v := s.b) ⟨by omega, by omega⟩ hxr hsr
  by_cases h0 : (genE x.says s.b).2 = 0
  rotate_left
  · have d0 : ((genE x.says s.b).2 != 0) = true := by simpa using h0
    rw [if_neg (hg1 h0)]
    simp (config := {contextual := true, maxSteps := 5000000}) only [go_sem, false_and, Nat.reduceAdd, Nat.reduceLT, Nat.reduceBEq, Nat.reduceSub, Nat.reduceMul, Nat.reduceLeDiff, Int.reduceToNat, Nat.reduceEqDiff, Nat.reduceMod, ht, hl, c1, c2, c3, d1, d2, specF3, hll, ha, w1, hxe, toE_at, d0]
    (repeat' with_reducible apply And.intro) <;> first | ((with_reducible (show drawOk _ = true)); kernel_rfl) | with_reducible assumption | omega | exact List.Pairwise.nil | ((with_reducible (show List.Pairwise _ _)); (refine pw_of ?_; (repeat' (first | exact trivial | apply And.intro)); all_goals (first | exact .inr rfl | exact .inr trivial | exact .inl (by kernel_rfl)))) | (repeat (first | exact Hp.Le.refl _ | refine Hp.le_upd ?_ (fN _ _ _ _)))
  have d0 : ((genE x.says s.b).2 != 0) = false := by simpa using h0
  have hsm := hg2 h0
  cases hk : (al s.b x.says).like s.says
  · rw [if_neg (by simp)]
    simp (config := {contextual := true, maxSteps := 5000000}) only [go_sem, false_and, Nat.reduceAdd, Nat.reduceLT, Nat.reduceBEq, Nat.reduceSub, Nat.reduceMul, Nat.reduceLeDiff, Int.reduceToNat, Nat.reduceEqDiff, Nat.reduceMod, ht, hl, c1, c2, c3, d1, d2, specF3, hll, ha, w1, hxe, toE_at, d0, hsm, hk]
    (repeat' with_reducible apply And.intro) <;> first | ((with_reducible (show drawOk _ = true)); kernel_rfl) | with_reducible assumption | omega | exact List.Pairwise.nil | ((with_reducible (show List.Pairwise _ _)); (refine pw_of ?_; (repeat' (first | exact trivial | apply And.intro)); all_goals (first | exact .inr rfl | exact .inr trivial | exact .inl (by kernel_rfl)))) | (repeat (first | exact Hp.Le.refl _ | refine Hp.le_upd ?_ (fN _ _ _ _)))
  · rw [if_pos rfl]
    simp (config := {contextual := true, maxSteps := 5000000}) only [go_sem, false_and, Nat.reduceAdd, Nat.reduceLT, Nat.reduceBEq, Nat.reduceSub, Nat.reduceMul, Nat.reduceLeDiff, Int.reduceToNat, Nat.reduceEqDiff, Nat.reduceMod, ht, hl, c1, c2, c3, d1, d2, specF3, hll, ha, w1, hxe, toE_at, d0, hsm, hk]
    (repeat' with_reducible apply And.intro) <;> first | ((with_reducible (show drawOk _ = true)); kernel_rfl) | with_reducible assumption | omega | exact List.Pairwise.nil | ((with_reducible (show List.Pairwise _ _)); (refine pw_of ?_; (repeat' (first | exact trivial | apply And.intro)); all_goals (first | exact .inr rfl | exact .inr trivial | exact .inl (by kernel_rfl)))) | (repeat (first | exact Hp.Le.refl _ | refine Hp.le_upd ?_ (fN _ _ _ _)))
end Go.Proofs.YtkdendaohlnlcaaGreat.Av

/- A proof is right: the program's and the reference's. No condition. -/
namespace Go.Proofs.YtkdendaohlnlcaaGreat.Av
set_option linter.unusedVariables false
set_option linter.unusedSimpArgs false
set_option maxRecDepth 4000
set_option maxHeartbeats 1000000
variable {w0 : Base} {k : List Nat} {H : Hp}
def lnC (l : List Line) (i : Nat) (s : Line) : Int := if saidE s.says = 0 then folE (l.take i) s else saidE s.says
def rigGo (l : List Line) : Nat → List Line → Int × Int
  | _, [] => (0, 0)
  | i, s :: r => if lnC l i s = 0 then rigGo l (i + 1) r else (lnC l i s, (i : Int) + 1)
def rigE (l : List Line) : Int × Int := if 4000 < l.length then (2, 0) else if l.length = 0 then (90, 0) else rigGo l 0 l
theorem rigGo_drop {l : List Line} {i : Nat} {s : Line} (h : l[i]? = some s) : rigGo l i (l.drop i) = if lnC l i s = 0 then rigGo l (i + 1) (l.drop (i + 1)) else (lnC l i s, (i : Int) + 1) := by
  obtain ⟨h1, rfl⟩ := List.getElem?_eq_some_iff.1 h
  rw [List.drop_eq_getElem_cons h1, rigGo]
theorem take_said {l : List Line} {i : Nat} {s : Line} (h : l[i]? = some s) (ha : ∀ x ∈ l.take i, saidE x.says = 0) (hs : saidE s.says = 0) : ∀ x ∈ l.take (i + 1), saidE x.says = 0 := by
  intro x hx
  rw [List.take_add_one, h, List.mem_append] at hx
  rcases hx with hx | hx
  · exact ha x hx
  · simp only [Option.toList_some, List.mem_cons, List.not_mem_nil, or_false] at hx
    rw [hx]
    exact hs
def specRg : Spec := Spec.no.add 15 (sp1 dE (fun e => e.ok) fun e => .int .i64 (saidE e))
theorem specRg_ok : SpecOk Tryz.prog w0 specRg := Spec.no_ok.add (sp1_ok fun e h k H => said22_call e h)
theorem right22_call (l : List Line) (hlen : (l.length : Int) ≤ 9223372036854775807) (hok : ∀ x ∈ l, x.says.ok) : CallAt Tryz.prog w0 k 8 [.list .none (l.map cLine.enc)] H H (.tup [.int .i64 (rigE l).1, .int .i64 (rigE l).2]) := by
  refine callAt tabOk specRg_ok mixed Tryz.func8 rfl rfl Tryz.results8 Tryz.ntmps8 (by simp) [] ?_
  intro hfr t hl ht
  simp only [At, Nat.reduceAdd, List.cons_append, List.nil_append] at ht
  have fN : ∀ (a b : Nat) z ty, H ⟨z, a :: b :: k, ty⟩ = none := fun a b z ty => hfr _ (sfx2 _ _ _)
  by_cases h1 : 4000 < l.length
  · have d1 : decide (4000 < (l.length : Int)) = true := by simp; omega
    rw [rigE, if_pos h1]
    simp (config := {contextual := true, maxSteps := 5000000}) only [go_sem, false_and, Nat.reduceAdd, Nat.reduceLT, Nat.reduceBEq, Nat.reduceSub, Nat.reduceMul, Nat.reduceLeDiff, Int.reduceToNat, Nat.reduceEqDiff, Nat.reduceMod, ht, hl, d1]
  have d1 : decide (4000 < (l.length : Int)) = false := by simp; omega
  by_cases h2 : l.length = 0
  · have d2 : ((l.length : Int) == 0) = true := by simp [h2]
    rw [rigE, if_neg h1, if_pos h2]
    simp (config := {contextual := true, maxSteps := 5000000}) only [go_sem, false_and, Nat.reduceAdd, Nat.reduceLT, Nat.reduceBEq, Nat.reduceSub, Nat.reduceMul, Nat.reduceLeDiff, Int.reduceToNat, Nat.reduceEqDiff, Nat.reduceMod, ht, hl, d1, d2]
  have d2 : ((l.length : Int) == 0) = false := by
    rw [beq_eq_false_iff_ne]
    omega
  rw [rigE, if_neg h1, if_neg h2]
  simp (config := {contextual := true, maxSteps := 5000000}) only [go_sem, false_and, Nat.reduceAdd, Nat.reduceLT, Nat.reduceBEq, Nat.reduceSub, Nat.reduceMul, Nat.reduceLeDiff, Int.reduceToNat, Nat.reduceEqDiff, Nat.reduceMod, ht, hl, d1, d2]
  refine loop_inv tabOk specRg_ok mixed [] (fun j x' => ∃ i : Nat, x'.tmps.length = 34 ∧ x'.tmps.getD 0 AV.undef = .list .none (l.map cLine.enc) ∧ x'.tmps.getD 4 AV.undef = .int .i64 ((i : Int) + 1) ∧ H.Le x'.H ∧ i + j = l.length ∧ rigGo l 0 l = rigGo l i (l.drop i)) l.length ⟨0, ?_⟩ ?_
  · simp (config := {contextual := true, maxSteps := 5000000}) only [go_sem, false_and, Nat.reduceAdd, Nat.reduceLT, Nat.reduceBEq, Nat.reduceSub, Nat.reduceMul, Nat.reduceLeDiff, Int.reduceToNat, Nat.reduceEqDiff, Nat.reduceMod, ht, hl]
    ((repeat' apply And.intro) <;> first | rfl | exact Hp.Le.refl _ | omega)
  · rintro j ⟨t, m, H'⟩ ⟨i, hl, g0, g4, hH, hij, hgo⟩
    simp only at hl g0 g4 hH
    by_cases hi : i < l.length
    · have d : decide ((i : Int) + 1 ≤ (l.length : Int)) = true := by simp; omega
      have hw2 : IntKind.i64.wrap ((i : Int) + 1 + 1) = ((i + 1 : Nat) : Int) + 1 := by rw [wrap_i64] <;> omega
      have hw : IntKind.i64.wrap ((i : Int) + 1 - 1) = (i : Int) := by rw [wrap_i64] <;> omega
      obtain ⟨s, hs, hse⟩ := line_get l hi
      have hso := hok s (List.mem_of_getElem? hs)
      have hdr := rigGo_drop hs
      by_cases h0 : saidE s.says = 0
      · have d0 : (saidE s.says == 0) = true := by simpa using h0
        have d0' : (saidE s.says != 0) = false := by simpa using h0
        simp (config := {contextual := true, maxSteps := 5000000}) only [go_sem, false_and, Nat.reduceAdd, Nat.reduceLT, Nat.reduceBEq, Nat.reduceSub, Nat.reduceMul, Nat.reduceLeDiff, Int.reduceToNat, Nat.reduceEqDiff, Nat.reduceMod, g0, g4, hl, d, hw, hw2, hse, specRg, toE_at, d0, d0']
        refine ⟨⟨by omega, by omega⟩, hso, ?_⟩
        refine callK_intro (fol22_call l i s hs hlen hok) ?_
        have hln : lnC l i s = folE (l.take i) s := by rw [lnC, if_pos h0]
        rw [hln] at hdr
        by_cases h3 : folE (l.take i) s = 0
        · have d3 : (folE (l.take i) s != 0) = false := by simpa using h3
          rw [if_pos h3] at hdr
          simp (config := {contextual := true, maxSteps := 5000000}) only [go_sem, false_and, Nat.reduceAdd, Nat.reduceLT, Nat.reduceBEq, Nat.reduceSub, Nat.reduceMul, Nat.reduceLeDiff, Int.reduceToNat, Nat.reduceEqDiff, Nat.reduceMod, g0, g4, hl, d, hw, hw2, hse, specRg, toE_at, d3]
          exact ⟨j - 1, by omega, i + 1, rfl, hH, by omega, by rw [hgo, hdr]⟩
        · have d3 : (folE (l.take i) s != 0) = true := by simpa using h3
          rw [if_neg h3] at hdr
          rw [hgo, hdr]
          simp (config := {contextual := true, maxSteps := 5000000}) only [go_sem, false_and, Nat.reduceAdd, Nat.reduceLT, Nat.reduceBEq, Nat.reduceSub, Nat.reduceMul, Nat.reduceLeDiff, Int.reduceToNat, Nat.reduceEqDiff, Nat.reduceMod, g0, g4, hl, d, hw, hw2, hse, specRg, toE_at, d3]
          exact hH
      · have d0 : (saidE s.says == 0) = false := by simpa using h0
        have d0' : (saidE s.says != 0) = true := by simpa using h0
        have hln : lnC l i s = saidE s.says := by rw [lnC, if_neg h0]
        rw [hln, if_neg h0] at hdr
        rw [hgo, hdr]
        simp (config := {contextual := true, maxSteps := 5000000}) only [go_sem, false_and, Nat.reduceAdd, Nat.reduceLT, Nat.reduceBEq, Nat.reduceSub, Nat.reduceMul, Nat.reduceLeDiff, Int.reduceToNat, Nat.reduceEqDiff, Nat.reduceMod, g0, g4, hl, d, hw, hw2, hse, specRg, toE_at, d0, d0']
        exact ⟨⟨by omega, by omega⟩, hso, hH⟩
    · have d : decide ((i : Int) + 1 ≤ (l.length : Int)) = false := by simp; omega
      rw [hgo, List.drop_of_length_le (by omega), rigGo]
      simp (config := {contextual := true, maxSteps := 5000000}) only [go_sem, false_and, Nat.reduceAdd, Nat.reduceLT, Nat.reduceBEq, Nat.reduceSub, Nat.reduceMul, Nat.reduceLeDiff, Int.reduceToNat, Nat.reduceEqDiff, Nat.reduceMod, g0, g4, hl, d]
      exact hH
def specRh : Spec := Spec.no.add 13 (sp1 dE (fun e => e.ok) fun e => .int .i64 (saidE e))
theorem specRh_ok : SpecOk Tryz.prog w0 specRh := Spec.no_ok.add (sp1_ok fun e h k H => saidP_call e h)
theorem rightD_call (l : List Line) (hlen : (l.length : Int) ≤ 9223372036854775807) (hok : ∀ x ∈ l, x.says.ok) : CallAt Tryz.prog w0 k 7 [.list .none (l.map cLine.enc)] H H (.tup [.int .i64 (rigE l).1, .int .i64 (rigE l).2]) := by
  refine callAt tabOk specRh_ok mixed Tryz.func7 rfl rfl Tryz.results7 Tryz.ntmps7 (by simp) [] ?_
  intro hfr t hl ht
  simp only [At, Nat.reduceAdd, List.cons_append, List.nil_append] at ht
  have fN : ∀ (a b : Nat) z ty, H ⟨z, a :: b :: k, ty⟩ = none := fun a b z ty => hfr _ (sfx2 _ _ _)
  by_cases h1 : 4000 < l.length
  · have d1 : decide (4000 < (l.length : Int)) = true := by simp; omega
    rw [rigE, if_pos h1]
    simp (config := {contextual := true, maxSteps := 5000000}) only [go_sem, false_and, Nat.reduceAdd, Nat.reduceLT, Nat.reduceBEq, Nat.reduceSub, Nat.reduceMul, Nat.reduceLeDiff, Int.reduceToNat, Nat.reduceEqDiff, Nat.reduceMod, ht, hl, d1]
  have d1 : decide (4000 < (l.length : Int)) = false := by simp; omega
  by_cases h2 : l.length = 0
  · have d2 : ((l.length : Int) == 0) = true := by simp [h2]
    rw [rigE, if_neg h1, if_pos h2]
    simp (config := {contextual := true, maxSteps := 5000000}) only [go_sem, false_and, Nat.reduceAdd, Nat.reduceLT, Nat.reduceBEq, Nat.reduceSub, Nat.reduceMul, Nat.reduceLeDiff, Int.reduceToNat, Nat.reduceEqDiff, Nat.reduceMod, ht, hl, d1, d2]
  have d2 : ((l.length : Int) == 0) = false := by
    rw [beq_eq_false_iff_ne]
    omega
  rw [rigE, if_neg h1, if_neg h2]
  simp (config := {contextual := true, maxSteps := 5000000}) only [go_sem, false_and, Nat.reduceAdd, Nat.reduceLT, Nat.reduceBEq, Nat.reduceSub, Nat.reduceMul, Nat.reduceLeDiff, Int.reduceToNat, Nat.reduceEqDiff, Nat.reduceMod, ht, hl, d1, d2]
  refine loop_inv tabOk specRh_ok mixed [] (fun j x' => ∃ i : Nat, x'.tmps.length = 36 ∧ x'.tmps.getD 0 AV.undef = .list .none (l.map cLine.enc) ∧ x'.tmps.getD 13 AV.undef = .list .none (l.map cLine.enc) ∧ x'.tmps.getD 14 AV.undef = .int .i64 l.length ∧ x'.tmps.getD 15 AV.undef = .int .i64 i ∧ H.Le x'.H ∧ i + j = l.length ∧ (∀ x ∈ l.take i, saidE x.says = 0) ∧ rigGo l 0 l = rigGo l i (l.drop i)) l.length ⟨0, ?_⟩ ?_
  · simp (config := {contextual := true, maxSteps := 5000000}) only [go_sem, false_and, Nat.reduceAdd, Nat.reduceLT, Nat.reduceBEq, Nat.reduceSub, Nat.reduceMul, Nat.reduceLeDiff, Int.reduceToNat, Nat.reduceEqDiff, Nat.reduceMod, ht, hl]
    ((repeat' with_reducible apply And.intro) <;> first | rfl | exact Hp.Le.refl _ | omega | (intro x hx; simp at hx))
  · rintro j ⟨t, m, H'⟩ ⟨i, hl, g0, g13, g14, g15, hH, hij, hsd, hgo⟩
    simp only at hl g0 g13 g14 g15 hH
    by_cases hi : i < l.length
    · have d : decide ((i : Int) < (l.length : Int)) = true := by simp; omega
      have hw2 : IntKind.i64.wrap ((i : Int) + 1) = ((i + 1 : Nat) : Int) := by rw [wrap_i64] <;> omega
      obtain ⟨s, hs, hse⟩ := line_get l hi
      have hso := hok s (List.mem_of_getElem? hs)
      have hdr := rigGo_drop hs
      by_cases h0 : saidE s.says = 0
      · have d0 : (saidE s.says == 0) = true := by simpa using h0
        simp (config := {contextual := true, maxSteps := 5000000}) only [go_sem, false_and, Nat.reduceAdd, Nat.reduceLT, Nat.reduceBEq, Nat.reduceSub, Nat.reduceMul, Nat.reduceLeDiff, Int.reduceToNat, Nat.reduceEqDiff, Nat.reduceMod, g0, g13, g14, g15, hl, d, hw2, hse, specRh, toE_at, d0]
        refine ⟨⟨by omega, by omega⟩, hso, by kernel_rfl, ⟨by omega, by omega, fun x hx => by (obtain ⟨z, _, rfl⟩ := List.mem_map.1 hx; rfl)⟩, ?_⟩
        rw [← List.map_take]
        refine callK_intro (follows_call (l.take i) s .none (by rw [List.length_take]; omega) hsd h0) ?_
        have hln : lnC l i s = folE (l.take i) s := by rw [lnC, if_pos h0]
        rw [hln] at hdr
        by_cases h3 : folE (l.take i) s = 0
        · have d3 : (folE (l.take i) s != 0) = false := by simpa using h3
          rw [if_pos h3] at hdr
          simp (config := {contextual := true, maxSteps := 5000000}) only [go_sem, false_and, Nat.reduceAdd, Nat.reduceLT, Nat.reduceBEq, Nat.reduceSub, Nat.reduceMul, Nat.reduceLeDiff, Int.reduceToNat, Nat.reduceEqDiff, Nat.reduceMod, g0, g13, g14, g15, hl, d, hw2, hse, specRh, toE_at, d3]
          exact ⟨by (refine pw_of ?_; (repeat' (first | exact trivial | apply And.intro)); all_goals (first | exact .inr rfl | exact .inr trivial | exact .inl (by kernel_rfl))), j - 1, by omega, i + 1, rfl, Hp.le_upd hH (fN _ _ _ _), by omega, take_said hs hsd h0, by rw [hgo, hdr]⟩
        · have d3 : (folE (l.take i) s != 0) = true := by simpa using h3
          rw [if_neg h3] at hdr
          rw [hgo, hdr]
          simp (config := {contextual := true, maxSteps := 5000000}) only [go_sem, false_and, Nat.reduceAdd, Nat.reduceLT, Nat.reduceBEq, Nat.reduceSub, Nat.reduceMul, Nat.reduceLeDiff, Int.reduceToNat, Nat.reduceEqDiff, Nat.reduceMod, g0, g13, g14, g15, hl, d, hw2, hse, specRh, toE_at, d3]
          exact ⟨by (refine pw_of ?_; (repeat' (first | exact trivial | apply And.intro)); all_goals (first | exact .inr rfl | exact .inr trivial | exact .inl (by kernel_rfl))), Weak.refl _, Hp.le_upd hH (fN _ _ _ _)⟩
      · have d0 : (saidE s.says == 0) = false := by simpa using h0
        have d0' : (saidE s.says != 0) = true := by simpa using h0
        have hln : lnC l i s = saidE s.says := by rw [lnC, if_neg h0]
        rw [hln, if_neg h0] at hdr
        rw [hgo, hdr]
        simp (config := {contextual := true, maxSteps := 5000000}) only [go_sem, false_and, Nat.reduceAdd, Nat.reduceLT, Nat.reduceBEq, Nat.reduceSub, Nat.reduceMul, Nat.reduceLeDiff, Int.reduceToNat, Nat.reduceEqDiff, Nat.reduceMod, g0, g13, g14, g15, hl, d, hw2, hse, specRh, toE_at, d0, d0']
        exact ⟨⟨by omega, by omega⟩, hso, Weak.refl _, Hp.le_upd hH (fN _ _ _ _)⟩
    · have d : decide ((i : Int) < (l.length : Int)) = false := by simp; omega
      rw [hgo, List.drop_of_length_le (by omega), rigGo]
      simp (config := {contextual := true, maxSteps := 5000000}) only [go_sem, false_and, Nat.reduceAdd, Nat.reduceLT, Nat.reduceBEq, Nat.reduceSub, Nat.reduceMul, Nat.reduceLeDiff, Int.reduceToNat, Nat.reduceEqDiff, Nat.reduceMod, g0, g13, g14, g15, hl, d]
      exact hH
end Go.Proofs.YtkdendaohlnlcaaGreat.Av

/- The law DeriveRights. No condition. -/
namespace Go.Proofs.YtkdendaohlnlcaaGreat.Av
set_option linter.unusedVariables false
set_option linter.unusedSimpArgs false
set_option maxRecDepth 4000
set_option maxHeartbeats 1000000
variable {w0 : Base} {k : List Nat} {H : Hp}
def specDR : Spec := (Spec.no.add 7 (sp1 (dL cLine) (fun l => (l.length : Int) ≤ 9223372036854775807 ∧ ∀ x ∈ l, x.says.ok) fun l => .tup [.int .i64 (rigE l).1, .int .i64 (rigE l).2])).add 8 (sp1 (dL cLine) (fun l => (l.length : Int) ≤ 9223372036854775807 ∧ ∀ x ∈ l, x.says.ok) fun l => .tup [.int .i64 (rigE l).1, .int .i64 (rigE l).2])
theorem specDR_ok : SpecOk Tryz.prog w0 specDR := (Spec.no_ok.add (sp1_ok fun l h k H => rightD_call l h.1 h.2)).add (sp1_ok fun l h k H => right22_call l h.1 h.2)
theorem deriveRights_call (l : List Line) (hlen : (l.length : Int) ≤ 9223372036854775807) (hok : ∀ x ∈ l, x.says.ok) : CallAt Tryz.prog w0 k 3 [(dL cLine).enc l] H H (.bool true) := by
  refine callAt tabOk specDR_ok mixed Tryz.func3 rfl rfl Tryz.results3 Tryz.ntmps3 (by simp) [] ?_
  intro hfr t hl ht
  simp only [At, dL, Nat.reduceAdd] at ht
  have hdl : (dL cLine).dec (.list .none (l.map cLine.enc)) = some l := dL_at
  simp (config := {contextual := true, maxSteps := 5000000}) only [go_sem, false_and, Nat.reduceAdd, Nat.reduceLT, Nat.reduceBEq, Nat.reduceSub, Nat.reduceMul, Nat.reduceLeDiff, Int.reduceToNat, Nat.reduceEqDiff, Nat.reduceMod, ht, hl, specDR, hdl]
  exact ⟨⟨hlen, hok⟩, ⟨hlen, hok⟩, by simp⟩
end Go.Proofs.YtkdendaohlnlcaaGreat.Av

/- From the reading of an argument to lines of a proof. No condition. -/
namespace Go.Proofs.YtkdendaohlnlcaaGreat.Av
set_option linter.unusedVariables false
set_option linter.unusedSimpArgs false
set_option maxRecDepth 4000
set_option maxHeartbeats 1000000
open Go.RowKit
section
variable {HT : Type} {enc : TypeId × Value → HT} {P : Program} {tb : Tab} {w : World} {base : Nat} {sp : Nat → Bool} {held : Bool}

/-- What is known at the start: the world's cells. -/
def ghOf (w : World) : Gh := ⟨w.cell?, fun _ => none, fun _ => none, fun _ => none⟩
theorem sim_start (w : World) : Sim ⟨w, ghOf w⟩ (ghOf w) (fun _ => none) w where
  c := fun _ _ h => h
  v := fun _ _ h => by cases h
  d := fun _ _ h => by cases h
  t := fun _ h => by cases h
  inj := fun _ _ _ h => by cases h
  tinj := fun _ _ _ _ _ h => by cases h
  vt := fun _ _ _ _ h => by cases h
  below := Below.refl _ _
  g := Gh.Le.refl _
  r := fun _ _ h => by cases h

theorem TabOk.cellsOf (hT : TabOk P tb) {t : TypeId} {ti : TI} (e : tb t = some ti) : P.cellsOf t = ti.size := by
  obtain ⟨i, d, h1, h2, h3, h4, _⟩ := hT t ti e
  simp [Program.cellsOf, h1, h4]
theorem TabOk.under (hT : TabOk P tb) {t : TypeId} {ti : TI} (e : tb t = some ti) : ∃ d, P.underlying t = some d ∧ tdOf d = ti.td := by
  obtain ⟨i, d, h1, h2, h3, h4, _⟩ := hT t ti e
  exact ⟨d, h2, h3⟩

theorem trod_int (hT : TabOk P tb) {t : TypeId} {k : IntKind} {a b : Nat} {z : Value} (e : tb t = some ⟨.int k, a, b, z⟩) {f : Nat} {cs : List Value} {x : DataW HT × List MemPlace} (h : DataW.trod enc P w base sp held f t cs = some x) : ∃ n, cs = [.int k n] := by
  obtain ⟨d, hu, hd⟩ := hT.under e
  cases d <;> simp [tdOf] at hd
  subst hd
  cases f with
  | zero => simp [DataW.trod] at h
  | succ f =>
    unfold DataW.trod at h
    rw [hu] at h
    split at h <;> simp_all
theorem trod_str (hT : TabOk P tb) {t : TypeId} {a b : Nat} {z : Value} (e : tb t = some ⟨.string, a, b, z⟩) {f : Nat} {cs : List Value} {x : DataW HT × List MemPlace} (h : DataW.trod enc P w base sp held f t cs = some x) : ∃ s : ByteArray, cs = [.string s] ∧ s.size ≤ maxLen := by
  obtain ⟨d, hu, hd⟩ := hT.under e
  cases d <;> simp [tdOf] at hd
  cases f with
  | zero => simp [DataW.trod] at h
  | succ f =>
    unfold DataW.trod at h
    rw [hu] at h
    split at h <;> simp_all
theorem trod_struct (hT : TabOk P tb) {t : TypeId} {fs : List (Nat × TypeId)} {a b : Nat} {z : Value} (e : tb t = some ⟨.struct fs, a, b, z⟩) {f : Nat} {cs : List Value} {x : DataW HT × List MemPlace} (h : DataW.trod enc P w base sp held f t cs = some x) :
    ∃ f', f = f' + 1 ∧ cs.length = a ∧ ∀ p ∈ fs, ∃ y, DataW.trod enc P w base sp held f' p.2 ((cs.drop p.1).take (P.cellsOf p.2)) = some y := by
  obtain ⟨d, hu, hd⟩ := hT.under e
  have hc := hT.cellsOf e
  cases d <;> simp [tdOf] at hd
  rename_i fa
  cases f with
  | zero => simp [DataW.trod] at h
  | succ f =>
    refine ⟨f, rfl, ?_⟩
    unfold DataW.trod at h
    rw [hu] at h
    have key : (if cs.length = P.cellsOf t then (fa.toList.mapM fun g => DataW.trod enc P w base sp held f g.type ((cs.drop g.offset).take (P.cellsOf g.type))).map fun xs => ((.agg (xs.map (·.1)) : DataW HT), xs.flatMap (·.2)) else none) = some x := by
      rcases cs with _ | ⟨c, _ | ⟨c2, cs⟩⟩
      · exact h
      · cases c <;> exact h
      · cases c <;> exact h
    split at key
    · rename_i hl
      refine ⟨by rw [hl, hc], ?_⟩
      cases hm : fa.toList.mapM fun g => DataW.trod enc P w base sp held f g.type ((cs.drop g.offset).take (P.cellsOf g.type)) with
      | none => rw [hm] at key; simp at key
      | some xs =>
        intro p hp
        rw [← hd] at hp
        obtain ⟨g, hg, rfl⟩ := List.mem_map.1 hp
        obtain ⟨i, hi, hgi⟩ := List.getElem_of_mem hg
        have := mapM_some_get hm i g (by rw [← hgi]; simp)
        have hlen := mapM_some_length hm
        have hx : i < xs.length := by omega
        exact ⟨xs[i], by simpa [hx] using this⟩
    · cases key
theorem trod_slice (hT : TabOk P tb) {t el : TypeId} {a b : Nat} {z : Value} (e : tb t = some ⟨.slice el, a, b, z⟩) {te : TI} (he : tb el = some te) {α : Type} (D : DecC α) (hD : D.sz = te.size) (okA : α → Prop) {f : Nat}
    (helem : ∀ cs y, DataW.trod enc P w base sp held (f - 1) el cs = some y → ∃ u : α, okA u ∧ RepL (ghOf w) (D.enc u) cs) {cs : List Value} {x : DataW HT × List MemPlace} (h : DataW.trod enc P w base sp held f t cs = some x) :
    ∃ (l : List α) (V : Value), cs = [V] ∧ Rep (ghOf w) (.list .none (l.map D.enc)) V ∧ l.length ≤ maxLen ∧ ∀ u ∈ l, okA u := by
  obtain ⟨d, hu, hd⟩ := hT.under e
  have hc := hT.cellsOf he
  cases d <;> simp [tdOf] at hd
  subst hd
  cases f with
  | zero => simp [DataW.trod] at h
  | succ f =>
    simp only [Nat.add_sub_cancel] at helem
    unfold DataW.trod at h
    rw [hu] at h
    split at h <;> try (simp_all; done)
    · exact ⟨[], _, rfl, by simp only [Rep]; exact ⟨none, 0, 0, rfl, rfl, Nat.le_refl _, trivial, ⟨0, by simp⟩, ⟨0, 0, none⟩, by simp, by simp [RepE]⟩, by simp, by simp⟩
    · rename_i d1 c1 el2 ad n c heq
      cases heq
      simp only at h
      split at h
      · rename_i hb
        obtain ⟨hb1, hb2, hb3⟩ := hb
        simp only [Option.bind_eq_some_iff] at h
        obtain ⟨elems, hm, _⟩ := h
        have hlen := mapM_some_length hm
        simp only [List.length_range] at hlen
        have each : ∀ i, i < n → ∃ u : α, okA u ∧ RepC (ghOf w) ad (i * D.sz) (D.enc u) := fun i hi => by
          have h1 := mapM_some_get hm i i (by simp [hi])
          rw [show elems[i]? = some (elems[i]'(by omega)) by simp [show i < elems.length by omega]] at h1
          obtain ⟨cs, h2, h3⟩ := Option.bind_eq_some_iff.1 h1
          obtain ⟨u, h4, h5⟩ := helem cs _ h3
          obtain ⟨_, h6, h7⟩ := World.cells?_some h2
          refine ⟨u, h4, RepC_of_list _ _ cs h5 fun j v hj => ?_⟩
          have hjl : j < cs.length := (List.getElem?_eq_some_iff.1 hj).1
          have h8 := h7 j (by omega)
          rw [Addr.add_add, hc, ← hD, hj] at h8
          exact h8
        have all : ∀ m i, i + m = n → ∃ l : List α, l.length = m ∧ RepE (ghOf w) ad (i * D.sz) (l.map D.enc) ∧ ∀ u ∈ l, okA u := by
          intro m
          induction m with
          | zero => exact fun i _ => ⟨[], rfl, by simp [RepE], by simp⟩
          | succ m ih =>
            intro i him
            obtain ⟨u, hu1, hu2⟩ := each i (by omega)
            obtain ⟨l, hl1, hl2, hl3⟩ := ih (i + 1) (by omega)
            refine ⟨u :: l, by simp [hl1], ?_, ?_⟩
            · simp only [List.map_cons, RepE]
              refine ⟨hu2, ?_⟩
              rw [D.elen, show i * D.sz + D.sz = (i + 1) * D.sz by rw [Nat.add_mul]; omega]
              exact hl2
            · intro v hv
              rcases List.mem_cons.1 hv with rfl | hv
              · exact hu1
              · exact hl3 v hv
        obtain ⟨l, hl1, hl2, hl3⟩ := all n 0 (by omega)
        refine ⟨l, _, rfl, ?_, by omega, hl3⟩
        simp only [Rep]
        refine ⟨some ad, n, c, rfl, by simp [hl1], hb2, trivial, ⟨D.sz, fun x hx => ?_⟩, ad, fun _ => rfl, by simpa using hl2⟩
        obtain ⟨y, _, rfl⟩ := List.mem_map.1 hx
        exact D.elen y
      · cases h
end
section
variable {HT : Type} {enc : TypeId × Value → HT} {w : World} {base : Nat} {sp : Nat → Bool} {held : Bool}
theorem maxLen_int {n : Nat} (h : n ≤ maxLen) : (n : Int) ≤ 9223372036854775807 := by
  have : maxLen = 9223372036854775807 := by decide
  omega
theorem E.ok_mk {k i : Int} {l : List E} (h1 : l.length ≤ maxLen) (h2 : ∀ u ∈ l, E.ok u) : (E.mk k i l).ok := by
  refine ⟨maxLen_int h1, ?_⟩
  clear h1
  induction l with
  | nil => trivial
  | cons u l ih => exact ⟨h2 u (by simp), ih fun v hv => h2 v (by simp [hv])⟩
theorem trodE : ∀ (f : Nat) (cs : List Value) (x : DataW HT × List MemPlace), DataW.trod enc Tryz.prog w base sp held f 33 cs = some x → ∃ e : E, e.ok ∧ RepL (ghOf w) e.cells cs := by
  intro f
  induction f using Nat.strongRecOn with
  | _ f ih =>
    intro cs x h
    obtain ⟨f', rfl, hl, hp⟩ := trod_struct tabOk (tab_33) h
    obtain ⟨a, b, c, rfl⟩ : ∃ a b c, cs = [a, b, c] := by
      match cs, hl with
      | [a, b, c], _ => exact ⟨a, b, c, rfl⟩
    obtain ⟨y1, h1⟩ := hp _ (by simp : (0, 3) ∈ _)
    obtain ⟨y2, h2⟩ := hp _ (by simp : (1, 3) ∈ _)
    obtain ⟨y3, h3⟩ := hp _ (by simp : (2, 31) ∈ _)
    simp only [tabOk.cellsOf tab_3, tabOk.cellsOf tab_31, List.drop_zero, List.drop_succ_cons, List.take_succ_cons, List.take_zero] at h1 h2 h3
    obtain ⟨n1, e1⟩ := trod_int tabOk tab_3 h1
    obtain ⟨n2, e2⟩ := trod_int tabOk tab_3 h2
    obtain ⟨l, V, e3, hr, hml, hok⟩ := trod_slice tabOk tab_31 tab_33 cE rfl E.ok (fun cs y hy => ih (f' - 1) (by omega) cs y hy) h3
    simp only [List.cons.injEq, and_true] at e1 e2 e3
    subst e1 e2 e3
    refine ⟨.mk n1 n2 l, E.ok_mk hml hok, ?_⟩
    simp only [E.cells, RepL, E.cellsL_eq]
    exact ⟨_, _, rfl, by simp [Rep], _, _, rfl, by simp [Rep], _, _, rfl, hr, rfl⟩
theorem trodLine (f : Nat) (cs : List Value) (x : DataW HT × List MemPlace) (h : DataW.trod enc Tryz.prog w base sp held f 35 cs = some x) : ∃ s : Line, s.says.ok ∧ RepL (ghOf w) (cLine.enc s) cs := by
  obtain ⟨f', rfl, hl, hp⟩ := trod_struct tabOk (tab_35) h
  obtain ⟨a, b, c, d, e, g, rfl⟩ : ∃ a b c d e g, cs = [a, b, c, d, e, g] := by
    match cs, hl with
    | [a, b, c, d, e, g], _ => exact ⟨a, b, c, d, e, g, rfl⟩
  obtain ⟨y1, h1⟩ := hp _ (by simp : (0, 33) ∈ _)
  obtain ⟨y2, h2⟩ := hp _ (by simp : (3, 3) ∈ _)
  obtain ⟨y3, h3⟩ := hp _ (by simp : (4, 3) ∈ _)
  obtain ⟨y4, h4⟩ := hp _ (by simp : (5, 3) ∈ _)
  simp only [tabOk.cellsOf tab_3, tabOk.cellsOf tab_33, List.drop_zero, List.drop_succ_cons, List.take_succ_cons, List.take_zero] at h1 h2 h3 h4
  obtain ⟨e0, hok, hr⟩ := trodE _ _ _ h1
  obtain ⟨n2, e2⟩ := trod_int tabOk tab_3 h2
  obtain ⟨n3, e3⟩ := trod_int tabOk tab_3 h3
  obtain ⟨n4, e4⟩ := trod_int tabOk tab_3 h4
  simp only [List.cons.injEq, and_true] at e2 e3 e4
  subst e2 e3 e4
  refine ⟨⟨e0, n2, n3, n4⟩, hok, ?_⟩
  rw [E.cells_eq] at hr
  have hr2 : RepL (ghOf w) [.int .i64 n2, .int .i64 n3, .int .i64 n4] [.int .i64 n2, .int .i64 n3, .int .i64 n4] := by
    simp only [RepL]
    exact ⟨_, _, rfl, by simp [Rep], _, _, rfl, by simp [Rep], _, _, rfl, by simp [Rep], rfl⟩
  exact RepL.append hr hr2
theorem trodLs (f : Nat) (cs : List Value) (x : DataW HT × List MemPlace) (h : DataW.trod enc Tryz.prog w base sp held f 22 cs = some x) : ∃ l : List Line, ((l.length : Int) ≤ 9223372036854775807 ∧ ∀ x ∈ l, x.says.ok) ∧ RepL (ghOf w) [(dL cLine).enc l] cs := by
  obtain ⟨l, V, e1, hr, hml, hok⟩ := trod_slice tabOk tab_22 tab_35 cLine rfl (fun s : Line => s.says.ok) (fun cs y hy => trodLine _ cs y hy) h
  subst e1
  exact ⟨l, ⟨maxLen_int hml, hok⟩, repL_one hr⟩
end
end Go.Proofs.YtkdendaohlnlcaaGreat.Av
