/- A part of the theory and of the contracts: R08, Pf2, R05, R07, R07b, R07c, R07d, R07e, R07f, Av15. No condition. -/
import Derived.Test.YtkdendaohlnlcaaGreatMc
/- What the functions of layer 8 answer, of the reference and of the program: abbreviations unfolded. No condition. -/
namespace Go.Proofs.YtkdendaohlnlcaaGreat.Av
set_option linter.unusedVariables false
set_option linter.unusedSimpArgs false
set_option maxRecDepth 4000
set_option maxHeartbeats 1000000
variable {w0 : Base} {k : List Nat} {H : Hp}
def nt (e : E) : E := .mk 5 0 [e]
def im (a b : E) : E := .mk 6 0 [a, b]
def al (n : Int) (e : E) : E := .mk 7 n [e]
def shrt (k i : Int) (us : List E) : E :=
  if k = 8 then (match us with | [a, b] => nt (im a (nt b)) | _ => .mk k i us)
  else if k = 9 then (match us with | [a, b] => im (nt a) b | _ => .mk k i us)
  else if k = 10 then (match us with | [a] => nt (al i (nt a)) | _ => .mk k i us)
  else .mk k i us
mutual
def E.unf : E → E
  | .mk k i ks => shrt k i (E.unfL ks)
def E.unfL : List E → List E
  | [] => []
  | e :: es => e.unf :: E.unfL es
end
theorem E.unfL_eq : ∀ l : List E, E.unfL l = l.map E.unf
  | [] => rfl
  | e :: es => by simp [E.unfL, E.unfL_eq es]
theorem E.unf_eq (e : E) : e.unf = shrt e.kind e.id (e.kids.map E.unf) := by cases e; simp only [E.unf, E.kind, E.id, E.kids, E.unfL_eq]
theorem E.loc_two {e : E} (h : e.loc = true) (hk : e.kind = 8 ∨ e.kind = 9) : ∃ p q, e.kids = [p, q] := by
  have h2 : e.kids.length = 2 := by
    unfold E.loc E.want at h
    rcases hk with hk | hk <;> simp [hk] at h <;> omega
  match hl : e.kids, h2 with
  | [p, q], _ => exact ⟨p, q, rfl⟩
theorem E.loc_one {e : E} (h : e.loc = true) (hk : e.kind = 10) : ∃ p, e.kids = [p] := by
  have h2 : e.kids.length = 1 := by
    unfold E.loc E.want at h
    simp [hk] at h
    omega
  match hl : e.kids, h2 with
  | [p], _ => exact ⟨p, rfl⟩
theorem nt_ok {e : E} (h : e.ok) : (nt e).ok := ⟨by simp, h, trivial⟩
theorem im_ok {a b : E} (h : a.ok) (h2 : b.ok) : (im a b).ok := ⟨by simp, h, h2, trivial⟩
theorem al_ok {n : Int} {e : E} (h : e.ok) : (al n e).ok := ⟨by simp, h, trivial⟩
theorem shrt_ok {k i : Int} {us : List E} (hl : us.length ≤ 4) (h : ∀ x ∈ us, x.ok) : (shrt k i us).ok := by
  have hm : (E.mk k i us).ok := by
    simp only [E.ok]
    exact ⟨by omega, okL_all h⟩
  unfold shrt
  (repeat' split) <;> first | (with_reducible exact hm) | (simp only [List.mem_cons, List.not_mem_nil, or_false, forall_eq_or_imp, forall_eq] at h; first | (with_reducible exact nt_ok (im_ok h.1 (nt_ok h.2))) | (with_reducible exact im_ok (nt_ok h.1) h.2) | (with_reducible exact nt_ok (al_ok (nt_ok h))))
theorem unf_ok : ∀ N (e : E), e.sz < N → e.sh = true → e.unf.ok
  | 0, e, h, _ => by omega
  | N + 1, e, h, hs => by
    rw [E.unf_eq]
    refine shrt_ok (by rw [List.length_map]; exact E.loc_len (E.sh_loc hs)) fun x hx => ?_
    obtain ⟨y, hy, rfl⟩ := List.mem_map.1 hx
    obtain ⟨i, hi⟩ := List.mem_iff_getElem?.1 hy
    exact unf_ok N y (by have := E.kid_sz hi; omega) (E.sh_kid hs hi)
theorem E.unf_ok {e : E} (hs : e.sh = true) : e.unf.ok := Av.unf_ok _ e (Nat.lt_succ_self _) hs
theorem right_sh {e : E} (h : e.right = 0) : e.sh = true := by
  unfold E.right at h
  (repeat' split at h) <;> simp_all
theorem E.kcase (e : E) : (e.kind = 8 ∨ e.kind = 9 ∨ e.kind = 10) ∨ ((e.kind == 8) = false ∧ (e.kind == 9) = false ∧ (e.kind == 10) = false) := by
  simp only [beq_eq_false_iff_ne]
  omega
theorem shrt_no {k i : Int} {us : List E} (h8 : (k == 8) = false) (h9 : (k == 9) = false) (h10 : (k == 10) = false) : shrt k i us = .mk k i us := by
  simp only [beq_eq_false_iff_ne] at h8 h9 h10
  unfold shrt
  simp only [h8, h9, h10, if_false]

theorem not07_call (e : E) : CallAt Tryz.prog w0 k 49 [e.av] H H (nt e).av := by
  refine callAt tabOk specOk_none mixed Tryz.func49 rfl rfl Tryz.results49 Tryz.ntmps49 (by simp) [] ?_
  intro hfr t hl ht
  simp only [At, Nat.reduceAdd, List.cons_append, List.nil_append] at ht
  have fN : ∀ (a b : Nat) z ty, H ⟨z, a :: b :: k, ty⟩ = none := fun a b z ty => hfr _ (sfx2 _ _ _)
  simp (config := {contextual := true, maxSteps := 5000000}) only [go_sem, false_and, Nat.reduceAdd, Nat.reduceLT, Nat.reduceBEq, Nat.reduceSub, Nat.reduceMul, Nat.reduceLeDiff, Int.reduceToNat, Nat.reduceEqDiff, Nat.reduceMod, ht, hl, strip]
  exact ⟨mk1_weak, by (repeat (first | exact Hp.Le.refl _ | refine Hp.le_upd ?_ (fN _ _ _ _)))⟩
theorem imp07_call (a b : E) : CallAt Tryz.prog w0 k 50 [a.av, b.av] H H (im a b).av := by
  refine callAt tabOk specOk_none mixed Tryz.func50 rfl rfl Tryz.results50 Tryz.ntmps50 (by simp) [] ?_
  intro hfr t hl ht
  simp only [At, Nat.reduceAdd, List.cons_append, List.nil_append] at ht
  have fN : ∀ (a b : Nat) z ty, H ⟨z, a :: b :: k, ty⟩ = none := fun a b z ty => hfr _ (sfx2 _ _ _)
  simp (config := {contextual := true, maxSteps := 5000000}) only [go_sem, false_and, Nat.reduceAdd, Nat.reduceLT, Nat.reduceBEq, Nat.reduceSub, Nat.reduceMul, Nat.reduceLeDiff, Int.reduceToNat, Nat.reduceEqDiff, Nat.reduceMod, ht, hl, strip]
  exact ⟨mk2_weak, by (repeat (first | exact Hp.Le.refl _ | refine Hp.le_upd ?_ (fN _ _ _ _)))⟩
theorem all07_call (n : Int) (e : E) : CallAt Tryz.prog w0 k 34 [.int .i64 n, e.av] H H (al n e).av := by
  refine callAt tabOk specOk_none mixed Tryz.func34 rfl rfl Tryz.results34 Tryz.ntmps34 (by simp) [] ?_
  intro hfr t hl ht
  simp only [At, Nat.reduceAdd, List.cons_append, List.nil_append] at ht
  have fN : ∀ (a b : Nat) z ty, H ⟨z, a :: b :: k, ty⟩ = none := fun a b z ty => hfr _ (sfx2 _ _ _)
  simp (config := {contextual := true, maxSteps := 5000000}) only [go_sem, false_and, Nat.reduceAdd, Nat.reduceLT, Nat.reduceBEq, Nat.reduceSub, Nat.reduceMul, Nat.reduceLeDiff, Int.reduceToNat, Nat.reduceEqDiff, Nat.reduceMod, ht, hl, strip]
  exact ⟨mk1_weak, by (repeat (first | exact Hp.Le.refl _ | refine Hp.le_upd ?_ (fN _ _ _ _)))⟩
theorem notP_call (e : E) : CallAt Tryz.prog w0 k 59 [e.av] H H (nt e).av := by
  refine callAt tabOk specOk_none mixed Tryz.func59 rfl rfl Tryz.results59 Tryz.ntmps59 (by simp) [] ?_
  intro hfr t hl ht
  simp only [At, Nat.reduceAdd, List.cons_append, List.nil_append] at ht
  have fN : ∀ (a b : Nat) z ty, H ⟨z, a :: b :: k, ty⟩ = none := fun a b z ty => hfr _ (sfx2 _ _ _)
  simp (config := {contextual := true, maxSteps := 5000000}) only [go_sem, false_and, Nat.reduceAdd, Nat.reduceLT, Nat.reduceBEq, Nat.reduceSub, Nat.reduceMul, Nat.reduceLeDiff, Int.reduceToNat, Nat.reduceEqDiff, Nat.reduceMod, ht, hl, strip]
  exact ⟨mk1_weak, by (repeat (first | exact Hp.Le.refl _ | refine Hp.le_upd ?_ (fN _ _ _ _)))⟩
theorem impP_call (a b : E) : CallAt Tryz.prog w0 k 60 [a.av, b.av] H H (im a b).av := by
  refine callAt tabOk specOk_none mixed Tryz.func60 rfl rfl Tryz.results60 Tryz.ntmps60 (by simp) [] ?_
  intro hfr t hl ht
  simp only [At, Nat.reduceAdd, List.cons_append, List.nil_append] at ht
  have fN : ∀ (a b : Nat) z ty, H ⟨z, a :: b :: k, ty⟩ = none := fun a b z ty => hfr _ (sfx2 _ _ _)
  simp (config := {contextual := true, maxSteps := 5000000}) only [go_sem, false_and, Nat.reduceAdd, Nat.reduceLT, Nat.reduceBEq, Nat.reduceSub, Nat.reduceMul, Nat.reduceLeDiff, Int.reduceToNat, Nat.reduceEqDiff, Nat.reduceMod, ht, hl, strip]
  exact ⟨mk2_weak, by (repeat (first | exact Hp.Le.refl _ | refine Hp.le_upd ?_ (fN _ _ _ _)))⟩
/-- The abbreviation of two. -/
def bothA (a b : E) : AV := .agg [.int .i64 a.kind, .int .i64 a.id, .list .none (a.kids.map E.cells), .int .i64 b.kind, .int .i64 b.id, .list .none (b.kids.map E.cells)]
def someA (n : Int) (a : E) : AV := .agg [.int .i64 n, .int .i64 a.kind, .int .i64 a.id, .list .none (a.kids.map E.cells)]
def shrtA (k i : Int) (us : List E) : AV :=
  if k = 8 then (match us with | [a, b] => .iface 77 (bothA a b) | _ => .raw .nilIface)
  else if k = 9 then (match us with | [a, b] => .iface 78 (bothA a b) | _ => .raw .nilIface)
  else if k = 10 then (match us with | [a] => .iface 80 (someA i a) | _ => .raw .nilIface)
  else .raw .nilIface
def shrtOk (k : Int) (us : List E) : Prop := (k = 8 ∨ k = 9 → ∃ a b, us = [a, b]) ∧ (k = 10 → ∃ a, us = [a])
theorem shortOf_call (e : E) (us : List E) (hu : shrtOk e.kind us) : CallAt Tryz.prog w0 k 58 [e.av, .list .none (us.map E.cells)] H H (shrtA e.kind e.id us) := by
  refine callAt tabOk specOk_none mixed Tryz.func58 rfl rfl Tryz.results58 Tryz.ntmps58 (by simp) [] ?_
  intro hfr t hl ht
  simp only [At, Nat.reduceAdd, List.cons_append, List.nil_append] at ht
  have fN : ∀ (a b : Nat) z ty, H ⟨z, a :: b :: k, ty⟩ = none := fun a b z ty => hfr _ (sfx2 _ _ _)
  unfold shrtA
  rcases e.kcase with (h8 | h9 | h10) | ⟨h8, h9, h10⟩
  · obtain ⟨a, b, rfl⟩ := hu.1 (.inl h8)
    simp only [List.map_cons, List.map_nil, E.cells_eq] at ht
    simp (config := {contextual := true, maxSteps := 5000000}) only [go_sem, false_and, Nat.reduceAdd, Nat.reduceLT, Nat.reduceBEq, Nat.reduceSub, Nat.reduceMul, Nat.reduceLeDiff, Int.reduceToNat, Nat.reduceEqDiff, Nat.reduceMod, ht, hl, h8, bothA, Int.reduceBEq, if_true]
    ((repeat' apply And.intro) <;> first | omega | with_reducible assumption | exact Weak.refl _ | rfl | exact List.Pairwise.nil | (refine pw_of ?_; (repeat' (first | exact trivial | apply And.intro)); all_goals (first | exact .inr rfl | exact .inr trivial | exact .inl (by kernel_rfl))) | ((with_reducible (show drawOk _ = true)); kernel_rfl) | ((with_reducible (show panOk _ _ _ = true)); kernel_rfl) | (repeat (first | exact Hp.Le.refl _ | refine Hp.le_upd ?_ (fN _ _ _ _))))
  · obtain ⟨a, b, rfl⟩ := hu.1 (.inr h9)
    simp only [List.map_cons, List.map_nil, E.cells_eq] at ht
    simp (config := {contextual := true, maxSteps := 5000000}) only [go_sem, false_and, Nat.reduceAdd, Nat.reduceLT, Nat.reduceBEq, Nat.reduceSub, Nat.reduceMul, Nat.reduceLeDiff, Int.reduceToNat, Nat.reduceEqDiff, Nat.reduceMod, ht, hl, h9, bothA, Int.reduceBEq, if_true]
    ((repeat' apply And.intro) <;> first | omega | with_reducible assumption | exact Weak.refl _ | rfl | exact List.Pairwise.nil | (refine pw_of ?_; (repeat' (first | exact trivial | apply And.intro)); all_goals (first | exact .inr rfl | exact .inr trivial | exact .inl (by kernel_rfl))) | ((with_reducible (show drawOk _ = true)); kernel_rfl) | ((with_reducible (show panOk _ _ _ = true)); kernel_rfl) | (repeat (first | exact Hp.Le.refl _ | refine Hp.le_upd ?_ (fN _ _ _ _))))
  · obtain ⟨a, rfl⟩ := hu.2 h10
    simp only [List.map_cons, List.map_nil, E.cells_eq] at ht
    simp (config := {contextual := true, maxSteps := 5000000}) only [go_sem, false_and, Nat.reduceAdd, Nat.reduceLT, Nat.reduceBEq, Nat.reduceSub, Nat.reduceMul, Nat.reduceLeDiff, Int.reduceToNat, Nat.reduceEqDiff, Nat.reduceMod, ht, hl, h10, someA, Int.reduceBEq, if_true]
    ((repeat' apply And.intro) <;> first | omega | with_reducible assumption | exact Weak.refl _ | rfl | exact List.Pairwise.nil | (refine pw_of ?_; (repeat' (first | exact trivial | apply And.intro)); all_goals (first | exact .inr rfl | exact .inr trivial | exact .inl (by kernel_rfl))) | ((with_reducible (show drawOk _ = true)); kernel_rfl) | ((with_reducible (show panOk _ _ _ = true)); kernel_rfl) | (repeat (first | exact Hp.Le.refl _ | refine Hp.le_upd ?_ (fN _ _ _ _))))
  · simp (config := {contextual := true, maxSteps := 5000000}) only [go_sem, false_and, Nat.reduceAdd, Nat.reduceLT, Nat.reduceBEq, Nat.reduceSub, Nat.reduceMul, Nat.reduceLeDiff, Int.reduceToNat, Nat.reduceEqDiff, Nat.reduceMod, ht, hl, h8, h9, h10]
    simp only [beq_eq_false_iff_ne] at h8 h9 h10
    simp only [h8, h9, h10, if_false]
    exact Weak.refl _

def specNx : Spec := ((Spec.no.add 59 (sp1 dE (fun _ => True) fun e => (nt e).av)).add 60 (sp2 dE dE (fun _ _ => True) fun a b => (im a b).av)).add 58 (sp2 dE (dL cE) (fun e us => shrtOk e.kind us) fun e us => shrtA e.kind e.id us)
theorem specNx_ok : SpecOk Tryz.prog w0 specNx := ((Spec.no_ok.add (sp1_ok fun e _ k H => notP_call e)).add (sp2_ok fun a b _ k H => impP_call a b)).add (sp2_ok fun e us h k H => shortOf_call e us h)
theorem toE_al {n : Int} {tk : Tok} {x : E} : toE [.raw (.int .i64 7), .raw (.int .i64 n), .list tk [[.raw (.int .i64 x.kind), .raw (.int .i64 x.id), .list .none (x.kids.map E.cells)]]] = some (al n x) := by
  simp only [toE, toEL, toE_at]
  rfl
def specUf (N : Nat) : Spec := specNx.add 43 (sp1 dE (fun e => e.sh = true ∧ e.sz < N) fun e => e.unf.av)
theorem unfold_step (N : Nat) (hS : SpecOk Tryz.prog w0 (specUf N)) (e : E) (hs : e.sh = true) (hN : e.sz < N + 1) : CallAt Tryz.prog w0 k 43 [e.av] H H e.unf.av := by
  refine callAt tabOk hS mixed Tryz.func43 rfl rfl Tryz.results43 Tryz.ntmps43 (by simp) [] ?_
  intro hfr t hl ht
  simp only [At, Nat.reduceAdd, List.cons_append, List.nil_append] at ht
  have fN : ∀ (a b : Nat) z ty, H ⟨z, a :: b :: k, ty⟩ = none := fun a b z ty => hfr _ (sfx2 _ _ _)
  have h4 := E.loc_len (E.sh_loc hs)
  simp (config := {contextual := true, maxSteps := 5000000}) only [go_sem, false_and, Nat.reduceAdd, Nat.reduceLT, Nat.reduceBEq, Nat.reduceSub, Nat.reduceMul, Nat.reduceLeDiff, Int.reduceToNat, Nat.reduceEqDiff, Nat.reduceMod, ht, hl]
  refine loop_inv tabOk hS mixed [] (fun j x => ∃ (i : Nat) (tk : Tok), x.tmps.length = 61 ∧ x.tmps.getD 1 AV.undef = .sptr [.int .i64 e.kind, .int .i64 e.id, .list .none (e.kids.map E.cells)] ∧ x.tmps.getD 2 AV.undef = .ptr ⟨3, 1 :: 0 :: k, 33⟩ 0 ∧ x.tmps.getD 3 AV.undef = .list tk ((e.kids.take i).map fun x => x.unf.cells) ∧ x.tmps.getD 10 AV.undef = .list .none (e.kids.map E.cells) ∧ x.tmps.getD 11 AV.undef = .int .i64 e.kids.length ∧ x.tmps.getD 12 AV.undef = .int .i64 i ∧
    LstK (H.upd ⟨3, 1 :: 0 :: k, 33⟩ (some (.cells [.int .i64 0, .int .i64 0, .list .nil []]))) 3 33 4 k tk x.H ∧ i + j = e.kids.length) e.kids.length ⟨0, .nil, ?_⟩ ?_
  · simp (config := {contextual := true, maxSteps := 5000000}) only [go_sem, false_and, Nat.reduceAdd, Nat.reduceLT, Nat.reduceBEq, Nat.reduceSub, Nat.reduceMul, Nat.reduceLeDiff, Int.reduceToNat, Nat.reduceEqDiff, Nat.reduceMod, ht, hl]
    exact ⟨rfl, ⟨Hp.Le.refl _, .inl rfl⟩, by omega⟩
  · rintro j ⟨t, n, H2⟩ ⟨i, tk, hl, h1, h2, h3, h10, h11, h12, hL, hij⟩
    simp only at hl h1 h2 h3 h10 h11 h12 hL
    have fN1 : ∀ (a b : Nat) z ty, a ≠ 1 → (H.upd ⟨3, 1 :: 0 :: k, 33⟩ (some (.cells [.int .i64 0, .int .i64 0, .list .nil []]))) ⟨z, a :: b :: k, ty⟩ = none := fun a b z ty ha => by
      rw [Hp.upd_ne _ _ (fun h => by cases h; exact ha rfl)]
      exact fN _ _ _ _
    have hle : H.Le H2 := fun i y hi => hL.1 i y (by rw [Hp.upd_ne _ _ (fun h => by rw [h, fN] at hi; cases hi)]; exact hi)
    by_cases hi : i < e.kids.length
    · have hd : decide ((i : Int) < (e.kids.length : Int)) = true := by simp [hi]
      have hw : IntKind.i64.wrap ((i : Int) + 1) = ((i + 1 : Nat) : Int) := by rw [wrap_i64] <;> omega
      obtain ⟨x, hx, he⟩ := E.kid e hi
      simp (config := {contextual := true, maxSteps := 5000000}) only [go_sem, false_and, Nat.reduceAdd, Nat.reduceLT, Nat.reduceBEq, Nat.reduceSub, Nat.reduceMul, Nat.reduceLeDiff, Int.reduceToNat, Nat.reduceEqDiff, Nat.reduceMod, he, toE_at, specUf, specNx, h1, h2, h3, h10, h11, h12, hl, hd, hw, strip, tokBy_cons]
      have hy : [[AV.int .i64 x.unf.kind, .int .i64 x.unf.id, .list .none (x.unf.kids.map E.cells)]] = [x.unf.cells] := by rw [E.cells_eq x.unf]
      have hlt : (e.kids.take i).length = i := by rw [List.length_take]; omega
      have hF : ∀ c, LstK (H.upd ⟨3, 1 :: 0 :: k, 33⟩ (some (.cells [.int .i64 0, .int .i64 0, .list .nil []]))) 3 33 4 k tk (H2.upd ⟨3, 2 :: (n + 1) :: k, 33⟩ c) := fun c => hL.frame (fN1 _ _ _ _ (by decide)) (fun m he => by cases he)
      have hP := fun c => (hF c).push (fun m => fN1 _ _ _ _ (by decide)) (y := x.unf.cells) (ys := []) (n + 1 + 1)
      simp only [tokBy_cons] at hP
      refine ⟨by omega, ⟨E.sh_kid hs hx, by have := E.kid_sz hx; omega⟩, fun y h => (h.elim (fun h => by rw [h]; rfl) (fun h => h.elim)), fun y h => by (obtain ⟨z, _, rfl⟩ := List.mem_map.1 h; exact E.cells_length _), rfl, by omega, by omega, (hF _).live, j - 1, by omega, i + 1, _, ?_, rfl, hP _, by omega⟩
      rw [hy, take_map _ hx]
    · have hd : decide ((i : Int) < (e.kids.length : Int)) = false := by simp; omega
      have e6 : e.kids.take i = e.kids := List.take_of_length_le (by omega)
      rw [e6] at h3
      have hc : (e.kids.map fun x => x.unf.cells) = (e.kids.map E.unf).map E.cells := by rw [List.map_map]; rfl
      rw [hc] at h3
      have hR : H2 ⟨3, 1 :: 0 :: k, 33⟩ = some (.cells [.int .i64 0, .int .i64 0, .list .nil []]) := hL.1 _ _ (Hp.upd_same _ _ _)
      have hu := e.unf_eq
      rcases e.kcase with (h8 | h9 | h10') | ⟨h8, h9, h10'⟩
      · obtain ⟨p, q, hpq⟩ := E.loc_two (E.sh_loc hs) (.inl h8)
        have hA : shrtA e.kind e.id (e.kids.map E.unf) = .iface 77 (bothA p.unf q.unf) := by simp [shrtA, h8, hpq]
        have hO : shrtOk e.kind (e.kids.map E.unf) := ⟨fun _ => ⟨_, _, by rw [hpq]; rfl⟩, fun h => by omega⟩
        have hu : e.unf = nt (im p.unf (nt q.unf)) := by rw [hu]; simp [shrt, h8, hpq]
        simp (config := {contextual := true, maxSteps := 5000000}) only [go_sem, false_and, Nat.reduceAdd, Nat.reduceLT, Nat.reduceBEq, Nat.reduceSub, Nat.reduceMul, Nat.reduceLeDiff, Int.reduceToNat, Nat.reduceEqDiff, Nat.reduceMod, specUf, specNx, h1, h2, h3, h10, h11, h12, hl, hd, hA, hO, hR, bothA, dLE_at]
        rw [hu]
        ((repeat' apply And.intro) <;> first | exact hO | exact Weak.refl _ | exact List.Pairwise.nil | (refine pw_of ?_; (repeat' (first | exact trivial | apply And.intro)); all_goals (first | exact .inr rfl | exact .inr trivial | exact .inl (by kernel_rfl))) | ((with_reducible (show drawOk _ = true)); kernel_rfl) | (repeat (first | exact hle | refine Hp.le_upd ?_ (fN _ _ _ _))))
      · obtain ⟨p, q, hpq⟩ := E.loc_two (E.sh_loc hs) (.inr h9)
        have hA : shrtA e.kind e.id (e.kids.map E.unf) = .iface 78 (bothA p.unf q.unf) := by simp [shrtA, h9, hpq]
        have hO : shrtOk e.kind (e.kids.map E.unf) := ⟨fun _ => ⟨_, _, by rw [hpq]; rfl⟩, fun h => by omega⟩
        have hu : e.unf = im (nt p.unf) q.unf := by rw [hu]; simp [shrt, h9, hpq]
        simp (config := {contextual := true, maxSteps := 5000000}) only [go_sem, false_and, Nat.reduceAdd, Nat.reduceLT, Nat.reduceBEq, Nat.reduceSub, Nat.reduceMul, Nat.reduceLeDiff, Int.reduceToNat, Nat.reduceEqDiff, Nat.reduceMod, specUf, specNx, h1, h2, h3, h10, h11, h12, hl, hd, hA, hO, hR, bothA, dLE_at]
        rw [hu]
        ((repeat' apply And.intro) <;> first | exact hO | exact Weak.refl _ | exact List.Pairwise.nil | (refine pw_of ?_; (repeat' (first | exact trivial | apply And.intro)); all_goals (first | exact .inr rfl | exact .inr trivial | exact .inl (by kernel_rfl))) | ((with_reducible (show drawOk _ = true)); kernel_rfl) | (repeat (first | exact hle | refine Hp.le_upd ?_ (fN _ _ _ _))))
      · obtain ⟨p, hpq⟩ := E.loc_one (E.sh_loc hs) h10'
        have hA : shrtA e.kind e.id (e.kids.map E.unf) = .iface 80 (someA e.id p.unf) := by simp [shrtA, h10', hpq]
        have hO : shrtOk e.kind (e.kids.map E.unf) := ⟨fun h => by omega, fun _ => ⟨_, by rw [hpq]; rfl⟩⟩
        have hu : e.unf = nt (al e.id (nt p.unf)) := by rw [hu]; simp [shrt, h10', hpq]
        simp (config := {contextual := true, maxSteps := 5000000}) only [go_sem, false_and, Nat.reduceAdd, Nat.reduceLT, Nat.reduceBEq, Nat.reduceSub, Nat.reduceMul, Nat.reduceLeDiff, Int.reduceToNat, Nat.reduceEqDiff, Nat.reduceMod, specUf, specNx, h1, h2, h3, h10, h11, h12, hl, hd, hA, hO, hR, someA, dLE_at, strip, toE_al]
        rw [hu]
        ((repeat' apply And.intro) <;> first | exact hO | exact Weak.refl _ | exact List.Pairwise.nil | (refine pw_of ?_; (repeat' (first | exact trivial | apply And.intro)); all_goals (first | exact .inr rfl | exact .inr trivial | exact .inl (by kernel_rfl))) | ((with_reducible (show drawOk _ = true)); kernel_rfl) | (repeat (first | exact hle | refine Hp.le_upd ?_ (fN _ _ _ _))))
      · have hA : shrtA e.kind e.id (e.kids.map E.unf) = .raw .nilIface := by
          simp only [beq_eq_false_iff_ne] at h8 h9 h10'
          simp [shrtA, h8, h9, h10']
        have hO : shrtOk e.kind (e.kids.map E.unf) := by
          simp only [beq_eq_false_iff_ne] at h8 h9 h10'
          exact ⟨fun h => by omega, fun h => by omega⟩
        rw [shrt_no h8 h9 h10'] at hu
        simp (config := {contextual := true, maxSteps := 5000000}) only [go_sem, false_and, Nat.reduceAdd, Nat.reduceLT, Nat.reduceBEq, Nat.reduceSub, Nat.reduceMul, Nat.reduceLeDiff, Int.reduceToNat, Nat.reduceEqDiff, Nat.reduceMod, specUf, specNx, h1, h2, h3, h10, h11, h12, hl, hd, hA, hO, hR, someA, dLE_at]
        rw [hu]
        exact ⟨WeakL.agg ⟨_, _, rfl, Weak.refl _, _, _, rfl, Weak.refl _, _, _, rfl, list_weak, rfl⟩, by (repeat (first | exact hle | refine Hp.le_upd ?_ (fN _ _ _ _)))⟩
theorem specUf_ok : ∀ N, SpecOk Tryz.prog w0 (specUf N)
  | 0 => specNx_ok.add (sp1_ok fun e h => by omega)
  | N + 1 => specNx_ok.add (sp1_ok fun e h k H => unfold_step N (specUf_ok N) e h.1 h.2)
theorem unfold_call (e : E) (hs : e.sh = true) : CallAt Tryz.prog w0 k 43 [e.av] H H e.unf.av := unfold_step e.sz (specUf_ok _) e hs (Nat.lt_succ_self _)
end Go.Proofs.YtkdendaohlnlcaaGreat.Av

/- Terms put in the place of variables; the seven schemas. Plain. No condition. -/
namespace Go.Proofs.YtkdendaohlnlcaaGreat.Av
set_option linter.unusedVariables false
set_option linter.unusedSimpArgs false
set_option maxRecDepth 4000
set_option maxHeartbeats 1000000
mutual
/-- A term in the place of each free occurrence of a variable. -/
def E.put : E → Int → E → E
  | .mk k i ks, x, t => if k = 1 then (if i = x then t else .mk k i ks) else if isQ k = true ∧ i = x then .mk k i ks else .mk k i (E.putL ks x t)
def E.putL : List E → Int → E → List E
  | [], _, _ => []
  | e :: es, x, t => e.put x t :: E.putL es x t
end
theorem E.putL_eq (x : Int) (t : E) : ∀ l : List E, E.putL l x t = l.map fun e => e.put x t
  | [] => rfl
  | e :: es => by simp [E.putL, E.putL_eq x t es]
mutual
/-- The same, with what is bound there. -/
def E.inn : E → Int → E → Nat → E
  | .mk k i ks, x, t, b => if k = 1 then (if i = x ∧ hasB b x = false then t else .mk k i ks) else .mk k i (E.innL ks x t (if isQ k = true then b ||| bitv i else b))
def E.innL : List E → Int → E → Nat → List E
  | [], _, _, _ => []
  | e :: es, x, t, b => e.inn x t b :: E.innL es x t b
end
theorem E.innL_eq (x : Int) (t : E) (b : Nat) : ∀ l : List E, E.innL l x t b = l.map fun e => e.inn x t b
  | [] => rfl
  | e :: es => by simp [E.innL, E.innL_eq x t b es]
mutual
theorem E.inn_bound (x : Int) (t : E) : ∀ (e : E) (b : Nat), hasB b x = true → e.inn x t b = e
  | .mk k i ks, b, h => by
    rw [E.inn]
    split
    · rw [h]
      simp
    · rw [E.innL_bound x t ks]
      split
      · rw [hasB_or, h]
        rfl
      · exact h
theorem E.innL_bound (x : Int) (t : E) : ∀ (l : List E) (b : Nat), hasB b x = true → E.innL l x t b = l
  | [], b, h => rfl
  | e :: es, b, h => by rw [E.innL, E.inn_bound x t e b h, E.innL_bound x t es b h]
end
mutual
theorem E.inn_put {x : Int} (hx : 0 ≤ x ∧ x ≤ 63) (t : E) : ∀ (e : E) (b : Nat), hasB b x = false → e.inn x t b = e.put x t
  | .mk k i ks, b, h => by
    rw [E.inn, E.put, h]
    split
    · simp
    · by_cases c : isQ k = true ∧ i = x
      · rw [if_pos c, if_pos c.1, E.innL_bound]
        rw [hasB_or, hasB_bitv, c.2]
        simp [hx]
      · rw [if_neg c, E.innL_put hx t ks]
        split
        · rename_i hq
          have : ¬ x = i := fun e => c ⟨hq, e.symm⟩
          rw [hasB_or, hasB_bitv, h]
          simp [this]
        · exact h
theorem E.innL_put {x : Int} (hx : 0 ≤ x ∧ x ≤ 63) (t : E) : ∀ (l : List E) (b : Nat), hasB b x = false → E.innL l x t b = E.putL l x t
  | [], b, h => rfl
  | e :: es, b, h => by rw [E.innL, E.putL, E.inn_put hx t e b h, E.innL_put hx t es b h]
end
mutual
/-- How many nodes there would be, up to more than may be. -/
def E.cnt (x : Int) (m : Nat) (b : Nat) : E → Nat → Nat
  | .mk k i ks, n => if k = 1 ∧ i = x ∧ hasB b x = false then n + m else E.cntL x m (if isQ k = true then b ||| bitv i else b) ks (n + 1)
def E.cntL (x : Int) (m : Nat) (b : Nat) : List E → Nat → Nat
  | [], n => n
  | e :: es, n => if 1000 < n then n else E.cntL x m b es (E.cnt x m b e n)
end
mutual
theorem E.cnt_le (x : Int) {m : Nat} (hm : m ≤ 1001) : ∀ (e : E) (b n : Nat), n ≤ 1000 → E.cnt x m b e n ≤ 2001
  | .mk k i ks, b, n, h => by
    rw [E.cnt]
    split
    · omega
    · exact E.cntL_le x hm ks _ _ (by omega)
theorem E.cntL_le (x : Int) {m : Nat} (hm : m ≤ 1001) : ∀ (l : List E) (b n : Nat), n ≤ 2001 → E.cntL x m b l n ≤ 2001
  | [], b, n, h => h
  | e :: es, b, n, h => by
    rw [E.cntL]
    split
    · exact h
    · exact E.cntL_le x hm es b _ (E.cnt_le x hm e b n (by omega))
end
theorem E.cntL_stop (x : Int) (m b : Nat) : ∀ (l : List E) (n : Nat), 1000 < n → E.cntL x m b l n = n
  | [], n, h => rfl
  | e :: es, n, h => by rw [E.cntL, if_pos h]
theorem sh_var {i : Int} {ks : List E} (h : (E.mk 1 i ks).sh = true) : ks = [] := by
  rw [E.sh_eq, Bool.and_eq_true] at h
  have h1 := h.1
  unfold E.loc at h1
  simp only [E.want, E.kind, E.kids, E.id, if_true, Bool.and_eq_true, decide_eq_true_eq] at h1
  exact List.length_eq_zero_iff.1 (Nat.le_zero.1 (of_decide_eq_true h1.1.2))
theorem sh_kids {k i : Int} {ks : List E} (h : (E.mk k i ks).sh = true) : E.shL ks = true := by
  rw [E.sh, Bool.and_eq_true] at h
  exact h.2
theorem shL_cons {e : E} {es : List E} (h : E.shL (e :: es) = true) : e.sh = true ∧ E.shL es = true := by
  rw [E.shL, Bool.and_eq_true] at h
  exact h
mutual
theorem E.cnt_sz (x : Int) (t : E) (ht : t.sz ≤ 1000) : ∀ (e : E) (b n : Nat), e.sh = true → (n + (e.inn x t b).sz ≤ 1000 → E.cnt x t.sz b e n = n + (e.inn x t b).sz) ∧ (1000 < n + (e.inn x t b).sz → 1000 < E.cnt x t.sz b e n)
  | .mk k i ks, b, n, hs => by
    by_cases h1 : k = 1
    · subst h1
      obtain rfl := sh_var hs
      by_cases h2 : i = x ∧ hasB b x = false
      · simp only [E.inn, E.cnt, h2, and_self, if_true]
        exact ⟨fun h => trivial, fun h => h⟩
      · have e1 : (E.mk 1 i []).inn x t b = .mk 1 i [] := by simp only [E.inn, if_true, if_neg h2]
        have e2 : E.cnt x t.sz b (.mk 1 i []) n = n + 1 := by
          rw [E.cnt, if_neg (fun h => h2 h.2)]
          rfl
        rw [e1, e2]
        exact ⟨fun h => rfl, fun h => h⟩
    · have e1 : (E.mk k i ks).inn x t b = .mk k i (E.innL ks x t (if isQ k = true then b ||| bitv i else b)) := by rw [E.inn, if_neg h1]
      have e2 : E.cnt x t.sz b (.mk k i ks) n = E.cntL x t.sz (if isQ k = true then b ||| bitv i else b) ks (n + 1) := by rw [E.cnt, if_neg (fun h => h1 h.1)]
      rw [e1, e2]
      have := E.cntL_sz x t ht ks (if isQ k = true then b ||| bitv i else b) (n + 1) (sh_kids hs)
      simp only [E.sz]
      rw [← Nat.add_assoc]
      exact this
theorem E.cntL_sz (x : Int) (t : E) (ht : t.sz ≤ 1000) : ∀ (l : List E) (b n : Nat), E.shL l = true → (n + E.szL (E.innL l x t b) ≤ 1000 → E.cntL x t.sz b l n = n + E.szL (E.innL l x t b)) ∧ (1000 < n + E.szL (E.innL l x t b) → 1000 < E.cntL x t.sz b l n)
  | [], b, n, _ => ⟨fun _ => rfl, fun h => h⟩
  | e :: es, b, n, hs => by
    have h1 := E.cnt_sz x t ht e b n (shL_cons hs).1
    have h2 := E.cntL_sz x t ht es b (E.cnt x t.sz b e n) (shL_cons hs).2
    have hp := (e.inn x t b).sz_pos
    rw [E.innL, E.szL, E.cntL]
    by_cases hn : 1000 < n
    · rw [if_pos hn]
      exact ⟨fun h => by omega, fun _ => hn⟩
    · rw [if_neg hn]
      refine ⟨fun h => ?_, fun h => ?_⟩
      · rw [h1.1 (by omega)] at h2 ⊢
        rw [h2.1 (by omega)]
        omega
      · by_cases hs : 1000 < n + (e.inn x t b).sz
        · have := h1.2 hs
          rw [E.cntL_stop _ _ _ _ _ this]
          exact this
        · rw [h1.1 (by omega)] at h2 ⊢
          exact h2.2 (by omega)
end
/-- Is there more than may be? -/
theorem cnt_many {x : Int} (hx : 0 ≤ x ∧ x ≤ 63) {t e : E} (ht : t.sz ≤ 1000) (hs : e.sh = true) : 1000 < E.cnt x t.sz 0 e 0 ↔ 1000 < (e.put x t).sz := by
  have h := E.cnt_sz x t ht e 0 0 hs
  rw [E.inn_put hx t e 0 (by simp [hasB]), Nat.zero_add] at h
  constructor
  · intro h1
    by_cases h2 : 1000 < (e.put x t).sz
    · exact h2
    · have := h.1 (by omega)
      omega
  · exact h.2
mutual
/-- Is one the other with some parts replaced? -/
def E.swp : E → E → E → Nat → E → Bool → Bool
  | .mk k i ks, t, u, own, b, may => (may && ((E.mk k i ks).like t && b.like u)) || (decide (k = b.kind) && (decide (i = b.id) && (decide (ks.length = b.kids.length) && E.swpL ks t u own b.kids (may && !(isQ k && hasB own i)))))
def E.swpL : List E → E → E → Nat → List E → Bool → Bool
  | x :: xs, t, u, own, y :: ys, m => x.swp t u own y m && E.swpL xs t u own ys m
  | _, _, _, _, _, _ => true
end
def eqE (t u : E) : E := .mk 4 0 [t, u]
/-- Which are to be terms. -/
def sortsE (k : Int) : List Bool := if k = 1 ∨ k = 3 ∨ k = 5 then [false, false] else if k = 2 then [false, false, false] else if k = 4 then [false, true] else if k = 6 then [true] else if k = 7 then [true, true, false, false] else []
def boundE (k : Int) : Bool := k == 4 || k == 5
def sortedE : List E → List Bool → Bool
  | [], [] => true
  | e :: es, b :: bs => (e.right == 0 && (e.term == b)) && sortedE es bs
  | _, _ => false
def rawE (k : Int) (l : List E) (x : Int) : E :=
  let a := l.getD 0 noE
  let b := l.getD 1 noE
  let c := l.getD 2 noE
  if k = 1 then im a (im b a) else if k = 2 then im (im a (im b c)) (im (im a b) (im a c)) else if k = 3 then im (im (nt a) (nt b)) (im b a) else if k = 4 then im (al x a) (a.put x b)
  else if k = 5 then im (al x (im a b)) (im a (al x b)) else if k = 6 then eqE a a else if k = 7 then im (eqE a b) (im c (l.getD 3 noE)) else noE
def sideE (k : Int) (l : List E) (x : Int) : Bool :=
  let a := l.getD 0 noE
  let b := l.getD 1 noE
  if k = 4 then a.cau b.vs x == 0 else if k = 5 then !hasB a.fv x else if k = 7 then E.swp (l.getD 2 noE) a b (a.vs ||| b.vs) (l.getD 3 noE) true else true
/-- Are these the parts of that instance? -/
def mkOk (k : Int) (l : List E) (x : Int) (e : E) : Bool := decide (1 ≤ k ∧ k ≤ 7) && (sortedE l (sortsE k) && (decide (0 ≤ x ∧ x ≤ 63) && ((boundE k || decide (x = 0)) && (sideE k l x && ((rawE k l x).like e && e.right == 0)))))
/-- The part down a path, or nothing's. -/
def kidE : E → List Nat → E
  | e, [] => e
  | e, i :: p => match e.kids[i]? with
    | some x => kidE x p
    | none => noE
/-- The part down a path on which the nodes have these kinds. -/
def atK : E → List (Int × Nat) → Option E
  | e, [] => some e
  | e, (k, i) :: p => if e.kind = k then (match e.kids[i]? with
    | some x => atK x p
    | none => none) else none
mutual
/-- What stands where the variable is free for the first time: the reference's. -/
def E.stR (x : Int) : E → E → Option E
  | .mk k i ks, b => if hasB (E.fv (.mk k i ks)) x = false ∨ (k ≠ 1 ∧ ks.length ≠ b.kids.length) then none else if k = 1 then some b else E.stRL x ks b.kids
def E.stRL (x : Int) : List E → List E → Option E
  | e :: es, b :: bs => if hasB e.fv x = true then e.stR x b else E.stRL x es bs
  | _, _ => none
end
mutual
/-- The program's. -/
def E.stP (x : Int) : E → E → Option E
  | .mk k i ks, b => if k = 1 ∧ i = x then (if b.right = 0 ∧ b.term = true then some b else none) else if (isQ k = true ∧ i = x) ∨ k ≠ b.kind ∨ ks.length ≠ b.kids.length then none else E.stPL x ks b.kids
def E.stPL (x : Int) : List E → List E → Option E
  | e :: es, b :: bs => match e.stP x b with
    | some t => some t
    | none => E.stPL x es bs
  | _, _ => none
end
theorem quant_fv {k i x : Int} {ks : List E} (hk : k ≠ 1) (hx : 0 ≤ x ∧ x ≤ 63) : hasB (E.fv (.mk k i ks)) x = (hasB (E.fvL ks) x && !(isQ k && decide (i = x))) := by
  rw [E.fv, if_neg hk]
  cases isQ k
  · simp
  · simp only [if_true, Bool.true_and]
    rw [hasB_clr, hasB_bitv]
    have : (x = i) = (i = x) := propext ⟨Eq.symm, Eq.symm⟩
    simp [hx, this]
theorem E.putL_length (x : Int) (t : E) (l : List E) : (E.putL l x t).length = l.length := by rw [E.putL_eq, List.length_map]
mutual
theorem E.stP_none {x : Int} (hx : 0 ≤ x ∧ x ≤ 63) : ∀ (e b : E), e.sh = true → hasB e.fv x = false → e.stP x b = none
  | .mk k i ks, b, hs, h => by
    rw [E.stP]
    by_cases h1 : k = 1
    · subst h1
      obtain rfl := sh_var hs
      rw [E.fv, if_pos rfl, hasB_bitv] at h
      have : i ≠ x := fun e => by subst e; simp [hx] at h
      rw [if_neg (fun e => this e.2)]
      split
      · rfl
      · simp [E.stPL]
    · rw [if_neg (fun e => h1 e.1)]
      split
      · rfl
      · rename_i h2
        refine E.stPL_none hx ks b.kids (sh_kids hs) ?_
        rw [quant_fv h1 hx] at h
        cases hD : hasB (E.fvL ks) x
        · rfl
        · rw [hD] at h
          simp only [Bool.true_and, Bool.not_eq_false', Bool.and_eq_true, decide_eq_true_eq] at h
          exact absurd (.inl h) h2
theorem E.stPL_none {x : Int} (hx : 0 ≤ x ∧ x ≤ 63) : ∀ (l m : List E), E.shL l = true → hasB (E.fvL l) x = false → E.stPL x l m = none
  | [], m, _, h => by simp [E.stPL]
  | e :: es, [], _, h => by simp [E.stPL]
  | e :: es, b :: bs, hs, h => by
    rw [E.fvL, hasB_or, Bool.or_eq_false_iff] at h
    rw [E.stPL, E.stP_none hx e b (shL_cons hs).1 h.1]
    exact E.stPL_none hx es bs (shL_cons hs).2 h.2
end
mutual
theorem E.stP_put {x : Int} (hx : 0 ≤ x ∧ x ≤ 63) {t : E} (ht : t.right = 0) (htt : t.term = true) : ∀ e : E, e.sh = true → hasB e.fv x = true → e.stP x (e.put x t) = some t
  | .mk k i ks, hs, h => by
    rw [E.stP, E.put]
    by_cases h1 : k = 1
    · subst h1
      rw [E.fv, if_pos rfl, hasB_bitv] at h
      simp only [Bool.and_eq_true, decide_eq_true_eq] at h
      have hi : i = x := h.2.symm
      rw [if_pos ⟨rfl, hi⟩, if_pos rfl, if_pos hi, if_pos ⟨ht, htt⟩]
    · rw [quant_fv h1 hx] at h
      simp only [Bool.and_eq_true, Bool.not_eq_true', Bool.and_eq_false_imp, decide_eq_false_iff_not] at h
      have hq : ¬ (isQ k = true ∧ i = x) := fun ⟨a, b⟩ => h.2 a b
      rw [if_neg (fun e => h1 e.1), if_neg h1, if_neg hq, if_neg]
      · exact E.stPL_put hx ht htt ks (sh_kids hs) h.1
      · simp only [E.kind, E.kids, E.putL_length]
        simpa using hq
theorem E.stPL_put {x : Int} (hx : 0 ≤ x ∧ x ≤ 63) {t : E} (ht : t.right = 0) (htt : t.term = true) : ∀ l : List E, E.shL l = true → hasB (E.fvL l) x = true → E.stPL x l (E.putL l x t) = some t
  | [], hs, h => by simp [E.fvL, hasB] at h
  | e :: es, hs, h => by
    rw [E.putL, E.stPL]
    cases he : hasB e.fv x
    · rw [E.stP_none hx e _ (shL_cons hs).1 he]
      rw [E.fvL, hasB_or, he, Bool.false_or] at h
      exact E.stPL_put hx ht htt es (shL_cons hs).2 h
    · rw [E.stP_put hx ht htt e (shL_cons hs).1 he]
end
mutual
theorem E.stR_put {x : Int} (hx : 0 ≤ x ∧ x ≤ 63) (t : E) : ∀ e : E, hasB e.fv x = true → e.stR x (e.put x t) = some t
  | .mk k i ks, h => by
    rw [E.stR, E.put]
    by_cases h1 : k = 1
    · rw [if_neg (by rw [h]; simp [h1]), if_pos h1, if_pos h1]
      subst h1
      rw [E.fv, if_pos rfl, hasB_bitv] at h
      simp only [Bool.and_eq_true, decide_eq_true_eq] at h
      rw [if_pos h.2.symm]
    · have h' := h
      rw [quant_fv h1 hx] at h'
      simp only [Bool.and_eq_true, Bool.not_eq_true', Bool.and_eq_false_imp, decide_eq_false_iff_not] at h'
      have hq : ¬ (isQ k = true ∧ i = x) := fun ⟨a, b⟩ => h'.2 a b
      rw [if_neg h1, if_neg hq, if_neg, if_neg h1]
      · exact E.stRL_put hx t ks h'.1
      · rw [h]
        simp [E.kids, E.putL_length]
theorem E.stRL_put {x : Int} (hx : 0 ≤ x ∧ x ≤ 63) (t : E) : ∀ l : List E, hasB (E.fvL l) x = true → E.stRL x l (E.putL l x t) = some t
  | [], h => by simp [E.fvL, hasB] at h
  | e :: es, h => by
    rw [E.putL, E.stRL]
    cases he : hasB e.fv x
    · rw [E.fvL, hasB_or, he, Bool.false_or] at h
      rw [if_neg (by simp)]
      exact E.stRL_put hx t es h
    · rw [if_pos rfl]
      exact E.stR_put hx t e he
end
/-- Both find the same, where a term was put in. -/
theorem st_same {x : Int} (hx : 0 ≤ x ∧ x ≤ 63) {a t : E} (hs : a.sh = true) (ht : t.right = 0) (htt : t.term = true) : a.stP x (a.put x t) = a.stR x (a.put x t) := by
  cases h : hasB a.fv x
  · rw [E.stP_none hx a _ hs h]
    cases a with
    | mk k i ks => rw [E.stR, if_pos (.inl h)]
  · rw [E.stP_put hx ht htt a hs h, E.stR_put hx t a h]
def varE (x : Int) : E := .mk 1 x []
/-- The parts that a formula would have: the reference's. -/
def guessE (k : Int) (e : E) : List E × Int :=
  if k = 1 then ([kidE e [0], kidE e [1, 0]], 0) else if k = 2 then ([kidE e [0, 0], kidE e [0, 1, 0], kidE e [0, 1, 1]], 0) else if k = 3 then ([kidE e [1, 1], kidE e [1, 0]], 0)
  else if k = 4 then ([kidE e [0, 0], ((kidE e [0, 0]).stR (kidE e [0]).id (kidE e [1])).getD (varE (kidE e [0]).id)], (kidE e [0]).id)
  else if k = 5 then ([kidE e [0, 0, 0], kidE e [0, 0, 1]], (kidE e [0]).id) else if k = 6 then ([kidE e [0]], 0)
  else if k = 7 then ([kidE e [0, 0], kidE e [0, 1], kidE e [1, 0], kidE e [1, 1]], 0) else ([], 0)
/-- The program's. -/
def findE (k : Int) (e : E) : Option (List E × Int) :=
  if k = 1 then (atK e [(6, 1), (6, 0)]).map fun b => ([kidE e [0], b], 0) else if k = 2 then (atK e [(6, 0), (6, 1), (6, 1)]).map fun c => ([kidE e [0, 0], kidE e [0, 1, 0], c], 0)
  else if k = 3 then (atK e [(6, 1), (6, 0)]).map fun b => ([kidE e [1, 1], b], 0)
  else if k = 4 then (atK e [(6, 0), (7, 0)]).map fun a => ([a, (a.stP (kidE e [0]).id (kidE e [1])).getD (varE (kidE e [0]).id)], (kidE e [0]).id)
  else if k = 5 then (atK e [(6, 0), (7, 0), (6, 1)]).map fun b => ([kidE e [0, 0, 0], b], (kidE e [0]).id) else if k = 6 then (atK e [(4, 0)]).map fun t => ([t], 0)
  else if k = 7 then (atK e [(6, 0), (4, 0)]).bind fun t => (atK e [(6, 1), (6, 0)]).map fun a => ([t, kidE e [0, 1], a, kidE e [1, 1]], 0) else none
def isR (k : Int) (e : E) : Bool := mkOk k (guessE k e).1 (guessE k e).2 e
def isP (k : Int) (e : E) : Bool := match findE k e with
  | some (l, x) => mkOk k l x e
  | none => false
theorem atK_kid : ∀ {e x : E} {p : List (Int × Nat)}, atK e p = some x → kidE e (p.map (·.2)) = x
  | e, x, [], h => by simpa [atK, kidE] using h
  | e, x, (k, i) :: p, h => by
    simp only [atK] at h
    split at h
    · split at h
      · rename_i y hy
        simp only [List.map_cons, kidE, hy]
        exact atK_kid h
      · cases h
    · cases h
theorem mkOk_parts {k : Int} {l : List E} {x : Int} {e : E} (h : mkOk k l x e = true) : (1 ≤ k ∧ k ≤ 7) ∧ sortedE l (sortsE k) = true ∧ (0 ≤ x ∧ x ≤ 63) ∧ (boundE k = true ∨ x = 0) ∧ sideE k l x = true ∧ rawE k l x = e ∧ e.right = 0 := by
  unfold mkOk at h
  simp only [Bool.and_eq_true, decide_eq_true_eq, Bool.or_eq_true, beq_iff_eq, E.like_iff] at h
  exact h
theorem right_sh' {e : E} (h : e.right = 0) : e.sh = true := by
  unfold E.right at h
  split at h
  · omega
  · split at h
    · omega
    · split at h
      · assumption
      · omega
theorem sorted_two {l : List E} {p q : Bool} (h : sortedE l [p, q] = true) : ∃ a b, l = [a, b] ∧ (a.right = 0 ∧ a.term = p) ∧ (b.right = 0 ∧ b.term = q) := by
  match l, h with
  | [a, b], h =>
    simp only [sortedE, Bool.and_eq_true, beq_iff_eq, and_true] at h
    exact ⟨a, b, rfl, h.1, h.2⟩
  | [], h => simp [sortedE] at h
  | [a], h => simp [sortedE] at h
  | a :: b :: c :: l, h => simp [sortedE] at h
theorem find_guess {k : Int} {l : List E} {x : Int} {e : E} (h : mkOk k l x e = true) : findE k e = some (guessE k e) := by
  obtain ⟨hk, hs, hx, _, _, hr, _⟩ := mkOk_parts h
  have hc : k = 1 ∨ k = 2 ∨ k = 3 ∨ k = 4 ∨ k = 5 ∨ k = 6 ∨ k = 7 := by omega
  rcases hc with rfl | rfl | rfl | rfl | rfl | rfl | rfl
  · subst hr
    simp [findE, guessE, rawE, atK, kidE, im, E.kind, E.kids]
  · subst hr
    simp [findE, guessE, rawE, atK, kidE, im, E.kind, E.kids]
  · subst hr
    simp [findE, guessE, rawE, atK, kidE, im, nt, E.kind, E.kids]
  · have hs' : sortedE l [false, true] = true := by simpa [sortsE] using hs
    obtain ⟨a, t, rfl, ⟨ha, _⟩, ht, htt⟩ := sorted_two hs'
    have := st_same hx (right_sh' ha) ht htt
    subst hr
    simp [findE, guessE, rawE, atK, kidE, im, al, E.kind, E.kids, E.id, this]
  · subst hr
    simp [findE, guessE, rawE, atK, kidE, im, al, E.kind, E.kids, E.id]
  · subst hr
    simp [findE, guessE, rawE, atK, kidE, eqE, E.kind, E.kids]
  · subst hr
    simp [findE, guessE, rawE, atK, kidE, im, eqE, E.kind, E.kids]
/-- The two find the same instances. -/
theorem isP_isR (k : Int) (e : E) : isP k e = isR k e := by
  rw [Bool.eq_iff_iff]
  constructor
  · intro h
    unfold isP at h
    split at h
    · rename_i l x hf
      have := find_guess h
      rw [hf] at this
      have h2 := Option.some.inj this
      unfold isR
      rw [← h2]
      exact h
    · cases h
  · intro h
    unfold isP
    rw [find_guess h]
    exact h
mutual
theorem sh_ok : ∀ e : E, e.sh = true → e.ok
  | .mk k i ks, h => by
    have h4 := E.loc_len (E.sh_loc h)
    refine ⟨?_, shL_ok ks (sh_kids h)⟩
    simp only [E.kids] at h4
    omega
theorem shL_ok : ∀ l : List E, E.shL l = true → E.okL l
  | [], _ => trivial
  | e :: es, h => ⟨sh_ok e (shL_cons h).1, shL_ok es (shL_cons h).2⟩
end
theorem put_term {x : Int} {u : E} (hu : u.term = true) (e : E) : (e.put x u).term = e.term := by
  cases e with
  | mk k i ks =>
    rw [E.put]
    by_cases h1 : k = 1
    · rw [if_pos h1]
      split
      · rw [hu]
        simp [E.term, E.kind, h1]
      · rfl
    · rw [if_neg h1]
      split <;> rfl
mutual
theorem put_sh {x : Int} {u : E} (hs : u.sh = true) (hu : u.term = true) : ∀ e : E, e.sh = true → (e.put x u).sh = true
  | .mk k i ks, h => by
    rw [E.put]
    by_cases h1 : k = 1
    · rw [if_pos h1]
      split
      · exact hs
      · exact h
    · rw [if_neg h1]
      split
      · exact h
      · rw [E.sh, Bool.and_eq_true]
        refine ⟨?_, putL_sh hs hu ks (sh_kids h)⟩
        have hl := E.sh_loc h
        unfold E.loc at hl ⊢
        simp only [E.kind, E.id, E.kids, E.putL_length] at hl ⊢
        split at hl
        · rename_i mx lo hi t hw
          simp only [Bool.and_eq_true] at hl ⊢
          refine ⟨hl.1, ?_⟩
          rw [E.putL_eq, List.all_map]
          rw [List.all_eq_true] at *
          intro y hy
          have := hl.2 y hy
          simp only [Function.comp, put_term hu]
          exact this
        · cases hl
theorem putL_sh {x : Int} {u : E} (hs : u.sh = true) (hu : u.term = true) : ∀ l : List E, E.shL l = true → E.shL (E.putL l x u) = true
  | [], _ => rfl
  | e :: es, h => by
    rw [E.putL, E.shL, put_sh hs hu e (shL_cons h).1, putL_sh hs hu es (shL_cons h).2]
    rfl
end
def firstBad : List E → Int
  | [] => 0
  | e :: l => if e.right = 0 then firstBad l else e.right
def termsB : List E → List Bool → Bool
  | e :: l, b :: bs => (e.term == b) && termsB l bs
  | _, _ => true
/-- What is wrong with a list of formulas and terms. -/
def sortedC (l : List E) (bs : List Bool) : Int := if firstBad l = 0 then (if termsB l bs = true then 0 else 40) else firstBad l
theorem firstBad_zero : ∀ {l : List E}, firstBad l = 0 ↔ ∀ e ∈ l, e.right = 0
  | [] => by simp [firstBad]
  | e :: l => by
    rw [firstBad]
    have := @firstBad_zero l
    split
    · rename_i h
      rw [this]
      simp [h]
    · rename_i h
      simp [h]
theorem sortedC_zero : ∀ {l : List E} {bs : List Bool}, l.length = bs.length → (sortedC l bs = 0 ↔ sortedE l bs = true)
  | [], [], _ => by simp [sortedC, firstBad, termsB, sortedE]
  | e :: l, b :: bs, h => by
    have ih := @sortedC_zero l bs (by simpa using h)
    unfold sortedC at ih ⊢
    rw [firstBad, termsB, sortedE]
    by_cases h0 : e.right = 0
    · rw [if_pos h0]
      cases hb : e.term == b
      · simp [h0]
        split <;> simp_all
      · simp [h0]
        rw [← ih]
    · rw [if_neg h0, if_neg h0]
      simp [h0]
def sortB (bs : List Bool) : ByteArray := ⟨(bs.map fun b => if b = true then (116 : UInt8) else 102).toArray⟩
theorem sortB_size (bs : List Bool) : (sortB bs).size = bs.length := by simp [sortB, ByteArray.size]
theorem sortB_at (bs : List Bool) {i : Nat} (h : i < bs.length) : byteAt (sortB bs) (i : Int) = if bs[i] = true then 116 else 102 := by
  unfold byteAt
  rw [dif_pos (by simp only [Int.toNat_natCast]; rw [sortB_size]; exact h)]
  have : (sortB bs)[(i : Int).toNat]'(by simp only [Int.toNat_natCast]; rw [sortB_size]; exact h) = if bs[i] = true then (116 : UInt8) else 102 := by
    simp [sortB, ByteArray.getElem_eq_getElem_data]
  rw [this]
  split <;> rfl
theorem E.swp_eq (t u : E) (own : Nat) (a b : E) (may : Bool) : a.swp t u own b may = ((may && (a.like t && b.like u)) || (decide (a.kind = b.kind) && (decide (a.id = b.id) && (decide (a.kids.length = b.kids.length) && E.swpL a.kids t u own b.kids (may && !(isQ a.kind && hasB own a.id)))))) := by cases a; rw [E.swp]; rfl
theorem swpL_drop (t u : E) (own : Nat) (m : Bool) {l k : List E} {i : Nat} {x y : E} (hx : l[i]? = some x) (hy : k[i]? = some y) : E.swpL (l.drop i) t u own (k.drop i) m = (x.swp t u own y m && E.swpL (l.drop (i + 1)) t u own (k.drop (i + 1)) m) := by
  obtain ⟨h1, rfl⟩ := List.getElem?_eq_some_iff.1 hx
  obtain ⟨h2, rfl⟩ := List.getElem?_eq_some_iff.1 hy
  rw [List.drop_eq_getElem_cons h1, List.drop_eq_getElem_cons h2, E.swpL]
theorem E.stR_eq (x : Int) (a b : E) : a.stR x b = if hasB a.fv x = false ∨ (a.kind ≠ 1 ∧ a.kids.length ≠ b.kids.length) then none else if a.kind = 1 then some b else E.stRL x a.kids b.kids := by cases a; rw [E.stR]; rfl
theorem stRL_drop (x : Int) {l k : List E} {i : Nat} {a b : E} (hx : l[i]? = some a) (hy : k[i]? = some b) : E.stRL x (l.drop i) (k.drop i) = if hasB a.fv x = true then a.stR x b else E.stRL x (l.drop (i + 1)) (k.drop (i + 1)) := by
  obtain ⟨h1, rfl⟩ := List.getElem?_eq_some_iff.1 hx
  obtain ⟨h2, rfl⟩ := List.getElem?_eq_some_iff.1 hy
  rw [List.drop_eq_getElem_cons h1, List.drop_eq_getElem_cons h2, E.stRL]
theorem mk_sh {k i : Int} {ks : List E} (h : (E.mk k i ks).loc = true) (hk : ∀ x ∈ ks, x.sh = true) : (E.mk k i ks).sh = true := by
  rw [E.sh_eq, h]
  simpa [E.kids] using hk
def fml (e : E) : Prop := e.sh = true ∧ e.term = false
theorem nt_f {e : E} (h : fml e) : fml (nt e) := ⟨mk_sh (by simp [E.loc, E.want, E.kind, E.id, E.kids, h.2]) (by simpa using h.1), rfl⟩
theorem im_f {a b : E} (h : fml a) (g : fml b) : fml (im a b) := ⟨mk_sh (by simp [E.loc, E.want, E.kind, E.id, E.kids, h.2, g.2]) (by simp [h.1, g.1]), rfl⟩
theorem al_f {n : Int} {e : E} (h : fml e) (h0 : 0 ≤ n ∧ n ≤ 63) : fml (al n e) := ⟨mk_sh (by simp [E.loc, E.want, E.kind, E.id, E.kids, h.2, h0]) (by simpa using h.1), rfl⟩
theorem eq_f {a b : E} (h : a.sh = true) (ht : a.term = true) (g : b.sh = true) (gt : b.term = true) : fml (eqE a b) := ⟨mk_sh (by simp [E.loc, E.want, E.kind, E.id, E.kids, ht, gt]) (by simp [h, g]), rfl⟩
theorem right_f {e : E} (h : e.right = 0) (ht : e.term = false) : fml e := ⟨right_sh' h, ht⟩
theorem sorted_one {l : List E} {p : Bool} (h : sortedE l [p] = true) : ∃ a, l = [a] ∧ a.right = 0 ∧ a.term = p := by
  match l, h with
  | [a], h =>
    simp only [sortedE, Bool.and_eq_true, beq_iff_eq, and_true] at h
    exact ⟨a, rfl, h.1, h.2⟩
  | [], h => simp [sortedE] at h
  | a :: b :: l, h => simp [sortedE] at h
theorem sorted_three {l : List E} {p q r : Bool} (h : sortedE l [p, q, r] = true) : ∃ a b c, l = [a, b, c] ∧ (a.right = 0 ∧ a.term = p) ∧ (b.right = 0 ∧ b.term = q) ∧ (c.right = 0 ∧ c.term = r) := by
  match l, h with
  | [a, b, c], h =>
    simp only [sortedE, Bool.and_eq_true, beq_iff_eq, and_true] at h
    exact ⟨a, b, c, rfl, h.1, h.2.1, h.2.2⟩
  | [], h => simp [sortedE] at h
  | [a], h => simp [sortedE] at h
  | [a, b], h => simp [sortedE] at h
  | a :: b :: c :: d :: l, h => simp [sortedE] at h
theorem sorted_four {l : List E} {p q r w : Bool} (h : sortedE l [p, q, r, w] = true) : ∃ a b c d, l = [a, b, c, d] ∧ (a.right = 0 ∧ a.term = p) ∧ (b.right = 0 ∧ b.term = q) ∧ (c.right = 0 ∧ c.term = r) ∧ (d.right = 0 ∧ d.term = w) := by
  match l, h with
  | [a, b, c, d], h =>
    simp only [sortedE, Bool.and_eq_true, beq_iff_eq, and_true] at h
    exact ⟨a, b, c, d, rfl, h.1, h.2.1, h.2.2.1, h.2.2.2⟩
  | [], h => simp [sortedE] at h
  | [a], h => simp [sortedE] at h
  | [a, b], h => simp [sortedE] at h
  | [a, b, c], h => simp [sortedE] at h
  | a :: b :: c :: d :: e :: l, h => simp [sortedE] at h
/-- What the parts of each schema are. -/
def PartsK (k : Int) (l : List E) : Prop :=
  (k = 1 ∧ ∃ a b, l = [a, b] ∧ (a.right = 0 ∧ a.term = false) ∧ (b.right = 0 ∧ b.term = false)) ∨ (k = 2 ∧ ∃ a b c, l = [a, b, c] ∧ (a.right = 0 ∧ a.term = false) ∧ (b.right = 0 ∧ b.term = false) ∧ (c.right = 0 ∧ c.term = false)) ∨
  (k = 3 ∧ ∃ a b, l = [a, b] ∧ (a.right = 0 ∧ a.term = false) ∧ (b.right = 0 ∧ b.term = false)) ∨ (k = 4 ∧ ∃ a b, l = [a, b] ∧ (a.right = 0 ∧ a.term = false) ∧ (b.right = 0 ∧ b.term = true)) ∨
  (k = 5 ∧ ∃ a b, l = [a, b] ∧ (a.right = 0 ∧ a.term = false) ∧ (b.right = 0 ∧ b.term = false)) ∨ (k = 6 ∧ ∃ a, l = [a] ∧ a.right = 0 ∧ a.term = true) ∨
  (k = 7 ∧ ∃ a b c d, l = [a, b, c, d] ∧ (a.right = 0 ∧ a.term = true) ∧ (b.right = 0 ∧ b.term = true) ∧ (c.right = 0 ∧ c.term = false) ∧ (d.right = 0 ∧ d.term = false))
theorem partsK {k : Int} {l : List E} (hk : 1 ≤ k ∧ k ≤ 7) (h : sortedE l (sortsE k) = true) : PartsK k l := by
  have hc : k = 1 ∨ k = 2 ∨ k = 3 ∨ k = 4 ∨ k = 5 ∨ k = 6 ∨ k = 7 := by omega
  unfold PartsK
  rcases hc with rfl | rfl | rfl | rfl | rfl | rfl | rfl
  · exact .inl ⟨rfl, sorted_two h⟩
  · exact .inr (.inl ⟨rfl, sorted_three h⟩)
  · exact .inr (.inr (.inl ⟨rfl, sorted_two h⟩))
  · exact .inr (.inr (.inr (.inl ⟨rfl, sorted_two h⟩)))
  · exact .inr (.inr (.inr (.inr (.inl ⟨rfl, sorted_two h⟩))))
  · exact .inr (.inr (.inr (.inr (.inr (.inl ⟨rfl, sorted_one h⟩)))))
  · exact .inr (.inr (.inr (.inr (.inr (.inr ⟨rfl, sorted_four h⟩)))))
theorem raw_sh {k : Int} {l : List E} {x : Int} (hx : 0 ≤ x ∧ x ≤ 63) (h : PartsK k l) : fml (rawE k l x) := by
  rcases h with ⟨rfl, a, b, rfl, ha, hb⟩ | ⟨rfl, a, b, c, rfl, ha, hb, hc⟩ | ⟨rfl, a, b, rfl, ha, hb⟩ | ⟨rfl, a, b, rfl, ha, hb⟩ | ⟨rfl, a, b, rfl, ha, hb⟩ | ⟨rfl, a, rfl, ha⟩ | ⟨rfl, a, b, c, d, rfl, ha, hb, hc, hd⟩
  · have fa := right_f ha.1 ha.2
    have fb := right_f hb.1 hb.2
    exact im_f fa (im_f fb fa)
  · have fa := right_f ha.1 ha.2
    have fb := right_f hb.1 hb.2
    have fc := right_f hc.1 hc.2
    exact im_f (im_f fa (im_f fb fc)) (im_f (im_f fa fb) (im_f fa fc))
  · have fa := right_f ha.1 ha.2
    have fb := right_f hb.1 hb.2
    exact im_f (im_f (nt_f fa) (nt_f fb)) (im_f fb fa)
  · have fa := right_f ha.1 ha.2
    have sb := right_sh' hb.1
    exact im_f (al_f fa hx) ⟨put_sh sb hb.2 a fa.1, by show (a.put x b).term = false; rw [put_term hb.2]; exact fa.2⟩
  · have fa := right_f ha.1 ha.2
    have fb := right_f hb.1 hb.2
    exact im_f (al_f (im_f fa fb) hx) (im_f fa (al_f fb hx))
  · have sa := right_sh' ha.1
    exact eq_f sa ha.2 sa ha.2
  · have fc := right_f hc.1 hc.2
    have fd := right_f hd.1 hd.2
    exact im_f (eq_f (right_sh' ha.1) ha.2 (right_sh' hb.1) hb.2) (im_f fc fd)
/-- The instance, unless it has too many nodes for sure. -/
def madeE (k : Int) (l : List E) (x : Int) : Option E := if k = 4 ∧ 1000 < ((l.getD 0 noE).put x (l.getD 1 noE)).sz then none else some (rawE k l x)
/-- What the reference makes of parts. -/
def mkR (k : Int) (l : List E) (x : Int) : E × Int := if ¬ (1 ≤ k ∧ k ≤ 7) then (noE, 70) else if ¬ (l.length = (sortsE k).length ∧ (0 ≤ x ∧ x ≤ 63) ∧ (boundE k = true ∨ x = 0)) then (noE, 71) else if sortedC l (sortsE k) ≠ 0 then (noE, sortedC l (sortsE k)) else if sideE k l x = false then (noE, 72)
  else match madeE k l x with
    | none => (noE, 20)
    | some e => if e.right = 0 then (e, 0) else (noE, e.right)
end Go.Proofs.YtkdendaohlnlcaaGreat.Av

/- What the reference of layer 5 answers that puts one term in. No condition. -/
namespace Go.Proofs.YtkdendaohlnlcaaGreat.Av
set_option linter.unusedVariables false
set_option linter.unusedSimpArgs false
set_option maxRecDepth 4000
set_option maxHeartbeats 1000000
variable {w0 : Base} {k : List Nat} {H : Hp}
/-- A term put in, if there is room. -/
def wiE (a : E) (x : Int) (u : E) (room : Int) : Option E := if ((a.put x u).sz : Int) ≤ room then some (a.put x u) else none
def wiA : Option E → AV
  | some e => .agg [.bool true, .int .i64 e.kind, .int .i64 e.id, .list .none (e.kids.map E.cells), .int .i64 e.sz]
  | none => .agg [.bool false, .int .i64 0, .int .i64 0, .list .none [], .int .i64 0]
/-- A list that a loop's one append has made, round by round, from some region on. -/
def LstB (lo : Nat) (H0 : Hp) (sz : Nat) (ty : TypeId) (j : Nat) (k : List Nat) (tk : Tok) (H : Hp) : Prop := H0.Le H ∧ (tk = .nil ∨ ∃ m, lo ≤ m ∧ tk = .tok ⟨sz, j :: m :: k, ty⟩ ∧ H ⟨sz, j :: m :: k, ty⟩ = some .tok)
theorem LstB.live {lo : Nat} {H0 H : Hp} {sz : Nat} {ty : TypeId} {j : Nat} {tk : Tok} (h : LstB lo H0 sz ty j k tk H) : tokLive H sz ty tk := by
  rcases h.2 with rfl | ⟨m, _, rfl, hm⟩
  · trivial
  · exact ⟨hm, rfl, rfl⟩
theorem LstB.push {lo : Nat} {H0 H : Hp} {sz : Nat} {ty : TypeId} {j : Nat} {tk : Tok} (h : LstB lo H0 sz ty j k tk H) (hn : ∀ m, H0 ⟨sz, j :: m :: k, ty⟩ = none) {y : List AV} {ys : List (List AV)} (m : Nat) (hm : lo ≤ m) :
    LstB lo H0 sz ty j k (tokBy tk (y :: ys) ⟨sz, j :: m :: k, ty⟩) ((killTok H tk).upd ⟨sz, j :: m :: k, ty⟩ (some .tok)) := by
  have hkill : H0.Le (killTok H tk) := by
    rcases h.2 with rfl | ⟨m', _, rfl, hm⟩
    · exact h.1
    · exact Hp.le_upd h.1 (hn m')
  refine ⟨Hp.le_upd hkill (hn m), .inr ⟨m, hm, ?_, Hp.upd_same _ _ _⟩⟩
  rcases h.2 with rfl | ⟨m', _, rfl, hm⟩ <;> rfl
theorem LstB.frame {lo : Nat} {H0 H : Hp} {sz : Nat} {ty : TypeId} {j : Nat} {tk : Tok} (h : LstB lo H0 sz ty j k tk H) {X : Id} {e : Option Ent} (hX : H0 X = none) (hne : ∀ m, lo ≤ m → X ≠ ⟨sz, j :: m :: k, ty⟩) : LstB lo H0 sz ty j k tk (H.upd X e) := by
  refine ⟨Hp.le_upd h.1 hX, h.2.imp id ?_⟩
  rintro ⟨m, hl, rfl, hm⟩
  exact ⟨m, hl, rfl, by rw [Hp.upd_ne _ _ (Ne.symm (hne m hl))]; exact hm⟩
theorem wiN_weak : Weak (.agg [.bool false, .int .i64 0, .int .i64 0, .list .nil [], .int .i64 0]) (wiA none) := WeakL.agg ⟨_, _, rfl, Weak.refl _, _, _, rfl, Weak.refl _, _, _, rfl, Weak.refl _, _, _, rfl, nil_weak, _, _, rfl, Weak.refl _, rfl⟩
theorem putL_take (x : Int) (u : E) (l : List E) (i : Nat) : (E.putL l x u).take i = E.putL (l.take i) x u := by rw [E.putL_eq, E.putL_eq, List.map_take]
theorem szL_snoc (l : List E) (y : E) : E.szL (l ++ [y]) = E.szL l + y.sz := by
  induction l with
  | nil => simp [E.szL]
  | cons x l ih => simp only [List.cons_append, E.szL, ih]; omega
theorem E.put_eq (x : Int) (u e : E) : e.put x u = if e.kind = 1 then (if e.id = x then u else e) else if isQ e.kind = true ∧ e.id = x then e else .mk e.kind e.id (E.putL e.kids x u) := by cases e; rw [E.put]; rfl
def specWb : Spec := ((Spec.no.add 128 (sp1 dE (fun _ => True) fun e => .bool (isQ e.kind))).add 66 (sp1 dE (fun _ => True) fun e => .int .i64 (min (e.sz : Int) 1001))).add 19 (sp1 dE (fun e => e.sh = true) fun e => e.av)
theorem specWb_ok : SpecOk Tryz.prog w0 specWb := ((Spec.no_ok.add (sp1_ok fun e _ k H => quant_call e)).add (sp1_ok fun e _ k H => size_call e)).add (sp1_ok fun e h k H => copy_call e h)
def specWn (N : Nat) : Spec := specWb.add 129 (sp4 dE dI dE dI (fun a _ u room => (a.ok ∧ a.sz ≤ 1000 ∧ a.sh = true ∧ u.ok ∧ u.sz ≤ 1000 ∧ u.sh = true ∧ room ≤ 1000) ∧ a.sz < N) fun a x u room => wiA (wiE a x u room))
theorem within_step (N : Nat) (hS : SpecOk Tryz.prog w0 (specWn N)) (e : E) (x : Int) (u : E) (room : Int) (hok : e.ok) (hz : e.sz ≤ 1000) (hs : e.sh = true) (huo : u.ok) (huz : u.sz ≤ 1000) (hus : u.sh = true) (hroom : room ≤ 1000) (hN : e.sz < N + 1) : CallAt Tryz.prog w0 k 129 [e.av, .int .i64 x, u.av, .int .i64 room] H H (wiA (wiE e x u room)) := by
  refine callAt tabOk hS mixed Tryz.func129 rfl rfl Tryz.results129 Tryz.ntmps129 (by simp) [] ?_
  intro hfr t hl ht
  simp only [At, Nat.reduceAdd, List.cons_append, List.nil_append] at ht
  have fN : ∀ (a b : Nat) z ty, H ⟨z, a :: b :: k, ty⟩ = none := fun a b z ty => hfr _ (sfx2 _ _ _)
  have hlen := E.ok_len hok
  have h4 := E.loc_len (E.sh_loc hs)
  have hpos := (e.put x u).sz_pos
  by_cases hr : room < 1
  · have d : decide (room < 1) = true := by simpa using hr
    rw [wiE, if_neg (by omega)]
    simp (config := {contextual := true, maxSteps := 5000000}) only [go_sem, false_and, Nat.reduceAdd, Nat.reduceLT, Nat.reduceBEq, Nat.reduceSub, Nat.reduceMul, Nat.reduceLeDiff, Int.reduceToNat, Nat.reduceEqDiff, Nat.reduceMod, ht, hl, specWn, specWb, d, resOne]
    exact ⟨wiN_weak, (by (repeat (first | exact Hp.Le.refl _ | refine Hp.le_upd ?_ (fN _ _ _ _))))⟩
  have d : decide (room < 1) = false := by simpa using hr
  have hpe := E.put_eq x u e
  by_cases h1 : e.kind = 1
  · have hk : (e.kind == 1) = true := by simpa using h1
    rw [if_pos h1] at hpe
    by_cases h2 : e.id = x
    · have hk2 : (e.id == x) = true := by simpa using h2
      rw [if_pos h2] at hpe
      have hcz : min (u.sz : Int) 1001 = (u.sz : Int) := by omega
      by_cases hf : room < (u.sz : Int)
      · have d2 : decide (room < (u.sz : Int)) = true := by simpa using hf
        rw [wiE, if_neg (by rw [hpe]; omega)]
        simp (config := {contextual := true, maxSteps := 5000000}) only [go_sem, false_and, Nat.reduceAdd, Nat.reduceLT, Nat.reduceBEq, Nat.reduceSub, Nat.reduceMul, Nat.reduceLeDiff, Int.reduceToNat, Nat.reduceEqDiff, Nat.reduceMod, ht, hl, specWn, specWb, d, d2, hk, hk2, toE_at, hcz, resOne]
        exact ⟨wiN_weak, (by (repeat (first | exact Hp.Le.refl _ | refine Hp.le_upd ?_ (fN _ _ _ _))))⟩
      · have d2 : decide (room < (u.sz : Int)) = false := by simpa using hf
        rw [wiE, if_pos (by rw [hpe]; omega), hpe]
        simp (config := {contextual := true, maxSteps := 5000000}) only [go_sem, false_and, Nat.reduceAdd, Nat.reduceLT, Nat.reduceBEq, Nat.reduceSub, Nat.reduceMul, Nat.reduceLeDiff, Int.reduceToNat, Nat.reduceEqDiff, Nat.reduceMod, ht, hl, specWn, specWb, d, d2, hk, hk2, toE_at, hcz, resOne, wiA]
        exact ⟨hus, (by (repeat (first | exact Hp.Le.refl _ | refine Hp.le_upd ?_ (fN _ _ _ _))))⟩
    · have hk2 : (e.id == x) = false := by simpa using h2
      rw [if_neg h2] at hpe
      have hkn : e.kids = [] := by
        cases e with
        | mk kk ii kids =>
          have h1' : kk = 1 := h1
          subst h1'
          exact sh_var hs
      have hq : isQ e.kind = false := by rw [h1]; rfl
      have hpt : e.put x u = .mk e.kind e.id (E.putL e.kids x u) := by
        rw [hpe, hkn]
        cases e with
        | mk kk ii kids =>
          simp only [E.kids] at hkn
          rw [hkn]
          rfl
      simp (config := {contextual := true, maxSteps := 5000000}) only [go_sem, false_and, Nat.reduceAdd, Nat.reduceLT, Nat.reduceBEq, Nat.reduceSub, Nat.reduceMul, Nat.reduceLeDiff, Int.reduceToNat, Nat.reduceEqDiff, Nat.reduceMod, ht, hl, specWn, specWb, d, hk, hk2, hq]
      refine loop_inv tabOk hS mixed [] (fun j x' => ∃ (i : Nat) (tk : Tok), x'.tmps.length = 94 ∧ x'.tmps.getD 1 AV.undef = .int .i64 x ∧ x'.tmps.getD 3 AV.undef = .int .i64 room ∧ x'.tmps.getD 6 AV.undef = .sptr [.int .i64 u.kind, .int .i64 u.id, .list .none (u.kids.map E.cells)] ∧ x'.tmps.getD 8 AV.undef = .ptr ⟨5, 2 :: 0 :: k, 106⟩ 0 ∧ x'.tmps.getD 11 AV.undef = .ptr ⟨3, 5 :: 4 :: k, 33⟩ 0 ∧ x'.tmps.getD 12 AV.undef = .int .i64 ((1 + E.szL (E.putL (e.kids.take i) x u) : Nat) : Int) ∧ x'.tmps.getD 62 AV.undef = .list .none (e.kids.map E.cells) ∧ x'.tmps.getD 63 AV.undef = .int .i64 e.kids.length ∧ x'.tmps.getD 64 AV.undef = .int .i64 i ∧
        x'.H ⟨3, 5 :: 4 :: k, 33⟩ = some (.cells [.int .i64 e.kind, .int .i64 e.id, .list tk ((e.kids.take i).map fun y => (y.put x u).cells)]) ∧ LstB 5 (H.upd ⟨5, 2 :: 0 :: k, 106⟩ (some (.cells [.bool false, .int .i64 0, .int .i64 0, .list .nil [], .int .i64 0]))) 3 33 5 k tk x'.H ∧ i + j = e.kids.length ∧ ((1 + E.szL (E.putL (e.kids.take i) x u) : Nat) : Int) ≤ room ∧ 5 ≤ x'.n) e.kids.length ⟨0, .nil, ?_⟩ ?_
      · simp (config := {contextual := true, maxSteps := 5000000}) only [go_sem, false_and, Nat.reduceAdd, Nat.reduceLT, Nat.reduceBEq, Nat.reduceSub, Nat.reduceMul, Nat.reduceLeDiff, Int.reduceToNat, Nat.reduceEqDiff, Nat.reduceMod, ht, hl]
        have h0 : ((1 + E.szL (E.putL (e.kids.take 0) x u) : Nat) : Int) = 1 := by simp [E.putL, E.szL]
        (repeat' apply And.intro) <;> first | rfl | exact .inl rfl | exact Hp.le_upd (Hp.Le.refl _) (by rw [Hp.upd_ne _ _ (fun h => by cases h)]; exact fN _ _ _ _) | omega | (simp [E.putL, E.szL]; done) | (simp [E.putL, E.szL]; omega)
      · rintro j ⟨t, n, H2⟩ ⟨i, tk, hl, g1, g3, g6, g8, g11, g12, g62, g63, g64, hX, hL, hij, hrm, hn5⟩
        simp only at hl g1 g3 g6 g8 g11 g12 g62 g63 g64 hX hL hn5
        have fN1 : ∀ (a b : Nat) z ty, (a ≠ 2 ∨ b ≠ 0) → (H.upd ⟨5, 2 :: 0 :: k, 106⟩ (some (.cells [.bool false, .int .i64 0, .int .i64 0, .list .nil [], .int .i64 0]))) ⟨z, a :: b :: k, ty⟩ = none := fun a b z ty ha => by
          rw [Hp.upd_ne _ _ (fun h => by cases h; exact ha.elim (fun h => h rfl) (fun h => h rfl))]
          exact fN _ _ _ _
        have hle : H.Le H2 := fun i y hi => hL.1 i y (by rw [Hp.upd_ne _ _ (fun h => by rw [h, fN] at hi; cases hi)]; exact hi)
        by_cases hi : i < e.kids.length
        · have hd : decide ((i : Int) < (e.kids.length : Int)) = true := by simp [hi]
          have hw : IntKind.i64.wrap ((i : Int) + 1) = ((i + 1 : Nat) : Int) := by rw [wrap_i64] <;> omega
          obtain ⟨y, hy, hye⟩ := E.kid e hi
          have hws : IntKind.i64.wrap (room - ((1 + E.szL (E.putL (e.kids.take i) x u) : Nat) : Int)) = room - ((1 + E.szL (E.putL (e.kids.take i) x u) : Nat) : Int) := by rw [wrap_i64] <;> omega
          generalize hsz : (1 + E.szL (E.putL (e.kids.take i) x u) : Nat) = q at *
          have hys : y.sz < N := by have := E.kid_sz hy; omega
          have hyz : y.sz ≤ 1000 := by have := E.kid_sz hy; omega
          have hyq : (y.ok ∧ y.sz ≤ 1000 ∧ y.sh = true ∧ u.ok ∧ u.sz ≤ 1000 ∧ u.sh = true ∧ room - (q : Int) ≤ 1000) ∧ y.sz < N := ⟨⟨E.ok_kid hok hy, hyz, E.sh_kid hs hy, huo, huz, hus, by omega⟩, hys⟩
          have htk : 1 + E.szL (E.putL (e.kids.take (i + 1)) x u) = q + (y.put x u).sz := by
            rw [E.putL_eq, take_map _ hy, szL_snoc, ← E.putL_eq]
            omega
          by_cases hfit : ((y.put x u).sz : Int) ≤ room - (q : Int)
          · have hwi : wiE y x u (room - (q : Int)) = some (y.put x u) := by rw [wiE, if_pos hfit]
            have hn6 : ¬ (4 = n + 1 + 1 + 1 + 1) := by omega
            have hn7 : ¬ (n = 0) := by omega
            have hwq : IntKind.i64.wrap ((q : Int) + ((y.put x u).sz : Int)) = ((q + (y.put x u).sz : Nat) : Int) := by rw [wrap_i64] <;> omega
            have hyy : [[AV.int .i64 (y.put x u).kind, .int .i64 (y.put x u).id, .list .none ((y.put x u).kids.map E.cells)]] = [(y.put x u).cells] := by rw [E.cells_eq (y.put x u)]
            have hlt : (e.kids.take i).length = i := by rw [List.length_take]; omega
            have hF : ∀ c d, LstB 5 (H.upd ⟨5, 2 :: 0 :: k, 106⟩ (some (.cells [.bool false, .int .i64 0, .int .i64 0, .list .nil [], .int .i64 0]))) 3 33 5 k tk ((H2.upd ⟨3, 2 :: (n + 1) :: k, 33⟩ c).upd ⟨5, 7 :: (n + 1 + 1) :: k, 106⟩ d) := fun c d => (hL.frame (fN1 _ _ _ _ (.inr (by omega))) (fun m _ he => by cases he)).frame (fN1 _ _ _ _ (.inr (by omega))) (fun m _ he => by cases he)
            have hP := fun c d f => ((hF c d).push (fun m => fN1 _ _ _ _ (.inl (by decide))) (y := (y.put x u).cells) (ys := []) (n + 1 + 1 + 1 + 1) (by omega)).frame (X := ⟨3, 5 :: 4 :: k, 33⟩) (e := f) (fN1 _ _ _ _ (.inl (by decide))) (fun m hm he => by simp only [Id.mk.injEq, List.cons.injEq] at he; omega)
            simp only [tokBy_cons] at hP
            have hkk : ∀ c d, killTok ((H2.upd ⟨3, 2 :: (n + 1) :: k, 33⟩ c).upd ⟨5, 7 :: (n + 1 + 1) :: k, 106⟩ d) tk ⟨3, 5 :: 4 :: k, 33⟩ = some (.cells [.int .i64 e.kind, .int .i64 e.id, .list tk ((e.kids.take i).map fun y => (y.put x u).cells)]) := fun c d =>
              killTok_keeps (by rw [Hp.upd_ne _ _ (fun he => by cases he), Hp.upd_ne _ _ (fun he => by cases he)]; exact hX) ((hF c d).2.imp id fun ⟨m, _, h1, h2⟩ => ⟨_, h1, h2⟩)
            have hk2 : ∀ c dd, killTok ((H2.upd ⟨3, 2 :: (n + 1) :: k, 33⟩ c).upd ⟨5, 7 :: (n + 1 + 1) :: k, 106⟩ (some (.cells dd))) tk ⟨5, 7 :: (n + 1 + 1) :: k, 106⟩ = some (.cells dd) := fun c dd =>
              killTok_keeps (Hp.upd_same _ _ _) ((hF c _).2.imp id fun ⟨m, _, h1, h2⟩ => ⟨_, h1, h2⟩)
            simp (config := {contextual := true, maxSteps := 5000000}) only [go_sem, false_and, Nat.reduceAdd, Nat.reduceLT, Nat.reduceBEq, Nat.reduceSub, Nat.reduceMul, Nat.reduceLeDiff, Int.reduceToNat, Nat.reduceEqDiff, Nat.reduceMod, hye, toE_at, specWn, specWb, g1, g3, g6, g8, g11, g12, g62, g63, g64, hX, hl, hd, hw, hws, hwi, wiA, hwq, strip, tokBy_cons, hkk, hk2, hn6, hn7]
            refine ⟨⟨by omega, by omega⟩, hyq, fun z h => (h.elim (fun h => by rw [h]; rfl) (fun h => h.elim)), fun z h => by (obtain ⟨w, _, rfl⟩ := List.mem_map.1 h; exact E.cells_length _), rfl, by omega, by omega, (hF _ _).live, j - 1, by omega, i + 1, .tok ⟨3, 5 :: (n + 1 + 1 + 1 + 1) :: k, 33⟩, by rw [htk], rfl, ?_, hP _ _ _, by omega, by rw [htk]; omega⟩
            rw [hyy, take_map _ hy]
          · have hwi : wiE y x u (room - (q : Int)) = none := by rw [wiE, if_neg hfit]
            have hno : wiE e x u room = none := by
              rw [wiE, if_neg]
              have h1 := E.szL_le (E.putL e.kids x u) (i + 1)
              rw [putL_take] at h1
              rw [hpt, E.sz]
              omega
            rw [hno]
            simp (config := {contextual := true, maxSteps := 5000000}) only [go_sem, false_and, Nat.reduceAdd, Nat.reduceLT, Nat.reduceBEq, Nat.reduceSub, Nat.reduceMul, Nat.reduceLeDiff, Int.reduceToNat, Nat.reduceEqDiff, Nat.reduceMod, hye, toE_at, specWn, specWb, g1, g3, g6, g8, g11, g12, g62, g63, g64, hX, hl, hd, hw, hws, hwi, wiA, resOne]
            exact ⟨⟨by omega, by omega⟩, hyq, wiN_weak, by (repeat (first | exact hle | refine Hp.le_upd ?_ (fN _ _ _ _)))⟩
        · have hd : decide ((i : Int) < (e.kids.length : Int)) = false := by simp; omega
          have e6 : e.kids.take i = e.kids := List.take_of_length_le (by omega)
          rw [e6] at hX g12 hrm
          have hc : (e.kids.map fun y => (y.put x u).cells) = (E.putL e.kids x u).map E.cells := by rw [E.putL_eq, List.map_map]; rfl
          rw [hc] at hX
          have hR : H2 ⟨5, 2 :: 0 :: k, 106⟩ = some (.cells [.bool false, .int .i64 0, .int .i64 0, .list .nil [], .int .i64 0]) := hL.1 _ _ (Hp.upd_same _ _ _)
          have hyes : wiE e x u room = some (.mk e.kind e.id (E.putL e.kids x u)) := by
            rw [wiE, if_pos (by rw [hpt, E.sz]; exact hrm), hpt]
          rw [hyes]
          simp (config := {contextual := true, maxSteps := 5000000}) only [go_sem, false_and, Nat.reduceAdd, Nat.reduceLT, Nat.reduceBEq, Nat.reduceSub, Nat.reduceMul, Nat.reduceLeDiff, Int.reduceToNat, Nat.reduceEqDiff, Nat.reduceMod, specWn, specWb, g1, g3, g6, g8, g11, g12, g62, g63, g64, hX, hl, hd, hR, wiA, resOne]
          exact ⟨WeakL.agg ⟨_, _, rfl, Weak.refl _, _, _, rfl, Weak.refl _, _, _, rfl, Weak.refl _, _, _, rfl, list_weak, _, _, rfl, Weak.refl _, rfl⟩, by (repeat (first | exact hle | refine Hp.le_upd ?_ (fN _ _ _ _)))⟩
  · have hk : (e.kind == 1) = false := by simpa using h1
    rw [if_neg h1] at hpe
    by_cases h2 : isQ e.kind = true ∧ e.id = x
    · have hk2 : (e.id == x) = true := by simpa using h2.2
      rw [if_pos h2] at hpe
      have hcz : min (e.sz : Int) 1001 = (e.sz : Int) := by omega
      by_cases hf : room < (e.sz : Int)
      · have d2 : decide (room < (e.sz : Int)) = true := by simpa using hf
        rw [wiE, if_neg (by rw [hpe]; omega)]
        simp (config := {contextual := true, maxSteps := 5000000}) only [go_sem, false_and, Nat.reduceAdd, Nat.reduceLT, Nat.reduceBEq, Nat.reduceSub, Nat.reduceMul, Nat.reduceLeDiff, Int.reduceToNat, Nat.reduceEqDiff, Nat.reduceMod, ht, hl, specWn, specWb, d, d2, hk, hk2, h2.1, toE_at, hcz, resOne]
        exact ⟨wiN_weak, (by (repeat (first | exact Hp.Le.refl _ | refine Hp.le_upd ?_ (fN _ _ _ _))))⟩
      · have d2 : decide (room < (e.sz : Int)) = false := by simpa using hf
        rw [wiE, if_pos (by rw [hpe]; omega), hpe]
        simp (config := {contextual := true, maxSteps := 5000000}) only [go_sem, false_and, Nat.reduceAdd, Nat.reduceLT, Nat.reduceBEq, Nat.reduceSub, Nat.reduceMul, Nat.reduceLeDiff, Int.reduceToNat, Nat.reduceEqDiff, Nat.reduceMod, ht, hl, specWn, specWb, d, d2, hk, hk2, h2.1, toE_at, hcz, resOne, wiA]
        exact ⟨hs, (by (repeat (first | exact Hp.Le.refl _ | refine Hp.le_upd ?_ (fN _ _ _ _))))⟩
    · have hpt := hpe
      rw [if_neg h2] at hpt
      cases hq : isQ e.kind
      · simp (config := {contextual := true, maxSteps := 5000000}) only [go_sem, false_and, Nat.reduceAdd, Nat.reduceLT, Nat.reduceBEq, Nat.reduceSub, Nat.reduceMul, Nat.reduceLeDiff, Int.reduceToNat, Nat.reduceEqDiff, Nat.reduceMod, ht, hl, specWn, specWb, d, hk, hq]
        refine loop_inv tabOk hS mixed [] (fun j x' => ∃ (i : Nat) (tk : Tok), x'.tmps.length = 94 ∧ x'.tmps.getD 1 AV.undef = .int .i64 x ∧ x'.tmps.getD 3 AV.undef = .int .i64 room ∧ x'.tmps.getD 6 AV.undef = .sptr [.int .i64 u.kind, .int .i64 u.id, .list .none (u.kids.map E.cells)] ∧ x'.tmps.getD 8 AV.undef = .ptr ⟨5, 2 :: 0 :: k, 106⟩ 0 ∧ x'.tmps.getD 11 AV.undef = .ptr ⟨3, 5 :: 4 :: k, 33⟩ 0 ∧ x'.tmps.getD 12 AV.undef = .int .i64 ((1 + E.szL (E.putL (e.kids.take i) x u) : Nat) : Int) ∧ x'.tmps.getD 62 AV.undef = .list .none (e.kids.map E.cells) ∧ x'.tmps.getD 63 AV.undef = .int .i64 e.kids.length ∧ x'.tmps.getD 64 AV.undef = .int .i64 i ∧
          x'.H ⟨3, 5 :: 4 :: k, 33⟩ = some (.cells [.int .i64 e.kind, .int .i64 e.id, .list tk ((e.kids.take i).map fun y => (y.put x u).cells)]) ∧ LstB 5 (H.upd ⟨5, 2 :: 0 :: k, 106⟩ (some (.cells [.bool false, .int .i64 0, .int .i64 0, .list .nil [], .int .i64 0]))) 3 33 5 k tk x'.H ∧ i + j = e.kids.length ∧ ((1 + E.szL (E.putL (e.kids.take i) x u) : Nat) : Int) ≤ room ∧ 5 ≤ x'.n) e.kids.length ⟨0, .nil, ?_⟩ ?_
        · simp (config := {contextual := true, maxSteps := 5000000}) only [go_sem, false_and, Nat.reduceAdd, Nat.reduceLT, Nat.reduceBEq, Nat.reduceSub, Nat.reduceMul, Nat.reduceLeDiff, Int.reduceToNat, Nat.reduceEqDiff, Nat.reduceMod, ht, hl]
          have h0 : ((1 + E.szL (E.putL (e.kids.take 0) x u) : Nat) : Int) = 1 := by simp [E.putL, E.szL]
          (repeat' apply And.intro) <;> first | rfl | exact .inl rfl | exact Hp.le_upd (Hp.Le.refl _) (by rw [Hp.upd_ne _ _ (fun h => by cases h)]; exact fN _ _ _ _) | omega | (simp [E.putL, E.szL]; done) | (simp [E.putL, E.szL]; omega)
        · rintro j ⟨t, n, H2⟩ ⟨i, tk, hl, g1, g3, g6, g8, g11, g12, g62, g63, g64, hX, hL, hij, hrm, hn5⟩
          simp only at hl g1 g3 g6 g8 g11 g12 g62 g63 g64 hX hL hn5
          have fN1 : ∀ (a b : Nat) z ty, (a ≠ 2 ∨ b ≠ 0) → (H.upd ⟨5, 2 :: 0 :: k, 106⟩ (some (.cells [.bool false, .int .i64 0, .int .i64 0, .list .nil [], .int .i64 0]))) ⟨z, a :: b :: k, ty⟩ = none := fun a b z ty ha => by
            rw [Hp.upd_ne _ _ (fun h => by cases h; exact ha.elim (fun h => h rfl) (fun h => h rfl))]
            exact fN _ _ _ _
          have hle : H.Le H2 := fun i y hi => hL.1 i y (by rw [Hp.upd_ne _ _ (fun h => by rw [h, fN] at hi; cases hi)]; exact hi)
          by_cases hi : i < e.kids.length
          · have hd : decide ((i : Int) < (e.kids.length : Int)) = true := by simp [hi]
            have hw : IntKind.i64.wrap ((i : Int) + 1) = ((i + 1 : Nat) : Int) := by rw [wrap_i64] <;> omega
            obtain ⟨y, hy, hye⟩ := E.kid e hi
            have hws : IntKind.i64.wrap (room - ((1 + E.szL (E.putL (e.kids.take i) x u) : Nat) : Int)) = room - ((1 + E.szL (E.putL (e.kids.take i) x u) : Nat) : Int) := by rw [wrap_i64] <;> omega
            generalize hsz : (1 + E.szL (E.putL (e.kids.take i) x u) : Nat) = q at *
            have hys : y.sz < N := by have := E.kid_sz hy; omega
            have hyz : y.sz ≤ 1000 := by have := E.kid_sz hy; omega
            have hyq : (y.ok ∧ y.sz ≤ 1000 ∧ y.sh = true ∧ u.ok ∧ u.sz ≤ 1000 ∧ u.sh = true ∧ room - (q : Int) ≤ 1000) ∧ y.sz < N := ⟨⟨E.ok_kid hok hy, hyz, E.sh_kid hs hy, huo, huz, hus, by omega⟩, hys⟩
            have htk : 1 + E.szL (E.putL (e.kids.take (i + 1)) x u) = q + (y.put x u).sz := by
              rw [E.putL_eq, take_map _ hy, szL_snoc, ← E.putL_eq]
              omega
            by_cases hfit : ((y.put x u).sz : Int) ≤ room - (q : Int)
            · have hwi : wiE y x u (room - (q : Int)) = some (y.put x u) := by rw [wiE, if_pos hfit]
              have hn6 : ¬ (4 = n + 1 + 1 + 1 + 1) := by omega
              have hn7 : ¬ (n = 0) := by omega
              have hwq : IntKind.i64.wrap ((q : Int) + ((y.put x u).sz : Int)) = ((q + (y.put x u).sz : Nat) : Int) := by rw [wrap_i64] <;> omega
              have hyy : [[AV.int .i64 (y.put x u).kind, .int .i64 (y.put x u).id, .list .none ((y.put x u).kids.map E.cells)]] = [(y.put x u).cells] := by rw [E.cells_eq (y.put x u)]
              have hlt : (e.kids.take i).length = i := by rw [List.length_take]; omega
              have hF : ∀ c d, LstB 5 (H.upd ⟨5, 2 :: 0 :: k, 106⟩ (some (.cells [.bool false, .int .i64 0, .int .i64 0, .list .nil [], .int .i64 0]))) 3 33 5 k tk ((H2.upd ⟨3, 2 :: (n + 1) :: k, 33⟩ c).upd ⟨5, 7 :: (n + 1 + 1) :: k, 106⟩ d) := fun c d => (hL.frame (fN1 _ _ _ _ (.inr (by omega))) (fun m _ he => by cases he)).frame (fN1 _ _ _ _ (.inr (by omega))) (fun m _ he => by cases he)
              have hP := fun c d f => ((hF c d).push (fun m => fN1 _ _ _ _ (.inl (by decide))) (y := (y.put x u).cells) (ys := []) (n + 1 + 1 + 1 + 1) (by omega)).frame (X := ⟨3, 5 :: 4 :: k, 33⟩) (e := f) (fN1 _ _ _ _ (.inl (by decide))) (fun m hm he => by simp only [Id.mk.injEq, List.cons.injEq] at he; omega)
              simp only [tokBy_cons] at hP
              have hkk : ∀ c d, killTok ((H2.upd ⟨3, 2 :: (n + 1) :: k, 33⟩ c).upd ⟨5, 7 :: (n + 1 + 1) :: k, 106⟩ d) tk ⟨3, 5 :: 4 :: k, 33⟩ = some (.cells [.int .i64 e.kind, .int .i64 e.id, .list tk ((e.kids.take i).map fun y => (y.put x u).cells)]) := fun c d =>
                killTok_keeps (by rw [Hp.upd_ne _ _ (fun he => by cases he), Hp.upd_ne _ _ (fun he => by cases he)]; exact hX) ((hF c d).2.imp id fun ⟨m, _, h1, h2⟩ => ⟨_, h1, h2⟩)
              have hk2 : ∀ c dd, killTok ((H2.upd ⟨3, 2 :: (n + 1) :: k, 33⟩ c).upd ⟨5, 7 :: (n + 1 + 1) :: k, 106⟩ (some (.cells dd))) tk ⟨5, 7 :: (n + 1 + 1) :: k, 106⟩ = some (.cells dd) := fun c dd =>
                killTok_keeps (Hp.upd_same _ _ _) ((hF c _).2.imp id fun ⟨m, _, h1, h2⟩ => ⟨_, h1, h2⟩)
              simp (config := {contextual := true, maxSteps := 5000000}) only [go_sem, false_and, Nat.reduceAdd, Nat.reduceLT, Nat.reduceBEq, Nat.reduceSub, Nat.reduceMul, Nat.reduceLeDiff, Int.reduceToNat, Nat.reduceEqDiff, Nat.reduceMod, hye, toE_at, specWn, specWb, g1, g3, g6, g8, g11, g12, g62, g63, g64, hX, hl, hd, hw, hws, hwi, wiA, hwq, strip, tokBy_cons, hkk, hk2, hn6, hn7]
              refine ⟨⟨by omega, by omega⟩, hyq, fun z h => (h.elim (fun h => by rw [h]; rfl) (fun h => h.elim)), fun z h => by (obtain ⟨w, _, rfl⟩ := List.mem_map.1 h; exact E.cells_length _), rfl, by omega, by omega, (hF _ _).live, j - 1, by omega, i + 1, .tok ⟨3, 5 :: (n + 1 + 1 + 1 + 1) :: k, 33⟩, by rw [htk], rfl, ?_, hP _ _ _, by omega, by rw [htk]; omega⟩
              rw [hyy, take_map _ hy]
            · have hwi : wiE y x u (room - (q : Int)) = none := by rw [wiE, if_neg hfit]
              have hno : wiE e x u room = none := by
                rw [wiE, if_neg]
                have h1 := E.szL_le (E.putL e.kids x u) (i + 1)
                rw [putL_take] at h1
                rw [hpt, E.sz]
                omega
              rw [hno]
              simp (config := {contextual := true, maxSteps := 5000000}) only [go_sem, false_and, Nat.reduceAdd, Nat.reduceLT, Nat.reduceBEq, Nat.reduceSub, Nat.reduceMul, Nat.reduceLeDiff, Int.reduceToNat, Nat.reduceEqDiff, Nat.reduceMod, hye, toE_at, specWn, specWb, g1, g3, g6, g8, g11, g12, g62, g63, g64, hX, hl, hd, hw, hws, hwi, wiA, resOne]
              exact ⟨⟨by omega, by omega⟩, hyq, wiN_weak, by (repeat (first | exact hle | refine Hp.le_upd ?_ (fN _ _ _ _)))⟩
          · have hd : decide ((i : Int) < (e.kids.length : Int)) = false := by simp; omega
            have e6 : e.kids.take i = e.kids := List.take_of_length_le (by omega)
            rw [e6] at hX g12 hrm
            have hc : (e.kids.map fun y => (y.put x u).cells) = (E.putL e.kids x u).map E.cells := by rw [E.putL_eq, List.map_map]; rfl
            rw [hc] at hX
            have hR : H2 ⟨5, 2 :: 0 :: k, 106⟩ = some (.cells [.bool false, .int .i64 0, .int .i64 0, .list .nil [], .int .i64 0]) := hL.1 _ _ (Hp.upd_same _ _ _)
            have hyes : wiE e x u room = some (.mk e.kind e.id (E.putL e.kids x u)) := by
              rw [wiE, if_pos (by rw [hpt, E.sz]; exact hrm), hpt]
            rw [hyes]
            simp (config := {contextual := true, maxSteps := 5000000}) only [go_sem, false_and, Nat.reduceAdd, Nat.reduceLT, Nat.reduceBEq, Nat.reduceSub, Nat.reduceMul, Nat.reduceLeDiff, Int.reduceToNat, Nat.reduceEqDiff, Nat.reduceMod, specWn, specWb, g1, g3, g6, g8, g11, g12, g62, g63, g64, hX, hl, hd, hR, wiA, resOne]
            exact ⟨WeakL.agg ⟨_, _, rfl, Weak.refl _, _, _, rfl, Weak.refl _, _, _, rfl, Weak.refl _, _, _, rfl, list_weak, _, _, rfl, Weak.refl _, rfl⟩, by (repeat (first | exact hle | refine Hp.le_upd ?_ (fN _ _ _ _)))⟩
      · have hk2 : (e.id == x) = false := by
          cases hh : e.id == x
          · rfl
          · exact absurd ⟨hq, by simpa using hh⟩ h2
        simp (config := {contextual := true, maxSteps := 5000000}) only [go_sem, false_and, Nat.reduceAdd, Nat.reduceLT, Nat.reduceBEq, Nat.reduceSub, Nat.reduceMul, Nat.reduceLeDiff, Int.reduceToNat, Nat.reduceEqDiff, Nat.reduceMod, ht, hl, specWn, specWb, d, hk, hk2, hq]
        refine loop_inv tabOk hS mixed [] (fun j x' => ∃ (i : Nat) (tk : Tok), x'.tmps.length = 94 ∧ x'.tmps.getD 1 AV.undef = .int .i64 x ∧ x'.tmps.getD 3 AV.undef = .int .i64 room ∧ x'.tmps.getD 6 AV.undef = .sptr [.int .i64 u.kind, .int .i64 u.id, .list .none (u.kids.map E.cells)] ∧ x'.tmps.getD 8 AV.undef = .ptr ⟨5, 2 :: 0 :: k, 106⟩ 0 ∧ x'.tmps.getD 11 AV.undef = .ptr ⟨3, 5 :: 4 :: k, 33⟩ 0 ∧ x'.tmps.getD 12 AV.undef = .int .i64 ((1 + E.szL (E.putL (e.kids.take i) x u) : Nat) : Int) ∧ x'.tmps.getD 62 AV.undef = .list .none (e.kids.map E.cells) ∧ x'.tmps.getD 63 AV.undef = .int .i64 e.kids.length ∧ x'.tmps.getD 64 AV.undef = .int .i64 i ∧
          x'.H ⟨3, 5 :: 4 :: k, 33⟩ = some (.cells [.int .i64 e.kind, .int .i64 e.id, .list tk ((e.kids.take i).map fun y => (y.put x u).cells)]) ∧ LstB 5 (H.upd ⟨5, 2 :: 0 :: k, 106⟩ (some (.cells [.bool false, .int .i64 0, .int .i64 0, .list .nil [], .int .i64 0]))) 3 33 5 k tk x'.H ∧ i + j = e.kids.length ∧ ((1 + E.szL (E.putL (e.kids.take i) x u) : Nat) : Int) ≤ room ∧ 5 ≤ x'.n) e.kids.length ⟨0, .nil, ?_⟩ ?_
        · simp (config := {contextual := true, maxSteps := 5000000}) only [go_sem, false_and, Nat.reduceAdd, Nat.reduceLT, Nat.reduceBEq, Nat.reduceSub, Nat.reduceMul, Nat.reduceLeDiff, Int.reduceToNat, Nat.reduceEqDiff, Nat.reduceMod, ht, hl]
          have h0 : ((1 + E.szL (E.putL (e.kids.take 0) x u) : Nat) : Int) = 1 := by simp [E.putL, E.szL]
          (repeat' apply And.intro) <;> first | rfl | exact .inl rfl | exact Hp.le_upd (Hp.Le.refl _) (by rw [Hp.upd_ne _ _ (fun h => by cases h)]; exact fN _ _ _ _) | omega | (simp [E.putL, E.szL]; done) | (simp [E.putL, E.szL]; omega)
        · rintro j ⟨t, n, H2⟩ ⟨i, tk, hl, g1, g3, g6, g8, g11, g12, g62, g63, g64, hX, hL, hij, hrm, hn5⟩
          simp only at hl g1 g3 g6 g8 g11 g12 g62 g63 g64 hX hL hn5
          have fN1 : ∀ (a b : Nat) z ty, (a ≠ 2 ∨ b ≠ 0) → (H.upd ⟨5, 2 :: 0 :: k, 106⟩ (some (.cells [.bool false, .int .i64 0, .int .i64 0, .list .nil [], .int .i64 0]))) ⟨z, a :: b :: k, ty⟩ = none := fun a b z ty ha => by
            rw [Hp.upd_ne _ _ (fun h => by cases h; exact ha.elim (fun h => h rfl) (fun h => h rfl))]
            exact fN _ _ _ _
          have hle : H.Le H2 := fun i y hi => hL.1 i y (by rw [Hp.upd_ne _ _ (fun h => by rw [h, fN] at hi; cases hi)]; exact hi)
          by_cases hi : i < e.kids.length
          · have hd : decide ((i : Int) < (e.kids.length : Int)) = true := by simp [hi]
            have hw : IntKind.i64.wrap ((i : Int) + 1) = ((i + 1 : Nat) : Int) := by rw [wrap_i64] <;> omega
            obtain ⟨y, hy, hye⟩ := E.kid e hi
            have hws : IntKind.i64.wrap (room - ((1 + E.szL (E.putL (e.kids.take i) x u) : Nat) : Int)) = room - ((1 + E.szL (E.putL (e.kids.take i) x u) : Nat) : Int) := by rw [wrap_i64] <;> omega
            generalize hsz : (1 + E.szL (E.putL (e.kids.take i) x u) : Nat) = q at *
            have hys : y.sz < N := by have := E.kid_sz hy; omega
            have hyz : y.sz ≤ 1000 := by have := E.kid_sz hy; omega
            have hyq : (y.ok ∧ y.sz ≤ 1000 ∧ y.sh = true ∧ u.ok ∧ u.sz ≤ 1000 ∧ u.sh = true ∧ room - (q : Int) ≤ 1000) ∧ y.sz < N := ⟨⟨E.ok_kid hok hy, hyz, E.sh_kid hs hy, huo, huz, hus, by omega⟩, hys⟩
            have htk : 1 + E.szL (E.putL (e.kids.take (i + 1)) x u) = q + (y.put x u).sz := by
              rw [E.putL_eq, take_map _ hy, szL_snoc, ← E.putL_eq]
              omega
            by_cases hfit : ((y.put x u).sz : Int) ≤ room - (q : Int)
            · have hwi : wiE y x u (room - (q : Int)) = some (y.put x u) := by rw [wiE, if_pos hfit]
              have hn6 : ¬ (4 = n + 1 + 1 + 1 + 1) := by omega
              have hn7 : ¬ (n = 0) := by omega
              have hwq : IntKind.i64.wrap ((q : Int) + ((y.put x u).sz : Int)) = ((q + (y.put x u).sz : Nat) : Int) := by rw [wrap_i64] <;> omega
              have hyy : [[AV.int .i64 (y.put x u).kind, .int .i64 (y.put x u).id, .list .none ((y.put x u).kids.map E.cells)]] = [(y.put x u).cells] := by rw [E.cells_eq (y.put x u)]
              have hlt : (e.kids.take i).length = i := by rw [List.length_take]; omega
              have hF : ∀ c d, LstB 5 (H.upd ⟨5, 2 :: 0 :: k, 106⟩ (some (.cells [.bool false, .int .i64 0, .int .i64 0, .list .nil [], .int .i64 0]))) 3 33 5 k tk ((H2.upd ⟨3, 2 :: (n + 1) :: k, 33⟩ c).upd ⟨5, 7 :: (n + 1 + 1) :: k, 106⟩ d) := fun c d => (hL.frame (fN1 _ _ _ _ (.inr (by omega))) (fun m _ he => by cases he)).frame (fN1 _ _ _ _ (.inr (by omega))) (fun m _ he => by cases he)
              have hP := fun c d f => ((hF c d).push (fun m => fN1 _ _ _ _ (.inl (by decide))) (y := (y.put x u).cells) (ys := []) (n + 1 + 1 + 1 + 1) (by omega)).frame (X := ⟨3, 5 :: 4 :: k, 33⟩) (e := f) (fN1 _ _ _ _ (.inl (by decide))) (fun m hm he => by simp only [Id.mk.injEq, List.cons.injEq] at he; omega)
              simp only [tokBy_cons] at hP
              have hkk : ∀ c d, killTok ((H2.upd ⟨3, 2 :: (n + 1) :: k, 33⟩ c).upd ⟨5, 7 :: (n + 1 + 1) :: k, 106⟩ d) tk ⟨3, 5 :: 4 :: k, 33⟩ = some (.cells [.int .i64 e.kind, .int .i64 e.id, .list tk ((e.kids.take i).map fun y => (y.put x u).cells)]) := fun c d =>
                killTok_keeps (by rw [Hp.upd_ne _ _ (fun he => by cases he), Hp.upd_ne _ _ (fun he => by cases he)]; exact hX) ((hF c d).2.imp id fun ⟨m, _, h1, h2⟩ => ⟨_, h1, h2⟩)
              have hk2 : ∀ c dd, killTok ((H2.upd ⟨3, 2 :: (n + 1) :: k, 33⟩ c).upd ⟨5, 7 :: (n + 1 + 1) :: k, 106⟩ (some (.cells dd))) tk ⟨5, 7 :: (n + 1 + 1) :: k, 106⟩ = some (.cells dd) := fun c dd =>
                killTok_keeps (Hp.upd_same _ _ _) ((hF c _).2.imp id fun ⟨m, _, h1, h2⟩ => ⟨_, h1, h2⟩)
              simp (config := {contextual := true, maxSteps := 5000000}) only [go_sem, false_and, Nat.reduceAdd, Nat.reduceLT, Nat.reduceBEq, Nat.reduceSub, Nat.reduceMul, Nat.reduceLeDiff, Int.reduceToNat, Nat.reduceEqDiff, Nat.reduceMod, hye, toE_at, specWn, specWb, g1, g3, g6, g8, g11, g12, g62, g63, g64, hX, hl, hd, hw, hws, hwi, wiA, hwq, strip, tokBy_cons, hkk, hk2, hn6, hn7]
              refine ⟨⟨by omega, by omega⟩, hyq, fun z h => (h.elim (fun h => by rw [h]; rfl) (fun h => h.elim)), fun z h => by (obtain ⟨w, _, rfl⟩ := List.mem_map.1 h; exact E.cells_length _), rfl, by omega, by omega, (hF _ _).live, j - 1, by omega, i + 1, .tok ⟨3, 5 :: (n + 1 + 1 + 1 + 1) :: k, 33⟩, by rw [htk], rfl, ?_, hP _ _ _, by omega, by rw [htk]; omega⟩
              rw [hyy, take_map _ hy]
            · have hwi : wiE y x u (room - (q : Int)) = none := by rw [wiE, if_neg hfit]
              have hno : wiE e x u room = none := by
                rw [wiE, if_neg]
                have h1 := E.szL_le (E.putL e.kids x u) (i + 1)
                rw [putL_take] at h1
                rw [hpt, E.sz]
                omega
              rw [hno]
              simp (config := {contextual := true, maxSteps := 5000000}) only [go_sem, false_and, Nat.reduceAdd, Nat.reduceLT, Nat.reduceBEq, Nat.reduceSub, Nat.reduceMul, Nat.reduceLeDiff, Int.reduceToNat, Nat.reduceEqDiff, Nat.reduceMod, hye, toE_at, specWn, specWb, g1, g3, g6, g8, g11, g12, g62, g63, g64, hX, hl, hd, hw, hws, hwi, wiA, resOne]
              exact ⟨⟨by omega, by omega⟩, hyq, wiN_weak, by (repeat (first | exact hle | refine Hp.le_upd ?_ (fN _ _ _ _)))⟩
          · have hd : decide ((i : Int) < (e.kids.length : Int)) = false := by simp; omega
            have e6 : e.kids.take i = e.kids := List.take_of_length_le (by omega)
            rw [e6] at hX g12 hrm
            have hc : (e.kids.map fun y => (y.put x u).cells) = (E.putL e.kids x u).map E.cells := by rw [E.putL_eq, List.map_map]; rfl
            rw [hc] at hX
            have hR : H2 ⟨5, 2 :: 0 :: k, 106⟩ = some (.cells [.bool false, .int .i64 0, .int .i64 0, .list .nil [], .int .i64 0]) := hL.1 _ _ (Hp.upd_same _ _ _)
            have hyes : wiE e x u room = some (.mk e.kind e.id (E.putL e.kids x u)) := by
              rw [wiE, if_pos (by rw [hpt, E.sz]; exact hrm), hpt]
            rw [hyes]
            simp (config := {contextual := true, maxSteps := 5000000}) only [go_sem, false_and, Nat.reduceAdd, Nat.reduceLT, Nat.reduceBEq, Nat.reduceSub, Nat.reduceMul, Nat.reduceLeDiff, Int.reduceToNat, Nat.reduceEqDiff, Nat.reduceMod, specWn, specWb, g1, g3, g6, g8, g11, g12, g62, g63, g64, hX, hl, hd, hR, wiA, resOne]
            exact ⟨WeakL.agg ⟨_, _, rfl, Weak.refl _, _, _, rfl, Weak.refl _, _, _, rfl, Weak.refl _, _, _, rfl, list_weak, _, _, rfl, Weak.refl _, rfl⟩, by (repeat (first | exact hle | refine Hp.le_upd ?_ (fN _ _ _ _)))⟩
theorem specWn_ok : ∀ N, SpecOk Tryz.prog w0 (specWn N)
  | 0 => specWb_ok.add (sp4_ok fun a x u room h => by omega)
  | N + 1 => specWb_ok.add (sp4_ok fun a x u room h k H => within_step N (specWn_ok N) a x u room h.1.1 h.1.2.1 h.1.2.2.1 h.1.2.2.2.1 h.1.2.2.2.2.1 h.1.2.2.2.2.2.1 h.1.2.2.2.2.2.2 h.2)
def specIn : Spec := Spec.no.add 129 (sp4 dE dI dE dI (fun a _ u room => a.ok ∧ a.sz ≤ 1000 ∧ a.sh = true ∧ u.ok ∧ u.sz ≤ 1000 ∧ u.sh = true ∧ room ≤ 1000) fun a x u room => wiA (wiE a x u room))
theorem specIn_ok : SpecOk Tryz.prog w0 specIn := Spec.no_ok.add (sp4_ok fun a x u room h k H => within_step a.sz (specWn_ok _) a x u room h.1 h.2.1 h.2.2.1 h.2.2.2.1 h.2.2.2.2.1 h.2.2.2.2.2.1 h.2.2.2.2.2.2 (Nat.lt_succ_self _))
theorem into_call (a : E) (x : Int) (u : E) (ha : a.right = 0) (hu : u.right = 0) : CallAt Tryz.prog w0 k 112 [a.av, .int .i64 x, u.av] H H (wiA (wiE a x u 1000)) := by
  refine callAt tabOk specIn_ok mixed Tryz.func112 rfl rfl Tryz.results112 Tryz.ntmps112 (by simp) [] ?_
  intro hfr t hl ht
  simp only [At, Nat.reduceAdd, List.cons_append, List.nil_append] at ht
  have fN : ∀ (a b : Nat) z ty, H ⟨z, a :: b :: k, ty⟩ = none := fun a b z ty => hfr _ (sfx2 _ _ _)
  have has := right_sh4 ha
  have hus := right_sh4 hu
  have h1 : a.sz ≤ 1000 := by
    unfold E.right at ha
    (repeat' split at ha) <;> omega
  have h2 : u.sz ≤ 1000 := by
    unfold E.right at hu
    (repeat' split at hu) <;> omega
  have hp : a.ok ∧ a.sz ≤ 1000 ∧ a.sh = true ∧ u.ok ∧ u.sz ≤ 1000 ∧ u.sh = true ∧ (1000 : Int) ≤ 1000 := ⟨sh_ok a has, h1, has, sh_ok u hus, h2, hus, by omega⟩
  cases hw : wiE a x u 1000 with
  | none =>
    simp (config := {contextual := true, maxSteps := 5000000}) only [go_sem, false_and, Nat.reduceAdd, Nat.reduceLT, Nat.reduceBEq, Nat.reduceSub, Nat.reduceMul, Nat.reduceLeDiff, Int.reduceToNat, Nat.reduceEqDiff, Nat.reduceMod, ht, hl, specIn, toE_at, hw, wiA, resOne]
    exact ⟨hp, (by (repeat (first | exact Hp.Le.refl _ | refine Hp.le_upd ?_ (fN _ _ _ _))))⟩
  | some y =>
    simp (config := {contextual := true, maxSteps := 5000000}) only [go_sem, false_and, Nat.reduceAdd, Nat.reduceLT, Nat.reduceBEq, Nat.reduceSub, Nat.reduceMul, Nat.reduceLeDiff, Int.reduceToNat, Nat.reduceEqDiff, Nat.reduceMod, ht, hl, specIn, toE_at, hw, wiA, resOne]
    exact ⟨hp, (by (repeat (first | exact Hp.Le.refl _ | refine Hp.le_upd ?_ (fN _ _ _ _))))⟩
end Go.Proofs.YtkdendaohlnlcaaGreat.Av

/- What the functions of the reference of layer 7 answer: parts of it. No condition. -/
namespace Go.Proofs.YtkdendaohlnlcaaGreat.Av
set_option linter.unusedVariables false
set_option linter.unusedSimpArgs false
set_option maxRecDepth 4000
set_option maxHeartbeats 1000000
variable {w0 : Base} {k : List Nat} {H : Hp}
theorem eq07_call (a b : E) : CallAt Tryz.prog w0 k 113 [a.av, b.av] H H (eqE a b).av := by
  refine callAt tabOk Spec.no_ok mixed Tryz.func113 rfl rfl Tryz.results113 Tryz.ntmps113 (by simp) [] ?_
  intro hfr t hl ht
  simp only [At, Nat.reduceAdd, List.cons_append, List.nil_append] at ht
  have fN : ∀ (a b : Nat) z ty, H ⟨z, a :: b :: k, ty⟩ = none := fun a b z ty => hfr _ (sfx2 _ _ _)
  simp (config := {contextual := true, maxSteps := 5000000}) only [go_sem, false_and, Nat.reduceAdd, Nat.reduceLT, Nat.reduceBEq, Nat.reduceSub, Nat.reduceMul, Nat.reduceLeDiff, Int.reduceToNat, Nat.reduceEqDiff, Nat.reduceMod, ht, hl, strip, resOne]
  exact ⟨mk2_weak, (by (repeat (first | exact Hp.Le.refl _ | refine Hp.le_upd ?_ (fN _ _ _ _))))⟩
theorem sorts_call (n : Int) : CallAt Tryz.prog w0 k 82 [.int .i64 n] H H (.str (sortB (sortsE n))) := by
  refine callAt tabOk Spec.no_ok mixed Tryz.func82 rfl rfl Tryz.results82 Tryz.ntmps82 (by simp) [] ?_
  intro hfr t hl ht
  simp only [At, Nat.reduceAdd, List.cons_append, List.nil_append] at ht
  have hc : (n = 1 ∨ n = 2 ∨ n = 3 ∨ n = 4 ∨ n = 5 ∨ n = 6 ∨ n = 7) ∨ (n == 1) = false ∧ (n == 2) = false ∧ (n == 3) = false ∧ (n == 4) = false ∧ (n == 5) = false ∧ (n == 6) = false ∧ (n == 7) = false := by
    simp only [beq_eq_false_iff_ne]
    omega
  rcases hc with (rfl | rfl | rfl | rfl | rfl | rfl | rfl) | ⟨b1, b2, b3, b4, b5, b6, b7⟩
  · simp (config := {contextual := true, maxSteps := 5000000}) only [go_sem, false_and, Nat.reduceAdd, Nat.reduceLT, Nat.reduceBEq, Nat.reduceSub, Nat.reduceMul, Nat.reduceLeDiff, Int.reduceToNat, Nat.reduceEqDiff, Nat.reduceMod, ht, hl, Int.reduceBEq]
    rfl
  · simp (config := {contextual := true, maxSteps := 5000000}) only [go_sem, false_and, Nat.reduceAdd, Nat.reduceLT, Nat.reduceBEq, Nat.reduceSub, Nat.reduceMul, Nat.reduceLeDiff, Int.reduceToNat, Nat.reduceEqDiff, Nat.reduceMod, ht, hl, Int.reduceBEq]
    rfl
  · simp (config := {contextual := true, maxSteps := 5000000}) only [go_sem, false_and, Nat.reduceAdd, Nat.reduceLT, Nat.reduceBEq, Nat.reduceSub, Nat.reduceMul, Nat.reduceLeDiff, Int.reduceToNat, Nat.reduceEqDiff, Nat.reduceMod, ht, hl, Int.reduceBEq]
    rfl
  · simp (config := {contextual := true, maxSteps := 5000000}) only [go_sem, false_and, Nat.reduceAdd, Nat.reduceLT, Nat.reduceBEq, Nat.reduceSub, Nat.reduceMul, Nat.reduceLeDiff, Int.reduceToNat, Nat.reduceEqDiff, Nat.reduceMod, ht, hl, Int.reduceBEq]
    rfl
  · simp (config := {contextual := true, maxSteps := 5000000}) only [go_sem, false_and, Nat.reduceAdd, Nat.reduceLT, Nat.reduceBEq, Nat.reduceSub, Nat.reduceMul, Nat.reduceLeDiff, Int.reduceToNat, Nat.reduceEqDiff, Nat.reduceMod, ht, hl, Int.reduceBEq]
    rfl
  · simp (config := {contextual := true, maxSteps := 5000000}) only [go_sem, false_and, Nat.reduceAdd, Nat.reduceLT, Nat.reduceBEq, Nat.reduceSub, Nat.reduceMul, Nat.reduceLeDiff, Int.reduceToNat, Nat.reduceEqDiff, Nat.reduceMod, ht, hl, Int.reduceBEq]
    rfl
  · simp (config := {contextual := true, maxSteps := 5000000}) only [go_sem, false_and, Nat.reduceAdd, Nat.reduceLT, Nat.reduceBEq, Nat.reduceSub, Nat.reduceMul, Nat.reduceLeDiff, Int.reduceToNat, Nat.reduceEqDiff, Nat.reduceMod, ht, hl, Int.reduceBEq]
    rfl
  · simp (config := {contextual := true, maxSteps := 5000000}) only [go_sem, false_and, Nat.reduceAdd, Nat.reduceLT, Nat.reduceBEq, Nat.reduceSub, Nat.reduceMul, Nat.reduceLeDiff, Int.reduceToNat, Nat.reduceEqDiff, Nat.reduceMod, ht, hl, b1, b2, b3, b4, b5, b6, b7]
    simp only [beq_eq_false_iff_ne] at b1 b2 b3 b4 b5 b6 b7
    simp [sortsE, b1, b2, b3, b4, b5, b6, b7, sortB]
theorem bound07_call (n : Int) : CallAt Tryz.prog w0 k 83 [.int .i64 n] H H (.bool (boundE n)) := by
  refine callAt tabOk Spec.no_ok mixed Tryz.func83 rfl rfl Tryz.results83 Tryz.ntmps83 (by simp) [] ?_
  intro hfr t hl ht
  simp only [At, Nat.reduceAdd, List.cons_append, List.nil_append] at ht
  simp (config := {contextual := true, maxSteps := 5000000}) only [go_sem, false_and, Nat.reduceAdd, Nat.reduceLT, Nat.reduceBEq, Nat.reduceSub, Nat.reduceMul, Nat.reduceLeDiff, Int.reduceToNat, Nat.reduceEqDiff, Nat.reduceMod, ht, hl]
  unfold boundE
  cases h : n == 4 <;> simp
def specSo : Spec := (Spec.no.add 47 (sp1 dE (fun e => e.ok) fun e => .int .i64 e.right)).add 48 (sp1 dE (fun _ => True) fun e => .bool e.term)
theorem specSo_ok : SpecOk Tryz.prog w0 specSo := (Spec.no_ok.add (sp1_ok fun e h k H => right02_call e h)).add (sp1_ok fun e _ k H => term_call e)
theorem E.at_ (l : List E) {i : Nat} (h : i < l.length) : ∃ x, l[i]? = some x ∧ (l.map E.cells).getD i [] = [.int .i64 x.kind, .int .i64 x.id, .list .none (x.kids.map E.cells)] :=
  ⟨l[i], by simp [h], by rw [← E.cells_eq]; simp [List.getD_eq_getElem?_getD, h]⟩
theorem firstBad_drop {l : List E} {i : Nat} {x : E} (hx : l[i]? = some x) : firstBad (l.drop i) = if x.right = 0 then firstBad (l.drop (i + 1)) else x.right := by
  obtain ⟨h1, rfl⟩ := List.getElem?_eq_some_iff.1 hx
  rw [List.drop_eq_getElem_cons h1, firstBad]
theorem termsB_drop {l : List E} {bs : List Bool} {i : Nat} {x : E} {b : Bool} (hx : l[i]? = some x) (hb : bs[i]? = some b) : termsB (l.drop i) (bs.drop i) = ((x.term == b) && termsB (l.drop (i + 1)) (bs.drop (i + 1))) := by
  obtain ⟨h1, rfl⟩ := List.getElem?_eq_some_iff.1 hx
  obtain ⟨h2, rfl⟩ := List.getElem?_eq_some_iff.1 hb
  rw [List.drop_eq_getElem_cons h1, List.drop_eq_getElem_cons h2, termsB]
theorem sorted07_call (l : List E) (bs : List Bool) (hlen : l.length = bs.length) (hlb : bs.length ≤ 4) (hok : ∀ e ∈ l, e.ok) : CallAt Tryz.prog w0 k 52 [.list .none (l.map E.cells), .str (sortB bs)] H H (.int .i64 (sortedC l bs)) := by
  refine callAt tabOk specSo_ok mixed Tryz.func52 rfl rfl Tryz.results52 Tryz.ntmps52 (by simp) [] ?_
  intro hfr t hl ht
  simp only [At, Nat.reduceAdd, List.cons_append, List.nil_append] at ht
  have fN : ∀ (a b : Nat) z ty, H ⟨z, a :: b :: k, ty⟩ = none := fun a b z ty => hfr _ (sfx2 _ _ _)
  unfold sortedC
  simp (config := {contextual := true, maxSteps := 5000000}) only [go_sem, false_and, Nat.reduceAdd, Nat.reduceLT, Nat.reduceBEq, Nat.reduceSub, Nat.reduceMul, Nat.reduceLeDiff, Int.reduceToNat, Nat.reduceEqDiff, Nat.reduceMod, ht, hl]
  refine loop_inv tabOk specSo_ok mixed [] (fun j x => ∃ i : Nat, x.tmps.length = 36 ∧ x.tmps.getD 0 AV.undef = .list .none (l.map E.cells) ∧ x.tmps.getD 1 AV.undef = .str (sortB bs) ∧ x.tmps.getD 9 AV.undef = .list .none (l.map E.cells) ∧ x.tmps.getD 10 AV.undef = .int .i64 l.length ∧ x.tmps.getD 11 AV.undef = .int .i64 i ∧ H.Le x.H ∧ i + j = l.length ∧ firstBad l = firstBad (l.drop i)) l.length ⟨0, ?_⟩ ?_
  · simp (config := {contextual := true, maxSteps := 5000000}) only [go_sem, false_and, Nat.reduceAdd, Nat.reduceLT, Nat.reduceBEq, Nat.reduceSub, Nat.reduceMul, Nat.reduceLeDiff, Int.reduceToNat, Nat.reduceEqDiff, Nat.reduceMod, ht, hl]
    simp [Hp.Le.refl]
  · rintro j ⟨t, m, H'⟩ ⟨i, hl, g0, g1, g9, g10, g11, hH, hij, hfb⟩
    simp only at hl g0 g1 g9 g10 g11 hH
    by_cases hi : i < l.length
    · have hd : decide ((i : Int) < (l.length : Int)) = true := by simp [hi]
      have hw2 : IntKind.i64.wrap ((i : Int) + 1) = ((i + 1 : Nat) : Int) := by rw [wrap_i64] <;> omega
      obtain ⟨x, hx, hxe⟩ := E.at_ l hi
      have hxo := hok x (List.mem_of_getElem? hx)
      have hdr := firstBad_drop hx
      by_cases h0 : x.right = 0
      · have hb : (x.right != 0) = false := by simp [h0]
        rw [if_pos h0] at hdr
        simp (config := {contextual := true, maxSteps := 5000000}) only [go_sem, false_and, Nat.reduceAdd, Nat.reduceLT, Nat.reduceBEq, Nat.reduceSub, Nat.reduceMul, Nat.reduceLeDiff, Int.reduceToNat, Nat.reduceEqDiff, Nat.reduceMod, hxe, specSo, toE_at, g0, g1, g9, g10, g11, hl, hd, hw2, hb]
        exact ⟨⟨by omega, by omega⟩, hxo, j - 1, by omega, i + 1, rfl, Hp.le_upd hH (fN _ _ _ _), by omega, by rw [hfb, hdr]⟩
      · have hb : (x.right != 0) = true := by simpa using h0
        rw [if_neg h0] at hdr
        have hf : firstBad l = x.right := by rw [hfb, hdr]
        rw [hf, if_neg h0]
        simp (config := {contextual := true, maxSteps := 5000000}) only [go_sem, false_and, Nat.reduceAdd, Nat.reduceLT, Nat.reduceBEq, Nat.reduceSub, Nat.reduceMul, Nat.reduceLeDiff, Int.reduceToNat, Nat.reduceEqDiff, Nat.reduceMod, hxe, specSo, toE_at, g0, g1, g9, g10, g11, hl, hd, hw2, hb]
        exact ⟨⟨by omega, by omega⟩, hxo, hxo, Hp.le_upd hH (fN _ _ _ _)⟩
    · have hd : decide ((i : Int) < (l.length : Int)) = false := by simp; omega
      have hf : firstBad l = 0 := by rw [hfb, List.drop_of_length_le (by omega)]; rfl
      rw [hf, if_pos rfl]
      simp (config := {contextual := true, maxSteps := 5000000}) only [go_sem, false_and, Nat.reduceAdd, Nat.reduceLT, Nat.reduceBEq, Nat.reduceSub, Nat.reduceMul, Nat.reduceLeDiff, Int.reduceToNat, Nat.reduceEqDiff, Nat.reduceMod, specSo, g0, g1, g9, g10, g11, hl, hd]
      refine loop_inv tabOk specSo_ok mixed [] (fun j x => ∃ i : Nat, x.tmps.length = 36 ∧ x.tmps.getD 1 AV.undef = .str (sortB bs) ∧ x.tmps.getD 21 AV.undef = .list .none (l.map E.cells) ∧ x.tmps.getD 22 AV.undef = .int .i64 l.length ∧ x.tmps.getD 23 AV.undef = .int .i64 i ∧ H.Le x.H ∧ i + j = l.length ∧ termsB l bs = termsB (l.drop i) (bs.drop i)) l.length ⟨0, ?_⟩ ?_
      · simp (config := {contextual := true, maxSteps := 5000000}) only [go_sem, false_and, Nat.reduceAdd, Nat.reduceLT, Nat.reduceBEq, Nat.reduceSub, Nat.reduceMul, Nat.reduceLeDiff, Int.reduceToNat, Nat.reduceEqDiff, Nat.reduceMod, g0, g1, g9, g10, g11, hl]
        simp [hH]
      · rintro j2 ⟨t, m2, H2⟩ ⟨i, hl, g1, g21, g22, g23, hH2, hij, htb⟩
        simp only at hl g1 g21 g22 g23 hH2
        by_cases hi : i < l.length
        · have hd : decide ((i : Int) < (l.length : Int)) = true := by simp [hi]
          have hw2 : IntKind.i64.wrap ((i : Int) + 1) = ((i + 1 : Nat) : Int) := by rw [wrap_i64] <;> omega
          obtain ⟨x, hx, hxe⟩ := E.at_ l hi
          have hbi : i < bs.length := by omega
          have hsz := sortB_size bs
          have hat := sortB_at bs hbi
          have hdr := termsB_drop hx (List.getElem?_eq_getElem hbi)
          have hbb : ((if bs[i] = true then 116 else 102 : Int) == 116) = bs[i] := by cases bs[i] <;> rfl
          cases hv : x.term == bs[i]
          · rw [hv] at hdr
            have hz : termsB l bs = false := by rw [htb, hdr]; rfl
            rw [hz, if_neg (by simp)]
            simp (config := {contextual := true, maxSteps := 5000000}) only [go_sem, false_and, Nat.reduceAdd, Nat.reduceLT, Nat.reduceBEq, Nat.reduceSub, Nat.reduceMul, Nat.reduceLeDiff, Int.reduceToNat, Nat.reduceEqDiff, Nat.reduceMod, hxe, specSo, toE_at, g1, g21, g22, g23, hl, hd, hw2, hat, hbb, hv, hsz]
            exact ⟨⟨by omega, by omega⟩, by kernel_rfl, ⟨by omega, by omega⟩, by (refine pw_of ?_; (repeat' (first | exact trivial | apply And.intro)); all_goals (first | exact .inr rfl | exact .inr trivial | exact .inl (by kernel_rfl))), Hp.le_upd hH2 (fN _ _ _ _)⟩
          · rw [hv] at hdr
            simp (config := {contextual := true, maxSteps := 5000000}) only [go_sem, false_and, Nat.reduceAdd, Nat.reduceLT, Nat.reduceBEq, Nat.reduceSub, Nat.reduceMul, Nat.reduceLeDiff, Int.reduceToNat, Nat.reduceEqDiff, Nat.reduceMod, hxe, specSo, toE_at, g1, g21, g22, g23, hl, hd, hw2, hat, hbb, hv, hsz]
            exact ⟨⟨by omega, by omega⟩, by kernel_rfl, ⟨by omega, by omega⟩, by (refine pw_of ?_; (repeat' (first | exact trivial | apply And.intro)); all_goals (first | exact .inr rfl | exact .inr trivial | exact .inl (by kernel_rfl))), j2 - 1, by omega, i + 1, rfl, Hp.le_upd hH2 (fN _ _ _ _), by omega, by rw [htb, hdr]; rfl⟩
        · have hd : decide ((i : Int) < (l.length : Int)) = false := by simp; omega
          have hz : termsB l bs = true := by rw [htb, List.drop_of_length_le (by omega)]; rfl
          rw [hz, if_pos rfl]
          simp (config := {contextual := true, maxSteps := 5000000}) only [go_sem, false_and, Nat.reduceAdd, Nat.reduceLT, Nat.reduceBEq, Nat.reduceSub, Nat.reduceMul, Nat.reduceLeDiff, Int.reduceToNat, Nat.reduceEqDiff, Nat.reduceMod, specSo, g1, g21, g22, g23, hl, hd]
          exact hH2
theorem kidE_step (e : E) (q : Nat) (p : List Nat) : kidE e (q :: p) = match e.kids[q]? with
    | some x => kidE x p
    | none => noE := rfl
theorem kid07_call (e : E) (p : List Int) (hp : ∀ q ∈ p, 0 ≤ q) (hl4 : p.length ≤ 4) : CallAt Tryz.prog w0 k 80 [e.av, (dL cI).enc p] H H (kidE e (p.map Int.toNat)).av := by
  refine callAt tabOk Spec.no_ok mixed Tryz.func80 rfl rfl Tryz.results80 Tryz.ntmps80 (by simp) [2] ?_
  intro hfr t hl ht
  simp only [At, dL, Nat.reduceAdd] at ht
  have fN : ∀ (a b : Nat) z ty, H ⟨z, a :: b :: k, ty⟩ = none := fun a b z ty => hfr _ (sfx2 _ _ _)
  simp (config := {contextual := true, maxSteps := 5000000}) only [go_sem, false_and, Nat.reduceAdd, Nat.reduceLT, Nat.reduceBEq, Nat.reduceSub, Nat.reduceMul, Nat.reduceLeDiff, Int.reduceToNat, Nat.reduceEqDiff, Nat.reduceMod, ht, hl]
  refine loop_inv tabOk Spec.no_ok mixed [2] (fun j x => ∃ (i : Nat) (y : E), x.tmps.length = 26 ∧ x.tmps.getD 2 AV.undef = .ptr ⟨3, 0 :: 0 :: k, 33⟩ 0 ∧ x.tmps.getD 4 AV.undef = .ptr ⟨3, 1 :: 0 :: k, 33⟩ 0 ∧ x.tmps.getD 7 AV.undef = .list .none (p.map cI.enc) ∧ x.tmps.getD 8 AV.undef = .int .i64 p.length ∧ x.tmps.getD 9 AV.undef = .int .i64 i ∧ x.H ⟨3, 0 :: 0 :: k, 33⟩ = some (.cells [.int .i64 y.kind, .int .i64 y.id, .list .none (y.kids.map E.cells)]) ∧ H.Le x.H ∧ kidE e (p.map Int.toNat) = kidE y ((p.drop i).map Int.toNat) ∧ i + j = p.length) p.length ⟨0, e, ?_⟩ ?_
  · simp (config := {contextual := true, maxSteps := 5000000}) only [go_sem, false_and, Nat.reduceAdd, Nat.reduceLT, Nat.reduceBEq, Nat.reduceSub, Nat.reduceMul, Nat.reduceLeDiff, Int.reduceToNat, Nat.reduceEqDiff, Nat.reduceMod, ht, hl]
    exact ⟨rfl, Hp.le_upd (Hp.le_upd (Hp.Le.refl _) (fN _ _ _ _)) (fN _ _ _ _), by omega⟩
  · rintro j ⟨t, m, H'⟩ ⟨i, y, hl, g2, g4, g8, g9, g10, hY, hH, hat, hij⟩
    simp only at hl g2 g4 g8 g9 g10 hY hH
    by_cases hi : i < p.length
    · have hd : decide ((i : Int) < (p.length : Int)) = true := by simp [hi]
      have hw2 : IntKind.i64.wrap ((i : Int) + 1) = ((i + 1 : Nat) : Int) := by rw [wrap_i64] <;> omega
      obtain ⟨q, hq, hqe⟩ := int_get p hi
      have hq0 := hp q (List.mem_of_getElem? hq)
      have hdr : p.drop i = q :: p.drop (i + 1) := by
        rw [List.drop_eq_getElem_cons hi]
        congr 1
        rw [List.getElem?_eq_getElem hi] at hq
        exact Option.some.inj hq
      rw [hdr, List.map_cons, kidE_step] at hat
      by_cases h1 : (y.kids.length : Int) ≤ q
      · have d1 : decide ((y.kids.length : Int) ≤ q) = true := by simpa using h1
        rw [List.getElem?_eq_none (by omega)] at hat
        simp (config := {contextual := true, maxSteps := 5000000}) only [go_sem, false_and, Nat.reduceAdd, Nat.reduceLT, Nat.reduceBEq, Nat.reduceSub, Nat.reduceMul, Nat.reduceLeDiff, Int.reduceToNat, Nat.reduceEqDiff, Nat.reduceMod, hqe, g2, g4, g8, g9, g10, hl, hY, hd, d1, resOne]
        rw [hat]
        exact ⟨⟨by omega, by omega⟩, noEw_weak, Hp.le_upd hH (fN _ _ _ _)⟩
      have d1 : decide ((y.kids.length : Int) ≤ q) = false := by simpa using h1
      obtain ⟨z, hz, hze⟩ := E.kid y (i := q.toNat) (by omega)
      rw [hz] at hat
      simp (config := {contextual := true, maxSteps := 5000000}) only [go_sem, false_and, Nat.reduceAdd, Nat.reduceLT, Nat.reduceBEq, Nat.reduceSub, Nat.reduceMul, Nat.reduceLeDiff, Int.reduceToNat, Nat.reduceEqDiff, Nat.reduceMod, hqe, hze, g2, g4, g8, g9, g10, hl, hY, hd, d1, hw2]
      refine ⟨⟨by omega, by omega⟩, ⟨by omega, by omega⟩, j - 1, by omega, i + 1, z, rfl, rfl, ?_, hat, by omega⟩
      exact Hp.le_upd hH (fN _ _ _ _)
    · have hd : decide ((i : Int) < (p.length : Int)) = false := by simp; omega
      rw [List.drop_of_length_le (by omega), List.map_nil] at hat
      have hat' : kidE e (p.map Int.toNat) = y := hat
      simp (config := {contextual := true, maxSteps := 5000000}) only [go_sem, false_and, Nat.reduceAdd, Nat.reduceLT, Nat.reduceBEq, Nat.reduceSub, Nat.reduceMul, Nat.reduceLeDiff, Int.reduceToNat, Nat.reduceEqDiff, Nat.reduceMod, g2, g4, g8, g9, g10, hl, hY, hd, resOne]
      rw [hat']
      exact ⟨Weak.refl _, Hp.le_upd hH (fN _ _ _ _)⟩
def specSn : Spec := Spec.no.add 107 (sp2 dI dE (fun _ e => e.ok) fun x e => .bool (hasB e.fv x))
theorem specSn_ok : SpecOk Tryz.prog w0 specSn := Spec.no_ok.add (sp2_ok fun x e h k H => isFree_call x e h)
def stA (o : Option E) : AV := .tup [(o.getD noE).av, .bool o.isSome]
def specSt (N : Nat) : Spec := specSn.add 81 (sp3 dE dE dI (fun a _ _ => a.ok ∧ a.sz < N) fun a b x => .tup [((a.stR x b).getD noE).av, .bool (a.stR x b).isSome])
theorem stands07_step (N : Nat) (hS : SpecOk Tryz.prog w0 (specSt N)) (a b : E) (x : Int) (hok : a.ok) (hN : a.sz < N + 1) : CallAt Tryz.prog w0 k 81 [a.av, b.av, .int .i64 x] H H (.tup [((a.stR x b).getD noE).av, .bool (a.stR x b).isSome]) := by
  refine callAt tabOk hS mixed Tryz.func81 rfl rfl Tryz.results81 Tryz.ntmps81 (by simp) [] ?_
  intro hfr t hl ht
  simp only [At, Nat.reduceAdd, List.cons_append, List.nil_append] at ht
  have fN : ∀ (a b : Nat) z ty, H ⟨z, a :: b :: k, ty⟩ = none := fun a b z ty => hfr _ (sfx2 _ _ _)
  have hlen := E.ok_len hok
  have hst := E.stR_eq x a b
  cases hf : hasB a.fv x
  · rw [if_pos (.inl hf)] at hst
    rw [hst]
    simp (config := {contextual := true, maxSteps := 5000000}) only [go_sem, false_and, Nat.reduceAdd, Nat.reduceLT, Nat.reduceBEq, Nat.reduceSub, Nat.reduceMul, Nat.reduceLeDiff, Int.reduceToNat, Nat.reduceEqDiff, Nat.reduceMod, ht, hl, specSt, specSn, toE_at, hf, resOne]
    exact ⟨hok, tup2_weak noEw_weak, (by (repeat (first | exact Hp.Le.refl _ | refine Hp.le_upd ?_ (fN _ _ _ _))))⟩
  · by_cases h1 : a.kind = 1
    · have hk : (a.kind != 1) = false := by simp [h1]
      have hk2 : (a.kind == 1) = true := by simp [h1]
      rw [if_neg (by rw [hf]; simp [h1]), if_pos h1] at hst
      rw [hst]
      simp (config := {contextual := true, maxSteps := 5000000}) only [go_sem, false_and, Nat.reduceAdd, Nat.reduceLT, Nat.reduceBEq, Nat.reduceSub, Nat.reduceMul, Nat.reduceLeDiff, Int.reduceToNat, Nat.reduceEqDiff, Nat.reduceMod, ht, hl, specSt, specSn, toE_at, hf, hk, hk2, resOne]
      exact ⟨hok, (by (repeat (first | exact Hp.Le.refl _ | refine Hp.le_upd ?_ (fN _ _ _ _))))⟩
    · have hk : (a.kind != 1) = true := by simpa using h1
      have hk2 : (a.kind == 1) = false := by simpa using h1
      by_cases hn : a.kids.length = b.kids.length
      · have hn' : ((a.kids.length : Int) != (b.kids.length : Int)) = false := by simp [hn]
        rw [if_neg (by rw [hf]; simp [hn]), if_neg h1] at hst
        simp (config := {contextual := true, maxSteps := 5000000}) only [go_sem, false_and, Nat.reduceAdd, Nat.reduceLT, Nat.reduceBEq, Nat.reduceSub, Nat.reduceMul, Nat.reduceLeDiff, Int.reduceToNat, Nat.reduceEqDiff, Nat.reduceMod, ht, hl, specSt, specSn, toE_at, hf, hk, hk2, hn']
        refine ⟨hok, ?_⟩
        refine loop_inv tabOk hS mixed [] (fun j x' => ∃ i : Nat, x'.tmps.length = 61 ∧ x'.tmps.getD 2 AV.undef = .int .i64 x ∧ x'.tmps.getD 3 AV.undef = .sptr [.int .i64 a.kind, .int .i64 a.id, .list .none (a.kids.map E.cells)] ∧ x'.tmps.getD 4 AV.undef = .sptr [.int .i64 b.kind, .int .i64 b.id, .list .none (b.kids.map E.cells)] ∧ x'.tmps.getD 6 AV.undef = .ptr ⟨3, 2 :: 0 :: k, 33⟩ 0 ∧ x'.tmps.getD 34 AV.undef = .int .i64 a.kids.length ∧ x'.tmps.getD 35 AV.undef = .int .i64 i ∧ H.Le x'.H ∧ i + j = a.kids.length ∧ a.stR x b = E.stRL x (a.kids.drop i) (b.kids.drop i)) a.kids.length ⟨0, ?_⟩ ?_
        · simp (config := {contextual := true, maxSteps := 5000000}) only [go_sem, false_and, Nat.reduceAdd, Nat.reduceLT, Nat.reduceBEq, Nat.reduceSub, Nat.reduceMul, Nat.reduceLeDiff, Int.reduceToNat, Nat.reduceEqDiff, Nat.reduceMod, ht, hl]
          refine ⟨rfl, (by (repeat (first | exact Hp.Le.refl _ | refine Hp.le_upd ?_ (fN _ _ _ _)))), by omega, by rw [hst]⟩
        · rintro j ⟨t, m, H'⟩ ⟨i, hl, g2, g3, g4, g6, g34, g35, hH, hij, hd⟩
          simp only at hl g2 g3 g4 g6 g34 g35 hH
          by_cases hi : i < a.kids.length
          · have d : decide ((i : Int) < (a.kids.length : Int)) = true := by simp [hi]
            have hw2 : IntKind.i64.wrap ((i : Int) + 1) = ((i + 1 : Nat) : Int) := by rw [wrap_i64] <;> omega
            obtain ⟨y, hy, hye⟩ := E.kid a hi
            obtain ⟨z, hz, hze⟩ := E.kid b (i := i) (by omega)
            have hdr := stRL_drop x hy hz
            have hyo := E.ok_kid hok hy
            have hys : y.sz < N := by have := E.kid_sz hy; omega
            cases hfy : hasB y.fv x
            · rw [if_neg (by rw [hfy]; simp)] at hdr
              simp (config := {contextual := true, maxSteps := 5000000}) only [go_sem, false_and, Nat.reduceAdd, Nat.reduceLT, Nat.reduceBEq, Nat.reduceSub, Nat.reduceMul, Nat.reduceLeDiff, Int.reduceToNat, Nat.reduceEqDiff, Nat.reduceMod, hye, hze, specSt, specSn, toE_at, g2, g3, g4, g6, g34, g35, hl, d, hw2, hfy]
              exact ⟨⟨by omega, by omega⟩, hyo, j - 1, by omega, i + 1, rfl, hH, by omega, by rw [hd, hdr]⟩
            · rw [if_pos hfy] at hdr
              rw [hd, hdr]
              simp (config := {contextual := true, maxSteps := 5000000}) only [go_sem, false_and, Nat.reduceAdd, Nat.reduceLT, Nat.reduceBEq, Nat.reduceSub, Nat.reduceMul, Nat.reduceLeDiff, Int.reduceToNat, Nat.reduceEqDiff, Nat.reduceMod, hye, hze, specSt, specSn, toE_at, g2, g3, g4, g6, g34, g35, hl, d, hw2, hfy, resOne]
              exact ⟨⟨by omega, by omega⟩, hyo, by kernel_rfl, ⟨by omega, by omega⟩, ⟨by omega, by omega⟩, ⟨hyo, hys⟩, by (refine pw_of ?_; (repeat' (first | exact trivial | apply And.intro)); all_goals (first | exact .inr rfl | exact .inr trivial | exact .inl (by kernel_rfl))), Hp.le_upd hH (fN _ _ _ _)⟩
          · have d : decide ((i : Int) < (a.kids.length : Int)) = false := by simp; omega
            have hno : a.stR x b = none := by rw [hd, List.drop_of_length_le (show a.kids.length ≤ i by omega)]; simp [E.stRL]
            rw [hno]
            simp (config := {contextual := true, maxSteps := 5000000}) only [go_sem, false_and, Nat.reduceAdd, Nat.reduceLT, Nat.reduceBEq, Nat.reduceSub, Nat.reduceMul, Nat.reduceLeDiff, Int.reduceToNat, Nat.reduceEqDiff, Nat.reduceMod, g2, g3, g4, g6, g34, g35, hl, d, resOne]
            exact ⟨tup2_weak noEw_weak, Hp.le_upd hH (fN _ _ _ _)⟩
      · have hn' : ((a.kids.length : Int) != (b.kids.length : Int)) = true := by rw [bne_iff_ne]; omega
        rw [if_pos (.inr ⟨h1, hn⟩)] at hst
        rw [hst]
        simp (config := {contextual := true, maxSteps := 5000000}) only [go_sem, false_and, Nat.reduceAdd, Nat.reduceLT, Nat.reduceBEq, Nat.reduceSub, Nat.reduceMul, Nat.reduceLeDiff, Int.reduceToNat, Nat.reduceEqDiff, Nat.reduceMod, ht, hl, specSt, specSn, toE_at, hf, hk, hk2, hn', resOne]
        exact ⟨hok, tup2_weak noEw_weak, (by (repeat (first | exact Hp.Le.refl _ | refine Hp.le_upd ?_ (fN _ _ _ _))))⟩
theorem specSt_ok : ∀ N, SpecOk Tryz.prog w0 (specSt N)
  | 0 => specSn_ok.add (sp3_ok fun a b x h => by omega)
  | N + 1 => specSn_ok.add (sp3_ok fun a b x h k H => stands07_step N (specSt_ok N) a b x h.1 h.2)
theorem stands07_call (a b : E) (x : Int) (hok : a.ok) : CallAt Tryz.prog w0 k 81 [a.av, b.av, .int .i64 x] H H (.tup [((a.stR x b).getD noE).av, .bool (a.stR x b).isSome]) := stands07_step a.sz (specSt_ok _) a b x hok (Nat.lt_succ_self _)
end Go.Proofs.YtkdendaohlnlcaaGreat.Av

/- What the reference's Swap, and its side conditions, answer. No condition. -/
namespace Go.Proofs.YtkdendaohlnlcaaGreat.Av
set_option linter.unusedVariables false
set_option linter.unusedSimpArgs false
set_option maxRecDepth 4000
set_option maxHeartbeats 1000000
variable {w0 : Base} {k : List Nat} {H : Hp}
def specSw : Spec := ((Spec.no.add 12 (sp2 dE dE (fun a _ => a.ok) fun a b => .bool (a.like b))).add 128 (sp1 dE (fun _ => True) fun e => .bool (isQ e.kind))).add 122 (sp2 dW dI (fun s _ => s < 18446744073709551616) fun s n => .bool (hasB s n))
theorem specSw_ok : SpecOk Tryz.prog w0 specSw := ((Spec.no_ok.add (sp2_ok fun a b h k H => like02_call a b h)).add (sp1_ok fun e _ k H => quant_call e)).add (sp2_ok fun s n h k H => has01_call s n h)
theorem swap07_step (u v : E) (N : Nat) (ih : ∀ (a : E), a.sz < N → a.ok → ∀ (w0 : Base) (k : List Nat) (H : Hp) (b : E), b.ok → ∀ (own : Nat) (may : Bool), own < 18446744073709551616 → CallAt Tryz.prog w0 k 111 [a.av, b.av, u.av, v.av, .int .u64 (own : Int), .bool may] H H (.bool (a.swp u v own b may)))
    (a : E) (hN : a.sz < N + 1) (hok : a.ok) (w0 : Base) (k : List Nat) (H : Hp) (b : E) (hb : b.ok) (own : Nat) (may : Bool) (ho : own < 18446744073709551616) : CallAt Tryz.prog w0 k 111 [a.av, b.av, u.av, v.av, .int .u64 (own : Int), .bool may] H H (.bool (a.swp u v own b may)) := by
  refine callAt tabOk specSw_ok mixed Tryz.func111 rfl rfl Tryz.results111 Tryz.ntmps111 (by simp) [] ?_
  intro hfr t hl ht
  simp only [At, Nat.reduceAdd, List.cons_append, List.nil_append] at ht
  have fN : ∀ (a b : Nat) z ty, H ⟨z, a :: b :: k, ty⟩ = none := fun a b z ty => hfr _ (sfx2 _ _ _)
  have hlen := E.ok_len hok
  have hsw := E.swp_eq u v own a b may
  cases may
  · have hc0 : (false && (a.like u && b.like v)) = false := rfl
    by_cases hk : a.kind = b.kind
    · have hk1 : (a.kind != b.kind) = false := by simp [hk]
      by_cases hid : a.id = b.id
      · have hi1 : (a.id != b.id) = false := by simp [hid]
        by_cases hln : a.kids.length = b.kids.length
        · have hn1 : ((a.kids.length : Int) != (b.kids.length : Int)) = false := by simp [hln]
          cases hq : isQ a.kind
          · have hsw : a.swp u v own b false = E.swpL a.kids u v own b.kids false := by rw [hsw, hc0, hq]; simp [hk, hid, hln]
            rw [hsw]
            simp (config := {contextual := true, maxSteps := 5000000}) only [go_sem, false_and, Nat.reduceAdd, Nat.reduceLT, Nat.reduceBEq, Nat.reduceSub, Nat.reduceMul, Nat.reduceLeDiff, Int.reduceToNat, Nat.reduceEqDiff, Nat.reduceMod, ht, hl, specSw, toE_at, hk1, hi1, hn1, hq]
            refine loop_inv tabOk specSw_ok mixed [] (fun j x' => ∃ i : Nat, x'.tmps.length = 79 ∧ x'.tmps.getD 4 AV.undef = .int .u64 (own : Int) ∧ x'.tmps.getD 6 AV.undef = .sptr [.int .i64 a.kind, .int .i64 a.id, .list .none (a.kids.map E.cells)] ∧ x'.tmps.getD 7 AV.undef = .sptr [.int .i64 b.kind, .int .i64 b.id, .list .none (b.kids.map E.cells)] ∧ x'.tmps.getD 8 AV.undef = .sptr [.int .i64 u.kind, .int .i64 u.id, .list .none (u.kids.map E.cells)] ∧ x'.tmps.getD 9 AV.undef = .sptr [.int .i64 v.kind, .int .i64 v.id, .list .none (v.kids.map E.cells)] ∧ x'.tmps.getD 13 AV.undef = .bool false ∧ x'.tmps.getD 58 AV.undef = .int .i64 a.kids.length ∧ x'.tmps.getD 59 AV.undef = .int .i64 i ∧ H.Le x'.H ∧ i + j = a.kids.length ∧ E.swpL a.kids u v own b.kids false = E.swpL (a.kids.drop i) u v own (b.kids.drop i) false) a.kids.length ⟨0, ?_⟩ ?_
            · simp (config := {contextual := true, maxSteps := 5000000}) only [go_sem, false_and, Nat.reduceAdd, Nat.reduceLT, Nat.reduceBEq, Nat.reduceSub, Nat.reduceMul, Nat.reduceLeDiff, Int.reduceToNat, Nat.reduceEqDiff, Nat.reduceMod, ht, hl]
              ((repeat' apply And.intro) <;> first | rfl | exact Hp.Le.refl _ | omega)
            · rintro j ⟨t, m, H'⟩ ⟨i, hl, g4, g6, g7, g8, g9, g13, g58, g59, hH, hij, hd⟩
              simp only at hl g4 g6 g7 g8 g9 g13 g58 g59 hH
              by_cases hi : i < a.kids.length
              · have d : decide ((i : Int) < (a.kids.length : Int)) = true := by simp [hi]
                have hw2 : IntKind.i64.wrap ((i : Int) + 1) = ((i + 1 : Nat) : Int) := by rw [wrap_i64] <;> omega
                obtain ⟨y, hy, hye⟩ := E.kid a hi
                obtain ⟨z, hz, hze⟩ := E.kid b (i := i) (by omega)
                have hdr := swpL_drop u v own false hy hz
                simp (config := {contextual := true, maxSteps := 5000000}) only [go_sem, false_and, Nat.reduceAdd, Nat.reduceLT, Nat.reduceBEq, Nat.reduceSub, Nat.reduceMul, Nat.reduceLeDiff, Int.reduceToNat, Nat.reduceEqDiff, Nat.reduceMod, hye, hze, specSw, toE_at, g4, g6, g7, g8, g9, g13, g58, g59, hl, d, hw2]
                refine ⟨by kernel_rfl, ⟨by omega, by omega⟩, ⟨by omega, by omega⟩, ?_⟩
                refine callK_intro (ih y (by have := E.kid_sz hy; omega) (E.ok_kid hok hy) w0 _ _ z (E.ok_kid hb hz) own false ho) ?_
                cases hs : y.swp u v own z false
                · have hz : E.swpL a.kids u v own b.kids false = false := by rw [hd, hdr, hs]; rfl
                  simp (config := {contextual := true, maxSteps := 5000000}) only [go_sem, false_and, Nat.reduceAdd, Nat.reduceLT, Nat.reduceBEq, Nat.reduceSub, Nat.reduceMul, Nat.reduceLeDiff, Int.reduceToNat, Nat.reduceEqDiff, Nat.reduceMod, hye, hze, specSw, toE_at, g4, g6, g7, g8, g9, g13, g58, g59, hl, d, hw2, hs, hz]
                  exact ⟨by (refine pw_of ?_; (repeat' (first | exact trivial | apply And.intro)); all_goals (first | exact .inr rfl | exact .inr trivial | exact .inl (by kernel_rfl))), hH⟩
                · simp (config := {contextual := true, maxSteps := 5000000}) only [go_sem, false_and, Nat.reduceAdd, Nat.reduceLT, Nat.reduceBEq, Nat.reduceSub, Nat.reduceMul, Nat.reduceLeDiff, Int.reduceToNat, Nat.reduceEqDiff, Nat.reduceMod, hye, hze, specSw, toE_at, g4, g6, g7, g8, g9, g13, g58, g59, hl, d, hw2, hs]
                  exact ⟨by (refine pw_of ?_; (repeat' (first | exact trivial | apply And.intro)); all_goals (first | exact .inr rfl | exact .inr trivial | exact .inl (by kernel_rfl))), j - 1, by omega, i + 1, rfl, hH, by omega, by rw [hd, hdr, hs]; rfl⟩
              · have d : decide ((i : Int) < (a.kids.length : Int)) = false := by simp; omega
                have hz : E.swpL a.kids u v own b.kids false = true := by rw [hd, List.drop_of_length_le (show a.kids.length ≤ i by omega)]; simp [E.swpL]
                simp (config := {contextual := true, maxSteps := 5000000}) only [go_sem, false_and, Nat.reduceAdd, Nat.reduceLT, Nat.reduceBEq, Nat.reduceSub, Nat.reduceMul, Nat.reduceLeDiff, Int.reduceToNat, Nat.reduceEqDiff, Nat.reduceMod, specSw, g4, g6, g7, g8, g9, g13, g58, g59, hl, d, hz]
                exact hH
          · cases hh : hasB own a.id
            · have hsw : a.swp u v own b false = E.swpL a.kids u v own b.kids false := by rw [hsw, hc0, hq, hh]; simp [hk, hid, hln]
              rw [hsw]
              simp (config := {contextual := true, maxSteps := 5000000}) only [go_sem, false_and, Nat.reduceAdd, Nat.reduceLT, Nat.reduceBEq, Nat.reduceSub, Nat.reduceMul, Nat.reduceLeDiff, Int.reduceToNat, Nat.reduceEqDiff, Nat.reduceMod, ht, hl, specSw, toE_at, hk1, hi1, hn1, hq, hh]
              refine ⟨ho, ?_⟩
              refine loop_inv tabOk specSw_ok mixed [] (fun j x' => ∃ i : Nat, x'.tmps.length = 79 ∧ x'.tmps.getD 4 AV.undef = .int .u64 (own : Int) ∧ x'.tmps.getD 6 AV.undef = .sptr [.int .i64 a.kind, .int .i64 a.id, .list .none (a.kids.map E.cells)] ∧ x'.tmps.getD 7 AV.undef = .sptr [.int .i64 b.kind, .int .i64 b.id, .list .none (b.kids.map E.cells)] ∧ x'.tmps.getD 8 AV.undef = .sptr [.int .i64 u.kind, .int .i64 u.id, .list .none (u.kids.map E.cells)] ∧ x'.tmps.getD 9 AV.undef = .sptr [.int .i64 v.kind, .int .i64 v.id, .list .none (v.kids.map E.cells)] ∧ x'.tmps.getD 13 AV.undef = .bool false ∧ x'.tmps.getD 58 AV.undef = .int .i64 a.kids.length ∧ x'.tmps.getD 59 AV.undef = .int .i64 i ∧ H.Le x'.H ∧ i + j = a.kids.length ∧ E.swpL a.kids u v own b.kids false = E.swpL (a.kids.drop i) u v own (b.kids.drop i) false) a.kids.length ⟨0, ?_⟩ ?_
              · simp (config := {contextual := true, maxSteps := 5000000}) only [go_sem, false_and, Nat.reduceAdd, Nat.reduceLT, Nat.reduceBEq, Nat.reduceSub, Nat.reduceMul, Nat.reduceLeDiff, Int.reduceToNat, Nat.reduceEqDiff, Nat.reduceMod, ht, hl]
                ((repeat' apply And.intro) <;> first | rfl | exact Hp.Le.refl _ | omega)
              · rintro j ⟨t, m, H'⟩ ⟨i, hl, g4, g6, g7, g8, g9, g13, g58, g59, hH, hij, hd⟩
                simp only at hl g4 g6 g7 g8 g9 g13 g58 g59 hH
                by_cases hi : i < a.kids.length
                · have d : decide ((i : Int) < (a.kids.length : Int)) = true := by simp [hi]
                  have hw2 : IntKind.i64.wrap ((i : Int) + 1) = ((i + 1 : Nat) : Int) := by rw [wrap_i64] <;> omega
                  obtain ⟨y, hy, hye⟩ := E.kid a hi
                  obtain ⟨z, hz, hze⟩ := E.kid b (i := i) (by omega)
                  have hdr := swpL_drop u v own false hy hz
                  simp (config := {contextual := true, maxSteps := 5000000}) only [go_sem, false_and, Nat.reduceAdd, Nat.reduceLT, Nat.reduceBEq, Nat.reduceSub, Nat.reduceMul, Nat.reduceLeDiff, Int.reduceToNat, Nat.reduceEqDiff, Nat.reduceMod, hye, hze, specSw, toE_at, g4, g6, g7, g8, g9, g13, g58, g59, hl, d, hw2]
                  refine ⟨by kernel_rfl, ⟨by omega, by omega⟩, ⟨by omega, by omega⟩, ?_⟩
                  refine callK_intro (ih y (by have := E.kid_sz hy; omega) (E.ok_kid hok hy) w0 _ _ z (E.ok_kid hb hz) own false ho) ?_
                  cases hs : y.swp u v own z false
                  · have hz : E.swpL a.kids u v own b.kids false = false := by rw [hd, hdr, hs]; rfl
                    simp (config := {contextual := true, maxSteps := 5000000}) only [go_sem, false_and, Nat.reduceAdd, Nat.reduceLT, Nat.reduceBEq, Nat.reduceSub, Nat.reduceMul, Nat.reduceLeDiff, Int.reduceToNat, Nat.reduceEqDiff, Nat.reduceMod, hye, hze, specSw, toE_at, g4, g6, g7, g8, g9, g13, g58, g59, hl, d, hw2, hs, hz]
                    exact ⟨by (refine pw_of ?_; (repeat' (first | exact trivial | apply And.intro)); all_goals (first | exact .inr rfl | exact .inr trivial | exact .inl (by kernel_rfl))), hH⟩
                  · simp (config := {contextual := true, maxSteps := 5000000}) only [go_sem, false_and, Nat.reduceAdd, Nat.reduceLT, Nat.reduceBEq, Nat.reduceSub, Nat.reduceMul, Nat.reduceLeDiff, Int.reduceToNat, Nat.reduceEqDiff, Nat.reduceMod, hye, hze, specSw, toE_at, g4, g6, g7, g8, g9, g13, g58, g59, hl, d, hw2, hs]
                    exact ⟨by (refine pw_of ?_; (repeat' (first | exact trivial | apply And.intro)); all_goals (first | exact .inr rfl | exact .inr trivial | exact .inl (by kernel_rfl))), j - 1, by omega, i + 1, rfl, hH, by omega, by rw [hd, hdr, hs]; rfl⟩
                · have d : decide ((i : Int) < (a.kids.length : Int)) = false := by simp; omega
                  have hz : E.swpL a.kids u v own b.kids false = true := by rw [hd, List.drop_of_length_le (show a.kids.length ≤ i by omega)]; simp [E.swpL]
                  simp (config := {contextual := true, maxSteps := 5000000}) only [go_sem, false_and, Nat.reduceAdd, Nat.reduceLT, Nat.reduceBEq, Nat.reduceSub, Nat.reduceMul, Nat.reduceLeDiff, Int.reduceToNat, Nat.reduceEqDiff, Nat.reduceMod, specSw, g4, g6, g7, g8, g9, g13, g58, g59, hl, d, hz]
                  exact hH
            · have hsw : a.swp u v own b false = E.swpL a.kids u v own b.kids false := by rw [hsw, hc0, hq, hh]; simp [hk, hid, hln]
              rw [hsw]
              simp (config := {contextual := true, maxSteps := 5000000}) only [go_sem, false_and, Nat.reduceAdd, Nat.reduceLT, Nat.reduceBEq, Nat.reduceSub, Nat.reduceMul, Nat.reduceLeDiff, Int.reduceToNat, Nat.reduceEqDiff, Nat.reduceMod, ht, hl, specSw, toE_at, hk1, hi1, hn1, hq, hh]
              refine ⟨ho, ?_⟩
              refine loop_inv tabOk specSw_ok mixed [] (fun j x' => ∃ i : Nat, x'.tmps.length = 79 ∧ x'.tmps.getD 4 AV.undef = .int .u64 (own : Int) ∧ x'.tmps.getD 6 AV.undef = .sptr [.int .i64 a.kind, .int .i64 a.id, .list .none (a.kids.map E.cells)] ∧ x'.tmps.getD 7 AV.undef = .sptr [.int .i64 b.kind, .int .i64 b.id, .list .none (b.kids.map E.cells)] ∧ x'.tmps.getD 8 AV.undef = .sptr [.int .i64 u.kind, .int .i64 u.id, .list .none (u.kids.map E.cells)] ∧ x'.tmps.getD 9 AV.undef = .sptr [.int .i64 v.kind, .int .i64 v.id, .list .none (v.kids.map E.cells)] ∧ x'.tmps.getD 13 AV.undef = .bool false ∧ x'.tmps.getD 58 AV.undef = .int .i64 a.kids.length ∧ x'.tmps.getD 59 AV.undef = .int .i64 i ∧ H.Le x'.H ∧ i + j = a.kids.length ∧ E.swpL a.kids u v own b.kids false = E.swpL (a.kids.drop i) u v own (b.kids.drop i) false) a.kids.length ⟨0, ?_⟩ ?_
              · simp (config := {contextual := true, maxSteps := 5000000}) only [go_sem, false_and, Nat.reduceAdd, Nat.reduceLT, Nat.reduceBEq, Nat.reduceSub, Nat.reduceMul, Nat.reduceLeDiff, Int.reduceToNat, Nat.reduceEqDiff, Nat.reduceMod, ht, hl]
                ((repeat' apply And.intro) <;> first | rfl | exact Hp.Le.refl _ | omega)
              · rintro j ⟨t, m, H'⟩ ⟨i, hl, g4, g6, g7, g8, g9, g13, g58, g59, hH, hij, hd⟩
                simp only at hl g4 g6 g7 g8 g9 g13 g58 g59 hH
                by_cases hi : i < a.kids.length
                · have d : decide ((i : Int) < (a.kids.length : Int)) = true := by simp [hi]
                  have hw2 : IntKind.i64.wrap ((i : Int) + 1) = ((i + 1 : Nat) : Int) := by rw [wrap_i64] <;> omega
                  obtain ⟨y, hy, hye⟩ := E.kid a hi
                  obtain ⟨z, hz, hze⟩ := E.kid b (i := i) (by omega)
                  have hdr := swpL_drop u v own false hy hz
                  simp (config := {contextual := true, maxSteps := 5000000}) only [go_sem, false_and, Nat.reduceAdd, Nat.reduceLT, Nat.reduceBEq, Nat.reduceSub, Nat.reduceMul, Nat.reduceLeDiff, Int.reduceToNat, Nat.reduceEqDiff, Nat.reduceMod, hye, hze, specSw, toE_at, g4, g6, g7, g8, g9, g13, g58, g59, hl, d, hw2]
                  refine ⟨by kernel_rfl, ⟨by omega, by omega⟩, ⟨by omega, by omega⟩, ?_⟩
                  refine callK_intro (ih y (by have := E.kid_sz hy; omega) (E.ok_kid hok hy) w0 _ _ z (E.ok_kid hb hz) own false ho) ?_
                  cases hs : y.swp u v own z false
                  · have hz : E.swpL a.kids u v own b.kids false = false := by rw [hd, hdr, hs]; rfl
                    simp (config := {contextual := true, maxSteps := 5000000}) only [go_sem, false_and, Nat.reduceAdd, Nat.reduceLT, Nat.reduceBEq, Nat.reduceSub, Nat.reduceMul, Nat.reduceLeDiff, Int.reduceToNat, Nat.reduceEqDiff, Nat.reduceMod, hye, hze, specSw, toE_at, g4, g6, g7, g8, g9, g13, g58, g59, hl, d, hw2, hs, hz]
                    exact ⟨by (refine pw_of ?_; (repeat' (first | exact trivial | apply And.intro)); all_goals (first | exact .inr rfl | exact .inr trivial | exact .inl (by kernel_rfl))), hH⟩
                  · simp (config := {contextual := true, maxSteps := 5000000}) only [go_sem, false_and, Nat.reduceAdd, Nat.reduceLT, Nat.reduceBEq, Nat.reduceSub, Nat.reduceMul, Nat.reduceLeDiff, Int.reduceToNat, Nat.reduceEqDiff, Nat.reduceMod, hye, hze, specSw, toE_at, g4, g6, g7, g8, g9, g13, g58, g59, hl, d, hw2, hs]
                    exact ⟨by (refine pw_of ?_; (repeat' (first | exact trivial | apply And.intro)); all_goals (first | exact .inr rfl | exact .inr trivial | exact .inl (by kernel_rfl))), j - 1, by omega, i + 1, rfl, hH, by omega, by rw [hd, hdr, hs]; rfl⟩
                · have d : decide ((i : Int) < (a.kids.length : Int)) = false := by simp; omega
                  have hz : E.swpL a.kids u v own b.kids false = true := by rw [hd, List.drop_of_length_le (show a.kids.length ≤ i by omega)]; simp [E.swpL]
                  simp (config := {contextual := true, maxSteps := 5000000}) only [go_sem, false_and, Nat.reduceAdd, Nat.reduceLT, Nat.reduceBEq, Nat.reduceSub, Nat.reduceMul, Nat.reduceLeDiff, Int.reduceToNat, Nat.reduceEqDiff, Nat.reduceMod, specSw, g4, g6, g7, g8, g9, g13, g58, g59, hl, d, hz]
                  exact hH
        · have hn1 : ((a.kids.length : Int) != (b.kids.length : Int)) = true := by rw [bne_iff_ne]; omega
          have hz : a.swp u v own b false = false := by rw [hsw, hc0]; simp [hln]
          rw [hz]
          simp (config := {contextual := true, maxSteps := 5000000}) only [go_sem, false_and, Nat.reduceAdd, Nat.reduceLT, Nat.reduceBEq, Nat.reduceSub, Nat.reduceMul, Nat.reduceLeDiff, Int.reduceToNat, Nat.reduceEqDiff, Nat.reduceMod, ht, hl, specSw, toE_at, hk1, hi1, hn1]
          try exact ⟨Weak.refl _⟩
          try exact trivial
      · have hi1 : (a.id != b.id) = true := by simpa using hid
        have hz : a.swp u v own b false = false := by rw [hsw, hc0]; simp [hid]
        rw [hz]
        simp (config := {contextual := true, maxSteps := 5000000}) only [go_sem, false_and, Nat.reduceAdd, Nat.reduceLT, Nat.reduceBEq, Nat.reduceSub, Nat.reduceMul, Nat.reduceLeDiff, Int.reduceToNat, Nat.reduceEqDiff, Nat.reduceMod, ht, hl, specSw, toE_at, hk1, hi1]
        try exact trivial
    · have hk1 : (a.kind != b.kind) = true := by simpa using hk
      have hz : a.swp u v own b false = false := by rw [hsw, hc0]; simp [hk]
      rw [hz]
      simp (config := {contextual := true, maxSteps := 5000000}) only [go_sem, false_and, Nat.reduceAdd, Nat.reduceLT, Nat.reduceBEq, Nat.reduceSub, Nat.reduceMul, Nat.reduceLeDiff, Int.reduceToNat, Nat.reduceEqDiff, Nat.reduceMod, ht, hl, specSw, toE_at, hk1]
      try exact trivial
  · cases h1 : a.like u
    · have hc0 : (true && (a.like u && b.like v)) = false := by rw [h1]; rfl
      by_cases hk : a.kind = b.kind
      · have hk1 : (a.kind != b.kind) = false := by simp [hk]
        by_cases hid : a.id = b.id
        · have hi1 : (a.id != b.id) = false := by simp [hid]
          by_cases hln : a.kids.length = b.kids.length
          · have hn1 : ((a.kids.length : Int) != (b.kids.length : Int)) = false := by simp [hln]
            cases hq : isQ a.kind
            · have hsw : a.swp u v own b true = E.swpL a.kids u v own b.kids true := by rw [hsw, hc0, hq]; simp [hk, hid, hln]
              rw [hsw]
              simp (config := {contextual := true, maxSteps := 5000000}) only [go_sem, false_and, Nat.reduceAdd, Nat.reduceLT, Nat.reduceBEq, Nat.reduceSub, Nat.reduceMul, Nat.reduceLeDiff, Int.reduceToNat, Nat.reduceEqDiff, Nat.reduceMod, ht, hl, specSw, toE_at, h1, hk1, hi1, hn1, hq]
              refine ⟨hok, ?_⟩
              refine loop_inv tabOk specSw_ok mixed [] (fun j x' => ∃ i : Nat, x'.tmps.length = 79 ∧ x'.tmps.getD 4 AV.undef = .int .u64 (own : Int) ∧ x'.tmps.getD 6 AV.undef = .sptr [.int .i64 a.kind, .int .i64 a.id, .list .none (a.kids.map E.cells)] ∧ x'.tmps.getD 7 AV.undef = .sptr [.int .i64 b.kind, .int .i64 b.id, .list .none (b.kids.map E.cells)] ∧ x'.tmps.getD 8 AV.undef = .sptr [.int .i64 u.kind, .int .i64 u.id, .list .none (u.kids.map E.cells)] ∧ x'.tmps.getD 9 AV.undef = .sptr [.int .i64 v.kind, .int .i64 v.id, .list .none (v.kids.map E.cells)] ∧ x'.tmps.getD 13 AV.undef = .bool true ∧ x'.tmps.getD 58 AV.undef = .int .i64 a.kids.length ∧ x'.tmps.getD 59 AV.undef = .int .i64 i ∧ H.Le x'.H ∧ i + j = a.kids.length ∧ E.swpL a.kids u v own b.kids true = E.swpL (a.kids.drop i) u v own (b.kids.drop i) true) a.kids.length ⟨0, ?_⟩ ?_
              · simp (config := {contextual := true, maxSteps := 5000000}) only [go_sem, false_and, Nat.reduceAdd, Nat.reduceLT, Nat.reduceBEq, Nat.reduceSub, Nat.reduceMul, Nat.reduceLeDiff, Int.reduceToNat, Nat.reduceEqDiff, Nat.reduceMod, ht, hl]
                ((repeat' apply And.intro) <;> first | rfl | exact Hp.Le.refl _ | omega)
              · rintro j ⟨t, m, H'⟩ ⟨i, hl, g4, g6, g7, g8, g9, g13, g58, g59, hH, hij, hd⟩
                simp only at hl g4 g6 g7 g8 g9 g13 g58 g59 hH
                by_cases hi : i < a.kids.length
                · have d : decide ((i : Int) < (a.kids.length : Int)) = true := by simp [hi]
                  have hw2 : IntKind.i64.wrap ((i : Int) + 1) = ((i + 1 : Nat) : Int) := by rw [wrap_i64] <;> omega
                  obtain ⟨y, hy, hye⟩ := E.kid a hi
                  obtain ⟨z, hz, hze⟩ := E.kid b (i := i) (by omega)
                  have hdr := swpL_drop u v own true hy hz
                  simp (config := {contextual := true, maxSteps := 5000000}) only [go_sem, false_and, Nat.reduceAdd, Nat.reduceLT, Nat.reduceBEq, Nat.reduceSub, Nat.reduceMul, Nat.reduceLeDiff, Int.reduceToNat, Nat.reduceEqDiff, Nat.reduceMod, hye, hze, specSw, toE_at, g4, g6, g7, g8, g9, g13, g58, g59, hl, d, hw2]
                  refine ⟨by kernel_rfl, ⟨by omega, by omega⟩, ⟨by omega, by omega⟩, ?_⟩
                  refine callK_intro (ih y (by have := E.kid_sz hy; omega) (E.ok_kid hok hy) w0 _ _ z (E.ok_kid hb hz) own true ho) ?_
                  cases hs : y.swp u v own z true
                  · have hz : E.swpL a.kids u v own b.kids true = false := by rw [hd, hdr, hs]; rfl
                    simp (config := {contextual := true, maxSteps := 5000000}) only [go_sem, false_and, Nat.reduceAdd, Nat.reduceLT, Nat.reduceBEq, Nat.reduceSub, Nat.reduceMul, Nat.reduceLeDiff, Int.reduceToNat, Nat.reduceEqDiff, Nat.reduceMod, hye, hze, specSw, toE_at, g4, g6, g7, g8, g9, g13, g58, g59, hl, d, hw2, hs, hz]
                    exact ⟨by (refine pw_of ?_; (repeat' (first | exact trivial | apply And.intro)); all_goals (first | exact .inr rfl | exact .inr trivial | exact .inl (by kernel_rfl))), hH⟩
                  · simp (config := {contextual := true, maxSteps := 5000000}) only [go_sem, false_and, Nat.reduceAdd, Nat.reduceLT, Nat.reduceBEq, Nat.reduceSub, Nat.reduceMul, Nat.reduceLeDiff, Int.reduceToNat, Nat.reduceEqDiff, Nat.reduceMod, hye, hze, specSw, toE_at, g4, g6, g7, g8, g9, g13, g58, g59, hl, d, hw2, hs]
                    exact ⟨by (refine pw_of ?_; (repeat' (first | exact trivial | apply And.intro)); all_goals (first | exact .inr rfl | exact .inr trivial | exact .inl (by kernel_rfl))), j - 1, by omega, i + 1, rfl, hH, by omega, by rw [hd, hdr, hs]; rfl⟩
                · have d : decide ((i : Int) < (a.kids.length : Int)) = false := by simp; omega
                  have hz : E.swpL a.kids u v own b.kids true = true := by rw [hd, List.drop_of_length_le (show a.kids.length ≤ i by omega)]; simp [E.swpL]
                  simp (config := {contextual := true, maxSteps := 5000000}) only [go_sem, false_and, Nat.reduceAdd, Nat.reduceLT, Nat.reduceBEq, Nat.reduceSub, Nat.reduceMul, Nat.reduceLeDiff, Int.reduceToNat, Nat.reduceEqDiff, Nat.reduceMod, specSw, g4, g6, g7, g8, g9, g13, g58, g59, hl, d, hz]
                  exact hH
            · cases hh : hasB own a.id
              · have hsw : a.swp u v own b true = E.swpL a.kids u v own b.kids true := by rw [hsw, hc0, hq, hh]; simp [hk, hid, hln]
                rw [hsw]
                simp (config := {contextual := true, maxSteps := 5000000}) only [go_sem, false_and, Nat.reduceAdd, Nat.reduceLT, Nat.reduceBEq, Nat.reduceSub, Nat.reduceMul, Nat.reduceLeDiff, Int.reduceToNat, Nat.reduceEqDiff, Nat.reduceMod, ht, hl, specSw, toE_at, h1, hk1, hi1, hn1, hq, hh]
                refine ⟨hok, ho, ?_⟩
                refine loop_inv tabOk specSw_ok mixed [] (fun j x' => ∃ i : Nat, x'.tmps.length = 79 ∧ x'.tmps.getD 4 AV.undef = .int .u64 (own : Int) ∧ x'.tmps.getD 6 AV.undef = .sptr [.int .i64 a.kind, .int .i64 a.id, .list .none (a.kids.map E.cells)] ∧ x'.tmps.getD 7 AV.undef = .sptr [.int .i64 b.kind, .int .i64 b.id, .list .none (b.kids.map E.cells)] ∧ x'.tmps.getD 8 AV.undef = .sptr [.int .i64 u.kind, .int .i64 u.id, .list .none (u.kids.map E.cells)] ∧ x'.tmps.getD 9 AV.undef = .sptr [.int .i64 v.kind, .int .i64 v.id, .list .none (v.kids.map E.cells)] ∧ x'.tmps.getD 13 AV.undef = .bool true ∧ x'.tmps.getD 58 AV.undef = .int .i64 a.kids.length ∧ x'.tmps.getD 59 AV.undef = .int .i64 i ∧ H.Le x'.H ∧ i + j = a.kids.length ∧ E.swpL a.kids u v own b.kids true = E.swpL (a.kids.drop i) u v own (b.kids.drop i) true) a.kids.length ⟨0, ?_⟩ ?_
                · simp (config := {contextual := true, maxSteps := 5000000}) only [go_sem, false_and, Nat.reduceAdd, Nat.reduceLT, Nat.reduceBEq, Nat.reduceSub, Nat.reduceMul, Nat.reduceLeDiff, Int.reduceToNat, Nat.reduceEqDiff, Nat.reduceMod, ht, hl]
                  ((repeat' apply And.intro) <;> first | rfl | exact Hp.Le.refl _ | omega)
                · rintro j ⟨t, m, H'⟩ ⟨i, hl, g4, g6, g7, g8, g9, g13, g58, g59, hH, hij, hd⟩
                  simp only at hl g4 g6 g7 g8 g9 g13 g58 g59 hH
                  by_cases hi : i < a.kids.length
                  · have d : decide ((i : Int) < (a.kids.length : Int)) = true := by simp [hi]
                    have hw2 : IntKind.i64.wrap ((i : Int) + 1) = ((i + 1 : Nat) : Int) := by rw [wrap_i64] <;> omega
                    obtain ⟨y, hy, hye⟩ := E.kid a hi
                    obtain ⟨z, hz, hze⟩ := E.kid b (i := i) (by omega)
                    have hdr := swpL_drop u v own true hy hz
                    simp (config := {contextual := true, maxSteps := 5000000}) only [go_sem, false_and, Nat.reduceAdd, Nat.reduceLT, Nat.reduceBEq, Nat.reduceSub, Nat.reduceMul, Nat.reduceLeDiff, Int.reduceToNat, Nat.reduceEqDiff, Nat.reduceMod, hye, hze, specSw, toE_at, g4, g6, g7, g8, g9, g13, g58, g59, hl, d, hw2]
                    refine ⟨by kernel_rfl, ⟨by omega, by omega⟩, ⟨by omega, by omega⟩, ?_⟩
                    refine callK_intro (ih y (by have := E.kid_sz hy; omega) (E.ok_kid hok hy) w0 _ _ z (E.ok_kid hb hz) own true ho) ?_
                    cases hs : y.swp u v own z true
                    · have hz : E.swpL a.kids u v own b.kids true = false := by rw [hd, hdr, hs]; rfl
                      simp (config := {contextual := true, maxSteps := 5000000}) only [go_sem, false_and, Nat.reduceAdd, Nat.reduceLT, Nat.reduceBEq, Nat.reduceSub, Nat.reduceMul, Nat.reduceLeDiff, Int.reduceToNat, Nat.reduceEqDiff, Nat.reduceMod, hye, hze, specSw, toE_at, g4, g6, g7, g8, g9, g13, g58, g59, hl, d, hw2, hs, hz]
                      exact ⟨by (refine pw_of ?_; (repeat' (first | exact trivial | apply And.intro)); all_goals (first | exact .inr rfl | exact .inr trivial | exact .inl (by kernel_rfl))), hH⟩
                    · simp (config := {contextual := true, maxSteps := 5000000}) only [go_sem, false_and, Nat.reduceAdd, Nat.reduceLT, Nat.reduceBEq, Nat.reduceSub, Nat.reduceMul, Nat.reduceLeDiff, Int.reduceToNat, Nat.reduceEqDiff, Nat.reduceMod, hye, hze, specSw, toE_at, g4, g6, g7, g8, g9, g13, g58, g59, hl, d, hw2, hs]
                      exact ⟨by (refine pw_of ?_; (repeat' (first | exact trivial | apply And.intro)); all_goals (first | exact .inr rfl | exact .inr trivial | exact .inl (by kernel_rfl))), j - 1, by omega, i + 1, rfl, hH, by omega, by rw [hd, hdr, hs]; rfl⟩
                  · have d : decide ((i : Int) < (a.kids.length : Int)) = false := by simp; omega
                    have hz : E.swpL a.kids u v own b.kids true = true := by rw [hd, List.drop_of_length_le (show a.kids.length ≤ i by omega)]; simp [E.swpL]
                    simp (config := {contextual := true, maxSteps := 5000000}) only [go_sem, false_and, Nat.reduceAdd, Nat.reduceLT, Nat.reduceBEq, Nat.reduceSub, Nat.reduceMul, Nat.reduceLeDiff, Int.reduceToNat, Nat.reduceEqDiff, Nat.reduceMod, specSw, g4, g6, g7, g8, g9, g13, g58, g59, hl, d, hz]
                    exact hH
              · have hsw : a.swp u v own b true = E.swpL a.kids u v own b.kids false := by rw [hsw, hc0, hq, hh]; simp [hk, hid, hln]
                rw [hsw]
                simp (config := {contextual := true, maxSteps := 5000000}) only [go_sem, false_and, Nat.reduceAdd, Nat.reduceLT, Nat.reduceBEq, Nat.reduceSub, Nat.reduceMul, Nat.reduceLeDiff, Int.reduceToNat, Nat.reduceEqDiff, Nat.reduceMod, ht, hl, specSw, toE_at, h1, hk1, hi1, hn1, hq, hh]
                refine ⟨hok, ho, ?_⟩
                refine loop_inv tabOk specSw_ok mixed [] (fun j x' => ∃ i : Nat, x'.tmps.length = 79 ∧ x'.tmps.getD 4 AV.undef = .int .u64 (own : Int) ∧ x'.tmps.getD 6 AV.undef = .sptr [.int .i64 a.kind, .int .i64 a.id, .list .none (a.kids.map E.cells)] ∧ x'.tmps.getD 7 AV.undef = .sptr [.int .i64 b.kind, .int .i64 b.id, .list .none (b.kids.map E.cells)] ∧ x'.tmps.getD 8 AV.undef = .sptr [.int .i64 u.kind, .int .i64 u.id, .list .none (u.kids.map E.cells)] ∧ x'.tmps.getD 9 AV.undef = .sptr [.int .i64 v.kind, .int .i64 v.id, .list .none (v.kids.map E.cells)] ∧ x'.tmps.getD 13 AV.undef = .bool false ∧ x'.tmps.getD 58 AV.undef = .int .i64 a.kids.length ∧ x'.tmps.getD 59 AV.undef = .int .i64 i ∧ H.Le x'.H ∧ i + j = a.kids.length ∧ E.swpL a.kids u v own b.kids false = E.swpL (a.kids.drop i) u v own (b.kids.drop i) false) a.kids.length ⟨0, ?_⟩ ?_
                · simp (config := {contextual := true, maxSteps := 5000000}) only [go_sem, false_and, Nat.reduceAdd, Nat.reduceLT, Nat.reduceBEq, Nat.reduceSub, Nat.reduceMul, Nat.reduceLeDiff, Int.reduceToNat, Nat.reduceEqDiff, Nat.reduceMod, ht, hl]
                  ((repeat' apply And.intro) <;> first | rfl | exact Hp.Le.refl _ | omega)
                · rintro j ⟨t, m, H'⟩ ⟨i, hl, g4, g6, g7, g8, g9, g13, g58, g59, hH, hij, hd⟩
                  simp only at hl g4 g6 g7 g8 g9 g13 g58 g59 hH
                  by_cases hi : i < a.kids.length
                  · have d : decide ((i : Int) < (a.kids.length : Int)) = true := by simp [hi]
                    have hw2 : IntKind.i64.wrap ((i : Int) + 1) = ((i + 1 : Nat) : Int) := by rw [wrap_i64] <;> omega
                    obtain ⟨y, hy, hye⟩ := E.kid a hi
                    obtain ⟨z, hz, hze⟩ := E.kid b (i := i) (by omega)
                    have hdr := swpL_drop u v own false hy hz
                    simp (config := {contextual := true, maxSteps := 5000000}) only [go_sem, false_and, Nat.reduceAdd, Nat.reduceLT, Nat.reduceBEq, Nat.reduceSub, Nat.reduceMul, Nat.reduceLeDiff, Int.reduceToNat, Nat.reduceEqDiff, Nat.reduceMod, hye, hze, specSw, toE_at, g4, g6, g7, g8, g9, g13, g58, g59, hl, d, hw2]
                    refine ⟨by kernel_rfl, ⟨by omega, by omega⟩, ⟨by omega, by omega⟩, ?_⟩
                    refine callK_intro (ih y (by have := E.kid_sz hy; omega) (E.ok_kid hok hy) w0 _ _ z (E.ok_kid hb hz) own false ho) ?_
                    cases hs : y.swp u v own z false
                    · have hz : E.swpL a.kids u v own b.kids false = false := by rw [hd, hdr, hs]; rfl
                      simp (config := {contextual := true, maxSteps := 5000000}) only [go_sem, false_and, Nat.reduceAdd, Nat.reduceLT, Nat.reduceBEq, Nat.reduceSub, Nat.reduceMul, Nat.reduceLeDiff, Int.reduceToNat, Nat.reduceEqDiff, Nat.reduceMod, hye, hze, specSw, toE_at, g4, g6, g7, g8, g9, g13, g58, g59, hl, d, hw2, hs, hz]
                      exact ⟨by (refine pw_of ?_; (repeat' (first | exact trivial | apply And.intro)); all_goals (first | exact .inr rfl | exact .inr trivial | exact .inl (by kernel_rfl))), hH⟩
                    · simp (config := {contextual := true, maxSteps := 5000000}) only [go_sem, false_and, Nat.reduceAdd, Nat.reduceLT, Nat.reduceBEq, Nat.reduceSub, Nat.reduceMul, Nat.reduceLeDiff, Int.reduceToNat, Nat.reduceEqDiff, Nat.reduceMod, hye, hze, specSw, toE_at, g4, g6, g7, g8, g9, g13, g58, g59, hl, d, hw2, hs]
                      exact ⟨by (refine pw_of ?_; (repeat' (first | exact trivial | apply And.intro)); all_goals (first | exact .inr rfl | exact .inr trivial | exact .inl (by kernel_rfl))), j - 1, by omega, i + 1, rfl, hH, by omega, by rw [hd, hdr, hs]; rfl⟩
                  · have d : decide ((i : Int) < (a.kids.length : Int)) = false := by simp; omega
                    have hz : E.swpL a.kids u v own b.kids false = true := by rw [hd, List.drop_of_length_le (show a.kids.length ≤ i by omega)]; simp [E.swpL]
                    simp (config := {contextual := true, maxSteps := 5000000}) only [go_sem, false_and, Nat.reduceAdd, Nat.reduceLT, Nat.reduceBEq, Nat.reduceSub, Nat.reduceMul, Nat.reduceLeDiff, Int.reduceToNat, Nat.reduceEqDiff, Nat.reduceMod, specSw, g4, g6, g7, g8, g9, g13, g58, g59, hl, d, hz]
                    exact hH
          · have hn1 : ((a.kids.length : Int) != (b.kids.length : Int)) = true := by rw [bne_iff_ne]; omega
            have hz : a.swp u v own b true = false := by rw [hsw, hc0]; simp [hln]
            rw [hz]
            simp (config := {contextual := true, maxSteps := 5000000}) only [go_sem, false_and, Nat.reduceAdd, Nat.reduceLT, Nat.reduceBEq, Nat.reduceSub, Nat.reduceMul, Nat.reduceLeDiff, Int.reduceToNat, Nat.reduceEqDiff, Nat.reduceMod, ht, hl, specSw, toE_at, h1, hk1, hi1, hn1]
            try exact ⟨hok, Weak.refl _⟩
            try exact hok
        · have hi1 : (a.id != b.id) = true := by simpa using hid
          have hz : a.swp u v own b true = false := by rw [hsw, hc0]; simp [hid]
          rw [hz]
          simp (config := {contextual := true, maxSteps := 5000000}) only [go_sem, false_and, Nat.reduceAdd, Nat.reduceLT, Nat.reduceBEq, Nat.reduceSub, Nat.reduceMul, Nat.reduceLeDiff, Int.reduceToNat, Nat.reduceEqDiff, Nat.reduceMod, ht, hl, specSw, toE_at, h1, hk1, hi1]
          try exact hok
      · have hk1 : (a.kind != b.kind) = true := by simpa using hk
        have hz : a.swp u v own b true = false := by rw [hsw, hc0]; simp [hk]
        rw [hz]
        simp (config := {contextual := true, maxSteps := 5000000}) only [go_sem, false_and, Nat.reduceAdd, Nat.reduceLT, Nat.reduceBEq, Nat.reduceSub, Nat.reduceMul, Nat.reduceLeDiff, Int.reduceToNat, Nat.reduceEqDiff, Nat.reduceMod, ht, hl, specSw, toE_at, h1, hk1]
        try exact hok
    · cases h2 : b.like v
      · have hc0 : (true && (a.like u && b.like v)) = false := by rw [h1, h2]; rfl
        by_cases hk : a.kind = b.kind
        · have hk1 : (a.kind != b.kind) = false := by simp [hk]
          by_cases hid : a.id = b.id
          · have hi1 : (a.id != b.id) = false := by simp [hid]
            by_cases hln : a.kids.length = b.kids.length
            · have hn1 : ((a.kids.length : Int) != (b.kids.length : Int)) = false := by simp [hln]
              cases hq : isQ a.kind
              · have hsw : a.swp u v own b true = E.swpL a.kids u v own b.kids true := by rw [hsw, hc0, hq]; simp [hk, hid, hln]
                rw [hsw]
                simp (config := {contextual := true, maxSteps := 5000000}) only [go_sem, false_and, Nat.reduceAdd, Nat.reduceLT, Nat.reduceBEq, Nat.reduceSub, Nat.reduceMul, Nat.reduceLeDiff, Int.reduceToNat, Nat.reduceEqDiff, Nat.reduceMod, ht, hl, specSw, toE_at, h1, h2, hk1, hi1, hn1, hq]
                refine ⟨hok, hb, ?_⟩
                refine loop_inv tabOk specSw_ok mixed [] (fun j x' => ∃ i : Nat, x'.tmps.length = 79 ∧ x'.tmps.getD 4 AV.undef = .int .u64 (own : Int) ∧ x'.tmps.getD 6 AV.undef = .sptr [.int .i64 a.kind, .int .i64 a.id, .list .none (a.kids.map E.cells)] ∧ x'.tmps.getD 7 AV.undef = .sptr [.int .i64 b.kind, .int .i64 b.id, .list .none (b.kids.map E.cells)] ∧ x'.tmps.getD 8 AV.undef = .sptr [.int .i64 u.kind, .int .i64 u.id, .list .none (u.kids.map E.cells)] ∧ x'.tmps.getD 9 AV.undef = .sptr [.int .i64 v.kind, .int .i64 v.id, .list .none (v.kids.map E.cells)] ∧ x'.tmps.getD 13 AV.undef = .bool true ∧ x'.tmps.getD 58 AV.undef = .int .i64 a.kids.length ∧ x'.tmps.getD 59 AV.undef = .int .i64 i ∧ H.Le x'.H ∧ i + j = a.kids.length ∧ E.swpL a.kids u v own b.kids true = E.swpL (a.kids.drop i) u v own (b.kids.drop i) true) a.kids.length ⟨0, ?_⟩ ?_
                · simp (config := {contextual := true, maxSteps := 5000000}) only [go_sem, false_and, Nat.reduceAdd, Nat.reduceLT, Nat.reduceBEq, Nat.reduceSub, Nat.reduceMul, Nat.reduceLeDiff, Int.reduceToNat, Nat.reduceEqDiff, Nat.reduceMod, ht, hl]
                  ((repeat' apply And.intro) <;> first | rfl | exact Hp.Le.refl _ | omega)
                · rintro j ⟨t, m, H'⟩ ⟨i, hl, g4, g6, g7, g8, g9, g13, g58, g59, hH, hij, hd⟩
                  simp only at hl g4 g6 g7 g8 g9 g13 g58 g59 hH
                  by_cases hi : i < a.kids.length
                  · have d : decide ((i : Int) < (a.kids.length : Int)) = true := by simp [hi]
                    have hw2 : IntKind.i64.wrap ((i : Int) + 1) = ((i + 1 : Nat) : Int) := by rw [wrap_i64] <;> omega
                    obtain ⟨y, hy, hye⟩ := E.kid a hi
                    obtain ⟨z, hz, hze⟩ := E.kid b (i := i) (by omega)
                    have hdr := swpL_drop u v own true hy hz
                    simp (config := {contextual := true, maxSteps := 5000000}) only [go_sem, false_and, Nat.reduceAdd, Nat.reduceLT, Nat.reduceBEq, Nat.reduceSub, Nat.reduceMul, Nat.reduceLeDiff, Int.reduceToNat, Nat.reduceEqDiff, Nat.reduceMod, hye, hze, specSw, toE_at, g4, g6, g7, g8, g9, g13, g58, g59, hl, d, hw2]
                    refine ⟨by kernel_rfl, ⟨by omega, by omega⟩, ⟨by omega, by omega⟩, ?_⟩
                    refine callK_intro (ih y (by have := E.kid_sz hy; omega) (E.ok_kid hok hy) w0 _ _ z (E.ok_kid hb hz) own true ho) ?_
                    cases hs : y.swp u v own z true
                    · have hz : E.swpL a.kids u v own b.kids true = false := by rw [hd, hdr, hs]; rfl
                      simp (config := {contextual := true, maxSteps := 5000000}) only [go_sem, false_and, Nat.reduceAdd, Nat.reduceLT, Nat.reduceBEq, Nat.reduceSub, Nat.reduceMul, Nat.reduceLeDiff, Int.reduceToNat, Nat.reduceEqDiff, Nat.reduceMod, hye, hze, specSw, toE_at, g4, g6, g7, g8, g9, g13, g58, g59, hl, d, hw2, hs, hz]
                      exact ⟨by (refine pw_of ?_; (repeat' (first | exact trivial | apply And.intro)); all_goals (first | exact .inr rfl | exact .inr trivial | exact .inl (by kernel_rfl))), hH⟩
                    · simp (config := {contextual := true, maxSteps := 5000000}) only [go_sem, false_and, Nat.reduceAdd, Nat.reduceLT, Nat.reduceBEq, Nat.reduceSub, Nat.reduceMul, Nat.reduceLeDiff, Int.reduceToNat, Nat.reduceEqDiff, Nat.reduceMod, hye, hze, specSw, toE_at, g4, g6, g7, g8, g9, g13, g58, g59, hl, d, hw2, hs]
                      exact ⟨by (refine pw_of ?_; (repeat' (first | exact trivial | apply And.intro)); all_goals (first | exact .inr rfl | exact .inr trivial | exact .inl (by kernel_rfl))), j - 1, by omega, i + 1, rfl, hH, by omega, by rw [hd, hdr, hs]; rfl⟩
                  · have d : decide ((i : Int) < (a.kids.length : Int)) = false := by simp; omega
                    have hz : E.swpL a.kids u v own b.kids true = true := by rw [hd, List.drop_of_length_le (show a.kids.length ≤ i by omega)]; simp [E.swpL]
                    simp (config := {contextual := true, maxSteps := 5000000}) only [go_sem, false_and, Nat.reduceAdd, Nat.reduceLT, Nat.reduceBEq, Nat.reduceSub, Nat.reduceMul, Nat.reduceLeDiff, Int.reduceToNat, Nat.reduceEqDiff, Nat.reduceMod, specSw, g4, g6, g7, g8, g9, g13, g58, g59, hl, d, hz]
                    exact hH
              · cases hh : hasB own a.id
                · have hsw : a.swp u v own b true = E.swpL a.kids u v own b.kids true := by rw [hsw, hc0, hq, hh]; simp [hk, hid, hln]
                  rw [hsw]
                  simp (config := {contextual := true, maxSteps := 5000000}) only [go_sem, false_and, Nat.reduceAdd, Nat.reduceLT, Nat.reduceBEq, Nat.reduceSub, Nat.reduceMul, Nat.reduceLeDiff, Int.reduceToNat, Nat.reduceEqDiff, Nat.reduceMod, ht, hl, specSw, toE_at, h1, h2, hk1, hi1, hn1, hq, hh]
                  refine ⟨hok, hb, ho, ?_⟩
                  refine loop_inv tabOk specSw_ok mixed [] (fun j x' => ∃ i : Nat, x'.tmps.length = 79 ∧ x'.tmps.getD 4 AV.undef = .int .u64 (own : Int) ∧ x'.tmps.getD 6 AV.undef = .sptr [.int .i64 a.kind, .int .i64 a.id, .list .none (a.kids.map E.cells)] ∧ x'.tmps.getD 7 AV.undef = .sptr [.int .i64 b.kind, .int .i64 b.id, .list .none (b.kids.map E.cells)] ∧ x'.tmps.getD 8 AV.undef = .sptr [.int .i64 u.kind, .int .i64 u.id, .list .none (u.kids.map E.cells)] ∧ x'.tmps.getD 9 AV.undef = .sptr [.int .i64 v.kind, .int .i64 v.id, .list .none (v.kids.map E.cells)] ∧ x'.tmps.getD 13 AV.undef = .bool true ∧ x'.tmps.getD 58 AV.undef = .int .i64 a.kids.length ∧ x'.tmps.getD 59 AV.undef = .int .i64 i ∧ H.Le x'.H ∧ i + j = a.kids.length ∧ E.swpL a.kids u v own b.kids true = E.swpL (a.kids.drop i) u v own (b.kids.drop i) true) a.kids.length ⟨0, ?_⟩ ?_
                  · simp (config := {contextual := true, maxSteps := 5000000}) only [go_sem, false_and, Nat.reduceAdd, Nat.reduceLT, Nat.reduceBEq, Nat.reduceSub, Nat.reduceMul, Nat.reduceLeDiff, Int.reduceToNat, Nat.reduceEqDiff, Nat.reduceMod, ht, hl]
                    ((repeat' apply And.intro) <;> first | rfl | exact Hp.Le.refl _ | omega)
                  · rintro j ⟨t, m, H'⟩ ⟨i, hl, g4, g6, g7, g8, g9, g13, g58, g59, hH, hij, hd⟩
                    simp only at hl g4 g6 g7 g8 g9 g13 g58 g59 hH
                    by_cases hi : i < a.kids.length
                    · have d : decide ((i : Int) < (a.kids.length : Int)) = true := by simp [hi]
                      have hw2 : IntKind.i64.wrap ((i : Int) + 1) = ((i + 1 : Nat) : Int) := by rw [wrap_i64] <;> omega
                      obtain ⟨y, hy, hye⟩ := E.kid a hi
                      obtain ⟨z, hz, hze⟩ := E.kid b (i := i) (by omega)
                      have hdr := swpL_drop u v own true hy hz
                      simp (config := {contextual := true, maxSteps := 5000000}) only [go_sem, false_and, Nat.reduceAdd, Nat.reduceLT, Nat.reduceBEq, Nat.reduceSub, Nat.reduceMul, Nat.reduceLeDiff, Int.reduceToNat, Nat.reduceEqDiff, Nat.reduceMod, hye, hze, specSw, toE_at, g4, g6, g7, g8, g9, g13, g58, g59, hl, d, hw2]
                      refine ⟨by kernel_rfl, ⟨by omega, by omega⟩, ⟨by omega, by omega⟩, ?_⟩
                      refine callK_intro (ih y (by have := E.kid_sz hy; omega) (E.ok_kid hok hy) w0 _ _ z (E.ok_kid hb hz) own true ho) ?_
                      cases hs : y.swp u v own z true
                      · have hz : E.swpL a.kids u v own b.kids true = false := by rw [hd, hdr, hs]; rfl
                        simp (config := {contextual := true, maxSteps := 5000000}) only [go_sem, false_and, Nat.reduceAdd, Nat.reduceLT, Nat.reduceBEq, Nat.reduceSub, Nat.reduceMul, Nat.reduceLeDiff, Int.reduceToNat, Nat.reduceEqDiff, Nat.reduceMod, hye, hze, specSw, toE_at, g4, g6, g7, g8, g9, g13, g58, g59, hl, d, hw2, hs, hz]
                        exact ⟨by (refine pw_of ?_; (repeat' (first | exact trivial | apply And.intro)); all_goals (first | exact .inr rfl | exact .inr trivial | exact .inl (by kernel_rfl))), hH⟩
                      · simp (config := {contextual := true, maxSteps := 5000000}) only [go_sem, false_and, Nat.reduceAdd, Nat.reduceLT, Nat.reduceBEq, Nat.reduceSub, Nat.reduceMul, Nat.reduceLeDiff, Int.reduceToNat, Nat.reduceEqDiff, Nat.reduceMod, hye, hze, specSw, toE_at, g4, g6, g7, g8, g9, g13, g58, g59, hl, d, hw2, hs]
                        exact ⟨by (refine pw_of ?_; (repeat' (first | exact trivial | apply And.intro)); all_goals (first | exact .inr rfl | exact .inr trivial | exact .inl (by kernel_rfl))), j - 1, by omega, i + 1, rfl, hH, by omega, by rw [hd, hdr, hs]; rfl⟩
                    · have d : decide ((i : Int) < (a.kids.length : Int)) = false := by simp; omega
                      have hz : E.swpL a.kids u v own b.kids true = true := by rw [hd, List.drop_of_length_le (show a.kids.length ≤ i by omega)]; simp [E.swpL]
                      simp (config := {contextual := true, maxSteps := 5000000}) only [go_sem, false_and, Nat.reduceAdd, Nat.reduceLT, Nat.reduceBEq, Nat.reduceSub, Nat.reduceMul, Nat.reduceLeDiff, Int.reduceToNat, Nat.reduceEqDiff, Nat.reduceMod, specSw, g4, g6, g7, g8, g9, g13, g58, g59, hl, d, hz]
                      exact hH
                · have hsw : a.swp u v own b true = E.swpL a.kids u v own b.kids false := by rw [hsw, hc0, hq, hh]; simp [hk, hid, hln]
                  rw [hsw]
                  simp (config := {contextual := true, maxSteps := 5000000}) only [go_sem, false_and, Nat.reduceAdd, Nat.reduceLT, Nat.reduceBEq, Nat.reduceSub, Nat.reduceMul, Nat.reduceLeDiff, Int.reduceToNat, Nat.reduceEqDiff, Nat.reduceMod, ht, hl, specSw, toE_at, h1, h2, hk1, hi1, hn1, hq, hh]
                  refine ⟨hok, hb, ho, ?_⟩
                  refine loop_inv tabOk specSw_ok mixed [] (fun j x' => ∃ i : Nat, x'.tmps.length = 79 ∧ x'.tmps.getD 4 AV.undef = .int .u64 (own : Int) ∧ x'.tmps.getD 6 AV.undef = .sptr [.int .i64 a.kind, .int .i64 a.id, .list .none (a.kids.map E.cells)] ∧ x'.tmps.getD 7 AV.undef = .sptr [.int .i64 b.kind, .int .i64 b.id, .list .none (b.kids.map E.cells)] ∧ x'.tmps.getD 8 AV.undef = .sptr [.int .i64 u.kind, .int .i64 u.id, .list .none (u.kids.map E.cells)] ∧ x'.tmps.getD 9 AV.undef = .sptr [.int .i64 v.kind, .int .i64 v.id, .list .none (v.kids.map E.cells)] ∧ x'.tmps.getD 13 AV.undef = .bool false ∧ x'.tmps.getD 58 AV.undef = .int .i64 a.kids.length ∧ x'.tmps.getD 59 AV.undef = .int .i64 i ∧ H.Le x'.H ∧ i + j = a.kids.length ∧ E.swpL a.kids u v own b.kids false = E.swpL (a.kids.drop i) u v own (b.kids.drop i) false) a.kids.length ⟨0, ?_⟩ ?_
                  · simp (config := {contextual := true, maxSteps := 5000000}) only [go_sem, false_and, Nat.reduceAdd, Nat.reduceLT, Nat.reduceBEq, Nat.reduceSub, Nat.reduceMul, Nat.reduceLeDiff, Int.reduceToNat, Nat.reduceEqDiff, Nat.reduceMod, ht, hl]
                    ((repeat' apply And.intro) <;> first | rfl | exact Hp.Le.refl _ | omega)
                  · rintro j ⟨t, m, H'⟩ ⟨i, hl, g4, g6, g7, g8, g9, g13, g58, g59, hH, hij, hd⟩
                    simp only at hl g4 g6 g7 g8 g9 g13 g58 g59 hH
                    by_cases hi : i < a.kids.length
                    · have d : decide ((i : Int) < (a.kids.length : Int)) = true := by simp [hi]
                      have hw2 : IntKind.i64.wrap ((i : Int) + 1) = ((i + 1 : Nat) : Int) := by rw [wrap_i64] <;> omega
                      obtain ⟨y, hy, hye⟩ := E.kid a hi
                      obtain ⟨z, hz, hze⟩ := E.kid b (i := i) (by omega)
                      have hdr := swpL_drop u v own false hy hz
                      simp (config := {contextual := true, maxSteps := 5000000}) only [go_sem, false_and, Nat.reduceAdd, Nat.reduceLT, Nat.reduceBEq, Nat.reduceSub, Nat.reduceMul, Nat.reduceLeDiff, Int.reduceToNat, Nat.reduceEqDiff, Nat.reduceMod, hye, hze, specSw, toE_at, g4, g6, g7, g8, g9, g13, g58, g59, hl, d, hw2]
                      refine ⟨by kernel_rfl, ⟨by omega, by omega⟩, ⟨by omega, by omega⟩, ?_⟩
                      refine callK_intro (ih y (by have := E.kid_sz hy; omega) (E.ok_kid hok hy) w0 _ _ z (E.ok_kid hb hz) own false ho) ?_
                      cases hs : y.swp u v own z false
                      · have hz : E.swpL a.kids u v own b.kids false = false := by rw [hd, hdr, hs]; rfl
                        simp (config := {contextual := true, maxSteps := 5000000}) only [go_sem, false_and, Nat.reduceAdd, Nat.reduceLT, Nat.reduceBEq, Nat.reduceSub, Nat.reduceMul, Nat.reduceLeDiff, Int.reduceToNat, Nat.reduceEqDiff, Nat.reduceMod, hye, hze, specSw, toE_at, g4, g6, g7, g8, g9, g13, g58, g59, hl, d, hw2, hs, hz]
                        exact ⟨by (refine pw_of ?_; (repeat' (first | exact trivial | apply And.intro)); all_goals (first | exact .inr rfl | exact .inr trivial | exact .inl (by kernel_rfl))), hH⟩
                      · simp (config := {contextual := true, maxSteps := 5000000}) only [go_sem, false_and, Nat.reduceAdd, Nat.reduceLT, Nat.reduceBEq, Nat.reduceSub, Nat.reduceMul, Nat.reduceLeDiff, Int.reduceToNat, Nat.reduceEqDiff, Nat.reduceMod, hye, hze, specSw, toE_at, g4, g6, g7, g8, g9, g13, g58, g59, hl, d, hw2, hs]
                        exact ⟨by (refine pw_of ?_; (repeat' (first | exact trivial | apply And.intro)); all_goals (first | exact .inr rfl | exact .inr trivial | exact .inl (by kernel_rfl))), j - 1, by omega, i + 1, rfl, hH, by omega, by rw [hd, hdr, hs]; rfl⟩
                    · have d : decide ((i : Int) < (a.kids.length : Int)) = false := by simp; omega
                      have hz : E.swpL a.kids u v own b.kids false = true := by rw [hd, List.drop_of_length_le (show a.kids.length ≤ i by omega)]; simp [E.swpL]
                      simp (config := {contextual := true, maxSteps := 5000000}) only [go_sem, false_and, Nat.reduceAdd, Nat.reduceLT, Nat.reduceBEq, Nat.reduceSub, Nat.reduceMul, Nat.reduceLeDiff, Int.reduceToNat, Nat.reduceEqDiff, Nat.reduceMod, specSw, g4, g6, g7, g8, g9, g13, g58, g59, hl, d, hz]
                      exact hH
            · have hn1 : ((a.kids.length : Int) != (b.kids.length : Int)) = true := by rw [bne_iff_ne]; omega
              have hz : a.swp u v own b true = false := by rw [hsw, hc0]; simp [hln]
              rw [hz]
              simp (config := {contextual := true, maxSteps := 5000000}) only [go_sem, false_and, Nat.reduceAdd, Nat.reduceLT, Nat.reduceBEq, Nat.reduceSub, Nat.reduceMul, Nat.reduceLeDiff, Int.reduceToNat, Nat.reduceEqDiff, Nat.reduceMod, ht, hl, specSw, toE_at, h1, h2, hk1, hi1, hn1]
              try exact ⟨hok, hb, Weak.refl _⟩
              try exact ⟨hok, hb⟩
          · have hi1 : (a.id != b.id) = true := by simpa using hid
            have hz : a.swp u v own b true = false := by rw [hsw, hc0]; simp [hid]
            rw [hz]
            simp (config := {contextual := true, maxSteps := 5000000}) only [go_sem, false_and, Nat.reduceAdd, Nat.reduceLT, Nat.reduceBEq, Nat.reduceSub, Nat.reduceMul, Nat.reduceLeDiff, Int.reduceToNat, Nat.reduceEqDiff, Nat.reduceMod, ht, hl, specSw, toE_at, h1, h2, hk1, hi1]
            try exact ⟨hok, hb⟩
        · have hk1 : (a.kind != b.kind) = true := by simpa using hk
          have hz : a.swp u v own b true = false := by rw [hsw, hc0]; simp [hk]
          rw [hz]
          simp (config := {contextual := true, maxSteps := 5000000}) only [go_sem, false_and, Nat.reduceAdd, Nat.reduceLT, Nat.reduceBEq, Nat.reduceSub, Nat.reduceMul, Nat.reduceLeDiff, Int.reduceToNat, Nat.reduceEqDiff, Nat.reduceMod, ht, hl, specSw, toE_at, h1, h2, hk1]
          try exact ⟨hok, hb⟩
      · have hz : a.swp u v own b true = true := by rw [hsw, h1, h2]; rfl
        rw [hz]
        simp (config := {contextual := true, maxSteps := 5000000}) only [go_sem, false_and, Nat.reduceAdd, Nat.reduceLT, Nat.reduceBEq, Nat.reduceSub, Nat.reduceMul, Nat.reduceLeDiff, Int.reduceToNat, Nat.reduceEqDiff, Nat.reduceMod, ht, hl, specSw, toE_at, h1, h2]
        exact ⟨hok, hb⟩
theorem swap07_ok (u v : E) : ∀ (N : Nat) (a : E), a.sz < N → a.ok → ∀ (w0 : Base) (k : List Nat) (H : Hp) (b : E), b.ok → ∀ (own : Nat) (may : Bool), own < 18446744073709551616 → CallAt Tryz.prog w0 k 111 [a.av, b.av, u.av, v.av, .int .u64 (own : Int), .bool may] H H (.bool (a.swp u v own b may))
  | 0, a, h => by omega
  | N + 1, a, h => fun hok w0 k H b hb own may ho => swap07_step u v N (swap07_ok u v N) a h hok w0 k H b hb own may ho
end Go.Proofs.YtkdendaohlnlcaaGreat.Av

/- What the reference of layer 7 makes of parts. No condition. -/
namespace Go.Proofs.YtkdendaohlnlcaaGreat.Av
set_option linter.unusedVariables false
set_option linter.unusedSimpArgs false
set_option maxRecDepth 4000
set_option maxHeartbeats 1000000
variable {w0 : Base} {k : List Nat} {H : Hp}
def specSd : Spec := (((Spec.no.add 108 (sp3 dE dI dE (fun u _ a => u.ok ∧ a.ok) fun u x a => .tup [.bool (freeForE u x a), .int .i64 (caughtE u x a).2])).add 107 (sp2 dI dE (fun _ e => e.ok) fun x e => .bool (hasB e.fv x))).add 110 (sp1 dE (fun e => e.ok) fun e => .int .u64 ((e.vs : Nat) : Int))).add 109 (sp2 dW dW (fun a b => a < 18446744073709551616 ∧ b < 18446744073709551616) fun a b => .int .u64 ((a ||| b : Nat) : Int))
theorem specSd_ok : SpecOk Tryz.prog w0 specSd := (((Spec.no_ok.add (sp3_ok fun u x a h k H => freeFor04_call u x a h.1 h.2)).add (sp2_ok fun x e h k H => isFree_call x e h)).add (sp1_ok fun e h k H => ofVars_call e h)).add (sp2_ok fun a b h k H => union_call a b h.1 h.2)
theorem freeFor_cau {a b : E} {x : Int} (hx : 0 ≤ x ∧ x ≤ 63) (ha : a.right = 0) (hb : b.right = 0) (hbt : b.term = true) : freeForE b x a = (a.cau b.vs x == 0) := by
  have hc : caughtE b x a = (a.cau b.vs x, 0) := by
    unfold caughtE
    rw [if_pos hx, if_pos hb, if_pos ha, if_pos hbt]
  unfold freeForE
  rw [hc]
  cases h : a.cau b.vs x == 0 <;> simp_all
theorem side07_call (n : Int) (l : List E) (x : Int) (hx : 0 ≤ x ∧ x ≤ 63) (hp : PartsK n l) : CallAt Tryz.prog w0 k 84 [.int .i64 n, .list .none (l.map E.cells), .int .i64 x] H H (.bool (sideE n l x)) := by
  refine callAt tabOk specSd_ok mixed Tryz.func84 rfl rfl Tryz.results84 Tryz.ntmps84 (by simp) [] ?_
  intro hfr t hl ht
  simp only [At, Nat.reduceAdd, List.cons_append, List.nil_append] at ht
  have fN : ∀ (a b : Nat) z ty, H ⟨z, a :: b :: k, ty⟩ = none := fun a b z ty => hfr _ (sfx2 _ _ _)
  rcases hp with ⟨rfl, a, b, rfl, ha, hb⟩ | ⟨rfl, a, b, c, rfl, ha, hb, hc⟩ | ⟨rfl, a, b, rfl, ha, hb⟩ | ⟨rfl, a, b, rfl, ha, hb⟩ | ⟨rfl, a, b, rfl, ha, hb⟩ | ⟨rfl, a, rfl, ha⟩ | ⟨rfl, a, b, c, d, rfl, ha, hb, hc, hd⟩
  · simp (config := {contextual := true, maxSteps := 5000000}) only [go_sem, false_and, Nat.reduceAdd, Nat.reduceLT, Nat.reduceBEq, Nat.reduceSub, Nat.reduceMul, Nat.reduceLeDiff, Int.reduceToNat, Nat.reduceEqDiff, Nat.reduceMod, ht, hl, Int.reduceBEq]
    rfl
  · simp (config := {contextual := true, maxSteps := 5000000}) only [go_sem, false_and, Nat.reduceAdd, Nat.reduceLT, Nat.reduceBEq, Nat.reduceSub, Nat.reduceMul, Nat.reduceLeDiff, Int.reduceToNat, Nat.reduceEqDiff, Nat.reduceMod, ht, hl, Int.reduceBEq]
    rfl
  · simp (config := {contextual := true, maxSteps := 5000000}) only [go_sem, false_and, Nat.reduceAdd, Nat.reduceLT, Nat.reduceBEq, Nat.reduceSub, Nat.reduceMul, Nat.reduceLeDiff, Int.reduceToNat, Nat.reduceEqDiff, Nat.reduceMod, ht, hl, Int.reduceBEq]
    rfl
  · have hf := freeFor_cau hx ha.1 hb.1 hb.2
    have hs : sideE 4 [a, b] x = freeForE b x a := hf.symm
    have hao := sh_ok a (right_sh' ha.1)
    have hbo := sh_ok b (right_sh' hb.1)
    rw [hs]
    simp only [List.map_cons, List.map_nil, E.cells_eq] at ht
    simp (config := {contextual := true, maxSteps := 5000000}) only [go_sem, false_and, Nat.reduceAdd, Nat.reduceLT, Nat.reduceBEq, Nat.reduceSub, Nat.reduceMul, Nat.reduceLeDiff, Int.reduceToNat, Nat.reduceEqDiff, Nat.reduceMod, ht, hl, Int.reduceBEq, specSd, toE_at]
    exact ⟨by kernel_rfl, by decide, by decide, ⟨hbo, hao⟩, List.Pairwise.nil⟩
  · have hs : sideE 5 [a, b] x = !hasB a.fv x := rfl
    have hao := sh_ok a (right_sh' ha.1)
    rw [hs]
    simp only [List.map_cons, List.map_nil, E.cells_eq] at ht
    simp (config := {contextual := true, maxSteps := 5000000}) only [go_sem, false_and, Nat.reduceAdd, Nat.reduceLT, Nat.reduceBEq, Nat.reduceSub, Nat.reduceMul, Nat.reduceLeDiff, Int.reduceToNat, Nat.reduceEqDiff, Nat.reduceMod, ht, hl, Int.reduceBEq, specSd, toE_at]
    exact ⟨by decide, hao⟩
  · simp (config := {contextual := true, maxSteps := 5000000}) only [go_sem, false_and, Nat.reduceAdd, Nat.reduceLT, Nat.reduceBEq, Nat.reduceSub, Nat.reduceMul, Nat.reduceLeDiff, Int.reduceToNat, Nat.reduceEqDiff, Nat.reduceMod, ht, hl, Int.reduceBEq]
    rfl
  · have hs : sideE 7 [a, b, c, d] x = E.swp c a b (a.vs ||| b.vs) d true := rfl
    have hao := sh_ok a (right_sh' ha.1)
    have hbo := sh_ok b (right_sh' hb.1)
    have hco := sh_ok c (right_sh' hc.1)
    have hdo := sh_ok d (right_sh' hd.1)
    rw [hs]
    simp only [List.map_cons, List.map_nil, E.cells_eq] at ht
    simp (config := {contextual := true, maxSteps := 5000000}) only [go_sem, false_and, Nat.reduceAdd, Nat.reduceLT, Nat.reduceBEq, Nat.reduceSub, Nat.reduceMul, Nat.reduceLeDiff, Int.reduceToNat, Nat.reduceEqDiff, Nat.reduceMod, ht, hl, Int.reduceBEq, specSd, toE_at]
    refine ⟨by kernel_rfl, by decide, hao, by decide, hbo, ⟨a.vs_lt, b.vs_lt⟩, List.Pairwise.nil, by kernel_rfl, by decide, by decide, by decide, by decide, ?_⟩
    refine callK_intro (swap07_ok a b (c.sz + 1) c (Nat.lt_succ_self _) hco w0 _ _ d hdo _ true (or_lt a.vs_lt b.vs_lt)) ?_
    simp (config := {contextual := true, maxSteps := 5000000}) only [go_sem, false_and, Nat.reduceAdd, Nat.reduceLT, Nat.reduceBEq, Nat.reduceSub, Nat.reduceMul, Nat.reduceLeDiff, Int.reduceToNat, Nat.reduceEqDiff, Nat.reduceMod, ht, hl, Int.reduceBEq, specSd, toE_at]
    (refine pw_of ?_; (repeat' (first | exact trivial | apply And.intro)); all_goals (first | exact .inr rfl | exact .inr trivial | exact .inl (by kernel_rfl)))
def mdA : Option E → AV
  | some e => .agg [.bool true, .int .i64 e.kind, .int .i64 e.id, .list .none (e.kids.map E.cells), .int .i64 0]
  | none => .agg [.bool false, .int .i64 0, .int .i64 0, .list .none [], .int .i64 0]
theorem mdN_weak : Weak (.agg [.bool false, .int .i64 0, .int .i64 0, .list .nil [], .int .i64 0]) (mdA none) := WeakL.agg ⟨_, _, rfl, Weak.refl _, _, _, rfl, Weak.refl _, _, _, rfl, Weak.refl _, _, _, rfl, nil_weak, _, _, rfl, Weak.refl _, rfl⟩
def specMd : Spec := (((((Spec.no.add 49 (sp1 dE (fun _ => True) fun e => (nt e).av)).add 50 (sp2 dE dE (fun _ _ => True) fun a b => (im a b).av)).add 34 (sp2 dI dE (fun _ _ => True) fun n a => (al n a).av)).add 113 (sp2 dE dE (fun _ _ => True) fun a b => (eqE a b).av)).add
  112 (sp3 dE dI dE (fun a _ u => a.right = 0 ∧ u.right = 0) fun a x u => wiA (wiE a x u 1000))).add 19 (sp1 dE (fun e => e.sh = true) fun e => e.av)
theorem specMd_ok : SpecOk Tryz.prog w0 specMd := (((((Spec.no_ok.add (sp1_ok fun e _ k H => not07_call e)).add (sp2_ok fun a b _ k H => imp07_call a b)).add (sp2_ok fun n a _ k H => all07_call n a)).add (sp2_ok fun a b _ k H => eq07_call a b)).add (sp3_ok fun a x u h k H => into_call a x u h.1 h.2)).add (sp1_ok fun e h k H => copy_call e h)
theorem made07_call (n : Int) (l : List E) (x : Int) (hx : 0 ≤ x ∧ x ≤ 63) (hp : PartsK n l) : CallAt Tryz.prog w0 k 85 [.int .i64 n, .list .none (l.map E.cells), .int .i64 x] H H (mdA (madeE n l x)) := by
  refine callAt tabOk specMd_ok mixed Tryz.func85 rfl rfl Tryz.results85 Tryz.ntmps85 (by simp) [] ?_
  intro hfr t hl ht
  simp only [At, Nat.reduceAdd, List.cons_append, List.nil_append] at ht
  have fN : ∀ (a b : Nat) z ty, H ⟨z, a :: b :: k, ty⟩ = none := fun a b z ty => hfr _ (sfx2 _ _ _)
  have hsh := (raw_sh hx hp).1
  rcases hp with ⟨rfl, a, b, rfl, ha, hb⟩ | ⟨rfl, a, b, c, rfl, ha, hb, hc⟩ | ⟨rfl, a, b, rfl, ha, hb⟩ | ⟨rfl, a, b, rfl, ha, hb⟩ | ⟨rfl, a, b, rfl, ha, hb⟩ | ⟨rfl, a, rfl, ha⟩ | ⟨rfl, a, b, c, d, rfl, ha, hb, hc, hd⟩
  · have hm : madeE 1 [a, b] x = some (im a (im b a)) := rfl
    have hsh : (im a (im b a)).sh = true := hsh
    rw [hm]
    simp only [List.map_cons, List.map_nil, E.cells_eq] at ht
    simp (config := {contextual := true, maxSteps := 5000000}) only [go_sem, false_and, Nat.reduceAdd, Nat.reduceLT, Nat.reduceBEq, Nat.reduceSub, Nat.reduceMul, Nat.reduceLeDiff, Int.reduceToNat, Nat.reduceEqDiff, Nat.reduceMod, ht, hl, Int.reduceBEq, specMd, toE_at, resOne, mdA]
    (repeat' apply And.intro) <;> first | with_reducible exact hsh | with_reducible exact ha.1 | with_reducible exact hb.1 | with_reducible exact mdN_weak | ((with_reducible (show drawOk _ = true)); kernel_rfl) | omega | (refine pw_of ?_; (repeat' (first | exact trivial | apply And.intro)); all_goals (first | exact .inr rfl | exact .inr trivial | exact .inl (by kernel_rfl))) | (repeat (first | exact Hp.Le.refl _ | refine Hp.le_upd ?_ (fN _ _ _ _)))
  · have hm : madeE 2 [a, b, c] x = some (im (im a (im b c)) (im (im a b) (im a c))) := rfl
    have hsh : (im (im a (im b c)) (im (im a b) (im a c))).sh = true := hsh
    rw [hm]
    simp only [List.map_cons, List.map_nil, E.cells_eq] at ht
    simp (config := {contextual := true, maxSteps := 5000000}) only [go_sem, false_and, Nat.reduceAdd, Nat.reduceLT, Nat.reduceBEq, Nat.reduceSub, Nat.reduceMul, Nat.reduceLeDiff, Int.reduceToNat, Nat.reduceEqDiff, Nat.reduceMod, ht, hl, Int.reduceBEq, specMd, toE_at, resOne, mdA]
    (repeat' apply And.intro) <;> first | with_reducible exact hsh | with_reducible exact ha.1 | with_reducible exact hb.1 | with_reducible exact mdN_weak | ((with_reducible (show drawOk _ = true)); kernel_rfl) | omega | (refine pw_of ?_; (repeat' (first | exact trivial | apply And.intro)); all_goals (first | exact .inr rfl | exact .inr trivial | exact .inl (by kernel_rfl))) | (repeat (first | exact Hp.Le.refl _ | refine Hp.le_upd ?_ (fN _ _ _ _)))
  · have hm : madeE 3 [a, b] x = some (im (im (nt a) (nt b)) (im b a)) := rfl
    have hsh : (im (im (nt a) (nt b)) (im b a)).sh = true := hsh
    rw [hm]
    simp only [List.map_cons, List.map_nil, E.cells_eq] at ht
    simp (config := {contextual := true, maxSteps := 5000000}) only [go_sem, false_and, Nat.reduceAdd, Nat.reduceLT, Nat.reduceBEq, Nat.reduceSub, Nat.reduceMul, Nat.reduceLeDiff, Int.reduceToNat, Nat.reduceEqDiff, Nat.reduceMod, ht, hl, Int.reduceBEq, specMd, toE_at, resOne, mdA]
    (repeat' apply And.intro) <;> first | with_reducible exact hsh | with_reducible exact ha.1 | with_reducible exact hb.1 | with_reducible exact mdN_weak | ((with_reducible (show drawOk _ = true)); kernel_rfl) | omega | (refine pw_of ?_; (repeat' (first | exact trivial | apply And.intro)); all_goals (first | exact .inr rfl | exact .inr trivial | exact .inl (by kernel_rfl))) | (repeat (first | exact Hp.Le.refl _ | refine Hp.le_upd ?_ (fN _ _ _ _)))
  · have hsh : (im (al x a) (a.put x b)).sh = true := hsh
    by_cases hz : 1000 < (a.put x b).sz
    · have hm : madeE 4 [a, b] x = none := by
        unfold madeE
        rw [if_pos ⟨rfl, hz⟩]
      have hw : wiE a x b 1000 = none := by
        rw [wiE, if_neg (by omega)]
      rw [hm]
      simp only [List.map_cons, List.map_nil, E.cells_eq] at ht
      simp (config := {contextual := true, maxSteps := 5000000}) only [go_sem, false_and, Nat.reduceAdd, Nat.reduceLT, Nat.reduceBEq, Nat.reduceSub, Nat.reduceMul, Nat.reduceLeDiff, Int.reduceToNat, Nat.reduceEqDiff, Nat.reduceMod, ht, hl, Int.reduceBEq, specMd, toE_at, resOne, hw, wiA]
      (repeat' apply And.intro) <;> first | with_reducible exact hsh | with_reducible exact ha.1 | with_reducible exact hb.1 | with_reducible exact mdN_weak | ((with_reducible (show drawOk _ = true)); kernel_rfl) | omega | (refine pw_of ?_; (repeat' (first | exact trivial | apply And.intro)); all_goals (first | exact .inr rfl | exact .inr trivial | exact .inl (by kernel_rfl))) | (repeat (first | exact Hp.Le.refl _ | refine Hp.le_upd ?_ (fN _ _ _ _)))
    · have hm : madeE 4 [a, b] x = some (im (al x a) (a.put x b)) := by
        unfold madeE
        rw [if_neg (fun h => hz h.2)]
        rfl
      have hw : wiE a x b 1000 = some (a.put x b) := by
        rw [wiE, if_pos (by omega)]
      rw [hm]
      clear hm hz
      generalize a.put x b = w at *
      generalize hzz : im (al x a) w = z at *
      simp only [List.map_cons, List.map_nil, E.cells_eq] at ht
      simp (config := {contextual := true, maxSteps := 5000000}) only [go_sem, false_and, Nat.reduceAdd, Nat.reduceLT, Nat.reduceBEq, Nat.reduceSub, Nat.reduceMul, Nat.reduceLeDiff, Int.reduceToNat, Nat.reduceEqDiff, Nat.reduceMod, ht, hl, Int.reduceBEq, specMd, toE_at, resOne, hw, wiA, mdA, hzz]
      (repeat' apply And.intro) <;> first | with_reducible exact hsh | with_reducible exact ha.1 | with_reducible exact hb.1 | with_reducible exact mdN_weak | ((with_reducible (show drawOk _ = true)); kernel_rfl) | omega | (refine pw_of ?_; (repeat' (first | exact trivial | apply And.intro)); all_goals (first | exact .inr rfl | exact .inr trivial | exact .inl (by kernel_rfl))) | (repeat (first | exact Hp.Le.refl _ | refine Hp.le_upd ?_ (fN _ _ _ _)))
  · have hm : madeE 5 [a, b] x = some (im (al x (im a b)) (im a (al x b))) := rfl
    have hsh : (im (al x (im a b)) (im a (al x b))).sh = true := hsh
    rw [hm]
    simp only [List.map_cons, List.map_nil, E.cells_eq] at ht
    simp (config := {contextual := true, maxSteps := 5000000}) only [go_sem, false_and, Nat.reduceAdd, Nat.reduceLT, Nat.reduceBEq, Nat.reduceSub, Nat.reduceMul, Nat.reduceLeDiff, Int.reduceToNat, Nat.reduceEqDiff, Nat.reduceMod, ht, hl, Int.reduceBEq, specMd, toE_at, resOne, mdA]
    (repeat' apply And.intro) <;> first | with_reducible exact hsh | with_reducible exact ha.1 | with_reducible exact hb.1 | with_reducible exact mdN_weak | ((with_reducible (show drawOk _ = true)); kernel_rfl) | omega | (refine pw_of ?_; (repeat' (first | exact trivial | apply And.intro)); all_goals (first | exact .inr rfl | exact .inr trivial | exact .inl (by kernel_rfl))) | (repeat (first | exact Hp.Le.refl _ | refine Hp.le_upd ?_ (fN _ _ _ _)))
  · have hm : madeE 6 [a] x = some (eqE a a) := rfl
    have hsh : (eqE a a).sh = true := hsh
    rw [hm]
    simp only [List.map_cons, List.map_nil, E.cells_eq] at ht
    simp (config := {contextual := true, maxSteps := 5000000}) only [go_sem, false_and, Nat.reduceAdd, Nat.reduceLT, Nat.reduceBEq, Nat.reduceSub, Nat.reduceMul, Nat.reduceLeDiff, Int.reduceToNat, Nat.reduceEqDiff, Nat.reduceMod, ht, hl, Int.reduceBEq, specMd, toE_at, resOne, mdA]
    (repeat' apply And.intro) <;> first | with_reducible exact hsh | with_reducible exact ha.1 | with_reducible exact hb.1 | with_reducible exact mdN_weak | ((with_reducible (show drawOk _ = true)); kernel_rfl) | omega | (refine pw_of ?_; (repeat' (first | exact trivial | apply And.intro)); all_goals (first | exact .inr rfl | exact .inr trivial | exact .inl (by kernel_rfl))) | (repeat (first | exact Hp.Le.refl _ | refine Hp.le_upd ?_ (fN _ _ _ _)))
  · have hm : madeE 7 [a, b, c, d] x = some (im (eqE a b) (im c d)) := rfl
    have hsh : (im (eqE a b) (im c d)).sh = true := hsh
    rw [hm]
    simp only [List.map_cons, List.map_nil, E.cells_eq] at ht
    simp (config := {contextual := true, maxSteps := 5000000}) only [go_sem, false_and, Nat.reduceAdd, Nat.reduceLT, Nat.reduceBEq, Nat.reduceSub, Nat.reduceMul, Nat.reduceLeDiff, Int.reduceToNat, Nat.reduceEqDiff, Nat.reduceMod, ht, hl, Int.reduceBEq, specMd, toE_at, resOne, mdA]
    (repeat' apply And.intro) <;> first | with_reducible exact hsh | with_reducible exact ha.1 | with_reducible exact hb.1 | with_reducible exact mdN_weak | ((with_reducible (show drawOk _ = true)); kernel_rfl) | omega | (refine pw_of ?_; (repeat' (first | exact trivial | apply And.intro)); all_goals (first | exact .inr rfl | exact .inr trivial | exact .inl (by kernel_rfl))) | (repeat (first | exact Hp.Le.refl _ | refine Hp.le_upd ?_ (fN _ _ _ _)))
end Go.Proofs.YtkdendaohlnlcaaGreat.Av

/- The reference of layer 7: Make, guess, Parts, Is. No condition. -/
namespace Go.Proofs.YtkdendaohlnlcaaGreat.Av
set_option linter.unusedVariables false
set_option linter.unusedSimpArgs false
set_option maxRecDepth 4000
set_option maxHeartbeats 1000000
variable {w0 : Base} {k : List Nat} {H : Hp}
theorem sortsE_len (n : Int) : (sortsE n).length ≤ 4 := by
  unfold sortsE
  repeat' split
  all_goals simp
def prA (l : List E) (x : Int) : AV := .agg [.list .none (l.map E.cells), .int .i64 x]
def specMk : Spec := ((Spec.no.add 82 (sp1 dI (fun _ => True) fun n => .str (sortB (sortsE n)))).add 83 (sp1 dI (fun _ => True) fun n => .bool (boundE n))).add 47 (sp1 dE (fun e => e.ok) fun e => .int .i64 e.right)
theorem specMk_ok : SpecOk Tryz.prog w0 specMk := ((Spec.no_ok.add (sp1_ok fun n _ k H => sorts_call n)).add (sp1_ok fun n _ k H => bound07_call n)).add (sp1_ok fun e h k H => right02_call e h)
theorem made_sh {n x : Int} {l : List E} (hx : 0 ≤ x ∧ x ≤ 63) (hp : PartsK n l) {e : E} (h : madeE n l x = some e) : e.sh = true := by
  unfold madeE at h
  split at h
  · cases h
  · cases h
    exact (raw_sh hx hp).1
def mkT (n : Int) (l : List E) (x : Int) : E × Int := if sortedC l (sortsE n) ≠ 0 then (noE, sortedC l (sortsE n)) else if sideE n l x = false then (noE, 72)
  else match madeE n l x with
    | none => (noE, 20)
    | some e => if e.right = 0 then (e, 0) else (noE, e.right)
theorem mkR_T {n x : Int} {l : List E} (hk : 1 ≤ n ∧ n ≤ 7) (h3 : l.length = (sortsE n).length) (hx : 0 ≤ x ∧ x ≤ 63) (hb : boundE n = true ∨ x = 0) : mkR n l x = mkT n l x := by
  rw [mkR, if_neg (by omega), if_neg (fun h => h ⟨h3, hx, hb⟩)]
  rfl
theorem make07_call (n : Int) (l : List E) (x : Int) (hok : ∀ e ∈ l, e.ok) : CallAt Tryz.prog w0 k 70 [.int .i64 n, prA l x] H H (.tup [(mkR n l x).1.av, .int .i64 (mkR n l x).2]) := by
  refine callAt tabOk specMk_ok mixed Tryz.func70 rfl rfl Tryz.results70 Tryz.ntmps70 (by simp) [] ?_
  intro hfr t hl ht
  simp only [At, Nat.reduceAdd, List.cons_append, List.nil_append] at ht
  have fN : ∀ (a b : Nat) z ty, H ⟨z, a :: b :: k, ty⟩ = none := fun a b z ty => hfr _ (sfx2 _ _ _)
  unfold prA at ht
  by_cases h1 : n < 1
  · have hm : mkR n l x = (noE, 70) := by rw [mkR, if_pos (by omega)]
    have d1 : decide (n < 1) = true := decide_eq_true h1
    rw [hm]
    simp (config := {contextual := true, maxSteps := 5000000}) only [go_sem, false_and, Nat.reduceAdd, Nat.reduceLT, Nat.reduceBEq, Nat.reduceSub, Nat.reduceMul, Nat.reduceLeDiff, Int.reduceToNat, Nat.reduceEqDiff, Nat.reduceMod, ht, hl, d1, specMk]
    exact ⟨tup2_weak noEw_weak, (by (repeat (first | exact Hp.Le.refl _ | refine Hp.le_upd ?_ (fN _ _ _ _))))⟩
  have d1 : decide (n < 1) = false := decide_eq_false h1
  by_cases h2 : 7 < n
  · have hm : mkR n l x = (noE, 70) := by rw [mkR, if_pos (by omega)]
    have d2 : decide (7 < n) = true := decide_eq_true h2
    rw [hm]
    simp (config := {contextual := true, maxSteps := 5000000}) only [go_sem, false_and, Nat.reduceAdd, Nat.reduceLT, Nat.reduceBEq, Nat.reduceSub, Nat.reduceMul, Nat.reduceLeDiff, Int.reduceToNat, Nat.reduceEqDiff, Nat.reduceMod, ht, hl, d1, d2, specMk]
    exact ⟨tup2_weak noEw_weak, (by (repeat (first | exact Hp.Le.refl _ | refine Hp.le_upd ?_ (fN _ _ _ _))))⟩
  have d2 : decide (7 < n) = false := decide_eq_false h2
  by_cases h3 : l.length = (sortsE n).length
  rotate_left
  · have hm : mkR n l x = (noE, 71) := by rw [mkR, if_neg (by omega), if_pos (fun h => h3 h.1)]
    have d3 : ((l.length : Int) != ((sortsE n).length : Int)) = true := by rw [bne_iff_ne]; omega
    rw [hm]
    simp (config := {contextual := true, maxSteps := 5000000}) only [go_sem, false_and, Nat.reduceAdd, Nat.reduceLT, Nat.reduceBEq, Nat.reduceSub, Nat.reduceMul, Nat.reduceLeDiff, Int.reduceToNat, Nat.reduceEqDiff, Nat.reduceMod, ht, hl, d1, d2, d3, specMk, sortB_size]
    exact ⟨tup2_weak noEw_weak, (by (repeat (first | exact Hp.Le.refl _ | refine Hp.le_upd ?_ (fN _ _ _ _))))⟩
  have d3 : ((l.length : Int) != ((sortsE n).length : Int)) = false := by rw [h3]; simp
  by_cases h4 : x < 0
  · have hm : mkR n l x = (noE, 71) := by rw [mkR, if_neg (by omega), if_pos (fun h => by omega)]
    have d4 : decide (x < 0) = true := decide_eq_true h4
    rw [hm]
    simp (config := {contextual := true, maxSteps := 5000000}) only [go_sem, false_and, Nat.reduceAdd, Nat.reduceLT, Nat.reduceBEq, Nat.reduceSub, Nat.reduceMul, Nat.reduceLeDiff, Int.reduceToNat, Nat.reduceEqDiff, Nat.reduceMod, ht, hl, d1, d2, d3, d4, specMk, sortB_size]
    exact ⟨tup2_weak noEw_weak, (by (repeat (first | exact Hp.Le.refl _ | refine Hp.le_upd ?_ (fN _ _ _ _))))⟩
  have d4 : decide (x < 0) = false := decide_eq_false h4
  by_cases h5 : 63 < x
  · have hm : mkR n l x = (noE, 71) := by rw [mkR, if_neg (by omega), if_pos (fun h => by omega)]
    have d5 : decide (63 < x) = true := decide_eq_true h5
    rw [hm]
    simp (config := {contextual := true, maxSteps := 5000000}) only [go_sem, false_and, Nat.reduceAdd, Nat.reduceLT, Nat.reduceBEq, Nat.reduceSub, Nat.reduceMul, Nat.reduceLeDiff, Int.reduceToNat, Nat.reduceEqDiff, Nat.reduceMod, ht, hl, d1, d2, d3, d4, d5, specMk, sortB_size]
    exact ⟨tup2_weak noEw_weak, (by (repeat (first | exact Hp.Le.refl _ | refine Hp.le_upd ?_ (fN _ _ _ _))))⟩
  have d5 : decide (63 < x) = false := decide_eq_false h5
  have hb : (boundE n = false ∧ (x != 0) = true) ∨ boundE n = true ∨ boundE n = false ∧ (x != 0) = false := by
    cases boundE n <;> cases (x != 0) <;> simp
  have hx : 0 ≤ x ∧ x ≤ 63 := ⟨by omega, by omega⟩
  rcases hb with ⟨h6, h7⟩ | hb
  · have hm : mkR n l x = (noE, 71) := by
      rw [mkR, if_neg (by omega), if_pos]
      rintro ⟨_, _, h | h⟩
      · rw [h6] at h
        cases h
      · rw [h] at h7
        cases h7
    rw [hm]
    simp (config := {contextual := true, maxSteps := 5000000}) only [go_sem, false_and, Nat.reduceAdd, Nat.reduceLT, Nat.reduceBEq, Nat.reduceSub, Nat.reduceMul, Nat.reduceLeDiff, Int.reduceToNat, Nat.reduceEqDiff, Nat.reduceMod, ht, hl, d1, d2, d3, d4, d5, h6, h7, specMk, sortB_size]
    exact ⟨tup2_weak noEw_weak, (by (repeat (first | exact Hp.Le.refl _ | refine Hp.le_upd ?_ (fN _ _ _ _))))⟩
  have hbx : boundE n = true ∨ x = 0 := by
    rcases hb with h | ⟨_, h⟩
    · exact .inl h
    · exact .inr (by simpa using h)
  rw [mkR_T (by omega) h3 hx hbx]
  by_cases h8 : sortedC l (sortsE n) = 0
  rotate_left
  · have d8 : (sortedC l (sortsE n) != 0) = true := by simpa using h8
    rw [mkT, if_pos h8]
    rcases hb with hb | ⟨hb, hb2⟩
    · simp (config := {contextual := true, maxSteps := 5000000}) only [go_sem, false_and, Nat.reduceAdd, Nat.reduceLT, Nat.reduceBEq, Nat.reduceSub, Nat.reduceMul, Nat.reduceLeDiff, Int.reduceToNat, Nat.reduceEqDiff, Nat.reduceMod, ht, hl, d1, d2, d3, d4, d5, specMk, sortB_size, hb]
      refine callK_intro (sorted07_call l (sortsE n) h3 (sortsE_len n) hok) ?_
      simp (config := {contextual := true, maxSteps := 5000000}) only [go_sem, false_and, Nat.reduceAdd, Nat.reduceLT, Nat.reduceBEq, Nat.reduceSub, Nat.reduceMul, Nat.reduceLeDiff, Int.reduceToNat, Nat.reduceEqDiff, Nat.reduceMod, ht, hl, d1, d2, d3, d4, d5, specMk, sortB_size, hb, d8]
      exact ⟨tup2_weak noEw_weak, (by (repeat (first | exact Hp.Le.refl _ | refine Hp.le_upd ?_ (fN _ _ _ _))))⟩
    · simp (config := {contextual := true, maxSteps := 5000000}) only [go_sem, false_and, Nat.reduceAdd, Nat.reduceLT, Nat.reduceBEq, Nat.reduceSub, Nat.reduceMul, Nat.reduceLeDiff, Int.reduceToNat, Nat.reduceEqDiff, Nat.reduceMod, ht, hl, d1, d2, d3, d4, d5, specMk, sortB_size, hb, hb2]
      refine callK_intro (sorted07_call l (sortsE n) h3 (sortsE_len n) hok) ?_
      simp (config := {contextual := true, maxSteps := 5000000}) only [go_sem, false_and, Nat.reduceAdd, Nat.reduceLT, Nat.reduceBEq, Nat.reduceSub, Nat.reduceMul, Nat.reduceLeDiff, Int.reduceToNat, Nat.reduceEqDiff, Nat.reduceMod, ht, hl, d1, d2, d3, d4, d5, specMk, sortB_size, hb, hb2, d8]
      exact ⟨tup2_weak noEw_weak, (by (repeat (first | exact Hp.Le.refl _ | refine Hp.le_upd ?_ (fN _ _ _ _))))⟩
  have d8 : (sortedC l (sortsE n) != 0) = false := by simpa using h8
  have hp := partsK (by omega) ((sortedC_zero h3).1 h8)
  rw [mkT, if_neg (by omega)]
  cases h9 : sideE n l x
  · rw [if_pos rfl]
    rcases hb with hb | ⟨hb, hb2⟩
    · simp (config := {contextual := true, maxSteps := 5000000}) only [go_sem, false_and, Nat.reduceAdd, Nat.reduceLT, Nat.reduceBEq, Nat.reduceSub, Nat.reduceMul, Nat.reduceLeDiff, Int.reduceToNat, Nat.reduceEqDiff, Nat.reduceMod, ht, hl, d1, d2, d3, d4, d5, specMk, sortB_size, hb]
      refine callK_intro (sorted07_call l (sortsE n) h3 (sortsE_len n) hok) ?_
      simp (config := {contextual := true, maxSteps := 5000000}) only [go_sem, false_and, Nat.reduceAdd, Nat.reduceLT, Nat.reduceBEq, Nat.reduceSub, Nat.reduceMul, Nat.reduceLeDiff, Int.reduceToNat, Nat.reduceEqDiff, Nat.reduceMod, ht, hl, d1, d2, d3, d4, d5, specMk, sortB_size, hb, d8]
      refine callK_intro (side07_call n l x hx hp) ?_
      simp (config := {contextual := true, maxSteps := 5000000}) only [go_sem, false_and, Nat.reduceAdd, Nat.reduceLT, Nat.reduceBEq, Nat.reduceSub, Nat.reduceMul, Nat.reduceLeDiff, Int.reduceToNat, Nat.reduceEqDiff, Nat.reduceMod, ht, hl, d1, d2, d3, d4, d5, specMk, sortB_size, hb, d8, h9]
      exact ⟨tup2_weak noEw_weak, (by (repeat (first | exact Hp.Le.refl _ | refine Hp.le_upd ?_ (fN _ _ _ _))))⟩
    · simp (config := {contextual := true, maxSteps := 5000000}) only [go_sem, false_and, Nat.reduceAdd, Nat.reduceLT, Nat.reduceBEq, Nat.reduceSub, Nat.reduceMul, Nat.reduceLeDiff, Int.reduceToNat, Nat.reduceEqDiff, Nat.reduceMod, ht, hl, d1, d2, d3, d4, d5, specMk, sortB_size, hb, hb2]
      refine callK_intro (sorted07_call l (sortsE n) h3 (sortsE_len n) hok) ?_
      simp (config := {contextual := true, maxSteps := 5000000}) only [go_sem, false_and, Nat.reduceAdd, Nat.reduceLT, Nat.reduceBEq, Nat.reduceSub, Nat.reduceMul, Nat.reduceLeDiff, Int.reduceToNat, Nat.reduceEqDiff, Nat.reduceMod, ht, hl, d1, d2, d3, d4, d5, specMk, sortB_size, hb, hb2, d8]
      refine callK_intro (side07_call n l x hx hp) ?_
      simp (config := {contextual := true, maxSteps := 5000000}) only [go_sem, false_and, Nat.reduceAdd, Nat.reduceLT, Nat.reduceBEq, Nat.reduceSub, Nat.reduceMul, Nat.reduceLeDiff, Int.reduceToNat, Nat.reduceEqDiff, Nat.reduceMod, ht, hl, d1, d2, d3, d4, d5, specMk, sortB_size, hb, hb2, d8, h9]
      exact ⟨tup2_weak noEw_weak, (by (repeat (first | exact Hp.Le.refl _ | refine Hp.le_upd ?_ (fN _ _ _ _))))⟩
  rw [if_neg (by simp)]
  cases h10 : madeE n l x with
  | none =>
    rcases hb with hb | ⟨hb, hb2⟩
    · simp (config := {contextual := true, maxSteps := 5000000}) only [go_sem, false_and, Nat.reduceAdd, Nat.reduceLT, Nat.reduceBEq, Nat.reduceSub, Nat.reduceMul, Nat.reduceLeDiff, Int.reduceToNat, Nat.reduceEqDiff, Nat.reduceMod, ht, hl, d1, d2, d3, d4, d5, specMk, sortB_size, hb]
      refine callK_intro (sorted07_call l (sortsE n) h3 (sortsE_len n) hok) ?_
      simp (config := {contextual := true, maxSteps := 5000000}) only [go_sem, false_and, Nat.reduceAdd, Nat.reduceLT, Nat.reduceBEq, Nat.reduceSub, Nat.reduceMul, Nat.reduceLeDiff, Int.reduceToNat, Nat.reduceEqDiff, Nat.reduceMod, ht, hl, d1, d2, d3, d4, d5, specMk, sortB_size, hb, d8]
      refine callK_intro (side07_call n l x hx hp) ?_
      simp (config := {contextual := true, maxSteps := 5000000}) only [go_sem, false_and, Nat.reduceAdd, Nat.reduceLT, Nat.reduceBEq, Nat.reduceSub, Nat.reduceMul, Nat.reduceLeDiff, Int.reduceToNat, Nat.reduceEqDiff, Nat.reduceMod, ht, hl, d1, d2, d3, d4, d5, specMk, sortB_size, hb, d8, h9]
      refine callK_intro (made07_call n l x hx hp) ?_
      simp (config := {contextual := true, maxSteps := 5000000}) only [go_sem, false_and, Nat.reduceAdd, Nat.reduceLT, Nat.reduceBEq, Nat.reduceSub, Nat.reduceMul, Nat.reduceLeDiff, Int.reduceToNat, Nat.reduceEqDiff, Nat.reduceMod, ht, hl, d1, d2, d3, d4, d5, specMk, sortB_size, hb, d8, h9, h10, mdA]
      exact ⟨tup2_weak noEw_weak, (by (repeat (first | exact Hp.Le.refl _ | refine Hp.le_upd ?_ (fN _ _ _ _))))⟩
    · simp (config := {contextual := true, maxSteps := 5000000}) only [go_sem, false_and, Nat.reduceAdd, Nat.reduceLT, Nat.reduceBEq, Nat.reduceSub, Nat.reduceMul, Nat.reduceLeDiff, Int.reduceToNat, Nat.reduceEqDiff, Nat.reduceMod, ht, hl, d1, d2, d3, d4, d5, specMk, sortB_size, hb, hb2]
      refine callK_intro (sorted07_call l (sortsE n) h3 (sortsE_len n) hok) ?_
      simp (config := {contextual := true, maxSteps := 5000000}) only [go_sem, false_and, Nat.reduceAdd, Nat.reduceLT, Nat.reduceBEq, Nat.reduceSub, Nat.reduceMul, Nat.reduceLeDiff, Int.reduceToNat, Nat.reduceEqDiff, Nat.reduceMod, ht, hl, d1, d2, d3, d4, d5, specMk, sortB_size, hb, hb2, d8]
      refine callK_intro (side07_call n l x hx hp) ?_
      simp (config := {contextual := true, maxSteps := 5000000}) only [go_sem, false_and, Nat.reduceAdd, Nat.reduceLT, Nat.reduceBEq, Nat.reduceSub, Nat.reduceMul, Nat.reduceLeDiff, Int.reduceToNat, Nat.reduceEqDiff, Nat.reduceMod, ht, hl, d1, d2, d3, d4, d5, specMk, sortB_size, hb, hb2, d8, h9]
      refine callK_intro (made07_call n l x hx hp) ?_
      simp (config := {contextual := true, maxSteps := 5000000}) only [go_sem, false_and, Nat.reduceAdd, Nat.reduceLT, Nat.reduceBEq, Nat.reduceSub, Nat.reduceMul, Nat.reduceLeDiff, Int.reduceToNat, Nat.reduceEqDiff, Nat.reduceMod, ht, hl, d1, d2, d3, d4, d5, specMk, sortB_size, hb, hb2, d8, h9, h10, mdA]
      exact ⟨tup2_weak noEw_weak, (by (repeat (first | exact Hp.Le.refl _ | refine Hp.le_upd ?_ (fN _ _ _ _))))⟩
  | some e =>
    have hs := sh_ok e (made_sh hx hp h10)
    simp only
    by_cases h11 : e.right = 0
    · have d11 : (e.right != 0) = false := by simpa using h11
      rw [if_pos h11]
      rcases hb with hb | ⟨hb, hb2⟩
      · simp (config := {contextual := true, maxSteps := 5000000}) only [go_sem, false_and, Nat.reduceAdd, Nat.reduceLT, Nat.reduceBEq, Nat.reduceSub, Nat.reduceMul, Nat.reduceLeDiff, Int.reduceToNat, Nat.reduceEqDiff, Nat.reduceMod, ht, hl, d1, d2, d3, d4, d5, specMk, sortB_size, hb]
        refine callK_intro (sorted07_call l (sortsE n) h3 (sortsE_len n) hok) ?_
        simp (config := {contextual := true, maxSteps := 5000000}) only [go_sem, false_and, Nat.reduceAdd, Nat.reduceLT, Nat.reduceBEq, Nat.reduceSub, Nat.reduceMul, Nat.reduceLeDiff, Int.reduceToNat, Nat.reduceEqDiff, Nat.reduceMod, ht, hl, d1, d2, d3, d4, d5, specMk, sortB_size, hb, d8]
        refine callK_intro (side07_call n l x hx hp) ?_
        simp (config := {contextual := true, maxSteps := 5000000}) only [go_sem, false_and, Nat.reduceAdd, Nat.reduceLT, Nat.reduceBEq, Nat.reduceSub, Nat.reduceMul, Nat.reduceLeDiff, Int.reduceToNat, Nat.reduceEqDiff, Nat.reduceMod, ht, hl, d1, d2, d3, d4, d5, specMk, sortB_size, hb, d8, h9]
        refine callK_intro (made07_call n l x hx hp) ?_
        simp (config := {contextual := true, maxSteps := 5000000}) only [go_sem, false_and, Nat.reduceAdd, Nat.reduceLT, Nat.reduceBEq, Nat.reduceSub, Nat.reduceMul, Nat.reduceLeDiff, Int.reduceToNat, Nat.reduceEqDiff, Nat.reduceMod, ht, hl, d1, d2, d3, d4, d5, specMk, sortB_size, hb, d8, h9, h10, mdA, d11, toE_at]
        exact ⟨hs, (by (repeat (first | exact Hp.Le.refl _ | refine Hp.le_upd ?_ (fN _ _ _ _))))⟩
      · simp (config := {contextual := true, maxSteps := 5000000}) only [go_sem, false_and, Nat.reduceAdd, Nat.reduceLT, Nat.reduceBEq, Nat.reduceSub, Nat.reduceMul, Nat.reduceLeDiff, Int.reduceToNat, Nat.reduceEqDiff, Nat.reduceMod, ht, hl, d1, d2, d3, d4, d5, specMk, sortB_size, hb, hb2]
        refine callK_intro (sorted07_call l (sortsE n) h3 (sortsE_len n) hok) ?_
        simp (config := {contextual := true, maxSteps := 5000000}) only [go_sem, false_and, Nat.reduceAdd, Nat.reduceLT, Nat.reduceBEq, Nat.reduceSub, Nat.reduceMul, Nat.reduceLeDiff, Int.reduceToNat, Nat.reduceEqDiff, Nat.reduceMod, ht, hl, d1, d2, d3, d4, d5, specMk, sortB_size, hb, hb2, d8]
        refine callK_intro (side07_call n l x hx hp) ?_
        simp (config := {contextual := true, maxSteps := 5000000}) only [go_sem, false_and, Nat.reduceAdd, Nat.reduceLT, Nat.reduceBEq, Nat.reduceSub, Nat.reduceMul, Nat.reduceLeDiff, Int.reduceToNat, Nat.reduceEqDiff, Nat.reduceMod, ht, hl, d1, d2, d3, d4, d5, specMk, sortB_size, hb, hb2, d8, h9]
        refine callK_intro (made07_call n l x hx hp) ?_
        simp (config := {contextual := true, maxSteps := 5000000}) only [go_sem, false_and, Nat.reduceAdd, Nat.reduceLT, Nat.reduceBEq, Nat.reduceSub, Nat.reduceMul, Nat.reduceLeDiff, Int.reduceToNat, Nat.reduceEqDiff, Nat.reduceMod, ht, hl, d1, d2, d3, d4, d5, specMk, sortB_size, hb, hb2, d8, h9, h10, mdA, d11, toE_at]
        exact ⟨hs, (by (repeat (first | exact Hp.Le.refl _ | refine Hp.le_upd ?_ (fN _ _ _ _))))⟩
    · have d11 : (e.right != 0) = true := by simpa using h11
      rw [if_neg h11]
      rcases hb with hb | ⟨hb, hb2⟩
      · simp (config := {contextual := true, maxSteps := 5000000}) only [go_sem, false_and, Nat.reduceAdd, Nat.reduceLT, Nat.reduceBEq, Nat.reduceSub, Nat.reduceMul, Nat.reduceLeDiff, Int.reduceToNat, Nat.reduceEqDiff, Nat.reduceMod, ht, hl, d1, d2, d3, d4, d5, specMk, sortB_size, hb]
        refine callK_intro (sorted07_call l (sortsE n) h3 (sortsE_len n) hok) ?_
        simp (config := {contextual := true, maxSteps := 5000000}) only [go_sem, false_and, Nat.reduceAdd, Nat.reduceLT, Nat.reduceBEq, Nat.reduceSub, Nat.reduceMul, Nat.reduceLeDiff, Int.reduceToNat, Nat.reduceEqDiff, Nat.reduceMod, ht, hl, d1, d2, d3, d4, d5, specMk, sortB_size, hb, d8]
        refine callK_intro (side07_call n l x hx hp) ?_
        simp (config := {contextual := true, maxSteps := 5000000}) only [go_sem, false_and, Nat.reduceAdd, Nat.reduceLT, Nat.reduceBEq, Nat.reduceSub, Nat.reduceMul, Nat.reduceLeDiff, Int.reduceToNat, Nat.reduceEqDiff, Nat.reduceMod, ht, hl, d1, d2, d3, d4, d5, specMk, sortB_size, hb, d8, h9]
        refine callK_intro (made07_call n l x hx hp) ?_
        simp (config := {contextual := true, maxSteps := 5000000}) only [go_sem, false_and, Nat.reduceAdd, Nat.reduceLT, Nat.reduceBEq, Nat.reduceSub, Nat.reduceMul, Nat.reduceLeDiff, Int.reduceToNat, Nat.reduceEqDiff, Nat.reduceMod, ht, hl, d1, d2, d3, d4, d5, specMk, sortB_size, hb, d8, h9, h10, mdA, d11, toE_at]
        exact ⟨hs, hs, tup2_weak noEw_weak, (by (repeat (first | exact Hp.Le.refl _ | refine Hp.le_upd ?_ (fN _ _ _ _))))⟩
      · simp (config := {contextual := true, maxSteps := 5000000}) only [go_sem, false_and, Nat.reduceAdd, Nat.reduceLT, Nat.reduceBEq, Nat.reduceSub, Nat.reduceMul, Nat.reduceLeDiff, Int.reduceToNat, Nat.reduceEqDiff, Nat.reduceMod, ht, hl, d1, d2, d3, d4, d5, specMk, sortB_size, hb, hb2]
        refine callK_intro (sorted07_call l (sortsE n) h3 (sortsE_len n) hok) ?_
        simp (config := {contextual := true, maxSteps := 5000000}) only [go_sem, false_and, Nat.reduceAdd, Nat.reduceLT, Nat.reduceBEq, Nat.reduceSub, Nat.reduceMul, Nat.reduceLeDiff, Int.reduceToNat, Nat.reduceEqDiff, Nat.reduceMod, ht, hl, d1, d2, d3, d4, d5, specMk, sortB_size, hb, hb2, d8]
        refine callK_intro (side07_call n l x hx hp) ?_
        simp (config := {contextual := true, maxSteps := 5000000}) only [go_sem, false_and, Nat.reduceAdd, Nat.reduceLT, Nat.reduceBEq, Nat.reduceSub, Nat.reduceMul, Nat.reduceLeDiff, Int.reduceToNat, Nat.reduceEqDiff, Nat.reduceMod, ht, hl, d1, d2, d3, d4, d5, specMk, sortB_size, hb, hb2, d8, h9]
        refine callK_intro (made07_call n l x hx hp) ?_
        simp (config := {contextual := true, maxSteps := 5000000}) only [go_sem, false_and, Nat.reduceAdd, Nat.reduceLT, Nat.reduceBEq, Nat.reduceSub, Nat.reduceMul, Nat.reduceLeDiff, Int.reduceToNat, Nat.reduceEqDiff, Nat.reduceMod, ht, hl, d1, d2, d3, d4, d5, specMk, sortB_size, hb, hb2, d8, h9, h10, mdA, d11, toE_at]
        exact ⟨hs, hs, tup2_weak noEw_weak, (by (repeat (first | exact Hp.Le.refl _ | refine Hp.le_upd ?_ (fN _ _ _ _))))⟩
end Go.Proofs.YtkdendaohlnlcaaGreat.Av

/- The reference of layer 7: guess. No condition. -/
namespace Go.Proofs.YtkdendaohlnlcaaGreat.Av
set_option linter.unusedVariables false
set_option linter.unusedSimpArgs false
set_option maxRecDepth 4000
set_option maxHeartbeats 1000000
variable {w0 : Base} {k : List Nat} {H : Hp}
def specGu : Spec := (Spec.no.add 80 (sp2 dE (dL cI) (fun _ p => (∀ q ∈ p, 0 ≤ q) ∧ p.length ≤ 4) fun e p => (kidE e (p.map Int.toNat)).av)).add 81 (sp3 dE dE dI (fun a _ _ => a.ok) fun a b x => .tup [((a.stR x b).getD noE).av, .bool (a.stR x b).isSome])
theorem specGu_ok : SpecOk Tryz.prog w0 specGu := (Spec.no_ok.add (sp2_ok fun e p h k H => kid07_call e p h.1 h.2)).add (sp3_ok fun a b x h k H => stands07_call a b x h)
theorem kidE_ok : ∀ (p : List Nat) (e : E), e.ok → (kidE e p).ok
  | [], e, h => h
  | i :: p, e, h => by
    rw [kidE]
    cases hk : e.kids[i]? with
    | none => exact noE_ok
    | some x => exact kidE_ok p x (E.ok_kid h hk)
theorem pr_weak {tk : Tok} {xs ys : List (List AV)} {x : Int} (h : xs = ys) : Weak (.agg [.list tk xs, .int .i64 x]) (.agg [.list .none ys, .int .i64 x]) := by
  rw [h]
  exact WeakL.agg ⟨_, _, rfl, list_weak, _, _, rfl, Weak.refl _, rfl⟩
theorem guess07_call (n : Int) (e : E) (hok : e.ok) : CallAt Tryz.prog w0 k 69 [.int .i64 n, e.av] H H (prA (guessE n e).1 (guessE n e).2) := by
  refine callAt tabOk specGu_ok mixed Tryz.func69 rfl rfl Tryz.results69 Tryz.ntmps69 (by simp) [] ?_
  intro hfr t hl ht
  simp only [At, Nat.reduceAdd, List.cons_append, List.nil_append] at ht
  have fN : ∀ (a b : Nat) z ty, H ⟨z, a :: b :: k, ty⟩ = none := fun a b z ty => hfr _ (sfx2 _ _ _)
  have hc : (n = 1 ∨ n = 2 ∨ n = 3 ∨ n = 4 ∨ n = 5 ∨ n = 6 ∨ n = 7) ∨ (n == 1) = false ∧ (n == 2) = false ∧ (n == 3) = false ∧ (n == 4) = false ∧ (n == 5) = false ∧ (n == 6) = false ∧ (n == 7) = false := by
    simp only [beq_eq_false_iff_ne]
    omega
  rcases hc with (rfl | rfl | rfl | rfl | rfl | rfl | rfl) | ⟨b1, b2, b3, b4, b5, b6, b7⟩
  · have hko := hok
    have hg : guessE 1 e = ([kidE e [0], kidE e [1, 0]], 0) := rfl
    rw [hg]
    simp (config := {contextual := true, maxSteps := 5000000}) only [go_sem, false_and, Nat.reduceAdd, Nat.reduceLT, Nat.reduceBEq, Nat.reduceSub, Nat.reduceMul, Nat.reduceLeDiff, Int.reduceToNat, Nat.reduceEqDiff, Nat.reduceMod, ht, hl, Int.reduceBEq, specGu, toE_at, prA]
    (repeat' apply And.intro) <;> first | ((with_reducible (show drawOk _ = true)); kernel_rfl) | (intro q h; simp only [or_false] at h; omega) | with_reducible exact hko | ((with_reducible (show List.Pairwise _ _)); (refine pw_of ?_; (repeat' (first | exact trivial | apply And.intro)); all_goals (first | exact .inr rfl | exact .inr trivial | exact .inl (by kernel_rfl)))) | ((with_reducible (show Weak _ _)); exact pr_weak (by first | rfl | (simp only [E.cells_eq]; rfl))) | (repeat (first | exact Hp.Le.refl _ | refine Hp.le_upd ?_ (fN _ _ _ _)))
  · have hg : guessE 2 e = ([kidE e [0, 0], kidE e [0, 1, 0], kidE e [0, 1, 1]], 0) := rfl
    have hko := hok
    rw [hg]
    simp (config := {contextual := true, maxSteps := 5000000}) only [go_sem, false_and, Nat.reduceAdd, Nat.reduceLT, Nat.reduceBEq, Nat.reduceSub, Nat.reduceMul, Nat.reduceLeDiff, Int.reduceToNat, Nat.reduceEqDiff, Nat.reduceMod, ht, hl, Int.reduceBEq, specGu, toE_at, prA]
    (repeat' apply And.intro) <;> first | ((with_reducible (show drawOk _ = true)); kernel_rfl) | (intro q h; simp only [or_false] at h; omega) | with_reducible exact hko | ((with_reducible (show List.Pairwise _ _)); (refine pw_of ?_; (repeat' (first | exact trivial | apply And.intro)); all_goals (first | exact .inr rfl | exact .inr trivial | exact .inl (by kernel_rfl)))) | ((with_reducible (show Weak _ _)); exact pr_weak (by first | rfl | (simp only [E.cells_eq]; rfl))) | (repeat (first | exact Hp.Le.refl _ | refine Hp.le_upd ?_ (fN _ _ _ _)))
  · have hg : guessE 3 e = ([kidE e [1, 1], kidE e [1, 0]], 0) := rfl
    have hko := hok
    rw [hg]
    simp (config := {contextual := true, maxSteps := 5000000}) only [go_sem, false_and, Nat.reduceAdd, Nat.reduceLT, Nat.reduceBEq, Nat.reduceSub, Nat.reduceMul, Nat.reduceLeDiff, Int.reduceToNat, Nat.reduceEqDiff, Nat.reduceMod, ht, hl, Int.reduceBEq, specGu, toE_at, prA]
    (repeat' apply And.intro) <;> first | ((with_reducible (show drawOk _ = true)); kernel_rfl) | (intro q h; simp only [or_false] at h; omega) | with_reducible exact hko | ((with_reducible (show List.Pairwise _ _)); (refine pw_of ?_; (repeat' (first | exact trivial | apply And.intro)); all_goals (first | exact .inr rfl | exact .inr trivial | exact .inl (by kernel_rfl)))) | ((with_reducible (show Weak _ _)); exact pr_weak (by first | rfl | (simp only [E.cells_eq]; rfl))) | (repeat (first | exact Hp.Le.refl _ | refine Hp.le_upd ?_ (fN _ _ _ _)))
  · have hg : guessE 4 e = ([kidE e [0, 0], ((kidE e [0, 0]).stR (kidE e [0]).id (kidE e [1])).getD (varE (kidE e [0]).id)], (kidE e [0]).id) := rfl
    have hko := kidE_ok [0, 0] e hok
    rw [hg]
    cases hs : (kidE e [0, 0]).stR (kidE e [0]).id (kidE e [1]) with
    | none =>
      simp (config := {contextual := true, maxSteps := 5000000}) only [go_sem, false_and, Nat.reduceAdd, Nat.reduceLT, Nat.reduceBEq, Nat.reduceSub, Nat.reduceMul, Nat.reduceLeDiff, Int.reduceToNat, Nat.reduceEqDiff, Nat.reduceMod, ht, hl, Int.reduceBEq, specGu, toE_at, prA, hs]
      (repeat' apply And.intro) <;> first | ((with_reducible (show drawOk _ = true)); kernel_rfl) | (intro q h; simp only [or_false] at h; omega) | with_reducible exact hko | ((with_reducible (show List.Pairwise _ _)); (refine pw_of ?_; (repeat' (first | exact trivial | apply And.intro)); all_goals (first | exact .inr rfl | exact .inr trivial | exact .inl (by kernel_rfl)))) | ((with_reducible (show Weak _ _)); exact pr_weak (by first | rfl | (simp only [E.cells_eq]; rfl))) | (repeat (first | exact Hp.Le.refl _ | refine Hp.le_upd ?_ (fN _ _ _ _)))
    | some z =>
      simp (config := {contextual := true, maxSteps := 5000000}) only [go_sem, false_and, Nat.reduceAdd, Nat.reduceLT, Nat.reduceBEq, Nat.reduceSub, Nat.reduceMul, Nat.reduceLeDiff, Int.reduceToNat, Nat.reduceEqDiff, Nat.reduceMod, ht, hl, Int.reduceBEq, specGu, toE_at, prA, hs]
      (repeat' apply And.intro) <;> first | ((with_reducible (show drawOk _ = true)); kernel_rfl) | (intro q h; simp only [or_false] at h; omega) | with_reducible exact hko | ((with_reducible (show List.Pairwise _ _)); (refine pw_of ?_; (repeat' (first | exact trivial | apply And.intro)); all_goals (first | exact .inr rfl | exact .inr trivial | exact .inl (by kernel_rfl)))) | ((with_reducible (show Weak _ _)); exact pr_weak (by first | rfl | (simp only [E.cells_eq]; rfl))) | (repeat (first | exact Hp.Le.refl _ | refine Hp.le_upd ?_ (fN _ _ _ _)))
  · have hg : guessE 5 e = ([kidE e [0, 0, 0], kidE e [0, 0, 1]], (kidE e [0]).id) := rfl
    have hko := hok
    rw [hg]
    simp (config := {contextual := true, maxSteps := 5000000}) only [go_sem, false_and, Nat.reduceAdd, Nat.reduceLT, Nat.reduceBEq, Nat.reduceSub, Nat.reduceMul, Nat.reduceLeDiff, Int.reduceToNat, Nat.reduceEqDiff, Nat.reduceMod, ht, hl, Int.reduceBEq, specGu, toE_at, prA]
    (repeat' apply And.intro) <;> first | ((with_reducible (show drawOk _ = true)); kernel_rfl) | (intro q h; simp only [or_false] at h; omega) | with_reducible exact hko | ((with_reducible (show List.Pairwise _ _)); (refine pw_of ?_; (repeat' (first | exact trivial | apply And.intro)); all_goals (first | exact .inr rfl | exact .inr trivial | exact .inl (by kernel_rfl)))) | ((with_reducible (show Weak _ _)); exact pr_weak (by first | rfl | (simp only [E.cells_eq]; rfl))) | (repeat (first | exact Hp.Le.refl _ | refine Hp.le_upd ?_ (fN _ _ _ _)))
  · have hg : guessE 6 e = ([kidE e [0]], 0) := rfl
    have hko := hok
    rw [hg]
    simp (config := {contextual := true, maxSteps := 5000000}) only [go_sem, false_and, Nat.reduceAdd, Nat.reduceLT, Nat.reduceBEq, Nat.reduceSub, Nat.reduceMul, Nat.reduceLeDiff, Int.reduceToNat, Nat.reduceEqDiff, Nat.reduceMod, ht, hl, Int.reduceBEq, specGu, toE_at, prA]
    (repeat' apply And.intro) <;> first | ((with_reducible (show drawOk _ = true)); kernel_rfl) | (intro q h; simp only [or_false] at h; omega) | with_reducible exact hko | ((with_reducible (show List.Pairwise _ _)); (refine pw_of ?_; (repeat' (first | exact trivial | apply And.intro)); all_goals (first | exact .inr rfl | exact .inr trivial | exact .inl (by kernel_rfl)))) | ((with_reducible (show Weak _ _)); exact pr_weak (by first | rfl | (simp only [E.cells_eq]; rfl))) | (repeat (first | exact Hp.Le.refl _ | refine Hp.le_upd ?_ (fN _ _ _ _)))
  · have hg : guessE 7 e = ([kidE e [0, 0], kidE e [0, 1], kidE e [1, 0], kidE e [1, 1]], 0) := rfl
    have hko := hok
    rw [hg]
    simp (config := {contextual := true, maxSteps := 5000000}) only [go_sem, false_and, Nat.reduceAdd, Nat.reduceLT, Nat.reduceBEq, Nat.reduceSub, Nat.reduceMul, Nat.reduceLeDiff, Int.reduceToNat, Nat.reduceEqDiff, Nat.reduceMod, ht, hl, Int.reduceBEq, specGu, toE_at, prA]
    (repeat' apply And.intro) <;> first | ((with_reducible (show drawOk _ = true)); kernel_rfl) | (intro q h; simp only [or_false] at h; omega) | with_reducible exact hko | ((with_reducible (show List.Pairwise _ _)); (refine pw_of ?_; (repeat' (first | exact trivial | apply And.intro)); all_goals (first | exact .inr rfl | exact .inr trivial | exact .inl (by kernel_rfl)))) | ((with_reducible (show Weak _ _)); exact pr_weak (by first | rfl | (simp only [E.cells_eq]; rfl))) | (repeat (first | exact Hp.Le.refl _ | refine Hp.le_upd ?_ (fN _ _ _ _)))
  · have hko := hok
    have hg : guessE n e = ([], 0) := by
      simp only [beq_eq_false_iff_ne] at b1 b2 b3 b4 b5 b6 b7
      simp [guessE, b1, b2, b3, b4, b5, b6, b7]
    rw [hg]
    simp (config := {contextual := true, maxSteps := 5000000}) only [go_sem, false_and, Nat.reduceAdd, Nat.reduceLT, Nat.reduceBEq, Nat.reduceSub, Nat.reduceMul, Nat.reduceLeDiff, Int.reduceToNat, Nat.reduceEqDiff, Nat.reduceMod, ht, hl, b1, b2, b3, b4, b5, b6, b7, prA]
    (repeat' apply And.intro) <;> first | ((with_reducible (show drawOk _ = true)); kernel_rfl) | (intro q h; simp only [or_false] at h; omega) | with_reducible exact hko | ((with_reducible (show List.Pairwise _ _)); (refine pw_of ?_; (repeat' (first | exact trivial | apply And.intro)); all_goals (first | exact .inr rfl | exact .inr trivial | exact .inl (by kernel_rfl)))) | ((with_reducible (show Weak _ _)); exact pr_weak (by first | rfl | (simp only [E.cells_eq]; rfl))) | (repeat (first | exact Hp.Le.refl _ | refine Hp.le_upd ?_ (fN _ _ _ _)))
end Go.Proofs.YtkdendaohlnlcaaGreat.Av

/- The reference of layer 7: Parts, Is. No condition. -/
namespace Go.Proofs.YtkdendaohlnlcaaGreat.Av
set_option linter.unusedVariables false
set_option linter.unusedSimpArgs false
set_option maxRecDepth 4000
set_option maxHeartbeats 1000000
variable {w0 : Base} {k : List Nat} {H : Hp}
theorem stR_ok (x : Int) : ∀ (N : Nat) (a b z : E), a.sz < N → b.ok → a.stR x b = some z → z.ok
  | 0, a, b, z, h, _, _ => absurd h (Nat.not_lt_zero _)
  | N + 1, a, b, z, hN, hb, h => by
    rw [E.stR_eq] at h
    split at h
    · cases h
    · split at h
      · cases h
        exact hb
      · have hk : ∀ (n : Nat) (i : Nat), i + n = a.kids.length → (∀ y, E.stRL x (a.kids.drop i) (b.kids.drop i) = some y → y.ok) := by
          intro n
          induction n with
          | zero =>
            intro i hi y hy
            rw [List.drop_of_length_le (by omega)] at hy
            simp [E.stRL] at hy
          | succ n ih =>
            intro i hi y hy
            obtain ⟨p, hp, _⟩ := E.kid a (i := i) (by omega)
            cases hq : b.kids[i]? with
            | none =>
              rw [List.getElem?_eq_none_iff] at hq
              rw [List.drop_of_length_le hq] at hy
              cases hd : a.kids.drop i <;> rw [hd] at hy <;> simp [E.stRL] at hy
            | some q =>
              rw [stRL_drop x hp hq] at hy
              split at hy
              · exact stR_ok x N p q y (by have := E.kid_sz hp; omega) (E.ok_kid hb hq) hy
              · exact ih (i + 1) (by omega) y hy
        exact hk a.kids.length 0 (by omega) z (by simpa using h)
theorem guess_ok {n : Int} {e : E} (hok : e.ok) : ∀ x ∈ (guessE n e).1, x.ok := by
  have hk := fun p => kidE_ok p e hok
  have h4 : (((kidE e [0, 0]).stR (kidE e [0]).id (kidE e [1])).getD (varE (kidE e [0]).id)).ok := by
    cases h : (kidE e [0, 0]).stR (kidE e [0]).id (kidE e [1]) with
    | none => simp [varE, E.ok, E.okL]
    | some z => exact stR_ok _ _ _ _ _ (Nat.lt_succ_self _) (hk _) h
  unfold guessE
  intro x hx
  split at hx
  · simp only [List.mem_cons, List.not_mem_nil, or_false] at hx
    rcases hx with rfl | rfl <;> exact hk _
  split at hx
  · simp only [List.mem_cons, List.not_mem_nil, or_false] at hx
    rcases hx with rfl | rfl | rfl <;> exact hk _
  split at hx
  · simp only [List.mem_cons, List.not_mem_nil, or_false] at hx
    rcases hx with rfl | rfl <;> exact hk _
  split at hx
  · simp only [List.mem_cons, List.not_mem_nil, or_false] at hx
    rcases hx with rfl | rfl
    · exact hk _
    · exact h4
  split at hx
  · simp only [List.mem_cons, List.not_mem_nil, or_false] at hx
    rcases hx with rfl | rfl <;> exact hk _
  split at hx
  · simp only [List.mem_cons, List.not_mem_nil, or_false] at hx
    rcases hx with rfl
    exact hk _
  split at hx
  · simp only [List.mem_cons, List.not_mem_nil, or_false] at hx
    rcases hx with rfl | rfl | rfl | rfl <;> exact hk _
  · simp at hx
/-- The parts that the reference finds. -/
def prR (n : Int) (e : E) : (List E × Int) × Int := if ¬ (1 ≤ n ∧ n ≤ 7) then (([], 0), 70) else if e.wantF ≠ 0 then (([], 0), e.wantF) else if (mkR n (guessE n e).1 (guessE n e).2).2 ≠ 0 then (([], 0), 73) else if (mkR n (guessE n e).1 (guessE n e).2).1.like e = false then (([], 0), 73) else (guessE n e, 0)
theorem mkR_ok {n x : Int} {l : List E} : (mkR n l x).1.ok := by
  unfold mkR
  split
  · exact noE_ok
  split
  · exact noE_ok
  rename_i hk hb
  have hb := Classical.not_not.1 hb
  split
  · exact noE_ok
  rename_i hs
  have hp := partsK (Classical.not_not.1 hk) ((sortedC_zero hb.1).1 (Classical.not_not.1 hs))
  split
  · exact noE_ok
  split
  · exact noE_ok
  rename_i e he
  split
  · exact sh_ok e (made_sh hb.2.1 hp he)
  · exact noE_ok
theorem prN_weak {i : Int} : Weak (.tup [.agg [.list .nil [], .raw (.int .i64 0)], .int .i64 i]) (.tup [prA [] 0, .int .i64 i]) := tup2_weak (pr_weak rfl)
def specPp : Spec := ((Spec.no.add 69 (sp2 dI dE (fun _ e => e.ok) fun n e => prA (guessE n e).1 (guessE n e).2)).add 29 (sp1 dE (fun e => e.ok) fun e => .int .i64 e.wantF)).add 12 (sp2 dE dE (fun a _ => a.ok) fun a b => .bool (a.like b))
theorem specPp_ok : SpecOk Tryz.prog w0 specPp := ((Spec.no_ok.add (sp2_ok fun n e h k H => guess07_call n e h)).add (sp1_ok fun e h k H => wantF_call e h)).add (sp2_ok fun a b h k H => like02_call a b h)
theorem parts07_call (n : Int) (e : E) (hok : e.ok) : CallAt Tryz.prog w0 k 51 [.int .i64 n, e.av] H H (.tup [prA (prR n e).1.1 (prR n e).1.2, .int .i64 (prR n e).2]) := by
  refine callAt tabOk specPp_ok mixed Tryz.func51 rfl rfl Tryz.results51 Tryz.ntmps51 (by simp) [] ?_
  intro hfr t hl ht
  simp only [At, Nat.reduceAdd, List.cons_append, List.nil_append] at ht
  have fN : ∀ (a b : Nat) z ty, H ⟨z, a :: b :: k, ty⟩ = none := fun a b z ty => hfr _ (sfx2 _ _ _)
  by_cases h1 : n < 1
  · have hm : prR n e = (([], 0), 70) := by rw [prR, if_pos (by omega)]
    have d1 : decide (n < 1) = true := decide_eq_true h1
    rw [hm]
    simp (config := {contextual := true, maxSteps := 5000000}) only [go_sem, false_and, Nat.reduceAdd, Nat.reduceLT, Nat.reduceBEq, Nat.reduceSub, Nat.reduceMul, Nat.reduceLeDiff, Int.reduceToNat, Nat.reduceEqDiff, Nat.reduceMod, ht, hl, d1, specPp]
    exact ⟨prN_weak, (by (repeat (first | exact Hp.Le.refl _ | refine Hp.le_upd ?_ (fN _ _ _ _))))⟩
  have d1 : decide (n < 1) = false := decide_eq_false h1
  by_cases h2 : 7 < n
  · have hm : prR n e = (([], 0), 70) := by rw [prR, if_pos (by omega)]
    have d2 : decide (7 < n) = true := decide_eq_true h2
    rw [hm]
    simp (config := {contextual := true, maxSteps := 5000000}) only [go_sem, false_and, Nat.reduceAdd, Nat.reduceLT, Nat.reduceBEq, Nat.reduceSub, Nat.reduceMul, Nat.reduceLeDiff, Int.reduceToNat, Nat.reduceEqDiff, Nat.reduceMod, ht, hl, d1, d2, specPp]
    exact ⟨prN_weak, (by (repeat (first | exact Hp.Le.refl _ | refine Hp.le_upd ?_ (fN _ _ _ _))))⟩
  have d2 : decide (7 < n) = false := decide_eq_false h2
  by_cases h3 : e.wantF = 0
  rotate_left
  · have hm : prR n e = (([], 0), e.wantF) := by rw [prR, if_neg (by omega), if_pos h3]
    have d3 : (e.wantF != 0) = true := by simpa using h3
    rw [hm]
    simp (config := {contextual := true, maxSteps := 5000000}) only [go_sem, false_and, Nat.reduceAdd, Nat.reduceLT, Nat.reduceBEq, Nat.reduceSub, Nat.reduceMul, Nat.reduceLeDiff, Int.reduceToNat, Nat.reduceEqDiff, Nat.reduceMod, ht, hl, d1, d2, d3, specPp, toE_at]
    exact ⟨hok, prN_weak, (by (repeat (first | exact Hp.Le.refl _ | refine Hp.le_upd ?_ (fN _ _ _ _))))⟩
  have d3 : (e.wantF != 0) = false := by simpa using h3
  have hgo := guess_ok (n := n) hok
  have hmo := mkR_ok (n := n) (l := (guessE n e).1) (x := (guessE n e).2)
  by_cases h4 : (mkR n (guessE n e).1 (guessE n e).2).2 = 0
  rotate_left
  · have hm : prR n e = (([], 0), 73) := by rw [prR, if_neg (by omega), if_neg (by omega), if_pos h4]
    have d4 : ((mkR n (guessE n e).1 (guessE n e).2).2 != 0) = true := by simpa using h4
    rw [hm]
    simp (config := {contextual := true, maxSteps := 5000000}) only [go_sem, false_and, Nat.reduceAdd, Nat.reduceLT, Nat.reduceBEq, Nat.reduceSub, Nat.reduceMul, Nat.reduceLeDiff, Int.reduceToNat, Nat.reduceEqDiff, Nat.reduceMod, ht, hl, d1, d2, d3, specPp, toE_at, prA]
    refine ⟨hok, hok, callK_intro (make07_call n (guessE n e).1 (guessE n e).2 hgo) ?_⟩
    simp (config := {contextual := true, maxSteps := 5000000}) only [go_sem, false_and, Nat.reduceAdd, Nat.reduceLT, Nat.reduceBEq, Nat.reduceSub, Nat.reduceMul, Nat.reduceLeDiff, Int.reduceToNat, Nat.reduceEqDiff, Nat.reduceMod, ht, hl, d1, d2, d3, d4, specPp, toE_at, prA]
    exact ⟨prN_weak, (by (repeat (first | exact Hp.Le.refl _ | refine Hp.le_upd ?_ (fN _ _ _ _))))⟩
  have d4 : ((mkR n (guessE n e).1 (guessE n e).2).2 != 0) = false := by simpa using h4
  cases h5 : (mkR n (guessE n e).1 (guessE n e).2).1.like e
  · have hm : prR n e = (([], 0), 73) := by rw [prR, if_neg (by omega), if_neg (by omega), if_neg (by omega), if_pos h5]
    rw [hm]
    simp (config := {contextual := true, maxSteps := 5000000}) only [go_sem, false_and, Nat.reduceAdd, Nat.reduceLT, Nat.reduceBEq, Nat.reduceSub, Nat.reduceMul, Nat.reduceLeDiff, Int.reduceToNat, Nat.reduceEqDiff, Nat.reduceMod, ht, hl, d1, d2, d3, specPp, toE_at, prA]
    refine ⟨hok, hok, callK_intro (make07_call n (guessE n e).1 (guessE n e).2 hgo) ?_⟩
    simp (config := {contextual := true, maxSteps := 5000000}) only [go_sem, false_and, Nat.reduceAdd, Nat.reduceLT, Nat.reduceBEq, Nat.reduceSub, Nat.reduceMul, Nat.reduceLeDiff, Int.reduceToNat, Nat.reduceEqDiff, Nat.reduceMod, ht, hl, d1, d2, d3, d4, h5, specPp, toE_at, prA]
    exact ⟨hmo, prN_weak, (by (repeat (first | exact Hp.Le.refl _ | refine Hp.le_upd ?_ (fN _ _ _ _))))⟩
  · have hm : prR n e = (guessE n e, 0) := by rw [prR, if_neg (by omega), if_neg (by omega), if_neg (by omega), if_neg (by rw [h5]; simp)]
    rw [hm]
    simp (config := {contextual := true, maxSteps := 5000000}) only [go_sem, false_and, Nat.reduceAdd, Nat.reduceLT, Nat.reduceBEq, Nat.reduceSub, Nat.reduceMul, Nat.reduceLeDiff, Int.reduceToNat, Nat.reduceEqDiff, Nat.reduceMod, ht, hl, d1, d2, d3, specPp, toE_at, prA]
    refine ⟨hok, hok, callK_intro (make07_call n (guessE n e).1 (guessE n e).2 hgo) ?_⟩
    simp (config := {contextual := true, maxSteps := 5000000}) only [go_sem, false_and, Nat.reduceAdd, Nat.reduceLT, Nat.reduceBEq, Nat.reduceSub, Nat.reduceMul, Nat.reduceLeDiff, Int.reduceToNat, Nat.reduceEqDiff, Nat.reduceMod, ht, hl, d1, d2, d3, d4, h5, specPp, toE_at, prA]
    exact ⟨hmo, (by (repeat (first | exact Hp.Le.refl _ | refine Hp.le_upd ?_ (fN _ _ _ _))))⟩
def specIs : Spec := Spec.no.add 51 (sp2 dI dE (fun _ e => e.ok) fun n e => .tup [prA (prR n e).1.1 (prR n e).1.2, .int .i64 (prR n e).2])
theorem specIs_ok : SpecOk Tryz.prog w0 specIs := Spec.no_ok.add (sp2_ok fun n e h k H => parts07_call n e h)
theorem is07_call (n : Int) (e : E) (hok : e.ok) : CallAt Tryz.prog w0 k 31 [.int .i64 n, e.av] H H (.tup [.bool ((prR n e).2 == 0), .int .i64 (if (prR n e).2 = 73 then 0 else (prR n e).2)]) := by
  refine callAt tabOk specIs_ok mixed Tryz.func31 rfl rfl Tryz.results31 Tryz.ntmps31 (by simp) [] ?_
  intro hfr t hl ht
  simp only [At, Nat.reduceAdd, List.cons_append, List.nil_append] at ht
  have fN : ∀ (a b : Nat) z ty, H ⟨z, a :: b :: k, ty⟩ = none := fun a b z ty => hfr _ (sfx2 _ _ _)
  by_cases h : (prR n e).2 = 73
  · rw [if_pos h]
    simp (config := {contextual := true, maxSteps := 5000000}) only [go_sem, false_and, Nat.reduceAdd, Nat.reduceLT, Nat.reduceBEq, Nat.reduceSub, Nat.reduceMul, Nat.reduceLeDiff, Int.reduceToNat, Nat.reduceEqDiff, Nat.reduceMod, ht, hl, specIs, toE_at, prA, h, Int.reduceBEq]
    exact ⟨hok, (by (repeat (first | exact Hp.Le.refl _ | refine Hp.le_upd ?_ (fN _ _ _ _))))⟩
  · have d : ((prR n e).2 == 73) = false := by simpa using h
    rw [if_neg h]
    simp (config := {contextual := true, maxSteps := 5000000}) only [go_sem, false_and, Nat.reduceAdd, Nat.reduceLT, Nat.reduceBEq, Nat.reduceSub, Nat.reduceMul, Nat.reduceLeDiff, Int.reduceToNat, Nat.reduceEqDiff, Nat.reduceMod, ht, hl, specIs, toE_at, prA, d]
    exact ⟨hok, (by (repeat (first | exact Hp.Le.refl _ | refine Hp.le_upd ?_ (fN _ _ _ _))))⟩
end Go.Proofs.YtkdendaohlnlcaaGreat.Av

/- Loops over functions: what the loop does, out of what its body does of each element and of a function that tells the elements. No condition. -/
namespace Go.Proofs.YtkdendaohlnlcaaGreat.Av
set_option linter.unusedVariables false
set_option linter.unusedSimpArgs false
open Go.RowKit

def setPs (t : List AV) : List Tmp → List AV → List AV
  | p :: ps, x :: xs => setPs (t.set p x) ps xs
  | _, _ => t
theorem rep_setPs {G : Gh} : ∀ (ps : List Tmp) (xs : List AV) (vs : List Value) (t : List AV) (tc : Array Value), RepL G xs vs → RepL G t tc.toList → RepL G (setPs t ps xs) ((ps.zip vs).foldl (fun (t : Array Value) (p, v) => t.setIfInBounds p v) tc).toList
  | [], xs, vs, t, tc, _, h => by simpa [setPs] using h
  | p :: ps, [], vs, t, tc, hx, h => by simp only [RepL] at hx; subst hx; simpa [setPs] using h
  | p :: ps, x :: xs, vs, t, tc, hx, h => by
    simp only [RepL] at hx
    obtain ⟨u, us, rfl, h1, h2⟩ := hx
    simp only [List.zip_cons_cons, List.foldl_cons, setPs]
    refine rep_setPs ps xs us _ _ h2 ?_
    simpa using h.set h1 p

/-- How many elements are told until a round says no. -/
def stops (b : Nat → Bool) : Nat → Nat → Nat
  | j, 0 => j
  | j, n + 1 => if b j then stops b (j + 1) n else j + 1
theorem stops_all (b : Nat → Bool) : ∀ (n j : Nat), (∀ i, j ≤ i → i < j + n → b i = true) → stops b j n = j + n
  | 0, j, _ => rfl
  | n + 1, j, h => by
    rw [stops, if_pos (h j (Nat.le_refl _) (by omega)), stops_all b n (j + 1) fun i h1 h2 => h i (by omega) (by omega)]
    omega
theorem stops_at (b : Nat → Bool) (m : Nat) (hm : b m = false) : ∀ (n j : Nat), j ≤ m → m < j + n → (∀ i, j ≤ i → i < m → b i = true) → stops b j n = m + 1
  | 0, j, h1, h2, _ => by omega
  | n + 1, j, h1, h2, h => by
    by_cases e : j = m
    · subst e
      rw [stops, if_neg (by simp [hm])]
    · rw [stops, if_pos (h j (Nat.le_refl _) (by omega)), stops_at b m hm n (j + 1) (by omega) (by omega) fun i a c => h i (by omega) c]

/-- A function that tells these elements, one by one, until it is told no. -/
def Iter (P : Program) (gf : FuncId) (caps : List AV) (xs : List (List AV)) : Prop :=
  ∀ (w0 : Base) (l : Nat) (k : List Nat) (Hs : Nat → Hp) (b : Nat → Bool),
    (∀ j x, xs[j]? = some x → (∀ i, i < j → b i = true) → ∀ key, k <:+ key → YieldIn P w0 key l x (Hs j) (Hs (j + 1)) (.bool (b j))) →
    (∀ j i, k <:+ i.key → Hs j i = none) →
    ∃ v, BodyAt P w0 k gf ([.clo (.yield l) [] []] ++ caps) (Hs 0) (Hs (stops b 0 xs.length)) v

def roundR (o : Option AEx) (H' : Hp) : AEx → FS → Prop := fun x s => x = o.getD .normal ∧ H'.Le s.H
@[go_sem] theorem roundR_at {o : Option AEx} {H' : Hp} {x : AEx} {s : FS} : roundR o H' x s = (x = o.getD .normal ∧ H'.Le s.H) := rfl

def AEx.code : AEx → Code
  | .normal => .skip
  | .exit id => .exit id
  | .ret => .ret
  | .panic _ => .skip

section
variable {P : Program} {w0 : Base}

/-- What is known of one more block that is no cells. -/
theorem Sim.pin {G : Gh} {H : Hp} {w : World} (h : Sim w0 G H w) {D : Nat} {o : Obj} {L : List (Option Id × Obj)} (hD : w.heap[D]? = some o) (hn : ∀ cs T f, o ≠ .cells cs T f) (hb : w0.heap.size ≤ D) (hρ : w0.G.ρ D = none ∨ w0.G.ρ D = some L) (hL : ∀ x ∈ L, pinned G H D o x) :
    Sim w0 { G with ρ := fun b => if b = D then some L else G.ρ b } H w := by
  refine ⟨h.c, fun i b e => ?_, h.d, h.t, h.inj, h.tinj, h.vt, h.below, ⟨h.g.C, h.g.σ, h.g.τ, fun b o e => ?_⟩, fun b L' e => ?_⟩
  · obtain ⟨h1, cs, T, h2, h3, h4, h5⟩ := h.v i b e
    exact ⟨h1, cs, T, h2, h3, h4, fun avs ha => rep_noρ (h5 avs ha)⟩
  · simp only
    split
    · rename_i hbd
      subst hbd
      rcases hρ with hρ | hρ
      · rw [hρ] at e; cases e
      · rw [hρ] at e; exact e
    · exact h.g.ρ b o e
  · simp only at e
    split at e
    · rename_i hbd
      subst hbd
      cases e
      exact ⟨hb, o, hD, hn, hL⟩
    · exact h.r b L' e

/-- A token that stands for a block's state. -/
theorem Sim.flag {G : Gh} {H : Hp} {w : World} (h : Sim w0 G H w) {i : Id} (hτ : G.τ i = some none) (hH : H i = none) (hL : ∀ L, G.ρ i.sz = some L → ∃ o, w.heap[i.sz]? = some o ∧ ∀ x ∈ L, pinned G (H.upd i (some .tok)) i.sz o x) : Sim w0 G (H.upd i (some .tok)) w := by
  have hcells : ∀ j avs, (H.upd i (some .tok)) j = some (.cells avs) → H j = some (.cells avs) := fun j avs e => by
    by_cases hji : j = i
    · subst hji; rw [Hp.upd_same] at e; cases e
    · rwa [Hp.upd_ne _ _ hji] at e
  have htok : ∀ j, j ≠ i → (H.upd i (some .tok)) j = some .tok → H j = some .tok := fun j hji e => by rwa [Hp.upd_ne _ _ hji] at e
  refine ⟨h.c, fun j b e => ?_, fun j avs e => h.d j avs (hcells j avs e), fun j e => ?_, h.inj, fun j q b x y hj hq hxj hyq => ?_, fun j q b x hj hq e => ?_, h.below, h.g, fun b L e => ?_⟩
  · obtain ⟨h1, cs, T, h2, h3, h4, h5⟩ := h.v j b e
    exact ⟨h1, cs, T, h2, h3, h4, fun avs ha => h5 avs (hcells j avs ha)⟩
  · by_cases hji : j = i
    · subst hji; exact .inl hτ
    · exact h.t j (htok j hji e)
  · by_cases hji : j = i
    · subst hji; rw [hτ] at hxj; cases hxj
    · by_cases hqi : q = i
      · subst hqi; rw [hτ] at hyq; cases hyq
      · exact h.tinj j q b x y (htok j hji hj) (htok q hqi hq) hxj hyq
  · by_cases hqi : q = i
    · subst hqi; rw [hτ] at e; cases e
    · exact h.vt j q b x hj (htok q hqi hq) e
  · obtain ⟨r1, o, r2, r3, r4⟩ := h.r b L e
    by_cases hb : b = i.sz
    · subst hb
      obtain ⟨o', g1, g2⟩ := hL L e
      rw [r2] at g1
      cases g1
      exact ⟨r1, o, r2, r3, g2⟩
    · refine ⟨r1, o, r2, r3, fun x hx => ?_⟩
      have := r4 x hx
      unfold pinned at this ⊢
      split at this
      · exact this
      · rename_i q hq
        have hne : q ≠ i := fun hqi => hb (by rw [← hqi]; exact this.1.1.symm)
        exact ⟨this.1, fun ht => this.2 (htok q hne ht)⟩

/-- The same facts, seen from a later base. -/
theorem Sim.rebase {G : Gh} {H : Hp} {w : World} (h : Sim w0 G H w) : Sim ⟨w0.w, G⟩ G H w := ⟨h.c, h.v, h.d, h.t, h.inj, h.tinj, h.vt, h.below, Gh.Le.refl G, h.r⟩
theorem Sim.base_of {G1 G : Gh} {H : Hp} {w : World} (h : Sim ⟨w0.w, G1⟩ G H w) (hg : w0.G.Le G) : Sim w0 G H w := ⟨h.c, h.v, h.d, h.t, h.inj, h.tinj, h.vt, h.below, hg, h.r⟩

/-- A loop's record. -/
def mkRec (fn : FuncId) (tmps : Array Value) (ps : Array Tmp) (assign body : Code) (dn : Nat) (st : LoopState) (pe : Option Code) : Loop := { state := st, pending := pe, fn := fn, tmps := tmps, params := ps, assign := assign, body := body, defers := dn }

theorem yield_ok {base : Base} {l : Nat} {key : List Nat} {fn : FuncId} {tmps : Array Value} {ps : Array Tmp} {assign body : Code} {dn : Nat} {t x : List AV} {Hj Hj1 : Hp} {oc : Option AEx} {cst : AEx} {idr idd : Id}
    (hρ : base.G.ρ l = some [(some idr, .loop (mkRec fn tmps ps assign body dn .ready none)), (some idd, .loop (mkRec fn tmps ps assign body dn .done (some cst.code)))])
    (hτr : base.G.τ idr = some none) (hτd : base.G.τ idd = some none) (hszr : idr.sz = l) (hszd : idd.sz = l) (hne : idr ≠ idd) (htm : RepL base.G t tmps.toList) (hx : x.length = ps.size)
    (f1 : Hj idr = none) (f3 : Hj1 idr = none) (f4 : Hj1 idd = none) (hoc : oc = none ∨ oc = some cst ∧ cst ≠ .normal ∧ ∀ v, cst ≠ .panic v)
    (hbody : ∀ w0' : Base, w0'.w = base.w → CodeOk P w0' (some l) key assign ⟨setPs t ps.toList x, 0, Hj⟩ (thenR (fun s1 => ∀ w0'' : Base, w0''.w = base.w → CodeOk P w0'' (some l) key body s1 (roundR oc Hj1)) fun _ _ => False)) :
    YieldIn P base key l x (Hj.upd idr (some .tok)) (if oc = none then Hj1.upd idr (some .tok) else Hj1.upd idd (some .tok)) (.bool oc.isNone) := by
  intro G w cargs hs hfr hr Rr hRr
  have hρG := hs.g.ρ _ _ hρ
  obtain ⟨hbl, o, hl, _, hpin⟩ := hs.r l _ hρG
  have hrdy : w.heap[l]? = some (.loop (mkRec fn tmps ps assign body dn .ready none)) := by
    have := (hpin (some idr, .loop (mkRec fn tmps ps assign body dn .ready none)) (by simp)).2 (Hp.upd_same _ _ _)
    rw [hl, this]
  have hcs : cargs.size = ps.size := by rw [← hr.size]; exact hx
  have hy := run_yield (P := P) (args := cargs) hrdy (by simpa [mkRec] using hcs)
  refine ⟨_, _, _, _, hy, ?_⟩
  refine roundIn_of_wpIn (F := Fence.wide) (n := 0) trivial ?_
  -- the assignments, the record being ready
  have s0 : Sim base G Hj w := hs.forget (Hp.le_upd (Hp.Le.refl _) f1)
  have hnc : ∀ r : Loop, ∀ cs T f, Obj.loop r ≠ .cells cs T f := fun r cs T f e => by cases e
  have s1 : Sim ⟨base.w, { G with ρ := fun b => if b = l then some [(none, .loop (mkRec fn tmps ps assign body dn .ready none))] else G.ρ b }⟩ { G with ρ := fun b => if b = l then some [(none, .loop (mkRec fn tmps ps assign body dn .ready none))] else G.ρ b } Hj w := by
    have s0' : Sim ⟨base.w, { base.G with ρ := fun _ => none }⟩ G Hj w := ⟨s0.c, s0.v, s0.d, s0.t, s0.inj, s0.tinj, s0.vt, s0.below, ⟨s0.g.C, s0.g.σ, s0.g.τ, fun _ _ e => (by cases e)⟩, s0.r⟩
    exact (s0'.pin hrdy (hnc _) hbl (.inl rfl) (by simp [pinned])).rebase
  have htmG : RepL G t tmps.toList := RepL.mono hs.g _ _ htm
  refine hbody _ ?hw ⟨{ G with ρ := fun b => if b = l then none else G.ρ b }, []⟩ _ w _ s1 ?_ ?_ ?_ _ ?_
  case hw => rfl
  · have := rep_setPs ps.toList x cargs.toList t tmps hr htmG
    have e : ((mkRec fn tmps ps assign body dn .ready none).params.zip cargs).foldl (fun tmps (t, a) => tmps.setIfInBounds t a) (mkRec fn tmps ps assign body dn .ready none).tmps = (ps.toList.zip cargs.toList).foldl (fun (t : Array Value) (p, v) => t.setIfInBounds p v) tmps := by
      rw [← Array.foldl_toList, Array.toList_zip]
      rfl
    rw [e]
    exact rep_noρ this
  · intro m _ i hi
    exact hfr i ((List.suffix_cons m key).trans hi)
  · refine ⟨⟨fun _ _ h => h, fun _ _ h => h, fun _ _ h => h, fun b o e => ?_⟩, [], rfl, List.nodup_nil, by simp⟩
    simp only at e ⊢
    split at e
    · cases e
    · rename_i hb
      rw [if_neg hb]
      exact e
  · -- behind the assignments
    intro y s1' G3 w3 a3 hy1 hl3 hn3 hs3 hr3 hd3 hf3 hle3 X3 hX3
    cases y with
    | exit id => exact hy1.elim
    | ret => exact hy1.elim
    | panic v => exact hy1.elim
    | normal =>
      cases hX3
      have hρ3 : G3.ρ l = some [(none, .loop (mkRec fn tmps ps assign body dn .ready none))] := hl3.ρ l _ (by simp)
      obtain ⟨_, o3, hl3', _, hpin3⟩ := hs3.r l _ hρ3
      have hrdy3 : w3.heap[l]? = some (.loop (mkRec fn tmps ps assign body dn .ready none)) := by
        have := hpin3 _ (List.mem_singleton.2 rfl)
        simp only [pinned] at this
        rw [hl3', this]
      refine ⟨_, run_beginRound hrdy3 rfl, ?_⟩
      have hlt3 := (Array.getElem?_eq_some_iff.1 hrdy3).1
      have hbusy : (w3.putObj l (.loop (mkRec fn tmps ps assign body dn .busy none))).heap[l]? = some (.loop (mkRec fn tmps ps assign body dn .busy none)) := World.putObj_heap_same hlt3
      -- the body, the record being busy
      have s3 : Sim ⟨base.w, { G3 with ρ := fun b => if b = l then some [(none, .loop (mkRec fn tmps ps assign body dn .busy none))] else G3.ρ b }⟩ { G3 with ρ := fun b => if b = l then some [(none, .loop (mkRec fn tmps ps assign body dn .busy none))] else G3.ρ b } s1'.H (w3.putObj l (.loop (mkRec fn tmps ps assign body dn .busy none))) := by
        have q1 : Sim ⟨base.w, { G3 with ρ := fun _ => none }⟩ { G3 with ρ := fun b => if b = l then none else G3.ρ b } s1'.H w3 := by
          refine ⟨hs3.c, fun i b e => ?_, hs3.d, hs3.t, hs3.inj, hs3.tinj, hs3.vt, hs3.below, ⟨fun _ _ h => h, fun _ _ h => h, fun _ _ h => h, fun _ _ e => (by cases e)⟩, fun b L e => ?_⟩
          · obtain ⟨h1, cs, T, h2, h3, h4, h5⟩ := hs3.v i b e
            exact ⟨h1, cs, T, h2, h3, h4, fun avs ha => rep_noρ (h5 avs ha)⟩
          · simp only at e
            split at e
            · cases e
            · exact hs3.r b L e
        have q2 := q1.putObj (o' := .loop (mkRec fn tmps ps assign body dn .busy none)) hrdy3 (hnc _) hbl (hnc _) (fun L e => by simp at e)
        have q3 := (q2.pin hbusy (hnc _) hbl (.inl rfl) (L := [(none, .loop (mkRec fn tmps ps assign body dn .busy none))]) (by simp [pinned])).rebase
        have e : (fun b => if b = l then some [((none : Option Id), Obj.loop (mkRec fn tmps ps assign body dn .busy none))] else if b = l then none else G3.ρ b) = fun b => if b = l then some [(none, .loop (mkRec fn tmps ps assign body dn .busy none))] else G3.ρ b := by
          funext b
          split <;> rfl
        simp only [e] at q3
        exact q3
      obtain ⟨hd31, Ds, hd32, hd33, hd34⟩ := hd3
      have hG0 : Gh.Le { G with ρ := fun b => if b = l then none else G.ρ b } { G3 with ρ := fun b => if b = l then some [(none, .loop (mkRec fn tmps ps assign body dn .busy none))] else G3.ρ b } := by
        refine ⟨hd31.C, hd31.σ, hd31.τ, fun b o e => ?_⟩
        have := hd31.ρ b o e
        simp only at e ⊢
        split at e
        · cases e
        · rename_i hb
          rw [if_neg hb]
          exact this
      refine hy1 _ ?hw ⟨{ G with ρ := fun b => if b = l then none else G.ρ b }, []⟩ _ _ a3 s3 (rep_noρ hr3) hf3 ⟨hG0, Ds, hd32, hd33, fun D hD => ⟨?_, (hd34 D hD).2⟩⟩ _ ?_
      case hw => rfl
      · have hDl : D ≠ l := fun e => by
          have := (hd34 D hD).1
          rw [e, hρ3] at this
          simp at this
        simp only [if_neg hDl]
        exact (hd34 D hD).1
      · intro y2 s2 G4 w4 a4 hy2 hl4 hn4 hs4 hr4 _ _ _ X4 hX4
        obtain ⟨hy2, hH2⟩ := hy2
        have hρ4 : G4.ρ l = some [(none, .loop (mkRec fn tmps ps assign body dn .busy none))] := hl4.ρ l _ (by simp)
        obtain ⟨_, o4, hl4', _, hpin4⟩ := hs4.r l _ hρ4
        have hbusy4 : w4.heap[l]? = some (.loop (mkRec fn tmps ps assign body dn .busy none)) := by
          have := hpin4 _ (List.mem_singleton.2 rfl)
          simp only [pinned] at this
          rw [hl4', this]
        have hlt4 := (Array.getElem?_eq_some_iff.1 hbusy4).1
        -- what is known behind the round
        have hC : Gh.Le G { G4 with ρ := fun b => if b = l then some [(some idr, .loop (mkRec fn tmps ps assign body dn .ready none)), (some idd, .loop (mkRec fn tmps ps assign body dn .done (some cst.code)))] else G4.ρ b } := by
          refine ⟨fun a v e => hl4.C a v (hl3.C a v e), fun i b e => hl4.σ i b (hl3.σ i b e), fun i b e => hl4.τ i b (hl3.τ i b e), fun b L e => ?_⟩
          simp only
          by_cases hb : b = l
          · rw [if_pos hb, ← hρG, ← hb]
            exact e
          · rw [if_neg hb]
            refine hl4.ρ b L ?_
            simp only [if_neg hb]
            refine hl3.ρ b L ?_
            simp only [if_neg hb]
            exact e
        have hNew : New key G { G4 with ρ := fun b => if b = l then some [(some idr, .loop (mkRec fn tmps ps assign body dn .ready none)), (some idd, .loop (mkRec fn tmps ps assign body dn .done (some cst.code)))] else G4.ρ b } := fun i hi => by
          have g3 := hn3.up i hi
          have g4 := hn4.up i hi
          exact ⟨g4.1.trans g3.1, g4.2.trans g3.2⟩
        have fin : ∀ (o' : Obj) (idf : Id), (idf = idr ∧ o' = .loop (mkRec fn tmps ps assign body dn .ready none) ∨ idf = idd ∧ o' = .loop (mkRec fn tmps ps assign body dn .done (some cst.code))) →
            Sim base { G4 with ρ := fun b => if b = l then some [(some idr, .loop (mkRec fn tmps ps assign body dn .ready none)), (some idd, .loop (mkRec fn tmps ps assign body dn .done (some cst.code)))] else G4.ρ b } (Hj1.upd idf (some .tok)) (w4.putObj l o') := by
          intro o' idf hof
          have hτ4r : G4.τ idr = some none := (hs.g.trans hC).τ _ _ hτr
          have hτ4d : G4.τ idd = some none := (hs.g.trans hC).τ _ _ hτd
          have hno' : ∀ cs T f, o' ≠ .cells cs T f := by rcases hof with ⟨_, rfl⟩ | ⟨_, rfl⟩ <;> exact hnc _
          have q1 : Sim ⟨base.w, { G4 with ρ := fun _ => none }⟩ { G4 with ρ := fun b => if b = l then none else G4.ρ b } Hj1 w4 := by
            have hs4' := hs4.forget hH2
            refine ⟨hs4'.c, fun i b e => ?_, hs4'.d, hs4'.t, hs4'.inj, hs4'.tinj, hs4'.vt, hs4'.below, ⟨fun _ _ h => h, fun _ _ h => h, fun _ _ h => h, fun _ _ e => (by cases e)⟩, fun b L e => ?_⟩
            · obtain ⟨h1, cs, T, h2, h3, h4, h5⟩ := hs4'.v i b e
              exact ⟨h1, cs, T, h2, h3, h4, fun avs ha => rep_noρ (h5 avs ha)⟩
            · simp only at e
              split at e
              · cases e
              · exact hs4'.r b L e
          have q2 := q1.putObj (o' := o') hbusy4 (hnc _) hbl hno' (fun L e => by simp at e)
          have q3 := q2.pin (L := [(some idr, .loop (mkRec fn tmps ps assign body dn .ready none)), (some idd, .loop (mkRec fn tmps ps assign body dn .done (some cst.code)))]) (World.putObj_heap_same hlt4) hno' hbl (.inl rfl) (by
            intro x hx
            simp only [List.mem_cons, List.not_mem_nil, or_false] at hx
            rcases hx with rfl | rfl
            · exact ⟨⟨hszr, by rw [show ({ G4 with ρ := fun b => if b = l then none else G4.ρ b } : Gh).τ idr = G4.τ idr from rfl, hτ4r]; simp⟩, fun e => by rw [f3] at e; cases e⟩
            · exact ⟨⟨hszd, by rw [show ({ G4 with ρ := fun b => if b = l then none else G4.ρ b } : Gh).τ idd = G4.τ idd from rfl, hτ4d]; simp⟩, fun e => by rw [f4] at e; cases e⟩)
          have e : (fun b => if b = l then some [(some idr, Obj.loop (mkRec fn tmps ps assign body dn .ready none)), (some idd, Obj.loop (mkRec fn tmps ps assign body dn .done (some cst.code)))] else if b = l then none else G4.ρ b) = fun b => if b = l then some [(some idr, Obj.loop (mkRec fn tmps ps assign body dn .ready none)), (some idd, Obj.loop (mkRec fn tmps ps assign body dn .done (some cst.code)))] else G4.ρ b := by
            funext b
            split <;> rfl
          simp only [e] at q3
          have q4 := Sim.base_of (w0 := base) (G1 := { G4 with ρ := fun _ => none }) q3 (hs.g.trans hC)
          have hfl : idf.sz = l := by rcases hof with ⟨rfl, _⟩ | ⟨rfl, _⟩ <;> assumption
          refine q4.flag (i := idf) (by rcases hof with ⟨rfl, _⟩ | ⟨rfl, _⟩ <;> assumption) (by rcases hof with ⟨rfl, _⟩ | ⟨rfl, _⟩ <;> assumption) fun L eL => ?_
          rw [hfl] at eL ⊢
          simp only [if_true, Option.some.injEq] at eL
          subst eL
          refine ⟨o', World.putObj_heap_same hlt4, fun x hx => ?_⟩
          simp only [List.mem_cons, List.not_mem_nil, or_false] at hx
          rcases hx with rfl | rfl
          · refine ⟨⟨hszr, by simp [hτ4r]⟩, fun eT => ?_⟩
            rcases hof with ⟨rfl, rfl⟩ | ⟨rfl, rfl⟩
            · rfl
            · rw [Hp.upd_ne _ _ hne, f3] at eT; cases eT
          · refine ⟨⟨hszd, by simp [hτ4d]⟩, fun eT => ?_⟩
            rcases hof with ⟨rfl, rfl⟩ | ⟨rfl, rfl⟩
            · rw [Hp.upd_ne _ _ (Ne.symm hne), f4] at eT; cases eT
            · rfl
        rcases hoc with rfl | ⟨rfl, hcn⟩
        · simp only [Option.getD_none] at hy2
          subst hy2
          cases hX4
          exact ⟨_, _, run_endRound none hbusy4, hRr _ _ _ hC hNew (by rw [if_pos rfl]; exact fin (.loop (mkRec fn tmps ps assign body dn .ready none)) idr (.inl ⟨rfl, rfl⟩)) (by simp [Rep])⟩
        · simp only [Option.getD_some] at hy2
          subst hy2
          cases y2 with
          | normal => exact absurd rfl hcn.1
          | panic v => exact absurd rfl (hcn.2 v)
          | ret => cases hX4; exact ⟨_, _, run_endRound (some .ret) hbusy4, hRr _ _ _ hC hNew (by rw [if_neg (by simp)]; exact fin (.loop (mkRec fn tmps ps assign body dn .done (some .ret))) idd (.inr ⟨rfl, rfl⟩)) (by simp [Rep])⟩
          | exit id => cases hX4; exact ⟨_, _, run_endRound (some (.exit id)) hbusy4, hRr _ _ _ hC hNew (by rw [if_neg (by simp)]; exact fin (.loop (mkRec fn tmps ps assign body dn .done (some (.exit id)))) idd (.inr ⟨rfl, rfl⟩)) (by simp [Rep])⟩

theorem first_stop (br : Nat → Option AEx) : ∀ m : Nat, (∀ i, i < m → br i = none) ∨ ∃ j c, j < m ∧ (∀ i, i < j → br i = none) ∧ br j = some c
  | 0 => .inl fun i h => by omega
  | m + 1 => by
    rcases first_stop br m with h | ⟨j, c, h1, h2, h3⟩
    · cases hm : br m with
      | none =>
        refine .inl fun i hi => ?_
        by_cases e : i = m
        · rw [e]; exact hm
        · exact h i (by omega)
      | some c => exact .inr ⟨m, c, by omega, h, hm⟩
    · exact .inr ⟨j, c, by omega, h2, h3⟩

open Classical in
theorem rangeOk {p : List Nat} {g : Operand} {ps : Array Tmp} {assign body : Code} {t : List AV} {n : Nat} {H : Hp} {R : AEx → FS → Prop} {gf : FuncId} {caps : List AV} {xs : List (List AV)} (hg : evA t g = .clo (.func gf) [] caps) (hit : Iter P gf caps xs)
    (hlen : ∀ x ∈ xs, x.length = ps.size) (Hb : Nat → Hp) (br : Nat → Option AEx) (hbr : ∀ j, br j ≠ some .normal) (hbp : ∀ j v, br j ≠ some (.panic v)) (h0 : Hb 0 = H) (hfree : ∀ j i, (n :: p) <:+ i.key → Hb j i = none)
    (hbody : ∀ j x, xs[j]? = some x → (∀ i, i < j → br i = none) → ∀ l key (w0' : Base), w0'.w = w0.w → (n :: p) <:+ key → CodeOk P w0' (some l) key assign ⟨setPs t ps.toList x, 0, Hb j⟩ (thenR (fun s1 => ∀ w0'' : Base, w0''.w = w0.w → CodeOk P w0'' (some l) key body s1 (roundR (br j) (Hb (j + 1)))) fun _ _ => False))
    (hall : (∀ i, i < xs.length → br i = none) → R .normal ⟨t, n + 1, Hb xs.length⟩) (hstop : ∀ j c, j < xs.length → (∀ i, i < j → br i = none) → br j = some c → R c ⟨t, n + 1, Hb (j + 1)⟩) :
    CodeOk P w0 none p (.rangeFunc g ps assign body) ⟨t, n, H⟩ R := by
  intro G0 G w a hs hr hf hd Qc hB
  simp only at hs hr hf
  have hgv := rep_eval hr g
  rw [hg] at hgv
  simp only [Rep, RepL] at hgv
  obtain ⟨fi, ca, hev, rfl, hca⟩ := hgv
  refine wpIn_rangeFunc (F := fz none) (n := 0) fun fn _ => ?_
  -- the two blocks
  obtain ⟨rec, hrec⟩ : ∃ rec, rec = mkRec fn a.tmps ps assign body w.heap.size := ⟨_, rfl⟩
  obtain ⟨w1, hw1⟩ : ∃ w1, w1 = (w.alloc (.deferred (some []))).alloc (.loop (rec .ready none)) := ⟨_, rfl⟩
  have hsz1 : (w.alloc (.deferred (some []))).heap.size = w.heap.size + 1 := World.size_alloc _ _
  have hL1 : w1.heap[w.heap.size + 1]? = some (.loop (rec .ready none)) := by
    rw [hw1, ← hsz1]
    exact World.alloc_heap_new _ _
  have hD1 : w1.heap[w.heap.size]? = some (.deferred (some [])) := by
    rw [hw1]
    exact (Below.heap_alloc _ _ _ (by rw [hsz1]; omega)).trans (World.alloc_heap_new w _)
  have hsA : Sim w0 G H w1 := by rw [hw1]; exact (hs.alloc _).alloc _
  have hbase := hs.base
  have hρG : ∀ b, w.heap.size ≤ b → G.ρ b = none := fun b hb => by
    cases e : G.ρ b with
    | none => rfl
    | some L =>
      obtain ⟨_, o, h2, _⟩ := hs.r b L e
      have := (Array.getElem?_eq_some_iff.1 h2).1
      omega
  have hρ0 : ∀ b, w.heap.size ≤ b → w0.G.ρ b = none := fun b hb => by
    cases e : w0.G.ρ b with
    | none => rfl
    | some L =>
      have := hs.g.ρ _ _ e
      rw [hρG b hb] at this
      cases this
  obtain ⟨idr, hidr⟩ : ∃ idr : Id, idr = ⟨w.heap.size + 1, 0 :: n :: p, 0⟩ := ⟨_, rfl⟩
  obtain ⟨idd, hidd⟩ : ∃ idd : Id, idd = ⟨w.heap.size + 1, 0 :: 0 :: n :: p, 0⟩ := ⟨_, rfl⟩
  have hsr : (n :: p) <:+ idr.key := by rw [hidr]; exact List.suffix_cons _ _
  have hsd : (n :: p) <:+ idd.key := by rw [hidd]; exact (List.suffix_cons _ _).trans (List.suffix_cons _ _)
  have hne : idr ≠ idd := by
    rw [hidr, hidd]
    intro e
    have := congrArg (fun i : Id => i.key.length) e
    simp at this
  have hfr0 := hf n (Nat.le_refl _)
  obtain ⟨cst, hcst⟩ : ∃ cst : AEx, ∀ j c, j < xs.length → (∀ i, i < j → br i = none) → br j = some c → c = cst := by
    rcases first_stop br xs.length with hA | ⟨j0, c0, h1, h2, h3⟩
    · exact ⟨.ret, fun j c hj _ e => by rw [hA j hj] at e; cases e⟩
    · refine ⟨c0, fun j c hj hp e => ?_⟩
      have : j = j0 := by
        rcases Nat.lt_trichotomy j j0 with h | h | h
        · rw [h2 j h] at e; cases e
        · exact h
        · rw [hp j0 h] at h3; cases h3
      rw [this, h3] at e
      cases e
      rfl
  obtain ⟨L, hL⟩ : ∃ L : List (Option Id × Obj), L = [(some idr, .loop (rec .ready none)), (some idd, .loop (rec .done (some cst.code)))] := ⟨_, rfl⟩
  have hHd : H idd = none := by rw [← h0]; exact hfree 0 _ hsd
  have q1 : Sim w0 (G.withτ idd none) H w1 := hsA.newTok idd (hfr0 idd hsd).2 none (fun _ _ h => h) (fun _ _ h => h) (fun b m c T e => by cases e)
  have hτr1 : (G.withτ idd none).τ idr = none := by simp [Gh.withτ, hne, (hfr0 idr hsr).2]
  have q2 : Sim w0 ((G.withτ idd none).withτ idr none) (H.upd idr (some .tok)) w1 := q1.newTok idr hτr1 none (fun i avs e => by
      by_cases hi : i = idr
      · subst hi; rw [Hp.upd_same] at e; cases e
      · rwa [Hp.upd_ne _ _ hi] at e) (fun i hi e => by rwa [Hp.upd_ne _ _ hi] at e) (fun b m c T e => by cases e)
  have hnl : ∀ (r : Loop) cs T f, Obj.loop r ≠ .cells cs T f := fun r cs T f e => by cases e
  have q3 := q2.pin (D := w.heap.size + 1) (L := L) hL1 (hnl _) (by omega) (.inl (hρ0 _ (by omega))) (by
    subst hL
    intro x hx
    simp only [List.mem_cons, List.not_mem_nil, or_false] at hx
    rcases hx with rfl | rfl
    · exact ⟨⟨by rw [hidr], by simp [Gh.withτ]⟩, fun _ => rfl⟩
    · exact ⟨⟨by rw [hidd], by simp [Gh.withτ, Ne.symm hne]⟩, fun e => by rw [Hp.upd_ne _ _ (Ne.symm hne), hHd] at e; cases e⟩)
  have q4 := (q3.pin (D := w.heap.size) (L := [(none, .deferred (some []))]) hD1 (by simp) (by omega) (.inl (hρ0 _ (by omega))) (by simp [pinned])).rebase
  have hle1 : G.Le { ({ ((G.withτ idd none).withτ idr none) with ρ := fun b => if b = w.heap.size + 1 then some L else ((G.withτ idd none).withτ idr none).ρ b } : Gh) with ρ := fun b => if b = w.heap.size then some [(none, .deferred (some []))] else (if b = w.heap.size + 1 then some L else ((G.withτ idd none).withτ idr none).ρ b) } := by
    refine ⟨fun _ _ h => h, fun _ _ h => h, ((Gh.le_withτ (x := none) (hfr0 idd hsd).2).trans (Gh.le_withτ (x := none) hτr1)).τ, fun b o e => ?_⟩
    have hb : b < w.heap.size := by
      rcases Nat.lt_or_ge b w.heap.size with h | h
      · exact h
      · rw [hρG b h] at e; cases e
    simp only [if_neg (show b ≠ w.heap.size by omega), if_neg (show b ≠ w.heap.size + 1 by omega)]
    exact e
  obtain ⟨G1, hG1⟩ : ∃ G1 : Gh, G1 = { ({ ((G.withτ idd none).withτ idr none) with ρ := fun b => if b = w.heap.size + 1 then some L else ((G.withτ idd none).withτ idr none).ρ b } : Gh) with ρ := fun b => if b = w.heap.size then some [(none, .deferred (some []))] else (if b = w.heap.size + 1 then some L else ((G.withτ idd none).withτ idr none).ρ b) } := ⟨_, rfl⟩
  rw [← hG1] at q4 hle1
  have hρl : G1.ρ (w.heap.size + 1) = some L := by rw [hG1]; simp
  have hρD : G1.ρ w.heap.size = some [(none, .deferred (some []))] := by rw [hG1]; simp
  have hτr : G1.τ idr = some none := by rw [hG1]; simp [Gh.withτ]
  have hτd : G1.τ idd = some none := by rw [hG1]; simp [Gh.withτ, Ne.symm hne]
  have hnew1 : ∀ i : Id, ¬ (n :: p) <:+ i.key → G1.σ i = G.σ i ∧ G1.τ i = G.τ i := fun i hi => by
    have h1 : i ≠ idr := fun e => hi (by rw [e]; exact hsr)
    have h2 : i ≠ idd := fun e => hi (by rw [e]; exact hsd)
    rw [hG1]
    simp [Gh.withτ, h1, h2]
  have hk : ∀ i : Id, (1 :: n :: p) <:+ i.key → i ≠ idr ∧ i ≠ idd := fun i hi => by
    constructor
    · rintro rfl
      rw [hidr] at hi
      have := hi.eq_of_length (by simp)
      simp at this
    · rintro rfl
      rw [hidd] at hi
      have h3 : (0 :: n :: p) <:+ (0 :: 0 :: n :: p) := List.suffix_cons _ _
      have := (List.suffix_of_suffix_length_le hi h3 (by simp)).eq_of_length (by simp)
      simp at this
  have hfr1 : Fresh G1 (1 :: n :: p) := fun i hi => by
    obtain ⟨h1, h2⟩ := hk i hi
    have := hfr0 i ((List.suffix_cons _ _).trans hi)
    rw [hG1]
    simpa [Gh.withτ, h1, h2] using this
  -- the heaps between the rounds
  obtain ⟨Hs, hHs⟩ : ∃ Hs : Nat → Hp, Hs = fun j => if (∀ i, i < j → br i = none) then (Hb j).upd idr (some .tok) else (Hb j).upd idd (some .tok) := ⟨_, rfl⟩
  obtain ⟨v, hcall⟩ := hit ⟨w0.w, G1⟩ (w.heap.size + 1) (1 :: n :: p) Hs (fun j => (br j).isNone) (fun j x hx hprev key hkey => by
    have hp : ∀ i, i < j → br i = none := fun i hi => by simpa using hprev i hi
    have hy := yield_ok (base := ⟨w0.w, G1⟩) (key := key) (P := P) (l := w.heap.size + 1) (fn := fn) (tmps := a.tmps) (ps := ps) (assign := assign) (body := body) (dn := w.heap.size) (t := t) (x := x) (Hj := Hb j) (Hj1 := Hb (j + 1)) (oc := br j) (cst := cst) (idr := idr) (idd := idd)
      (by rw [← hrec, ← hL]; exact hρl) hτr hτd (by rw [hidr]) (by rw [hidd]) hne (RepL.mono hle1 _ _ hr) (hlen x (List.mem_of_getElem? hx)) (hfree j _ hsr) (hfree (j + 1) _ hsr) (hfree (j + 1) _ hsd)
      (by
        cases e : br j with
        | none => exact .inl rfl
        | some c =>
          have hjl : j < xs.length := (List.getElem?_eq_some_iff.1 hx).1
          have := hcst j c hjl hp e
          subst this
          exact .inr ⟨rfl, fun h => hbr j (by rw [e, h]), fun v h => hbp j v (by rw [e, h])⟩)
      (fun w0' hw => hbody j x hx hp _ key w0' hw ((List.suffix_cons _ _).trans hkey))
    have e1 : Hs j = (Hb j).upd idr (some .tok) := by rw [hHs]; simp only; rw [if_pos hp]
    have e2 : Hs (j + 1) = if br j = none then (Hb (j + 1)).upd idr (some .tok) else (Hb (j + 1)).upd idd (some .tok) := by
      rw [hHs]
      simp only
      by_cases hj : br j = none
      · rw [if_pos hj, if_pos]
        intro i hi
        by_cases e : i = j
        · rw [e]; exact hj
        · exact hp i (by omega)
      · rw [if_neg hj, if_neg]
        exact fun h => hj (h j (by omega))
    rw [e1, e2]
    exact hy) (fun j i hi => by
    obtain ⟨h1, h2⟩ := hk i hi
    rw [hHs]
    simp only
    split
    · rw [Hp.upd_ne _ _ h1]; exact hfree j i ((List.suffix_cons _ _).trans hi)
    · rw [Hp.upd_ne _ _ h2]; exact hfree j i ((List.suffix_cons _ _).trans hi))
  have hHs0 : Hs 0 = H.upd idr (some .tok) := by
    rw [hHs]
    simp only
    rw [if_pos (fun i hi => by omega), h0]
  have hargs : RepL G1 ([.clo (.yield (w.heap.size + 1)) [] []] ++ caps) (#[Value.func (.yield (w.heap.size + 1)) #[] #[]] ++ ca.toArray).toList := by
    have h1 : RepL G1 [.clo (.yield (w.heap.size + 1)) [] []] [.func (.yield (w.heap.size + 1)) #[] #[]] := repL_one (by simp only [Rep]; exact ⟨[], [], rfl, by simp [RepL], by simp [RepL]⟩)
    have := RepL.append h1 (RepL.mono hle1 _ _ hca)
    simpa using this
  obtain ⟨⟨fnn, cc, k1, k2, k3⟩, hcall⟩ := hcall
  refine ⟨w.heap.size + 1, [mkMark w.heap.size], w1, { target := .fn (.func gf) ca.toArray, args := #[Value.func (.yield (w.heap.size + 1)) #[] #[]] }, w1, gf, #[Value.func (.yield (w.heap.size + 1)) #[] #[]] ++ ca.toArray, w1, ?_, ?_, fun _ _ => trivial, ?_, fun hh => (by cases hh), ?_⟩
  · rw [hw1, hrec]
    exact run_enterLoop_outer _ _ _ _ _
  · simp only [resolve, hev]
    simp [go_sem]
  · simp [invoke, callFunc, program, Sem.run, k1, k2, by simpa using k3]
  · refine calls_fz (hcall G1 w1 _ (by rw [hHs0]; exact q4) hfr1 hargs _ fun G' w' V hl' hn' hs' hv' => ?_)
    -- behind the loop
    have hle : G.Le G' := hle1.trans hl'
    have hg : w0.G.Le G' := hs.g.trans hle
    have hNF : NewF p n G G' := fun i hi => by
      have hi1 : ¬ (n :: p) <:+ i.key := fun h => hi ⟨n, Nat.le_refl _, h⟩
      have hi2 : ¬ (1 :: n :: p) <:+ i.key := fun h => hi1 ((List.suffix_cons _ _).trans h)
      have g1 := hnew1 i hi1
      have g2 := hn' i hi2
      exact ⟨g2.1.trans g1.1, g2.2.trans g1.2⟩
    have hFF : FreshFrom G' p (n + 1) := fun m hm i hi => by
      have hno : ¬ (n :: p) <:+ i.key := fun h => by
        have := (List.suffix_of_suffix_length_le h hi (by simp)).eq_of_length (by simp)
        simp at this
        omega
      have g1 := hnew1 i hno
      have g2 := hn' i fun h => hno ((List.suffix_cons _ _).trans h)
      rw [g2.1, g2.2, g1.1, g1.2]
      exact hf m (by omega) i hi
    have hDef : DefOk G0 G' ([mkMark w.heap.size] ++ a.defers) := by
      obtain ⟨d1, Ds, d2, d3, d4⟩ := hd
      refine ⟨d1.trans hle, w.heap.size :: Ds, by rw [d2]; rfl, List.nodup_cons.2 ⟨fun hm => ?_, d3⟩, fun D hD => ?_⟩
      · have := (d4 _ hm).1
        rw [hρG _ (Nat.le_refl _)] at this
        cases this
      · rcases List.mem_cons.1 hD with rfl | hD
        · refine ⟨hl'.ρ _ _ hρD, ?_⟩
          cases e : G0.g.ρ w.heap.size with
          | none => rfl
          | some L' =>
            have := d1.ρ _ _ e
            rw [hρG _ (Nat.le_refl _)] at this
            cases this
        · exact ⟨hle.ρ _ _ (d4 D hD).1, (d4 D hD).2⟩
    have hρ' := hl'.ρ _ _ hρl
    obtain ⟨r1, o, r2, _, r4⟩ := hs'.r _ _ hρ'
    have endS : ∀ (Hx : Hp) (rr : Loop) (idf : Id), (idf = idr ∨ idf = idd) → Hx idr = none → Hx idd = none → Sim ⟨w0.w, G1⟩ G' (Hx.upd idf (some .tok)) w' → w'.heap[w.heap.size + 1]? = some (.loop rr) → ∀ o', (∀ cs T f, o' ≠ .cells cs T f) → Sim w0 G' Hx (w'.putObj (w.heap.size + 1) o') := by
      intro Hx rr idf hidf n1 n2 hsx hrr o' ho'
      have hlex : Hx.Le (Hx.upd idf (some .tok)) := Hp.le_upd (Hp.Le.refl _) (by rcases hidf with rfl | rfl <;> assumption)
      have h1 := (hsx.forget hlex).putObj (o' := o') hrr (hnl _) (show (⟨w0.w, G1⟩ : Base).heap.size ≤ w.heap.size + 1 by show w0.heap.size ≤ _; omega) ho' (fun L' e x hx => by
        rw [hρ'] at e
        cases e
        have := r4 x hx
        subst hL
        simp only [List.mem_cons, List.not_mem_nil, or_false] at hx
        rcases hx with rfl | rfl
        · exact ⟨this.1, fun e => by rw [n1] at e; cases e⟩
        · exact ⟨this.1, fun e => by rw [n2] at e; cases e⟩)
      exact h1.base_of hg
    rcases first_stop br xs.length with hA | ⟨j, c, hj, hp, hc⟩
    · have hst : stops (fun j => (br j).isNone) 0 xs.length = xs.length := by
        have := stops_all (fun j => (br j).isNone) xs.length 0 fun i _ h2 => by simp [hA i (by omega)]
        simpa using this
      have hHm : Hs xs.length = (Hb xs.length).upd idr (some .tok) := by rw [hHs]; simp only; rw [if_pos hA]
      rw [hst, hHm] at hs'
      rw [hst, hHm] at r4
      have hrdy : w'.heap[w.heap.size + 1]? = some (.loop (rec .ready none)) := by
        have := (r4 (some idr, .loop (rec .ready none)) (by rw [hL]; simp)).2 (Hp.upd_same _ _ _)
        rw [r2, this]
      refine ⟨none, _, by have := run_endLoop (P := P) hrdy (by rw [hrec]; simp [mkRec]); rw [this, hrec]; rfl, ?_⟩
      exact hB .normal ⟨t, n + 1, Hb xs.length⟩ G' _ { a with defers := [mkMark w.heap.size] ++ a.defers } (hall hA) hle hNF (endS _ _ idr (.inl rfl) (hfree _ _ hsr) (hfree _ _ hsd) hs' hrdy _ (hnl _)) (RepL.mono hle _ _ hr) hDef hFF (Nat.le_succ _) _ rfl
    · have hst : stops (fun j => (br j).isNone) 0 xs.length = j + 1 := stops_at _ j (by simp [hc]) xs.length 0 (by omega) (by omega) fun i _ h2 => by simp [hp i h2]
      have hHm : Hs (j + 1) = (Hb (j + 1)).upd idd (some .tok) := by
        rw [hHs]
        simp only
        rw [if_neg]
        intro h
        rw [h j (by omega)] at hc
        cases hc
      rw [hst, hHm] at hs'
      rw [hst, hHm] at r4
      have hdone : w'.heap[w.heap.size + 1]? = some (.loop (rec .done (some cst.code))) := by
        have := (r4 (some idd, .loop (rec .done (some cst.code))) (by rw [hL]; simp)).2 (Hp.upd_same _ _ _)
        rw [r2, this]
      have hcc := hcst j c hj hp hc
      subst hcc
      refine ⟨some c.code, _, by have := run_endLoop (P := P) hdone (by rw [hrec]; simp [mkRec]); rw [this, hrec]; rfl, ?_⟩
      have hend := hB c ⟨t, n + 1, Hb (j + 1)⟩ G' _ { a with defers := [mkMark w.heap.size] ++ a.defers } (hstop j c hj hp hc) hle hNF (endS _ _ idd (.inr rfl) (hfree _ _ hsr) (hfree _ _ hsd) hs' hdone (.loop { rec .done (some c.code) with state := .exhausted }) (hnl _)) (by cases c <;> first | exact RepL.mono hle _ _ hr | exact .inr (RepL.mono hle _ _ hr)) hDef hFF (Nat.le_succ _)
      subst hrec
      cases c with
      | normal => exact absurd hc (hbr j)
      | ret => exact wpIn_ret (hend _ rfl)
      | exit id => exact wpIn_exit (hend _ rfl)
      | panic v => exact absurd hc (hbp j v)
/-- The same, of which the end is told. -/
theorem rangeDet {p : List Nat} {g : Operand} {ps : Array Tmp} {assign body : Code} {t : List AV} {n : Nat} {H : Hp} {R : AEx → FS → Prop} {gf : FuncId} {caps : List AV} {xs : List (List AV)} (hg : evA t g = .clo (.func gf) [] caps) (hit : Iter P gf caps xs)
    (hlen : ∀ x ∈ xs, x.length = ps.size) (Hb : Nat → Hp) (br : Nat → Option AEx) (hbr : ∀ j, br j ≠ some .normal) (hbp : ∀ j v, br j ≠ some (.panic v)) (h0 : Hb 0 = H) (hfree : ∀ j i, (n :: p) <:+ i.key → Hb j i = none)
    (hbody : ∀ j x, xs[j]? = some x → (∀ i, i < j → br i = none) → ∀ l key (w0' : Base), w0'.w = w0.w → (n :: p) <:+ key → CodeOk P w0' (some l) key assign ⟨setPs t ps.toList x, 0, Hb j⟩ (thenR (fun s1 => ∀ w0'' : Base, w0''.w = w0.w → CodeOk P w0'' (some l) key body s1 (roundR (br j) (Hb (j + 1)))) fun _ _ => False))
    (hall : (∀ i, i < xs.length → br i = none) → R .normal ⟨t, n + 1, Hb xs.length⟩) (hstop : ∀ j c, j < xs.length → (∀ i, i < j → br i = none) → br j = some c → R c ⟨t, n + 1, Hb (j + 1)⟩) :
    DetOk P w0 none p (.rangeFunc g ps assign body) ⟨t, n, H⟩ R := by
  rcases first_stop br xs.length with hA | ⟨j, c, h1, h2, h3⟩
  · refine ⟨_, _, hall hA, rangeOk hg hit hlen Hb br hbr hbp h0 hfree hbody (fun _ => ⟨rfl, rfl⟩) fun j c hj _ hc => ?_⟩
    rw [hA j hj] at hc
    cases hc
  · refine ⟨_, _, hstop j c h1 h2 h3, rangeOk hg hit hlen Hb br hbr hbp h0 hfree hbody (fun hA => ?_) fun i d hi hp hd => ?_⟩
    · rw [hA j h1] at h3
      cases h3
    · have hij : i = j := by
        rcases Nat.lt_trichotomy i j with h | h | h
        · rw [h2 i h] at hd; cases hd
        · exact h
        · rw [hp j h] at h3; cases h3
      subst hij
      rw [h3] at hd
      cases hd
      exact ⟨rfl, rfl⟩
end
end Go.Proofs.YtkdendaohlnlcaaGreat.Av
