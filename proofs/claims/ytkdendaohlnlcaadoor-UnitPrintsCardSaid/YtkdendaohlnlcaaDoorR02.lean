/- What the functions of the reference of layer 2 answer. No condition. -/
import Derived.Test.YtkdendaohlnlcaaDoorEx
namespace Go.Proofs.YtkdendaohlnlcaaDoor.Av
set_option linter.unusedVariables false
set_option linter.unusedSimpArgs false
set_option maxRecDepth 4000
set_option maxHeartbeats 1000000
variable {w0 : Base} {k : List Nat} {H : Hp}

mutual
def E.sz : E → Nat
  | .mk _ _ ks => 1 + E.szL ks
def E.szL : List E → Nat
  | [] => 0
  | e :: es => e.sz + E.szL es
end
mutual
def E.dp : E → Nat
  | .mk _ _ ks => 1 + E.dpL ks
def E.dpL : List E → Nat
  | [] => 0
  | e :: es => max e.dp (E.dpL es)
end
def E.term (e : E) : Bool := e.kind == 1 || e.kind == 2

mutual
def E.ok : E → Prop
  | .mk _ _ ks => (ks.length : Int) ≤ 9223372036854775807 ∧ E.okL ks
def E.okL : List E → Prop
  | [] => True
  | e :: es => e.ok ∧ E.okL es
end
theorem E.okL_mem : ∀ (l : List E), E.okL l → ∀ x ∈ l, x.ok
  | e :: es, h, x, hx => by
    simp only [E.okL] at h
    rcases List.mem_cons.1 hx with rfl | hx
    · exact h.1
    · exact E.okL_mem es h.2 x hx
theorem E.ok_len {e : E} (h : e.ok) : (e.kids.length : Int) ≤ 9223372036854775807 := by cases e; exact h.1
theorem E.ok_kid {e : E} (h : e.ok) {i : Nat} {x : E} (hx : e.kids[i]? = some x) : x.ok := by
  cases e
  exact E.okL_mem _ h.2 x (List.mem_of_getElem? hx)
/-- What a kind asks: the greatest number, how many kids at least and at most, and whether these are terms. -/
def E.want (k : Int) : Option (Int × Nat × Nat × Bool) :=
  if k = 1 then some (63, 0, 0, true) else if k = 2 ∨ k = 3 then some (99, 0, 4, true) else if k = 4 then some (0, 2, 2, true) else if k = 5 then some (0, 1, 1, false)
  else if k = 6 ∨ k = 8 ∨ k = 9 then some (0, 2, 2, false) else if k = 7 ∨ k = 10 then some (63, 1, 1, false) else none
/-- Is the node by itself as it may be? -/
def E.loc (e : E) : Bool := match E.want e.kind with
  | some (mx, l, m, t) => decide (0 ≤ e.id) && decide (e.id ≤ mx) && decide (l ≤ e.kids.length) && decide (e.kids.length ≤ m) && e.kids.all fun x => x.term == t
  | none => false
mutual
def E.sh : E → Bool
  | .mk k i ks => E.loc (.mk k i ks) && E.shL ks
def E.shL : List E → Bool
  | [] => true
  | e :: es => e.sh && E.shL es
end
theorem E.shL_eq : ∀ l : List E, E.shL l = l.all E.sh
  | [] => rfl
  | e :: es => by simp [E.shL, E.shL_eq es]
theorem E.sh_eq (e : E) : e.sh = (e.loc && e.kids.all E.sh) := by cases e; simp [E.sh, E.kids, E.shL_eq]
theorem all_and (p q : E → Bool) : ∀ l : List E, (l.all fun x => p x && q x) = (l.all p && l.all q)
  | [] => rfl
  | e :: es => by
    simp only [List.all_cons, all_and p q es]
    cases p e <;> cases q e <;> cases es.all p <;> cases es.all q <;> rfl
theorem E.sh_all (e : E) : e.sh = match E.want e.kind with
    | some (mx, l, m, t) => decide (0 ≤ e.id) && decide (e.id ≤ mx) && (decide ((l : Int) ≤ e.kids.length) && decide ((e.kids.length : Int) ≤ m) && e.kids.all fun x => x.term == t && x.sh)
    | none => false := by
  rw [E.sh_eq]
  unfold E.loc
  split
  · rw [all_and]
    simp only [Int.ofNat_le, Bool.and_assoc]
  · rfl
theorem E.sz_eq (e : E) : e.sz = 1 + E.szL e.kids := by cases e; simp [E.sz, E.kids]
theorem E.dp_eq (e : E) : e.dp = 1 + E.dpL e.kids := by cases e; simp [E.dp, E.kids]
theorem E.sz_pos (e : E) : 1 ≤ e.sz := by rw [E.sz_eq]; omega
theorem E.dp_pos (e : E) : 1 ≤ e.dp := by rw [E.dp_eq]; omega

theorem E.szL_take : ∀ (l : List E) (i : Nat) (x : E), l[i]? = some x → E.szL (l.take (i + 1)) = E.szL (l.take i) + x.sz
  | [], i, x, h => by simp at h
  | y :: l, 0, x, h => by simp at h; subst h; simp [E.szL]
  | y :: l, i + 1, x, h => by
    simp only [List.getElem?_cons_succ] at h
    simp only [List.take_succ_cons, E.szL, E.szL_take l i x h]
    omega
theorem E.dpL_take : ∀ (l : List E) (i : Nat) (x : E), l[i]? = some x → E.dpL (l.take (i + 1)) = max (E.dpL (l.take i)) x.dp
  | [], i, x, h => by simp at h
  | y :: l, 0, x, h => by simp at h; subst h; simp [E.dpL]
  | y :: l, i + 1, x, h => by
    simp only [List.getElem?_cons_succ] at h
    simp only [List.take_succ_cons, E.dpL, E.dpL_take l i x h]
    omega
theorem E.dpL_le : ∀ (l : List E) (i : Nat), E.dpL (l.take i) ≤ E.dpL l
  | l, 0 => by simp [E.dpL]
  | [], i + 1 => by simp
  | y :: l, i + 1 => by
    have := E.dpL_le l i
    simp only [List.take_succ_cons, E.dpL]
    omega
theorem E.szL_ge : ∀ (l : List E) (i : Nat), i ≤ l.length → i ≤ E.szL (l.take i)
  | l, 0, h => by omega
  | [], i + 1, h => by simp at h
  | y :: l, i + 1, h => by
    simp only [List.length_cons] at h
    have := E.szL_ge l i (by omega)
    have := y.sz_pos
    simp only [List.take_succ_cons, E.szL]
    omega
theorem E.szL_le : ∀ (l : List E) (i : Nat), E.szL (l.take i) ≤ E.szL l
  | l, 0 => by simp [E.szL]
  | [], i + 1 => by simp
  | y :: l, i + 1 => by
    have := E.szL_le l i
    simp only [List.take_succ_cons, E.szL]
    omega
theorem E.kid_sz {e : E} {i : Nat} {x : E} (hx : e.kids[i]? = some x) : x.sz < e.sz := by
  have := E.szL_take e.kids i x hx
  have := E.szL_le e.kids (i + 1)
  have := e.sz_eq
  omega
theorem sfx2 (a b : Nat) (k : List Nat) : k <:+ a :: b :: k := ⟨[a, b], rfl⟩
theorem sfx1 (a : Nat) (k : List Nat) : k <:+ a :: k := ⟨[a], rfl⟩
attribute [go_sem] Value.oneCell'
theorem E.kid (e : E) {i : Nat} (h : i < e.kids.length) : ∃ x, e.kids[i]? = some x ∧ (e.kids.map E.cells).getD i [] = [.int .i64 x.kind, .int .i64 x.id, .list .none (x.kids.map E.cells)] :=
  ⟨e.kids[i], by simp [h], by rw [← E.cells_eq]; simp [List.getD_eq_getElem?_getD, h]⟩

theorem term_call (e : E) : CallAt Tryd.prog w0 k 58 [e.av] H H (.bool e.term) := by
  refine callAt tabOk specOk_none mixed Tryd.func58 rfl rfl Tryd.results58 Tryd.ntmps58 (by simp) [] ?_
  intro hfr t hl ht
  simp only [At, Nat.reduceAdd, List.cons_append, List.nil_append] at ht
  simp (config := {contextual := true, maxSteps := 5000000}) only [go_sem, Nat.reduceAdd, Nat.reduceLT, Nat.reduceBEq, Nat.reduceSub, Nat.reduceMul, Nat.reduceLeDiff, Int.reduceToNat, Nat.reduceEqDiff, Nat.reduceMod, ht, hl]
  simp +contextual [E.term] <;> grind

def specSz (N : Nat) : Spec := Spec.no.add 59 (sp2 dE dI (fun e m => 1 ≤ m ∧ m ≤ 1001 ∧ e.sz < N) fun e m => .int .i64 (min (e.sz : Int) m))
theorem szUp_step (N : Nat) (hS : SpecOk Tryd.prog w0 (specSz N)) (e : E) (m : Int) (h1 : 1 ≤ m) (h2 : m ≤ 1001) (h3 : e.sz < N + 1) : CallAt Tryd.prog w0 k 59 [e.av, .int .i64 m] H H (.int .i64 (min (e.sz : Int) m)) := by
  refine callAt tabOk hS mixed Tryd.func59 rfl rfl Tryd.results59 Tryd.ntmps59 (by simp) [] ?_
  intro hfr t hl ht
  simp only [At, Nat.reduceAdd, List.cons_append, List.nil_append] at ht
  simp (config := {contextual := true, maxSteps := 5000000}) only [go_sem, Nat.reduceAdd, Nat.reduceLT, Nat.reduceBEq, Nat.reduceSub, Nat.reduceMul, Nat.reduceLeDiff, Int.reduceToNat, Nat.reduceEqDiff, Nat.reduceMod, ht, hl]
  refine loop_inv tabOk hS mixed [] (fun j x => ∃ i : Nat, x.tmps.length = 32 ∧ x.tmps.getD 1 AV.undef = .int .i64 m ∧ x.tmps.getD 5 AV.undef = .int .i64 (min (1 + E.szL (e.kids.take i) : Nat) m) ∧
    x.tmps.getD 9 AV.undef = .list .none (e.kids.map E.cells) ∧ x.tmps.getD 10 AV.undef = .int .i64 e.kids.length ∧ x.tmps.getD 11 AV.undef = .int .i64 i ∧ H.Le x.H ∧ i + j = e.kids.length) e.kids.length ⟨0, ?_⟩ ?_
  · simp (config := {contextual := true, maxSteps := 5000000}) only [go_sem, Nat.reduceAdd, Nat.reduceLT, Nat.reduceBEq, Nat.reduceSub, Nat.reduceMul, Nat.reduceLeDiff, Int.reduceToNat, Nat.reduceEqDiff, Nat.reduceMod, ht, hl]
    simp [E.szL]
    omega
  · rintro j ⟨t, n, H'⟩ ⟨i, hl, h1', h5, h9, h10, h11, hH, hij⟩
    simp only at hl h1' h5 h9 h10 h11 hH
    by_cases hi : i < e.kids.length
    · have hd : decide ((i : Int) < (e.kids.length : Int)) = true := by simp [hi]
      obtain ⟨x, hx, he⟩ := E.kid e hi
      simp (config := {contextual := true, maxSteps := 5000000}) only [go_sem, Nat.reduceAdd, Nat.reduceLT, Nat.reduceBEq, Nat.reduceSub, Nat.reduceMul, Nat.reduceLeDiff, Int.reduceToNat, Nat.reduceEqDiff, Nat.reduceMod, he, toE_at, specSz, h1', h5, h9, h10, h11, hl, hd]
      have hn : H ⟨3, 2 :: (n + 1) :: k, 25⟩ = none := hfr _ (sfx2 _ _ _)
      have hle : ∀ a, H.Le (H'.upd ⟨3, 2 :: (n + 1) :: k, 25⟩ a) := fun a => Hp.le_upd hH hn
      have e1 := E.szL_take e.kids i x hx
      have e2 := E.szL_ge e.kids i (by omega)
      have e3 := E.szL_le e.kids (i + 1)
      have e4 := e.sz_eq
      have e5 := x.sz_pos
      refine ⟨⟨by omega, by omega⟩, fun hc => ⟨?_, hle _⟩, fun hc => ⟨⟨?_, ?_, ?_⟩, j - 1, by omega, i + 1, ?_, ?_, hle _, by omega⟩⟩
      all_goals simp only [decide_eq_true_eq, decide_eq_false_iff_not] at hc
      · omega
      · rw [wrap_i64] <;> omega
      · rw [wrap_i64] <;> omega
      · omega
      · rw [wrap_i64 (n := m - _) (by omega) (by omega), wrap_i64] <;> omega
      · rw [wrap_i64] <;> omega
    · have hd : decide ((i : Int) < (e.kids.length : Int)) = false := by simp; omega
      simp (config := {contextual := true, maxSteps := 5000000}) only [go_sem, Nat.reduceAdd, Nat.reduceLT, Nat.reduceBEq, Nat.reduceSub, Nat.reduceMul, Nat.reduceLeDiff, Int.reduceToNat, Nat.reduceEqDiff, Nat.reduceMod, h1', h5, h9, h10, h11, hl, hd]
      have e4 := e.sz_eq
      have e6 : e.kids.take i = e.kids := List.take_of_length_le (by omega)
      rw [e6]
      refine ⟨fun hc => ⟨?_, hH⟩, fun hc => ⟨?_, hH⟩⟩ <;> simp only [decide_eq_true_eq, decide_eq_false_iff_not] at hc <;> omega
theorem specSz_ok : ∀ N, SpecOk Tryd.prog w0 (specSz N)
  | 0 => Spec.no_ok.add (sp2_ok fun e m h => by omega)
  | N + 1 => Spec.no_ok.add (sp2_ok fun e m h k H => szUp_step N (specSz_ok N) e m h.1 h.2.1 h.2.2)

def specDp (N : Nat) : Spec := Spec.no.add 60 (sp2 dE dI (fun e m => 1 ≤ m ∧ m ≤ 101 ∧ e.ok ∧ e.sz < N) fun e m => .int .i64 (min (e.dp : Int) m))
theorem dpUp_step (N : Nat) (hS : SpecOk Tryd.prog w0 (specDp N)) (e : E) (m : Int) (h1 : 1 ≤ m) (h2 : m ≤ 101) (hok : e.ok) (h3 : e.sz < N + 1) : CallAt Tryd.prog w0 k 60 [e.av, .int .i64 m] H H (.int .i64 (min (e.dp : Int) m)) := by
  refine callAt tabOk hS mixed Tryd.func60 rfl rfl Tryd.results60 Tryd.ntmps60 (by simp) [] ?_
  intro hfr t hl ht
  simp only [At, Nat.reduceAdd, List.cons_append, List.nil_append] at ht
  simp (config := {contextual := true, maxSteps := 5000000}) only [go_sem, Nat.reduceAdd, Nat.reduceLT, Nat.reduceBEq, Nat.reduceSub, Nat.reduceMul, Nat.reduceLeDiff, Int.reduceToNat, Nat.reduceEqDiff, Nat.reduceMod, ht, hl]
  have e4 := e.dp_eq
  refine ⟨fun hc => ?_, fun hc => ?_⟩ <;> simp only [decide_eq_true_eq, decide_eq_false_iff_not] at hc
  · omega
  refine loop_inv tabOk hS mixed [] (fun j x => ∃ i : Nat, x.tmps.length = 35 ∧ x.tmps.getD 1 AV.undef = .int .i64 m ∧ x.tmps.getD 5 AV.undef = .int .i64 (E.dpL (e.kids.take i) : Nat) ∧ (E.dpL (e.kids.take i) : Int) < m - 1 ∧
    x.tmps.getD 13 AV.undef = .list .none (e.kids.map E.cells) ∧ x.tmps.getD 14 AV.undef = .int .i64 e.kids.length ∧ x.tmps.getD 15 AV.undef = .int .i64 i ∧ H.Le x.H ∧ i + j = e.kids.length) e.kids.length ⟨0, ?_⟩ ?_
  · simp (config := {contextual := true, maxSteps := 5000000}) only [go_sem, Nat.reduceAdd, Nat.reduceLT, Nat.reduceBEq, Nat.reduceSub, Nat.reduceMul, Nat.reduceLeDiff, Int.reduceToNat, Nat.reduceEqDiff, Nat.reduceMod, ht, hl]
    simp [E.dpL]
    omega
  · rintro j ⟨t, n, H'⟩ ⟨i, hl, h1', h5, hlt, h13, h14, h15, hH, hij⟩
    simp only at hl h1' h5 h13 h14 h15 hH
    by_cases hi : i < e.kids.length
    · have hd : decide ((i : Int) < (e.kids.length : Int)) = true := by simp [hi]
      have hw : IntKind.i64.wrap (m - 1) = m - 1 := wrap_i64 (by omega) (by omega)
      have hw2 : IntKind.i64.wrap ((i : Int) + 1) = ((i + 1 : Nat) : Int) := by
        have := E.ok_len hok
        rw [wrap_i64] <;> omega
      obtain ⟨x, hx, he⟩ := E.kid e hi
      simp (config := {contextual := true, maxSteps := 5000000}) only [go_sem, Nat.reduceAdd, Nat.reduceLT, Nat.reduceBEq, Nat.reduceSub, Nat.reduceMul, Nat.reduceLeDiff, Int.reduceToNat, Nat.reduceEqDiff, Nat.reduceMod, he, toE_at, specDp, h1', h5, h13, h14, h15, hl, hd, hw, hw2]
      have hn : H ⟨3, 2 :: (n + 1) :: k, 25⟩ = none := hfr _ (sfx2 _ _ _)
      have hle : ∀ a, H.Le (H'.upd ⟨3, 2 :: (n + 1) :: k, 25⟩ a) := fun a => Hp.le_upd hH hn
      have e1 := E.dpL_take e.kids i x hx
      have e3 := E.dpL_le e.kids (i + 1)
      have e5 := x.dp_pos
      have e6 := E.kid_sz hx
      refine ⟨⟨by omega, by omega⟩, ⟨by omega, by omega, E.ok_kid hok hx, by omega⟩, fun a => ⟨fun b => ⟨?_, hle _⟩, fun b => ⟨j - 1, by omega, i + 1, ?_, ?_, rfl, hle _, by omega⟩⟩, fun a => ⟨fun b => ⟨?_, hle _⟩, fun b => ⟨j - 1, by omega, i + 1, ?_, ?_, rfl, hle _, by omega⟩⟩⟩
      all_goals
        simp only [decide_eq_true_eq, decide_eq_false_iff_not] at a b
        omega
    · have hd : decide ((i : Int) < (e.kids.length : Int)) = false := by simp; omega
      simp (config := {contextual := true, maxSteps := 5000000}) only [go_sem, Nat.reduceAdd, Nat.reduceLT, Nat.reduceBEq, Nat.reduceSub, Nat.reduceMul, Nat.reduceLeDiff, Int.reduceToNat, Nat.reduceEqDiff, Nat.reduceMod, h1', h5, h13, h14, h15, hl, hd]
      have e6 : e.kids.take i = e.kids := List.take_of_length_le (by omega)
      rw [e6] at hlt ⊢
      refine ⟨?_, hH⟩
      rw [wrap_i64] <;> omega
theorem specDp_ok : ∀ N, SpecOk Tryd.prog w0 (specDp N)
  | 0 => Spec.no_ok.add (sp2_ok fun e m h => by omega)
  | N + 1 => Spec.no_ok.add (sp2_ok fun e m h k H => dpUp_step N (specDp_ok N) e m h.1 h.2.1 h.2.2.1 h.2.2.2)

def specSh (N M : Nat) : Spec :=
  ((Spec.no.add 66 (sp1 dE (fun e => e.sz < N) fun e => .bool e.sh)).add 69 (sp4 dE dI dI dB (fun e _ m _ => m ≤ 99 ∧ e.sz < M) fun e l m t => .bool (decide (l ≤ e.kids.length) && decide (e.kids.length ≤ m) && e.kids.all fun x => x.term == t && x.sh))).add
    58 (sp1 dE (fun _ => True) fun e => .bool e.term)
theorem kids_step (N M : Nat) (hS : SpecOk Tryd.prog w0 (specSh N M)) (e : E) (l m : Int) (ts : Bool) (h1 : m ≤ 99) (h3 : e.sz < N + 1) :
    CallAt Tryd.prog w0 k 69 [e.av, .int .i64 l, .int .i64 m, .bool ts] H H (.bool (decide (l ≤ e.kids.length) && decide (e.kids.length ≤ m) && e.kids.all fun x => x.term == ts && x.sh)) := by
  refine callAt tabOk hS mixed Tryd.func69 rfl rfl Tryd.results69 Tryd.ntmps69 (by simp) [] ?_
  intro hfr t hl ht
  simp only [At, Nat.reduceAdd, List.cons_append, List.nil_append] at ht
  simp (config := {contextual := true, maxSteps := 5000000}) only [go_sem, Nat.reduceAdd, Nat.reduceLT, Nat.reduceBEq, Nat.reduceSub, Nat.reduceMul, Nat.reduceLeDiff, Int.reduceToNat, Nat.reduceEqDiff, Nat.reduceMod, ht, hl]
  refine ⟨fun a => ⟨fun b => ?_, fun b => ?_⟩, fun a => ?_⟩ <;> simp only [decide_eq_true_eq, decide_eq_false_iff_not] at a
  · simp only [decide_eq_true_eq] at b
    have : decide ((e.kids.length : Int) ≤ m) = false := by simp; omega
    simp [this]
  · simp only [decide_eq_false_iff_not] at b
    have d1 : decide (l ≤ (e.kids.length : Int)) = true := by simp; omega
    have d2 : decide ((e.kids.length : Int) ≤ m) = true := by simp; omega
    simp only [d1, d2, Bool.true_and]
    refine loop_inv tabOk hS mixed [] (fun j x => ∃ i : Nat, x.tmps.length = 40 ∧ x.tmps.getD 3 AV.undef = .bool ts ∧ (∀ i' x, i' < i → e.kids[i']? = some x → (x.term == ts && x.sh) = true) ∧
      x.tmps.getD 24 AV.undef = .list .none (e.kids.map E.cells) ∧ x.tmps.getD 25 AV.undef = .int .i64 e.kids.length ∧ x.tmps.getD 26 AV.undef = .int .i64 i ∧ H.Le x.H ∧ i + j = e.kids.length) e.kids.length ⟨0, ?_⟩ ?_
    · simp (config := {contextual := true, maxSteps := 5000000}) only [go_sem, Nat.reduceAdd, Nat.reduceLT, Nat.reduceBEq, Nat.reduceSub, Nat.reduceMul, Nat.reduceLeDiff, Int.reduceToNat, Nat.reduceEqDiff, Nat.reduceMod, ht, hl]
      simp
    · rintro j ⟨t, n, H'⟩ ⟨i, hl, h3', hall, h24, h25, h26, hH, hij⟩
      simp only at hl h3' h24 h25 h26 hH
      by_cases hi : i < e.kids.length
      · have hd : decide ((i : Int) < (e.kids.length : Int)) = true := by simp [hi]
        have hw2 : IntKind.i64.wrap ((i : Int) + 1) = ((i + 1 : Nat) : Int) := by rw [wrap_i64] <;> omega
        obtain ⟨x, hx, he⟩ := E.kid e hi
        simp (config := {contextual := true, maxSteps := 5000000}) only [go_sem, Nat.reduceAdd, Nat.reduceLT, Nat.reduceBEq, Nat.reduceSub, Nat.reduceMul, Nat.reduceLeDiff, Int.reduceToNat, Nat.reduceEqDiff, Nat.reduceMod, he, toE_at, specSh, h3', h24, h25, h26, hl, hd, hw2]
        have hn : H ⟨3, 2 :: (n + 1) :: k, 25⟩ = none := hfr _ (sfx2 _ _ _)
        have hle : ∀ a, H.Le (H'.upd ⟨3, 2 :: (n + 1) :: k, 25⟩ a) := fun a => Hp.le_upd hH hn
        have e6 := E.kid_sz hx
        have bad : (x.term == ts && x.sh) = false → (false = e.kids.all fun x => x.term == ts && x.sh) := fun h => by
          symm
          rw [List.all_eq_false]
          exact ⟨x, List.mem_of_getElem? hx, by simp [h]⟩
        refine ⟨⟨by omega, by omega⟩, fun a => ⟨by omega, fun b => ⟨bad (by simp_all), hle _⟩, fun b => ⟨j - 1, by omega, i + 1, fun i' y hi' hy => ?_, rfl, hle _, by omega⟩⟩, fun a => ⟨bad (by simp_all), hle _⟩⟩
        by_cases e : i' = i
        · subst e
          rw [hx] at hy
          cases hy
          simp_all
        · exact hall i' y (by omega) hy
      · have hd : decide ((i : Int) < (e.kids.length : Int)) = false := by simp; omega
        simp (config := {contextual := true, maxSteps := 5000000}) only [go_sem, Nat.reduceAdd, Nat.reduceLT, Nat.reduceBEq, Nat.reduceSub, Nat.reduceMul, Nat.reduceLeDiff, Int.reduceToNat, Nat.reduceEqDiff, Nat.reduceMod, h3', h24, h25, h26, hl, hd]
        refine ⟨?_, hH⟩
        symm
        rw [List.all_eq_true]
        intro x hx
        obtain ⟨i', hi', hx'⟩ := List.getElem_of_mem hx
        exact hall i' x (by omega) (by rw [← hx']; simp)
  · have : decide (l ≤ (e.kids.length : Int)) = false := by simp; omega
    simp [this]
theorem shaped_step (N M : Nat) (hS : SpecOk Tryd.prog w0 (specSh N M)) (e : E) (h3 : e.sz < M) : CallAt Tryd.prog w0 k 66 [e.av] H H (.bool e.sh) := by
  refine callAt tabOk hS mixed Tryd.func66 rfl rfl Tryd.results66 Tryd.ntmps66 (by simp) [] ?_
  intro hfr t hl ht
  simp only [At, Nat.reduceAdd, List.cons_append, List.nil_append] at ht
  simp (config := {contextual := true, maxSteps := 5000000}) only [go_sem, Nat.reduceAdd, Nat.reduceLT, Nat.reduceBEq, Nat.reduceSub, Nat.reduceMul, Nat.reduceLeDiff, Int.reduceToNat, Nat.reduceEqDiff, Nat.reduceMod, ht, hl, toE_at, specSh]
  have hneg : e.id < 0 → e.sh = false := fun h => by
    have d : decide (0 ≤ e.id) = false := by simp; omega
    rw [E.sh_all, d]
    split <;> simp
  refine ⟨fun a => (hneg (by simpa using a)).symm, ?_⟩
  rw [E.sh_all]
  simp only [E.want]
  (repeat' (first | apply And.intro | intro _)) <;> simp_all <;> omega
theorem specSh_ok : ∀ N, SpecOk Tryd.prog w0 (specSh N N)
  | 0 => ((Spec.no_ok.add (sp1_ok fun e h => by omega)).add (sp4_ok fun e l m t h => by omega)).add (sp1_ok fun e _ k H => term_call e)
  | N + 1 => by
    have hk : AnsOk Tryd.prog w0 69 _ := sp4_ok (A := dE) (B := dI) (C := dI) (D := dB) (φ := fun e _ m _ => m ≤ 99 ∧ e.sz < N + 1) fun e l m t h k H => kids_step N N (specSh_ok N) e l m t h.1 h.2
    have h0 : AnsOk Tryd.prog w0 66 _ := sp1_ok (A := dE) (φ := fun e => e.sz < N) (v := fun e => .bool e.sh) fun e h k H => (specSh_ok N) _ [e.av] (e.sz < N) (.bool e.sh) (by simp (config := {contextual := true, maxSteps := 5000000}) only [go_sem, Nat.reduceAdd, Nat.reduceLT, Nat.reduceBEq, Nat.reduceSub, Nat.reduceMul, Nat.reduceLeDiff, Int.reduceToNat, Nat.reduceEqDiff, Nat.reduceMod, specSh, toE_at]) h k H
    have h1 : SpecOk Tryd.prog w0 (specSh N (N + 1)) := ((Spec.no_ok.add h0).add hk).add (sp1_ok fun e _ k H => term_call e)
    exact ((Spec.no_ok.add (sp1_ok fun e h k H => shaped_step N (N + 1) h1 e h)).add hk).add (sp1_ok fun e _ k H => term_call e)

/-- The functions of this layer, with what they need. -/
def E.right (e : E) : Int := if 1000 < e.sz then 20 else if 100 < e.dp then 21 else if e.sh then 0 else 22
def E.wantF (e : E) : Int := if e.right = 0 then (if e.term then 40 else 0) else e.right
def E.written (e : E) : Int := if e.wantF = 0 then (if 300 < e.sz then 20 else if 30 < e.dp then 21 else 0) else e.wantF
def spec02a : Spec := ((Spec.no.add 59 (sp2 dE dI (fun e m => 1 ≤ m ∧ m ≤ 1001) fun e m => .int .i64 (min (e.sz : Int) m))).add
  60 (sp2 dE dI (fun e m => 1 ≤ m ∧ m ≤ 101 ∧ e.ok) fun e m => .int .i64 (min (e.dp : Int) m))).add
  66 (sp1 dE (fun _ => True) fun e => .bool e.sh)
theorem spec02a_ok : SpecOk Tryd.prog w0 spec02a :=
  ((Spec.no_ok.add (sp2_ok fun e m h k H => szUp_step e.sz (specSz_ok _) e m h.1 h.2 (Nat.lt_succ_self _))).add (sp2_ok fun e m h k H => dpUp_step e.sz (specDp_ok _) e m h.1 h.2.1 h.2.2 (Nat.lt_succ_self _))).add
    (sp1_ok fun e _ k H => specSh_ok (e.sz + 1) _ [e.av] (e.sz < e.sz + 1) (.bool e.sh) (by simp (config := {contextual := true, maxSteps := 5000000}) only [go_sem, Nat.reduceAdd, Nat.reduceLT, Nat.reduceBEq, Nat.reduceSub, Nat.reduceMul, Nat.reduceLeDiff, Int.reduceToNat, Nat.reduceEqDiff, Nat.reduceMod, specSh, toE_at]) (Nat.lt_succ_self _) k H)
theorem size_call (e : E) : CallAt Tryd.prog w0 k 42 [e.av] H H (.int .i64 (min (e.sz : Int) 1001)) := by
  refine callAt tabOk spec02a_ok mixed Tryd.func42 rfl rfl Tryd.results42 Tryd.ntmps42 (by simp) [] ?_
  intro hfr t hl ht
  simp only [At, Nat.reduceAdd, List.cons_append, List.nil_append] at ht
  simp (config := {contextual := true, maxSteps := 5000000}) only [go_sem, Nat.reduceAdd, Nat.reduceLT, Nat.reduceBEq, Nat.reduceSub, Nat.reduceMul, Nat.reduceLeDiff, Int.reduceToNat, Nat.reduceEqDiff, Nat.reduceMod, ht, hl, spec02a]
  simp
theorem depth_call (e : E) (hok : e.ok) : CallAt Tryd.prog w0 k 43 [e.av] H H (.int .i64 (min (e.dp : Int) 101)) := by
  refine callAt tabOk spec02a_ok mixed Tryd.func43 rfl rfl Tryd.results43 Tryd.ntmps43 (by simp) [] ?_
  intro hfr t hl ht
  simp only [At, Nat.reduceAdd, List.cons_append, List.nil_append] at ht
  simp (config := {contextual := true, maxSteps := 5000000}) only [go_sem, Nat.reduceAdd, Nat.reduceLT, Nat.reduceBEq, Nat.reduceSub, Nat.reduceMul, Nat.reduceLeDiff, Int.reduceToNat, Nat.reduceEqDiff, Nat.reduceMod, ht, hl, spec02a]
  simp [hok]
def spec02b : Spec := ((spec02a.add 42 (sp1 dE (fun _ => True) fun e => .int .i64 (min (e.sz : Int) 1001))).add
  43 (sp1 dE (fun e => e.ok) fun e => .int .i64 (min (e.dp : Int) 101))).add
  58 (sp1 dE (fun _ => True) fun e => .bool e.term)
theorem spec02b_ok : SpecOk Tryd.prog w0 spec02b := ((spec02a_ok.add (sp1_ok fun e _ k H => size_call e)).add (sp1_ok fun e h k H => depth_call e h)).add (sp1_ok fun e _ k H => term_call e)
theorem right02_call (e : E) (hok : e.ok) : CallAt Tryd.prog w0 k 57 [e.av] H H (.int .i64 e.right) := by
  refine callAt tabOk spec02b_ok mixed Tryd.func57 rfl rfl Tryd.results57 Tryd.ntmps57 (by simp) [] ?_
  intro hfr t hl ht
  simp only [At, Nat.reduceAdd, List.cons_append, List.nil_append] at ht
  simp (config := {contextual := true, maxSteps := 5000000}) only [go_sem, Nat.reduceAdd, Nat.reduceLT, Nat.reduceBEq, Nat.reduceSub, Nat.reduceMul, Nat.reduceLeDiff, Int.reduceToNat, Nat.reduceEqDiff, Nat.reduceMod, ht, hl, spec02b, spec02a]
  unfold E.right
  (repeat' (first | apply And.intro | intro _)) <;> simp_all <;> omega
end Go.Proofs.YtkdendaohlnlcaaDoor.Av
