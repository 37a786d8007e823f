/- A part of the theory and of the contracts: P02, P02b, P02c, P07, P07b, P07c, P04, P04b, P04c, P05, R08b, R08p, P05b, P05c, P07d. No condition. -/
import Derived.Test.YtkdendaohlnlcaaGreatMd
import Derived.Test.YtkdendaohlnlcaaGreatMc
/- What the functions of package expr answer. No condition. -/
namespace Go.Proofs.YtkdendaohlnlcaaGreat.Av
set_option linter.unusedVariables false
set_option linter.unusedSimpArgs false
set_option maxRecDepth 4000
set_option maxHeartbeats 1000000
variable {w0 : Base} {k : List Nat} {H : Hp}

mutual
def E.nd (d : Int) : E → List (Int × E)
  | .mk k i ks => (d, .mk k i ks) :: E.ndL (IntKind.i64.wrap (d + 1)) ks
def E.ndL (d : Int) : List E → List (Int × E)
  | [] => []
  | e :: es => E.nd d e ++ E.ndL d es
end
theorem E.nd_eq (d : Int) (e : E) : e.nd d = (d, e) :: E.ndL (IntKind.i64.wrap (d + 1)) e.kids := by cases e; simp [E.nd, E.kids]

def allT (b : Nat → Bool) : Nat → Nat → Bool
  | _, 0 => true
  | j, n + 1 => b j && allT b (j + 1) n
theorem allT_iff (b : Nat → Bool) : ∀ (n j : Nat), allT b j n = true ↔ ∀ i, i < n → b (j + i) = true
  | 0, j => by simp [allT]
  | n + 1, j => by
    rw [allT, Bool.and_eq_true, allT_iff b n (j + 1)]
    constructor
    · rintro ⟨h1, h2⟩ i hi
      cases i with
      | zero => exact h1
      | succ i =>
        have := h2 i (by omega)
        rwa [show j + 1 + i = j + (i + 1) by omega] at this
    · intro h
      refine ⟨h 0 (by omega), fun i hi => ?_⟩
      rw [show j + 1 + i = j + (i + 1) by omega]
      exact h (i + 1) (by omega)
theorem allT_add (b : Nat → Bool) : ∀ (n m j : Nat), allT b j (n + m) = (allT b j n && allT b (j + n) m)
  | 0, m, j => by simp [allT]
  | n + 1, m, j => by
    rw [show n + 1 + m = (n + m) + 1 by omega, allT, allT, allT_add b n m (j + 1), show j + 1 + n = j + (n + 1) by omega, Bool.and_assoc]
theorem stops_add (b : Nat → Bool) : ∀ (n m j : Nat), stops b j (n + m) = if allT b j n then stops b (j + n) m else stops b j n
  | 0, m, j => by simp [allT]
  | n + 1, m, j => by
    rw [show n + 1 + m = (n + m) + 1 by omega, stops, allT, stops, stops_add b n m (j + 1), show j + 1 + n = j + (n + 1) by omega]
    cases b j <;> simp
theorem stops_of_allT (b : Nat → Bool) (n j : Nat) (h : allT b j n = true) : stops b j n = j + n := stops_all b n j fun i h1 h2 => by
  have := (allT_iff b n j).1 h (i - j) (by omega)
  rwa [show j + (i - j) = i by omega] at this

def Tells (P : Program) (w0 : Base) (k : List Nat) (l : Nat) (Hs : Nat → Hp) (b : Nat → Bool) (n0 : Nat) (xs : List (Int × E)) : Prop :=
  ∀ j x, xs[j]? = some x → (∀ i, i < j → b (n0 + i) = true) → ∀ key, k <:+ key → YieldIn P w0 key l [.int .i64 x.1, x.2.av] (Hs (n0 + j)) (Hs (n0 + j + 1)) (.bool (b (n0 + j)))

theorem E.ndL_take (d : Int) : ∀ (l : List E) (i : Nat) (x : E), l[i]? = some x → E.ndL d (l.take (i + 1)) = E.ndL d (l.take i) ++ E.nd d x
  | [], i, x, h => by simp at h
  | y :: l, 0, x, h => by simp at h; subst h; simp [E.ndL]
  | y :: l, i + 1, x, h => by
    simp only [List.getElem?_cons_succ] at h
    simp only [List.take_succ_cons, E.ndL, E.ndL_take d l i x h, List.append_assoc]
theorem E.ndL_split (d : Int) : ∀ (l : List E) (i : Nat) (x : E), l[i]? = some x → ∃ rest, E.ndL d l = E.ndL d (l.take i) ++ (E.nd d x ++ rest)
  | [], i, x, h => by simp at h
  | y :: l, 0, x, h => by simp at h; subst h; exact ⟨E.ndL d l, by simp [E.ndL]⟩
  | y :: l, i + 1, x, h => by
    simp only [List.getElem?_cons_succ] at h
    obtain ⟨rest, hr⟩ := E.ndL_split d l i x h
    exact ⟨rest, by simp only [List.take_succ_cons, E.ndL, hr, List.append_assoc]⟩
theorem tell_step (N : Nat) (ih : ∀ (e : E), e.sz < N → e.ok → ∀ (w0 : Base) (k : List Nat) (l : Nat) (d : Int) (Hs : Nat → Hp) (b : Nat → Bool) (n0 : Nat), Tells Tryz.prog w0 k l Hs b n0 (e.nd d) → (∀ j i, k <:+ i.key → Hs j i = none) →
      CallAt Tryz.prog w0 k 56 [e.av, .int .i64 d, .clo (.yield l) [] []] (Hs n0) (Hs (stops b n0 (e.nd d).length)) (.bool (allT b n0 (e.nd d).length)))
    (e : E) (he : e.sz < N + 1) (hok : e.ok) (w0 : Base) (k : List Nat) (l : Nat) (d : Int) (Hs : Nat → Hp) (b : Nat → Bool) (n0 : Nat) (hT : Tells Tryz.prog w0 k l Hs b n0 (e.nd d)) (hfree : ∀ j i, k <:+ i.key → Hs j i = none) :
    CallAt Tryz.prog w0 k 56 [e.av, .int .i64 d, .clo (.yield l) [] []] (Hs n0) (Hs (stops b n0 (e.nd d).length)) (.bool (allT b n0 (e.nd d).length)) := by
  refine callAt tabOk Spec.no_ok mixed Tryz.func56 rfl rfl Tryz.results56 Tryz.ntmps56 (by simp) [] ?_
  intro hfr t hl ht
  simp only [At, Nat.reduceAdd, List.cons_append, List.nil_append] at ht
  simp (config := {contextual := true, maxSteps := 5000000}) only [go_sem, false_and, Nat.reduceAdd, Nat.reduceLT, Nat.reduceBEq, Nat.reduceSub, Nat.reduceMul, Nat.reduceLeDiff, Int.reduceToNat, Nat.reduceEqDiff, Nat.reduceMod, ht, hl, Spec.no]
  have hnd := e.nd_eq d
  refine yieldK_intro (hT 0 (d, e) (by rw [hnd]; rfl) (fun i hi => by omega) _ (sfx2 _ _ _)) (Hp.Le.refl _) ?_
  simp (config := {contextual := true, maxSteps := 5000000}) only [go_sem, false_and, Nat.reduceAdd, Nat.reduceLT, Nat.reduceBEq, Nat.reduceSub, Nat.reduceMul, Nat.reduceLeDiff, Int.reduceToNat, Nat.reduceEqDiff, Nat.reduceMod, ht, hl, Spec.no, Nat.add_zero]
  have hlen : (e.nd d).length = 1 + (E.ndL (IntKind.i64.wrap (d + 1)) e.kids).length := by rw [hnd]; simp; omega
  refine ⟨fun a => ?_, fun a => ?_⟩
  · have ha : b n0 = false := by simpa using a
    rw [hlen, Nat.add_comm, allT, stops, ha]
    simp [Hp.Le.refl]
  · have ha : b n0 = true := by simpa using a
    refine loop_inv tabOk Spec.no_ok mixed [] (fun j x => ∃ i : Nat, x.tmps.length = 28 ∧ x.tmps.getD 1 AV.undef = .int .i64 d ∧ x.tmps.getD 2 AV.undef = .clo (.yield l) [] [] ∧ x.tmps.getD 15 AV.undef = .list .none (e.kids.map E.cells) ∧
      x.tmps.getD 16 AV.undef = .int .i64 e.kids.length ∧ x.tmps.getD 17 AV.undef = .int .i64 i ∧ i + j = e.kids.length ∧ allT b n0 (1 + (E.ndL (IntKind.i64.wrap (d + 1)) (e.kids.take i)).length) = true ∧
      (Hs (n0 + (1 + (E.ndL (IntKind.i64.wrap (d + 1)) (e.kids.take i)).length))).Le x.H) e.kids.length ⟨0, ?_⟩ ?_
    · simp (config := {contextual := true, maxSteps := 5000000}) only [go_sem, false_and, Nat.reduceAdd, Nat.reduceLT, Nat.reduceBEq, Nat.reduceSub, Nat.reduceMul, Nat.reduceLeDiff, Int.reduceToNat, Nat.reduceEqDiff, Nat.reduceMod, ht, hl]
      simp [E.ndL, allT, ha, Hp.Le.refl]
    · rintro j ⟨t, n, H'⟩ ⟨i, hl, h1, h2, h15, h16, h17, hij, hall, hH⟩
      simp only at hl h1 h2 h15 h16 h17 hH
      by_cases hi : i < e.kids.length
      · have hd : decide ((i : Int) < (e.kids.length : Int)) = true := by simp [hi]
        have hw2 : IntKind.i64.wrap ((i : Int) + 1) = ((i + 1 : Nat) : Int) := by
          have := E.ok_len hok
          rw [wrap_i64] <;> omega
        obtain ⟨x, hx, hex⟩ := E.kid e hi
        obtain ⟨rest, hrest⟩ := E.ndL_split (IntKind.i64.wrap (d + 1)) e.kids i x hx
        have htk := E.ndL_take (IntKind.i64.wrap (d + 1)) e.kids i x hx
        simp (config := {contextual := true, maxSteps := 5000000}) only [go_sem, false_and, Nat.reduceAdd, Nat.reduceLT, Nat.reduceBEq, Nat.reduceSub, Nat.reduceMul, Nat.reduceLeDiff, Int.reduceToNat, Nat.reduceEqDiff, Nat.reduceMod, hex, Spec.no, h1, h2, h15, h16, h17, hl, hd]
        refine ⟨⟨by omega, by omega⟩, ?_⟩
        refine callK_pre (ih x (by have := E.kid_sz hx; omega) (E.ok_kid hok hx) w0 _ l (IntKind.i64.wrap (d + 1)) Hs b (n0 + (1 + (E.ndL (IntKind.i64.wrap (d + 1)) (e.kids.take i)).length)) (fun q y hy hb key hkey => ?_) (fun q z hz => hfree q z ((sfx2 _ _ _).trans hz))) (Hp.le_upd hH (hfree _ _ (sfx2 _ _ _))) ?_
        · have hidx : (e.nd d)[1 + (E.ndL (IntKind.i64.wrap (d + 1)) (e.kids.take i)).length + q]? = some y := by
            rw [hnd, hrest, show 1 + (E.ndL (IntKind.i64.wrap (d + 1)) (e.kids.take i)).length + q = ((E.ndL (IntKind.i64.wrap (d + 1)) (e.kids.take i)).length + q) + 1 by omega, List.getElem?_cons_succ, List.getElem?_append_right (by omega), Nat.add_sub_cancel_left]
            rw [List.getElem?_append_left (List.getElem?_eq_some_iff.1 hy).1]
            exact hy
          have := hT _ y hidx (fun i' hi' => by
            by_cases h : i' < 1 + (E.ndL (IntKind.i64.wrap (d + 1)) (e.kids.take i)).length
            · exact (allT_iff b _ _).1 hall i' h
            · have := hb (i' - (1 + (E.ndL (IntKind.i64.wrap (d + 1)) (e.kids.take i)).length)) (by omega)
              rwa [show n0 + (1 + (E.ndL (IntKind.i64.wrap (d + 1)) (e.kids.take i)).length) + (i' - (1 + (E.ndL (IntKind.i64.wrap (d + 1)) (e.kids.take i)).length)) = n0 + i' by omega] at this) key ((sfx2 _ _ _).trans hkey)
          rwa [← Nat.add_assoc] at this
        · simp (config := {contextual := true, maxSteps := 5000000}) only [go_sem, false_and, Nat.reduceAdd, Nat.reduceLT, Nat.reduceBEq, Nat.reduceSub, Nat.reduceMul, Nat.reduceLeDiff, Int.reduceToNat, Nat.reduceEqDiff, Nat.reduceMod, hex, Spec.no, h1, h2, h15, h16, h17, hl, hd, hw2]
          have htot : (e.nd d).length = (1 + (E.ndL (IntKind.i64.wrap (d + 1)) (e.kids.take i)).length) + ((E.nd (IntKind.i64.wrap (d + 1)) x).length + rest.length) := by
            rw [hlen, hrest]
            simp only [List.length_append]
            omega
          refine ⟨fun a => ?_, fun a => ⟨j - 1, by omega, i + 1, rfl, by omega, ?_, ?_⟩⟩
          · have ha' : allT b (n0 + (1 + (E.ndL (IntKind.i64.wrap (d + 1)) (e.kids.take i)).length)) (E.nd (IntKind.i64.wrap (d + 1)) x).length = false := by simpa using a
            rw [htot, allT_add, stops_add, hall, allT_add, stops_add, ha']
            simp [Hp.Le.refl]
          · have ha' : allT b (n0 + (1 + (E.ndL (IntKind.i64.wrap (d + 1)) (e.kids.take i)).length)) (E.nd (IntKind.i64.wrap (d + 1)) x).length = true := by simpa using a
            rw [htk, List.length_append, ← Nat.add_assoc, allT_add, hall, ha']
            rfl
          · have ha' : allT b (n0 + (1 + (E.ndL (IntKind.i64.wrap (d + 1)) (e.kids.take i)).length)) (E.nd (IntKind.i64.wrap (d + 1)) x).length = true := by simpa using a
            rw [htk, List.length_append, stops_of_allT b _ _ ha', show n0 + (1 + (E.ndL (IntKind.i64.wrap (d + 1)) (e.kids.take i)).length) + (E.nd (IntKind.i64.wrap (d + 1)) x).length = n0 + (1 + ((E.ndL (IntKind.i64.wrap (d + 1)) (e.kids.take i)).length + (E.nd (IntKind.i64.wrap (d + 1)) x).length)) by omega]
            exact Hp.Le.refl _
      · have hd : decide ((i : Int) < (e.kids.length : Int)) = false := by simp; omega
        simp (config := {contextual := true, maxSteps := 5000000}) only [go_sem, false_and, Nat.reduceAdd, Nat.reduceLT, Nat.reduceBEq, Nat.reduceSub, Nat.reduceMul, Nat.reduceLeDiff, Int.reduceToNat, Nat.reduceEqDiff, Nat.reduceMod, h1, h2, h15, h16, h17, hl, hd]
        rw [List.take_of_length_le (by omega), ← hlen] at hall hH
        rw [stops_of_allT b _ _ hall]
        exact ⟨hall.symm, hH⟩
theorem tell_ok : ∀ (N : Nat) (e : E), e.sz < N → e.ok → ∀ (w0 : Base) (k : List Nat) (l : Nat) (d : Int) (Hs : Nat → Hp) (b : Nat → Bool) (n0 : Nat), Tells Tryz.prog w0 k l Hs b n0 (e.nd d) → (∀ j i, k <:+ i.key → Hs j i = none) →
      CallAt Tryz.prog w0 k 56 [e.av, .int .i64 d, .clo (.yield l) [] []] (Hs n0) (Hs (stops b n0 (e.nd d).length)) (.bool (allT b n0 (e.nd d).length))
  | 0, e, h => by omega
  | N + 1, e, h => fun hok w0 k l d Hs b n0 hT hfree => tell_step N (tell_ok N) e h hok w0 k l d Hs b n0 hT hfree
/-- The elements that a range over an expression's nodes tells. -/
def E.told (e : E) : List (List AV) := (e.nd 1).map fun x => [.int .i64 x.1, x.2.av]
theorem nodes_iter (e : E) (hok : e.ok) : Iter Tryz.prog 55 [.sptr e.cells] e.told := by
  intro w0 l k Hs b hY hfree
  refine ⟨.tup [], ?_⟩
  have hlen : e.told.length = (e.nd 1).length := by simp [E.told]
  rw [hlen]
  refine bodyAt tabOk Spec.no_ok mixed Tryz.func55 rfl rfl Tryz.results55 Tryz.ntmps55 (by simp) [] ?_
  intro hfr t hl ht
  simp only [At, Nat.reduceAdd, List.cons_append, List.nil_append] at ht
  simp (config := {contextual := true, maxSteps := 5000000}) only [go_sem, false_and, Nat.reduceAdd, Nat.reduceLT, Nat.reduceBEq, Nat.reduceSub, Nat.reduceMul, Nat.reduceLeDiff, Int.reduceToNat, Nat.reduceEqDiff, Nat.reduceMod, ht, hl, Spec.no, E.cells_eq]
  refine callK_pre (tell_ok (e.sz + 1) e (Nat.lt_succ_self _) hok w0 _ l 1 Hs b 0 (fun j x hx hb key hkey => ?_) (fun q z hz => hfree q z ((sfx2 _ _ _).trans hz))) (Hp.Le.refl _) ?_
  · have := hY j [.int .i64 x.1, x.2.av] (by simp only [E.told, List.getElem?_map, hx]; rfl) (fun i hi => by simpa using hb i hi) key ((sfx2 _ _ _).trans hkey)
    simpa using this
  · simp (config := {contextual := true, maxSteps := 5000000}) only [go_sem, false_and, Nat.reduceAdd, Nat.reduceLT, Nat.reduceBEq, Nat.reduceSub, Nat.reduceMul, Nat.reduceLeDiff, Int.reduceToNat, Nat.reduceEqDiff, Nat.reduceMod, ht, hl]

mutual
theorem E.nd_len : ∀ (e : E) (d : Int), (e.nd d).length = e.sz
  | .mk k i ks, d => by simp only [E.nd, E.sz, List.length_cons, E.ndL_len ks]; omega
theorem E.ndL_len : ∀ (l : List E) (d : Int), (E.ndL d l).length = E.szL l
  | [], d => rfl
  | e :: es, d => by simp only [E.ndL, E.szL, List.length_append, E.nd_len e d, E.ndL_len es d]
end
theorem E.told_length (e : E) : e.told.length = e.sz := by simp [E.told, E.nd_len]
theorem notKey {a n m : Nat} {k : List Nat} {i : Id} (h : (n :: k) <:+ i.key) (hm : n ≠ m) {sz : Nat} {ty : TypeId} : i ≠ ⟨sz, a :: m :: k, ty⟩ := by
  rintro rfl
  have := (List.suffix_of_suffix_length_le h (List.suffix_cons a (m :: k)) (by simp)).eq_of_length (by simp)
  simp at this
  exact hm this

theorem nodes_call (e : E) : CallAt Tryz.prog w0 k 39 [e.av] H H (.clo (.func 55) [] [.sptr [.int .i64 e.kind, .int .i64 e.id, .list .none (e.kids.map E.cells)]]) := by
  refine callAt tabOk Spec.no_ok mixed Tryz.func39 rfl rfl Tryz.results39 Tryz.ntmps39 (by simp) [] ?_
  intro hfr t hl ht
  simp only [At, Nat.reduceAdd, List.cons_append, List.nil_append] at ht
  simp (config := {contextual := true, maxSteps := 5000000}) only [go_sem, false_and, Nat.reduceAdd, Nat.reduceLT, Nat.reduceBEq, Nat.reduceSub, Nat.reduceMul, Nat.reduceLeDiff, Int.reduceToNat, Nat.reduceEqDiff, Nat.reduceMod, ht, hl]
def specX0 : Spec := Spec.no.add 39 (sp1 dE (fun _ => True) fun e => .clo (.func 55) [] [.sptr [.int .i64 e.kind, .int .i64 e.id, .list .none (e.kids.map E.cells)]])
theorem specX0_ok : SpecOk Tryz.prog w0 specX0 := Spec.no_ok.add (sp1_ok fun e _ k H => nodes_call e)
theorem told_len (e : E) : ∀ x ∈ e.told, x.length = 2 := fun x hx => by
  obtain ⟨y, _, rfl⟩ := List.mem_map.1 hx
  rfl
theorem sizeX_call (e : E) (hok : e.ok) : CallAt Tryz.prog w0 k 37 [e.av] H H (.int .i64 (min (e.sz : Int) 1001)) := by
  refine callAt tabOk specX0_ok mixed Tryz.func37 rfl rfl Tryz.results37 Tryz.ntmps37 (by simp) [] ?_
  intro hfr t hl ht
  simp only [At, Nat.reduceAdd, List.cons_append, List.nil_append] at ht
  simp (config := {contextual := true, maxSteps := 5000000}) only [go_sem, false_and, Nat.reduceAdd, Nat.reduceLT, Nat.reduceBEq, Nat.reduceSub, Nat.reduceMul, Nat.reduceLeDiff, Int.reduceToNat, Nat.reduceEqDiff, Nat.reduceMod, ht, hl, specX0]
  have hid : H ⟨1, 0 :: 1 :: k, 3⟩ = none := hfr _ (sfx2 _ _ _)
  refine rangeDet (gf := 55) (caps := [.sptr e.cells]) (xs := e.told) (by simp (config := {contextual := true, maxSteps := 5000000}) only [go_sem, false_and, Nat.reduceAdd, Nat.reduceLT, Nat.reduceBEq, Nat.reduceSub, Nat.reduceMul, Nat.reduceLeDiff, Int.reduceToNat, Nat.reduceEqDiff, Nat.reduceMod, ht, hl, E.cells_eq]) (nodes_iter e hok) (told_len e)
    (fun j => H.upd ⟨1, 0 :: 1 :: k, 3⟩ (some (.cells [.int .i64 (j : Nat)]))) (fun j => if 1000 ≤ j then some (.exit 0) else none) (fun j => by split <;> simp) (fun j v => by split <;> simp) rfl
    (fun j i hi => by rw [Hp.upd_ne _ _ (notKey hi (by decide))]; exact hfr i ((List.suffix_cons _ _).trans hi)) ?_ (fun ha => ?_) (fun j c hj hp hc => ?_)
  · intro j x hx hp l key w0' hw0 hkey
    refine vc_sound (tab := tab) (Sp := Spec.no) (mb := []) tabOk Spec.no_ok mixed _ _ _ ?_
    obtain ⟨y, hy, rfl⟩ : ∃ y : Int × E, (e.nd 1)[j]? = some y ∧ x = [.int .i64 y.1, y.2.av] := by
      simp only [E.told, List.getElem?_map, Option.map_eq_some_iff] at hx
      obtain ⟨y, h1, h2⟩ := hx
      exact ⟨y, h1, h2.symm⟩
    simp (config := {contextual := true, maxSteps := 5000000}) only [go_sem, false_and, Nat.reduceAdd, Nat.reduceLT, Nat.reduceBEq, Nat.reduceSub, Nat.reduceMul, Nat.reduceLeDiff, Int.reduceToNat, Nat.reduceEqDiff, Nat.reduceMod, ht, hl, setPs]
    intro w0'' hw0'
    refine vc_sound (tab := tab) (Sp := Spec.no) (mb := []) tabOk Spec.no_ok mixed _ _ _ ?_
    have hj : j < 1001 := by
      rcases Nat.lt_or_ge j 1001 with h | h
      · exact h
      · have := hp 1000 (by omega)
        simp at this
    have hw : IntKind.i64.wrap ((j : Int) + 1) = ((j + 1 : Nat) : Int) := by rw [wrap_i64] <;> omega
    simp (config := {contextual := true, maxSteps := 5000000}) only [go_sem, false_and, Nat.reduceAdd, Nat.reduceLT, Nat.reduceBEq, Nat.reduceSub, Nat.reduceMul, Nat.reduceLeDiff, Int.reduceToNat, Nat.reduceEqDiff, Nat.reduceMod, ht, hl, hw]
    refine ⟨fun a => ?_, fun a => ?_⟩ <;> simp only [decide_eq_true_eq, decide_eq_false_iff_not] at a
    · rw [if_pos (by omega)]
      rfl
    · rw [if_neg (by omega)]
      rfl
  · simp (config := {contextual := true, maxSteps := 5000000}) only [go_sem, false_and, Nat.reduceAdd, Nat.reduceLT, Nat.reduceBEq, Nat.reduceSub, Nat.reduceMul, Nat.reduceLeDiff, Int.reduceToNat, Nat.reduceEqDiff, Nat.reduceMod, ht, hl]
    refine ⟨?_, Hp.le_upd (Hp.Le.refl _) hid⟩
    rw [E.told_length] at ha ⊢
    have : e.sz ≤ 1000 := by
      rcases Nat.lt_or_ge 1000 e.sz with h | h
      · have := ha 1000 h
        simp at this
      · exact h
    omega
  · have hj0 : j = 1000 := by
      split at hc
      · rcases Nat.lt_or_ge 1000 j with h | h
        · have := hp 1000 h
          simp at this
        · omega
      · cases hc
    subst hj0
    simp only [Nat.le_refl, if_true, Option.some.injEq] at hc
    subst hc
    simp (config := {contextual := true, maxSteps := 5000000}) only [go_sem, false_and, Nat.reduceAdd, Nat.reduceLT, Nat.reduceBEq, Nat.reduceSub, Nat.reduceMul, Nat.reduceLeDiff, Int.reduceToNat, Nat.reduceEqDiff, Nat.reduceMod, ht, hl]
    refine ⟨?_, Hp.le_upd (Hp.Le.refl _) hid⟩
    rw [E.told_length] at hj
    omega
def specX1 : Spec := specX0.add 37 (sp1 dE (fun e => e.ok) fun e => .int .i64 (min (e.sz : Int) 1001))
theorem specX1_ok : SpecOk Tryz.prog w0 specX1 := specX0_ok.add (sp1_ok fun e h k H => sizeX_call e h)

/-! depths -/
mutual
def E.tn (d : Nat) : E → List Nat
  | .mk _ _ ks => d :: E.tnL (d + 1) ks
def E.tnL (d : Nat) : List E → List Nat
  | [] => []
  | e :: es => E.tn d e ++ E.tnL d es
end
theorem wrap_wrap (n : Int) : IntKind.i64.wrap (IntKind.i64.wrap n + 1) = IntKind.i64.wrap (n + 1) := by
  rw [IntKind.wrap_i64, IntKind.wrap_i64, IntKind.wrap_i64]
  omega
mutual
theorem E.nd_tn : ∀ (e : E) (d : Nat), (e.nd (IntKind.i64.wrap d)).map (·.1) = (e.tn d).map fun n : Nat => IntKind.i64.wrap n
  | .mk k i ks, d => by
    simp only [E.nd, E.tn, List.map_cons, wrap_wrap]
    have := E.ndL_tnL ks (d + 1)
    simp only [Int.natCast_add, Int.natCast_one] at this
    rw [this]
theorem E.ndL_tnL : ∀ (l : List E) (d : Nat), (E.ndL (IntKind.i64.wrap d) l).map (·.1) = (E.tnL d l).map fun n : Nat => IntKind.i64.wrap n
  | [], d => rfl
  | e :: es, d => by simp only [E.ndL, E.tnL, List.map_append, E.nd_tn e d, E.ndL_tnL es d]
end
def maxL : List Nat → Nat
  | [] => 0
  | x :: l => max x (maxL l)
theorem maxL_append : ∀ l m : List Nat, maxL (l ++ m) = max (maxL l) (maxL m)
  | [], m => by simp [maxL]
  | x :: l, m => by simp only [List.cons_append, maxL, maxL_append l m]; omega
mutual
theorem E.tn_max : ∀ (e : E) (d : Nat), maxL (e.tn d) + 1 = d + e.dp
  | .mk k i ks, d => by
    simp only [E.tn, E.dp, maxL]
    have := E.tnL_max ks (d + 1)
    split at this <;> omega
theorem E.tnL_max : ∀ (l : List E) (d : Nat), if l = [] then maxL (E.tnL d l) = 0 ∧ E.dpL l = 0 else maxL (E.tnL d l) + 1 = d + E.dpL l
  | [], d => by simp [E.tnL, maxL, E.dpL]
  | e :: es, d => by
    have h1 := E.tn_max e d
    have h2 := E.tnL_max es d
    have h3 := e.dp_pos
    simp only [E.tnL, maxL_append, E.dpL]
    rw [if_neg (by simp)]
    split at h2 <;> omega
end
mutual
theorem E.tn_step : ∀ (e : E) (d j v : Nat), (e.tn d)[j]? = some v → (j = 0 ∧ v = d) ∨ ∃ i u, i < j ∧ (e.tn d)[i]? = some u ∧ v = u + 1
  | .mk k i ks, d, 0, v, h => by simp [E.tn] at h; exact .inl ⟨rfl, h.symm⟩
  | .mk k i ks, d, j + 1, v, h => by
    simp only [E.tn, List.getElem?_cons_succ] at h
    rcases E.tnL_step ks (d + 1) j v h with h1 | ⟨q, u, h1, h2, h3⟩
    · exact .inr ⟨0, d, by omega, by simp [E.tn], h1⟩
    · exact .inr ⟨q + 1, u, by omega, by simpa [E.tn] using h2, h3⟩
theorem E.tnL_step : ∀ (l : List E) (d j v : Nat), (E.tnL d l)[j]? = some v → v = d ∨ ∃ i u, i < j ∧ (E.tnL d l)[i]? = some u ∧ v = u + 1
  | [], d, j, v, h => by simp [E.tnL] at h
  | e :: es, d, j, v, h => by
    simp only [E.tnL] at h ⊢
    by_cases hj : j < (E.tn d e).length
    · rw [List.getElem?_append_left hj] at h
      rcases E.tn_step e d j v h with h1 | ⟨q, u, h1, h2, h3⟩
      · exact .inl h1.2
      · exact .inr ⟨q, u, h1, by rw [List.getElem?_append_left (by omega)]; exact h2, h3⟩
    · rw [List.getElem?_append_right (by omega)] at h
      rcases E.tnL_step es d _ v h with h1 | ⟨q, u, h1, h2, h3⟩
      · exact .inl h1
      · exact .inr ⟨q + (E.tn d e).length, u, by omega, by rw [List.getElem?_append_right (by omega), Nat.add_sub_cancel]; exact h2, h3⟩
end
theorem maxL_take (l : List Nat) {j v : Nat} (h : l[j]? = some v) : maxL (l.take (j + 1)) = max (maxL (l.take j)) v := by
  rw [List.take_add_one, h, maxL_append]
  simp [maxL]
theorem maxL_mem : ∀ {l : List Nat} {v : Nat}, v ∈ l → v ≤ maxL l
  | x :: l, v, h => by
    rcases List.mem_cons.1 h with rfl | h
    · simp only [maxL]; omega
    · have := maxL_mem h
      simp only [maxL]; omega
theorem maxL_take_le (l : List Nat) (j : Nat) : maxL (l.take j) ≤ maxL l := by
  have := maxL_append (l.take j) (l.drop j)
  rw [List.take_append_drop] at this
  omega
theorem told_at (e : E) {j : Nat} {x : List AV} (hx : e.told[j]? = some x) : ∃ y : Int × E, (e.nd 1)[j]? = some y ∧ x = [.int .i64 y.1, y.2.av] := by
  simp only [E.told, List.getElem?_map, Option.map_eq_some_iff] at hx
  obtain ⟨y, h1, h2⟩ := hx
  exact ⟨y, h1, h2.symm⟩
theorem nd_depth (e : E) {j : Nat} {y : Int × E} (h : (e.nd 1)[j]? = some y) : ∃ v, (e.tn 1)[j]? = some v ∧ y.1 = IntKind.i64.wrap (v : Int) := by
  have h1 := E.nd_tn e 1
  have h2 : ((e.nd (IntKind.i64.wrap (1 : Nat))).map (·.1))[j]? = some y.1 := by
    rw [List.getElem?_map, show IntKind.i64.wrap ((1 : Nat) : Int) = 1 from by rw [wrap_i64] <;> omega, h]
    rfl
  rw [h1, List.getElem?_map, Option.map_eq_some_iff] at h2
  obtain ⟨v, h3, h4⟩ := h2
  exact ⟨v, h3, h4.symm⟩
theorem tn_len (e : E) : (e.tn 1).length = e.sz := by
  have := congrArg List.length (E.nd_tn e 1)
  simpa [E.nd_len] using this.symm
theorem depthX_call (e : E) (hok : e.ok) : CallAt Tryz.prog w0 k 38 [e.av] H H (.int .i64 (min (e.dp : Int) 101)) := by
  refine callAt tabOk specX1_ok mixed Tryz.func38 rfl rfl Tryz.results38 Tryz.ntmps38 (by simp) [] ?_
  intro hfr t hl ht
  simp only [At, Nat.reduceAdd, List.cons_append, List.nil_append] at ht
  simp (config := {contextual := true, maxSteps := 5000000}) only [go_sem, false_and, Nat.reduceAdd, Nat.reduceLT, Nat.reduceBEq, Nat.reduceSub, Nat.reduceMul, Nat.reduceLeDiff, Int.reduceToNat, Nat.reduceEqDiff, Nat.reduceMod, ht, hl, specX1, specX0]
  have hid : H ⟨1, 0 :: 1 :: k, 3⟩ = none := hfr _ (sfx2 _ _ _)
  have hmax : maxL (e.tn 1) = e.dp := by have := E.tn_max e 1; omega
  have hprev : ∀ j, (∀ i, i < j → (if 100 < maxL ((e.tn 1).take (i + 1)) then some (AEx.exit 0) else none) = none) → maxL ((e.tn 1).take j) ≤ 100 := fun j hp => by
    cases j with
    | zero => simp [maxL]
    | succ j =>
      have := hp j (by omega)
      rcases Nat.lt_or_ge 100 (maxL ((e.tn 1).take (j + 1))) with h | h
      · rw [if_pos h] at this; cases this
      · exact h
  have hnext : ∀ j v, maxL ((e.tn 1).take j) ≤ 100 → (e.tn 1)[j]? = some v → v ≤ 101 := fun j v hm hv => by
    rcases E.tn_step e 1 j v hv with ⟨_, h⟩ | ⟨i, u, h1, h2, h3⟩
    · omega
    · have : u ≤ maxL ((e.tn 1).take j) := maxL_mem (List.mem_of_getElem? (by rw [List.getElem?_take_of_lt h1]; exact h2))
      omega
  refine rangeDet (gf := 55) (caps := [.sptr e.cells]) (xs := e.told) (by simp (config := {contextual := true, maxSteps := 5000000}) only [go_sem, false_and, Nat.reduceAdd, Nat.reduceLT, Nat.reduceBEq, Nat.reduceSub, Nat.reduceMul, Nat.reduceLeDiff, Int.reduceToNat, Nat.reduceEqDiff, Nat.reduceMod, ht, hl, E.cells_eq]) (nodes_iter e hok) (told_len e)
    (fun j => H.upd ⟨1, 0 :: 1 :: k, 3⟩ (some (.cells [.int .i64 (maxL ((e.tn 1).take j) : Nat)]))) (fun j => if 100 < maxL ((e.tn 1).take (j + 1)) then some (.exit 0) else none) (fun j => by split <;> simp) (fun j v => by split <;> simp) rfl
    (fun j i hi => by rw [Hp.upd_ne _ _ (notKey hi (by decide))]; exact hfr i ((List.suffix_cons _ _).trans hi)) ?_ (fun ha => ?_) (fun j c hj hp hc => ?_)
  · intro j x hx hp l key w0' hw0 hkey
    refine vc_sound (tab := tab) (Sp := Spec.no) (mb := []) tabOk Spec.no_ok mixed _ _ _ ?_
    obtain ⟨y, hy, rfl⟩ := told_at e hx
    obtain ⟨v, hv, hyv⟩ := nd_depth e hy
    have hm := hprev j hp
    have hv1 := hnext j v hm hv
    have hw : y.1 = (v : Int) := by rw [hyv, wrap_i64] <;> omega
    have hmt := maxL_take _ hv
    simp (config := {contextual := true, maxSteps := 5000000}) only [go_sem, false_and, Nat.reduceAdd, Nat.reduceLT, Nat.reduceBEq, Nat.reduceSub, Nat.reduceMul, Nat.reduceLeDiff, Int.reduceToNat, Nat.reduceEqDiff, Nat.reduceMod, ht, hl, setPs, hw]
    intro w0'' hw0'
    refine vc_sound (tab := tab) (Sp := Spec.no) (mb := []) tabOk Spec.no_ok mixed _ _ _ ?_
    simp (config := {contextual := true, maxSteps := 5000000}) only [go_sem, false_and, Nat.reduceAdd, Nat.reduceLT, Nat.reduceBEq, Nat.reduceSub, Nat.reduceMul, Nat.reduceLeDiff, Int.reduceToNat, Nat.reduceEqDiff, Nat.reduceMod, ht, hl, hw]
    have hif : (if (maxL ((e.tn 1).take j) : Int) < (v : Int) then (v : Int) else (maxL ((e.tn 1).take j) : Int)) = ((max (maxL ((e.tn 1).take j)) v : Nat) : Int) := by split <;> omega
    rw [hif, hmt]
    refine ⟨fun a => ⟨?_, Hp.Le.refl _⟩, fun a => ⟨?_, Hp.Le.refl _⟩⟩ <;> simp only [decide_eq_true_eq, decide_eq_false_iff_not] at a
    · rw [if_pos (by omega)]
      rfl
    · rw [if_neg (by omega)]
      rfl
  · simp (config := {contextual := true, maxSteps := 5000000}) only [go_sem, false_and, Nat.reduceAdd, Nat.reduceLT, Nat.reduceBEq, Nat.reduceSub, Nat.reduceMul, Nat.reduceLeDiff, Int.reduceToNat, Nat.reduceEqDiff, Nat.reduceMod, ht, hl]
    refine ⟨?_, Hp.le_upd (Hp.Le.refl _) hid⟩
    rw [E.told_length] at ha ⊢
    have := hprev _ ha
    rw [List.take_of_length_le (by rw [tn_len]; omega)] at this ⊢
    omega
  · have hm := hprev j hp
    rw [E.told_length, ← tn_len] at hj
    have hv : (e.tn 1)[j]? = some (e.tn 1)[j] := by simp [hj]
    have hv1 := hnext j _ hm hv
    have hmt := maxL_take _ hv
    have hle := maxL_take_le (e.tn 1) (j + 1)
    split at hc
    · cases hc
      simp (config := {contextual := true, maxSteps := 5000000}) only [go_sem, false_and, Nat.reduceAdd, Nat.reduceLT, Nat.reduceBEq, Nat.reduceSub, Nat.reduceMul, Nat.reduceLeDiff, Int.reduceToNat, Nat.reduceEqDiff, Nat.reduceMod, ht, hl]
      refine ⟨?_, Hp.le_upd (Hp.Le.refl _) hid⟩
      omega
    · cases hc
def specX2 : Spec := specX1.add 38 (sp1 dE (fun e => e.ok) fun e => .int .i64 (min (e.dp : Int) 101))
theorem specX2_ok : SpecOk Tryz.prog w0 specX2 := specX1_ok.add (sp1_ok fun e h k H => depthX_call e h)
theorem isTerm_call (e : E) : CallAt Tryz.prog w0 k 41 [e.av] H H (.bool e.term) := by
  refine callAt tabOk Spec.no_ok mixed Tryz.func41 rfl rfl Tryz.results41 Tryz.ntmps41 (by simp) [] ?_
  intro hfr t hl ht
  simp only [At, Nat.reduceAdd, List.cons_append, List.nil_append] at ht
  simp (config := {contextual := true, maxSteps := 5000000}) only [go_sem, false_and, Nat.reduceAdd, Nat.reduceLT, Nat.reduceBEq, Nat.reduceSub, Nat.reduceMul, Nat.reduceLeDiff, Int.reduceToNat, Nat.reduceEqDiff, Nat.reduceMod, ht, hl]
  simp +contextual [E.term] <;> grind
def specKA : Spec := Spec.no.add 41 (sp1 dE (fun _ => True) fun e => .bool e.term)
theorem specKA_ok : SpecOk Tryz.prog w0 specKA := Spec.no_ok.add (sp1_ok fun e _ k H => isTerm_call e)
theorem kidsAre_call (e : E) (l m : Int) (ts : Bool) (h1 : m ≤ 99) :
    CallAt Tryz.prog w0 k 57 [e.av, .int .i64 l, .int .i64 m, .bool ts] H H (.bool (decide (l ≤ e.kids.length) && decide (e.kids.length ≤ m) && e.kids.all fun x => x.term == ts)) := by
  refine callAt tabOk specKA_ok mixed Tryz.func57 rfl rfl Tryz.results57 Tryz.ntmps57 (by simp) [] ?_
  intro hfr t hl ht
  simp only [At, Nat.reduceAdd, List.cons_append, List.nil_append] at ht
  simp (config := {contextual := true, maxSteps := 5000000}) only [go_sem, false_and, Nat.reduceAdd, Nat.reduceLT, Nat.reduceBEq, Nat.reduceSub, Nat.reduceMul, Nat.reduceLeDiff, Int.reduceToNat, Nat.reduceEqDiff, Nat.reduceMod, ht, hl]
  refine ⟨fun a => ⟨fun b => ?_, fun b => ?_⟩, fun a => ?_⟩ <;> simp only [decide_eq_true_eq, decide_eq_false_iff_not] at a
  · simp only [decide_eq_true_eq] at b
    have : decide ((e.kids.length : Int) ≤ m) = false := by simp; omega
    simp [this]
  · simp only [decide_eq_false_iff_not] at b
    have d1 : decide (l ≤ (e.kids.length : Int)) = true := by simp; omega
    have d2 : decide ((e.kids.length : Int) ≤ m) = true := by simp; omega
    simp only [d1, d2, Bool.true_and]
    refine loop_inv tabOk specKA_ok mixed [] (fun j x => ∃ i : Nat, x.tmps.length = 35 ∧ x.tmps.getD 3 AV.undef = .bool ts ∧ (∀ i' x, i' < i → e.kids[i']? = some x → (x.term == ts) = true) ∧
      x.tmps.getD 24 AV.undef = .list .none (e.kids.map E.cells) ∧ x.tmps.getD 25 AV.undef = .int .i64 e.kids.length ∧ x.tmps.getD 26 AV.undef = .int .i64 i ∧ H.Le x.H ∧ i + j = e.kids.length) e.kids.length ⟨0, ?_⟩ ?_
    · simp (config := {contextual := true, maxSteps := 5000000}) only [go_sem, false_and, Nat.reduceAdd, Nat.reduceLT, Nat.reduceBEq, Nat.reduceSub, Nat.reduceMul, Nat.reduceLeDiff, Int.reduceToNat, Nat.reduceEqDiff, Nat.reduceMod, ht, hl]
      simp
    · rintro j ⟨t, n, H'⟩ ⟨i, hl, h3', hall, h24, h25, h26, hH, hij⟩
      simp only at hl h3' h24 h25 h26 hH
      by_cases hi : i < e.kids.length
      · have hd : decide ((i : Int) < (e.kids.length : Int)) = true := by simp [hi]
        have hw2 : IntKind.i64.wrap ((i : Int) + 1) = ((i + 1 : Nat) : Int) := by rw [wrap_i64] <;> omega
        obtain ⟨x, hx, he⟩ := E.kid e hi
        simp (config := {contextual := true, maxSteps := 5000000}) only [go_sem, false_and, Nat.reduceAdd, Nat.reduceLT, Nat.reduceBEq, Nat.reduceSub, Nat.reduceMul, Nat.reduceLeDiff, Int.reduceToNat, Nat.reduceEqDiff, Nat.reduceMod, he, specKA, h3', h24, h25, h26, hl, hd, hw2]
        have hn : H ⟨3, 2 :: (n + 1) :: k, 33⟩ = none := hfr _ (sfx2 _ _ _)
        have hle : ∀ a, H.Le (H'.upd ⟨3, 2 :: (n + 1) :: k, 33⟩ a) := fun a => Hp.le_upd hH hn
        have bad : (x.term == ts) = false → (false = e.kids.all fun x => x.term == ts) := fun h => by
          symm
          rw [List.all_eq_false]
          exact ⟨x, List.mem_of_getElem? hx, by simp [h]⟩
        refine ⟨⟨by omega, by omega⟩, fun a => ⟨bad (by simp_all), hle _⟩, fun a => ⟨j - 1, by omega, i + 1, fun i' y hi' hy => ?_, rfl, hle _, by omega⟩⟩
        by_cases e : i' = i
        · subst e
          rw [hx] at hy
          cases hy
          simp_all
        · exact hall i' y (by omega) hy
      · have hd : decide ((i : Int) < (e.kids.length : Int)) = false := by simp; omega
        simp (config := {contextual := true, maxSteps := 5000000}) only [go_sem, false_and, Nat.reduceAdd, Nat.reduceLT, Nat.reduceBEq, Nat.reduceSub, Nat.reduceMul, Nat.reduceLeDiff, Int.reduceToNat, Nat.reduceEqDiff, Nat.reduceMod, h3', h24, h25, h26, hl, hd]
        refine ⟨?_, hH⟩
        symm
        rw [List.all_eq_true]
        intro x hx
        obtain ⟨i', hi', hx'⟩ := List.getElem_of_mem hx
        exact hall i' x (by omega) (by rw [← hx']; simp)
  · have : decide (l ≤ (e.kids.length : Int)) = false := by simp; omega
    simp [this]
def specKB : Spec := Spec.no.add 57 (sp4 dE dI dI dB (fun _ _ m _ => m ≤ 99) fun e l m t => .bool (decide (l ≤ e.kids.length) && decide (e.kids.length ≤ m) && e.kids.all fun x => x.term == t))
theorem specKB_ok : SpecOk Tryz.prog w0 specKB := Spec.no_ok.add (sp4_ok fun e l m t h k H => kidsAre_call e l m t h)
theorem E.loc_all (e : E) : e.loc = match E.want e.kind with
    | some (mx, l, m, t) => decide (0 ≤ e.id) && decide (e.id ≤ mx) && (decide ((l : Int) ≤ e.kids.length) && decide ((e.kids.length : Int) ≤ m) && e.kids.all fun x => x.term == t)
    | none => false := by
  unfold E.loc
  cases h : E.want e.kind with
  | none => rfl
  | some v =>
    obtain ⟨mx, l, m, t⟩ := v
    simp only [Int.ofNat_le, Bool.and_assoc]
theorem shapedX_call (e : E) : CallAt Tryz.prog w0 k 40 [e.av] H H (.bool e.loc) := by
  refine callAt tabOk specKB_ok mixed Tryz.func40 rfl rfl Tryz.results40 Tryz.ntmps40 (by simp) [] ?_
  intro hfr t hl ht
  simp only [At, Nat.reduceAdd, List.cons_append, List.nil_append] at ht
  rw [E.loc_all]
  have hc : (e.kind = 1 ∨ e.kind = 2 ∨ e.kind = 3 ∨ e.kind = 4 ∨ e.kind = 5 ∨ e.kind = 6 ∨ e.kind = 7 ∨ e.kind = 8 ∨ e.kind = 9 ∨ e.kind = 10) ∨ (e.kind == 1) = false ∧ (e.kind == 2) = false ∧ (e.kind == 3) = false ∧ (e.kind == 4) = false ∧ (e.kind == 5) = false ∧ (e.kind == 6) = false ∧ (e.kind == 7) = false ∧ (e.kind == 8) = false ∧ (e.kind == 9) = false ∧ (e.kind == 10) = false := by
    simp only [beq_eq_false_iff_ne]
    omega
  rcases hc with (hk | hk | hk | hk | hk | hk | hk | hk | hk | hk) | ⟨b1, b2, b3, b4, b5, b6, b7, b8, b9, b10⟩
  · have b1 : (e.kind == 1) = true := by simp [hk]
    have b2 : (e.kind == 2) = false := by simp [hk]
    have b3 : (e.kind == 3) = false := by simp [hk]
    have b4 : (e.kind == 4) = false := by simp [hk]
    have b5 : (e.kind == 5) = false := by simp [hk]
    have b6 : (e.kind == 6) = false := by simp [hk]
    have b7 : (e.kind == 7) = false := by simp [hk]
    have b8 : (e.kind == 8) = false := by simp [hk]
    have b9 : (e.kind == 9) = false := by simp [hk]
    have b10 : (e.kind == 10) = false := by simp [hk]
    simp (config := {contextual := true, maxSteps := 5000000}) only [go_sem, false_and, Nat.reduceAdd, Nat.reduceLT, Nat.reduceBEq, Nat.reduceSub, Nat.reduceMul, Nat.reduceLeDiff, Int.reduceToNat, Nat.reduceEqDiff, Nat.reduceMod, ht, hl, specKB, b1, b2, b3, b4, b5, b6, b7, b8, b9, b10]
    simp only [E.want, hk]
    (repeat' (first | apply And.intro | intro _)) <;> by_cases h0 : e.kids = [] <;> simp_all <;> first | omega | grind
  · have b1 : (e.kind == 1) = false := by simp [hk]
    have b2 : (e.kind == 2) = true := by simp [hk]
    have b3 : (e.kind == 3) = false := by simp [hk]
    have b4 : (e.kind == 4) = false := by simp [hk]
    have b5 : (e.kind == 5) = false := by simp [hk]
    have b6 : (e.kind == 6) = false := by simp [hk]
    have b7 : (e.kind == 7) = false := by simp [hk]
    have b8 : (e.kind == 8) = false := by simp [hk]
    have b9 : (e.kind == 9) = false := by simp [hk]
    have b10 : (e.kind == 10) = false := by simp [hk]
    simp (config := {contextual := true, maxSteps := 5000000}) only [go_sem, false_and, Nat.reduceAdd, Nat.reduceLT, Nat.reduceBEq, Nat.reduceSub, Nat.reduceMul, Nat.reduceLeDiff, Int.reduceToNat, Nat.reduceEqDiff, Nat.reduceMod, ht, hl, specKB, b1, b2, b3, b4, b5, b6, b7, b8, b9, b10]
    simp only [E.want, hk]
    (repeat' (first | apply And.intro | intro _)) <;> simp_all <;> omega
  · have b1 : (e.kind == 1) = false := by simp [hk]
    have b2 : (e.kind == 2) = false := by simp [hk]
    have b3 : (e.kind == 3) = true := by simp [hk]
    have b4 : (e.kind == 4) = false := by simp [hk]
    have b5 : (e.kind == 5) = false := by simp [hk]
    have b6 : (e.kind == 6) = false := by simp [hk]
    have b7 : (e.kind == 7) = false := by simp [hk]
    have b8 : (e.kind == 8) = false := by simp [hk]
    have b9 : (e.kind == 9) = false := by simp [hk]
    have b10 : (e.kind == 10) = false := by simp [hk]
    simp (config := {contextual := true, maxSteps := 5000000}) only [go_sem, false_and, Nat.reduceAdd, Nat.reduceLT, Nat.reduceBEq, Nat.reduceSub, Nat.reduceMul, Nat.reduceLeDiff, Int.reduceToNat, Nat.reduceEqDiff, Nat.reduceMod, ht, hl, specKB, b1, b2, b3, b4, b5, b6, b7, b8, b9, b10]
    simp only [E.want, hk]
    (repeat' (first | apply And.intro | intro _)) <;> simp_all <;> omega
  · have b1 : (e.kind == 1) = false := by simp [hk]
    have b2 : (e.kind == 2) = false := by simp [hk]
    have b3 : (e.kind == 3) = false := by simp [hk]
    have b4 : (e.kind == 4) = true := by simp [hk]
    have b5 : (e.kind == 5) = false := by simp [hk]
    have b6 : (e.kind == 6) = false := by simp [hk]
    have b7 : (e.kind == 7) = false := by simp [hk]
    have b8 : (e.kind == 8) = false := by simp [hk]
    have b9 : (e.kind == 9) = false := by simp [hk]
    have b10 : (e.kind == 10) = false := by simp [hk]
    simp (config := {contextual := true, maxSteps := 5000000}) only [go_sem, false_and, Nat.reduceAdd, Nat.reduceLT, Nat.reduceBEq, Nat.reduceSub, Nat.reduceMul, Nat.reduceLeDiff, Int.reduceToNat, Nat.reduceEqDiff, Nat.reduceMod, ht, hl, specKB, b1, b2, b3, b4, b5, b6, b7, b8, b9, b10]
    simp only [E.want, hk]
    (repeat' (first | apply And.intro | intro _)) <;> simp_all <;> omega
  · have b1 : (e.kind == 1) = false := by simp [hk]
    have b2 : (e.kind == 2) = false := by simp [hk]
    have b3 : (e.kind == 3) = false := by simp [hk]
    have b4 : (e.kind == 4) = false := by simp [hk]
    have b5 : (e.kind == 5) = true := by simp [hk]
    have b6 : (e.kind == 6) = false := by simp [hk]
    have b7 : (e.kind == 7) = false := by simp [hk]
    have b8 : (e.kind == 8) = false := by simp [hk]
    have b9 : (e.kind == 9) = false := by simp [hk]
    have b10 : (e.kind == 10) = false := by simp [hk]
    simp (config := {contextual := true, maxSteps := 5000000}) only [go_sem, false_and, Nat.reduceAdd, Nat.reduceLT, Nat.reduceBEq, Nat.reduceSub, Nat.reduceMul, Nat.reduceLeDiff, Int.reduceToNat, Nat.reduceEqDiff, Nat.reduceMod, ht, hl, specKB, b1, b2, b3, b4, b5, b6, b7, b8, b9, b10]
    simp only [E.want, hk]
    (repeat' (first | apply And.intro | intro _)) <;> simp_all <;> omega
  · have b1 : (e.kind == 1) = false := by simp [hk]
    have b2 : (e.kind == 2) = false := by simp [hk]
    have b3 : (e.kind == 3) = false := by simp [hk]
    have b4 : (e.kind == 4) = false := by simp [hk]
    have b5 : (e.kind == 5) = false := by simp [hk]
    have b6 : (e.kind == 6) = true := by simp [hk]
    have b7 : (e.kind == 7) = false := by simp [hk]
    have b8 : (e.kind == 8) = false := by simp [hk]
    have b9 : (e.kind == 9) = false := by simp [hk]
    have b10 : (e.kind == 10) = false := by simp [hk]
    simp (config := {contextual := true, maxSteps := 5000000}) only [go_sem, false_and, Nat.reduceAdd, Nat.reduceLT, Nat.reduceBEq, Nat.reduceSub, Nat.reduceMul, Nat.reduceLeDiff, Int.reduceToNat, Nat.reduceEqDiff, Nat.reduceMod, ht, hl, specKB, b1, b2, b3, b4, b5, b6, b7, b8, b9, b10]
    simp only [E.want, hk]
    (repeat' (first | apply And.intro | intro _)) <;> simp_all <;> omega
  · have b1 : (e.kind == 1) = false := by simp [hk]
    have b2 : (e.kind == 2) = false := by simp [hk]
    have b3 : (e.kind == 3) = false := by simp [hk]
    have b4 : (e.kind == 4) = false := by simp [hk]
    have b5 : (e.kind == 5) = false := by simp [hk]
    have b6 : (e.kind == 6) = false := by simp [hk]
    have b7 : (e.kind == 7) = true := by simp [hk]
    have b8 : (e.kind == 8) = false := by simp [hk]
    have b9 : (e.kind == 9) = false := by simp [hk]
    have b10 : (e.kind == 10) = false := by simp [hk]
    simp (config := {contextual := true, maxSteps := 5000000}) only [go_sem, false_and, Nat.reduceAdd, Nat.reduceLT, Nat.reduceBEq, Nat.reduceSub, Nat.reduceMul, Nat.reduceLeDiff, Int.reduceToNat, Nat.reduceEqDiff, Nat.reduceMod, ht, hl, specKB, b1, b2, b3, b4, b5, b6, b7, b8, b9, b10]
    simp only [E.want, hk]
    (repeat' (first | apply And.intro | intro _)) <;> simp_all <;> omega
  · have b1 : (e.kind == 1) = false := by simp [hk]
    have b2 : (e.kind == 2) = false := by simp [hk]
    have b3 : (e.kind == 3) = false := by simp [hk]
    have b4 : (e.kind == 4) = false := by simp [hk]
    have b5 : (e.kind == 5) = false := by simp [hk]
    have b6 : (e.kind == 6) = false := by simp [hk]
    have b7 : (e.kind == 7) = false := by simp [hk]
    have b8 : (e.kind == 8) = true := by simp [hk]
    have b9 : (e.kind == 9) = false := by simp [hk]
    have b10 : (e.kind == 10) = false := by simp [hk]
    simp (config := {contextual := true, maxSteps := 5000000}) only [go_sem, false_and, Nat.reduceAdd, Nat.reduceLT, Nat.reduceBEq, Nat.reduceSub, Nat.reduceMul, Nat.reduceLeDiff, Int.reduceToNat, Nat.reduceEqDiff, Nat.reduceMod, ht, hl, specKB, b1, b2, b3, b4, b5, b6, b7, b8, b9, b10]
    simp only [E.want, hk]
    (repeat' (first | apply And.intro | intro _)) <;> simp_all <;> omega
  · have b1 : (e.kind == 1) = false := by simp [hk]
    have b2 : (e.kind == 2) = false := by simp [hk]
    have b3 : (e.kind == 3) = false := by simp [hk]
    have b4 : (e.kind == 4) = false := by simp [hk]
    have b5 : (e.kind == 5) = false := by simp [hk]
    have b6 : (e.kind == 6) = false := by simp [hk]
    have b7 : (e.kind == 7) = false := by simp [hk]
    have b8 : (e.kind == 8) = false := by simp [hk]
    have b9 : (e.kind == 9) = true := by simp [hk]
    have b10 : (e.kind == 10) = false := by simp [hk]
    simp (config := {contextual := true, maxSteps := 5000000}) only [go_sem, false_and, Nat.reduceAdd, Nat.reduceLT, Nat.reduceBEq, Nat.reduceSub, Nat.reduceMul, Nat.reduceLeDiff, Int.reduceToNat, Nat.reduceEqDiff, Nat.reduceMod, ht, hl, specKB, b1, b2, b3, b4, b5, b6, b7, b8, b9, b10]
    simp only [E.want, hk]
    (repeat' (first | apply And.intro | intro _)) <;> simp_all <;> omega
  · have b1 : (e.kind == 1) = false := by simp [hk]
    have b2 : (e.kind == 2) = false := by simp [hk]
    have b3 : (e.kind == 3) = false := by simp [hk]
    have b4 : (e.kind == 4) = false := by simp [hk]
    have b5 : (e.kind == 5) = false := by simp [hk]
    have b6 : (e.kind == 6) = false := by simp [hk]
    have b7 : (e.kind == 7) = false := by simp [hk]
    have b8 : (e.kind == 8) = false := by simp [hk]
    have b9 : (e.kind == 9) = false := by simp [hk]
    have b10 : (e.kind == 10) = true := by simp [hk]
    simp (config := {contextual := true, maxSteps := 5000000}) only [go_sem, false_and, Nat.reduceAdd, Nat.reduceLT, Nat.reduceBEq, Nat.reduceSub, Nat.reduceMul, Nat.reduceLeDiff, Int.reduceToNat, Nat.reduceEqDiff, Nat.reduceMod, ht, hl, specKB, b1, b2, b3, b4, b5, b6, b7, b8, b9, b10]
    simp only [E.want, hk]
    (repeat' (first | apply And.intro | intro _)) <;> simp_all <;> omega
  · simp (config := {contextual := true, maxSteps := 5000000}) only [go_sem, false_and, Nat.reduceAdd, Nat.reduceLT, Nat.reduceBEq, Nat.reduceSub, Nat.reduceMul, Nat.reduceLeDiff, Int.reduceToNat, Nat.reduceEqDiff, Nat.reduceMod, ht, hl, specKB, b1, b2, b3, b4, b5, b6, b7, b8, b9, b10]
    simp only [beq_eq_false_iff_ne] at b1 b2 b3 b4 b5 b6 b7 b8 b9 b10
    simp [E.want, b1, b2, b3, b4, b5, b6, b7, b8, b9, b10]
end Go.Proofs.YtkdendaohlnlcaaGreat.Av

/- What expr.Right and expr.IsTerm answer. No condition. -/
namespace Go.Proofs.YtkdendaohlnlcaaGreat.Av
set_option linter.unusedVariables false
set_option linter.unusedSimpArgs false
set_option maxRecDepth 4000
set_option maxHeartbeats 1000000
variable {w0 : Base} {k : List Nat} {H : Hp}

mutual
theorem E.sh_nd : ∀ (e : E) (d : Int), e.sh = (e.nd d).all fun x => x.2.loc
  | .mk k i ks, d => by
    simp only [E.sh, E.nd, List.all_cons, E.shL_nd ks (IntKind.i64.wrap (d + 1))]
theorem E.shL_nd : ∀ (l : List E) (d : Int), E.shL l = (E.ndL d l).all fun x => x.2.loc
  | [], d => rfl
  | e :: es, d => by simp only [E.shL, E.ndL, List.all_append, E.sh_nd e d, E.shL_nd es d]
end
def specX3 : Spec := specX2.add 40 (sp1 dE (fun _ => True) fun e => .bool e.loc)
theorem specX3_ok : SpecOk Tryz.prog w0 specX3 := specX2_ok.add (sp1_ok fun e _ k H => shapedX_call e)
theorem Hp.upd_le {A B : Hp} {i : Id} {x : Option Ent} (h : A.Le B) : (A.upd i x).Le (B.upd i x) := by
  intro j e hj
  by_cases hji : j = i
  · subst hji
    rw [Hp.upd_same] at hj ⊢
    exact hj
  · rw [Hp.upd_ne _ _ hji] at hj ⊢
    exact h j e hj
theorem rightX_call (e : E) (hok : e.ok) : CallAt Tryz.prog w0 k 21 [e.av] H H (.int .i64 e.right) := by
  refine callAt tabOk specX3_ok mixed Tryz.func21 rfl rfl Tryz.results21 Tryz.ntmps21 (by simp) [] ?_
  intro hfr t hl ht
  simp only [At, Nat.reduceAdd, List.cons_append, List.nil_append] at ht
  simp (config := {contextual := true, maxSteps := 5000000}) only [go_sem, false_and, Nat.reduceAdd, Nat.reduceLT, Nat.reduceBEq, Nat.reduceSub, Nat.reduceMul, Nat.reduceLeDiff, Int.reduceToNat, Nat.reduceEqDiff, Nat.reduceMod, ht, hl, specX3, specX2, specX1, specX0, resOne]
  have hid : H ⟨1, 1 :: 0 :: k, 23⟩ = none := hfr _ (sfx2 _ _ _)
  have hle : ∀ a, H.Le (H.upd ⟨1, 1 :: 0 :: k, 23⟩ a) := fun a => Hp.le_upd (Hp.Le.refl _) hid
  refine ⟨hok, fun a => ⟨?_, hle _⟩, fun a => ⟨hok, fun b => ⟨?_, hle _⟩, fun b => ?_⟩⟩ <;> simp only [decide_eq_true_eq, decide_eq_false_iff_not] at a
  · rw [E.right, if_pos (by omega)]
  · simp only [decide_eq_true_eq] at b
    rw [E.right, if_neg (by omega), if_pos (by omega)]
  simp only [decide_eq_false_iff_not] at b
  have hright : e.right = if e.sh then 0 else 22 := by rw [E.right, if_neg (by omega), if_neg (by omega)]
  have hsh := E.sh_nd e 1
  have htk : ∀ j x, (e.nd 1)[j]? = some x → ((e.nd 1).take (j + 1)).all (fun x => x.2.loc) = (((e.nd 1).take j).all (fun x => x.2.loc) && x.2.loc) := fun j x hx => by
    rw [List.take_add_one, hx]
    simp [List.all_append]
  have hprev : ∀ j, (∀ i, i < j → (if ((e.nd 1).take (i + 1)).all (fun x => x.2.loc) then none else some AEx.ret) = none) → ((e.nd 1).take j).all (fun x => x.2.loc) = true := fun j hp => by
    cases j with
    | zero => simp
    | succ j =>
      have := hp j (by omega)
      cases h : ((e.nd 1).take (j + 1)).all (fun x => x.2.loc) with
      | true => rfl
      | false => rw [h] at this; simp at this
  refine rangeDet (gf := 55) (caps := [.sptr e.cells]) (xs := e.told) (by simp (config := {contextual := true, maxSteps := 5000000}) only [go_sem, false_and, Nat.reduceAdd, Nat.reduceLT, Nat.reduceBEq, Nat.reduceSub, Nat.reduceMul, Nat.reduceLeDiff, Int.reduceToNat, Nat.reduceEqDiff, Nat.reduceMod, ht, hl, E.cells_eq]) (nodes_iter e hok) (told_len e)
    (fun j => H.upd ⟨1, 1 :: 0 :: k, 23⟩ (some (.cells [.int .i64 (if ((e.nd 1).take j).all (fun x => x.2.loc) then 0 else 22)]))) (fun j => if ((e.nd 1).take (j + 1)).all (fun x => x.2.loc) then none else some .ret) (fun j => by split <;> simp) (fun j v => by split <;> simp) (by simp)
    (fun j i hi => by rw [Hp.upd_ne _ _ (notKey hi (by decide))]; exact hfr i ((List.suffix_cons _ _).trans hi)) ?_ (fun ha => ?_) (fun j c hj hp hc => ?_)
  · intro j x hx hp l key w0' hw0 hkey
    refine vc_sound (tab := tab) (Sp := Spec.no) (mb := []) tabOk Spec.no_ok mixed _ _ _ ?_
    obtain ⟨y, hy, rfl⟩ := told_at e hx
    have hm := hprev j hp
    have ht1 := htk j y hy
    rw [hm, Bool.true_and] at ht1
    simp (config := {contextual := true, maxSteps := 5000000}) only [go_sem, false_and, Nat.reduceAdd, Nat.reduceLT, Nat.reduceBEq, Nat.reduceSub, Nat.reduceMul, Nat.reduceLeDiff, Int.reduceToNat, Nat.reduceEqDiff, Nat.reduceMod, ht, hl, setPs, hm]
    intro w0'' hw0'
    refine vc_sound (tab := tab) (Sp := specX3) (mb := []) tabOk specX3_ok mixed _ _ _ ?_
    have hkn : k <:+ key := (List.suffix_cons _ _).trans hkey
    have hne : (⟨3, 0 :: 0 :: key, 33⟩ : Id) ≠ ⟨1, 1 :: 0 :: k, 23⟩ := fun h => by cases h
    have hnn : ∀ a, (H.upd ⟨1, 1 :: 0 :: k, 23⟩ a) ⟨3, 0 :: 0 :: key, 33⟩ = none := fun a => by
      rw [Hp.upd_ne _ _ hne]
      exact hfr _ (hkn.trans (sfx2 _ _ _))
    simp (config := {contextual := true, maxSteps := 5000000}) only [go_sem, false_and, Nat.reduceAdd, Nat.reduceLT, Nat.reduceBEq, Nat.reduceSub, Nat.reduceMul, Nat.reduceLeDiff, Int.reduceToNat, Nat.reduceEqDiff, Nat.reduceMod, ht, hl, hm, ht1, specX3, specX2, specX1, specX0]
    refine ⟨fun a => ?_, fun a => ?_⟩ <;> simp only [Bool.not_eq_true', Bool.not_eq_false'] at a <;> simp only [a, Bool.false_eq_true, if_false, if_true]
    · exact ⟨rfl, Hp.upd_le (Hp.le_upd (hle _) (hfr _ (hkn.trans (sfx2 _ _ _))))⟩
    · exact ⟨rfl, Hp.le_upd (Hp.Le.refl _) (hnn _)⟩
  · simp (config := {contextual := true, maxSteps := 5000000}) only [go_sem, false_and, Nat.reduceAdd, Nat.reduceLT, Nat.reduceBEq, Nat.reduceSub, Nat.reduceMul, Nat.reduceLeDiff, Int.reduceToNat, Nat.reduceEqDiff, Nat.reduceMod, ht, hl, resOne]
    refine ⟨?_, hle _⟩
    have := hprev _ ha
    rw [E.told_length, List.take_of_length_le (by rw [E.nd_len]; omega), ← hsh] at this
    rw [hright, this]
    rfl
  · split at hc
    · cases hc
    · rename_i hb
      cases hc
      simp (config := {contextual := true, maxSteps := 5000000}) only [go_sem, false_and, Nat.reduceAdd, Nat.reduceLT, Nat.reduceBEq, Nat.reduceSub, Nat.reduceMul, Nat.reduceLeDiff, Int.reduceToNat, Nat.reduceEqDiff, Nat.reduceMod, ht, hl, resOne]
      refine ⟨?_, hle _⟩
      rw [hright, if_neg hb, if_neg]
      rw [hsh]
      intro hall
      apply hb
      rw [List.all_eq_true] at hall ⊢
      exact fun x hx => hall x (List.mem_of_mem_take hx)
def specX4 : Spec := (Spec.no.add 21 (sp1 dE (fun e => e.ok) fun e => .int .i64 e.right)).add 41 (sp1 dE (fun _ => True) fun e => .bool e.term)
theorem specX4_ok : SpecOk Tryz.prog w0 specX4 := (Spec.no_ok.add (sp1_ok fun e h k H => rightX_call e h)).add (sp1_ok fun e _ k H => isTerm_call e)
theorem isTermX_call (e : E) (hok : e.ok) : CallAt Tryz.prog w0 k 22 [e.av] H H (.bool (e.right == 0 && e.term)) := by
  refine callAt tabOk specX4_ok mixed Tryz.func22 rfl rfl Tryz.results22 Tryz.ntmps22 (by simp) [] ?_
  intro hfr t hl ht
  simp only [At, Nat.reduceAdd, List.cons_append, List.nil_append] at ht
  simp (config := {contextual := true, maxSteps := 5000000}) only [go_sem, false_and, Nat.reduceAdd, Nat.reduceLT, Nat.reduceBEq, Nat.reduceSub, Nat.reduceMul, Nat.reduceLeDiff, Int.reduceToNat, Nat.reduceEqDiff, Nat.reduceMod, ht, hl, specX4]
  simp [hok]
def specX5 : Spec := (((Spec.no.add 21 (sp1 dE (fun e => e.ok) fun e => .int .i64 e.right)).add 22 (sp1 dE (fun e => e.ok) fun e => .bool (e.right == 0 && e.term))).add
  37 (sp1 dE (fun e => e.ok) fun e => .int .i64 (min (e.sz : Int) 1001))).add 38 (sp1 dE (fun e => e.ok) fun e => .int .i64 (min (e.dp : Int) 101))
theorem specX5_ok : SpecOk Tryz.prog w0 specX5 := (((Spec.no_ok.add (sp1_ok fun e h k H => rightX_call e h)).add (sp1_ok fun e h k H => isTermX_call e h)).add (sp1_ok fun e h k H => sizeX_call e h)).add (sp1_ok fun e h k H => depthX_call e h)
end Go.Proofs.YtkdendaohlnlcaaGreat.Av

/- What more functions of package expr answer: copies, parts, whether two are the same. No condition. -/
namespace Go.Proofs.YtkdendaohlnlcaaGreat.Av
set_option linter.unusedVariables false
set_option linter.unusedSimpArgs false
set_option maxRecDepth 4000
set_option maxHeartbeats 1000000
variable {w0 : Base} {k : List Nat} {H : Hp}
def specCl (N : Nat) : Spec := Spec.no.add 54 (sp1 dE (fun e => e.sh = true ∧ e.sz < N) fun e => e.av)
theorem clone_step (N : Nat) (hS : SpecOk Tryz.prog w0 (specCl N)) (e : E) (hs : e.sh = true) (hN : e.sz < N + 1) : CallAt Tryz.prog w0 k 54 [e.av] H H e.av := by
  refine callAt tabOk hS mixed Tryz.func54 rfl rfl Tryz.results54 Tryz.ntmps54 (by simp) [1] ?_
  intro hfr t hl ht
  simp only [At, Nat.reduceAdd, List.cons_append, List.nil_append] at ht
  have fN : ∀ (a b : Nat) z ty, H ⟨z, a :: b :: k, ty⟩ = none := fun a b z ty => hfr _ (sfx2 _ _ _)
  have h4 := E.loc_len (E.sh_loc hs)
  simp (config := {contextual := true, maxSteps := 5000000}) only [go_sem, false_and, Nat.reduceAdd, Nat.reduceLT, Nat.reduceBEq, Nat.reduceSub, Nat.reduceMul, Nat.reduceLeDiff, Int.reduceToNat, Nat.reduceEqDiff, Nat.reduceMod, ht, hl]
  refine loop_inv tabOk hS mixed [] (fun j x => ∃ (i : Nat) (tk : Tok), x.tmps.length = 22 ∧ x.tmps.getD 1 AV.undef = .ptr ⟨3, 0 :: 0 :: k, 33⟩ 0 ∧ x.tmps.getD 2 AV.undef = .ptr ⟨3, 1 :: 0 :: k, 33⟩ 0 ∧ x.tmps.getD 3 AV.undef = .list tk ((e.kids.take i).map E.cells) ∧ x.tmps.getD 7 AV.undef = .list .none (e.kids.map E.cells) ∧ x.tmps.getD 8 AV.undef = .int .i64 e.kids.length ∧ x.tmps.getD 9 AV.undef = .int .i64 i ∧
    LstK ((H.upd ⟨3, 0 :: 0 :: k, 33⟩ (some (.cells [.int .i64 e.kind, .int .i64 e.id, .list .none (e.kids.map E.cells)]))).upd ⟨3, 1 :: 0 :: k, 33⟩ (some (.cells [.int .i64 0, .int .i64 0, .list .nil []]))) 3 33 4 k tk x.H ∧ i + j = e.kids.length) e.kids.length ⟨0, .nil, ?_⟩ ?_
  · simp (config := {contextual := true, maxSteps := 5000000}) only [go_sem, false_and, Nat.reduceAdd, Nat.reduceLT, Nat.reduceBEq, Nat.reduceSub, Nat.reduceMul, Nat.reduceLeDiff, Int.reduceToNat, Nat.reduceEqDiff, Nat.reduceMod, ht, hl]
    exact ⟨rfl, ⟨Hp.Le.refl _, .inl rfl⟩, by omega⟩
  · rintro j ⟨t, n, H2⟩ ⟨i, tk, hl, h1, h2, h3, h10, h11, h12, hL, hij⟩
    simp only at hl h1 h2 h3 h10 h11 h12 hL
    have fN1 : ∀ (a b : Nat) z ty, (a ≠ 1 ∧ (a ≠ 0 ∨ b ≠ 0)) → ((H.upd ⟨3, 0 :: 0 :: k, 33⟩ (some (.cells [.int .i64 e.kind, .int .i64 e.id, .list .none (e.kids.map E.cells)]))).upd ⟨3, 1 :: 0 :: k, 33⟩ (some (.cells [.int .i64 0, .int .i64 0, .list .nil []]))) ⟨z, a :: b :: k, ty⟩ = none := fun a b z ty ha => by
      rw [Hp.upd_ne _ _ (fun h => by cases h; exact ha.1 rfl), Hp.upd_ne _ _ (fun h => by cases h; exact ha.2.elim (fun h => h rfl) (fun h => h rfl))]
      exact fN _ _ _ _
    have hle : H.Le H2 := fun i y hi => hL.1 i y (by rw [Hp.upd_ne _ _ (fun h => by rw [h, fN] at hi; cases hi), Hp.upd_ne _ _ (fun h => by rw [h, fN] at hi; cases hi)]; exact hi)
    by_cases hi : i < e.kids.length
    · have hd : decide ((i : Int) < (e.kids.length : Int)) = true := by simp [hi]
      have hw : IntKind.i64.wrap ((i : Int) + 1) = ((i + 1 : Nat) : Int) := by rw [wrap_i64] <;> omega
      obtain ⟨x, hx, he⟩ := E.kid e hi
      simp (config := {contextual := true, maxSteps := 5000000}) only [go_sem, false_and, Nat.reduceAdd, Nat.reduceLT, Nat.reduceBEq, Nat.reduceSub, Nat.reduceMul, Nat.reduceLeDiff, Int.reduceToNat, Nat.reduceEqDiff, Nat.reduceMod, he, toE_at, specCl, h1, h2, h3, h10, h11, h12, hl, hd, hw, strip, tokBy_cons]
      have hy : [[AV.int .i64 x.kind, .int .i64 x.id, .list .none (x.kids.map E.cells)]] = [x.cells] := by rw [E.cells_eq x]
      have hlt : (e.kids.take i).length = i := by rw [List.length_take]; omega
      have hF : ∀ c, LstK ((H.upd ⟨3, 0 :: 0 :: k, 33⟩ (some (.cells [.int .i64 e.kind, .int .i64 e.id, .list .none (e.kids.map E.cells)]))).upd ⟨3, 1 :: 0 :: k, 33⟩ (some (.cells [.int .i64 0, .int .i64 0, .list .nil []]))) 3 33 4 k tk (H2.upd ⟨3, 2 :: (n + 1) :: k, 33⟩ c) := fun c => hL.frame (fN1 _ _ _ _ ⟨by decide, .inl (by decide)⟩) (fun m he => by cases he)
      have hP := fun c => (hF c).push (fun m => fN1 _ _ _ _ ⟨by decide, .inl (by decide)⟩) (y := x.cells) (ys := []) (n + 1 + 1)
      simp only [tokBy_cons] at hP
      refine ⟨by omega, ⟨E.sh_kid hs hx, by have := E.kid_sz hx; omega⟩, fun y h => (h.elim (fun h => by rw [h]; rfl) (fun h => h.elim)), fun y h => by (obtain ⟨z, _, rfl⟩ := List.mem_map.1 h; exact E.cells_length _), rfl, by omega, by omega, (hF _).live, j - 1, by omega, i + 1, _, ?_, rfl, hP _, by omega⟩
      rw [hy, take_map _ hx]
    · have hd : decide ((i : Int) < (e.kids.length : Int)) = false := by simp; omega
      have e6 : e.kids.take i = e.kids := List.take_of_length_le (by omega)
      rw [e6] at h3
      have hA : H2 ⟨3, 0 :: 0 :: k, 33⟩ = some (.cells [.int .i64 e.kind, .int .i64 e.id, .list .none (e.kids.map E.cells)]) := hL.1 _ _ (by rw [Hp.upd_ne _ _ (fun h => by cases h)]; exact Hp.upd_same _ _ _)
      have hR : H2 ⟨3, 1 :: 0 :: k, 33⟩ = some (.cells [.int .i64 0, .int .i64 0, .list .nil []]) := hL.1 _ _ (Hp.upd_same _ _ _)
      simp (config := {contextual := true, maxSteps := 5000000}) only [go_sem, false_and, Nat.reduceAdd, Nat.reduceLT, Nat.reduceBEq, Nat.reduceSub, Nat.reduceMul, Nat.reduceLeDiff, Int.reduceToNat, Nat.reduceEqDiff, Nat.reduceMod, specCl, h1, h2, h3, h10, h11, h12, hA, hl, hd, hR, resOne]
      exact ⟨WeakL.agg ⟨_, _, rfl, Weak.refl _, _, _, rfl, Weak.refl _, _, _, rfl, list_weak, rfl⟩, by (repeat (first | exact hle | refine Hp.le_upd ?_ (fN _ _ _ _)))⟩
theorem specCl_ok : ∀ N, SpecOk Tryz.prog w0 (specCl N)
  | 0 => Spec.no_ok.add (sp1_ok fun e h => by omega)
  | N + 1 => Spec.no_ok.add (sp1_ok fun e h k H => clone_step N (specCl_ok N) e h.1 h.2)
theorem clone_call (e : E) (hs : e.sh = true) : CallAt Tryz.prog w0 k 54 [e.av] H H e.av := clone_step e.sz (specCl_ok _) e hs (Nat.lt_succ_self _)
/-- The part at a path. -/
def E.atP : E → List Int → Option E
  | e, [] => some e
  | e, i :: p => if 0 ≤ i then (match e.kids[i.toNat]? with
    | some x => x.atP p
    | none => none) else none
theorem atP_call (e : E) (p : List Int) (hp : (p.length : Int) ≤ 9223372036854775807) : CallAt Tryz.prog w0 k 53 [e.av, (dL cI).enc p] H H (.tup [((e.atP p).getD noE).av, .bool (e.atP p).isSome]) := by
  refine callAt tabOk Spec.no_ok mixed Tryz.func53 rfl rfl Tryz.results53 Tryz.ntmps53 (by simp) [2] ?_
  intro hfr t hl ht
  simp only [At, dL, Nat.reduceAdd] at ht
  have fN : ∀ (a b : Nat) z ty, H ⟨z, a :: b :: k, ty⟩ = none := fun a b z ty => hfr _ (sfx2 _ _ _)
  simp (config := {contextual := true, maxSteps := 5000000}) only [go_sem, false_and, Nat.reduceAdd, Nat.reduceLT, Nat.reduceBEq, Nat.reduceSub, Nat.reduceMul, Nat.reduceLeDiff, Int.reduceToNat, Nat.reduceEqDiff, Nat.reduceMod, ht, hl]
  refine loop_inv tabOk Spec.no_ok mixed [2] (fun j x => ∃ (i : Nat) (y : E), x.tmps.length = 31 ∧ x.tmps.getD 2 AV.undef = .ptr ⟨3, 0 :: 0 :: k, 33⟩ 0 ∧ x.tmps.getD 4 AV.undef = .ptr ⟨3, 1 :: 0 :: k, 33⟩ 0 ∧ x.tmps.getD 8 AV.undef = .list .none (p.map cI.enc) ∧ x.tmps.getD 9 AV.undef = .int .i64 p.length ∧ x.tmps.getD 10 AV.undef = .int .i64 i ∧ x.H ⟨3, 0 :: 0 :: k, 33⟩ = some (.cells [.int .i64 y.kind, .int .i64 y.id, .list .none (y.kids.map E.cells)]) ∧ H.Le x.H ∧ e.atP p = y.atP (p.drop i) ∧ i + j = p.length) p.length ⟨0, e, ?_⟩ ?_
  · simp (config := {contextual := true, maxSteps := 5000000}) only [go_sem, false_and, Nat.reduceAdd, Nat.reduceLT, Nat.reduceBEq, Nat.reduceSub, Nat.reduceMul, Nat.reduceLeDiff, Int.reduceToNat, Nat.reduceEqDiff, Nat.reduceMod, ht, hl]
    exact ⟨rfl, Hp.le_upd (Hp.le_upd (Hp.Le.refl _) (fN _ _ _ _)) (fN _ _ _ _), by omega⟩
  · rintro j ⟨t, m, H'⟩ ⟨i, y, hl, g2, g4, g8, g9, g10, hY, hH, hat, hij⟩
    simp only at hl g2 g4 g8 g9 g10 hY hH
    by_cases hi : i < p.length
    · have hd : decide ((i : Int) < (p.length : Int)) = true := by simp [hi]
      have hw2 : IntKind.i64.wrap ((i : Int) + 1) = ((i + 1 : Nat) : Int) := by rw [wrap_i64] <;> omega
      obtain ⟨q, hq, hqe⟩ := int_get p hi
      have hdr : p.drop i = q :: p.drop (i + 1) := by
        rw [List.drop_eq_getElem_cons hi]
        congr 1
        rw [List.getElem?_eq_getElem hi] at hq
        exact Option.some.inj hq
      rw [hdr, E.atP] at hat
      by_cases h0 : q < 0
      · have d0 : decide (q < 0) = true := by simpa using h0
        rw [if_neg (by omega)] at hat
        simp (config := {contextual := true, maxSteps := 5000000}) only [go_sem, false_and, Nat.reduceAdd, Nat.reduceLT, Nat.reduceBEq, Nat.reduceSub, Nat.reduceMul, Nat.reduceLeDiff, Int.reduceToNat, Nat.reduceEqDiff, Nat.reduceMod, hqe, g2, g4, g8, g9, g10, hl, hY, hd, d0, resOne]
        rw [hat]
        exact ⟨⟨by omega, by omega⟩, tup2_weak noEw_weak, Hp.le_upd hH (fN _ _ _ _)⟩
      have d0 : decide (q < 0) = false := by simpa using h0
      rw [if_pos (by omega)] at hat
      by_cases h1 : (y.kids.length : Int) ≤ q
      · have d1 : decide ((y.kids.length : Int) ≤ q) = true := by simpa using h1
        rw [List.getElem?_eq_none (by omega)] at hat
        simp (config := {contextual := true, maxSteps := 5000000}) only [go_sem, false_and, Nat.reduceAdd, Nat.reduceLT, Nat.reduceBEq, Nat.reduceSub, Nat.reduceMul, Nat.reduceLeDiff, Int.reduceToNat, Nat.reduceEqDiff, Nat.reduceMod, hqe, g2, g4, g8, g9, g10, hl, hY, hd, d0, d1, resOne]
        rw [hat]
        exact ⟨⟨by omega, by omega⟩, tup2_weak noEw_weak, Hp.le_upd hH (fN _ _ _ _)⟩
      have d1 : decide ((y.kids.length : Int) ≤ q) = false := by simpa using h1
      obtain ⟨z, hz, hze⟩ := E.kid y (i := q.toNat) (by omega)
      rw [hz] at hat
      simp (config := {contextual := true, maxSteps := 5000000}) only [go_sem, false_and, Nat.reduceAdd, Nat.reduceLT, Nat.reduceBEq, Nat.reduceSub, Nat.reduceMul, Nat.reduceLeDiff, Int.reduceToNat, Nat.reduceEqDiff, Nat.reduceMod, hqe, hze, g2, g4, g8, g9, g10, hl, hY, hd, d0, d1, hw2]
      refine ⟨⟨by omega, by omega⟩, ⟨by omega, by omega⟩, j - 1, by omega, i + 1, z, rfl, rfl, ?_, hat, by omega⟩
      exact Hp.le_upd hH (fN _ _ _ _)
    · have hd : decide ((i : Int) < (p.length : Int)) = false := by simp; omega
      rw [List.drop_of_length_le (by omega), E.atP] at hat
      simp (config := {contextual := true, maxSteps := 5000000}) only [go_sem, false_and, Nat.reduceAdd, Nat.reduceLT, Nat.reduceBEq, Nat.reduceSub, Nat.reduceMul, Nat.reduceLeDiff, Int.reduceToNat, Nat.reduceEqDiff, Nat.reduceMod, g2, g4, g8, g9, g10, hl, hY, hd, resOne]
      rw [hat]
      exact ⟨Weak.refl _, Hp.le_upd hH (fN _ _ _ _)⟩
def atR (e : E) (p : List Int) : E × Int := if e.right = 0 then (match e.atP p with
  | some x => (x, 0)
  | none => (noE, 24)) else (noE, e.right)
theorem atP_sh : ∀ (p : List Int) (e x : E), e.sh = true → e.atP p = some x → x.sh = true
  | [], e, x, hs, h => by
    simp only [E.atP, Option.some.injEq] at h
    rw [← h]
    exact hs
  | i :: p, e, x, hs, h => by
    rw [E.atP] at h
    split at h
    · split at h
      · rename_i y hy
        exact atP_sh p y x (E.sh_kid hs hy) h
      · cases h
    · cases h
def specAt : Spec := ((Spec.no.add 21 (sp1 dE (fun e => e.ok) fun e => .int .i64 e.right)).add 53 (sp2 dE (dL cI) (fun _ p => (p.length : Int) ≤ 9223372036854775807) fun e p => .tup [((e.atP p).getD noE).av, .bool (e.atP p).isSome])).add 54 (sp1 dE (fun e => e.sh = true) fun e => e.av)
theorem specAt_ok : SpecOk Tryz.prog w0 specAt := ((Spec.no_ok.add (sp1_ok fun e h k H => rightX_call e h)).add (sp2_ok fun e p h k H => atP_call e p h)).add (sp1_ok fun e h k H => clone_call e h)
theorem at_call (e : E) (p : List Int) (hok : e.ok) (hp : (p.length : Int) ≤ 9223372036854775807) : CallAt Tryz.prog w0 k 35 [e.av, (dL cI).enc p] H H (.tup [(atR e p).1.av, .int .i64 (atR e p).2]) := by
  refine callAt tabOk specAt_ok mixed Tryz.func35 rfl rfl Tryz.results35 Tryz.ntmps35 (by simp) [] ?_
  intro hfr t hl ht
  simp only [At, dL, Nat.reduceAdd] at ht
  have fN : ∀ (a b : Nat) z ty, H ⟨z, a :: b :: k, ty⟩ = none := fun a b z ty => hfr _ (sfx2 _ _ _)
  have hdl : (dL cI).dec (.list .none (p.map cI.enc)) = some p := dL_at
  unfold atR
  by_cases h0 : e.right = 0
  · have hb : (e.right != 0) = false := by simp [h0]
    rw [if_pos h0]
    have hsh : e.sh = true := by
      have := h0
      unfold E.right at this
      (repeat' split at this) <;> first | assumption | omega
    cases ha : e.atP p with
    | none =>
      simp (config := {contextual := true, maxSteps := 5000000}) only [go_sem, false_and, Nat.reduceAdd, Nat.reduceLT, Nat.reduceBEq, Nat.reduceSub, Nat.reduceMul, Nat.reduceLeDiff, Int.reduceToNat, Nat.reduceEqDiff, Nat.reduceMod, ht, hl, specAt, toE_at, hb, hdl, ha, resOne]
      exact ⟨hok, hp, tup2_weak noEw_weak, (by (repeat (first | exact Hp.Le.refl _ | refine Hp.le_upd ?_ (fN _ _ _ _))))⟩
    | some x =>
      have hx := atP_sh p e x hsh ha
      simp (config := {contextual := true, maxSteps := 5000000}) only [go_sem, false_and, Nat.reduceAdd, Nat.reduceLT, Nat.reduceBEq, Nat.reduceSub, Nat.reduceMul, Nat.reduceLeDiff, Int.reduceToNat, Nat.reduceEqDiff, Nat.reduceMod, ht, hl, specAt, toE_at, hb, hdl, ha, resOne]
      exact ⟨hok, hp, hx, (by (repeat (first | exact Hp.Le.refl _ | refine Hp.le_upd ?_ (fN _ _ _ _))))⟩
  · have hb : (e.right != 0) = true := by simpa using h0
    rw [if_neg h0]
    simp (config := {contextual := true, maxSteps := 5000000}) only [go_sem, false_and, Nat.reduceAdd, Nat.reduceLT, Nat.reduceBEq, Nat.reduceSub, Nat.reduceMul, Nat.reduceLeDiff, Int.reduceToNat, Nat.reduceEqDiff, Nat.reduceMod, ht, hl, specAt, toE_at, hb, resOne]
    exact ⟨hok, tup2_weak noEw_weak, (by (repeat (first | exact Hp.Le.refl _ | refine Hp.le_upd ?_ (fN _ _ _ _))))⟩
def headA (e : E) : AV := .agg [.int .i64 e.kind, .int .i64 e.id, .int .i64 e.kids.length]
theorem headOf_call (e : E) : CallAt Tryz.prog w0 k 61 [e.av] H H (headA e) := by
  refine callAt tabOk Spec.no_ok mixed Tryz.func61 rfl rfl Tryz.results61 Tryz.ntmps61 (by simp) [] ?_
  intro hfr t hl ht
  simp only [At, Nat.reduceAdd, List.cons_append, List.nil_append] at ht
  have fN : ∀ (a b : Nat) z ty, H ⟨z, a :: b :: k, ty⟩ = none := fun a b z ty => hfr _ (sfx2 _ _ _)
  simp (config := {contextual := true, maxSteps := 5000000}) only [go_sem, false_and, Nat.reduceAdd, Nat.reduceLT, Nat.reduceBEq, Nat.reduceSub, Nat.reduceMul, Nat.reduceLeDiff, Int.reduceToNat, Nat.reduceEqDiff, Nat.reduceMod, ht, hl, resOne]
  exact ⟨Weak.refl _, (by (repeat (first | exact Hp.Le.refl _ | refine Hp.le_upd ?_ (fN _ _ _ _))))⟩
def sgn (b : Bool) : Int := if b then -1 else 1
theorem sign_call (b : Bool) : CallAt Tryz.prog w0 k 62 [.bool b] H H (.int .i64 (sgn b)) := by
  refine callAt tabOk Spec.no_ok mixed Tryz.func62 rfl rfl Tryz.results62 Tryz.ntmps62 (by simp) [] ?_
  intro hfr t hl ht
  simp only [At, Nat.reduceAdd, List.cons_append, List.nil_append] at ht
  cases b <;> simp (config := {contextual := true, maxSteps := 5000000}) only [go_sem, false_and, Nat.reduceAdd, Nat.reduceLT, Nat.reduceBEq, Nat.reduceSub, Nat.reduceMul, Nat.reduceLeDiff, Int.reduceToNat, Nat.reduceEqDiff, Nat.reduceMod, ht, hl, sgn]
mutual
/-- The program's order. -/
def E.pord : E → E → Int
  | .mk k i ks, b => if k = b.kind ∧ i = b.id ∧ ks.length = b.kids.length then E.pordL ks b.kids else if k ≠ b.kind then sgn (decide (k < b.kind)) else if i ≠ b.id then sgn (decide (i < b.id)) else sgn (decide ((ks.length : Int) < (b.kids.length : Int)))
def E.pordL : List E → List E → Int
  | x :: xs, y :: ys => if x.pord y = 0 then E.pordL xs ys else x.pord y
  | _, _ => 0
end
theorem E.pord_eq (a b : E) : a.pord b = if a.kind = b.kind ∧ a.id = b.id ∧ a.kids.length = b.kids.length then E.pordL a.kids b.kids else if a.kind ≠ b.kind then sgn (decide (a.kind < b.kind)) else if a.id ≠ b.id then sgn (decide (a.id < b.id)) else sgn (decide ((a.kids.length : Int) < (b.kids.length : Int))) := by cases a; rw [E.pord]; rfl
theorem sgn_ne (b : Bool) : sgn b ≠ 0 := by cases b <;> decide
mutual
theorem E.pord_zero : ∀ a b : E, a.pord b = 0 ↔ a = b
  | .mk k i ks, .mk k' i' ks' => by
    rw [E.pord_eq, E.mk.injEq]
    by_cases h : (E.mk k i ks).kind = (E.mk k' i' ks').kind ∧ (E.mk k i ks).id = (E.mk k' i' ks').id ∧ (E.mk k i ks).kids.length = (E.mk k' i' ks').kids.length
    · rw [if_pos h, E.pordL_zero (E.mk k i ks).kids (E.mk k' i' ks').kids h.2.2]
      exact ⟨fun g => ⟨h.1, h.2.1, g⟩, fun g => g.2.2⟩
    · rw [if_neg h]
      refine ⟨fun g => ?_, fun g => absurd ⟨g.1, g.2.1, by rw [g.1, g.2.1, g.2.2]⟩ h⟩
      exfalso
      (repeat' split at g) <;> exact sgn_ne _ g
theorem E.pordL_zero : ∀ l m : List E, l.length = m.length → (E.pordL l m = 0 ↔ l = m)
  | [], [], _ => by simp [E.pordL]
  | x :: xs, y :: ys, h => by
    rw [E.pordL]
    have h1 := E.pord_zero x y
    have h2 := E.pordL_zero xs ys (by simpa using h)
    simp only [List.cons.injEq]
    split
    · rename_i h0
      rw [h2]
      exact ⟨fun g => ⟨h1.1 h0, g⟩, fun g => g.2⟩
    · rename_i h0
      exact ⟨fun g => absurd g h0, fun g => absurd (h1.2 g.1) h0⟩
end
def specHd : Spec := (Spec.no.add 61 (sp1 dE (fun _ => True) fun e => headA e)).add 62 (sp1 dB (fun _ => True) fun b => .int .i64 (sgn b))
theorem specHd_ok : SpecOk Tryz.prog w0 specHd := (Spec.no_ok.add (sp1_ok fun e _ k H => headOf_call e)).add (sp1_ok fun b _ k H => sign_call b)
theorem eqAsk_head : eqAsk Tryz.prog 82 [.int .i64, .int .i64, .int .i64] = true := by kernel_rfl
def specPo (N : Nat) : Spec := specHd.add 44 (sp2 dE dE (fun a _ => a.ok ∧ a.sz < N) fun a b => .int .i64 (a.pord b))
theorem pordL_drop {l m : List E} {i : Nat} {x y : E} (hx : l[i]? = some x) (hy : m[i]? = some y) : E.pordL (l.drop i) (m.drop i) = if x.pord y = 0 then E.pordL (l.drop (i + 1)) (m.drop (i + 1)) else x.pord y := by
  obtain ⟨h1, rfl⟩ := List.getElem?_eq_some_iff.1 hx
  obtain ⟨h2, rfl⟩ := List.getElem?_eq_some_iff.1 hy
  rw [List.drop_eq_getElem_cons h1, List.drop_eq_getElem_cons h2, E.pordL]
theorem pord_step (N : Nat) (hS : SpecOk Tryz.prog w0 (specPo N)) (a b : E) (hok : a.ok) (hN : a.sz < N + 1) : CallAt Tryz.prog w0 k 44 [a.av, b.av] H H (.int .i64 (a.pord b)) := by
  refine callAt tabOk hS mixed Tryz.func44 rfl rfl Tryz.results44 Tryz.ntmps44 (by simp) [] ?_
  intro hfr t hl ht
  simp only [At, Nat.reduceAdd, List.cons_append, List.nil_append] at ht
  have fN : ∀ (a b : Nat) z ty, H ⟨z, a :: b :: k, ty⟩ = none := fun a b z ty => hfr _ (sfx2 _ _ _)
  rw [E.pord_eq]
  have hlen := E.ok_len hok
  by_cases hk : a.kind = b.kind
  · have hk' : (a.kind == b.kind) = true := by simpa using hk
    have hk2 : (a.kind != b.kind) = false := by simp [hk]
    by_cases hi : a.id = b.id
    · have hi' : (a.id == b.id) = true := by simpa using hi
      have hi2 : (a.id != b.id) = false := by simp [hi]
      by_cases hn : a.kids.length = b.kids.length
      · have hn' : ((a.kids.length : Int) == (b.kids.length : Int)) = true := by simp [hn]
        rw [if_pos ⟨hk, hi, hn⟩]
        simp (config := {contextual := true, maxSteps := 5000000}) only [go_sem, false_and, Nat.reduceAdd, Nat.reduceLT, Nat.reduceBEq, Nat.reduceSub, Nat.reduceMul, Nat.reduceLeDiff, Int.reduceToNat, Nat.reduceEqDiff, Nat.reduceMod, ht, hl, specPo, specHd, headA, eqAsk_head, hk', hi', hn', hk2, hi2]
        refine ⟨by kernel_rfl, by (refine pw_of ?_; (repeat' (first | exact trivial | apply And.intro)); all_goals (first | exact .inr rfl | exact .inr trivial | exact .inl (by kernel_rfl))), ?_⟩
        refine loop_inv tabOk hS mixed [] (fun j x => ∃ i : Nat, x.tmps.length = 67 ∧ x.tmps.getD 2 AV.undef = .sptr [.int .i64 a.kind, .int .i64 a.id, .list .none (a.kids.map E.cells)] ∧ x.tmps.getD 3 AV.undef = .sptr [.int .i64 b.kind, .int .i64 b.id, .list .none (b.kids.map E.cells)] ∧ x.tmps.getD 48 AV.undef = .int .i64 a.kids.length ∧ x.tmps.getD 49 AV.undef = .int .i64 i ∧ H.Le x.H ∧ i + j = a.kids.length ∧ E.pordL a.kids b.kids = E.pordL (a.kids.drop i) (b.kids.drop i)) a.kids.length ⟨0, ?_⟩ ?_
        · simp (config := {contextual := true, maxSteps := 5000000}) only [go_sem, false_and, Nat.reduceAdd, Nat.reduceLT, Nat.reduceBEq, Nat.reduceSub, Nat.reduceMul, Nat.reduceLeDiff, Int.reduceToNat, Nat.reduceEqDiff, Nat.reduceMod, ht, hl]
          exact ⟨rfl, (by (repeat (first | exact Hp.Le.refl _ | refine Hp.le_upd ?_ (fN _ _ _ _)))), by omega⟩
        · rintro j ⟨t, m, H'⟩ ⟨i, hl, g2, g3, g48, g49, hH, hij, hd⟩
          simp only at hl g2 g3 g48 g49 hH
          by_cases hi : i < a.kids.length
          · have d : decide ((i : Int) < (a.kids.length : Int)) = true := by simp [hi]
            have hw2 : IntKind.i64.wrap ((i : Int) + 1) = ((i + 1 : Nat) : Int) := by rw [wrap_i64] <;> omega
            obtain ⟨x, hx, hxe⟩ := E.kid a hi
            obtain ⟨y, hy, hye⟩ := E.kid b (i := i) (by omega)
            have hpd := pordL_drop hx hy
            have hxs : x.sz < N := by have := E.kid_sz hx; omega
            have hxo := E.ok_kid hok hx
            by_cases h0 : x.pord y = 0
            · have h0' : (x.pord y != 0) = false := by simp [h0]
              rw [if_pos h0] at hpd
              simp (config := {contextual := true, maxSteps := 5000000}) only [go_sem, false_and, Nat.reduceAdd, Nat.reduceLT, Nat.reduceBEq, Nat.reduceSub, Nat.reduceMul, Nat.reduceLeDiff, Int.reduceToNat, Nat.reduceEqDiff, Nat.reduceMod, hxe, hye, specPo, specHd, g2, g3, g48, g49, hl, d, hw2, h0']
              refine ⟨by kernel_rfl, ⟨by omega, by omega⟩, ⟨by omega, by omega⟩, ⟨hxo, hxs⟩, by (refine pw_of ?_; (repeat' (first | exact trivial | apply And.intro)); all_goals (first | exact .inr rfl | exact .inr trivial | exact .inl (by kernel_rfl))), j - 1, by omega, i + 1, rfl, (by (repeat (first | exact hH | exact Hp.Le.refl _ | refine Hp.le_upd ?_ (fN _ _ _ _)))), by omega, by rw [hd, hpd]⟩
            · have h0' : (x.pord y != 0) = true := by simpa using h0
              rw [if_neg h0] at hpd
              simp (config := {contextual := true, maxSteps := 5000000}) only [go_sem, false_and, Nat.reduceAdd, Nat.reduceLT, Nat.reduceBEq, Nat.reduceSub, Nat.reduceMul, Nat.reduceLeDiff, Int.reduceToNat, Nat.reduceEqDiff, Nat.reduceMod, hxe, hye, specPo, specHd, g2, g3, g48, g49, hl, d, hw2, h0']
              rw [hd, hpd]
              refine ⟨by kernel_rfl, ⟨by omega, by omega⟩, ⟨by omega, by omega⟩, ⟨hxo, hxs⟩, by (refine pw_of ?_; (repeat' (first | exact trivial | apply And.intro)); all_goals (first | exact .inr rfl | exact .inr trivial | exact .inl (by kernel_rfl))), rfl, (by (repeat (first | exact hH | exact Hp.Le.refl _ | refine Hp.le_upd ?_ (fN _ _ _ _))))⟩
          · have d : decide ((i : Int) < (a.kids.length : Int)) = false := by simp; omega
            simp (config := {contextual := true, maxSteps := 5000000}) only [go_sem, false_and, Nat.reduceAdd, Nat.reduceLT, Nat.reduceBEq, Nat.reduceSub, Nat.reduceMul, Nat.reduceLeDiff, Int.reduceToNat, Nat.reduceEqDiff, Nat.reduceMod, g2, g3, g48, g49, hl, d]
            rw [hd, List.drop_of_length_le (show a.kids.length ≤ i by omega)]
            exact ⟨by simp [E.pordL], hH⟩
      · have hn' : ((a.kids.length : Int) == (b.kids.length : Int)) = false := by rw [beq_eq_false_iff_ne]; omega
        rw [if_neg (fun h => hn h.2.2), if_neg (fun h => h hk), if_neg (fun h => h hi)]
        simp (config := {contextual := true, maxSteps := 5000000}) only [go_sem, false_and, Nat.reduceAdd, Nat.reduceLT, Nat.reduceBEq, Nat.reduceSub, Nat.reduceMul, Nat.reduceLeDiff, Int.reduceToNat, Nat.reduceEqDiff, Nat.reduceMod, ht, hl, specPo, specHd, headA, eqAsk_head, hk', hi', hn', hk2, hi2]
        refine ⟨by kernel_rfl, by (refine pw_of ?_; (repeat' (first | exact trivial | apply And.intro)); all_goals (first | exact .inr rfl | exact .inr trivial | exact .inl (by kernel_rfl))), (by (repeat (first | exact Hp.Le.refl _ | refine Hp.le_upd ?_ (fN _ _ _ _))))⟩
    · have hi' : (a.id == b.id) = false := by simpa using hi
      have hi2 : (a.id != b.id) = true := by simpa using hi
      rw [if_neg (fun h => hi h.2.1), if_neg (fun h => h hk), if_pos hi]
      simp (config := {contextual := true, maxSteps := 5000000}) only [go_sem, false_and, Nat.reduceAdd, Nat.reduceLT, Nat.reduceBEq, Nat.reduceSub, Nat.reduceMul, Nat.reduceLeDiff, Int.reduceToNat, Nat.reduceEqDiff, Nat.reduceMod, ht, hl, specPo, specHd, headA, eqAsk_head, hk', hi', hk2, hi2]
      refine ⟨by kernel_rfl, by (refine pw_of ?_; (repeat' (first | exact trivial | apply And.intro)); all_goals (first | exact .inr rfl | exact .inr trivial | exact .inl (by kernel_rfl))), (by (repeat (first | exact Hp.Le.refl _ | refine Hp.le_upd ?_ (fN _ _ _ _))))⟩
  · have hk' : (a.kind == b.kind) = false := by simpa using hk
    have hk2 : (a.kind != b.kind) = true := by simpa using hk
    rw [if_neg (fun h => hk h.1), if_pos hk]
    simp (config := {contextual := true, maxSteps := 5000000}) only [go_sem, false_and, Nat.reduceAdd, Nat.reduceLT, Nat.reduceBEq, Nat.reduceSub, Nat.reduceMul, Nat.reduceLeDiff, Int.reduceToNat, Nat.reduceEqDiff, Nat.reduceMod, ht, hl, specPo, specHd, headA, eqAsk_head, hk', hk2]
    refine ⟨by kernel_rfl, by (refine pw_of ?_; (repeat' (first | exact trivial | apply And.intro)); all_goals (first | exact .inr rfl | exact .inr trivial | exact .inl (by kernel_rfl))), (by (repeat (first | exact Hp.Le.refl _ | refine Hp.le_upd ?_ (fN _ _ _ _))))⟩
theorem specPo_ok : ∀ N, SpecOk Tryz.prog w0 (specPo N)
  | 0 => specHd_ok.add (sp2_ok fun a b h => by omega)
  | N + 1 => specHd_ok.add (sp2_ok fun a b h k H => pord_step N (specPo_ok N) a b h.1 h.2)
theorem pord_call (a b : E) (hok : a.ok) : CallAt Tryz.prog w0 k 44 [a.av, b.av] H H (.int .i64 (a.pord b)) := pord_step a.sz (specPo_ok _) a b hok (Nat.lt_succ_self _)
def specSm : Spec := (Spec.no.add 21 (sp1 dE (fun e => e.ok) fun e => .int .i64 e.right)).add 44 (sp2 dE dE (fun a _ => a.ok) fun a b => .int .i64 (a.pord b))
theorem specSm_ok : SpecOk Tryz.prog w0 specSm := (Spec.no_ok.add (sp1_ok fun e h k H => rightX_call e h)).add (sp2_ok fun a b h k H => pord_call a b h)
/-- Are both right, and the same? -/
def sameE (a b : E) : Bool := (a.right == 0) && ((b.right == 0) && a.like b)
theorem same_call (a b : E) (ha : a.ok) (hb : b.ok) : CallAt Tryz.prog w0 k 24 [a.av, b.av] H H (.bool (sameE a b)) := by
  refine callAt tabOk specSm_ok mixed Tryz.func24 rfl rfl Tryz.results24 Tryz.ntmps24 (by simp) [] ?_
  intro hfr t hl ht
  simp only [At, Nat.reduceAdd, List.cons_append, List.nil_append] at ht
  have hp : (a.pord b == 0) = a.like b := by
    rw [Bool.eq_iff_iff, beq_iff_eq, E.pord_zero, E.like_iff]
  simp (config := {contextual := true, maxSteps := 5000000}) only [go_sem, false_and, Nat.reduceAdd, Nat.reduceLT, Nat.reduceBEq, Nat.reduceSub, Nat.reduceMul, Nat.reduceLeDiff, Int.reduceToNat, Nat.reduceEqDiff, Nat.reduceMod, ht, hl, specSm, toE_at, hp]
  unfold sameE
  cases h1 : a.right == 0 <;> cases h2 : b.right == 0 <;> simp [ha, hb]
theorem sameE_right {a b : E} (ha : a.right = 0) (hb : b.right = 0) : sameE a b = a.like b := by simp [sameE, ha, hb]
end Go.Proofs.YtkdendaohlnlcaaGreat.Av

/- The program's schemas: constructors, what the rows make, the walk down a path. No condition. -/
namespace Go.Proofs.YtkdendaohlnlcaaGreat.Av
set_option linter.unusedVariables false
set_option linter.unusedSimpArgs false
set_option maxRecDepth 4000
set_option maxHeartbeats 1000000
variable {w0 : Base} {k : List Nat} {H : Hp}
theorem notS_call (e : E) : CallAt Tryz.prog w0 k 93 [e.av] H H (nt e).av := by
  refine callAt tabOk Spec.no_ok mixed Tryz.func93 rfl rfl Tryz.results93 Tryz.ntmps93 (by simp) [] ?_
  intro hfr t hl ht
  simp only [At, Nat.reduceAdd, List.cons_append, List.nil_append] at ht
  have fN : ∀ (a b : Nat) z ty, H ⟨z, a :: b :: k, ty⟩ = none := fun a b z ty => hfr _ (sfx2 _ _ _)
  simp (config := {contextual := true, maxSteps := 5000000}) only [go_sem, false_and, Nat.reduceAdd, Nat.reduceLT, Nat.reduceBEq, Nat.reduceSub, Nat.reduceMul, Nat.reduceLeDiff, Int.reduceToNat, Nat.reduceEqDiff, Nat.reduceMod, ht, hl, strip, resOne]
  exact ⟨mk1_weak, (by (repeat (first | exact Hp.Le.refl _ | refine Hp.le_upd ?_ (fN _ _ _ _))))⟩
theorem impS_call (a b : E) : CallAt Tryz.prog w0 k 87 [a.av, b.av] H H (im a b).av := by
  refine callAt tabOk Spec.no_ok mixed Tryz.func87 rfl rfl Tryz.results87 Tryz.ntmps87 (by simp) [] ?_
  intro hfr t hl ht
  simp only [At, Nat.reduceAdd, List.cons_append, List.nil_append] at ht
  have fN : ∀ (a b : Nat) z ty, H ⟨z, a :: b :: k, ty⟩ = none := fun a b z ty => hfr _ (sfx2 _ _ _)
  simp (config := {contextual := true, maxSteps := 5000000}) only [go_sem, false_and, Nat.reduceAdd, Nat.reduceLT, Nat.reduceBEq, Nat.reduceSub, Nat.reduceMul, Nat.reduceLeDiff, Int.reduceToNat, Nat.reduceEqDiff, Nat.reduceMod, ht, hl, strip, resOne]
  exact ⟨mk2_weak, (by (repeat (first | exact Hp.Le.refl _ | refine Hp.le_upd ?_ (fN _ _ _ _))))⟩
theorem allS_call (n : Int) (e : E) : CallAt Tryz.prog w0 k 99 [.int .i64 n, e.av] H H (al n e).av := by
  refine callAt tabOk Spec.no_ok mixed Tryz.func99 rfl rfl Tryz.results99 Tryz.ntmps99 (by simp) [] ?_
  intro hfr t hl ht
  simp only [At, Nat.reduceAdd, List.cons_append, List.nil_append] at ht
  have fN : ∀ (a b : Nat) z ty, H ⟨z, a :: b :: k, ty⟩ = none := fun a b z ty => hfr _ (sfx2 _ _ _)
  simp (config := {contextual := true, maxSteps := 5000000}) only [go_sem, false_and, Nat.reduceAdd, Nat.reduceLT, Nat.reduceBEq, Nat.reduceSub, Nat.reduceMul, Nat.reduceLeDiff, Int.reduceToNat, Nat.reduceEqDiff, Nat.reduceMod, ht, hl, strip, resOne]
  exact ⟨mk1_weak, (by (repeat (first | exact Hp.Le.refl _ | refine Hp.le_upd ?_ (fN _ _ _ _))))⟩
theorem eqS_call (a b : E) : CallAt Tryz.prog w0 k 102 [a.av, b.av] H H (eqE a b).av := by
  refine callAt tabOk Spec.no_ok mixed Tryz.func102 rfl rfl Tryz.results102 Tryz.ntmps102 (by simp) [] ?_
  intro hfr t hl ht
  simp only [At, Nat.reduceAdd, List.cons_append, List.nil_append] at ht
  have fN : ∀ (a b : Nat) z ty, H ⟨z, a :: b :: k, ty⟩ = none := fun a b z ty => hfr _ (sfx2 _ _ _)
  simp (config := {contextual := true, maxSteps := 5000000}) only [go_sem, false_and, Nat.reduceAdd, Nat.reduceLT, Nat.reduceBEq, Nat.reduceSub, Nat.reduceMul, Nat.reduceLeDiff, Int.reduceToNat, Nat.reduceEqDiff, Nat.reduceMod, ht, hl, strip, resOne]
  exact ⟨mk2_weak, (by (repeat (first | exact Hp.Le.refl _ | refine Hp.le_upd ?_ (fN _ _ _ _))))⟩
def specRm : Spec := (((Spec.no.add 93 (sp1 dE (fun _ => True) fun e => (nt e).av)).add 87 (sp2 dE dE (fun _ _ => True) fun a b => (im a b).av)).add 99 (sp2 dI dE (fun _ _ => True) fun n a => (al n a).av)).add 102 (sp2 dE dE (fun _ _ => True) fun a b => (eqE a b).av)
theorem specRm_ok : SpecOk Tryz.prog w0 specRm := (((Spec.no_ok.add (sp1_ok fun e _ k H => notS_call e)).add (sp2_ok fun a b _ k H => impS_call a b)).add (sp2_ok fun n a _ k H => allS_call n a)).add (sp2_ok fun a b _ k H => eqS_call a b)
theorem row1_call (a b : E) (x : Int) : CallAt Tryz.prog w0 k 86 [.list .none ([a, b].map E.cells), .int .i64 x] H H (.tup [(im a (im b a)).av, .bool true]) := by
  refine callAt tabOk specRm_ok mixed Tryz.func86 rfl rfl Tryz.results86 Tryz.ntmps86 (by simp) [] ?_
  intro hfr t hl ht
  simp only [At, Nat.reduceAdd, List.cons_append, List.nil_append] at ht
  have fN : ∀ (a b : Nat) z ty, H ⟨z, a :: b :: k, ty⟩ = none := fun a b z ty => hfr _ (sfx2 _ _ _)
  simp only [List.map_cons, List.map_nil, E.cells_eq] at ht
  simp (config := {contextual := true, maxSteps := 5000000}) only [go_sem, false_and, Nat.reduceAdd, Nat.reduceLT, Nat.reduceBEq, Nat.reduceSub, Nat.reduceMul, Nat.reduceLeDiff, Int.reduceToNat, Nat.reduceEqDiff, Nat.reduceMod, ht, hl, specRm, toE_at, resOne]
  (repeat' apply And.intro) <;> first | ((with_reducible (show drawOk _ = true)); kernel_rfl) | omega | ((with_reducible (show List.Pairwise _ _)); (refine pw_of ?_; (repeat' (first | exact trivial | apply And.intro)); all_goals (first | exact .inr rfl | exact .inr trivial | exact .inl (by kernel_rfl)))) | (repeat (first | exact Hp.Le.refl _ | refine Hp.le_upd ?_ (fN _ _ _ _)))
theorem row3_call (a b c : E) (x : Int) : CallAt Tryz.prog w0 k 90 [.list .none ([a, b, c].map E.cells), .int .i64 x] H H (.tup [(im (im a (im b c)) (im (im a b) (im a c))).av, .bool true]) := by
  refine callAt tabOk specRm_ok mixed Tryz.func90 rfl rfl Tryz.results90 Tryz.ntmps90 (by simp) [] ?_
  intro hfr t hl ht
  simp only [At, Nat.reduceAdd, List.cons_append, List.nil_append] at ht
  have fN : ∀ (a b : Nat) z ty, H ⟨z, a :: b :: k, ty⟩ = none := fun a b z ty => hfr _ (sfx2 _ _ _)
  simp only [List.map_cons, List.map_nil, E.cells_eq] at ht
  simp (config := {contextual := true, maxSteps := 5000000}) only [go_sem, false_and, Nat.reduceAdd, Nat.reduceLT, Nat.reduceBEq, Nat.reduceSub, Nat.reduceMul, Nat.reduceLeDiff, Int.reduceToNat, Nat.reduceEqDiff, Nat.reduceMod, ht, hl, specRm, toE_at, resOne]
  (repeat' apply And.intro) <;> first | ((with_reducible (show drawOk _ = true)); kernel_rfl) | omega | ((with_reducible (show List.Pairwise _ _)); (refine pw_of ?_; (repeat' (first | exact trivial | apply And.intro)); all_goals (first | exact .inr rfl | exact .inr trivial | exact .inl (by kernel_rfl)))) | (repeat (first | exact Hp.Le.refl _ | refine Hp.le_upd ?_ (fN _ _ _ _)))
theorem row5_call (a b : E) (x : Int) : CallAt Tryz.prog w0 k 92 [.list .none ([a, b].map E.cells), .int .i64 x] H H (.tup [(im (im (nt a) (nt b)) (im b a)).av, .bool true]) := by
  refine callAt tabOk specRm_ok mixed Tryz.func92 rfl rfl Tryz.results92 Tryz.ntmps92 (by simp) [] ?_
  intro hfr t hl ht
  simp only [At, Nat.reduceAdd, List.cons_append, List.nil_append] at ht
  have fN : ∀ (a b : Nat) z ty, H ⟨z, a :: b :: k, ty⟩ = none := fun a b z ty => hfr _ (sfx2 _ _ _)
  simp only [List.map_cons, List.map_nil, E.cells_eq] at ht
  simp (config := {contextual := true, maxSteps := 5000000}) only [go_sem, false_and, Nat.reduceAdd, Nat.reduceLT, Nat.reduceBEq, Nat.reduceSub, Nat.reduceMul, Nat.reduceLeDiff, Int.reduceToNat, Nat.reduceEqDiff, Nat.reduceMod, ht, hl, specRm, toE_at, resOne]
  (repeat' apply And.intro) <;> first | ((with_reducible (show drawOk _ = true)); kernel_rfl) | omega | ((with_reducible (show List.Pairwise _ _)); (refine pw_of ?_; (repeat' (first | exact trivial | apply And.intro)); all_goals (first | exact .inr rfl | exact .inr trivial | exact .inl (by kernel_rfl)))) | (repeat (first | exact Hp.Le.refl _ | refine Hp.le_upd ?_ (fN _ _ _ _)))
theorem row9_call (a : E) (x : Int) : CallAt Tryz.prog w0 k 101 [.list .none ([a].map E.cells), .int .i64 x] H H (.tup [(eqE a a).av, .bool true]) := by
  refine callAt tabOk specRm_ok mixed Tryz.func101 rfl rfl Tryz.results101 Tryz.ntmps101 (by simp) [] ?_
  intro hfr t hl ht
  simp only [At, Nat.reduceAdd, List.cons_append, List.nil_append] at ht
  have fN : ∀ (a b : Nat) z ty, H ⟨z, a :: b :: k, ty⟩ = none := fun a b z ty => hfr _ (sfx2 _ _ _)
  simp only [List.map_cons, List.map_nil, E.cells_eq] at ht
  simp (config := {contextual := true, maxSteps := 5000000}) only [go_sem, false_and, Nat.reduceAdd, Nat.reduceLT, Nat.reduceBEq, Nat.reduceSub, Nat.reduceMul, Nat.reduceLeDiff, Int.reduceToNat, Nat.reduceEqDiff, Nat.reduceMod, ht, hl, specRm, toE_at, resOne]
  (repeat' apply And.intro) <;> first | ((with_reducible (show drawOk _ = true)); kernel_rfl) | omega | ((with_reducible (show List.Pairwise _ _)); (refine pw_of ?_; (repeat' (first | exact trivial | apply And.intro)); all_goals (first | exact .inr rfl | exact .inr trivial | exact .inl (by kernel_rfl)))) | (repeat (first | exact Hp.Le.refl _ | refine Hp.le_upd ?_ (fN _ _ _ _)))
def goodP (p : List (Int × Nat)) : Prop := ∀ q ∈ p, (q.1 = 6 ∧ q.2 ≤ 1) ∨ (q.1 = 7 ∧ q.2 = 0) ∨ (q.1 = 4 ∧ q.2 ≤ 1)
theorem good_kid {e : E} (hs : e.sh = true) {q : Int × Nat} (h : (q.1 = 6 ∧ q.2 ≤ 1) ∨ (q.1 = 7 ∧ q.2 = 0) ∨ (q.1 = 4 ∧ q.2 ≤ 1)) (hk : e.kind = q.1) : q.2 < e.kids.length := by
  have hloc := E.sh_loc hs
  unfold E.loc E.want at hloc
  rcases h with ⟨h1, h2⟩ | ⟨h1, h2⟩ | ⟨h1, h2⟩ <;> rw [h1] at hk <;> simp [hk] at hloc <;> omega
theorem at07_call (e : E) (ks is : List Int) (hs : e.sh = true) (hlen : ks.length = is.length) (h4 : is.length ≤ 4) (hp : goodP (ks.zip (is.map Int.toNat))) (h0 : ∀ i ∈ is, 0 ≤ i) : CallAt Tryz.prog w0 k 89 [e.av, (dL cI).enc ks, (dL cI).enc is] H H (.tup [((atK e (ks.zip (is.map Int.toNat))).getD noE).av, .bool (atK e (ks.zip (is.map Int.toNat))).isSome]) := by
  refine callAt tabOk Spec.no_ok mixed Tryz.func89 rfl rfl Tryz.results89 Tryz.ntmps89 (by simp) [3] ?_
  intro hfr t hl ht
  simp only [At, dL, Nat.reduceAdd] at ht
  have fN : ∀ (a b : Nat) z ty, H ⟨z, a :: b :: k, ty⟩ = none := fun a b z ty => hfr _ (sfx2 _ _ _)
  have hzl : (ks.zip (is.map Int.toNat)).length = is.length := by simp [hlen]
  simp (config := {contextual := true, maxSteps := 5000000}) only [go_sem, false_and, Nat.reduceAdd, Nat.reduceLT, Nat.reduceBEq, Nat.reduceSub, Nat.reduceMul, Nat.reduceLeDiff, Int.reduceToNat, Nat.reduceEqDiff, Nat.reduceMod, ht, hl]
  refine loop_inv tabOk Spec.no_ok mixed [3] (fun j x => ∃ (i : Nat) (y : E), x.tmps.length = 32 ∧ x.tmps.getD 1 AV.undef = .list .none (ks.map cI.enc) ∧ x.tmps.getD 3 AV.undef = .ptr ⟨3, 0 :: 0 :: k, 33⟩ 0 ∧ x.tmps.getD 6 AV.undef = .ptr ⟨3, 1 :: 0 :: k, 33⟩ 0 ∧ x.tmps.getD 10 AV.undef = .list .none (is.map cI.enc) ∧ x.tmps.getD 11 AV.undef = .int .i64 is.length ∧ x.tmps.getD 12 AV.undef = .int .i64 i ∧ x.H ⟨3, 0 :: 0 :: k, 33⟩ = some (.cells [.int .i64 y.kind, .int .i64 y.id, .list .none (y.kids.map E.cells)]) ∧ H.Le x.H ∧ y.sh = true ∧ atK e (ks.zip (is.map Int.toNat)) = atK y ((ks.zip (is.map Int.toNat)).drop i) ∧ i + j = is.length) is.length ⟨0, e, ?_⟩ ?_
  · simp (config := {contextual := true, maxSteps := 5000000}) only [go_sem, false_and, Nat.reduceAdd, Nat.reduceLT, Nat.reduceBEq, Nat.reduceSub, Nat.reduceMul, Nat.reduceLeDiff, Int.reduceToNat, Nat.reduceEqDiff, Nat.reduceMod, ht, hl]
    exact ⟨rfl, Hp.le_upd (Hp.le_upd (Hp.Le.refl _) (fN _ _ _ _)) (fN _ _ _ _), hs, by omega⟩
  · rintro j ⟨t, m, H'⟩ ⟨i, y, hl, g1, g3, g6, g10, g11, g12, hY, hH, hys, hat, hij⟩
    simp only at hl g1 g3 g6 g10 g11 g12 hY hH
    by_cases hi : i < is.length
    · have hd : decide ((i : Int) < (is.length : Int)) = true := by simp [hi]
      have hw2 : IntKind.i64.wrap ((i : Int) + 1) = ((i + 1 : Nat) : Int) := by rw [wrap_i64] <;> omega
      obtain ⟨q, hq, hqe⟩ := int_get is hi
      obtain ⟨c, hc, hce⟩ := int_get ks (i := i) (by omega)
      obtain ⟨hi1, hq1⟩ := List.getElem?_eq_some_iff.1 hq
      obtain ⟨hi2, hc1⟩ := List.getElem?_eq_some_iff.1 hc
      have hq0 := h0 q (List.mem_of_getElem? hq)
      have hdr : (ks.zip (is.map Int.toNat)).drop i = (c, q.toNat) :: (ks.zip (is.map Int.toNat)).drop (i + 1) := by
        rw [List.drop_eq_getElem_cons (by omega)]
        congr 1
        simp [hq1, hc1]
      have hg : (c, q.toNat) ∈ ks.zip (is.map Int.toNat) := List.mem_of_mem_drop (by rw [hdr]; exact List.mem_cons_self)
      have hgd := hp _ hg
      rw [hdr, atK] at hat
      by_cases hk : y.kind = c
      · have hkl := good_kid hys hgd hk
        obtain ⟨z, hz, hze⟩ := E.kid y hkl
        have dk : (y.kind != c) = false := by simpa using hk
        rw [if_pos hk, hz] at hat
        simp only at hkl hze
        simp (config := {contextual := true, maxSteps := 5000000}) only [go_sem, false_and, Nat.reduceAdd, Nat.reduceLT, Nat.reduceBEq, Nat.reduceSub, Nat.reduceMul, Nat.reduceLeDiff, Int.reduceToNat, Nat.reduceEqDiff, Nat.reduceMod, hqe, hce, hze, g1, g3, g6, g10, g11, g12, hl, hY, hd, dk, hw2]
        exact ⟨⟨by omega, by omega⟩, by kernel_rfl, ⟨by omega, by omega⟩, by (refine pw_of ?_; (repeat' (first | exact trivial | apply And.intro)); all_goals (first | exact .inr rfl | exact .inr trivial | exact .inl (by kernel_rfl))), ⟨by omega, by omega⟩, j - 1, by omega, i + 1, z, rfl, rfl, Hp.le_upd hH (fN _ _ _ _), E.sh_kid hys hz, hat, by omega⟩
      · have dk : (y.kind != c) = true := by simpa using hk
        rw [if_neg hk] at hat
        rw [hat]
        simp (config := {contextual := true, maxSteps := 5000000}) only [go_sem, false_and, Nat.reduceAdd, Nat.reduceLT, Nat.reduceBEq, Nat.reduceSub, Nat.reduceMul, Nat.reduceLeDiff, Int.reduceToNat, Nat.reduceEqDiff, Nat.reduceMod, hqe, hce, g1, g3, g6, g10, g11, g12, hl, hY, hd, dk, resOne]
        exact ⟨⟨by omega, by omega⟩, by kernel_rfl, ⟨by omega, by omega⟩, by (refine pw_of ?_; (repeat' (first | exact trivial | apply And.intro)); all_goals (first | exact .inr rfl | exact .inr trivial | exact .inl (by kernel_rfl))), tup2_weak noEw_weak, Hp.le_upd hH (fN _ _ _ _)⟩
    · have hd : decide ((i : Int) < (is.length : Int)) = false := by simp; omega
      rw [List.drop_of_length_le (by omega), atK] at hat
      rw [hat]
      simp (config := {contextual := true, maxSteps := 5000000}) only [go_sem, false_and, Nat.reduceAdd, Nat.reduceLT, Nat.reduceBEq, Nat.reduceSub, Nat.reduceMul, Nat.reduceLeDiff, Int.reduceToNat, Nat.reduceEqDiff, Nat.reduceMod, g1, g3, g6, g10, g11, g12, hl, hY, hd, resOne]
      exact Hp.le_upd hH (fN _ _ _ _)
end Go.Proofs.YtkdendaohlnlcaaGreat.Av

/- The program's schemas: what the rows find. No condition. -/
namespace Go.Proofs.YtkdendaohlnlcaaGreat.Av
set_option linter.unusedVariables false
set_option linter.unusedSimpArgs false
set_option maxRecDepth 4000
set_option maxHeartbeats 1000000
variable {w0 : Base} {k : List Nat} {H : Hp}
theorem atK_step {e x : E} {c : Int} {i : Nat} {p : List (Int × Nat)} (h : atK e ((c, i) :: p) = some x) : e.kind = c ∧ ∃ y, e.kids[i]? = some y ∧ atK y p = some x := by
  rw [atK] at h
  split at h
  · rename_i hk
    cases hy : e.kids[i]? with
    | none => rw [hy] at h; cases h
    | some y => rw [hy] at h; exact ⟨hk, y, rfl, h⟩
  · cases h
theorem len6 {e : E} (hs : e.sh = true) (hk : e.kind = 6 ∨ e.kind = 4) : e.kids.length = 2 := by
  have hloc := E.sh_loc hs
  unfold E.loc E.want at hloc
  rcases hk with hk | hk <;> simp [hk] at hloc <;> omega
theorem len7 {e : E} (hs : e.sh = true) (hk : e.kind = 7) : e.kids.length = 1 := by
  have hloc := E.sh_loc hs
  unfold E.loc E.want at hloc
  simp [hk] at hloc
  omega
/-- What a row finds. -/
def fdA : Option (List E × Int) → AV
  | some (l, x) => .tup [.list .none (l.map E.cells), .int .i64 x, .bool true]
  | none => .tup [.list .none [], .int .i64 0, .bool false]
theorem fd_weak {tk : Tok} {xs ys : List (List AV)} {x : Int} {b : Bool} (h : xs = ys) : Weak (.tup [.list tk xs, .int .i64 x, .bool b]) (.tup [.list .none ys, .int .i64 x, .bool b]) := by
  rw [h]
  exact WeakL.tup ⟨_, _, rfl, list_weak, _, _, rfl, Weak.refl _, _, _, rfl, Weak.refl _, rfl⟩
def atA (e : E) (ks is : List Int) : AV := .tup [((atK e (ks.zip (is.map Int.toNat))).getD noE).av, .bool (atK e (ks.zip (is.map Int.toNat))).isSome]
def specFd : Spec := Spec.no.add 89 (sp3 dE (dL cI) (dL cI) (fun e ks is => e.sh = true ∧ ks.length = is.length ∧ is.length ≤ 4 ∧ goodP (ks.zip (is.map Int.toNat)) ∧ ∀ i ∈ is, 0 ≤ i) fun e ks is => .tup [((atK e (ks.zip (is.map Int.toNat))).getD noE).av, .bool (atK e (ks.zip (is.map Int.toNat))).isSome])
theorem specFd_ok : SpecOk Tryz.prog w0 specFd := Spec.no_ok.add (sp3_ok fun e ks is h k H => at07_call e ks is h.1 h.2.1 h.2.2.1 h.2.2.2.1 h.2.2.2.2)
theorem row2_call (e : E) (hs : e.sh = true) : CallAt Tryz.prog w0 k 88 [e.av] H H (fdA (findE 1 e)) := by
  refine callAt tabOk specFd_ok mixed Tryz.func88 rfl rfl Tryz.results88 Tryz.ntmps88 (by simp) [] ?_
  intro hfr t hl ht
  simp only [At, Nat.reduceAdd, List.cons_append, List.nil_append] at ht
  have fN : ∀ (a b : Nat) z ty, H ⟨z, a :: b :: k, ty⟩ = none := fun a b z ty => hfr _ (sfx2 _ _ _)
  cases hf : atK e [(6, 1), (6, 0)] with
  | none =>
    have hm : findE 1 e = none := by simp [findE, hf]
    rw [hm, fdA]
    simp (config := {contextual := true, maxSteps := 5000000}) only [go_sem, false_and, Nat.reduceAdd, Nat.reduceLT, Nat.reduceBEq, Nat.reduceSub, Nat.reduceMul, Nat.reduceLeDiff, Int.reduceToNat, Nat.reduceEqDiff, Nat.reduceMod, ht, hl, specFd, toE_at, resOne, List.zip_cons_cons, List.zip_nil_right, Int.reduceToNat, hf]
    (repeat' apply And.intro) <;> first | ((with_reducible (show drawOk _ = true)); kernel_rfl) | with_reducible assumption | (intro q h; simp only [or_false] at h; omega) | ((with_reducible (show goodP _)); unfold goodP; simp) | omega | ((with_reducible (show List.Pairwise _ _)); (refine pw_of ?_; (repeat' (first | exact trivial | apply And.intro)); all_goals (first | exact .inr rfl | exact .inr trivial | exact .inl (by kernel_rfl)))) | ((with_reducible (show Weak _ _)); exact fd_weak (by first | rfl | (simp only [E.cells_eq]; rfl))) | (repeat (first | exact Hp.Le.refl _ | refine Hp.le_upd ?_ (fN _ _ _ _)))
  | some b =>
    obtain ⟨k0, y0, hy0, f0⟩ := atK_step hf
    have s0 := E.sh_kid hs hy0
    have n0 := len6 hs (.inl k0)
    obtain ⟨k1, y1, hy1, f1⟩ := atK_step f0
    have s1 := E.sh_kid s0 hy1
    have n1 := len6 s0 (.inl k1)
    cases f1
    obtain ⟨v0, gv0, ev0⟩ := E.kid e (i := 0) (by omega)
    have hm : findE 1 e = some ([v0, b], 0) := by simp [findE, hf, kidE, gv0]
    rw [hm, fdA]
    simp (config := {contextual := true, maxSteps := 5000000}) only [go_sem, false_and, Nat.reduceAdd, Nat.reduceLT, Nat.reduceBEq, Nat.reduceSub, Nat.reduceMul, Nat.reduceLeDiff, Int.reduceToNat, Nat.reduceEqDiff, Nat.reduceMod, ht, hl, specFd, toE_at, resOne, List.zip_cons_cons, List.zip_nil_right, Int.reduceToNat, hf, ev0, n0, n1]
    (repeat' apply And.intro) <;> first | ((with_reducible (show drawOk _ = true)); kernel_rfl) | with_reducible assumption | (intro q h; simp only [or_false] at h; omega) | ((with_reducible (show goodP _)); unfold goodP; simp) | omega | ((with_reducible (show List.Pairwise _ _)); (refine pw_of ?_; (repeat' (first | exact trivial | apply And.intro)); all_goals (first | exact .inr rfl | exact .inr trivial | exact .inl (by kernel_rfl)))) | ((with_reducible (show Weak _ _)); exact fd_weak (by first | rfl | (simp only [E.cells_eq]; rfl))) | (repeat (first | exact Hp.Le.refl _ | refine Hp.le_upd ?_ (fN _ _ _ _)))
theorem row4_call (e : E) (hs : e.sh = true) : CallAt Tryz.prog w0 k 91 [e.av] H H (fdA (findE 2 e)) := by
  refine callAt tabOk specFd_ok mixed Tryz.func91 rfl rfl Tryz.results91 Tryz.ntmps91 (by simp) [] ?_
  intro hfr t hl ht
  simp only [At, Nat.reduceAdd, List.cons_append, List.nil_append] at ht
  have fN : ∀ (a b : Nat) z ty, H ⟨z, a :: b :: k, ty⟩ = none := fun a b z ty => hfr _ (sfx2 _ _ _)
  cases hf : atK e [(6, 0), (6, 1), (6, 1)] with
  | none =>
    have hm : findE 2 e = none := by simp [findE, hf]
    rw [hm, fdA]
    simp (config := {contextual := true, maxSteps := 5000000}) only [go_sem, false_and, Nat.reduceAdd, Nat.reduceLT, Nat.reduceBEq, Nat.reduceSub, Nat.reduceMul, Nat.reduceLeDiff, Int.reduceToNat, Nat.reduceEqDiff, Nat.reduceMod, ht, hl, specFd, toE_at, resOne, List.zip_cons_cons, List.zip_nil_right, Int.reduceToNat, hf]
    (repeat' apply And.intro) <;> first | ((with_reducible (show drawOk _ = true)); kernel_rfl) | with_reducible assumption | (intro q h; simp only [or_false] at h; omega) | ((with_reducible (show goodP _)); unfold goodP; simp) | omega | ((with_reducible (show List.Pairwise _ _)); (refine pw_of ?_; (repeat' (first | exact trivial | apply And.intro)); all_goals (first | exact .inr rfl | exact .inr trivial | exact .inl (by kernel_rfl)))) | ((with_reducible (show Weak _ _)); exact fd_weak (by first | rfl | (simp only [E.cells_eq]; rfl))) | (repeat (first | exact Hp.Le.refl _ | refine Hp.le_upd ?_ (fN _ _ _ _)))
  | some b =>
    obtain ⟨k0, y0, hy0, f0⟩ := atK_step hf
    have s0 := E.sh_kid hs hy0
    have n0 := len6 hs (.inl k0)
    obtain ⟨k1, y1, hy1, f1⟩ := atK_step f0
    have s1 := E.sh_kid s0 hy1
    have n1 := len6 s0 (.inl k1)
    obtain ⟨k2, y2, hy2, f2⟩ := atK_step f1
    have s2 := E.sh_kid s1 hy2
    have n2 := len6 s1 (.inl k2)
    cases f2
    obtain ⟨v0, gv0, ev0⟩ := E.kid e (i := 0) (by omega)
    have qv0 : v0 = y0 := Option.some.inj (gv0.symm.trans hy0)
    subst qv0
    obtain ⟨v01, gv01, ev01⟩ := E.kid v0 (i := 1) (by omega)
    have qv01 : v01 = y1 := Option.some.inj (gv01.symm.trans hy1)
    subst qv01
    obtain ⟨v00, gv00, ev00⟩ := E.kid v0 (i := 0) (by omega)
    obtain ⟨v010, gv010, ev010⟩ := E.kid v01 (i := 0) (by omega)
    have hm : findE 2 e = some ([v00, v010, b], 0) := by simp [findE, hf, kidE, gv0, gv01, gv00, gv010]
    rw [hm, fdA]
    simp (config := {contextual := true, maxSteps := 5000000}) only [go_sem, false_and, Nat.reduceAdd, Nat.reduceLT, Nat.reduceBEq, Nat.reduceSub, Nat.reduceMul, Nat.reduceLeDiff, Int.reduceToNat, Nat.reduceEqDiff, Nat.reduceMod, ht, hl, specFd, toE_at, resOne, List.zip_cons_cons, List.zip_nil_right, Int.reduceToNat, hf, ev0, ev01, ev00, ev010, n0, n1, n2]
    (repeat' apply And.intro) <;> first | ((with_reducible (show drawOk _ = true)); kernel_rfl) | with_reducible assumption | (intro q h; simp only [or_false] at h; omega) | ((with_reducible (show goodP _)); unfold goodP; simp) | omega | ((with_reducible (show List.Pairwise _ _)); (refine pw_of ?_; (repeat' (first | exact trivial | apply And.intro)); all_goals (first | exact .inr rfl | exact .inr trivial | exact .inl (by kernel_rfl)))) | ((with_reducible (show Weak _ _)); exact fd_weak (by first | rfl | (simp only [E.cells_eq]; rfl))) | (repeat (first | exact Hp.Le.refl _ | refine Hp.le_upd ?_ (fN _ _ _ _)))
theorem row6_call (e : E) (hs : e.sh = true) : CallAt Tryz.prog w0 k 94 [e.av] H H (fdA (findE 3 e)) := by
  refine callAt tabOk specFd_ok mixed Tryz.func94 rfl rfl Tryz.results94 Tryz.ntmps94 (by simp) [] ?_
  intro hfr t hl ht
  simp only [At, Nat.reduceAdd, List.cons_append, List.nil_append] at ht
  have fN : ∀ (a b : Nat) z ty, H ⟨z, a :: b :: k, ty⟩ = none := fun a b z ty => hfr _ (sfx2 _ _ _)
  cases hf : atK e [(6, 1), (6, 0)] with
  | none =>
    have hm : findE 3 e = none := by simp [findE, hf]
    rw [hm, fdA]
    simp (config := {contextual := true, maxSteps := 5000000}) only [go_sem, false_and, Nat.reduceAdd, Nat.reduceLT, Nat.reduceBEq, Nat.reduceSub, Nat.reduceMul, Nat.reduceLeDiff, Int.reduceToNat, Nat.reduceEqDiff, Nat.reduceMod, ht, hl, specFd, toE_at, resOne, List.zip_cons_cons, List.zip_nil_right, Int.reduceToNat, hf]
    (repeat' apply And.intro) <;> first | ((with_reducible (show drawOk _ = true)); kernel_rfl) | with_reducible assumption | (intro q h; simp only [or_false] at h; omega) | ((with_reducible (show goodP _)); unfold goodP; simp) | omega | ((with_reducible (show List.Pairwise _ _)); (refine pw_of ?_; (repeat' (first | exact trivial | apply And.intro)); all_goals (first | exact .inr rfl | exact .inr trivial | exact .inl (by kernel_rfl)))) | ((with_reducible (show Weak _ _)); exact fd_weak (by first | rfl | (simp only [E.cells_eq]; rfl))) | (repeat (first | exact Hp.Le.refl _ | refine Hp.le_upd ?_ (fN _ _ _ _)))
  | some b =>
    obtain ⟨k0, y0, hy0, f0⟩ := atK_step hf
    have s0 := E.sh_kid hs hy0
    have n0 := len6 hs (.inl k0)
    obtain ⟨k1, y1, hy1, f1⟩ := atK_step f0
    have s1 := E.sh_kid s0 hy1
    have n1 := len6 s0 (.inl k1)
    cases f1
    obtain ⟨v1, gv1, ev1⟩ := E.kid e (i := 1) (by omega)
    have qv1 : v1 = y0 := Option.some.inj (gv1.symm.trans hy0)
    subst qv1
    obtain ⟨v11, gv11, ev11⟩ := E.kid v1 (i := 1) (by omega)
    have hm : findE 3 e = some ([v11, b], 0) := by simp [findE, hf, kidE, gv1, gv11]
    rw [hm, fdA]
    simp (config := {contextual := true, maxSteps := 5000000}) only [go_sem, false_and, Nat.reduceAdd, Nat.reduceLT, Nat.reduceBEq, Nat.reduceSub, Nat.reduceMul, Nat.reduceLeDiff, Int.reduceToNat, Nat.reduceEqDiff, Nat.reduceMod, ht, hl, specFd, toE_at, resOne, List.zip_cons_cons, List.zip_nil_right, Int.reduceToNat, hf, ev1, ev11, n0, n1]
    (repeat' apply And.intro) <;> first | ((with_reducible (show drawOk _ = true)); kernel_rfl) | with_reducible assumption | (intro q h; simp only [or_false] at h; omega) | ((with_reducible (show goodP _)); unfold goodP; simp) | omega | ((with_reducible (show List.Pairwise _ _)); (refine pw_of ?_; (repeat' (first | exact trivial | apply And.intro)); all_goals (first | exact .inr rfl | exact .inr trivial | exact .inl (by kernel_rfl)))) | ((with_reducible (show Weak _ _)); exact fd_weak (by first | rfl | (simp only [E.cells_eq]; rfl))) | (repeat (first | exact Hp.Le.refl _ | refine Hp.le_upd ?_ (fN _ _ _ _)))
theorem row8_call (e : E) (hs : e.sh = true) : CallAt Tryz.prog w0 k 100 [e.av] H H (fdA (findE 5 e)) := by
  refine callAt tabOk specFd_ok mixed Tryz.func100 rfl rfl Tryz.results100 Tryz.ntmps100 (by simp) [] ?_
  intro hfr t hl ht
  simp only [At, Nat.reduceAdd, List.cons_append, List.nil_append] at ht
  have fN : ∀ (a b : Nat) z ty, H ⟨z, a :: b :: k, ty⟩ = none := fun a b z ty => hfr _ (sfx2 _ _ _)
  cases hf : atK e [(6, 0), (7, 0), (6, 1)] with
  | none =>
    have hm : findE 5 e = none := by simp [findE, hf]
    rw [hm, fdA]
    simp (config := {contextual := true, maxSteps := 5000000}) only [go_sem, false_and, Nat.reduceAdd, Nat.reduceLT, Nat.reduceBEq, Nat.reduceSub, Nat.reduceMul, Nat.reduceLeDiff, Int.reduceToNat, Nat.reduceEqDiff, Nat.reduceMod, ht, hl, specFd, toE_at, resOne, List.zip_cons_cons, List.zip_nil_right, Int.reduceToNat, hf]
    (repeat' apply And.intro) <;> first | ((with_reducible (show drawOk _ = true)); kernel_rfl) | with_reducible assumption | (intro q h; simp only [or_false] at h; omega) | ((with_reducible (show goodP _)); unfold goodP; simp) | omega | ((with_reducible (show List.Pairwise _ _)); (refine pw_of ?_; (repeat' (first | exact trivial | apply And.intro)); all_goals (first | exact .inr rfl | exact .inr trivial | exact .inl (by kernel_rfl)))) | ((with_reducible (show Weak _ _)); exact fd_weak (by first | rfl | (simp only [E.cells_eq]; rfl))) | (repeat (first | exact Hp.Le.refl _ | refine Hp.le_upd ?_ (fN _ _ _ _)))
  | some b =>
    obtain ⟨k0, y0, hy0, f0⟩ := atK_step hf
    have s0 := E.sh_kid hs hy0
    have n0 := len6 hs (.inl k0)
    obtain ⟨k1, y1, hy1, f1⟩ := atK_step f0
    have s1 := E.sh_kid s0 hy1
    have n1 := len7 s0 k1
    obtain ⟨k2, y2, hy2, f2⟩ := atK_step f1
    have s2 := E.sh_kid s1 hy2
    have n2 := len6 s1 (.inl k2)
    cases f2
    obtain ⟨v0, gv0, ev0⟩ := E.kid e (i := 0) (by omega)
    have qv0 : v0 = y0 := Option.some.inj (gv0.symm.trans hy0)
    subst qv0
    obtain ⟨v00, gv00, ev00⟩ := E.kid v0 (i := 0) (by omega)
    have qv00 : v00 = y1 := Option.some.inj (gv00.symm.trans hy1)
    subst qv00
    obtain ⟨v000, gv000, ev000⟩ := E.kid v00 (i := 0) (by omega)
    have hm : findE 5 e = some ([v000, b], v0.id) := by simp [findE, hf, kidE, gv0, gv00, gv000]
    rw [hm, fdA]
    simp (config := {contextual := true, maxSteps := 5000000}) only [go_sem, false_and, Nat.reduceAdd, Nat.reduceLT, Nat.reduceBEq, Nat.reduceSub, Nat.reduceMul, Nat.reduceLeDiff, Int.reduceToNat, Nat.reduceEqDiff, Nat.reduceMod, ht, hl, specFd, toE_at, resOne, List.zip_cons_cons, List.zip_nil_right, Int.reduceToNat, hf, ev0, ev00, ev000, n0, n1, n2]
    (repeat' apply And.intro) <;> first | ((with_reducible (show drawOk _ = true)); kernel_rfl) | with_reducible assumption | (intro q h; simp only [or_false] at h; omega) | ((with_reducible (show goodP _)); unfold goodP; simp) | omega | ((with_reducible (show List.Pairwise _ _)); (refine pw_of ?_; (repeat' (first | exact trivial | apply And.intro)); all_goals (first | exact .inr rfl | exact .inr trivial | exact .inl (by kernel_rfl)))) | ((with_reducible (show Weak _ _)); exact fd_weak (by first | rfl | (simp only [E.cells_eq]; rfl))) | (repeat (first | exact Hp.Le.refl _ | refine Hp.le_upd ?_ (fN _ _ _ _)))
end Go.Proofs.YtkdendaohlnlcaaGreat.Av

/- The program's schemas: stands; what rows 10 and 12 and instantiated find. No condition. -/
namespace Go.Proofs.YtkdendaohlnlcaaGreat.Av
set_option linter.unusedVariables false
set_option linter.unusedSimpArgs false
set_option maxRecDepth 4000
set_option maxHeartbeats 1000000
variable {w0 : Base} {k : List Nat} {H : Hp}
theorem row10_call (e : E) (hs : e.sh = true) : CallAt Tryz.prog w0 k 103 [e.av] H H (.tup [.list .none [((atK e [(4, 0)]).getD noE).cells], .int .i64 0, .bool (atK e [(4, 0)]).isSome]) := by
  refine callAt tabOk specFd_ok mixed Tryz.func103 rfl rfl Tryz.results103 Tryz.ntmps103 (by simp) [] ?_
  intro hfr t hl ht
  simp only [At, Nat.reduceAdd, List.cons_append, List.nil_append] at ht
  have fN : ∀ (a b : Nat) z ty, H ⟨z, a :: b :: k, ty⟩ = none := fun a b z ty => hfr _ (sfx2 _ _ _)
  simp (config := {contextual := true, maxSteps := 5000000}) only [go_sem, false_and, Nat.reduceAdd, Nat.reduceLT, Nat.reduceBEq, Nat.reduceSub, Nat.reduceMul, Nat.reduceLeDiff, Int.reduceToNat, Nat.reduceEqDiff, Nat.reduceMod, ht, hl, specFd, toE_at, resOne, List.zip_cons_cons, List.zip_nil_right, Int.reduceToNat]
  (repeat' apply And.intro) <;> first | ((with_reducible (show drawOk _ = true)); kernel_rfl) | with_reducible assumption | (intro q h; simp only [or_false] at h; omega) | ((with_reducible (show goodP _)); unfold goodP; simp) | omega | ((with_reducible (show List.Pairwise _ _)); (refine pw_of ?_; (repeat' (first | exact trivial | apply And.intro)); all_goals (first | exact .inr rfl | exact .inr trivial | exact .inl (by kernel_rfl)))) | ((with_reducible (show Weak _ _)); exact fd_weak (by first | rfl | (simp only [E.cells_eq]; rfl))) | (repeat (first | exact Hp.Le.refl _ | refine Hp.le_upd ?_ (fN _ _ _ _)))
theorem row12_call (e : E) (hs : e.sh = true) : CallAt Tryz.prog w0 k 106 [e.av] H H (fdA (findE 7 e)) := by
  refine callAt tabOk specFd_ok mixed Tryz.func106 rfl rfl Tryz.results106 Tryz.ntmps106 (by simp) [] ?_
  intro hfr t hl ht
  simp only [At, Nat.reduceAdd, List.cons_append, List.nil_append] at ht
  have fN : ∀ (a b : Nat) z ty, H ⟨z, a :: b :: k, ty⟩ = none := fun a b z ty => hfr _ (sfx2 _ _ _)
  cases hf : atK e [(6, 0), (4, 0)] with
  | none =>
    have hm : findE 7 e = none := by simp [findE, hf]
    rw [hm, fdA]
    simp (config := {contextual := true, maxSteps := 5000000}) only [go_sem, false_and, Nat.reduceAdd, Nat.reduceLT, Nat.reduceBEq, Nat.reduceSub, Nat.reduceMul, Nat.reduceLeDiff, Int.reduceToNat, Nat.reduceEqDiff, Nat.reduceMod, ht, hl, specFd, toE_at, resOne, List.zip_cons_cons, List.zip_nil_right, Int.reduceToNat, hf]
    (repeat' apply And.intro) <;> first | ((with_reducible (show drawOk _ = true)); kernel_rfl) | with_reducible assumption | (intro q h; simp only [or_false] at h; omega) | ((with_reducible (show goodP _)); unfold goodP; simp) | omega | ((with_reducible (show List.Pairwise _ _)); (refine pw_of ?_; (repeat' (first | exact trivial | apply And.intro)); all_goals (first | exact .inr rfl | exact .inr trivial | exact .inl (by kernel_rfl)))) | ((with_reducible (show Weak _ _)); exact fd_weak (by first | rfl | (simp only [E.cells_eq]; rfl))) | (repeat (first | exact Hp.Le.refl _ | refine Hp.le_upd ?_ (fN _ _ _ _)))
  | some b =>
    cases hg : atK e [(6, 1), (6, 0)] with
    | none =>
      have hm : findE 7 e = none := by simp [findE, hf, hg]
      rw [hm, fdA]
      simp (config := {contextual := true, maxSteps := 5000000}) only [go_sem, false_and, Nat.reduceAdd, Nat.reduceLT, Nat.reduceBEq, Nat.reduceSub, Nat.reduceMul, Nat.reduceLeDiff, Int.reduceToNat, Nat.reduceEqDiff, Nat.reduceMod, ht, hl, specFd, toE_at, resOne, List.zip_cons_cons, List.zip_nil_right, Int.reduceToNat, hf, hg]
      (repeat' apply And.intro) <;> first | ((with_reducible (show drawOk _ = true)); kernel_rfl) | with_reducible assumption | (intro q h; simp only [or_false] at h; omega) | ((with_reducible (show goodP _)); unfold goodP; simp) | omega | ((with_reducible (show List.Pairwise _ _)); (refine pw_of ?_; (repeat' (first | exact trivial | apply And.intro)); all_goals (first | exact .inr rfl | exact .inr trivial | exact .inl (by kernel_rfl)))) | ((with_reducible (show Weak _ _)); exact fd_weak (by first | rfl | (simp only [E.cells_eq]; rfl))) | (repeat (first | exact Hp.Le.refl _ | refine Hp.le_upd ?_ (fN _ _ _ _)))
    | some c =>
      obtain ⟨k0, y0, hy0, f0⟩ := atK_step hf
      have s0 := E.sh_kid hs hy0
      have n0 := len6 hs (.inl k0)
      obtain ⟨k1, y1, hy1, f1⟩ := atK_step f0
      have n1 := len6 s0 (.inr k1)
      cases f1
      obtain ⟨-, z0, hz0, g0⟩ := atK_step hg
      have r0 := E.sh_kid hs hz0
      obtain ⟨j1, z1, hz1, g1⟩ := atK_step g0
      have m1 := len6 r0 (.inl j1)
      cases g1
      obtain ⟨v0, gv0, ev0⟩ := E.kid e (i := 0) (by omega)
      cases Option.some.inj (gv0.symm.trans hy0)
      obtain ⟨v1, gv1, ev1⟩ := E.kid e (i := 1) (by omega)
      cases Option.some.inj (gv1.symm.trans hz0)
      obtain ⟨v01, gv01, ev01⟩ := E.kid y0 (i := 1) (by omega)
      obtain ⟨v11, gv11, ev11⟩ := E.kid z0 (i := 1) (by omega)
      have hm : findE 7 e = some ([b, v01, c, v11], 0) := by simp [findE, hf, hg, kidE, gv0, gv1, gv01, gv11]
      rw [hm, fdA]
      simp (config := {contextual := true, maxSteps := 5000000}) only [go_sem, false_and, Nat.reduceAdd, Nat.reduceLT, Nat.reduceBEq, Nat.reduceSub, Nat.reduceMul, Nat.reduceLeDiff, Int.reduceToNat, Nat.reduceEqDiff, Nat.reduceMod, ht, hl, specFd, toE_at, resOne, List.zip_cons_cons, List.zip_nil_right, Int.reduceToNat, hf, hg, ev0, ev1, ev01, ev11, n0, n1, m1]
      (repeat' apply And.intro) <;> first | ((with_reducible (show drawOk _ = true)); kernel_rfl) | with_reducible assumption | (intro q h; simp only [or_false] at h; omega) | ((with_reducible (show goodP _)); unfold goodP; simp) | omega | ((with_reducible (show List.Pairwise _ _)); (refine pw_of ?_; (repeat' (first | exact trivial | apply And.intro)); all_goals (first | exact .inr rfl | exact .inr trivial | exact .inl (by kernel_rfl)))) | ((with_reducible (show Weak _ _)); exact fd_weak (by first | rfl | (simp only [E.cells_eq]; rfl))) | (repeat (first | exact Hp.Le.refl _ | refine Hp.le_upd ?_ (fN _ _ _ _)))
theorem E.stP_eq (x : Int) (a b : E) : a.stP x b = if a.kind = 1 ∧ a.id = x then (if b.right = 0 ∧ b.term = true then some b else none) else if (isQ a.kind = true ∧ a.id = x) ∨ a.kind ≠ b.kind ∨ a.kids.length ≠ b.kids.length then none else E.stPL x a.kids b.kids := by cases a; rw [E.stP]; rfl
theorem stPL_drop (x : Int) {l k : List E} {i : Nat} {a b : E} (hx : l[i]? = some a) (hy : k[i]? = some b) : E.stPL x (l.drop i) (k.drop i) = match a.stP x b with
    | some t => some t
    | none => E.stPL x (l.drop (i + 1)) (k.drop (i + 1)) := by
  obtain ⟨h1, rfl⟩ := List.getElem?_eq_some_iff.1 hx
  obtain ⟨h2, rfl⟩ := List.getElem?_eq_some_iff.1 hy
  rw [List.drop_eq_getElem_cons h1, List.drop_eq_getElem_cons h2, E.stPL]
  rfl
/-- What the program's stands gives, found or not. -/
def stW (x : Int) (a b : E) : E := if a.kind = 1 ∧ a.id = x then b else (a.stP x b).getD noE
theorem stW_some {x : Int} {a b t : E} (h : a.stP x b = some t) : stW x a b = t := by
  unfold stW
  split
  · rename_i h1
    rw [E.stP_eq, if_pos h1] at h
    split at h <;> cases h
    rfl
  · rw [h]
    rfl
def specTm : Spec := Spec.no.add 22 (sp1 dE (fun e => e.ok) fun e => .bool (e.right == 0 && e.term))
theorem specTm_ok : SpecOk Tryz.prog w0 specTm := Spec.no_ok.add (sp1_ok fun e h k H => isTermX_call e h)
def specSq (N : Nat) : Spec := specTm.add 116 (sp3 dE dE dI (fun a b _ => a.ok ∧ b.ok ∧ a.sz < N) fun a b x => .tup [(stW x a b).av, .bool (a.stP x b).isSome])
theorem standsS_step (N : Nat) (hS : SpecOk Tryz.prog w0 (specSq N)) (a b : E) (x : Int) (hok : a.ok) (hbo : b.ok) (hN : a.sz < N + 1) : CallAt Tryz.prog w0 k 116 [a.av, b.av, .int .i64 x] H H (.tup [(stW x a b).av, .bool (a.stP x b).isSome]) := by
  refine callAt tabOk hS mixed Tryz.func116 rfl rfl Tryz.results116 Tryz.ntmps116 (by simp) [] ?_
  intro hfr t hl ht
  simp only [At, Nat.reduceAdd, List.cons_append, List.nil_append] at ht
  have fN : ∀ (a b : Nat) z ty, H ⟨z, a :: b :: k, ty⟩ = none := fun a b z ty => hfr _ (sfx2 _ _ _)
  have hlen := E.ok_len hok
  have hst := E.stP_eq x a b
  by_cases hv : a.kind = 1 ∧ a.id = x
  · have hw : stW x a b = b := by rw [stW, if_pos hv]
    have c1 : (a.kind == 1) = true := by simp [hv.1]
    have c2 : (a.id == x) = true := by simp [hv.2]
    rw [if_pos hv] at hst
    have hb : (a.stP x b).isSome = (b.right == 0 && b.term) := by
      rw [hst]
      by_cases h0 : b.right = 0 <;> cases b.term <;> simp [h0]
    rw [hw, hb]
    simp (config := {contextual := true, maxSteps := 5000000}) only [go_sem, false_and, Nat.reduceAdd, Nat.reduceLT, Nat.reduceBEq, Nat.reduceSub, Nat.reduceMul, Nat.reduceLeDiff, Int.reduceToNat, Nat.reduceEqDiff, Nat.reduceMod, ht, hl, specSq, specTm, toE_at, c1, c2, resOne]
    exact ⟨by kernel_rfl, hbo, by (refine pw_of ?_; (repeat' (first | exact trivial | apply And.intro)); all_goals (first | exact .inr rfl | exact .inr trivial | exact .inl (by kernel_rfl))), (by (repeat (first | exact Hp.Le.refl _ | refine Hp.le_upd ?_ (fN _ _ _ _))))⟩
  rw [if_neg hv] at hst
  have hw : stW x a b = (a.stP x b).getD noE := by rw [stW, if_neg hv]
  rw [hw]
  have hv' : ((a.kind == 1) = true ∧ (a.id == x) = false) ∨ (a.kind == 1) = false := by
    by_cases h : a.kind = 1
    · exact .inl ⟨by simp [h], by simpa using fun h2 => hv ⟨h, h2⟩⟩
    · exact .inr (by simpa using h)
  by_cases hq : isQ a.kind = true ∧ a.id = x
  · have hv1 : (a.kind == 1) = false := by
      have := hq.1
      simp [isQ] at this
      simp
      omega
    have c2 : (a.id == x) = true := by simp [hq.2]
    have h7 : (a.kind == 7) = true ∨ (a.kind == 7) = false ∧ (a.kind == 10) = true := by
      have := hq.1
      simp [isQ] at this
      simp
      omega
    rw [if_pos (.inl hq)] at hst
    rw [hst]
    rcases h7 with h7 | h7
    all_goals
      simp (config := {contextual := true, maxSteps := 5000000}) only [go_sem, false_and, Nat.reduceAdd, Nat.reduceLT, Nat.reduceBEq, Nat.reduceSub, Nat.reduceMul, Nat.reduceLeDiff, Int.reduceToNat, Nat.reduceEqDiff, Nat.reduceMod, ht, hl, specSq, specTm, toE_at, hv1, c2, h7, resOne]
      exact ⟨tup2_weak noEw_weak, (by (repeat (first | exact Hp.Le.refl _ | refine Hp.le_upd ?_ (fN _ _ _ _))))⟩
  have h3 : (a.kind == 1) = false ∧ (a.kind == 7) = true ∧ (a.id == x) = false ∨ (a.kind == 1) = false ∧ (a.kind == 7) = false ∧ (a.kind == 10) = true ∧ (a.id == x) = false ∨ (a.kind == 7) = false ∧ (a.kind == 10) = false ∧ (a.kind == 1) = false ∨ (a.kind == 7) = false ∧ (a.kind == 10) = false ∧ (a.kind == 1) = true ∧ (a.id == x) = false := by
    simp only [isQ, Bool.or_eq_true, beq_iff_eq] at hq
    simp only [beq_eq_false_iff_ne, beq_iff_eq]
    omega
  by_cases hk : a.kind = b.kind
  rotate_left
  · have ck : (a.kind != b.kind) = true := by simpa using hk
    rw [if_pos (.inr (.inl hk))] at hst
    rw [hst]
    rcases h3 with h3 | h3 | h3 | h3
    all_goals
      simp (config := {contextual := true, maxSteps := 5000000}) only [go_sem, false_and, Nat.reduceAdd, Nat.reduceLT, Nat.reduceBEq, Nat.reduceSub, Nat.reduceMul, Nat.reduceLeDiff, Int.reduceToNat, Nat.reduceEqDiff, Nat.reduceMod, ht, hl, specSq, specTm, toE_at, h3, ck, resOne]
      exact ⟨tup2_weak noEw_weak, (by (repeat (first | exact Hp.Le.refl _ | refine Hp.le_upd ?_ (fN _ _ _ _))))⟩
  have ck : (a.kind != b.kind) = false := by simpa using hk
  by_cases hn : a.kids.length = b.kids.length
  rotate_left
  · have cn : ((a.kids.length : Int) != (b.kids.length : Int)) = true := by rw [bne_iff_ne]; omega
    rw [if_pos (.inr (.inr hn))] at hst
    rw [hst]
    rcases h3 with h3 | h3 | h3 | h3
    all_goals
      simp (config := {contextual := true, maxSteps := 5000000}) only [go_sem, false_and, Nat.reduceAdd, Nat.reduceLT, Nat.reduceBEq, Nat.reduceSub, Nat.reduceMul, Nat.reduceLeDiff, Int.reduceToNat, Nat.reduceEqDiff, Nat.reduceMod, ht, hl, specSq, specTm, toE_at, h3, ck, cn, resOne]
      exact ⟨tup2_weak noEw_weak, (by (repeat (first | exact Hp.Le.refl _ | refine Hp.le_upd ?_ (fN _ _ _ _))))⟩
  have cn : ((a.kids.length : Int) != (b.kids.length : Int)) = false := by simp [hn]
  rw [if_neg (by rintro (h | h | h); exact hq h; exact h hk; exact h hn)] at hst
  rcases h3 with h3 | h3 | h3 | h3
  all_goals
    simp (config := {contextual := true, maxSteps := 5000000}) only [go_sem, false_and, Nat.reduceAdd, Nat.reduceLT, Nat.reduceBEq, Nat.reduceSub, Nat.reduceMul, Nat.reduceLeDiff, Int.reduceToNat, Nat.reduceEqDiff, Nat.reduceMod, ht, hl, specSq, specTm, toE_at, h3, ck, cn]
    refine loop_inv tabOk hS mixed [] (fun j x' => ∃ i : Nat, x'.tmps.length = 79 ∧ x'.tmps.getD 2 AV.undef = .int .i64 x ∧ x'.tmps.getD 3 AV.undef = .sptr [.int .i64 a.kind, .int .i64 a.id, .list .none (a.kids.map E.cells)] ∧ x'.tmps.getD 4 AV.undef = .sptr [.int .i64 b.kind, .int .i64 b.id, .list .none (b.kids.map E.cells)] ∧ x'.tmps.getD 6 AV.undef = .ptr ⟨3, 2 :: 0 :: k, 33⟩ 0 ∧ x'.tmps.getD 56 AV.undef = .int .i64 a.kids.length ∧ x'.tmps.getD 57 AV.undef = .int .i64 i ∧ H.Le x'.H ∧ i + j = a.kids.length ∧ a.stP x b = E.stPL x (a.kids.drop i) (b.kids.drop i)) a.kids.length ⟨0, ?_⟩ ?_
    · simp (config := {contextual := true, maxSteps := 5000000}) only [go_sem, false_and, Nat.reduceAdd, Nat.reduceLT, Nat.reduceBEq, Nat.reduceSub, Nat.reduceMul, Nat.reduceLeDiff, Int.reduceToNat, Nat.reduceEqDiff, Nat.reduceMod, ht, hl]
      refine ⟨rfl, (by (repeat (first | exact Hp.Le.refl _ | refine Hp.le_upd ?_ (fN _ _ _ _)))), by omega, by rw [hst]⟩
    · rintro j ⟨t, m, H'⟩ ⟨i, hl, g2, g3, g4, g6, g56, g57, hH, hij, hd⟩
      simp only at hl g2 g3 g4 g6 g56 g57 hH
      by_cases hi : i < a.kids.length
      · have d : decide ((i : Int) < (a.kids.length : Int)) = true := by simp [hi]
        have hw2 : IntKind.i64.wrap ((i : Int) + 1) = ((i + 1 : Nat) : Int) := by rw [wrap_i64] <;> omega
        obtain ⟨y, hy, hye⟩ := E.kid a hi
        obtain ⟨z, hz, hze⟩ := E.kid b (i := i) (by omega)
        have hdr := stPL_drop x hy hz
        have hyo := E.ok_kid hok hy
        have hzo := E.ok_kid hbo hz
        have hys : y.sz < N := by have := E.kid_sz hy; omega
        cases hf : y.stP x z with
        | none =>
          rw [hf] at hdr
          simp (config := {contextual := true, maxSteps := 5000000}) only [go_sem, false_and, Nat.reduceAdd, Nat.reduceLT, Nat.reduceBEq, Nat.reduceSub, Nat.reduceMul, Nat.reduceLeDiff, Int.reduceToNat, Nat.reduceEqDiff, Nat.reduceMod, hye, hze, specSq, specTm, toE_at, g2, g3, g4, g6, g56, g57, hl, d, hw2, hf]
          exact ⟨by kernel_rfl, ⟨by omega, by omega⟩, ⟨by omega, by omega⟩, ⟨hyo, hzo, hys⟩, by (refine pw_of ?_; (repeat' (first | exact trivial | apply And.intro)); all_goals (first | exact .inr rfl | exact .inr trivial | exact .inl (by kernel_rfl))), j - 1, by omega, i + 1, rfl, Hp.le_upd hH (fN _ _ _ _), by omega, by rw [hd, hdr]⟩
        | some w =>
          rw [hf] at hdr
          rw [hd, hdr]
          have hwz := stW_some hf
          simp (config := {contextual := true, maxSteps := 5000000}) only [go_sem, false_and, Nat.reduceAdd, Nat.reduceLT, Nat.reduceBEq, Nat.reduceSub, Nat.reduceMul, Nat.reduceLeDiff, Int.reduceToNat, Nat.reduceEqDiff, Nat.reduceMod, hye, hze, specSq, specTm, toE_at, g2, g3, g4, g6, g56, g57, hl, d, hw2, hf, hwz, resOne]
          exact ⟨by kernel_rfl, ⟨by omega, by omega⟩, ⟨by omega, by omega⟩, ⟨hyo, hzo, hys⟩, by (refine pw_of ?_; (repeat' (first | exact trivial | apply And.intro)); all_goals (first | exact .inr rfl | exact .inr trivial | exact .inl (by kernel_rfl))), Hp.le_upd (Hp.le_upd hH (fN _ _ _ _)) (fN _ _ _ _)⟩
      · have d : decide ((i : Int) < (a.kids.length : Int)) = false := by simp; omega
        have hno : a.stP x b = none := by rw [hd, List.drop_of_length_le (show a.kids.length ≤ i by omega)]; simp [E.stPL]
        rw [hno]
        simp (config := {contextual := true, maxSteps := 5000000}) only [go_sem, false_and, Nat.reduceAdd, Nat.reduceLT, Nat.reduceBEq, Nat.reduceSub, Nat.reduceMul, Nat.reduceLeDiff, Int.reduceToNat, Nat.reduceEqDiff, Nat.reduceMod, g2, g3, g4, g6, g56, g57, hl, d, resOne]
        exact ⟨tup2_weak noEw_weak, Hp.le_upd hH (fN _ _ _ _)⟩
theorem specSq_ok : ∀ N, SpecOk Tryz.prog w0 (specSq N)
  | 0 => specTm_ok.add (sp3_ok fun a b x h k H => absurd h.2.2 (Nat.not_lt_zero _))
  | N + 1 => specTm_ok.add (sp3_ok fun a b x h k H => standsS_step N (specSq_ok N) a b x h.1 h.2.1 h.2.2)
theorem standsS_call (a b : E) (x : Int) (hok : a.ok) (hbo : b.ok) : CallAt Tryz.prog w0 k 116 [a.av, b.av, .int .i64 x] H H (.tup [(stW x a b).av, .bool (a.stP x b).isSome]) := standsS_step a.sz (specSq_ok _) a b x hok hbo (Nat.lt_succ_self _)
end Go.Proofs.YtkdendaohlnlcaaGreat.Av

/- What the functions of package free answer. No condition. -/
namespace Go.Proofs.YtkdendaohlnlcaaGreat.Av
set_option linter.unusedVariables false
set_option linter.unusedSimpArgs false
set_option maxRecDepth 4000
set_option maxHeartbeats 1000000
variable {w0 : Base} {k : List Nat} {H : Hp}
theorem isVar_call (n : Int) : CallAt Tryz.prog w0 k 117 [.int .i64 n] H H (.bool (decide (0 ≤ n ∧ n ≤ 63))) := by
  refine callAt tabOk Spec.no_ok mixed Tryz.func117 rfl rfl Tryz.results117 Tryz.ntmps117 (by simp) [] ?_
  intro hfr t hl ht
  simp only [At, Nat.reduceAdd, List.cons_append, List.nil_append] at ht
  simp (config := {contextual := true, maxSteps := 5000000}) only [go_sem, false_and, Nat.reduceAdd, Nat.reduceLT, Nat.reduceBEq, Nat.reduceSub, Nat.reduceMul, Nat.reduceLeDiff, Int.reduceToNat, Nat.reduceEqDiff, Nat.reduceMod, ht, hl]
  by_cases h0 : 0 ≤ n <;> by_cases h1 : n ≤ 63 <;> simp [h0, h1]
theorem binds_call (e : E) : CallAt Tryz.prog w0 k 157 [e.av] H H (.bool (isQ e.kind)) := by
  refine callAt tabOk Spec.no_ok mixed Tryz.func157 rfl rfl Tryz.results157 Tryz.ntmps157 (by simp) [] ?_
  intro hfr t hl ht
  simp only [At, Nat.reduceAdd, List.cons_append, List.nil_append] at ht
  simp (config := {contextual := true, maxSteps := 5000000}) only [go_sem, false_and, Nat.reduceAdd, Nat.reduceLT, Nat.reduceBEq, Nat.reduceSub, Nat.reduceMul, Nat.reduceLeDiff, Int.reduceToNat, Nat.reduceEqDiff, Nat.reduceMod, ht, hl]
  unfold isQ
  cases h : e.kind == 7 <;> simp
def specF0 : Spec := Spec.no.add 157 (sp1 dE (fun _ => True) fun e => .bool (isQ e.kind))
theorem specF0_ok : SpecOk Tryz.prog w0 specF0 := Spec.no_ok.add (sp1_ok fun e _ k H => binds_call e)
/-- A function that is told things one by one, and changes the heap. -/
def TellsO (P : Program) (w0 : Base) (k : List Nat) (f : FuncId) (caps : List AV) (Hs : Nat → Hp) (n0 : Nat) (xs : List (Int × Nat)) : Prop :=
  ∀ j x, xs[j]? = some x → ∀ key, k <:+ key → CallAt P w0 key f ([.int .i64 x.1, .int .u64 (x.2 : Int)] ++ caps) (Hs (n0 + j)) (Hs (n0 + j + 1)) (.tup [])
theorem walk_step (f : FuncId) (caps : List AV) (hfb : (f == 157) = false) (N : Nat) (ih : ∀ (e : E), e.sz < N → e.ok → e.sh = true → ∀ (w0 : Base) (k : List Nat) (b : Nat) (Hs : Nat → Hp) (n0 : Nat), b < 18446744073709551616 → TellsO Tryz.prog w0 k f caps Hs n0 (e.occ b) → (∀ j i, k <:+ i.key → Hs j i = none) →
      CallAt Tryz.prog w0 k 155 [e.av, .int .u64 (b : Int), .clo (.func f) [] caps] (Hs n0) (Hs (n0 + (e.occ b).length)) (.tup []))
    (e : E) (he : e.sz < N + 1) (hok : e.ok) (hs : e.sh = true) (w0 : Base) (k : List Nat) (b : Nat) (Hs : Nat → Hp) (n0 : Nat) (hb : b < 18446744073709551616) (hT : TellsO Tryz.prog w0 k f caps Hs n0 (e.occ b)) (hfree : ∀ j i, k <:+ i.key → Hs j i = none) :
    CallAt Tryz.prog w0 k 155 [e.av, .int .u64 (b : Int), .clo (.func f) [] caps] (Hs n0) (Hs (n0 + (e.occ b).length)) (.tup []) := by
  refine callAt tabOk specF0_ok mixed Tryz.func155 rfl rfl Tryz.results155 Tryz.ntmps155 (by simp) [] ?_
  intro hfr t hl ht
  simp only [At, Nat.reduceAdd, List.cons_append, List.nil_append] at ht
  by_cases h1 : e.kind = 1
  · have hk : (e.kind == 1) = true := by simpa using h1
    have ho : e.occ b = [(e.id, b)] := by rw [E.occ_eq, if_pos h1]
    rw [ho]
    simp (config := {contextual := true, maxSteps := 5000000}) only [go_sem, false_and, Nat.reduceAdd, Nat.reduceLT, Nat.reduceBEq, Nat.reduceSub, Nat.reduceMul, Nat.reduceLeDiff, Int.reduceToNat, Nat.reduceEqDiff, Nat.reduceMod, ht, hl, specF0, hk, hfb, Spec.no]
    refine callK_pre (hT 0 (e.id, b) (by rw [ho]; rfl) _ (sfx2 _ _ _)) (Hp.Le.refl _) ?_
    simp (config := {contextual := true, maxSteps := 5000000}) only [go_sem, false_and, Nat.reduceAdd, Nat.reduceLT, Nat.reduceBEq, Nat.reduceSub, Nat.reduceMul, Nat.reduceLeDiff, Int.reduceToNat, Nat.reduceEqDiff, Nat.reduceMod, ht, hl, specF0, hk, hfb, Spec.no, Nat.add_zero]
  have hk : (e.kind == 1) = false := by simpa using h1
  have hlen := E.ok_len hok
  have hsub : ∀ (b' : Nat), e.occ b = E.occL b' e.kids → ∀ (i : Nat) (x : E), e.kids[i]? = some x → ∀ (m : Nat) (key' : List Nat), k <:+ key' → TellsO Tryz.prog w0 key' f caps Hs (n0 + (E.occL b' (e.kids.take i)).length) (x.occ b') := by
    intro b' ho i x hx m key' hkey j y hy key hk2
    obtain ⟨rest, hrest⟩ := E.occL_split b' e.kids i x hx
    have hidx : (e.occ b)[(E.occL b' (e.kids.take i)).length + j]? = some y := by
      rw [ho, hrest, List.getElem?_append_right (by omega), Nat.add_sub_cancel_left, List.getElem?_append_left (List.getElem?_eq_some_iff.1 hy).1]
      exact hy
    have := hT _ y hidx key (hkey.trans hk2)
    rwa [← Nat.add_assoc] at this
  cases hq : isQ e.kind
  · obtain ⟨b', rfl, hb', ho⟩ : ∃ b' : Nat, b' = b ∧ b' < 18446744073709551616 ∧ e.occ b = E.occL b' e.kids := ⟨b, rfl, hb, by rw [E.occ_eq, if_neg h1, if_neg (by simp [hq])]⟩
    rw [ho]
    simp (config := {contextual := true, maxSteps := 5000000}) only [go_sem, false_and, Nat.reduceAdd, Nat.reduceLT, Nat.reduceBEq, Nat.reduceSub, Nat.reduceMul, Nat.reduceLeDiff, Int.reduceToNat, Nat.reduceEqDiff, Nat.reduceMod, ht, hl, specF0, hk, hfb, hq, Spec.no]
    refine loop_inv tabOk specF0_ok mixed [] (fun j x => ∃ i : Nat, x.tmps.length = 36 ∧ x.tmps.getD 1 AV.undef = .int .u64 (b' : Int) ∧ x.tmps.getD 2 AV.undef = .clo (.func f) [] caps ∧ x.tmps.getD 25 AV.undef = .list .none (e.kids.map E.cells) ∧ x.tmps.getD 26 AV.undef = .int .i64 e.kids.length ∧ x.tmps.getD 27 AV.undef = .int .i64 i ∧ i + j = e.kids.length ∧ (Hs (n0 + (E.occL b' (e.kids.take i)).length)).Le x.H) e.kids.length ⟨0, ?_⟩ ?_
    · simp (config := {contextual := true, maxSteps := 5000000}) only [go_sem, false_and, Nat.reduceAdd, Nat.reduceLT, Nat.reduceBEq, Nat.reduceSub, Nat.reduceMul, Nat.reduceLeDiff, Int.reduceToNat, Nat.reduceEqDiff, Nat.reduceMod, ht, hl]
      simp [E.occL, Hp.Le.refl]
    rintro j ⟨t, m, H'⟩ ⟨i, hl, g1, g2, g25, g26, g27, hij, hH⟩
    simp only at hl g1 g2 g25 g26 g27 hH
    by_cases hi : i < e.kids.length
    · have hd : decide ((i : Int) < (e.kids.length : Int)) = true := by simp [hi]
      have hw2 : IntKind.i64.wrap ((i : Int) + 1) = ((i + 1 : Nat) : Int) := by rw [wrap_i64] <;> omega
      obtain ⟨x, hx, hex⟩ := E.kid e hi
      have htk := E.occL_take b' e.kids i x hx
      have hksh : x.sh = true := E.sh_kid hs hx
      simp (config := {contextual := true, maxSteps := 5000000}) only [go_sem, false_and, Nat.reduceAdd, Nat.reduceLT, Nat.reduceBEq, Nat.reduceSub, Nat.reduceMul, Nat.reduceLeDiff, Int.reduceToNat, Nat.reduceEqDiff, Nat.reduceMod, hex, specF0, Spec.no, g1, g2, g25, g26, g27, hl, hd]
      refine ⟨⟨by omega, by omega⟩, ?_⟩
      refine callK_pre (ih x (by have := E.kid_sz hx; omega) (E.ok_kid hok hx) hksh w0 _ b' Hs (n0 + (E.occL b' (e.kids.take i)).length) hb' (hsub b' ho i x hx m _ (sfx2 _ _ _)) (fun q z hz => hfree q z ((sfx2 _ _ _).trans hz))) (Hp.le_upd hH (hfree _ _ (sfx2 _ _ _))) ?_
      simp (config := {contextual := true, maxSteps := 5000000}) only [go_sem, false_and, Nat.reduceAdd, Nat.reduceLT, Nat.reduceBEq, Nat.reduceSub, Nat.reduceMul, Nat.reduceLeDiff, Int.reduceToNat, Nat.reduceEqDiff, Nat.reduceMod, hex, specF0, Spec.no, g1, g2, g25, g26, g27, hl, hd, hw2]
      refine ⟨j - 1, by omega, i + 1, rfl, by omega, ?_⟩
      rw [htk, List.length_append, ← Nat.add_assoc]
      exact Hp.Le.refl _
    · have hd : decide ((i : Int) < (e.kids.length : Int)) = false := by simp; omega
      simp (config := {contextual := true, maxSteps := 5000000}) only [go_sem, false_and, Nat.reduceAdd, Nat.reduceLT, Nat.reduceBEq, Nat.reduceSub, Nat.reduceMul, Nat.reduceLeDiff, Int.reduceToNat, Nat.reduceEqDiff, Nat.reduceMod, g1, g2, g25, g26, g27, hl, hd]
      rw [List.take_of_length_le (by omega)] at hH
      exact hH
  · have hid := E.id_var hs (.inr hq)
    obtain ⟨b', hbe, hb', ho⟩ : ∃ b' : Nat, orI .u64 b (bitv e.id : Nat) = (b' : Int) ∧ b' < 18446744073709551616 ∧ e.occ b = E.occL b' e.kids := ⟨b ||| bitv e.id, u64_or hb (bitv_lt e.id), or_lt hb (bitv_lt e.id), by rw [E.occ_eq, if_neg h1, if_pos hq]⟩
    have hw : IntKind.u64.wrap e.id = e.id := wrap_u64 (by omega) (by omega)
    have hsl := u64_shl hid
    rw [ho]
    simp (config := {contextual := true, maxSteps := 5000000}) only [go_sem, false_and, Nat.reduceAdd, Nat.reduceLT, Nat.reduceBEq, Nat.reduceSub, Nat.reduceMul, Nat.reduceLeDiff, Int.reduceToNat, Nat.reduceEqDiff, Nat.reduceMod, ht, hl, specF0, hk, hfb, hq, Spec.no, hw, hsl, hbe]
    refine ⟨hid.1, ?_⟩
    refine loop_inv tabOk specF0_ok mixed [] (fun j x => ∃ i : Nat, x.tmps.length = 36 ∧ x.tmps.getD 1 AV.undef = .int .u64 (b' : Int) ∧ x.tmps.getD 2 AV.undef = .clo (.func f) [] caps ∧ x.tmps.getD 25 AV.undef = .list .none (e.kids.map E.cells) ∧ x.tmps.getD 26 AV.undef = .int .i64 e.kids.length ∧ x.tmps.getD 27 AV.undef = .int .i64 i ∧ i + j = e.kids.length ∧ (Hs (n0 + (E.occL b' (e.kids.take i)).length)).Le x.H) e.kids.length ⟨0, ?_⟩ ?_
    · simp (config := {contextual := true, maxSteps := 5000000}) only [go_sem, false_and, Nat.reduceAdd, Nat.reduceLT, Nat.reduceBEq, Nat.reduceSub, Nat.reduceMul, Nat.reduceLeDiff, Int.reduceToNat, Nat.reduceEqDiff, Nat.reduceMod, ht, hl]
      simp [E.occL, Hp.Le.refl]
    rintro j ⟨t, m, H'⟩ ⟨i, hl, g1, g2, g25, g26, g27, hij, hH⟩
    simp only at hl g1 g2 g25 g26 g27 hH
    by_cases hi : i < e.kids.length
    · have hd : decide ((i : Int) < (e.kids.length : Int)) = true := by simp [hi]
      have hw2 : IntKind.i64.wrap ((i : Int) + 1) = ((i + 1 : Nat) : Int) := by rw [wrap_i64] <;> omega
      obtain ⟨x, hx, hex⟩ := E.kid e hi
      have htk := E.occL_take b' e.kids i x hx
      have hksh : x.sh = true := E.sh_kid hs hx
      simp (config := {contextual := true, maxSteps := 5000000}) only [go_sem, false_and, Nat.reduceAdd, Nat.reduceLT, Nat.reduceBEq, Nat.reduceSub, Nat.reduceMul, Nat.reduceLeDiff, Int.reduceToNat, Nat.reduceEqDiff, Nat.reduceMod, hex, specF0, Spec.no, g1, g2, g25, g26, g27, hl, hd]
      refine ⟨⟨by omega, by omega⟩, ?_⟩
      refine callK_pre (ih x (by have := E.kid_sz hx; omega) (E.ok_kid hok hx) hksh w0 _ b' Hs (n0 + (E.occL b' (e.kids.take i)).length) hb' (hsub b' ho i x hx m _ (sfx2 _ _ _)) (fun q z hz => hfree q z ((sfx2 _ _ _).trans hz))) (Hp.le_upd hH (hfree _ _ (sfx2 _ _ _))) ?_
      simp (config := {contextual := true, maxSteps := 5000000}) only [go_sem, false_and, Nat.reduceAdd, Nat.reduceLT, Nat.reduceBEq, Nat.reduceSub, Nat.reduceMul, Nat.reduceLeDiff, Int.reduceToNat, Nat.reduceEqDiff, Nat.reduceMod, hex, specF0, Spec.no, g1, g2, g25, g26, g27, hl, hd, hw2]
      refine ⟨j - 1, by omega, i + 1, rfl, by omega, ?_⟩
      rw [htk, List.length_append, ← Nat.add_assoc]
      exact Hp.Le.refl _
    · have hd : decide ((i : Int) < (e.kids.length : Int)) = false := by simp; omega
      simp (config := {contextual := true, maxSteps := 5000000}) only [go_sem, false_and, Nat.reduceAdd, Nat.reduceLT, Nat.reduceBEq, Nat.reduceSub, Nat.reduceMul, Nat.reduceLeDiff, Int.reduceToNat, Nat.reduceEqDiff, Nat.reduceMod, g1, g2, g25, g26, g27, hl, hd]
      rw [List.take_of_length_le (by omega)] at hH
      exact hH
theorem walk_ok (f : FuncId) (caps : List AV) (hfb : (f == 157) = false) : ∀ (N : Nat) (e : E), e.sz < N → e.ok → e.sh = true → ∀ (w0 : Base) (k : List Nat) (b : Nat) (Hs : Nat → Hp) (n0 : Nat), b < 18446744073709551616 → TellsO Tryz.prog w0 k f caps Hs n0 (e.occ b) → (∀ j i, k <:+ i.key → Hs j i = none) →
      CallAt Tryz.prog w0 k 155 [e.av, .int .u64 (b : Int), .clo (.func f) [] caps] (Hs n0) (Hs (n0 + (e.occ b).length)) (.tup [])
  | 0, e, h => by omega
  | N + 1, e, h => fun hok hs w0 k b Hs n0 hb hT hfree => walk_step f caps hfb N (walk_ok f caps hfb N) e h hok hs w0 k b Hs n0 hb hT hfree
end Go.Proofs.YtkdendaohlnlcaaGreat.Av

/- What the functions of package free answer: what is gathered on a walk. No condition. -/
namespace Go.Proofs.YtkdendaohlnlcaaGreat.Av
set_option linter.unusedVariables false
set_option linter.unusedSimpArgs false
set_option maxRecDepth 4000
set_option maxHeartbeats 1000000
variable {w0 : Base} {k : List Nat} {H : Hp}
def specF1 : Spec := specF0
def specNm (N : Nat) : Spec := specF1.add 146 (sp1 dE (fun e => (e.ok ∧ e.sh = true) ∧ e.sz < N) fun e => .int .u64 ((e.bv : Nat) : Int))
theorem named_step (N : Nat) (hS : SpecOk Tryz.prog w0 (specNm N)) (e : E) (hok : e.ok) (hs : e.sh = true) (hN : e.sz < N + 1) : CallAt Tryz.prog w0 k 146 [e.av] H H (.int .u64 ((e.bv : Nat) : Int)) := by
  refine callAt tabOk hS mixed Tryz.func146 rfl rfl Tryz.results146 Tryz.ntmps146 (by simp) [] ?_
  intro hfr t hl ht
  simp only [At, Nat.reduceAdd, List.cons_append, List.nil_append] at ht
  have fN : ∀ (a b : Nat) z ty, H ⟨z, a :: b :: k, ty⟩ = none := fun a b z ty => hfr _ (sfx2 _ _ _)
  have hlen := E.ok_len hok
  rw [E.bv_eq]
  cases hq : isQ e.kind
  · simp (config := {contextual := true, maxSteps := 5000000}) only [go_sem, false_and, Nat.reduceAdd, Nat.reduceLT, Nat.reduceBEq, Nat.reduceSub, Nat.reduceMul, Nat.reduceLeDiff, Int.reduceToNat, Nat.reduceEqDiff, Nat.reduceMod, ht, hl, specNm, specF1, specF0, hq]
    refine loop_inv tabOk hS mixed [] (fun j x => ∃ i : Nat, x.tmps.length = 25 ∧ x.tmps.getD 1 AV.undef = .sptr [.int .i64 e.kind, .int .i64 e.id, .list .none (e.kids.map E.cells)] ∧ x.tmps.getD 3 AV.undef = .int .u64 (( E.bvL (e.kids.take i) : Nat) : Int) ∧ x.tmps.getD 13 AV.undef = .list .none (e.kids.map E.cells) ∧ x.tmps.getD 14 AV.undef = .int .i64 e.kids.length ∧ x.tmps.getD 15 AV.undef = .int .i64 i ∧ H.Le x.H ∧ i + j = e.kids.length) e.kids.length ⟨0, ?_⟩ ?_
    · simp (config := {contextual := true, maxSteps := 5000000}) only [go_sem, false_and, Nat.reduceAdd, Nat.reduceLT, Nat.reduceBEq, Nat.reduceSub, Nat.reduceMul, Nat.reduceLeDiff, Int.reduceToNat, Nat.reduceEqDiff, Nat.reduceMod, ht, hl]
      simp [E.bvL, Hp.Le.refl]
    · rintro j ⟨t, m, H'⟩ ⟨i, hl, gb, ga, g1, g2, g3, hH, hij⟩
      simp only at hl gb ga g1 g2 g3 hH
      by_cases hi : i < e.kids.length
      · have hd : decide ((i : Int) < (e.kids.length : Int)) = true := by simp [hi]
        have hw2 : IntKind.i64.wrap ((i : Int) + 1) = ((i + 1 : Nat) : Int) := by rw [wrap_i64] <;> omega
        obtain ⟨x, hx, hex⟩ := E.kid e hi
        have htk := E.bvL_take e.kids i x hx
        have l1 : ( E.bvL (e.kids.take i) : Nat) < 18446744073709551616 := E.bvL_lt _
        have l2 := x.bv_lt
        have hxs : x.sz < N := by have := E.kid_sz hx; omega
        have hor := u64_or l1 l2
        simp (config := {contextual := true, maxSteps := 5000000}) only [go_sem, false_and, Nat.reduceAdd, Nat.reduceLT, Nat.reduceBEq, Nat.reduceSub, Nat.reduceMul, Nat.reduceLeDiff, Int.reduceToNat, Nat.reduceEqDiff, Nat.reduceMod, hex, specNm, specF1, specF0, gb, ga, g1, g2, g3, hl, hd, hw2, hor]
        refine ⟨⟨by omega, by omega⟩, ⟨⟨E.ok_kid hok hx, E.sh_kid hs hx⟩, hxs⟩, j - 1, by omega, i + 1, ?_, rfl, Hp.le_upd hH (fN _ _ _ _), by omega⟩
        rw [htk]
      · have hd : decide ((i : Int) < (e.kids.length : Int)) = false := by simp; omega
        have hall : E.bvL (e.kids.take i) = E.bvL e.kids := by rw [List.take_of_length_le (by omega)]
        rw [hall] at ga
        simp (config := {contextual := true, maxSteps := 5000000}) only [go_sem, false_and, Nat.reduceAdd, Nat.reduceLT, Nat.reduceBEq, Nat.reduceSub, Nat.reduceMul, Nat.reduceLeDiff, Int.reduceToNat, Nat.reduceEqDiff, Nat.reduceMod, specNm, specF1, specF0, gb, ga, g1, g2, g3, hl, hd]
        simpa using hH
  · have hid := E.id_var hs (.inr hq)
    have hw : IntKind.u64.wrap e.id = e.id := wrap_u64 (by omega) (by omega)
    have hsl := u64_shl hid
    simp (config := {contextual := true, maxSteps := 5000000}) only [go_sem, false_and, Nat.reduceAdd, Nat.reduceLT, Nat.reduceBEq, Nat.reduceSub, Nat.reduceMul, Nat.reduceLeDiff, Int.reduceToNat, Nat.reduceEqDiff, Nat.reduceMod, ht, hl, specNm, specF1, specF0, hq, hw, hsl]
    refine ⟨hid.1, ?_⟩
    refine loop_inv tabOk hS mixed [] (fun j x => ∃ i : Nat, x.tmps.length = 25 ∧ x.tmps.getD 1 AV.undef = .sptr [.int .i64 e.kind, .int .i64 e.id, .list .none (e.kids.map E.cells)] ∧ x.tmps.getD 3 AV.undef = .int .u64 ((bitv e.id ||| E.bvL (e.kids.take i) : Nat) : Int) ∧ x.tmps.getD 13 AV.undef = .list .none (e.kids.map E.cells) ∧ x.tmps.getD 14 AV.undef = .int .i64 e.kids.length ∧ x.tmps.getD 15 AV.undef = .int .i64 i ∧ H.Le x.H ∧ i + j = e.kids.length) e.kids.length ⟨0, ?_⟩ ?_
    · simp (config := {contextual := true, maxSteps := 5000000}) only [go_sem, false_and, Nat.reduceAdd, Nat.reduceLT, Nat.reduceBEq, Nat.reduceSub, Nat.reduceMul, Nat.reduceLeDiff, Int.reduceToNat, Nat.reduceEqDiff, Nat.reduceMod, ht, hl]
      simp [E.bvL, Hp.Le.refl]
    · rintro j ⟨t, m, H'⟩ ⟨i, hl, gb, ga, g1, g2, g3, hH, hij⟩
      simp only at hl gb ga g1 g2 g3 hH
      by_cases hi : i < e.kids.length
      · have hd : decide ((i : Int) < (e.kids.length : Int)) = true := by simp [hi]
        have hw2 : IntKind.i64.wrap ((i : Int) + 1) = ((i + 1 : Nat) : Int) := by rw [wrap_i64] <;> omega
        obtain ⟨x, hx, hex⟩ := E.kid e hi
        have htk := E.bvL_take e.kids i x hx
        have l1 : (bitv e.id ||| E.bvL (e.kids.take i) : Nat) < 18446744073709551616 := or_lt (bitv_lt _) (E.bvL_lt _)
        have l2 := x.bv_lt
        have hxs : x.sz < N := by have := E.kid_sz hx; omega
        have hor := u64_or l1 l2
        simp (config := {contextual := true, maxSteps := 5000000}) only [go_sem, false_and, Nat.reduceAdd, Nat.reduceLT, Nat.reduceBEq, Nat.reduceSub, Nat.reduceMul, Nat.reduceLeDiff, Int.reduceToNat, Nat.reduceEqDiff, Nat.reduceMod, hex, specNm, specF1, specF0, gb, ga, g1, g2, g3, hl, hd, hw2, hor]
        refine ⟨⟨by omega, by omega⟩, ⟨⟨E.ok_kid hok hx, E.sh_kid hs hx⟩, hxs⟩, j - 1, by omega, i + 1, ?_, rfl, Hp.le_upd hH (fN _ _ _ _), by omega⟩
        rw [htk, Nat.or_assoc]
      · have hd : decide ((i : Int) < (e.kids.length : Int)) = false := by simp; omega
        have hall : E.bvL (e.kids.take i) = E.bvL e.kids := by rw [List.take_of_length_le (by omega)]
        rw [hall] at ga
        simp (config := {contextual := true, maxSteps := 5000000}) only [go_sem, false_and, Nat.reduceAdd, Nat.reduceLT, Nat.reduceBEq, Nat.reduceSub, Nat.reduceMul, Nat.reduceLeDiff, Int.reduceToNat, Nat.reduceEqDiff, Nat.reduceMod, specNm, specF1, specF0, gb, ga, g1, g2, g3, hl, hd]
        exact hH
theorem specNm_ok : ∀ N, SpecOk Tryz.prog w0 (specNm N)
  | 0 => specF0_ok.add (sp1_ok fun e h => by omega)
  | N + 1 => specF0_ok.add (sp1_ok fun e h k H => named_step N (specNm_ok N) e h.1.1 h.1.2 h.2)
theorem named_call (e : E) (hok : e.ok) (hs : e.sh = true) : CallAt Tryz.prog w0 k 146 [e.av] H H (.int .u64 ((e.bv : Nat) : Int)) := named_step e.sz (specNm_ok _) e hok hs (Nat.lt_succ_self _)
def specHs : Spec := Spec.no.add 119 (sp2 dW dI (fun s _ => s < 18446744073709551616) fun s n => .bool (hasB s n))
theorem specHs_ok : SpecOk Tryz.prog w0 specHs := Spec.no_ok.add (sp2_ok fun s n h k H => has_call s n h)
theorem freeIn1_call (x : Int) (b : Nat) (hb : b < 18446744073709551616) : CallAt Tryz.prog w0 k 145 [.int .i64 x, .int .u64 (b : Int)] H H (.bool (!hasB b x)) := by
  refine callAt tabOk specHs_ok mixed Tryz.func145 rfl rfl Tryz.results145 Tryz.ntmps145 (by simp) [] ?_
  intro hfr t hl ht
  simp only [At, Nat.reduceAdd, List.cons_append, List.nil_append] at ht
  simp (config := {contextual := true, maxSteps := 5000000}) only [go_sem, false_and, Nat.reduceAdd, Nat.reduceLT, Nat.reduceBEq, Nat.reduceSub, Nat.reduceMul, Nat.reduceLeDiff, Int.reduceToNat, Nat.reduceEqDiff, Nat.reduceMod, ht, hl, specHs]
  exact hb
theorem all1_call (x : Int) (b : Nat) : CallAt Tryz.prog w0 k 147 [.int .i64 x, .int .u64 (b : Int)] H H (.bool true) := by
  refine callAt tabOk Spec.no_ok mixed Tryz.func147 rfl rfl Tryz.results147 Tryz.ntmps147 (by simp) [] ?_
  intro hfr t hl ht
  simp only [At, Nat.reduceAdd, List.cons_append, List.nil_append] at ht
  simp (config := {contextual := true, maxSteps := 5000000}) only [go_sem, false_and, Nat.reduceAdd, Nat.reduceLT, Nat.reduceBEq, Nat.reduceSub, Nat.reduceMul, Nat.reduceLeDiff, Int.reduceToNat, Nat.reduceEqDiff, Nat.reduceMod, ht, hl]
/-- What a test says of an occurrence. -/
def TestOk (g : FuncId) (p : Int → Nat → Bool) : Prop := ∀ (w0 : Base) (k : List Nat) (H : Hp) (x : Int) (b : Nat), b < 18446744073709551616 → CallAt Tryz.prog w0 k g [.int .i64 x, .int .u64 (b : Int)] H H (.bool (p x b))
theorem gather1_call (g : FuncId) (p : Int → Nat → Bool) (hg : TestOk g p) (id : Id) (hz : id.sz = 1) (x : Int) (hx : 0 ≤ x ∧ x ≤ 63) (b s : Nat) (hb : b < 18446744073709551616) (hs : s < 18446744073709551616) (hH : H id = some (.cells [.int .u64 (s : Int)])) :
    CallAt Tryz.prog w0 k 156 [.int .i64 x, .int .u64 (b : Int), .sptr [.clo (.func g) [] []], .ptr id 0] H (H.upd id (some (.cells [.int .u64 ((s ||| (if p x b = true then bitv x else 0) : Nat) : Int)]))) (.tup []) := by
  refine callAt tabOk Spec.no_ok mixed Tryz.func156 rfl rfl Tryz.results156 Tryz.ntmps156 (by simp) [] ?_
  intro hfr t hl ht
  simp only [At, Nat.reduceAdd, List.cons_append, List.nil_append] at ht
  simp (config := {contextual := true, maxSteps := 5000000}) only [go_sem, false_and, Nat.reduceAdd, Nat.reduceLT, Nat.reduceBEq, Nat.reduceSub, Nat.reduceMul, Nat.reduceLeDiff, Int.reduceToNat, Nat.reduceEqDiff, Nat.reduceMod, ht, hl, Spec.no]
  refine callK_intro (hg w0 _ H x b hb) ?_
  cases hp : p x b
  · have hsame : (H.upd id (some (.cells [.int .u64 (s : Int)]))) = H := by
      funext j
      unfold Hp.upd
      split
      · rename_i e
        rw [e, hH]
      · rfl
    simp (config := {contextual := true, maxSteps := 5000000}) only [go_sem, false_and, Nat.reduceAdd, Nat.reduceLT, Nat.reduceBEq, Nat.reduceSub, Nat.reduceMul, Nat.reduceLeDiff, Int.reduceToNat, Nat.reduceEqDiff, Nat.reduceMod, ht, hl, hp, Nat.or_zero, hsame]
  · have hw : IntKind.u64.wrap x = x := wrap_u64 (by omega) (by omega)
    have hsl := u64_shl hx
    have hor := u64_or hs (bitv_lt x)
    simp (config := {contextual := true, maxSteps := 5000000}) only [go_sem, false_and, Nat.reduceAdd, Nat.reduceLT, Nat.reduceBEq, Nat.reduceSub, Nat.reduceMul, Nat.reduceLeDiff, Int.reduceToNat, Nat.reduceEqDiff, Nat.reduceMod, ht, hl, hp, hw, hsl, hor, hH, hz]
    exact hx.1
theorem gather_call (g : FuncId) (p : Int → Nat → Bool) (hg : TestOk g p) (e : E) (hok : e.ok) (hs : e.sh = true) : CallAt Tryz.prog w0 k 144 [e.av, .clo (.func g) [] []] H H (.int .u64 ((gat (fun x b => if p x b = true then bitv x else 0) 0 (e.occ 0) : Nat) : Int)) := by
  refine callAt tabOk Spec.no_ok mixed Tryz.func144 rfl rfl Tryz.results144 Tryz.ntmps144 (by simp) [] ?_
  intro hfr t hl ht
  simp only [At, Nat.reduceAdd, List.cons_append, List.nil_append] at ht
  have fN : ∀ (a b : Nat) z ty, H ⟨z, a :: b :: k, ty⟩ = none := fun a b z ty => hfr _ (sfx2 _ _ _)
  have hlt : ∀ l : List (Int × Nat), gat (fun x b => if p x b = true then bitv x else 0) 0 l < 18446744073709551616 := fun l => gat_lt _ (fun x b => by split <;> first | exact bitv_lt _ | omega) l 0 (by omega)
  simp (config := {contextual := true, maxSteps := 5000000}) only [go_sem, false_and, Nat.reduceAdd, Nat.reduceLT, Nat.reduceBEq, Nat.reduceSub, Nat.reduceMul, Nat.reduceLeDiff, Int.reduceToNat, Nat.reduceEqDiff, Nat.reduceMod, ht, hl, Spec.no]
  have hw := walk_ok 156 [.sptr [.clo (.func g) [] []], .ptr ⟨1, 0 :: 1 :: k, 111⟩ 0] rfl (e.sz + 1) e (Nat.lt_succ_self _) hok hs w0 (2 :: 2 :: k) 0 (fun j => H.upd ⟨1, 0 :: 1 :: k, 111⟩ (some (.cells [.int .u64 ((gat (fun x b => if p x b = true then bitv x else 0) 0 ((e.occ 0).take j) : Nat) : Int)]))) 0 (by omega) (fun j x hx key hk => ?_) (fun j i hi => ?_)
  · refine callK_pre hw (Hp.Le.refl _) ?_
    simp (config := {contextual := true, maxSteps := 5000000}) only [go_sem, false_and, Nat.reduceAdd, Nat.reduceLT, Nat.reduceBEq, Nat.reduceSub, Nat.reduceMul, Nat.reduceLeDiff, Int.reduceToNat, Nat.reduceEqDiff, Nat.reduceMod, ht, hl, Nat.zero_add]
    rw [List.take_of_length_le (Nat.le_refl _)]
    exact ⟨rfl, (by (repeat (first | exact Hp.Le.refl _ | refine Hp.le_upd ?_ (fN _ _ _ _))))⟩
  · have hxo := E.occ_ok e 0 (by omega) hs x (List.mem_of_getElem? hx)
    have htk : (e.occ 0).take (0 + j + 1) = (e.occ 0).take (0 + j) ++ [x] := by rw [Nat.zero_add, List.take_add_one, hx]; rfl
    have := gather1_call (w0 := w0) (k := key) (H := H.upd ⟨1, 0 :: 1 :: k, 111⟩ (some (.cells [.int .u64 ((gat (fun x b => if p x b = true then bitv x else 0) 0 ((e.occ 0).take (0 + j)) : Nat) : Int)]))) g p hg ⟨1, 0 :: 1 :: k, 111⟩ rfl x.1 hxo.1 x.2 _ hxo.2 (hlt _) (Hp.upd_same _ _ _)
    rw [upd_upd] at this
    dsimp only
    rw [htk, gat_snoc]
    exact this
  · rw [Hp.upd_ne _ _ (notKey (n := 2) (k := k) ((List.suffix_cons _ _).trans hi) (by decide))]
    exact hfr i ((sfx2 _ _ _).trans hi)
theorem testOk_free : TestOk 145 (fun x b => !hasB b x) := fun w0 k H x b hb => freeIn1_call x b hb
theorem testOk_all : TestOk 147 (fun _ _ => true) := fun w0 k H x b hb => all1_call x b
theorem gat_free' (e : E) : gat (fun x b => if (!hasB b x) = true then bitv x else 0) 0 (e.occ 0) = e.fv := by
  rw [← gat_free]
  congr 1
  funext x b
  unfold frF
  cases hasB b x <;> rfl
theorem gat_all' (e : E) : gat (fun x b => if true = true then bitv x else 0) 0 (e.occ 0) = e.ov := by
  rw [← gat_all]
  rfl
/-- What gather answers of the two tests. -/
def spGa : Ans
  | [a, .clo (.func g) [] []] => (dE.dec a).bind fun e => if g = 145 then some (e.ok ∧ e.sh = true, .int .u64 ((e.fv : Nat) : Int)) else if g = 147 then some (e.ok ∧ e.sh = true, .int .u64 ((e.ov : Nat) : Int)) else none
  | _ => none
@[go_sem] theorem spGa_free {a : AV} : spGa [a, .clo (.func 145) [] []] = (dE.dec a).bind fun e => some (e.ok ∧ e.sh = true, .int .u64 ((e.fv : Nat) : Int)) := rfl
@[go_sem] theorem spGa_all {a : AV} : spGa [a, .clo (.func 147) [] []] = (dE.dec a).bind fun e => some (e.ok ∧ e.sh = true, .int .u64 ((e.ov : Nat) : Int)) := rfl
theorem spGa_ok : AnsOk Tryz.prog w0 144 spGa := by
  intro l φ v e hφ k H
  unfold spGa at e
  split at e
  · simp only [Option.bind_eq_some_iff] at e
    obtain ⟨x, hx, e⟩ := e
    split at e
    · rename_i hg
      subst hg
      cases e
      have := gather_call (w0 := w0) (k := k) (H := H) _ _ testOk_free x hφ.1 hφ.2
      rw [gat_free'] at this
      exact this.weakL ⟨_, _, rfl, dE.ok _ _ hx, _, _, rfl, Weak.refl _, rfl⟩
    · split at e
      · rename_i hg
        subst hg
        cases e
        have := gather_call (w0 := w0) (k := k) (H := H) _ _ testOk_all x hφ.1 hφ.2
        rw [gat_all'] at this
        exact this.weakL ⟨_, _, rfl, dE.ok _ _ hx, _, _, rfl, Weak.refl _, rfl⟩
      · cases e
  · cases e
def specGa : Spec := (Spec.no.add 144 spGa).add 146 (sp1 dE (fun e => e.ok ∧ e.sh = true) fun e => .int .u64 ((e.bv : Nat) : Int))
theorem specGa_ok : SpecOk Tryz.prog w0 specGa := (Spec.no_ok.add spGa_ok).add (sp1_ok fun e h k H => named_call e h.1 h.2)
theorem freeIn_call (e : E) (hok : e.ok) (hs : e.sh = true) : CallAt Tryz.prog w0 k 133 [e.av] H H (.int .u64 ((e.fv : Nat) : Int)) := by
  refine callAt tabOk specGa_ok mixed Tryz.func133 rfl rfl Tryz.results133 Tryz.ntmps133 (by simp) [] ?_
  intro hfr t hl ht
  simp only [At, Nat.reduceAdd, List.cons_append, List.nil_append] at ht
  simp (config := {contextual := true, maxSteps := 5000000}) only [go_sem, false_and, Nat.reduceAdd, Nat.reduceLT, Nat.reduceBEq, Nat.reduceSub, Nat.reduceMul, Nat.reduceLeDiff, Int.reduceToNat, Nat.reduceEqDiff, Nat.reduceMod, ht, hl, specGa]
  exact ⟨hok, hs⟩
theorem all_call (e : E) (hok : e.ok) (hs : e.sh = true) : CallAt Tryz.prog w0 k 135 [e.av] H H (.int .u64 ((e.vs : Nat) : Int)) := by
  refine callAt tabOk specGa_ok mixed Tryz.func135 rfl rfl Tryz.results135 Tryz.ntmps135 (by simp) [] ?_
  intro hfr t hl ht
  simp only [At, Nat.reduceAdd, List.cons_append, List.nil_append] at ht
  have hor := u64_or e.bv_lt e.ov_lt
  have hv : e.vs = e.bv ||| e.ov := Nat.or_comm _ _
  rw [hv]
  simp (config := {contextual := true, maxSteps := 5000000}) only [go_sem, false_and, Nat.reduceAdd, Nat.reduceLT, Nat.reduceBEq, Nat.reduceSub, Nat.reduceMul, Nat.reduceLeDiff, Int.reduceToNat, Nat.reduceEqDiff, Nat.reduceMod, ht, hl, specGa, hor]
  exact ⟨by kernel_rfl, ⟨hok, hs⟩, ⟨hok, hs⟩, by (refine pw_of ?_; (repeat' (first | exact trivial | apply And.intro)); all_goals (first | exact .inr rfl | exact .inr trivial | exact .inl (by kernel_rfl)))⟩
end Go.Proofs.YtkdendaohlnlcaaGreat.Av

/- What the functions of package free answer: Vars, Free, NotFree, FreeFor. No condition. -/
namespace Go.Proofs.YtkdendaohlnlcaaGreat.Av
set_option linter.unusedVariables false
set_option linter.unusedSimpArgs false
set_option maxRecDepth 4000
set_option maxHeartbeats 1000000
variable {w0 : Base} {k : List Nat} {H : Hp}
def specOf : Spec := ((Spec.no.add 21 (sp1 dE (fun e => e.ok) fun e => .int .i64 e.right)).add 133 (sp1 dE (fun e => e.ok ∧ e.sh = true) fun e => .int .u64 ((e.fv : Nat) : Int))).add 135 (sp1 dE (fun e => e.ok ∧ e.sh = true) fun e => .int .u64 ((e.vs : Nat) : Int))
theorem specOf_ok : SpecOk Tryz.prog w0 specOf := ((Spec.no_ok.add (sp1_ok fun e h k H => rightX_call e h)).add (sp1_ok fun e h k H => freeIn_call e h.1 h.2)).add (sp1_ok fun e h k H => all_call e h.1 h.2)
theorem right_shp {e : E} (h : e.right = 0) : e.sh = true := by
  unfold E.right at h
  (repeat' split at h) <;> first | assumption | omega
theorem ofF_call (e : E) (hok : e.ok) : CallAt Tryz.prog w0 k 132 [e.av, .clo (.func 133) [] []] H H (.tup [.int .u64 (if e.right = 0 then (e.fv : Int) else 0), .int .i64 e.right]) := by
  refine callAt tabOk specOf_ok mixed Tryz.func132 rfl rfl Tryz.results132 Tryz.ntmps132 (by simp) [] ?_
  intro hfr t hl ht
  simp only [At, Nat.reduceAdd, List.cons_append, List.nil_append] at ht
  by_cases h0 : e.right = 0
  · have hb : (e.right != 0) = false := by simp [h0]
    have hs := right_shp h0
    rw [if_pos h0]
    simp (config := {contextual := true, maxSteps := 5000000}) only [go_sem, false_and, Nat.reduceAdd, Nat.reduceLT, Nat.reduceBEq, Nat.reduceSub, Nat.reduceMul, Nat.reduceLeDiff, Int.reduceToNat, Nat.reduceEqDiff, Nat.reduceMod, ht, hl, specOf, toE_at, hb]
    rw [h0]
    exact ⟨hok, ⟨hok, hs⟩, Weak.refl _⟩
  · have hb : (e.right != 0) = true := by simpa using h0
    rw [if_neg h0]
    simp (config := {contextual := true, maxSteps := 5000000}) only [go_sem, false_and, Nat.reduceAdd, Nat.reduceLT, Nat.reduceBEq, Nat.reduceSub, Nat.reduceMul, Nat.reduceLeDiff, Int.reduceToNat, Nat.reduceEqDiff, Nat.reduceMod, ht, hl, specOf, toE_at, hb]
    exact hok
theorem ofA_call (e : E) (hok : e.ok) : CallAt Tryz.prog w0 k 132 [e.av, .clo (.func 135) [] []] H H (.tup [.int .u64 (if e.right = 0 then (e.vs : Int) else 0), .int .i64 e.right]) := by
  refine callAt tabOk specOf_ok mixed Tryz.func132 rfl rfl Tryz.results132 Tryz.ntmps132 (by simp) [] ?_
  intro hfr t hl ht
  simp only [At, Nat.reduceAdd, List.cons_append, List.nil_append] at ht
  by_cases h0 : e.right = 0
  · have hb : (e.right != 0) = false := by simp [h0]
    have hs := right_shp h0
    rw [if_pos h0]
    simp (config := {contextual := true, maxSteps := 5000000}) only [go_sem, false_and, Nat.reduceAdd, Nat.reduceLT, Nat.reduceBEq, Nat.reduceSub, Nat.reduceMul, Nat.reduceLeDiff, Int.reduceToNat, Nat.reduceEqDiff, Nat.reduceMod, ht, hl, specOf, toE_at, hb]
    rw [h0]
    exact ⟨hok, ⟨hok, hs⟩, Weak.refl _⟩
  · have hb : (e.right != 0) = true := by simpa using h0
    rw [if_neg h0]
    simp (config := {contextual := true, maxSteps := 5000000}) only [go_sem, false_and, Nat.reduceAdd, Nat.reduceLT, Nat.reduceBEq, Nat.reduceSub, Nat.reduceMul, Nat.reduceLeDiff, Int.reduceToNat, Nat.reduceEqDiff, Nat.reduceMod, ht, hl, specOf, toE_at, hb]
    exact hok
/-- What of answers of the two sets. -/
def spOf : Ans
  | [a, .clo (.func g) [] []] => (dE.dec a).bind fun e => if g = 133 then some (e.ok, .tup [.int .u64 (if e.right = 0 then (e.fv : Int) else 0), .int .i64 e.right]) else if g = 135 then some (e.ok, .tup [.int .u64 (if e.right = 0 then (e.vs : Int) else 0), .int .i64 e.right]) else none
  | _ => none
@[go_sem] theorem spOf_free {a : AV} : spOf [a, .clo (.func 133) [] []] = (dE.dec a).bind fun e => some (e.ok, .tup [.int .u64 (if e.right = 0 then (e.fv : Int) else 0), .int .i64 e.right]) := rfl
@[go_sem] theorem spOf_all {a : AV} : spOf [a, .clo (.func 135) [] []] = (dE.dec a).bind fun e => some (e.ok, .tup [.int .u64 (if e.right = 0 then (e.vs : Int) else 0), .int .i64 e.right]) := rfl
theorem spOf_ok : AnsOk Tryz.prog w0 132 spOf := by
  intro l φ v e hφ k H
  unfold spOf at e
  split at e
  · simp only [Option.bind_eq_some_iff] at e
    obtain ⟨x, hx, e⟩ := e
    split at e
    · rename_i hg
      subst hg
      cases e
      exact (ofF_call x hφ).weakL ⟨_, _, rfl, dE.ok _ _ hx, _, _, rfl, Weak.refl _, rfl⟩
    · split at e
      · rename_i hg
        subst hg
        cases e
        exact (ofA_call x hφ).weakL ⟨_, _, rfl, dE.ok _ _ hx, _, _, rfl, Weak.refl _, rfl⟩
      · cases e
  · cases e
def specOg : Spec := Spec.no.add 132 spOf
theorem specOg_ok : SpecOk Tryz.prog w0 specOg := Spec.no_ok.add spOf_ok
theorem freeX_call (e : E) (hok : e.ok) : CallAt Tryz.prog w0 k 118 [e.av] H H (.tup [.int .u64 (if e.right = 0 then (e.fv : Int) else 0), .int .i64 e.right]) := by
  refine callAt tabOk specOg_ok mixed Tryz.func118 rfl rfl Tryz.results118 Tryz.ntmps118 (by simp) [] ?_
  intro hfr t hl ht
  simp only [At, Nat.reduceAdd, List.cons_append, List.nil_append] at ht
  simp (config := {contextual := true, maxSteps := 5000000}) only [go_sem, false_and, Nat.reduceAdd, Nat.reduceLT, Nat.reduceBEq, Nat.reduceSub, Nat.reduceMul, Nat.reduceLeDiff, Int.reduceToNat, Nat.reduceEqDiff, Nat.reduceMod, ht, hl, specOg, toE_at]
  exact hok
theorem varsX_call (e : E) (hok : e.ok) : CallAt Tryz.prog w0 k 120 [e.av] H H (.tup [.int .u64 (if e.right = 0 then (e.vs : Int) else 0), .int .i64 e.right]) := by
  refine callAt tabOk specOg_ok mixed Tryz.func120 rfl rfl Tryz.results120 Tryz.ntmps120 (by simp) [] ?_
  intro hfr t hl ht
  simp only [At, Nat.reduceAdd, List.cons_append, List.nil_append] at ht
  simp (config := {contextual := true, maxSteps := 5000000}) only [go_sem, false_and, Nat.reduceAdd, Nat.reduceLT, Nat.reduceBEq, Nat.reduceSub, Nat.reduceMul, Nat.reduceLeDiff, Int.reduceToNat, Nat.reduceEqDiff, Nat.reduceMod, ht, hl, specOg, toE_at]
  exact hok
def specNf : Spec := ((Spec.no.add 118 (sp1 dE (fun e => e.ok) fun e => .tup [.int .u64 (if e.right = 0 then (e.fv : Int) else 0), .int .i64 e.right])).add 117 (sp1 dI (fun _ => True) fun n => .bool (decide (0 ≤ n ∧ n ≤ 63)))).add 119 (sp2 dW dI (fun s _ => s < 18446744073709551616) fun s n => .bool (hasB s n))
theorem specNf_ok : SpecOk Tryz.prog w0 specNf := ((Spec.no_ok.add (sp1_ok fun e h k H => freeX_call e h)).add (sp1_ok fun n _ k H => isVar_call n)).add (sp2_ok fun s n h k H => has_call s n h)
def notFreeE (x : Int) (e : E) : Bool × Int := if 0 ≤ x ∧ x ≤ 63 then (if e.right = 0 then (!hasB e.fv x, 0) else (false, e.right)) else (false, 1)
theorem notFree_call (x : Int) (e : E) (hok : e.ok) : CallAt Tryz.prog w0 k 98 [.int .i64 x, e.av] H H (.tup [.bool (notFreeE x e).1, .int .i64 (notFreeE x e).2]) := by
  refine callAt tabOk specNf_ok mixed Tryz.func98 rfl rfl Tryz.results98 Tryz.ntmps98 (by simp) [] ?_
  intro hfr t hl ht
  simp only [At, Nat.reduceAdd, List.cons_append, List.nil_append] at ht
  unfold notFreeE
  by_cases hx : 0 ≤ x ∧ x ≤ 63
  · have d : decide (0 ≤ x ∧ x ≤ 63) = true := by simpa using hx
    rw [if_pos hx]
    by_cases h0 : e.right = 0
    · have hb : (e.right == 0) = true := by simp [h0]
      rw [if_pos h0]
      simp (config := {contextual := true, maxSteps := 5000000}) only [go_sem, false_and, Nat.reduceAdd, Nat.reduceLT, Nat.reduceBEq, Nat.reduceSub, Nat.reduceMul, Nat.reduceLeDiff, Int.reduceToNat, Nat.reduceEqDiff, Nat.reduceMod, ht, hl, specNf, toE_at, d, hb, h0]
      simp [hok, h0, e.fv_lt]
    · have hb : (e.right == 0) = false := by simpa using h0
      rw [if_neg h0]
      simp (config := {contextual := true, maxSteps := 5000000}) only [go_sem, false_and, Nat.reduceAdd, Nat.reduceLT, Nat.reduceBEq, Nat.reduceSub, Nat.reduceMul, Nat.reduceLeDiff, Int.reduceToNat, Nat.reduceEqDiff, Nat.reduceMod, ht, hl, specNf, toE_at, d, hb, h0]
      exact hok
  · have d : decide (0 ≤ x ∧ x ≤ 63) = false := by simpa using hx
    rw [if_neg hx]
    simp (config := {contextual := true, maxSteps := 5000000}) only [go_sem, false_and, Nat.reduceAdd, Nat.reduceLT, Nat.reduceBEq, Nat.reduceSub, Nat.reduceMul, Nat.reduceLeDiff, Int.reduceToNat, Nat.reduceEqDiff, Nat.reduceMod, ht, hl, specNf, toE_at, d]
theorem caught1_call (x y : Int) (b own s : Nat) (i1 i2 : Id) (hne : i1 ≠ i2) (h1 : i1.sz = 1) (hb : b < 18446744073709551616) (hs : s < 18446744073709551616) (ho : own < 18446744073709551616) (hH1 : H i1 = some (.cells [.int .u64 (s : Int)])) (hH2 : H i2 = some (.cells [.int .u64 (own : Int)])) :
    CallAt Tryz.prog w0 k 158 [.int .i64 y, .int .u64 (b : Int), .sptr [.int .i64 x], .ptr i1 0, .ptr i2 0] H (H.upd i1 (some (.cells [.int .u64 ((s ||| cauF own x y b : Nat) : Int)]))) (.tup []) := by
  refine callAt tabOk specHs_ok mixed Tryz.func158 rfl rfl Tryz.results158 Tryz.ntmps158 (by simp) [] ?_
  intro hfr t hl ht
  simp only [At, Nat.reduceAdd, List.cons_append, List.nil_append] at ht
  have hsame : (H.upd i1 (some (.cells [.int .u64 (s : Int)]))) = H := by
    funext j
    unfold Hp.upd
    split
    · rename_i e
      rw [e, hH1]
    · rfl
  unfold cauF
  by_cases hy : y = x
  · have hy' : (y == x) = true := by simpa using hy
    cases hh : hasB b x
    · have e1 := u64_and ho hb
      have e2 := u64_or hs (and_lt b ho)
      rw [if_pos ⟨hy, rfl⟩]
      simp (config := {contextual := true, maxSteps := 5000000}) only [go_sem, false_and, Nat.reduceAdd, Nat.reduceLT, Nat.reduceBEq, Nat.reduceSub, Nat.reduceMul, Nat.reduceLeDiff, Int.reduceToNat, Nat.reduceEqDiff, Nat.reduceMod, ht, hl, specHs, hy', hh, hH1, hH2, h1, e1, e2]
      exact hb
    · rw [if_neg (fun h => by cases h.2)]
      simp (config := {contextual := true, maxSteps := 5000000}) only [go_sem, false_and, Nat.reduceAdd, Nat.reduceLT, Nat.reduceBEq, Nat.reduceSub, Nat.reduceMul, Nat.reduceLeDiff, Int.reduceToNat, Nat.reduceEqDiff, Nat.reduceMod, ht, hl, specHs, hy', hh, hH1, hH2, Nat.or_zero, hsame]
      exact hb
  · have hy' : (y == x) = false := by simpa using hy
    rw [if_neg (fun h => hy h.1)]
    simp (config := {contextual := true, maxSteps := 5000000}) only [go_sem, false_and, Nat.reduceAdd, Nat.reduceLT, Nat.reduceBEq, Nat.reduceSub, Nat.reduceMul, Nat.reduceLeDiff, Int.reduceToNat, Nat.reduceEqDiff, Nat.reduceMod, ht, hl, specHs, hy', hH1, hH2, Nat.or_zero, hsame]
def specCt : Spec := (((Spec.no.add 21 (sp1 dE (fun e => e.ok) fun e => .int .i64 e.right)).add 22 (sp1 dE (fun e => e.ok) fun e => .bool (e.right == 0 && e.term))).add 135 (sp1 dE (fun e => e.ok ∧ e.sh = true) fun e => .int .u64 ((e.vs : Nat) : Int))).add 117 (sp1 dI (fun _ => True) fun n => .bool (decide (0 ≤ n ∧ n ≤ 63)))
theorem specCt_ok : SpecOk Tryz.prog w0 specCt := (((Spec.no_ok.add (sp1_ok fun e h k H => rightX_call e h)).add (sp1_ok fun e h k H => isTermX_call e h)).add (sp1_ok fun e h k H => all_call e h.1 h.2)).add (sp1_ok fun n _ k H => isVar_call n)
theorem caughtP_call (u : E) (x : Int) (a : E) (hu : u.ok) (ha : a.ok) : CallAt Tryz.prog w0 k 150 [u.av, .int .i64 x, a.av] H H (.tup [.int .u64 ((caughtE u x a).1 : Int), .int .i64 (caughtE u x a).2]) := by
  refine callAt tabOk specCt_ok mixed Tryz.func150 rfl rfl Tryz.results150 Tryz.ntmps150 (by simp) [] ?_
  intro hfr t hl ht
  simp only [At, Nat.reduceAdd, List.cons_append, List.nil_append] at ht
  have fN : ∀ (a b : Nat) z ty, H ⟨z, a :: b :: k, ty⟩ = none := fun a b z ty => hfr _ (sfx2 _ _ _)
  unfold caughtE
  by_cases hx : 0 ≤ x ∧ x ≤ 63
  · have d : decide (0 ≤ x ∧ x ≤ 63) = true := by simpa using hx
    rw [if_pos hx]
    simp (config := {contextual := true, maxSteps := 5000000}) only [go_sem, false_and, Nat.reduceAdd, Nat.reduceLT, Nat.reduceBEq, Nat.reduceSub, Nat.reduceMul, Nat.reduceLeDiff, Int.reduceToNat, Nat.reduceEqDiff, Nat.reduceMod, ht, hl, specCt, toE_at, d]
    refine loop_inv tabOk specCt_ok mixed [] (fun j x' => ∃ i : Nat, x'.tmps.length = 39 ∧ x'.tmps.getD 3 AV.undef = .sptr [.int .i64 u.kind, .int .i64 u.id, .list .none (u.kids.map E.cells)] ∧ x'.tmps.getD 4 AV.undef = .sptr [.int .i64 x] ∧ x'.tmps.getD 5 AV.undef = .sptr [.int .i64 a.kind, .int .i64 a.id, .list .none (a.kids.map E.cells)] ∧ x'.tmps.getD 18 AV.undef = .list .full [[.int .i64 u.kind, .int .i64 u.id, .list .none (u.kids.map E.cells)], [.int .i64 a.kind, .int .i64 a.id, .list .none (a.kids.map E.cells)]] ∧
      x'.tmps.getD 19 AV.undef = .int .i64 2 ∧ x'.tmps.getD 20 AV.undef = .int .i64 i ∧ H.Le x'.H ∧ i + j = 2 ∧ (0 < i → u.right = 0) ∧ (1 < i → a.right = 0)) 2 ⟨0, ?_⟩ ?_
    · simp (config := {contextual := true, maxSteps := 5000000}) only [go_sem, false_and, Nat.reduceAdd, Nat.reduceLT, Nat.reduceBEq, Nat.reduceSub, Nat.reduceMul, Nat.reduceLeDiff, Int.reduceToNat, Nat.reduceEqDiff, Nat.reduceMod, ht, hl, strip]
      simp [Hp.Le.refl]
    · rintro j ⟨t, m, H'⟩ ⟨i, hl, g3, g4, g5, g18, g19, g20, hH, hij, hc1, hc2⟩
      simp only at hl g3 g4 g5 g18 g19 g20 hH
      have hc : i = 0 ∨ i = 1 ∨ i = 2 := by omega
      rcases hc with rfl | rfl | rfl
      · have g20' : t.getD 20 AV.undef = .int .i64 0 := g20
        have d1 : decide ((0 : Int) < 2) = true := rfl
        have w1 : IntKind.i64.wrap ((0 : Int) + 1) = 1 := rfl
        by_cases h0 : u.right = 0
        · have hb : (u.right != 0) = false := by simp [h0]
          simp (config := {contextual := true, maxSteps := 5000000}) only [go_sem, false_and, Nat.reduceAdd, Nat.reduceLT, Nat.reduceBEq, Nat.reduceSub, Nat.reduceMul, Nat.reduceLeDiff, Int.reduceToNat, Nat.reduceEqDiff, Nat.reduceMod, hl, g3, g4, g5, g18, g19, g20', specCt, toE_at, d1, w1, hb]
          refine ⟨by decide, hu, j - 1, by omega, 1, rfl, (by (repeat (first | exact hH | exact Hp.Le.refl _ | refine Hp.le_upd ?_ (fN _ _ _ _)))), by omega, fun _ => h0, by omega⟩
        · have hb : (u.right != 0) = true := by simpa using h0
          rw [if_neg h0]
          simp (config := {contextual := true, maxSteps := 5000000}) only [go_sem, false_and, Nat.reduceAdd, Nat.reduceLT, Nat.reduceBEq, Nat.reduceSub, Nat.reduceMul, Nat.reduceLeDiff, Int.reduceToNat, Nat.reduceEqDiff, Nat.reduceMod, hl, g3, g4, g5, g18, g19, g20', specCt, toE_at, d1, w1, hb]
          exact ⟨by decide, hu, Weak.refl _, (by (repeat (first | exact hH | exact Hp.Le.refl _ | refine Hp.le_upd ?_ (fN _ _ _ _))))⟩
      · have g20' : t.getD 20 AV.undef = .int .i64 1 := g20
        have d1 : decide ((1 : Int) < 2) = true := rfl
        have w1 : IntKind.i64.wrap ((1 : Int) + 1) = 2 := rfl
        have hu0 := hc1 (by omega)
        rw [if_pos hu0]
        by_cases h0 : a.right = 0
        · have hb : (a.right != 0) = false := by simp [h0]
          simp (config := {contextual := true, maxSteps := 5000000}) only [go_sem, false_and, Nat.reduceAdd, Nat.reduceLT, Nat.reduceBEq, Nat.reduceSub, Nat.reduceMul, Nat.reduceLeDiff, Int.reduceToNat, Nat.reduceEqDiff, Nat.reduceMod, hl, g3, g4, g5, g18, g19, g20', specCt, toE_at, d1, w1, hb]
          refine ⟨by decide, ha, j - 1, by omega, 2, rfl, (by (repeat (first | exact hH | exact Hp.Le.refl _ | refine Hp.le_upd ?_ (fN _ _ _ _)))), by omega, fun _ => hu0, fun _ => h0⟩
        · have hb : (a.right != 0) = true := by simpa using h0
          rw [if_neg h0]
          simp (config := {contextual := true, maxSteps := 5000000}) only [go_sem, false_and, Nat.reduceAdd, Nat.reduceLT, Nat.reduceBEq, Nat.reduceSub, Nat.reduceMul, Nat.reduceLeDiff, Int.reduceToNat, Nat.reduceEqDiff, Nat.reduceMod, hl, g3, g4, g5, g18, g19, g20', specCt, toE_at, d1, w1, hb]
          exact ⟨by decide, ha, Weak.refl _, (by (repeat (first | exact hH | exact Hp.Le.refl _ | refine Hp.le_upd ?_ (fN _ _ _ _))))⟩
      · have g20' : t.getD 20 AV.undef = .int .i64 2 := g20
        have d1 : decide ((2 : Int) < 2) = false := rfl
        have hu0 := hc1 (by omega)
        have ha0 := hc2 (by omega)
        rw [if_pos hu0, if_pos ha0]
        have hus := right_shp hu0
        have has := right_shp ha0
        have hrb : (u.right == 0) = true := by simp [hu0]
        cases htm : u.term
        · simp (config := {contextual := true, maxSteps := 5000000}) only [go_sem, false_and, Nat.reduceAdd, Nat.reduceLT, Nat.reduceBEq, Nat.reduceSub, Nat.reduceMul, Nat.reduceLeDiff, Int.reduceToNat, Nat.reduceEqDiff, Nat.reduceMod, hl, g3, g4, g5, g18, g19, g20', specCt, toE_at, d1, hrb, htm]
          exact ⟨hu, Weak.refl _, (by (repeat (first | exact hH | exact Hp.Le.refl _ | refine Hp.le_upd ?_ (fN _ _ _ _))))⟩
        · simp (config := {contextual := true, maxSteps := 5000000}) only [go_sem, false_and, Nat.reduceAdd, Nat.reduceLT, Nat.reduceBEq, Nat.reduceSub, Nat.reduceMul, Nat.reduceLeDiff, Int.reduceToNat, Nat.reduceEqDiff, Nat.reduceMod, hl, g3, g4, g5, g18, g19, g20', specCt, toE_at, d1, hrb, htm]
          have hw := walk_ok 158 [.sptr [.int .i64 x], .ptr ⟨1, 0 :: (m + 1 + 1 + 1) :: k, 111⟩ 0, .ptr ⟨1, 2 :: (m + 1 + 1) :: k, 111⟩ 0] rfl (a.sz + 1) a (Nat.lt_succ_self _) ha has w0 (2 :: (m + 1 + 1 + 1 + 1) :: k) 0
            (fun j => (H.upd ⟨1, 2 :: (m + 1 + 1) :: k, 111⟩ (some (.cells [.int .u64 ((u.vs : Nat) : Int)]))).upd ⟨1, 0 :: (m + 1 + 1 + 1) :: k, 111⟩ (some (.cells [.int .u64 ((gat (cauF u.vs x) 0 ((a.occ 0).take j) : Nat) : Int)]))) 0 (by omega) (fun j' y hy key hk => ?_) (fun j i hi => ?_)
          · refine ⟨hu, ⟨hu, hus⟩, ?_⟩
            refine callK_pre hw (Hp.upd_le (Hp.upd_le hH)) ?_
            have hg := gat_cau hx a (own := u.vs)
            simp (config := {contextual := true, maxSteps := 5000000}) only [go_sem, false_and, Nat.reduceAdd, Nat.reduceLT, Nat.reduceBEq, Nat.reduceSub, Nat.reduceMul, Nat.reduceLeDiff, Int.reduceToNat, Nat.reduceEqDiff, Nat.reduceMod, hl, g3, g4, g5, g18, g19, g20', Nat.zero_add]
            rw [List.take_of_length_le (Nat.le_refl _), hg]
            exact ⟨Weak.refl _, (by (repeat (first | exact Hp.Le.refl _ | refine Hp.le_upd ?_ (fN _ _ _ _))))⟩
          · have hxo := E.occ_ok a 0 (by omega) has y (List.mem_of_getElem? hy)
            have htk : (a.occ 0).take (0 + j' + 1) = (a.occ 0).take (0 + j') ++ [y] := by rw [Nat.zero_add, List.take_add_one, hy]; rfl
            have hlt : ∀ l : List (Int × Nat), gat (cauF u.vs x) 0 l < 18446744073709551616 := fun l => gat_lt _ (fun x' b => cauF_lt u.vs_lt x x' b) l 0 (by omega)
            have hne : (⟨1, 0 :: (m + 1 + 1 + 1) :: k, 111⟩ : Id) ≠ ⟨1, 2 :: (m + 1 + 1) :: k, 111⟩ := fun h => by cases h
            have := caught1_call (w0 := w0) (k := key) (H := (H.upd ⟨1, 2 :: (m + 1 + 1) :: k, 111⟩ (some (.cells [.int .u64 ((u.vs : Nat) : Int)]))).upd ⟨1, 0 :: (m + 1 + 1 + 1) :: k, 111⟩ (some (.cells [.int .u64 ((gat (cauF u.vs x) 0 ((a.occ 0).take (0 + j')) : Nat) : Int)]))) x y.1 y.2 u.vs _ ⟨1, 0 :: (m + 1 + 1 + 1) :: k, 111⟩ ⟨1, 2 :: (m + 1 + 1) :: k, 111⟩ hne rfl hxo.2 (hlt _) u.vs_lt (Hp.upd_same _ _ _) (by rw [Hp.upd_ne _ _ (Ne.symm hne)]; exact Hp.upd_same _ _ _)
            rw [upd_upd] at this
            dsimp only
            rw [htk, gat_snoc]
            exact this
          · rw [Hp.upd_ne _ _ (notKey (n := m + 1 + 1 + 1 + 1) (k := k) ((List.suffix_cons _ _).trans hi) (by omega)), Hp.upd_ne _ _ (notKey (n := m + 1 + 1 + 1 + 1) (k := k) ((List.suffix_cons _ _).trans hi) (by omega))]
            exact hfr i ((sfx2 _ _ _).trans hi)
  · have d : decide (0 ≤ x ∧ x ≤ 63) = false := by simpa using hx
    rw [if_neg hx]
    simp (config := {contextual := true, maxSteps := 5000000}) only [go_sem, false_and, Nat.reduceAdd, Nat.reduceLT, Nat.reduceBEq, Nat.reduceSub, Nat.reduceMul, Nat.reduceLeDiff, Int.reduceToNat, Nat.reduceEqDiff, Nat.reduceMod, ht, hl, specCt, toE_at, d]
    exact Weak.refl _
def specFf : Spec := Spec.no.add 150 (sp3 dE dI dE (fun u _ a => u.ok ∧ a.ok) fun u x a => .tup [.int .u64 ((caughtE u x a).1 : Int), .int .i64 (caughtE u x a).2])
theorem specFf_ok : SpecOk Tryz.prog w0 specFf := Spec.no_ok.add (sp3_ok fun u x a h k H => caughtP_call u x a h.1 h.2)
theorem freeFor_call (u : E) (x : Int) (a : E) (hu : u.ok) (ha : a.ok) : CallAt Tryz.prog w0 k 141 [u.av, .int .i64 x, a.av] H H (.tup [.bool (freeForE u x a), .int .i64 (caughtE u x a).2]) := by
  refine callAt tabOk specFf_ok mixed Tryz.func141 rfl rfl Tryz.results141 Tryz.ntmps141 (by simp) [] ?_
  intro hfr t hl ht
  simp only [At, Nat.reduceAdd, List.cons_append, List.nil_append] at ht
  have hz : (((caughtE u x a).1 : Int) == 0) = decide ((caughtE u x a).1 = 0) := by
    rw [Bool.eq_iff_iff, beq_iff_eq, decide_eq_true_eq]
    omega
  by_cases h0 : (caughtE u x a).2 = 0
  · have hb : ((caughtE u x a).2 == 0) = true := by simp [h0]
    have hf : freeForE u x a = decide ((caughtE u x a).1 = 0) := by simp [freeForE, h0]
    rw [hf]
    simp (config := {contextual := true, maxSteps := 5000000}) only [go_sem, false_and, Nat.reduceAdd, Nat.reduceLT, Nat.reduceBEq, Nat.reduceSub, Nat.reduceMul, Nat.reduceLeDiff, Int.reduceToNat, Nat.reduceEqDiff, Nat.reduceMod, ht, hl, specFf, toE_at, hb, hz]
    exact ⟨hu, ha⟩
  · have hb : ((caughtE u x a).2 == 0) = false := by simpa using h0
    have hf : freeForE u x a = false := by simp [freeForE, h0]
    rw [hf]
    simp (config := {contextual := true, maxSteps := 5000000}) only [go_sem, false_and, Nat.reduceAdd, Nat.reduceLT, Nat.reduceBEq, Nat.reduceSub, Nat.reduceMul, Nat.reduceLeDiff, Int.reduceToNat, Nat.reduceEqDiff, Nat.reduceMod, ht, hl, specFf, toE_at, hb]
    exact ⟨hu, ha⟩
end Go.Proofs.YtkdendaohlnlcaaGreat.Av

/- What the functions of package subst answer that put one term in. No condition. -/
namespace Go.Proofs.YtkdendaohlnlcaaGreat.Av
set_option linter.unusedVariables false
set_option linter.unusedSimpArgs false
set_option maxRecDepth 4000
set_option maxHeartbeats 1000000
variable {w0 : Base} {k : List Nat} {H : Hp}
theorem isVarS_call (n : Int) : CallAt Tryz.prog w0 k 140 [.int .i64 n] H H (.bool (decide (0 ≤ n ∧ n ≤ 63))) := by
  refine callAt tabOk Spec.no_ok mixed Tryz.func140 rfl rfl Tryz.results140 Tryz.ntmps140 (by simp) [] ?_
  intro hfr t hl ht
  simp only [At, Nat.reduceAdd, List.cons_append, List.nil_append] at ht
  simp (config := {contextual := true, maxSteps := 5000000}) only [go_sem, false_and, Nat.reduceAdd, Nat.reduceLT, Nat.reduceBEq, Nat.reduceSub, Nat.reduceMul, Nat.reduceLeDiff, Int.reduceToNat, Nat.reduceEqDiff, Nat.reduceMod, ht, hl]
  by_cases h0 : 0 ≤ n <;> by_cases h1 : n ≤ 63 <;> simp [h0, h1]
theorem bindsS_call (e : E) : CallAt Tryz.prog w0 k 159 [e.av] H H (.bool (isQ e.kind)) := by
  refine callAt tabOk Spec.no_ok mixed Tryz.func159 rfl rfl Tryz.results159 Tryz.ntmps159 (by simp) [] ?_
  intro hfr t hl ht
  simp only [At, Nat.reduceAdd, List.cons_append, List.nil_append] at ht
  simp (config := {contextual := true, maxSteps := 5000000}) only [go_sem, false_and, Nat.reduceAdd, Nat.reduceLT, Nat.reduceBEq, Nat.reduceSub, Nat.reduceMul, Nat.reduceLeDiff, Int.reduceToNat, Nat.reduceEqDiff, Nat.reduceMod, ht, hl]
  unfold isQ
  cases h : e.kind == 7 <;> simp
/-- What one term, and the variable for which it stands, look like in memory. -/
def Trm (x : Int) (t : E) (c : List AV) : Prop := c.length = 193 ∧ c.getD 0 AV.undef = .int .u64 ((bitv x : Nat) : Int) ∧ (c.drop (1 + x.toNat * 3)).take 3 = t.cells
def specS0 : Spec := (((Spec.no.add 159 (sp1 dE (fun _ => True) fun e => .bool (isQ e.kind))).add 119 (sp2 dW dI (fun s _ => s < 18446744073709551616) fun s n => .bool (hasB s n))).add 151 (sp2 dW dI (fun s _ => s < 18446744073709551616) fun s n => .int .u64 ((s ||| bitv n : Nat) : Int))).add 37 (sp1 dE (fun e => e.ok) fun e => .int .i64 (min (e.sz : Int) 1001))
theorem specS0_ok : SpecOk Tryz.prog w0 specS0 := (((Spec.no_ok.add (sp1_ok fun e _ k H => bindsS_call e)).add (sp2_ok fun s n h k H => has_call s n h)).add (sp2_ok fun s n h k H => with_call s n h)).add (sp1_ok fun e h k H => sizeX_call e h)
theorem less_has {x : Int} (hx : 0 ≤ x ∧ x ≤ 63) (b : Nat) (i : Int) : hasB (less (bitv x) b) i = (decide (i = x) && !hasB b x) := by
  rw [hasB_less, hasB_bitv]
  by_cases h : i = x
  · subst h
    simp [hx]
  · simp [h]
theorem read1 (c : List AV) : List.getD (List.drop 0 (List.drop 0 c)) 0 AV.undef = c.getD 0 AV.undef := rfl
theorem E.cnt_eq (x : Int) (m b : Nat) (e : E) (n : Nat) : E.cnt x m b e n = if e.kind = 1 ∧ e.id = x ∧ hasB b x = false then n + m else E.cntL x m (if isQ e.kind = true then b ||| bitv e.id else b) e.kids (n + 1) := by cases e; rw [E.cnt]; rfl
theorem cntL_drop (x : Int) (m b : Nat) {l : List E} {i : Nat} {y : E} (hy : l[i]? = some y) {n : Nat} (hn : n ≤ 1000) : E.cntL x m b (l.drop i) n = E.cntL x m b (l.drop (i + 1)) (E.cnt x m b y n) := by
  obtain ⟨h1, rfl⟩ := List.getElem?_eq_some_iff.1 hy
  rw [List.drop_eq_getElem_cons h1, E.cntL, if_neg (by omega)]
theorem count_step (id : Id) (hz : id.sz = 193) (x : Int) (hx : 0 ≤ x ∧ x ≤ 63) (u : E) (hu : u.ok) (hus : u.sz ≤ 1000) (N : Nat) (ih : ∀ (e : E), e.sz < N → e.ok → e.sh = true → ∀ (w0 : Base) (k : List Nat) (H : Hp) (b n : Nat), b < 18446744073709551616 → n ≤ 1000 → (∃ c, H id = some (.cells c) ∧ Trm x u c) →
      CallAt Tryz.prog w0 k 152 [e.av, .ptr id 0, .int .u64 (b : Int), .int .i64 (n : Int)] H H (.int .i64 ((E.cnt x u.sz b e n : Nat) : Int)))
    (e : E) (he : e.sz < N + 1) (hok : e.ok) (hs : e.sh = true) (w0 : Base) (k : List Nat) (H : Hp) (b n : Nat) (hb : b < 18446744073709551616) (hn : n ≤ 1000) (hc : ∃ c, H id = some (.cells c) ∧ Trm x u c) :
    CallAt Tryz.prog w0 k 152 [e.av, .ptr id 0, .int .u64 (b : Int), .int .i64 (n : Int)] H H (.int .i64 ((E.cnt x u.sz b e n : Nat) : Int)) := by
  refine callAt tabOk specS0_ok mixed Tryz.func152 rfl rfl Tryz.results152 Tryz.ntmps152 (by simp) [] ?_
  intro hfr t hl ht
  simp only [At, Nat.reduceAdd, List.cons_append, List.nil_append] at ht
  have fN : ∀ (a b : Nat) z ty, H ⟨z, a :: b :: k, ty⟩ = none := fun a b z ty => hfr _ (sfx2 _ _ _)
  obtain ⟨c, hH, hc1, hc2, hc3⟩ := hc
  have hlen := E.ok_len hok
  have ha := u64_andNot (bitv_lt x) hb
  have hlt := less_lt b (bitv_lt x)
  have hlh := less_has hx b e.id
  rw [E.cnt_eq]
  have hcz : min (u.sz : Int) 1001 = (u.sz : Int) := by omega
  by_cases h1 : e.kind = 1 ∧ e.id = x ∧ hasB b x = false
  · obtain ⟨h1, h2, h3⟩ := h1
    rw [if_pos ⟨h1, h2, h3⟩]
    have hk : (e.kind == 1) = true := by simpa using h1
    have hh : hasB (less (bitv x) b) e.id = true := by rw [hlh, h2, h3]; simp
    have hw : IntKind.i64.wrap ((n : Int) + (u.sz : Int)) = ((n + u.sz : Nat) : Int) := by rw [wrap_i64] <;> omega
    have hc4 : List.take 3 (List.drop (1 + e.id.toNat * 3) c) = [.int .i64 u.kind, .int .i64 u.id, .list .none (u.kids.map E.cells)] := by rw [h2, hc3, E.cells_eq]
    simp (config := {contextual := true, maxSteps := 5000000}) only [go_sem, false_and, Nat.reduceAdd, Nat.reduceLT, Nat.reduceBEq, Nat.reduceSub, Nat.reduceMul, Nat.reduceLeDiff, Int.reduceToNat, Nat.reduceEqDiff, Nat.reduceMod, ht, hl, specS0, hk, hH, hz, hc1, hc2, ha, hh, Nat.zero_add]
    refine ⟨by kernel_rfl, hlt, by (refine pw_of ?_; (repeat' (first | exact trivial | apply And.intro)); all_goals (first | exact .inr rfl | exact .inr trivial | exact .inl (by kernel_rfl))), ?_⟩
    have hbx : 0 ≤ e.id ∧ e.id < 64 := by rw [h2]; omega
    simp (config := {contextual := true, maxSteps := 5000000}) only [go_sem, false_and, Nat.reduceAdd, Nat.reduceLT, Nat.reduceBEq, Nat.reduceSub, Nat.reduceMul, Nat.reduceLeDiff, Int.reduceToNat, Nat.reduceEqDiff, Nat.reduceMod, ht, hl, specS0, hc4, toE_at, hcz, hw]
    refine ⟨by kernel_rfl, ⟨by omega, by omega⟩, by omega, hu, ?_⟩
    (refine pw_of ?_; (repeat' (first | exact trivial | apply And.intro)); all_goals (first | exact .inr rfl | exact .inr trivial | exact .inl (by kernel_rfl)))
  · have hw1 : IntKind.i64.wrap ((n : Int) + 1) = ((n + 1 : Nat) : Int) := by rw [wrap_i64] <;> omega
    rw [if_neg h1]
    cases hq : isQ e.kind
    · obtain ⟨b', rfl, hb'⟩ : ∃ b' : Nat, b' = b ∧ b' < 18446744073709551616 := ⟨b, rfl, hb⟩
      rw [if_neg (by simp)]
      by_cases h2 : e.kind = 1
      · have hk : (e.kind == 1) = true := by simpa using h2
        have hh : hasB (less (bitv x) b') e.id = false := by
          rw [hlh]
          cases hxx : decide (e.id = x)
          · rfl
          · cases hbb : hasB b' x
            · exact absurd ⟨h2, of_decide_eq_true hxx, hbb⟩ h1
            · rfl
        simp (config := {contextual := true, maxSteps := 5000000}) only [go_sem, false_and, Nat.reduceAdd, Nat.reduceLT, Nat.reduceBEq, Nat.reduceSub, Nat.reduceMul, Nat.reduceLeDiff, Int.reduceToNat, Nat.reduceEqDiff, Nat.reduceMod, ht, hl, specS0, hk, hH, hz, hc1, hc2, ha, hh, hq, hw1, Nat.zero_add]
        refine ⟨by kernel_rfl, hlt, by (refine pw_of ?_; (repeat' (first | exact trivial | apply And.intro)); all_goals (first | exact .inr rfl | exact .inr trivial | exact .inl (by kernel_rfl))), ?_⟩
        refine loop_inv tabOk specS0_ok mixed [] (fun j x' => ∃ (i q : Nat), x'.tmps.length = 59 ∧ x'.tmps.getD 1 AV.undef = .ptr id 0 ∧ x'.tmps.getD 2 AV.undef = .int .u64 (b' : Int) ∧ x'.tmps.getD 3 AV.undef = .int .i64 (q : Int) ∧ x'.tmps.getD 44 AV.undef = .list .none (e.kids.map E.cells) ∧ x'.tmps.getD 45 AV.undef = .int .i64 e.kids.length ∧ x'.tmps.getD 46 AV.undef = .int .i64 i ∧ H.Le x'.H ∧ i + j = e.kids.length ∧ q ≤ 2001 ∧ E.cntL x u.sz b' e.kids (n + 1) = E.cntL x u.sz b' (e.kids.drop i) q) e.kids.length ⟨0, n + 1, ?_⟩ ?_
        · simp (config := {contextual := true, maxSteps := 5000000}) only [go_sem, false_and, Nat.reduceAdd, Nat.reduceLT, Nat.reduceBEq, Nat.reduceSub, Nat.reduceMul, Nat.reduceLeDiff, Int.reduceToNat, Nat.reduceEqDiff, Nat.reduceMod, ht, hl]
          ((repeat' apply And.intro) <;> first | rfl | trivial | omega | exact Hp.Le.refl _ | with_reducible assumption | (repeat (first | with_reducible assumption | exact Hp.Le.refl _ | refine Hp.le_upd ?_ (fN _ _ _ _))))
        · rintro j ⟨t, m, H'⟩ ⟨i, q, hl, g1, g2, g3, g44, g45, g46, hH', hij, hq, hcn⟩
          simp only at hl g1 g2 g3 g44 g45 g46 hH'
          by_cases hi : i < e.kids.length
          · have hd : decide ((i : Int) < (e.kids.length : Int)) = true := by simp [hi]
            have hw2 : IntKind.i64.wrap ((i : Int) + 1) = ((i + 1 : Nat) : Int) := by rw [wrap_i64] <;> omega
            obtain ⟨y, hy, hye⟩ := E.kid e hi
            by_cases hbig : 1000 < q
            · have d : decide ((1000 : Int) < (q : Int)) = true := by simp; omega
              simp (config := {contextual := true, maxSteps := 5000000}) only [go_sem, false_and, Nat.reduceAdd, Nat.reduceLT, Nat.reduceBEq, Nat.reduceSub, Nat.reduceMul, Nat.reduceLeDiff, Int.reduceToNat, Nat.reduceEqDiff, Nat.reduceMod, hye, specS0, g1, g2, g3, g44, g45, g46, hl, hd, hw2, d]
              rw [hcn, E.cntL_stop _ _ _ _ _ hbig]
              exact ⟨⟨by omega, by omega⟩, rfl, Hp.le_upd hH' (fN _ _ _ _)⟩
            · have d : decide ((1000 : Int) < (q : Int)) = false := by simp; omega
              simp (config := {contextual := true, maxSteps := 5000000}) only [go_sem, false_and, Nat.reduceAdd, Nat.reduceLT, Nat.reduceBEq, Nat.reduceSub, Nat.reduceMul, Nat.reduceLeDiff, Int.reduceToNat, Nat.reduceEqDiff, Nat.reduceMod, hye, specS0, g1, g2, g3, g44, g45, g46, hl, hd, hw2, d]
              refine ⟨⟨by omega, by omega⟩, ?_⟩
              refine callK_pre (ih y (by have := E.kid_sz hy; omega) (E.ok_kid hok hy) (E.sh_kid hs hy) w0 _ H b' q hb' (by omega) ⟨c, hH, hc1, hc2, hc3⟩) (Hp.le_upd hH' (fN _ _ _ _)) ?_
              simp (config := {contextual := true, maxSteps := 5000000}) only [go_sem, false_and, Nat.reduceAdd, Nat.reduceLT, Nat.reduceBEq, Nat.reduceSub, Nat.reduceMul, Nat.reduceLeDiff, Int.reduceToNat, Nat.reduceEqDiff, Nat.reduceMod, hye, specS0, g1, g2, g3, g44, g45, g46, hl, hd, hw2, d]
              exact ⟨j - 1, by omega, i + 1, E.cnt x u.sz b' y q, rfl, rfl, by omega, E.cnt_le x (by omega) y b' q (by omega), by rw [hcn, cntL_drop x u.sz b' hy (by omega)]⟩
          · have hd : decide ((i : Int) < (e.kids.length : Int)) = false := by simp; omega
            simp (config := {contextual := true, maxSteps := 5000000}) only [go_sem, false_and, Nat.reduceAdd, Nat.reduceLT, Nat.reduceBEq, Nat.reduceSub, Nat.reduceMul, Nat.reduceLeDiff, Int.reduceToNat, Nat.reduceEqDiff, Nat.reduceMod, specS0, g1, g2, g3, g44, g45, g46, hl, hd]
            rw [hcn, List.drop_of_length_le (by omega)]
            exact ⟨rfl, hH'⟩
      · have hk : (e.kind == 1) = false := by simpa using h2
        simp (config := {contextual := true, maxSteps := 5000000}) only [go_sem, false_and, Nat.reduceAdd, Nat.reduceLT, Nat.reduceBEq, Nat.reduceSub, Nat.reduceMul, Nat.reduceLeDiff, Int.reduceToNat, Nat.reduceEqDiff, Nat.reduceMod, ht, hl, specS0, hk, hH, hz, hc1, hc2, ha, hq, hw1, Nat.zero_add]
        refine ⟨by kernel_rfl, List.Pairwise.nil, ?_⟩
        refine loop_inv tabOk specS0_ok mixed [] (fun j x' => ∃ (i q : Nat), x'.tmps.length = 59 ∧ x'.tmps.getD 1 AV.undef = .ptr id 0 ∧ x'.tmps.getD 2 AV.undef = .int .u64 (b' : Int) ∧ x'.tmps.getD 3 AV.undef = .int .i64 (q : Int) ∧ x'.tmps.getD 44 AV.undef = .list .none (e.kids.map E.cells) ∧ x'.tmps.getD 45 AV.undef = .int .i64 e.kids.length ∧ x'.tmps.getD 46 AV.undef = .int .i64 i ∧ H.Le x'.H ∧ i + j = e.kids.length ∧ q ≤ 2001 ∧ E.cntL x u.sz b' e.kids (n + 1) = E.cntL x u.sz b' (e.kids.drop i) q) e.kids.length ⟨0, n + 1, ?_⟩ ?_
        · simp (config := {contextual := true, maxSteps := 5000000}) only [go_sem, false_and, Nat.reduceAdd, Nat.reduceLT, Nat.reduceBEq, Nat.reduceSub, Nat.reduceMul, Nat.reduceLeDiff, Int.reduceToNat, Nat.reduceEqDiff, Nat.reduceMod, ht, hl]
          ((repeat' apply And.intro) <;> first | rfl | trivial | omega | exact Hp.Le.refl _ | with_reducible assumption | (repeat (first | with_reducible assumption | exact Hp.Le.refl _ | refine Hp.le_upd ?_ (fN _ _ _ _))))
        · rintro j ⟨t, m, H'⟩ ⟨i, q, hl, g1, g2, g3, g44, g45, g46, hH', hij, hq, hcn⟩
          simp only at hl g1 g2 g3 g44 g45 g46 hH'
          by_cases hi : i < e.kids.length
          · have hd : decide ((i : Int) < (e.kids.length : Int)) = true := by simp [hi]
            have hw2 : IntKind.i64.wrap ((i : Int) + 1) = ((i + 1 : Nat) : Int) := by rw [wrap_i64] <;> omega
            obtain ⟨y, hy, hye⟩ := E.kid e hi
            by_cases hbig : 1000 < q
            · have d : decide ((1000 : Int) < (q : Int)) = true := by simp; omega
              simp (config := {contextual := true, maxSteps := 5000000}) only [go_sem, false_and, Nat.reduceAdd, Nat.reduceLT, Nat.reduceBEq, Nat.reduceSub, Nat.reduceMul, Nat.reduceLeDiff, Int.reduceToNat, Nat.reduceEqDiff, Nat.reduceMod, hye, specS0, g1, g2, g3, g44, g45, g46, hl, hd, hw2, d]
              rw [hcn, E.cntL_stop _ _ _ _ _ hbig]
              exact ⟨⟨by omega, by omega⟩, rfl, Hp.le_upd hH' (fN _ _ _ _)⟩
            · have d : decide ((1000 : Int) < (q : Int)) = false := by simp; omega
              simp (config := {contextual := true, maxSteps := 5000000}) only [go_sem, false_and, Nat.reduceAdd, Nat.reduceLT, Nat.reduceBEq, Nat.reduceSub, Nat.reduceMul, Nat.reduceLeDiff, Int.reduceToNat, Nat.reduceEqDiff, Nat.reduceMod, hye, specS0, g1, g2, g3, g44, g45, g46, hl, hd, hw2, d]
              refine ⟨⟨by omega, by omega⟩, ?_⟩
              refine callK_pre (ih y (by have := E.kid_sz hy; omega) (E.ok_kid hok hy) (E.sh_kid hs hy) w0 _ H b' q hb' (by omega) ⟨c, hH, hc1, hc2, hc3⟩) (Hp.le_upd hH' (fN _ _ _ _)) ?_
              simp (config := {contextual := true, maxSteps := 5000000}) only [go_sem, false_and, Nat.reduceAdd, Nat.reduceLT, Nat.reduceBEq, Nat.reduceSub, Nat.reduceMul, Nat.reduceLeDiff, Int.reduceToNat, Nat.reduceEqDiff, Nat.reduceMod, hye, specS0, g1, g2, g3, g44, g45, g46, hl, hd, hw2, d]
              exact ⟨j - 1, by omega, i + 1, E.cnt x u.sz b' y q, rfl, rfl, by omega, E.cnt_le x (by omega) y b' q (by omega), by rw [hcn, cntL_drop x u.sz b' hy (by omega)]⟩
          · have hd : decide ((i : Int) < (e.kids.length : Int)) = false := by simp; omega
            simp (config := {contextual := true, maxSteps := 5000000}) only [go_sem, false_and, Nat.reduceAdd, Nat.reduceLT, Nat.reduceBEq, Nat.reduceSub, Nat.reduceMul, Nat.reduceLeDiff, Int.reduceToNat, Nat.reduceEqDiff, Nat.reduceMod, specS0, g1, g2, g3, g44, g45, g46, hl, hd]
            rw [hcn, List.drop_of_length_le (by omega)]
            exact ⟨rfl, hH'⟩
    · obtain ⟨b', hbe, hb'⟩ : ∃ b' : Nat, b ||| bitv e.id = b' ∧ b' < 18446744073709551616 := ⟨_, rfl, or_lt hb (bitv_lt _)⟩
      rw [if_pos rfl, hbe]
      have hk : (e.kind == 1) = false := by
        cases hk : e.kind == 1
        · rfl
        · rw [beq_iff_eq] at hk
          rw [hk] at hq
          cases hq
      simp (config := {contextual := true, maxSteps := 5000000}) only [go_sem, false_and, Nat.reduceAdd, Nat.reduceLT, Nat.reduceBEq, Nat.reduceSub, Nat.reduceMul, Nat.reduceLeDiff, Int.reduceToNat, Nat.reduceEqDiff, Nat.reduceMod, ht, hl, specS0, hk, hH, hz, hc1, hc2, ha, hq, hw1, hbe, Nat.zero_add]
      refine ⟨by kernel_rfl, List.Pairwise.nil, hb, ?_⟩
      refine loop_inv tabOk specS0_ok mixed [] (fun j x' => ∃ (i q : Nat), x'.tmps.length = 59 ∧ x'.tmps.getD 1 AV.undef = .ptr id 0 ∧ x'.tmps.getD 2 AV.undef = .int .u64 (b' : Int) ∧ x'.tmps.getD 3 AV.undef = .int .i64 (q : Int) ∧ x'.tmps.getD 44 AV.undef = .list .none (e.kids.map E.cells) ∧ x'.tmps.getD 45 AV.undef = .int .i64 e.kids.length ∧ x'.tmps.getD 46 AV.undef = .int .i64 i ∧ H.Le x'.H ∧ i + j = e.kids.length ∧ q ≤ 2001 ∧ E.cntL x u.sz b' e.kids (n + 1) = E.cntL x u.sz b' (e.kids.drop i) q) e.kids.length ⟨0, n + 1, ?_⟩ ?_
      · simp (config := {contextual := true, maxSteps := 5000000}) only [go_sem, false_and, Nat.reduceAdd, Nat.reduceLT, Nat.reduceBEq, Nat.reduceSub, Nat.reduceMul, Nat.reduceLeDiff, Int.reduceToNat, Nat.reduceEqDiff, Nat.reduceMod, ht, hl]
        ((repeat' apply And.intro) <;> first | rfl | trivial | omega | exact Hp.Le.refl _ | with_reducible assumption | (repeat (first | with_reducible assumption | exact Hp.Le.refl _ | refine Hp.le_upd ?_ (fN _ _ _ _))))
      · rintro j ⟨t, m, H'⟩ ⟨i, q, hl, g1, g2, g3, g44, g45, g46, hH', hij, hq, hcn⟩
        simp only at hl g1 g2 g3 g44 g45 g46 hH'
        by_cases hi : i < e.kids.length
        · have hd : decide ((i : Int) < (e.kids.length : Int)) = true := by simp [hi]
          have hw2 : IntKind.i64.wrap ((i : Int) + 1) = ((i + 1 : Nat) : Int) := by rw [wrap_i64] <;> omega
          obtain ⟨y, hy, hye⟩ := E.kid e hi
          by_cases hbig : 1000 < q
          · have d : decide ((1000 : Int) < (q : Int)) = true := by simp; omega
            simp (config := {contextual := true, maxSteps := 5000000}) only [go_sem, false_and, Nat.reduceAdd, Nat.reduceLT, Nat.reduceBEq, Nat.reduceSub, Nat.reduceMul, Nat.reduceLeDiff, Int.reduceToNat, Nat.reduceEqDiff, Nat.reduceMod, hye, specS0, g1, g2, g3, g44, g45, g46, hl, hd, hw2, d]
            rw [hcn, E.cntL_stop _ _ _ _ _ hbig]
            exact ⟨⟨by omega, by omega⟩, rfl, Hp.le_upd hH' (fN _ _ _ _)⟩
          · have d : decide ((1000 : Int) < (q : Int)) = false := by simp; omega
            simp (config := {contextual := true, maxSteps := 5000000}) only [go_sem, false_and, Nat.reduceAdd, Nat.reduceLT, Nat.reduceBEq, Nat.reduceSub, Nat.reduceMul, Nat.reduceLeDiff, Int.reduceToNat, Nat.reduceEqDiff, Nat.reduceMod, hye, specS0, g1, g2, g3, g44, g45, g46, hl, hd, hw2, d]
            refine ⟨⟨by omega, by omega⟩, ?_⟩
            refine callK_pre (ih y (by have := E.kid_sz hy; omega) (E.ok_kid hok hy) (E.sh_kid hs hy) w0 _ H b' q hb' (by omega) ⟨c, hH, hc1, hc2, hc3⟩) (Hp.le_upd hH' (fN _ _ _ _)) ?_
            simp (config := {contextual := true, maxSteps := 5000000}) only [go_sem, false_and, Nat.reduceAdd, Nat.reduceLT, Nat.reduceBEq, Nat.reduceSub, Nat.reduceMul, Nat.reduceLeDiff, Int.reduceToNat, Nat.reduceEqDiff, Nat.reduceMod, hye, specS0, g1, g2, g3, g44, g45, g46, hl, hd, hw2, d]
            exact ⟨j - 1, by omega, i + 1, E.cnt x u.sz b' y q, rfl, rfl, by omega, E.cnt_le x (by omega) y b' q (by omega), by rw [hcn, cntL_drop x u.sz b' hy (by omega)]⟩
        · have hd : decide ((i : Int) < (e.kids.length : Int)) = false := by simp; omega
          simp (config := {contextual := true, maxSteps := 5000000}) only [go_sem, false_and, Nat.reduceAdd, Nat.reduceLT, Nat.reduceBEq, Nat.reduceSub, Nat.reduceMul, Nat.reduceLeDiff, Int.reduceToNat, Nat.reduceEqDiff, Nat.reduceMod, specS0, g1, g2, g3, g44, g45, g46, hl, hd]
          rw [hcn, List.drop_of_length_le (by omega)]
          exact ⟨rfl, hH'⟩
theorem count_ok (id : Id) (hz : id.sz = 193) (x : Int) (hx : 0 ≤ x ∧ x ≤ 63) (u : E) (hu : u.ok) (hus : u.sz ≤ 1000) : ∀ (N : Nat) (e : E), e.sz < N → e.ok → e.sh = true → ∀ (w0 : Base) (k : List Nat) (H : Hp) (b n : Nat), b < 18446744073709551616 → n ≤ 1000 → (∃ c, H id = some (.cells c) ∧ Trm x u c) →
      CallAt Tryz.prog w0 k 152 [e.av, .ptr id 0, .int .u64 (b : Int), .int .i64 (n : Int)] H H (.int .i64 ((E.cnt x u.sz b e n : Nat) : Int))
  | 0, e, h => by omega
  | N + 1, e, h => fun hok hs w0 k H b n hb hn hc => count_step id hz x hx u hu hus N (count_ok id hz x hx u hu hus N) e h hok hs w0 k H b n hb hn hc
theorem E.inn_eq (x : Int) (u : E) (b : Nat) (e : E) : e.inn x u b = if e.kind = 1 then (if e.id = x ∧ hasB b x = false then u else e) else .mk e.kind e.id (E.innL e.kids x u (if isQ e.kind = true then b ||| bitv e.id else b)) := by cases e; rw [E.inn]; rfl
theorem in_step (tv : Id) (hz : tv.sz = 193) (x : Int) (hx : 0 ≤ x ∧ x ≤ 63) (u : E) (N : Nat) (ih : ∀ (e : E), e.sz < N → e.ok → e.sh = true → ∀ (w0 : Base) (k : List Nat) (H : Hp) (b : Nat), b < 18446744073709551616 → (∃ c, H tv = some (.cells c) ∧ Trm x u c) →
      CallAt Tryz.prog w0 k 154 [.ptr tv 0, e.av, .int .u64 (b : Int)] H H (e.inn x u b).av)
    (e : E) (he : e.sz < N + 1) (hok : e.ok) (hs : e.sh = true) (w0 : Base) (k : List Nat) (H : Hp) (b : Nat) (hb : b < 18446744073709551616) (hc : ∃ c, H tv = some (.cells c) ∧ Trm x u c) :
    CallAt Tryz.prog w0 k 154 [.ptr tv 0, e.av, .int .u64 (b : Int)] H H (e.inn x u b).av := by
  refine callAt tabOk specS0_ok mixed Tryz.func154 rfl rfl Tryz.results154 Tryz.ntmps154 (by simp) [] ?_
  intro hfr t hl ht
  simp only [At, Nat.reduceAdd, List.cons_append, List.nil_append] at ht
  have fN : ∀ (a b : Nat) z ty, H ⟨z, a :: b :: k, ty⟩ = none := fun a b z ty => hfr _ (sfx2 _ _ _)
  obtain ⟨c, hH, hc1, hc2, hc3⟩ := hc
  have h4 := E.loc_len (E.sh_loc hs)
  have ha := u64_andNot (bitv_lt x) hb
  have hlt := less_lt b (bitv_lt x)
  have hlh := less_has hx b e.id
  rw [E.inn_eq]
  have hne : ¬ (tv = ⟨3, 1 :: 0 :: k, 33⟩) := fun h => by rw [h, fN] at hH; cases hH
  by_cases h1 : e.kind = 1
  · have hk : (e.kind == 1) = true := by simpa using h1
    rw [if_pos h1]
    by_cases h2 : e.id = x ∧ hasB b x = false
    · have hh : hasB (less (bitv x) b) e.id = true := by rw [hlh, h2.1, h2.2]; simp
      rw [if_pos h2]
      have hc4 : List.take 3 (List.drop (1 + e.id.toNat * 3) c) = [.int .i64 u.kind, .int .i64 u.id, .list .none (u.kids.map E.cells)] := by rw [h2.1, hc3, E.cells_eq]
      have hbx : 0 ≤ e.id ∧ e.id < 64 := by rw [h2.1]; omega
      simp (config := {contextual := true, maxSteps := 5000000}) only [go_sem, false_and, Nat.reduceAdd, Nat.reduceLT, Nat.reduceBEq, Nat.reduceSub, Nat.reduceMul, Nat.reduceLeDiff, Int.reduceToNat, Nat.reduceEqDiff, Nat.reduceMod, ht, hl, specS0, hk, hH, hz, hc1, hc2, ha, hne, hh, hc4, Nat.zero_add, resOne]
      refine ⟨by kernel_rfl, hlt, by (refine pw_of ?_; (repeat' (first | exact trivial | apply And.intro)); all_goals (first | exact .inr rfl | exact .inr trivial | exact .inl (by kernel_rfl))), by kernel_rfl, ⟨by omega, by omega⟩, by omega, by (refine pw_of ?_; (repeat' (first | exact trivial | apply And.intro)); all_goals (first | exact .inr rfl | exact .inr trivial | exact .inl (by kernel_rfl))), ?_⟩
      exact Hp.le_upd (Hp.Le.refl _) (fN _ _ _ _)
    · have hh : hasB (less (bitv x) b) e.id = false := by
        rw [hlh]
        cases hxx : decide (e.id = x)
        · rfl
        · cases hbb : hasB b x
          · exact absurd ⟨of_decide_eq_true hxx, hbb⟩ h2
          · rfl
      rw [if_neg h2]
      simp (config := {contextual := true, maxSteps := 5000000}) only [go_sem, false_and, Nat.reduceAdd, Nat.reduceLT, Nat.reduceBEq, Nat.reduceSub, Nat.reduceMul, Nat.reduceLeDiff, Int.reduceToNat, Nat.reduceEqDiff, Nat.reduceMod, ht, hl, specS0, hk, hH, hz, hc1, hc2, ha, hne, hh, Nat.zero_add, resOne]
      exact ⟨by kernel_rfl, hlt, by (refine pw_of ?_; (repeat' (first | exact trivial | apply And.intro)); all_goals (first | exact .inr rfl | exact .inr trivial | exact .inl (by kernel_rfl))), Hp.le_upd (Hp.Le.refl _) (fN _ _ _ _)⟩
  · have hk : (e.kind == 1) = false := by simpa using h1
    rw [if_neg h1]
    cases hq : isQ e.kind
    · obtain ⟨b', rfl, hb'⟩ : ∃ b' : Nat, b' = b ∧ b' < 18446744073709551616 := ⟨b, rfl, hb⟩
      rw [if_neg (by simp)]
      simp (config := {contextual := true, maxSteps := 5000000}) only [go_sem, false_and, Nat.reduceAdd, Nat.reduceLT, Nat.reduceBEq, Nat.reduceSub, Nat.reduceMul, Nat.reduceLeDiff, Int.reduceToNat, Nat.reduceEqDiff, Nat.reduceMod, ht, hl, specS0, hk, hH, hz, hc1, hc2, ha, hne, hq]
      refine loop_inv tabOk specS0_ok mixed [] (fun j x' => ∃ (i : Nat) (tk : Tok), x'.tmps.length = 59 ∧ x'.tmps.getD 0 AV.undef = .ptr tv 0 ∧ x'.tmps.getD 2 AV.undef = .int .u64 (b' : Int) ∧ x'.tmps.getD 6 AV.undef = .ptr ⟨3, 1 :: 0 :: k, 33⟩ 0 ∧ x'.tmps.getD 7 AV.undef = .ptr ⟨3, 5 :: 3 :: k, 33⟩ 0 ∧ x'.tmps.getD 42 AV.undef = .list .none (e.kids.map E.cells) ∧ x'.tmps.getD 43 AV.undef = .int .i64 e.kids.length ∧ x'.tmps.getD 44 AV.undef = .int .i64 i ∧
        x'.H ⟨3, 5 :: 3 :: k, 33⟩ = some (.cells [.int .i64 e.kind, .int .i64 e.id, .list tk ((e.kids.take i).map fun y => (y.inn x u b').cells)]) ∧ LstK (H.upd ⟨3, 1 :: 0 :: k, 33⟩ (some (.cells [.int .i64 0, .int .i64 0, .list .nil []]))) 3 33 7 k tk x'.H ∧ i + j = e.kids.length) e.kids.length ⟨0, .nil, ?_⟩ ?_
      · simp (config := {contextual := true, maxSteps := 5000000}) only [go_sem, false_and, Nat.reduceAdd, Nat.reduceLT, Nat.reduceBEq, Nat.reduceSub, Nat.reduceMul, Nat.reduceLeDiff, Int.reduceToNat, Nat.reduceEqDiff, Nat.reduceMod, ht, hl]
        exact ⟨rfl, ⟨Hp.le_upd (Hp.Le.refl _) (by rw [Hp.upd_ne _ _ (fun h => by cases h)]; exact fN _ _ _ _), .inl rfl⟩, by omega⟩
      · rintro j ⟨t, n, H2⟩ ⟨i, tk, hl, g0, g2, g6, g7, g42, g43, g44, hX, hL, hij⟩
        simp only at hl g0 g2 g6 g7 g42 g43 g44 hX hL
        have fN1 : ∀ (a b : Nat) z ty, a ≠ 1 → (H.upd ⟨3, 1 :: 0 :: k, 33⟩ (some (.cells [.int .i64 0, .int .i64 0, .list .nil []]))) ⟨z, a :: b :: k, ty⟩ = none := fun a b z ty ha => by
          rw [Hp.upd_ne _ _ (fun h => by cases h; exact ha rfl)]
          exact fN _ _ _ _
        have hle : H.Le H2 := fun i y hi => hL.1 i y (by rw [Hp.upd_ne _ _ (fun h => by rw [h, fN] at hi; cases hi)]; exact hi)
        by_cases hi : i < e.kids.length
        · have hd : decide ((i : Int) < (e.kids.length : Int)) = true := by simp [hi]
          have hw : IntKind.i64.wrap ((i : Int) + 1) = ((i + 1 : Nat) : Int) := by rw [wrap_i64] <;> omega
          obtain ⟨y, hy, hye⟩ := E.kid e hi
          have hyy : [[AV.int .i64 (y.inn x u b').kind, .int .i64 (y.inn x u b').id, .list .none ((y.inn x u b').kids.map E.cells)]] = [(y.inn x u b').cells] := by rw [E.cells_eq (y.inn x u b')]
          have hlt : (e.kids.take i).length = i := by rw [List.length_take]; omega
          have hF : ∀ c, LstK (H.upd ⟨3, 1 :: 0 :: k, 33⟩ (some (.cells [.int .i64 0, .int .i64 0, .list .nil []]))) 3 33 7 k tk (H2.upd ⟨3, 2 :: (n + 1) :: k, 33⟩ c) := fun c => hL.frame (fN1 _ _ _ _ (by decide)) (fun m he => by cases he)
          have hP := fun c f => ((hF c).push (fun m => fN1 _ _ _ _ (by decide)) (y := (y.inn x u b').cells) (ys := []) (n + 1 + 1)).frame (X := ⟨3, 5 :: 3 :: k, 33⟩) (e := f) (fN1 _ _ _ _ (by decide)) (fun m he => by cases he)
          simp only [tokBy_cons] at hP
          have hkk : ∀ c, killTok (H2.upd ⟨3, 2 :: (n + 1) :: k, 33⟩ c) tk ⟨3, 5 :: 3 :: k, 33⟩ = some (.cells [.int .i64 e.kind, .int .i64 e.id, .list tk ((e.kids.take i).map fun y => (y.inn x u b').cells)]) := fun c =>
            killTok_keeps (by rw [Hp.upd_ne _ _ (fun he => by cases he)]; exact hX) ((hF c).2.imp id fun ⟨m, h1, h2⟩ => ⟨_, h1, h2⟩)
          have hid : (H2.upd ⟨3, 2 :: (n + 1) :: k, 33⟩ (some (.cells [.int .i64 y.kind, .int .i64 y.id, .list .none (y.kids.map E.cells)]))) tv = some (.cells c) := by
            rw [Hp.upd_ne _ _ (fun he => by rw [he, fN] at hH; cases hH)]
            exact hle _ _ hH
          simp (config := {contextual := true, maxSteps := 5000000}) only [go_sem, false_and, Nat.reduceAdd, Nat.reduceLT, Nat.reduceBEq, Nat.reduceSub, Nat.reduceMul, Nat.reduceLeDiff, Int.reduceToNat, Nat.reduceEqDiff, Nat.reduceMod, hye, toE_at, specS0, g0, g2, g6, g7, g42, g43, g44, hX, hl, hd, hw]
          refine ⟨⟨by omega, by omega⟩, by kernel_rfl, ?_⟩
          refine callK_intro (ih y (by have := E.kid_sz hy; omega) (E.ok_kid hok hy) (E.sh_kid hs hy) w0 _ _ b' hb' ⟨c, hid, hc1, hc2, hc3⟩) ?_
          simp (config := {contextual := true, maxSteps := 5000000}) only [go_sem, false_and, Nat.reduceAdd, Nat.reduceLT, Nat.reduceBEq, Nat.reduceSub, Nat.reduceMul, Nat.reduceLeDiff, Int.reduceToNat, Nat.reduceEqDiff, Nat.reduceMod, hye, toE_at, specS0, g0, g2, g6, g7, g42, g43, g44, hX, hl, hd, hw, strip, tokBy_cons, hkk]
          refine ⟨fun z h => (h.elim (fun h => by rw [h]; rfl) (fun h => h.elim)), fun z h => by (obtain ⟨w, _, rfl⟩ := List.mem_map.1 h; exact E.cells_length _), rfl, by omega, by omega, (hF _).live, by (refine pw_of ?_; (repeat' (first | exact trivial | apply And.intro)); all_goals (first | exact .inr rfl | exact .inr trivial | exact .inl (by kernel_rfl))), j - 1, by omega, i + 1, .tok ⟨3, 7 :: (n + 1 + 1) :: k, 33⟩, rfl, ?_, hP _ _, by omega⟩
          rw [hyy, take_map _ hy]
        · have hd : decide ((i : Int) < (e.kids.length : Int)) = false := by simp; omega
          have e6 : e.kids.take i = e.kids := List.take_of_length_le (by omega)
          rw [e6] at hX
          have hc : (e.kids.map fun y => (y.inn x u b').cells) = (e.kids.map fun y => y.inn x u b').map E.cells := by rw [List.map_map]; rfl
          rw [hc] at hX
          have hR : H2 ⟨3, 1 :: 0 :: k, 33⟩ = some (.cells [.int .i64 0, .int .i64 0, .list .nil []]) := hL.1 _ _ (Hp.upd_same _ _ _)
          simp (config := {contextual := true, maxSteps := 5000000}) only [go_sem, false_and, Nat.reduceAdd, Nat.reduceLT, Nat.reduceBEq, Nat.reduceSub, Nat.reduceMul, Nat.reduceLeDiff, Int.reduceToNat, Nat.reduceEqDiff, Nat.reduceMod, specS0, g0, g2, g6, g7, g42, g43, g44, hX, hl, hd, hR, resOne]
          rw [← E.innL_eq] at *
          exact ⟨WeakL.agg ⟨_, _, rfl, Weak.refl _, _, _, rfl, Weak.refl _, _, _, rfl, list_weak, rfl⟩, by (repeat (first | exact hle | refine Hp.le_upd ?_ (fN _ _ _ _)))⟩
    · obtain ⟨b', hbe, hb'⟩ : ∃ b' : Nat, b ||| bitv e.id = b' ∧ b' < 18446744073709551616 := ⟨_, rfl, or_lt hb (bitv_lt _)⟩
      rw [if_pos rfl, hbe]
      simp (config := {contextual := true, maxSteps := 5000000}) only [go_sem, false_and, Nat.reduceAdd, Nat.reduceLT, Nat.reduceBEq, Nat.reduceSub, Nat.reduceMul, Nat.reduceLeDiff, Int.reduceToNat, Nat.reduceEqDiff, Nat.reduceMod, ht, hl, specS0, hk, hH, hz, hc1, hc2, ha, hne, hq, hbe]
      refine ⟨hb, ?_⟩
      refine loop_inv tabOk specS0_ok mixed [] (fun j x' => ∃ (i : Nat) (tk : Tok), x'.tmps.length = 59 ∧ x'.tmps.getD 0 AV.undef = .ptr tv 0 ∧ x'.tmps.getD 2 AV.undef = .int .u64 (b' : Int) ∧ x'.tmps.getD 6 AV.undef = .ptr ⟨3, 1 :: 0 :: k, 33⟩ 0 ∧ x'.tmps.getD 7 AV.undef = .ptr ⟨3, 5 :: 4 :: k, 33⟩ 0 ∧ x'.tmps.getD 42 AV.undef = .list .none (e.kids.map E.cells) ∧ x'.tmps.getD 43 AV.undef = .int .i64 e.kids.length ∧ x'.tmps.getD 44 AV.undef = .int .i64 i ∧
        x'.H ⟨3, 5 :: 4 :: k, 33⟩ = some (.cells [.int .i64 e.kind, .int .i64 e.id, .list tk ((e.kids.take i).map fun y => (y.inn x u b').cells)]) ∧ LstK (H.upd ⟨3, 1 :: 0 :: k, 33⟩ (some (.cells [.int .i64 0, .int .i64 0, .list .nil []]))) 3 33 7 k tk x'.H ∧ i + j = e.kids.length) e.kids.length ⟨0, .nil, ?_⟩ ?_
      · simp (config := {contextual := true, maxSteps := 5000000}) only [go_sem, false_and, Nat.reduceAdd, Nat.reduceLT, Nat.reduceBEq, Nat.reduceSub, Nat.reduceMul, Nat.reduceLeDiff, Int.reduceToNat, Nat.reduceEqDiff, Nat.reduceMod, ht, hl]
        exact ⟨rfl, ⟨Hp.le_upd (Hp.Le.refl _) (by rw [Hp.upd_ne _ _ (fun h => by cases h)]; exact fN _ _ _ _), .inl rfl⟩, by omega⟩
      · rintro j ⟨t, n, H2⟩ ⟨i, tk, hl, g0, g2, g6, g7, g42, g43, g44, hX, hL, hij⟩
        simp only at hl g0 g2 g6 g7 g42 g43 g44 hX hL
        have fN1 : ∀ (a b : Nat) z ty, a ≠ 1 → (H.upd ⟨3, 1 :: 0 :: k, 33⟩ (some (.cells [.int .i64 0, .int .i64 0, .list .nil []]))) ⟨z, a :: b :: k, ty⟩ = none := fun a b z ty ha => by
          rw [Hp.upd_ne _ _ (fun h => by cases h; exact ha rfl)]
          exact fN _ _ _ _
        have hle : H.Le H2 := fun i y hi => hL.1 i y (by rw [Hp.upd_ne _ _ (fun h => by rw [h, fN] at hi; cases hi)]; exact hi)
        by_cases hi : i < e.kids.length
        · have hd : decide ((i : Int) < (e.kids.length : Int)) = true := by simp [hi]
          have hw : IntKind.i64.wrap ((i : Int) + 1) = ((i + 1 : Nat) : Int) := by rw [wrap_i64] <;> omega
          obtain ⟨y, hy, hye⟩ := E.kid e hi
          have hyy : [[AV.int .i64 (y.inn x u b').kind, .int .i64 (y.inn x u b').id, .list .none ((y.inn x u b').kids.map E.cells)]] = [(y.inn x u b').cells] := by rw [E.cells_eq (y.inn x u b')]
          have hlt : (e.kids.take i).length = i := by rw [List.length_take]; omega
          have hF : ∀ c, LstK (H.upd ⟨3, 1 :: 0 :: k, 33⟩ (some (.cells [.int .i64 0, .int .i64 0, .list .nil []]))) 3 33 7 k tk (H2.upd ⟨3, 2 :: (n + 1) :: k, 33⟩ c) := fun c => hL.frame (fN1 _ _ _ _ (by decide)) (fun m he => by cases he)
          have hP := fun c f => ((hF c).push (fun m => fN1 _ _ _ _ (by decide)) (y := (y.inn x u b').cells) (ys := []) (n + 1 + 1)).frame (X := ⟨3, 5 :: 4 :: k, 33⟩) (e := f) (fN1 _ _ _ _ (by decide)) (fun m he => by cases he)
          simp only [tokBy_cons] at hP
          have hkk : ∀ c, killTok (H2.upd ⟨3, 2 :: (n + 1) :: k, 33⟩ c) tk ⟨3, 5 :: 4 :: k, 33⟩ = some (.cells [.int .i64 e.kind, .int .i64 e.id, .list tk ((e.kids.take i).map fun y => (y.inn x u b').cells)]) := fun c =>
            killTok_keeps (by rw [Hp.upd_ne _ _ (fun he => by cases he)]; exact hX) ((hF c).2.imp id fun ⟨m, h1, h2⟩ => ⟨_, h1, h2⟩)
          have hid : (H2.upd ⟨3, 2 :: (n + 1) :: k, 33⟩ (some (.cells [.int .i64 y.kind, .int .i64 y.id, .list .none (y.kids.map E.cells)]))) tv = some (.cells c) := by
            rw [Hp.upd_ne _ _ (fun he => by rw [he, fN] at hH; cases hH)]
            exact hle _ _ hH
          simp (config := {contextual := true, maxSteps := 5000000}) only [go_sem, false_and, Nat.reduceAdd, Nat.reduceLT, Nat.reduceBEq, Nat.reduceSub, Nat.reduceMul, Nat.reduceLeDiff, Int.reduceToNat, Nat.reduceEqDiff, Nat.reduceMod, hye, toE_at, specS0, g0, g2, g6, g7, g42, g43, g44, hX, hl, hd, hw]
          refine ⟨⟨by omega, by omega⟩, by kernel_rfl, ?_⟩
          refine callK_intro (ih y (by have := E.kid_sz hy; omega) (E.ok_kid hok hy) (E.sh_kid hs hy) w0 _ _ b' hb' ⟨c, hid, hc1, hc2, hc3⟩) ?_
          simp (config := {contextual := true, maxSteps := 5000000}) only [go_sem, false_and, Nat.reduceAdd, Nat.reduceLT, Nat.reduceBEq, Nat.reduceSub, Nat.reduceMul, Nat.reduceLeDiff, Int.reduceToNat, Nat.reduceEqDiff, Nat.reduceMod, hye, toE_at, specS0, g0, g2, g6, g7, g42, g43, g44, hX, hl, hd, hw, strip, tokBy_cons, hkk]
          refine ⟨fun z h => (h.elim (fun h => by rw [h]; rfl) (fun h => h.elim)), fun z h => by (obtain ⟨w, _, rfl⟩ := List.mem_map.1 h; exact E.cells_length _), rfl, by omega, by omega, (hF _).live, by (refine pw_of ?_; (repeat' (first | exact trivial | apply And.intro)); all_goals (first | exact .inr rfl | exact .inr trivial | exact .inl (by kernel_rfl))), j - 1, by omega, i + 1, .tok ⟨3, 7 :: (n + 1 + 1) :: k, 33⟩, rfl, ?_, hP _ _, by omega⟩
          rw [hyy, take_map _ hy]
        · have hd : decide ((i : Int) < (e.kids.length : Int)) = false := by simp; omega
          have e6 : e.kids.take i = e.kids := List.take_of_length_le (by omega)
          rw [e6] at hX
          have hc : (e.kids.map fun y => (y.inn x u b').cells) = (e.kids.map fun y => y.inn x u b').map E.cells := by rw [List.map_map]; rfl
          rw [hc] at hX
          have hR : H2 ⟨3, 1 :: 0 :: k, 33⟩ = some (.cells [.int .i64 0, .int .i64 0, .list .nil []]) := hL.1 _ _ (Hp.upd_same _ _ _)
          simp (config := {contextual := true, maxSteps := 5000000}) only [go_sem, false_and, Nat.reduceAdd, Nat.reduceLT, Nat.reduceBEq, Nat.reduceSub, Nat.reduceMul, Nat.reduceLeDiff, Int.reduceToNat, Nat.reduceEqDiff, Nat.reduceMod, specS0, g0, g2, g6, g7, g42, g43, g44, hX, hl, hd, hR, resOne]
          rw [← E.innL_eq] at *
          exact ⟨WeakL.agg ⟨_, _, rfl, Weak.refl _, _, _, rfl, Weak.refl _, _, _, rfl, list_weak, rfl⟩, by (repeat (first | exact hle | refine Hp.le_upd ?_ (fN _ _ _ _)))⟩
theorem in_ok (tv : Id) (hz : tv.sz = 193) (x : Int) (hx : 0 ≤ x ∧ x ≤ 63) (u : E) : ∀ (N : Nat) (e : E), e.sz < N → e.ok → e.sh = true → ∀ (w0 : Base) (k : List Nat) (H : Hp) (b : Nat), b < 18446744073709551616 → (∃ c, H tv = some (.cells c) ∧ Trm x u c) →
      CallAt Tryz.prog w0 k 154 [.ptr tv 0, e.av, .int .u64 (b : Int)] H H (e.inn x u b).av
  | 0, e, h => by omega
  | N + 1, e, h => fun hok hs w0 k H b hb hc => in_step tv hz x hx u N (in_ok tv hz x hx u N) e h hok hs w0 k H b hb hc
end Go.Proofs.YtkdendaohlnlcaaGreat.Av

/- What the functions of layer 8 answer: the reference's unfolding. No condition. -/
namespace Go.Proofs.YtkdendaohlnlcaaGreat.Av
set_option linter.unusedVariables false
set_option linter.unusedSimpArgs false
set_option maxRecDepth 4000
set_option maxHeartbeats 1000000
variable {w0 : Base} {k : List Nat} {H : Hp}
def specNr : Spec := ((Spec.no.add 49 (sp1 dE (fun _ => True) fun e => (nt e).av)).add 50 (sp2 dE dE (fun _ _ => True) fun a b => (im a b).av)).add 34 (sp2 dI dE (fun _ _ => True) fun n a => (al n a).av)
theorem specNr_ok : SpecOk Tryz.prog w0 specNr := ((Spec.no_ok.add (sp1_ok fun e _ k H => not07_call e)).add (sp2_ok fun a b _ k H => imp07_call a b)).add (sp2_ok fun n a _ k H => all07_call n a)
def specUn (N : Nat) : Spec := specNr.add 30 (sp1 dE (fun e => e.sh = true ∧ e.sz < N) fun e => e.unf.av)
theorem unfolded_step (N : Nat) (hS : SpecOk Tryz.prog w0 (specUn N)) (e : E) (hs : e.sh = true) (hN : e.sz < N + 1) : CallAt Tryz.prog w0 k 30 [e.av] H H e.unf.av := by
  refine callAt tabOk hS mixed Tryz.func30 rfl rfl Tryz.results30 Tryz.ntmps30 (by simp) [] ?_
  intro hfr t hl ht
  simp only [At, Nat.reduceAdd, List.cons_append, List.nil_append] at ht
  have fN : ∀ (a b : Nat) z ty, H ⟨z, a :: b :: k, ty⟩ = none := fun a b z ty => hfr _ (sfx2 _ _ _)
  have h4 := E.loc_len (E.sh_loc hs)
  simp (config := {contextual := true, maxSteps := 5000000}) only [go_sem, false_and, Nat.reduceAdd, Nat.reduceLT, Nat.reduceBEq, Nat.reduceSub, Nat.reduceMul, Nat.reduceLeDiff, Int.reduceToNat, Nat.reduceEqDiff, Nat.reduceMod, ht, hl]
  refine loop_inv tabOk hS mixed [] (fun j x => ∃ (i : Nat) (tk : Tok), x.tmps.length = 67 ∧ x.tmps.getD 1 AV.undef = .sptr [.int .i64 e.kind, .int .i64 e.id, .list .none (e.kids.map E.cells)] ∧ x.tmps.getD 2 AV.undef = .ptr ⟨3, 1 :: 0 :: k, 33⟩ 0 ∧ x.tmps.getD 3 AV.undef = .ptr ⟨3, 5 :: 1 :: k, 33⟩ 0 ∧ x.tmps.getD 13 AV.undef = .list .none (e.kids.map E.cells) ∧ x.tmps.getD 14 AV.undef = .int .i64 e.kids.length ∧ x.tmps.getD 15 AV.undef = .int .i64 i ∧
    x.H ⟨3, 5 :: 1 :: k, 33⟩ = some (.cells [.int .i64 e.kind, .int .i64 e.id, .list tk ((e.kids.take i).map fun x => x.unf.cells)]) ∧ LstK (H.upd ⟨3, 1 :: 0 :: k, 33⟩ (some (.cells [.int .i64 0, .int .i64 0, .list .nil []]))) 3 33 4 k tk x.H ∧ i + j = e.kids.length) e.kids.length ⟨0, .nil, ?_⟩ ?_
  · simp (config := {contextual := true, maxSteps := 5000000}) only [go_sem, false_and, Nat.reduceAdd, Nat.reduceLT, Nat.reduceBEq, Nat.reduceSub, Nat.reduceMul, Nat.reduceLeDiff, Int.reduceToNat, Nat.reduceEqDiff, Nat.reduceMod, ht, hl]
    exact ⟨rfl, ⟨Hp.le_upd (Hp.Le.refl _) (by rw [Hp.upd_ne _ _ (fun h => by cases h)]; exact fN _ _ _ _), .inl rfl⟩, by omega⟩
  · rintro j ⟨t, n, H2⟩ ⟨i, tk, hl, h1, h2, h3, h10, h11, h12, hX, hL, hij⟩
    simp only at hl h1 h2 h3 h10 h11 h12 hX hL
    have fN1 : ∀ (a b : Nat) z ty, a ≠ 1 → (H.upd ⟨3, 1 :: 0 :: k, 33⟩ (some (.cells [.int .i64 0, .int .i64 0, .list .nil []]))) ⟨z, a :: b :: k, ty⟩ = none := fun a b z ty ha => by
      rw [Hp.upd_ne _ _ (fun h => by cases h; exact ha rfl)]
      exact fN _ _ _ _
    have hle : H.Le H2 := fun i y hi => hL.1 i y (by rw [Hp.upd_ne _ _ (fun h => by rw [h, fN] at hi; cases hi)]; exact hi)
    by_cases hi : i < e.kids.length
    · have hd : decide ((i : Int) < (e.kids.length : Int)) = true := by simp [hi]
      have hw : IntKind.i64.wrap ((i : Int) + 1) = ((i + 1 : Nat) : Int) := by rw [wrap_i64] <;> omega
      obtain ⟨x, hx, he⟩ := E.kid e hi
      have hy : [[AV.int .i64 x.unf.kind, .int .i64 x.unf.id, .list .none (x.unf.kids.map E.cells)]] = [x.unf.cells] := by rw [E.cells_eq x.unf]
      have hlt : (e.kids.take i).length = i := by rw [List.length_take]; omega
      have hF : ∀ c d, LstK (H.upd ⟨3, 1 :: 0 :: k, 33⟩ (some (.cells [.int .i64 0, .int .i64 0, .list .nil []]))) 3 33 4 k tk ((H2.upd ⟨3, 2 :: (n + 1) :: k, 33⟩ c).upd ⟨3, 2 :: (n + 1 + 1) :: k, 33⟩ d) := fun c d => (hL.frame (fN1 _ _ _ _ (by decide)) (fun m he => by cases he)).frame (fN1 _ _ _ _ (by decide)) (fun m he => by cases he)
      have hP := fun c d f => ((hF c d).push (fun m => fN1 _ _ _ _ (by decide)) (y := x.unf.cells) (ys := []) (n + 1 + 1 + 1)).frame (X := ⟨3, 5 :: 1 :: k, 33⟩) (e := f) (fN1 _ _ _ _ (by decide)) (fun m he => by cases he)
      simp only [tokBy_cons] at hP
      have hkk : ∀ c d, killTok ((H2.upd ⟨3, 2 :: (n + 1) :: k, 33⟩ c).upd ⟨3, 2 :: (n + 1 + 1) :: k, 33⟩ d) tk ⟨3, 5 :: 1 :: k, 33⟩ = some (.cells [.int .i64 e.kind, .int .i64 e.id, .list tk ((e.kids.take i).map fun x => x.unf.cells)]) := fun c d =>
        killTok_keeps (by rw [Hp.upd_ne _ _ (fun he => by cases he), Hp.upd_ne _ _ (fun he => by cases he)]; exact hX) ((hF c d).2.imp id fun ⟨m, h1, h2⟩ => ⟨_, h1, h2⟩)
      simp (config := {contextual := true, maxSteps := 5000000}) only [go_sem, false_and, Nat.reduceAdd, Nat.reduceLT, Nat.reduceBEq, Nat.reduceSub, Nat.reduceMul, Nat.reduceLeDiff, Int.reduceToNat, Nat.reduceEqDiff, Nat.reduceMod, he, toE_at, specUn, specNr, h1, h2, h3, h10, h11, h12, hX, hl, hd, hw, strip, tokBy_cons, hkk]
      refine ⟨by omega, ⟨E.sh_kid hs hx, by have := E.kid_sz hx; omega⟩, fun y h => (h.elim (fun h => by rw [h]; rfl) (fun h => h.elim)), fun y h => by (obtain ⟨z, _, rfl⟩ := List.mem_map.1 h; exact E.cells_length _), rfl, by omega, by omega, (hF _ _).live, j - 1, by omega, i + 1, .tok ⟨3, 4 :: (n + 1 + 1 + 1) :: k, 33⟩, rfl, ?_, hP _ _ _, by omega⟩
      rw [hy, take_map _ hx]
    · have hd : decide ((i : Int) < (e.kids.length : Int)) = false := by simp; omega
      have e6 : e.kids.take i = e.kids := List.take_of_length_le (by omega)
      rw [e6] at hX
      have hc : (e.kids.map fun x => x.unf.cells) = (e.kids.map E.unf).map E.cells := by rw [List.map_map]; rfl
      rw [hc] at hX
      have hR : H2 ⟨3, 1 :: 0 :: k, 33⟩ = some (.cells [.int .i64 0, .int .i64 0, .list .nil []]) := hL.1 _ _ (Hp.upd_same _ _ _)
      have hu := e.unf_eq
      rcases e.kcase with (h8 | h9 | h10') | ⟨h8, h9, h10'⟩
      · obtain ⟨p, q, hpq⟩ := E.loc_two (E.sh_loc hs) (.inl h8)
        have hu : e.unf = nt (im p.unf (nt q.unf)) := by rw [hu]; simp [shrt, h8, hpq]
        have hus : (e.kids.map E.unf).map E.cells = [[.int .i64 p.unf.kind, .int .i64 p.unf.id, .list .none (p.unf.kids.map E.cells)], [.int .i64 q.unf.kind, .int .i64 q.unf.id, .list .none (q.unf.kids.map E.cells)]] := by simp [hpq, E.cells_eq]
        rw [hus, h8] at hX
        rw [h8] at h1
        simp (config := {contextual := true, maxSteps := 5000000}) only [go_sem, false_and, Nat.reduceAdd, Nat.reduceLT, Nat.reduceBEq, Nat.reduceSub, Nat.reduceMul, Nat.reduceLeDiff, Int.reduceToNat, Nat.reduceEqDiff, Nat.reduceMod, specUn, specNr, h1, h2, h3, h10, h11, h12, hX, hl, hd, hR, Int.reduceBEq]
        rw [hu]
        ((repeat' apply And.intro) <;> first | omega | exact Weak.refl _ | exact List.Pairwise.nil | (refine pw_of ?_; (repeat' (first | exact trivial | apply And.intro)); all_goals (first | exact .inr rfl | exact .inr trivial | exact .inl (by kernel_rfl))) | ((with_reducible (show drawOk _ = true)); kernel_rfl) | (repeat (first | exact hle | refine Hp.le_upd ?_ (fN _ _ _ _))))
      · obtain ⟨p, q, hpq⟩ := E.loc_two (E.sh_loc hs) (.inr h9)
        have hu : e.unf = im (nt p.unf) q.unf := by rw [hu]; simp [shrt, h9, hpq]
        have hus : (e.kids.map E.unf).map E.cells = [[.int .i64 p.unf.kind, .int .i64 p.unf.id, .list .none (p.unf.kids.map E.cells)], [.int .i64 q.unf.kind, .int .i64 q.unf.id, .list .none (q.unf.kids.map E.cells)]] := by simp [hpq, E.cells_eq]
        rw [hus, h9] at hX
        rw [h9] at h1
        simp (config := {contextual := true, maxSteps := 5000000}) only [go_sem, false_and, Nat.reduceAdd, Nat.reduceLT, Nat.reduceBEq, Nat.reduceSub, Nat.reduceMul, Nat.reduceLeDiff, Int.reduceToNat, Nat.reduceEqDiff, Nat.reduceMod, specUn, specNr, h1, h2, h3, h10, h11, h12, hX, hl, hd, hR, Int.reduceBEq]
        rw [hu]
        ((repeat' apply And.intro) <;> first | omega | exact Weak.refl _ | exact List.Pairwise.nil | (refine pw_of ?_; (repeat' (first | exact trivial | apply And.intro)); all_goals (first | exact .inr rfl | exact .inr trivial | exact .inl (by kernel_rfl))) | ((with_reducible (show drawOk _ = true)); kernel_rfl) | (repeat (first | exact hle | refine Hp.le_upd ?_ (fN _ _ _ _))))
      · obtain ⟨p, hpq⟩ := E.loc_one (E.sh_loc hs) h10'
        have hu : e.unf = nt (al e.id (nt p.unf)) := by rw [hu]; simp [shrt, h10', hpq]
        have hus : (e.kids.map E.unf).map E.cells = [[.int .i64 p.unf.kind, .int .i64 p.unf.id, .list .none (p.unf.kids.map E.cells)]] := by simp [hpq, E.cells_eq]
        rw [hus, h10'] at hX
        rw [h10'] at h1
        simp (config := {contextual := true, maxSteps := 5000000}) only [go_sem, false_and, Nat.reduceAdd, Nat.reduceLT, Nat.reduceBEq, Nat.reduceSub, Nat.reduceMul, Nat.reduceLeDiff, Int.reduceToNat, Nat.reduceEqDiff, Nat.reduceMod, specUn, specNr, h1, h2, h3, h10, h11, h12, hX, hl, hd, hR, Int.reduceBEq]
        rw [hu]
        ((repeat' apply And.intro) <;> first | omega | exact Weak.refl _ | exact List.Pairwise.nil | (refine pw_of ?_; (repeat' (first | exact trivial | apply And.intro)); all_goals (first | exact .inr rfl | exact .inr trivial | exact .inl (by kernel_rfl))) | ((with_reducible (show drawOk _ = true)); kernel_rfl) | (repeat (first | exact hle | refine Hp.le_upd ?_ (fN _ _ _ _))))
      · rw [shrt_no h8 h9 h10'] at hu
        simp (config := {contextual := true, maxSteps := 5000000}) only [go_sem, false_and, Nat.reduceAdd, Nat.reduceLT, Nat.reduceBEq, Nat.reduceSub, Nat.reduceMul, Nat.reduceLeDiff, Int.reduceToNat, Nat.reduceEqDiff, Nat.reduceMod, specUn, specNr, h1, h2, h3, h10, h11, h12, hX, h8, h9, h10', hl, hd, hR]
        rw [hu]
        exact ⟨WeakL.agg ⟨_, _, rfl, Weak.refl _, _, _, rfl, Weak.refl _, _, _, rfl, list_weak, rfl⟩, by (repeat (first | exact hle | refine Hp.le_upd ?_ (fN _ _ _ _)))⟩
theorem specUn_ok : ∀ N, SpecOk Tryz.prog w0 (specUn N)
  | 0 => specNr_ok.add (sp1_ok fun e h => by omega)
  | N + 1 => specNr_ok.add (sp1_ok fun e h k H => unfolded_step N (specUn_ok N) e h.1 h.2)
theorem unfolded_call (e : E) (hs : e.sh = true) : CallAt Tryz.prog w0 k 30 [e.av] H H e.unf.av := unfolded_step e.sz (specUn_ok _) e hs (Nat.lt_succ_self _)
end Go.Proofs.YtkdendaohlnlcaaGreat.Av

/- What the functions of layer 8 answer: Plain, of both. No condition. -/
namespace Go.Proofs.YtkdendaohlnlcaaGreat.Av
set_option linter.unusedVariables false
set_option linter.unusedSimpArgs false
set_option maxRecDepth 4000
set_option maxHeartbeats 1000000
variable {w0 : Base} {k : List Nat} {H : Hp}
def rgt (e : E) : E × Int := if e.right = 0 then (e, 0) else (noE, e.right)
def plainE (e : E) : E × Int := if e.right = 0 then rgt e.unf else (noE, e.right)
theorem rgt_call (e : E) (hok : e.ok) : CallAt Tryz.prog w0 k 42 [e.av] H H (.tup [(rgt e).1.av, .int .i64 (rgt e).2]) := by
  refine callAt tabOk specX4_ok mixed Tryz.func42 rfl rfl Tryz.results42 Tryz.ntmps42 (by simp) [] ?_
  intro hfr t hl ht
  simp only [At, Nat.reduceAdd, List.cons_append, List.nil_append] at ht
  have fN : ∀ (a b : Nat) z ty, H ⟨z, a :: b :: k, ty⟩ = none := fun a b z ty => hfr _ (sfx2 _ _ _)
  unfold rgt
  by_cases h0 : e.right = 0
  · rw [if_pos h0]
    have hb : (e.right != 0) = false := by simp [h0]
    simp (config := {contextual := true, maxSteps := 5000000}) only [go_sem, false_and, Nat.reduceAdd, Nat.reduceLT, Nat.reduceBEq, Nat.reduceSub, Nat.reduceMul, Nat.reduceLeDiff, Int.reduceToNat, Nat.reduceEqDiff, Nat.reduceMod, ht, hl, specX4, toE_at, hb]
    exact ⟨hok, by (repeat (first | exact Hp.Le.refl _ | refine Hp.le_upd ?_ (fN _ _ _ _)))⟩
  · rw [if_neg h0]
    have hb : (e.right != 0) = true := by simpa using h0
    simp (config := {contextual := true, maxSteps := 5000000}) only [go_sem, false_and, Nat.reduceAdd, Nat.reduceLT, Nat.reduceBEq, Nat.reduceSub, Nat.reduceMul, Nat.reduceLeDiff, Int.reduceToNat, Nat.reduceEqDiff, Nat.reduceMod, ht, hl, specX4, toE_at, hb]
    exact ⟨hok, tup2_weak noEw_weak, by (repeat (first | exact Hp.Le.refl _ | refine Hp.le_upd ?_ (fN _ _ _ _)))⟩
def specPl : Spec := (Spec.no.add 42 (sp1 dE (fun e => e.ok) fun e => .tup [(rgt e).1.av, .int .i64 (rgt e).2])).add 43 (sp1 dE (fun e => e.sh = true) fun e => e.unf.av)
theorem specPl_ok : SpecOk Tryz.prog w0 specPl := (Spec.no_ok.add (sp1_ok fun e h k H => rgt_call e h)).add (sp1_ok fun e h k H => unfold_call e h)
theorem rgt_snd (e : E) : (rgt e).2 = e.right := by
  unfold rgt
  split
  · rename_i h
    exact h.symm
  · rfl
theorem plainP_call (e : E) (hok : e.ok) : CallAt Tryz.prog w0 k 23 [e.av] H H (.tup [(plainE e).1.av, .int .i64 (plainE e).2]) := by
  refine callAt tabOk specPl_ok mixed Tryz.func23 rfl rfl Tryz.results23 Tryz.ntmps23 (by simp) [] ?_
  intro hfr t hl ht
  simp only [At, Nat.reduceAdd, List.cons_append, List.nil_append] at ht
  have fN : ∀ (a b : Nat) z ty, H ⟨z, a :: b :: k, ty⟩ = none := fun a b z ty => hfr _ (sfx2 _ _ _)
  unfold plainE
  have h2 := rgt_snd e
  by_cases h0 : e.right = 0
  · rw [if_pos h0]
    have hb : ((rgt e).2 != 0) = false := by simp [h2, h0]
    have hs := right_sh h0
    simp (config := {contextual := true, maxSteps := 5000000}) only [go_sem, false_and, Nat.reduceAdd, Nat.reduceLT, Nat.reduceBEq, Nat.reduceSub, Nat.reduceMul, Nat.reduceLeDiff, Int.reduceToNat, Nat.reduceEqDiff, Nat.reduceMod, ht, hl, specPl, toE_at, hb]
    exact ⟨hok, hs, E.unf_ok hs, by (repeat (first | exact Hp.Le.refl _ | refine Hp.le_upd ?_ (fN _ _ _ _)))⟩
  · rw [if_neg h0]
    have hb : ((rgt e).2 != 0) = true := by simpa [h2] using h0
    simp (config := {contextual := true, maxSteps := 5000000}) only [go_sem, false_and, Nat.reduceAdd, Nat.reduceLT, Nat.reduceBEq, Nat.reduceSub, Nat.reduceMul, Nat.reduceLeDiff, Int.reduceToNat, Nat.reduceEqDiff, Nat.reduceMod, ht, hl, specPl, toE_at, hb]
    rw [h2]
    exact ⟨hok, tup2_weak noEw_weak, by (repeat (first | exact Hp.Le.refl _ | refine Hp.le_upd ?_ (fN _ _ _ _)))⟩
end Go.Proofs.YtkdendaohlnlcaaGreat.Av

/- What subst.Put answers. No condition. -/
namespace Go.Proofs.YtkdendaohlnlcaaGreat.Av
set_option linter.unusedVariables false
set_option linter.unusedSimpArgs false
set_option maxRecDepth 4000
set_option maxHeartbeats 1000000
variable {w0 : Base} {k : List Nat} {H : Hp}
def specFr : Spec := Spec.no.add 35 (sp2 dE (dL cI) (fun e p => e.ok ∧ (p.length : Int) ≤ 9223372036854775807) fun e p => .tup [(atR e p).1.av, .int .i64 (atR e p).2])
theorem specFr_ok : SpecOk Tryz.prog w0 specFr := Spec.no_ok.add (sp2_ok fun e p h k H => at_call e p h.1 h.2)
theorem atR_nil (e : E) : atR e [] = rgt e := by
  unfold atR rgt
  split <;> rfl
theorem fresh_call (e : E) (hok : e.ok) : CallAt Tryz.prog w0 k 153 [e.av] H H (.tup [(rgt e).1.av, .int .i64 (rgt e).2]) := by
  refine callAt tabOk specFr_ok mixed Tryz.func153 rfl rfl Tryz.results153 Tryz.ntmps153 (by simp) [] ?_
  intro hfr t hl ht
  simp only [At, Nat.reduceAdd, List.cons_append, List.nil_append] at ht
  have fN : ∀ (a b : Nat) z ty, H ⟨z, a :: b :: k, ty⟩ = none := fun a b z ty => hfr _ (sfx2 _ _ _)
  simp (config := {contextual := true, maxSteps := 5000000}) only [go_sem, false_and, Nat.reduceAdd, Nat.reduceLT, Nat.reduceBEq, Nat.reduceSub, Nat.reduceMul, Nat.reduceLeDiff, Int.reduceToNat, Nat.reduceEqDiff, Nat.reduceMod, ht, hl, specFr, toE_at, atR_nil, resOne]
  exact ⟨⟨hok, by decide⟩, (by (repeat (first | exact Hp.Le.refl _ | refine Hp.le_upd ?_ (fN _ _ _ _))))⟩
/-- A term put in, unless too much would come of it. -/
def bndE (x : Int) (u a : E) : E × Int := if 1000 < (a.put x u).sz then (noE, 20) else rgt (a.put x u)
def specBo : Spec := Spec.no.add 153 (sp1 dE (fun e => e.ok) fun e => .tup [(rgt e).1.av, .int .i64 (rgt e).2])
theorem specBo_ok : SpecOk Tryz.prog w0 specBo := Spec.no_ok.add (sp1_ok fun e h k H => fresh_call e h)
theorem bounded_call (tv : Id) (hz : tv.sz = 193) (x : Int) (hx : 0 ≤ x ∧ x ≤ 63) (u a : E) (hu : u.right = 0) (hut : u.term = true) (ha : a.right = 0) (hc : ∃ c, H tv = some (.cells c) ∧ Trm x u c) :
    CallAt Tryz.prog w0 k 143 [a.av, .ptr tv 0] H H (.tup [(bndE x u a).1.av, .int .i64 (bndE x u a).2]) := by
  refine callAt tabOk specBo_ok mixed Tryz.func143 rfl rfl Tryz.results143 Tryz.ntmps143 (by simp) [] ?_
  intro hfr t hl ht
  simp only [At, Nat.reduceAdd, List.cons_append, List.nil_append] at ht
  have fN : ∀ (a b : Nat) z ty, H ⟨z, a :: b :: k, ty⟩ = none := fun a b z ty => hfr _ (sfx2 _ _ _)
  have has := right_shp ha
  have hus := right_shp hu
  have huz : u.sz ≤ 1000 := by
    unfold E.right at hu
    (repeat' split at hu) <;> omega
  obtain ⟨c, hH, hT⟩ := hc
  have hne : tv ≠ ⟨3, 1 :: 0 :: k, 33⟩ := fun h => by rw [h, fN] at hH; cases hH
  have hid : ∀ y, (H.upd ⟨3, 1 :: 0 :: k, 33⟩ y) tv = some (.cells c) := fun y => by rw [Hp.upd_ne _ _ hne]; exact hH
  have hm := cnt_many hx huz has
  simp (config := {contextual := true, maxSteps := 5000000}) only [go_sem, false_and, Nat.reduceAdd, Nat.reduceLT, Nat.reduceBEq, Nat.reduceSub, Nat.reduceMul, Nat.reduceLeDiff, Int.reduceToNat, Nat.reduceEqDiff, Nat.reduceMod, ht, hl, specBo]
  refine callK_intro (count_ok tv hz x hx u (sh_ok u hus) huz (a.sz + 1) a (Nat.lt_succ_self _) (sh_ok a has) has w0 _ _ 0 0 (by omega) (by omega) ⟨c, hid _, hT⟩) ?_
  by_cases hb : 1000 < E.cnt x u.sz 0 a 0
  · have d : decide ((1000 : Int) < ((E.cnt x u.sz 0 a 0 : Nat) : Int)) = true := by simp; omega
    have hr : bndE x u a = (noE, 20) := by rw [bndE, if_pos (hm.1 hb)]
    rw [hr]
    simp (config := {contextual := true, maxSteps := 5000000}) only [go_sem, false_and, Nat.reduceAdd, Nat.reduceLT, Nat.reduceBEq, Nat.reduceSub, Nat.reduceMul, Nat.reduceLeDiff, Int.reduceToNat, Nat.reduceEqDiff, Nat.reduceMod, ht, hl, specBo, d, resOne]
    exact ⟨tup2_weak noEw_weak, (by (repeat (first | exact Hp.Le.refl _ | refine Hp.le_upd ?_ (fN _ _ _ _))))⟩
  · have d : decide ((1000 : Int) < ((E.cnt x u.sz 0 a 0 : Nat) : Int)) = false := by simp; omega
    have hr : bndE x u a = rgt (a.put x u) := by rw [bndE, if_neg (fun h => hb (hm.2 h))]
    rw [hr]
    have hin : a.inn x u 0 = a.put x u := E.inn_put hx u a 0 (by simp [hasB])
    simp (config := {contextual := true, maxSteps := 5000000}) only [go_sem, false_and, Nat.reduceAdd, Nat.reduceLT, Nat.reduceBEq, Nat.reduceSub, Nat.reduceMul, Nat.reduceLeDiff, Int.reduceToNat, Nat.reduceEqDiff, Nat.reduceMod, ht, hl, specBo, d]
    refine callK_intro (in_ok tv hz x hx u (a.sz + 1) a (Nat.lt_succ_self _) (sh_ok a has) has w0 _ _ 0 (by omega) ⟨c, hid _, hT⟩) ?_
    rw [hin]
    simp (config := {contextual := true, maxSteps := 5000000}) only [go_sem, false_and, Nat.reduceAdd, Nat.reduceLT, Nat.reduceBEq, Nat.reduceSub, Nat.reduceMul, Nat.reduceLeDiff, Int.reduceToNat, Nat.reduceEqDiff, Nat.reduceMod, ht, hl, specBo, d, toE_at, resOne]
    exact ⟨sh_ok _ (put_sh hus hut a has), (by (repeat (first | exact Hp.Le.refl _ | refine Hp.le_upd ?_ (fN _ _ _ _))))⟩
/-- The terms of which none stands for any variable. -/
def zT : List AV := .int .u64 0 :: (List.replicate 64 [AV.int .i64 0, .int .i64 0, .list .nil []]).flatten
@[go_sem high] theorem buildT : buildA tab 138 [] = some (True, .agg zT) := by rfl
theorem zT_len : zT.length = 193 := by rfl
end Go.Proofs.YtkdendaohlnlcaaGreat.Av

/- What subst.Put answers: the rest. No condition. -/
namespace Go.Proofs.YtkdendaohlnlcaaGreat.Av
set_option linter.unusedVariables false
set_option linter.unusedSimpArgs false
set_option maxRecDepth 4000
set_option maxHeartbeats 1000000
variable {w0 : Base} {k : List Nat} {H : Hp}
def askedE (a : E) (x : Int) (u : E) : Int := if 0 ≤ x ∧ x ≤ 63 then (if a.right = 0 then (if u.right = 0 then (if u.term then 0 else 40) else u.right) else a.right) else 1
def specAk : Spec := ((Spec.no.add 21 (sp1 dE (fun e => e.ok) fun e => .int .i64 e.right)).add 22 (sp1 dE (fun e => e.ok) fun e => .bool (e.right == 0 && e.term))).add 140 (sp1 dI (fun _ => True) fun n => .bool (decide (0 ≤ n ∧ n ≤ 63)))
theorem specAk_ok : SpecOk Tryz.prog w0 specAk := ((Spec.no_ok.add (sp1_ok fun e h k H => rightX_call e h)).add (sp1_ok fun e h k H => isTermX_call e h)).add (sp1_ok fun n _ k H => isVarS_call n)
theorem asked_call (a : E) (x : Int) (u : E) (ha : a.ok) (hu : u.ok) : CallAt Tryz.prog w0 k 130 [a.av, .int .i64 x, u.av] H H (.int .i64 (askedE a x u)) := by
  refine callAt tabOk specAk_ok mixed Tryz.func130 rfl rfl Tryz.results130 Tryz.ntmps130 (by simp) [] ?_
  intro hfr t hl ht
  simp only [At, Nat.reduceAdd, List.cons_append, List.nil_append] at ht
  have fN : ∀ (a b : Nat) z ty, H ⟨z, a :: b :: k, ty⟩ = none := fun a b z ty => hfr _ (sfx2 _ _ _)
  unfold askedE
  by_cases hx : 0 ≤ x ∧ x ≤ 63
  · have d : decide (0 ≤ x ∧ x ≤ 63) = true := by simpa using hx
    rw [if_pos hx]
    simp (config := {contextual := true, maxSteps := 5000000}) only [go_sem, false_and, Nat.reduceAdd, Nat.reduceLT, Nat.reduceBEq, Nat.reduceSub, Nat.reduceMul, Nat.reduceLeDiff, Int.reduceToNat, Nat.reduceEqDiff, Nat.reduceMod, ht, hl, specAk, toE_at, d]
    refine loop_inv tabOk specAk_ok mixed [] (fun j x' => ∃ i : Nat, x'.tmps.length = 30 ∧ x'.tmps.getD 5 AV.undef = .sptr [.int .i64 u.kind, .int .i64 u.id, .list .none (u.kids.map E.cells)] ∧ x'.tmps.getD 15 AV.undef = .list .full [[.int .i64 a.kind, .int .i64 a.id, .list .none (a.kids.map E.cells)], [.int .i64 u.kind, .int .i64 u.id, .list .none (u.kids.map E.cells)]] ∧
      x'.tmps.getD 16 AV.undef = .int .i64 2 ∧ x'.tmps.getD 17 AV.undef = .int .i64 i ∧ H.Le x'.H ∧ i + j = 2 ∧ (0 < i → a.right = 0) ∧ (1 < i → u.right = 0)) 2 ⟨0, ?_⟩ ?_
    · simp (config := {contextual := true, maxSteps := 5000000}) only [go_sem, false_and, Nat.reduceAdd, Nat.reduceLT, Nat.reduceBEq, Nat.reduceSub, Nat.reduceMul, Nat.reduceLeDiff, Int.reduceToNat, Nat.reduceEqDiff, Nat.reduceMod, ht, hl, strip]
      simp [Hp.Le.refl]
    · rintro j ⟨t, m, H'⟩ ⟨i, hl, g5, g18, g19, g20, hH, hij, hc1, hc2⟩
      simp only at hl g5 g18 g19 g20 hH
      have hc : i = 0 ∨ i = 1 ∨ i = 2 := by omega
      rcases hc with rfl | rfl | rfl
      · have g20' : t.getD 17 AV.undef = .int .i64 0 := g20
        have d1 : decide ((0 : Int) < 2) = true := rfl
        have w1 : IntKind.i64.wrap ((0 : Int) + 1) = 1 := rfl
        by_cases h0 : a.right = 0
        · have hb : (a.right != 0) = false := by simp [h0]
          simp (config := {contextual := true, maxSteps := 5000000}) only [go_sem, false_and, Nat.reduceAdd, Nat.reduceLT, Nat.reduceBEq, Nat.reduceSub, Nat.reduceMul, Nat.reduceLeDiff, Int.reduceToNat, Nat.reduceEqDiff, Nat.reduceMod, hl, g5, g18, g19, g20', specAk, toE_at, d1, w1, hb]
          refine ⟨by decide, ha, j - 1, by omega, 1, rfl, (by (repeat (first | exact hH | exact Hp.Le.refl _ | refine Hp.le_upd ?_ (fN _ _ _ _)))), by omega, fun _ => h0, by omega⟩
        · have hb : (a.right != 0) = true := by simpa using h0
          rw [if_neg h0]
          simp (config := {contextual := true, maxSteps := 5000000}) only [go_sem, false_and, Nat.reduceAdd, Nat.reduceLT, Nat.reduceBEq, Nat.reduceSub, Nat.reduceMul, Nat.reduceLeDiff, Int.reduceToNat, Nat.reduceEqDiff, Nat.reduceMod, hl, g5, g18, g19, g20', specAk, toE_at, d1, w1, hb]
          exact ⟨by decide, ha, (by (repeat (first | exact hH | exact Hp.Le.refl _ | refine Hp.le_upd ?_ (fN _ _ _ _))))⟩
      · have g20' : t.getD 17 AV.undef = .int .i64 1 := g20
        have d1 : decide ((1 : Int) < 2) = true := rfl
        have w1 : IntKind.i64.wrap ((1 : Int) + 1) = 2 := rfl
        have hu0 := hc1 (by omega)
        rw [if_pos hu0]
        by_cases h0 : u.right = 0
        · have hb : (u.right != 0) = false := by simp [h0]
          simp (config := {contextual := true, maxSteps := 5000000}) only [go_sem, false_and, Nat.reduceAdd, Nat.reduceLT, Nat.reduceBEq, Nat.reduceSub, Nat.reduceMul, Nat.reduceLeDiff, Int.reduceToNat, Nat.reduceEqDiff, Nat.reduceMod, hl, g5, g18, g19, g20', specAk, toE_at, d1, w1, hb]
          refine ⟨by decide, hu, j - 1, by omega, 2, rfl, (by (repeat (first | exact hH | exact Hp.Le.refl _ | refine Hp.le_upd ?_ (fN _ _ _ _)))), by omega, fun _ => hu0, fun _ => h0⟩
        · have hb : (u.right != 0) = true := by simpa using h0
          rw [if_neg h0]
          simp (config := {contextual := true, maxSteps := 5000000}) only [go_sem, false_and, Nat.reduceAdd, Nat.reduceLT, Nat.reduceBEq, Nat.reduceSub, Nat.reduceMul, Nat.reduceLeDiff, Int.reduceToNat, Nat.reduceEqDiff, Nat.reduceMod, hl, g5, g18, g19, g20', specAk, toE_at, d1, w1, hb]
          exact ⟨by decide, hu, (by (repeat (first | exact hH | exact Hp.Le.refl _ | refine Hp.le_upd ?_ (fN _ _ _ _))))⟩
      · have g20' : t.getD 17 AV.undef = .int .i64 2 := g20
        have d1 : decide ((2 : Int) < 2) = false := rfl
        have ha0 := hc1 (by omega)
        have hu0 := hc2 (by omega)
        rw [if_pos ha0, if_pos hu0]
        have hrb : (u.right == 0) = true := by simp [hu0]
        cases htm : u.term
        · simp (config := {contextual := true, maxSteps := 5000000}) only [go_sem, false_and, Nat.reduceAdd, Nat.reduceLT, Nat.reduceBEq, Nat.reduceSub, Nat.reduceMul, Nat.reduceLeDiff, Int.reduceToNat, Nat.reduceEqDiff, Nat.reduceMod, hl, g5, g18, g19, g20', specAk, toE_at, d1, hrb, htm]
          exact ⟨hu, hH⟩
        · simp (config := {contextual := true, maxSteps := 5000000}) only [go_sem, false_and, Nat.reduceAdd, Nat.reduceLT, Nat.reduceBEq, Nat.reduceSub, Nat.reduceMul, Nat.reduceLeDiff, Int.reduceToNat, Nat.reduceEqDiff, Nat.reduceMod, hl, g5, g18, g19, g20', specAk, toE_at, d1, hrb, htm]
          exact ⟨hu, hH⟩
  · have d : decide (0 ≤ x ∧ x ≤ 63) = false := by simpa using hx
    rw [if_neg hx]
    simp (config := {contextual := true, maxSteps := 5000000}) only [go_sem, false_and, Nat.reduceAdd, Nat.reduceLT, Nat.reduceBEq, Nat.reduceSub, Nat.reduceMul, Nat.reduceLeDiff, Int.reduceToNat, Nat.reduceEqDiff, Nat.reduceMod, ht, hl, specAk, toE_at, d]
def specWi : Spec := Spec.no.add 151 (sp2 dW dI (fun s _ => s < 18446744073709551616) fun s n => .int .u64 ((s ||| bitv n : Nat) : Int))
theorem specWi_ok : SpecOk Tryz.prog w0 specWi := Spec.no_ok.add (sp2_ok fun s n h k H => with_call s n h)
theorem tput_call (tv : Id) (hz : tv.sz = 193) (x : Int) (hx : 0 ≤ x ∧ x ≤ 63) (u : E) (c : List AV) (hH : H tv = some (.cells c)) (hc : c.length = 193) (h0 : c.getD 0 AV.undef = .int .u64 0) :
    CallAt Tryz.prog w0 k 142 [.ptr tv 0, .int .i64 x, u.av] H (H.upd tv (some (.cells (layAt (c.set 0 (.int .u64 ((bitv x : Nat) : Int))) (1 + x.toNat * 3) u.cells)))) (.tup []) := by
  refine callAt tabOk specWi_ok mixed Tryz.func142 rfl rfl Tryz.results142 Tryz.ntmps142 (by simp) [] ?_
  intro hfr t hl ht
  simp only [At, Nat.reduceAdd, List.cons_append, List.nil_append] at ht
  have e0 : (0 ||| bitv x) = bitv x := Nat.zero_or _
  rw [E.cells_eq]
  simp (config := {contextual := true, maxSteps := 5000000}) only [go_sem, false_and, Nat.reduceAdd, Nat.reduceLT, Nat.reduceBEq, Nat.reduceSub, Nat.reduceMul, Nat.reduceLeDiff, Int.reduceToNat, Nat.reduceEqDiff, Nat.reduceMod, ht, hl, specWi, hH, hz, hc, h0, e0, Nat.zero_add]
  exact ⟨by kernel_rfl, ⟨by omega, by omega⟩, by omega, by (refine pw_of ?_; (repeat' (first | exact trivial | apply And.intro)); all_goals (first | exact .inr rfl | exact .inr trivial | exact .inl (by kernel_rfl)))⟩
theorem tput_trm (x : Int) (hx : 0 ≤ x ∧ x ≤ 63) (u : E) (c : List AV) (hc : c.length = 193) : Trm x u (layAt (c.set 0 (.int .u64 ((bitv x : Nat) : Int))) (1 + x.toNat * 3) u.cells) := by
  have hl : (c.set 0 (.int .u64 ((bitv x : Nat) : Int))).length = 193 := by rw [List.length_set, hc]
  have h3 := u.cells_length
  refine ⟨by rw [layAt_length, hl], ?_, ?_⟩
  · rw [layAt_eq _ _ _ (by omega), List.append_assoc, List.getD_eq_getElem?_getD, List.getElem?_append_left (by rw [List.length_take]; omega), List.getElem?_take_of_lt (by omega), List.getElem?_set_self (by omega)]
    rfl
  · rw [layAt_eq _ _ _ (by omega), List.append_assoc, List.drop_append_of_le_length (by rw [List.length_take]; omega), List.drop_of_length_le (by rw [List.length_take]; omega), List.nil_append, List.take_append_of_le_length (by omega), List.take_of_length_le (by omega)]
/-- A variable and what stands for it, in a row. -/
def pairA (x : Int) (u : E) : List AV := [.int .i64 x, .int .i64 u.kind, .int .i64 u.id, .list .none (u.kids.map E.cells)]
def putE (x : Int) (u a : E) : E × Int := if freeForE u x a = true then bndE x u a else (noE, 50)
def specPt : Spec := Spec.no.add 141 (sp3 dE dI dE (fun u _ a => u.ok ∧ a.ok) fun u x a => .tup [.bool (freeForE u x a), .int .i64 (caughtE u x a).2])
theorem specPt_ok : SpecOk Tryz.prog w0 specPt := Spec.no_ok.add (sp3_ok fun u x a h k H => freeFor_call u x a h.1 h.2)
theorem put_call (a : E) (x : Int) (u : E) (hx : 0 ≤ x ∧ x ≤ 63) (hu : u.right = 0) (hut : u.term = true) (ha : a.right = 0) : CallAt Tryz.prog w0 k 131 [a.av, .list .none [pairA x u]] H H (.tup [(putE x u a).1.av, .int .i64 (putE x u a).2]) := by
  refine callAt tabOk specPt_ok mixed Tryz.func131 rfl rfl Tryz.results131 Tryz.ntmps131 (by simp) [33] ?_
  intro hfr t hl ht
  simp only [At, Nat.reduceAdd, List.cons_append, List.nil_append] at ht
  have fN : ∀ (a b : Nat) z ty, H ⟨z, a :: b :: k, ty⟩ = none := fun a b z ty => hfr _ (sfx2 _ _ _)
  have has := right_shp ha
  have hus := right_shp hu
  have huo := sh_ok u hus
  have hao := sh_ok a has
  unfold putE
  simp only [pairA] at ht
  simp (config := {contextual := true, maxSteps := 5000000}) only [go_sem, false_and, Nat.reduceAdd, Nat.reduceLT, Nat.reduceBEq, Nat.reduceSub, Nat.reduceMul, Nat.reduceLeDiff, Int.reduceToNat, Nat.reduceEqDiff, Nat.reduceMod, ht, hl]
  refine loop_inv tabOk specPt_ok mixed [33] (fun j x' => ∃ i : Nat, x'.tmps.length = 52 ∧ x'.tmps.getD 1 AV.undef = .list .none [[.int .i64 x, .int .i64 u.kind, .int .i64 u.id, .list .none (u.kids.map E.cells)]] ∧ x'.tmps.getD 2 AV.undef = .sptr [.int .i64 a.kind, .int .i64 a.id, .list .none (a.kids.map E.cells)] ∧ x'.tmps.getD 4 AV.undef = .ptr ⟨3, 1 :: 0 :: k, 33⟩ 0 ∧ x'.tmps.getD 13 AV.undef = .list .none [[.int .i64 x, .int .i64 u.kind, .int .i64 u.id, .list .none (u.kids.map E.cells)]] ∧ x'.tmps.getD 14 AV.undef = .int .i64 1 ∧ x'.tmps.getD 15 AV.undef = .int .i64 i ∧
    (H.upd ⟨3, 1 :: 0 :: k, 33⟩ (some (.cells [.int .i64 0, .int .i64 0, .list .nil []]))).Le x'.H ∧ i + j = 1 ∧ (0 < i → freeForE u x a = true)) 1 ⟨0, ?_⟩ ?_
  · simp (config := {contextual := true, maxSteps := 5000000}) only [go_sem, false_and, Nat.reduceAdd, Nat.reduceLT, Nat.reduceBEq, Nat.reduceSub, Nat.reduceMul, Nat.reduceLeDiff, Int.reduceToNat, Nat.reduceEqDiff, Nat.reduceMod, ht, hl]
    simp [Hp.Le.refl]
  · rintro j ⟨t, m, H'⟩ ⟨i, hl, g1, g2, g4, g13, g14, g15, hH, hij, hc1⟩
    simp only at hl g1 g2 g4 g13 g14 g15 hH
    have hle : H.Le H' := fun i y hi => hH i y (by rw [Hp.upd_ne _ _ (fun h => by rw [h, fN] at hi; cases hi)]; exact hi)
    have hc : i = 0 ∨ i = 1 := by omega
    rcases hc with rfl | rfl
    · have g20' : t.getD 15 AV.undef = .int .i64 0 := g15
      have d1 : decide ((0 : Int) < 1) = true := rfl
      have w1 : IntKind.i64.wrap ((0 : Int) + 1) = 1 := rfl
      cases hf : freeForE u x a
      · simp (config := {contextual := true, maxSteps := 5000000}) only [go_sem, false_and, Nat.reduceAdd, Nat.reduceLT, Nat.reduceBEq, Nat.reduceSub, Nat.reduceMul, Nat.reduceLeDiff, Int.reduceToNat, Nat.reduceEqDiff, Nat.reduceMod, hl, g1, g2, g4, g13, g14, g20', specPt, toE_at, d1, w1, hf, resOne]
        exact ⟨by decide, ⟨huo, hao⟩, tup2_weak noEw_weak, by (repeat (first | exact hle | refine Hp.le_upd ?_ (fN _ _ _ _)))⟩
      · simp (config := {contextual := true, maxSteps := 5000000}) only [go_sem, false_and, Nat.reduceAdd, Nat.reduceLT, Nat.reduceBEq, Nat.reduceSub, Nat.reduceMul, Nat.reduceLeDiff, Int.reduceToNat, Nat.reduceEqDiff, Nat.reduceMod, hl, g1, g2, g4, g13, g14, g20', specPt, toE_at, d1, w1, hf]
        refine ⟨by decide, ⟨huo, hao⟩, j - 1, by omega, 1, rfl, ?_, by omega⟩
        exact Hp.le_upd hH (by rw [Hp.upd_ne _ _ (fun h => by cases h)]; exact fN _ _ _ _)
    · have g20' : t.getD 15 AV.undef = .int .i64 1 := g15
      have d1 : decide ((1 : Int) < 1) = false := rfl
      have hf := hc1 (by omega)
      rw [hf, if_pos rfl]
      simp (config := {contextual := true, maxSteps := 5000000}) only [go_sem, false_and, Nat.reduceAdd, Nat.reduceLT, Nat.reduceBEq, Nat.reduceSub, Nat.reduceMul, Nat.reduceLeDiff, Int.reduceToNat, Nat.reduceEqDiff, Nat.reduceMod, hl, g1, g2, g4, g13, g14, g20', specPt, toE_at, d1, zT_len]
      refine loop_inv tabOk specPt_ok mixed [33] (fun j x' => ∃ i : Nat, x'.tmps.length = 52 ∧ x'.tmps.getD 2 AV.undef = .sptr [.int .i64 a.kind, .int .i64 a.id, .list .none (a.kids.map E.cells)] ∧ x'.tmps.getD 4 AV.undef = .ptr ⟨3, 1 :: 0 :: k, 33⟩ 0 ∧ x'.tmps.getD 10 AV.undef = .ptr ⟨193, 1 :: (m + 1) :: k, 138⟩ 0 ∧ x'.tmps.getD 34 AV.undef = .list .none [[.int .i64 x, .int .i64 u.kind, .int .i64 u.id, .list .none (u.kids.map E.cells)]] ∧ x'.tmps.getD 35 AV.undef = .int .i64 1 ∧ x'.tmps.getD 36 AV.undef = .int .i64 i ∧
        H.Le x'.H ∧ i + j = 1 ∧ (i = 0 → x'.H ⟨193, 1 :: (m + 1) :: k, 138⟩ = some (.cells zT)) ∧ (0 < i → ∃ c, x'.H ⟨193, 1 :: (m + 1) :: k, 138⟩ = some (.cells c) ∧ Trm x u c)) 1 ⟨0, ?_⟩ ?_
      · simp (config := {contextual := true, maxSteps := 5000000}) only [go_sem, false_and, Nat.reduceAdd, Nat.reduceLT, Nat.reduceBEq, Nat.reduceSub, Nat.reduceMul, Nat.reduceLeDiff, Int.reduceToNat, Nat.reduceEqDiff, Nat.reduceMod, hl, g1, g2, g4, g13, g14, g20']
        (repeat' apply And.intro) <;> first | rfl | exact Hp.le_upd hle (fN _ _ _ _) | omega
      · rintro j2 ⟨t, m2, H2⟩ ⟨i, hl, g2, g4, g10, g34, g35, g36, hH2, hij, hz0, hz1⟩
        simp only at hl g2 g4 g10 g34 g35 g36 hH2 hz0 hz1
        have hc : i = 0 ∨ i = 1 := by omega
        rcases hc with rfl | rfl
        · have g20' : t.getD 36 AV.undef = .int .i64 0 := g36
          have d1 : decide ((0 : Int) < 1) = true := rfl
          have w1 : IntKind.i64.wrap ((0 : Int) + 1) = 1 := rfl
          have hz := hz0 rfl
          simp (config := {contextual := true, maxSteps := 5000000}) only [go_sem, false_and, Nat.reduceAdd, Nat.reduceLT, Nat.reduceBEq, Nat.reduceSub, Nat.reduceMul, Nat.reduceLeDiff, Int.reduceToNat, Nat.reduceEqDiff, Nat.reduceMod, hl, g2, g4, g10, g34, g35, g20', d1, w1, specPt]
          refine ⟨by decide, ?_⟩
          refine callK_intro (tput_call _ rfl x hx u zT (by rw [Hp.upd_ne _ _ (fun h => by cases h)]; exact hz) zT_len rfl) ?_
          simp (config := {contextual := true, maxSteps := 5000000}) only [go_sem, false_and, Nat.reduceAdd, Nat.reduceLT, Nat.reduceBEq, Nat.reduceSub, Nat.reduceMul, Nat.reduceLeDiff, Int.reduceToNat, Nat.reduceEqDiff, Nat.reduceMod, hl, g2, g4, g10, g34, g35, g20', d1, w1, specPt]
          exact ⟨j2 - 1, by omega, 1, rfl, (by (repeat (first | exact hH2 | refine Hp.le_upd ?_ (fN _ _ _ _)))), by omega, by omega, fun _ => ⟨_, rfl, tput_trm x hx u zT zT_len⟩⟩
        · have g20' : t.getD 36 AV.undef = .int .i64 1 := g36
          have d1 : decide ((1 : Int) < 1) = false := rfl
          obtain ⟨c, hc, hT⟩ := hz1 (by omega)
          simp (config := {contextual := true, maxSteps := 5000000}) only [go_sem, false_and, Nat.reduceAdd, Nat.reduceLT, Nat.reduceBEq, Nat.reduceSub, Nat.reduceMul, Nat.reduceLeDiff, Int.reduceToNat, Nat.reduceEqDiff, Nat.reduceMod, hl, g2, g4, g10, g34, g35, g20', d1, specPt]
          refine callK_intro (bounded_call _ rfl x hx u a hu hut ha ⟨c, hc, hT⟩) ?_
          simp (config := {contextual := true, maxSteps := 5000000}) only [go_sem, false_and, Nat.reduceAdd, Nat.reduceLT, Nat.reduceBEq, Nat.reduceSub, Nat.reduceMul, Nat.reduceLeDiff, Int.reduceToNat, Nat.reduceEqDiff, Nat.reduceMod, hl, g2, g4, g10, g34, g35, g20', d1, specPt, resOne]
          exact Hp.le_upd hH2 (fN _ _ _ _)
/-- What Put answers. -/
def putR (a : E) (x : Int) (u : E) : E × Int := if askedE a x u = 0 then putE x u a else (noE, askedE a x u)
def specPu2 : Spec := Spec.no.add 130 (sp3 dE dI dE (fun a _ u => a.ok ∧ u.ok) fun a x u => .int .i64 (askedE a x u))
theorem specPu2_ok : SpecOk Tryz.prog w0 specPu2 := Spec.no_ok.add (sp3_ok fun a x u h k H => asked_call a x u h.1 h.2)
theorem asked_zero {a : E} {x : Int} {u : E} (h : askedE a x u = 0) : (0 ≤ x ∧ x ≤ 63) ∧ a.right = 0 ∧ u.right = 0 ∧ u.term = true := by
  unfold askedE at h
  (repeat' split at h) <;> simp_all
theorem putS_call (a : E) (x : Int) (u : E) (ha : a.ok) (hu : u.ok) : CallAt Tryz.prog w0 k 114 [a.av, .int .i64 x, u.av] H H (.tup [(putR a x u).1.av, .int .i64 (putR a x u).2]) := by
  refine callAt tabOk specPu2_ok mixed Tryz.func114 rfl rfl Tryz.results114 Tryz.ntmps114 (by simp) [] ?_
  intro hfr t hl ht
  simp only [At, Nat.reduceAdd, List.cons_append, List.nil_append] at ht
  have fN : ∀ (a b : Nat) z ty, H ⟨z, a :: b :: k, ty⟩ = none := fun a b z ty => hfr _ (sfx2 _ _ _)
  unfold putR
  by_cases h0 : askedE a x u = 0
  · have hb : (askedE a x u != 0) = false := by simp [h0]
    obtain ⟨hx, ha0, hu0, hut⟩ := asked_zero h0
    rw [if_pos h0]
    simp (config := {contextual := true, maxSteps := 5000000}) only [go_sem, false_and, Nat.reduceAdd, Nat.reduceLT, Nat.reduceBEq, Nat.reduceSub, Nat.reduceMul, Nat.reduceLeDiff, Int.reduceToNat, Nat.reduceEqDiff, Nat.reduceMod, ht, hl, specPu2, toE_at, hb, strip]
    refine ⟨⟨ha, hu⟩, ?_⟩
    refine callK_intro ((put_call a x u hx hu0 hut ha0).weakL ⟨_, _, rfl, Weak.refl _, _, _, rfl, list_weak, rfl⟩) ?_
    simp (config := {contextual := true, maxSteps := 5000000}) only [go_sem, false_and, Nat.reduceAdd, Nat.reduceLT, Nat.reduceBEq, Nat.reduceSub, Nat.reduceMul, Nat.reduceLeDiff, Int.reduceToNat, Nat.reduceEqDiff, Nat.reduceMod, ht, hl, specPu2, toE_at, hb, resOne]
    exact (by (repeat (first | exact Hp.Le.refl _ | refine Hp.le_upd ?_ (fN _ _ _ _))))
  · have hb : (askedE a x u != 0) = true := by simpa using h0
    rw [if_neg h0]
    simp (config := {contextual := true, maxSteps := 5000000}) only [go_sem, false_and, Nat.reduceAdd, Nat.reduceLT, Nat.reduceBEq, Nat.reduceSub, Nat.reduceMul, Nat.reduceLeDiff, Int.reduceToNat, Nat.reduceEqDiff, Nat.reduceMod, ht, hl, specPu2, toE_at, hb, resOne]
    exact ⟨⟨ha, hu⟩, tup2_weak noEw_weak, (by (repeat (first | exact Hp.Le.refl _ | refine Hp.le_upd ?_ (fN _ _ _ _))))⟩
end Go.Proofs.YtkdendaohlnlcaaGreat.Av

/- The program's schemas: swap, swapped. No condition. -/
namespace Go.Proofs.YtkdendaohlnlcaaGreat.Av
set_option linter.unusedVariables false
set_option linter.unusedSimpArgs false
set_option maxRecDepth 4000
set_option maxHeartbeats 1000000
variable {w0 : Base} {k : List Nat} {H : Hp}
theorem right_eq {e : E} : e.right = 0 ↔ e.sz ≤ 1000 ∧ e.dp ≤ 100 ∧ e.sh = true := by
  unfold E.right
  split
  · constructor <;> intro h <;> omega
  · split
    · constructor <;> intro h <;> omega
    · split
      · rename_i h
        simp [h]
        omega
      · rename_i h
        simp [h]
theorem right_kid {e x : E} {i : Nat} (h : e.right = 0) (hx : e.kids[i]? = some x) : x.right = 0 := by
  obtain ⟨h1, h2, h3⟩ := right_eq.1 h
  have hz := E.kid_sz hx
  have ht := E.dpL_take e.kids i x hx
  have hl := E.dpL_le e.kids (i + 1)
  have he := E.dp_eq e
  exact right_eq.2 ⟨by omega, by omega, E.sh_kid h3 hx⟩
theorem and_shr {s : Nat} {n : Int} (hs : s < 18446744073709551616) (h : 0 ≤ n ∧ n ≤ 63) : (andI .u64 (shrI .u64 (s : Int) n) 1 == 0) = !hasB s n := by
  have e1 : shrI .u64 (s : Int) n = ((s >>> n.toNat : Nat) : Int) := by
    unfold shrI
    have e : min n.toNat (IntKind.u64.bits) = n.toNat := by
      show min n.toNat 64 = _
      omega
    rw [e, Nat.shiftRight_eq_div_pow, Int.fdiv_eq_ediv_of_nonneg _ (Int.le_of_lt (Int.pow_pos (by decide)))]
    simp
  have hlt : s >>> n.toNat < 18446744073709551616 := by
    rw [Nat.shiftRight_eq_div_pow]
    exact Nat.lt_of_le_of_lt (Nat.div_le_self _ _) hs
  have e2 := u64_and hlt (show 1 < 18446744073709551616 by decide)
  rw [e1]
  rw [show (1 : Int) = ((1 : Nat) : Int) from rfl, e2, hasB_bit s h, Nat.testBit]
  rw [Nat.and_comm 1]
  cases hc : (s >>> n.toNat &&& 1) with
  | zero => simp
  | succ m =>
    simp
    omega
theorem quant_id {e : E} (hs : e.sh = true) (hq : isQ e.kind = true) : 0 ≤ e.id ∧ e.id ≤ 63 := by
  have hloc := E.sh_loc hs
  unfold E.loc E.want at hloc
  simp only [isQ, Bool.or_eq_true, beq_iff_eq] at hq
  rcases hq with hq | hq <;> simp [hq] at hloc <;> omega
def specSwP : Spec := Spec.no.add 24 (sp2 dE dE (fun a b => a.ok ∧ b.ok) fun a b => .bool (sameE a b))
theorem specSwP_ok : SpecOk Tryz.prog w0 specSwP := Spec.no_ok.add (sp2_ok fun a b h k H => same_call a b h.1 h.2)
theorem swapP_step (u v : E) (hu : u.right = 0) (hv : v.right = 0) (N : Nat) (ih : ∀ (a : E), a.sz < N → a.right = 0 → ∀ (w0 : Base) (k : List Nat) (H : Hp) (b : E), b.right = 0 → ∀ (own : Nat) (may : Bool), own < 18446744073709551616 → CallAt Tryz.prog w0 k 121 [a.av, b.av, u.av, v.av, .int .u64 (own : Int), .bool may] H H (.bool (a.swp u v own b may)))
    (a : E) (hN : a.sz < N + 1) (har : a.right = 0) (w0 : Base) (k : List Nat) (H : Hp) (b : E) (hbr : b.right = 0) (own : Nat) (may : Bool) (ho : own < 18446744073709551616) : CallAt Tryz.prog w0 k 121 [a.av, b.av, u.av, v.av, .int .u64 (own : Int), .bool may] H H (.bool (a.swp u v own b may)) := by
  refine callAt tabOk specSwP_ok mixed Tryz.func121 rfl rfl Tryz.results121 Tryz.ntmps121 (by simp) [] ?_
  intro hfr t hl ht
  simp only [At, Nat.reduceAdd, List.cons_append, List.nil_append] at ht
  have fN : ∀ (a b : Nat) z ty, H ⟨z, a :: b :: k, ty⟩ = none := fun a b z ty => hfr _ (sfx2 _ _ _)
  have hash := right_sh' har
  have hok := sh_ok a hash
  have hbo := sh_ok b (right_sh' hbr)
  have huo := sh_ok u (right_sh' hu)
  have hvo := sh_ok v (right_sh' hv)
  have hlen := E.ok_len hok
  have hsw := E.swp_eq u v own a b may
  have sa := sameE_right har hu
  have sb := sameE_right hbr hv
  by_cases hyes : may = true ∧ a.like u = true ∧ b.like v = true
  · obtain ⟨h0, h1, h2⟩ := hyes
    have hz : a.swp u v own b may = true := by rw [hsw, h0, h1, h2]; rfl
    rw [hz]
    simp (config := {contextual := true, maxSteps := 5000000}) only [go_sem, false_and, Nat.reduceAdd, Nat.reduceLT, Nat.reduceBEq, Nat.reduceSub, Nat.reduceMul, Nat.reduceLeDiff, Int.reduceToNat, Nat.reduceEqDiff, Nat.reduceMod, ht, hl, specSwP, toE_at, h0, h1, h2, sa, sb]
    exact ⟨⟨hok, huo⟩, ⟨hbo, hvo⟩⟩
  have h1 : may = false ∨ may = true ∧ a.like u = false ∨ may = true ∧ a.like u = true ∧ b.like v = false := by
    cases may <;> cases h : a.like u <;> cases g : b.like v <;> simp_all
  have hc0 : (may && (a.like u && b.like v)) = false := by
    rcases h1 with h1 | h1 | h1 <;> simp [h1]
  rw [hc0, Bool.false_or] at hsw
  by_cases hk : a.kind = b.kind
  rotate_left
  · have hk1 : (a.kind != b.kind) = true := by simpa using hk
    have hz : a.swp u v own b may = false := by rw [hsw]; simp [hk]
    rw [hz]
    rcases h1 with h1 | h1 | h1
    · simp (config := {contextual := true, maxSteps := 5000000}) only [go_sem, false_and, Nat.reduceAdd, Nat.reduceLT, Nat.reduceBEq, Nat.reduceSub, Nat.reduceMul, Nat.reduceLeDiff, Int.reduceToNat, Nat.reduceEqDiff, Nat.reduceMod, ht, hl, specSwP, toE_at, h1, sa, sb, hk1]
    · simp (config := {contextual := true, maxSteps := 5000000}) only [go_sem, false_and, Nat.reduceAdd, Nat.reduceLT, Nat.reduceBEq, Nat.reduceSub, Nat.reduceMul, Nat.reduceLeDiff, Int.reduceToNat, Nat.reduceEqDiff, Nat.reduceMod, ht, hl, specSwP, toE_at, h1, sa, sb, hk1]
      exact ⟨hok, huo⟩
    · simp (config := {contextual := true, maxSteps := 5000000}) only [go_sem, false_and, Nat.reduceAdd, Nat.reduceLT, Nat.reduceBEq, Nat.reduceSub, Nat.reduceMul, Nat.reduceLeDiff, Int.reduceToNat, Nat.reduceEqDiff, Nat.reduceMod, ht, hl, specSwP, toE_at, h1, sa, sb, hk1]
      exact ⟨⟨hok, huo⟩, ⟨hbo, hvo⟩⟩
  have hk1 : (a.kind != b.kind) = false := by simpa using hk
  by_cases hid : a.id = b.id
  rotate_left
  · have hi1 : (a.id != b.id) = true := by simpa using hid
    have hz : a.swp u v own b may = false := by rw [hsw]; simp [hid]
    rw [hz]
    rcases h1 with h1 | h1 | h1
    · simp (config := {contextual := true, maxSteps := 5000000}) only [go_sem, false_and, Nat.reduceAdd, Nat.reduceLT, Nat.reduceBEq, Nat.reduceSub, Nat.reduceMul, Nat.reduceLeDiff, Int.reduceToNat, Nat.reduceEqDiff, Nat.reduceMod, ht, hl, specSwP, toE_at, h1, sa, sb, hk1, hi1]
    · simp (config := {contextual := true, maxSteps := 5000000}) only [go_sem, false_and, Nat.reduceAdd, Nat.reduceLT, Nat.reduceBEq, Nat.reduceSub, Nat.reduceMul, Nat.reduceLeDiff, Int.reduceToNat, Nat.reduceEqDiff, Nat.reduceMod, ht, hl, specSwP, toE_at, h1, sa, sb, hk1, hi1]
      exact ⟨hok, huo⟩
    · simp (config := {contextual := true, maxSteps := 5000000}) only [go_sem, false_and, Nat.reduceAdd, Nat.reduceLT, Nat.reduceBEq, Nat.reduceSub, Nat.reduceMul, Nat.reduceLeDiff, Int.reduceToNat, Nat.reduceEqDiff, Nat.reduceMod, ht, hl, specSwP, toE_at, h1, sa, sb, hk1, hi1]
      exact ⟨⟨hok, huo⟩, ⟨hbo, hvo⟩⟩
  have hi1 : (a.id != b.id) = false := by simpa using hid
  by_cases hln : a.kids.length = b.kids.length
  rotate_left
  · have hn1 : ((a.kids.length : Int) != (b.kids.length : Int)) = true := by rw [bne_iff_ne]; omega
    have hz : a.swp u v own b may = false := by rw [hsw]; simp [hln]
    rw [hz]
    rcases h1 with h1 | h1 | h1
    · simp (config := {contextual := true, maxSteps := 5000000}) only [go_sem, false_and, Nat.reduceAdd, Nat.reduceLT, Nat.reduceBEq, Nat.reduceSub, Nat.reduceMul, Nat.reduceLeDiff, Int.reduceToNat, Nat.reduceEqDiff, Nat.reduceMod, ht, hl, specSwP, toE_at, h1, sa, sb, hk1, hi1, hn1]
    · simp (config := {contextual := true, maxSteps := 5000000}) only [go_sem, false_and, Nat.reduceAdd, Nat.reduceLT, Nat.reduceBEq, Nat.reduceSub, Nat.reduceMul, Nat.reduceLeDiff, Int.reduceToNat, Nat.reduceEqDiff, Nat.reduceMod, ht, hl, specSwP, toE_at, h1, sa, sb, hk1, hi1, hn1]
      exact ⟨hok, huo⟩
    · simp (config := {contextual := true, maxSteps := 5000000}) only [go_sem, false_and, Nat.reduceAdd, Nat.reduceLT, Nat.reduceBEq, Nat.reduceSub, Nat.reduceMul, Nat.reduceLeDiff, Int.reduceToNat, Nat.reduceEqDiff, Nat.reduceMod, ht, hl, specSwP, toE_at, h1, sa, sb, hk1, hi1, hn1]
      exact ⟨⟨hok, huo⟩, ⟨hbo, hvo⟩⟩
  have hn1 : ((a.kids.length : Int) != (b.kids.length : Int)) = false := by simp [hln]
  generalize hw : (may && !(isQ a.kind && hasB own a.id)) = w
  have hsw2 : a.swp u v own b may = E.swpL a.kids u v own b.kids w := by rw [hsw, hw]; simp [hk, hid, hln]
  rw [hsw2]
  have h3 : (a.kind == 7) = true ∧ isQ a.kind = true ∨ (a.kind == 7) = false ∧ (a.kind == 10) = true ∧ isQ a.kind = true ∨ (a.kind == 7) = false ∧ (a.kind == 10) = false ∧ isQ a.kind = false := by
    unfold isQ
    cases a.kind == 7 <;> cases a.kind == 10 <;> simp
  have hsh : isQ a.kind = true → (andI .u64 (shrI .u64 (own : Int) (IntKind.u64.wrap a.id)) 1 == 0) = !hasB own a.id := fun hq => by
    have hr := quant_id hash hq
    rw [wrap_u64 hr.1 (by omega)]
    exact and_shr ho hr
  have hw0 : isQ a.kind = true → 0 ≤ IntKind.u64.wrap a.id := fun hq => by
    have hr := quant_id hash hq
    rw [wrap_u64 hr.1 (by omega)]
    exact hr.1
  rcases h1 with h1 | h1 | h1 <;> rcases h3 with h3 | h3 | h3
  all_goals
    try have hsh := hsh h3.2
    try have hsh := hsh h3.2.2
    try have hw0 := hw0 h3.2
    try have hw0 := hw0 h3.2.2
    simp (config := {contextual := true, maxSteps := 5000000}) only [go_sem, false_and, Nat.reduceAdd, Nat.reduceLT, Nat.reduceBEq, Nat.reduceSub, Nat.reduceMul, Nat.reduceLeDiff, Int.reduceToNat, Nat.reduceEqDiff, Nat.reduceMod, ht, hl, specSwP, toE_at, h1, sa, sb, hk1, hi1, hn1, h3, hsh]
    first | refine ⟨⟨hok, huo⟩, ⟨hbo, hvo⟩, hw0, ?_⟩ | refine ⟨⟨hok, huo⟩, hw0, ?_⟩ | refine ⟨⟨hok, huo⟩, ⟨hbo, hvo⟩, ?_⟩ | refine ⟨⟨hok, huo⟩, ?_⟩ | skip
    refine loop_inv tabOk specSwP_ok mixed [] (fun j x' => ∃ i : Nat, x'.tmps.length = 87 ∧ x'.tmps.getD 4 AV.undef = .int .u64 (own : Int) ∧ x'.tmps.getD 5 AV.undef = .bool w ∧ x'.tmps.getD 6 AV.undef = .sptr [.int .i64 a.kind, .int .i64 a.id, .list .none (a.kids.map E.cells)] ∧ x'.tmps.getD 7 AV.undef = .sptr [.int .i64 b.kind, .int .i64 b.id, .list .none (b.kids.map E.cells)] ∧ x'.tmps.getD 8 AV.undef = .sptr [.int .i64 u.kind, .int .i64 u.id, .list .none (u.kids.map E.cells)] ∧ x'.tmps.getD 9 AV.undef = .sptr [.int .i64 v.kind, .int .i64 v.id, .list .none (v.kids.map E.cells)] ∧ x'.tmps.getD 66 AV.undef = .int .i64 a.kids.length ∧ x'.tmps.getD 67 AV.undef = .int .i64 i ∧ H.Le x'.H ∧ i + j = a.kids.length ∧ E.swpL a.kids u v own b.kids w = E.swpL (a.kids.drop i) u v own (b.kids.drop i) w) a.kids.length ⟨0, ?_⟩ ?_
    · simp (config := {contextual := true, maxSteps := 5000000}) only [go_sem, false_and, Nat.reduceAdd, Nat.reduceLT, Nat.reduceBEq, Nat.reduceSub, Nat.reduceMul, Nat.reduceLeDiff, Int.reduceToNat, Nat.reduceEqDiff, Nat.reduceMod, ht, hl]
      ((repeat' apply And.intro) <;> first | rfl | exact Hp.Le.refl _ | omega | (rw [← hw]; simp [h1, h3]))
    · rintro j ⟨t, m, H'⟩ ⟨i, hl, g4, g5, g6, g7, g8, g9, g66, g67, hH, hij, hd⟩
      simp only at hl g4 g5 g6 g7 g8 g9 g66 g67 hH
      by_cases hi : i < a.kids.length
      · have d : decide ((i : Int) < (a.kids.length : Int)) = true := by simp [hi]
        have hw2 : IntKind.i64.wrap ((i : Int) + 1) = ((i + 1 : Nat) : Int) := by rw [wrap_i64] <;> omega
        obtain ⟨y, hy, hye⟩ := E.kid a hi
        obtain ⟨z, hz, hze⟩ := E.kid b (i := i) (by omega)
        have hdr := swpL_drop u v own w hy hz
        simp (config := {contextual := true, maxSteps := 5000000}) only [go_sem, false_and, Nat.reduceAdd, Nat.reduceLT, Nat.reduceBEq, Nat.reduceSub, Nat.reduceMul, Nat.reduceLeDiff, Int.reduceToNat, Nat.reduceEqDiff, Nat.reduceMod, hye, hze, specSwP, toE_at, g4, g5, g6, g7, g8, g9, g66, g67, hl, d, hw2]
        refine ⟨by kernel_rfl, ⟨by omega, by omega⟩, ⟨by omega, by omega⟩, ?_⟩
        refine callK_intro (ih y (by have := E.kid_sz hy; omega) (right_kid har hy) w0 _ _ z (right_kid hbr hz) own w ho) ?_
        cases hs : y.swp u v own z w
        · have hz : E.swpL a.kids u v own b.kids w = false := by rw [hd, hdr, hs]; rfl
          simp (config := {contextual := true, maxSteps := 5000000}) only [go_sem, false_and, Nat.reduceAdd, Nat.reduceLT, Nat.reduceBEq, Nat.reduceSub, Nat.reduceMul, Nat.reduceLeDiff, Int.reduceToNat, Nat.reduceEqDiff, Nat.reduceMod, hye, hze, specSwP, toE_at, g4, g5, g6, g7, g8, g9, g66, g67, hl, d, hw2, hs, hz]
          exact ⟨by (refine pw_of ?_; (repeat' (first | exact trivial | apply And.intro)); all_goals (first | exact .inr rfl | exact .inr trivial | exact .inl (by kernel_rfl))), hH⟩
        · simp (config := {contextual := true, maxSteps := 5000000}) only [go_sem, false_and, Nat.reduceAdd, Nat.reduceLT, Nat.reduceBEq, Nat.reduceSub, Nat.reduceMul, Nat.reduceLeDiff, Int.reduceToNat, Nat.reduceEqDiff, Nat.reduceMod, hye, hze, specSwP, toE_at, g4, g5, g6, g7, g8, g9, g66, g67, hl, d, hw2, hs]
          exact ⟨by (refine pw_of ?_; (repeat' (first | exact trivial | apply And.intro)); all_goals (first | exact .inr rfl | exact .inr trivial | exact .inl (by kernel_rfl))), j - 1, by omega, i + 1, rfl, hH, by omega, by rw [hd, hdr, hs]; rfl⟩
      · have d : decide ((i : Int) < (a.kids.length : Int)) = false := by simp; omega
        have hz : E.swpL a.kids u v own b.kids w = true := by rw [hd, List.drop_of_length_le (show a.kids.length ≤ i by omega)]; simp [E.swpL]
        simp (config := {contextual := true, maxSteps := 5000000}) only [go_sem, false_and, Nat.reduceAdd, Nat.reduceLT, Nat.reduceBEq, Nat.reduceSub, Nat.reduceMul, Nat.reduceLeDiff, Int.reduceToNat, Nat.reduceEqDiff, Nat.reduceMod, specSwP, g4, g5, g6, g7, g8, g9, g66, g67, hl, d, hz]
        exact hH
theorem swapP_ok (u v : E) (hu : u.right = 0) (hv : v.right = 0) : ∀ (N : Nat) (a : E), a.sz < N → a.right = 0 → ∀ (w0 : Base) (k : List Nat) (H : Hp) (b : E), b.right = 0 → ∀ (own : Nat) (may : Bool), own < 18446744073709551616 → CallAt Tryz.prog w0 k 121 [a.av, b.av, u.av, v.av, .int .u64 (own : Int), .bool may] H H (.bool (a.swp u v own b may))
  | 0, a, h => by omega
  | N + 1, a, h => fun hok w0 k H b hb own may ho => swapP_step u v hu hv N (swapP_ok u v hu hv N) a h hok w0 k H b hb own may ho
def specSv : Spec := Spec.no.add 120 (sp1 dE (fun e => e.ok) fun e => .tup [.int .u64 (if e.right = 0 then (e.vs : Int) else 0), .int .i64 e.right])
theorem specSv_ok : SpecOk Tryz.prog w0 specSv := Spec.no_ok.add (sp1_ok fun e h k H => varsX_call e h)
theorem swapped_call (a b c d : E) (ha : a.right = 0) (hb : b.right = 0) (hc : c.right = 0) (hd : d.right = 0) : CallAt Tryz.prog w0 k 105 [a.av, b.av, c.av, d.av] H H (.bool (a.swp c d (c.vs ||| d.vs) b true)) := by
  refine callAt tabOk specSv_ok mixed Tryz.func105 rfl rfl Tryz.results105 Tryz.ntmps105 (by simp) [] ?_
  intro hfr t hl ht
  simp only [At, Nat.reduceAdd, List.cons_append, List.nil_append] at ht
  have fN : ∀ (a b : Nat) z ty, H ⟨z, a :: b :: k, ty⟩ = none := fun a b z ty => hfr _ (sfx2 _ _ _)
  have hco := sh_ok c (right_sh' hc)
  have hdo := sh_ok d (right_sh' hd)
  have ho := u64_or c.vs_lt d.vs_lt
  simp (config := {contextual := true, maxSteps := 5000000}) only [go_sem, false_and, Nat.reduceAdd, Nat.reduceLT, Nat.reduceBEq, Nat.reduceSub, Nat.reduceMul, Nat.reduceLeDiff, Int.reduceToNat, Nat.reduceEqDiff, Nat.reduceMod, ht, hl, specSv, toE_at, hc, hd, ho]
  refine ⟨hco, hdo, ?_⟩
  refine callK_intro (swapP_ok c d hc hd (a.sz + 1) a (Nat.lt_succ_self _) ha w0 _ _ b hb _ true (or_lt c.vs_lt d.vs_lt)) ?_
  simp (config := {contextual := true, maxSteps := 5000000}) only [go_sem, false_and, Nat.reduceAdd, Nat.reduceLT, Nat.reduceBEq, Nat.reduceSub, Nat.reduceMul, Nat.reduceLeDiff, Int.reduceToNat, Nat.reduceEqDiff, Nat.reduceMod, ht, hl, specSv, toE_at]
end Go.Proofs.YtkdendaohlnlcaaGreat.Av
