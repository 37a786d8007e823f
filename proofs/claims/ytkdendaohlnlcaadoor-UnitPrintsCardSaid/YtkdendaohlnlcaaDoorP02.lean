/- What the functions of package expr answer. No condition. -/
import Derived.Test.YtkdendaohlnlcaaDoorAv15
import Derived.Test.YtkdendaohlnlcaaDoorR02
namespace Go.Proofs.YtkdendaohlnlcaaDoor.Av
set_option linter.unusedVariables false
set_option linter.unusedSimpArgs false
set_option maxRecDepth 4000
set_option maxHeartbeats 1000000
variable {w0 : Base} {k : List Nat} {H : Hp}

mutual
def E.nd (d : Int) : E → List (Int × E)
  | .mk k i ks => (d, .mk k i ks) :: E.ndL (IntKind.i64.wrap (d + 1)) ks
def E.ndL (d : Int) : List E → List (Int × E)
  | [] => []
  | e :: es => E.nd d e ++ E.ndL d es
end
theorem E.nd_eq (d : Int) (e : E) : e.nd d = (d, e) :: E.ndL (IntKind.i64.wrap (d + 1)) e.kids := by cases e; simp [E.nd, E.kids]

def allT (b : Nat → Bool) : Nat → Nat → Bool
  | _, 0 => true
  | j, n + 1 => b j && allT b (j + 1) n
theorem allT_iff (b : Nat → Bool) : ∀ (n j : Nat), allT b j n = true ↔ ∀ i, i < n → b (j + i) = true
  | 0, j => by simp [allT]
  | n + 1, j => by
    rw [allT, Bool.and_eq_true, allT_iff b n (j + 1)]
    constructor
    · rintro ⟨h1, h2⟩ i hi
      cases i with
      | zero => exact h1
      | succ i =>
        have := h2 i (by omega)
        rwa [show j + 1 + i = j + (i + 1) by omega] at this
    · intro h
      refine ⟨h 0 (by omega), fun i hi => ?_⟩
      rw [show j + 1 + i = j + (i + 1) by omega]
      exact h (i + 1) (by omega)
theorem allT_add (b : Nat → Bool) : ∀ (n m j : Nat), allT b j (n + m) = (allT b j n && allT b (j + n) m)
  | 0, m, j => by simp [allT]
  | n + 1, m, j => by
    rw [show n + 1 + m = (n + m) + 1 by omega, allT, allT, allT_add b n m (j + 1), show j + 1 + n = j + (n + 1) by omega, Bool.and_assoc]
theorem stops_add (b : Nat → Bool) : ∀ (n m j : Nat), stops b j (n + m) = if allT b j n then stops b (j + n) m else stops b j n
  | 0, m, j => by simp [allT]
  | n + 1, m, j => by
    rw [show n + 1 + m = (n + m) + 1 by omega, stops, allT, stops, stops_add b n m (j + 1), show j + 1 + n = j + (n + 1) by omega]
    cases b j <;> simp
theorem stops_of_allT (b : Nat → Bool) (n j : Nat) (h : allT b j n = true) : stops b j n = j + n := stops_all b n j fun i h1 h2 => by
  have := (allT_iff b n j).1 h (i - j) (by omega)
  rwa [show j + (i - j) = i by omega] at this

def Tells (P : Program) (w0 : Base) (k : List Nat) (l : Nat) (Hs : Nat → Hp) (b : Nat → Bool) (n0 : Nat) (xs : List (Int × E)) : Prop :=
  ∀ j x, xs[j]? = some x → (∀ i, i < j → b (n0 + i) = true) → ∀ key, k <:+ key → YieldIn P w0 key l [.int .i64 x.1, x.2.av] (Hs (n0 + j)) (Hs (n0 + j + 1)) (.bool (b (n0 + j)))

theorem E.ndL_take (d : Int) : ∀ (l : List E) (i : Nat) (x : E), l[i]? = some x → E.ndL d (l.take (i + 1)) = E.ndL d (l.take i) ++ E.nd d x
  | [], i, x, h => by simp at h
  | y :: l, 0, x, h => by simp at h; subst h; simp [E.ndL]
  | y :: l, i + 1, x, h => by
    simp only [List.getElem?_cons_succ] at h
    simp only [List.take_succ_cons, E.ndL, E.ndL_take d l i x h, List.append_assoc]
theorem E.ndL_split (d : Int) : ∀ (l : List E) (i : Nat) (x : E), l[i]? = some x → ∃ rest, E.ndL d l = E.ndL d (l.take i) ++ (E.nd d x ++ rest)
  | [], i, x, h => by simp at h
  | y :: l, 0, x, h => by simp at h; subst h; exact ⟨E.ndL d l, by simp [E.ndL]⟩
  | y :: l, i + 1, x, h => by
    simp only [List.getElem?_cons_succ] at h
    obtain ⟨rest, hr⟩ := E.ndL_split d l i x h
    exact ⟨rest, by simp only [List.take_succ_cons, E.ndL, hr, List.append_assoc]⟩
theorem tell_step (N : Nat) (ih : ∀ (e : E), e.sz < N → e.ok → ∀ (w0 : Base) (k : List Nat) (l : Nat) (d : Int) (Hs : Nat → Hp) (b : Nat → Bool) (n0 : Nat), Tells Tryd.prog w0 k l Hs b n0 (e.nd d) → (∀ j i, k <:+ i.key → Hs j i = none) →
      CallAt Tryd.prog w0 k 49 [e.av, .int .i64 d, .clo (.yield l) [] []] (Hs n0) (Hs (stops b n0 (e.nd d).length)) (.bool (allT b n0 (e.nd d).length)))
    (e : E) (he : e.sz < N + 1) (hok : e.ok) (w0 : Base) (k : List Nat) (l : Nat) (d : Int) (Hs : Nat → Hp) (b : Nat → Bool) (n0 : Nat) (hT : Tells Tryd.prog w0 k l Hs b n0 (e.nd d)) (hfree : ∀ j i, k <:+ i.key → Hs j i = none) :
    CallAt Tryd.prog w0 k 49 [e.av, .int .i64 d, .clo (.yield l) [] []] (Hs n0) (Hs (stops b n0 (e.nd d).length)) (.bool (allT b n0 (e.nd d).length)) := by
  refine callAt tabOk Spec.no_ok mixed Tryd.func49 rfl rfl Tryd.results49 Tryd.ntmps49 (by simp) [] ?_
  intro hfr t hl ht
  simp only [At, Nat.reduceAdd, List.cons_append, List.nil_append] at ht
  simp (config := {contextual := true, maxSteps := 5000000}) only [go_sem, Nat.reduceAdd, Nat.reduceLT, Nat.reduceBEq, Nat.reduceSub, Nat.reduceMul, Nat.reduceLeDiff, Int.reduceToNat, Nat.reduceEqDiff, Nat.reduceMod, ht, hl, Spec.no]
  have hnd := e.nd_eq d
  refine yieldK_intro (hT 0 (d, e) (by rw [hnd]; rfl) (fun i hi => by omega) _ (sfx2 _ _ _)) (Hp.Le.refl _) ?_
  simp (config := {contextual := true, maxSteps := 5000000}) only [go_sem, Nat.reduceAdd, Nat.reduceLT, Nat.reduceBEq, Nat.reduceSub, Nat.reduceMul, Nat.reduceLeDiff, Int.reduceToNat, Nat.reduceEqDiff, Nat.reduceMod, ht, hl, Spec.no, Nat.add_zero]
  have hlen : (e.nd d).length = 1 + (E.ndL (IntKind.i64.wrap (d + 1)) e.kids).length := by rw [hnd]; simp; omega
  refine ⟨fun a => ?_, fun a => ?_⟩
  · have ha : b n0 = false := by simpa using a
    rw [hlen, Nat.add_comm, allT, stops, ha]
    simp [Hp.Le.refl]
  · have ha : b n0 = true := by simpa using a
    refine loop_inv tabOk Spec.no_ok mixed [] (fun j x => ∃ i : Nat, x.tmps.length = 28 ∧ x.tmps.getD 1 AV.undef = .int .i64 d ∧ x.tmps.getD 2 AV.undef = .clo (.yield l) [] [] ∧ x.tmps.getD 15 AV.undef = .list .none (e.kids.map E.cells) ∧
      x.tmps.getD 16 AV.undef = .int .i64 e.kids.length ∧ x.tmps.getD 17 AV.undef = .int .i64 i ∧ i + j = e.kids.length ∧ allT b n0 (1 + (E.ndL (IntKind.i64.wrap (d + 1)) (e.kids.take i)).length) = true ∧
      (Hs (n0 + (1 + (E.ndL (IntKind.i64.wrap (d + 1)) (e.kids.take i)).length))).Le x.H) e.kids.length ⟨0, ?_⟩ ?_
    · simp (config := {contextual := true, maxSteps := 5000000}) only [go_sem, Nat.reduceAdd, Nat.reduceLT, Nat.reduceBEq, Nat.reduceSub, Nat.reduceMul, Nat.reduceLeDiff, Int.reduceToNat, Nat.reduceEqDiff, Nat.reduceMod, ht, hl]
      simp [E.ndL, allT, ha, Hp.Le.refl]
    · rintro j ⟨t, n, H'⟩ ⟨i, hl, h1, h2, h15, h16, h17, hij, hall, hH⟩
      simp only at hl h1 h2 h15 h16 h17 hH
      by_cases hi : i < e.kids.length
      · have hd : decide ((i : Int) < (e.kids.length : Int)) = true := by simp [hi]
        have hw2 : IntKind.i64.wrap ((i : Int) + 1) = ((i + 1 : Nat) : Int) := by
          have := E.ok_len hok
          rw [wrap_i64] <;> omega
        obtain ⟨x, hx, hex⟩ := E.kid e hi
        obtain ⟨rest, hrest⟩ := E.ndL_split (IntKind.i64.wrap (d + 1)) e.kids i x hx
        have htk := E.ndL_take (IntKind.i64.wrap (d + 1)) e.kids i x hx
        simp (config := {contextual := true, maxSteps := 5000000}) only [go_sem, Nat.reduceAdd, Nat.reduceLT, Nat.reduceBEq, Nat.reduceSub, Nat.reduceMul, Nat.reduceLeDiff, Int.reduceToNat, Nat.reduceEqDiff, Nat.reduceMod, hex, Spec.no, h1, h2, h15, h16, h17, hl, hd]
        refine ⟨⟨by omega, by omega⟩, ?_⟩
        refine callK_pre (ih x (by have := E.kid_sz hx; omega) (E.ok_kid hok hx) w0 _ l (IntKind.i64.wrap (d + 1)) Hs b (n0 + (1 + (E.ndL (IntKind.i64.wrap (d + 1)) (e.kids.take i)).length)) (fun q y hy hb key hkey => ?_) (fun q z hz => hfree q z ((sfx2 _ _ _).trans hz))) (Hp.le_upd hH (hfree _ _ (sfx2 _ _ _))) ?_
        · have hidx : (e.nd d)[1 + (E.ndL (IntKind.i64.wrap (d + 1)) (e.kids.take i)).length + q]? = some y := by
            rw [hnd, hrest, show 1 + (E.ndL (IntKind.i64.wrap (d + 1)) (e.kids.take i)).length + q = ((E.ndL (IntKind.i64.wrap (d + 1)) (e.kids.take i)).length + q) + 1 by omega, List.getElem?_cons_succ, List.getElem?_append_right (by omega), Nat.add_sub_cancel_left]
            rw [List.getElem?_append_left (List.getElem?_eq_some_iff.1 hy).1]
            exact hy
          have := hT _ y hidx (fun i' hi' => by
            by_cases h : i' < 1 + (E.ndL (IntKind.i64.wrap (d + 1)) (e.kids.take i)).length
            · exact (allT_iff b _ _).1 hall i' h
            · have := hb (i' - (1 + (E.ndL (IntKind.i64.wrap (d + 1)) (e.kids.take i)).length)) (by omega)
              rwa [show n0 + (1 + (E.ndL (IntKind.i64.wrap (d + 1)) (e.kids.take i)).length) + (i' - (1 + (E.ndL (IntKind.i64.wrap (d + 1)) (e.kids.take i)).length)) = n0 + i' by omega] at this) key ((sfx2 _ _ _).trans hkey)
          rwa [← Nat.add_assoc] at this
        · simp (config := {contextual := true, maxSteps := 5000000}) only [go_sem, Nat.reduceAdd, Nat.reduceLT, Nat.reduceBEq, Nat.reduceSub, Nat.reduceMul, Nat.reduceLeDiff, Int.reduceToNat, Nat.reduceEqDiff, Nat.reduceMod, hex, Spec.no, h1, h2, h15, h16, h17, hl, hd, hw2]
          have htot : (e.nd d).length = (1 + (E.ndL (IntKind.i64.wrap (d + 1)) (e.kids.take i)).length) + ((E.nd (IntKind.i64.wrap (d + 1)) x).length + rest.length) := by
            rw [hlen, hrest]
            simp only [List.length_append]
            omega
          refine ⟨fun a => ?_, fun a => ⟨j - 1, by omega, i + 1, rfl, by omega, ?_, ?_⟩⟩
          · have ha' : allT b (n0 + (1 + (E.ndL (IntKind.i64.wrap (d + 1)) (e.kids.take i)).length)) (E.nd (IntKind.i64.wrap (d + 1)) x).length = false := by simpa using a
            rw [htot, allT_add, stops_add, hall, allT_add, stops_add, ha']
            simp [Hp.Le.refl]
          · have ha' : allT b (n0 + (1 + (E.ndL (IntKind.i64.wrap (d + 1)) (e.kids.take i)).length)) (E.nd (IntKind.i64.wrap (d + 1)) x).length = true := by simpa using a
            rw [htk, List.length_append, ← Nat.add_assoc, allT_add, hall, ha']
            rfl
          · have ha' : allT b (n0 + (1 + (E.ndL (IntKind.i64.wrap (d + 1)) (e.kids.take i)).length)) (E.nd (IntKind.i64.wrap (d + 1)) x).length = true := by simpa using a
            rw [htk, List.length_append, stops_of_allT b _ _ ha', show n0 + (1 + (E.ndL (IntKind.i64.wrap (d + 1)) (e.kids.take i)).length) + (E.nd (IntKind.i64.wrap (d + 1)) x).length = n0 + (1 + ((E.ndL (IntKind.i64.wrap (d + 1)) (e.kids.take i)).length + (E.nd (IntKind.i64.wrap (d + 1)) x).length)) by omega]
            exact Hp.Le.refl _
      · have hd : decide ((i : Int) < (e.kids.length : Int)) = false := by simp; omega
        simp (config := {contextual := true, maxSteps := 5000000}) only [go_sem, Nat.reduceAdd, Nat.reduceLT, Nat.reduceBEq, Nat.reduceSub, Nat.reduceMul, Nat.reduceLeDiff, Int.reduceToNat, Nat.reduceEqDiff, Nat.reduceMod, h1, h2, h15, h16, h17, hl, hd]
        rw [List.take_of_length_le (by omega), ← hlen] at hall hH
        rw [stops_of_allT b _ _ hall]
        exact ⟨hall.symm, hH⟩
theorem tell_ok : ∀ (N : Nat) (e : E), e.sz < N → e.ok → ∀ (w0 : Base) (k : List Nat) (l : Nat) (d : Int) (Hs : Nat → Hp) (b : Nat → Bool) (n0 : Nat), Tells Tryd.prog w0 k l Hs b n0 (e.nd d) → (∀ j i, k <:+ i.key → Hs j i = none) →
      CallAt Tryd.prog w0 k 49 [e.av, .int .i64 d, .clo (.yield l) [] []] (Hs n0) (Hs (stops b n0 (e.nd d).length)) (.bool (allT b n0 (e.nd d).length))
  | 0, e, h => by omega
  | N + 1, e, h => fun hok w0 k l d Hs b n0 hT hfree => tell_step N (tell_ok N) e h hok w0 k l d Hs b n0 hT hfree
/-- The elements that a range over an expression's nodes tells. -/
def E.told (e : E) : List (List AV) := (e.nd 1).map fun x => [.int .i64 x.1, x.2.av]
theorem nodes_iter (e : E) (hok : e.ok) : Iter Tryd.prog 48 [.sptr e.cells] e.told := by
  intro w0 l k Hs b hY hfree
  refine ⟨.tup [], ?_⟩
  have hlen : e.told.length = (e.nd 1).length := by simp [E.told]
  rw [hlen]
  refine bodyAt tabOk Spec.no_ok mixed Tryd.func48 rfl rfl Tryd.results48 Tryd.ntmps48 (by simp) [] ?_
  intro hfr t hl ht
  simp only [At, Nat.reduceAdd, List.cons_append, List.nil_append] at ht
  simp (config := {contextual := true, maxSteps := 5000000}) only [go_sem, Nat.reduceAdd, Nat.reduceLT, Nat.reduceBEq, Nat.reduceSub, Nat.reduceMul, Nat.reduceLeDiff, Int.reduceToNat, Nat.reduceEqDiff, Nat.reduceMod, ht, hl, Spec.no, E.cells_eq]
  refine callK_pre (tell_ok (e.sz + 1) e (Nat.lt_succ_self _) hok w0 _ l 1 Hs b 0 (fun j x hx hb key hkey => ?_) (fun q z hz => hfree q z ((sfx2 _ _ _).trans hz))) (Hp.Le.refl _) ?_
  · have := hY j [.int .i64 x.1, x.2.av] (by simp only [E.told, List.getElem?_map, hx]; rfl) (fun i hi => by simpa using hb i hi) key ((sfx2 _ _ _).trans hkey)
    simpa using this
  · simp (config := {contextual := true, maxSteps := 5000000}) only [go_sem, Nat.reduceAdd, Nat.reduceLT, Nat.reduceBEq, Nat.reduceSub, Nat.reduceMul, Nat.reduceLeDiff, Int.reduceToNat, Nat.reduceEqDiff, Nat.reduceMod, ht, hl]

mutual
theorem E.nd_len : ∀ (e : E) (d : Int), (e.nd d).length = e.sz
  | .mk k i ks, d => by simp only [E.nd, E.sz, List.length_cons, E.ndL_len ks]; omega
theorem E.ndL_len : ∀ (l : List E) (d : Int), (E.ndL d l).length = E.szL l
  | [], d => rfl
  | e :: es, d => by simp only [E.ndL, E.szL, List.length_append, E.nd_len e d, E.ndL_len es d]
end
theorem E.told_length (e : E) : e.told.length = e.sz := by simp [E.told, E.nd_len]
theorem notKey {a n m : Nat} {k : List Nat} {i : Id} (h : (n :: k) <:+ i.key) (hm : n ≠ m) {sz : Nat} {ty : TypeId} : i ≠ ⟨sz, a :: m :: k, ty⟩ := by
  rintro rfl
  have := (List.suffix_of_suffix_length_le h (List.suffix_cons a (m :: k)) (by simp)).eq_of_length (by simp)
  simp at this
  exact hm this

theorem nodes_call (e : E) : CallAt Tryd.prog w0 k 36 [e.av] H H (.clo (.func 48) [] [.sptr [.int .i64 e.kind, .int .i64 e.id, .list .none (e.kids.map E.cells)]]) := by
  refine callAt tabOk Spec.no_ok mixed Tryd.func36 rfl rfl Tryd.results36 Tryd.ntmps36 (by simp) [] ?_
  intro hfr t hl ht
  simp only [At, Nat.reduceAdd, List.cons_append, List.nil_append] at ht
  simp (config := {contextual := true, maxSteps := 5000000}) only [go_sem, Nat.reduceAdd, Nat.reduceLT, Nat.reduceBEq, Nat.reduceSub, Nat.reduceMul, Nat.reduceLeDiff, Int.reduceToNat, Nat.reduceEqDiff, Nat.reduceMod, ht, hl]
def specX0 : Spec := Spec.no.add 36 (sp1 dE (fun _ => True) fun e => .clo (.func 48) [] [.sptr [.int .i64 e.kind, .int .i64 e.id, .list .none (e.kids.map E.cells)]])
theorem specX0_ok : SpecOk Tryd.prog w0 specX0 := Spec.no_ok.add (sp1_ok fun e _ k H => nodes_call e)
theorem told_len (e : E) : ∀ x ∈ e.told, x.length = 2 := fun x hx => by
  obtain ⟨y, _, rfl⟩ := List.mem_map.1 hx
  rfl
theorem sizeX_call (e : E) (hok : e.ok) : CallAt Tryd.prog w0 k 31 [e.av] H H (.int .i64 (min (e.sz : Int) 1001)) := by
  refine callAt tabOk specX0_ok mixed Tryd.func31 rfl rfl Tryd.results31 Tryd.ntmps31 (by simp) [] ?_
  intro hfr t hl ht
  simp only [At, Nat.reduceAdd, List.cons_append, List.nil_append] at ht
  simp (config := {contextual := true, maxSteps := 5000000}) only [go_sem, Nat.reduceAdd, Nat.reduceLT, Nat.reduceBEq, Nat.reduceSub, Nat.reduceMul, Nat.reduceLeDiff, Int.reduceToNat, Nat.reduceEqDiff, Nat.reduceMod, ht, hl, specX0]
  have hid : H ⟨1, 0 :: 1 :: k, 3⟩ = none := hfr _ (sfx2 _ _ _)
  refine rangeDet (gf := 48) (caps := [.sptr e.cells]) (xs := e.told) (by simp (config := {contextual := true, maxSteps := 5000000}) only [go_sem, Nat.reduceAdd, Nat.reduceLT, Nat.reduceBEq, Nat.reduceSub, Nat.reduceMul, Nat.reduceLeDiff, Int.reduceToNat, Nat.reduceEqDiff, Nat.reduceMod, ht, hl, E.cells_eq]) (nodes_iter e hok) (told_len e)
    (fun j => H.upd ⟨1, 0 :: 1 :: k, 3⟩ (some (.cells [.int .i64 (j : Nat)]))) (fun j => if 1000 ≤ j then some (.exit 0) else none) (fun j => by split <;> simp) rfl
    (fun j i hi => by rw [Hp.upd_ne _ _ (notKey hi (by decide))]; exact hfr i ((List.suffix_cons _ _).trans hi)) ?_ (fun ha => ?_) (fun j c hj hp hc => ?_)
  · intro j x hx hp l key w0' hw0 hkey
    refine vc_sound (tab := tab) (Sp := Spec.no) (mb := []) tabOk Spec.no_ok mixed _ _ _ ?_
    obtain ⟨y, hy, rfl⟩ : ∃ y : Int × E, (e.nd 1)[j]? = some y ∧ x = [.int .i64 y.1, y.2.av] := by
      simp only [E.told, List.getElem?_map, Option.map_eq_some_iff] at hx
      obtain ⟨y, h1, h2⟩ := hx
      exact ⟨y, h1, h2.symm⟩
    simp (config := {contextual := true, maxSteps := 5000000}) only [go_sem, Nat.reduceAdd, Nat.reduceLT, Nat.reduceBEq, Nat.reduceSub, Nat.reduceMul, Nat.reduceLeDiff, Int.reduceToNat, Nat.reduceEqDiff, Nat.reduceMod, ht, hl, setPs]
    intro w0'' hw0'
    refine vc_sound (tab := tab) (Sp := Spec.no) (mb := []) tabOk Spec.no_ok mixed _ _ _ ?_
    have hj : j < 1001 := by
      rcases Nat.lt_or_ge j 1001 with h | h
      · exact h
      · have := hp 1000 (by omega)
        simp at this
    have hw : IntKind.i64.wrap ((j : Int) + 1) = ((j + 1 : Nat) : Int) := by rw [wrap_i64] <;> omega
    simp (config := {contextual := true, maxSteps := 5000000}) only [go_sem, Nat.reduceAdd, Nat.reduceLT, Nat.reduceBEq, Nat.reduceSub, Nat.reduceMul, Nat.reduceLeDiff, Int.reduceToNat, Nat.reduceEqDiff, Nat.reduceMod, ht, hl, hw]
    refine ⟨fun a => ?_, fun a => ?_⟩ <;> simp only [decide_eq_true_eq, decide_eq_false_iff_not] at a
    · rw [if_pos (by omega)]
      rfl
    · rw [if_neg (by omega)]
      rfl
  · simp (config := {contextual := true, maxSteps := 5000000}) only [go_sem, Nat.reduceAdd, Nat.reduceLT, Nat.reduceBEq, Nat.reduceSub, Nat.reduceMul, Nat.reduceLeDiff, Int.reduceToNat, Nat.reduceEqDiff, Nat.reduceMod, ht, hl]
    refine ⟨?_, Hp.le_upd (Hp.Le.refl _) hid⟩
    rw [E.told_length] at ha ⊢
    have : e.sz ≤ 1000 := by
      rcases Nat.lt_or_ge 1000 e.sz with h | h
      · have := ha 1000 h
        simp at this
      · exact h
    omega
  · have hj0 : j = 1000 := by
      split at hc
      · rcases Nat.lt_or_ge 1000 j with h | h
        · have := hp 1000 h
          simp at this
        · omega
      · cases hc
    subst hj0
    simp only [Nat.le_refl, if_true, Option.some.injEq] at hc
    subst hc
    simp (config := {contextual := true, maxSteps := 5000000}) only [go_sem, Nat.reduceAdd, Nat.reduceLT, Nat.reduceBEq, Nat.reduceSub, Nat.reduceMul, Nat.reduceLeDiff, Int.reduceToNat, Nat.reduceEqDiff, Nat.reduceMod, ht, hl]
    refine ⟨?_, Hp.le_upd (Hp.Le.refl _) hid⟩
    rw [E.told_length] at hj
    omega
def specX1 : Spec := specX0.add 31 (sp1 dE (fun e => e.ok) fun e => .int .i64 (min (e.sz : Int) 1001))
theorem specX1_ok : SpecOk Tryd.prog w0 specX1 := specX0_ok.add (sp1_ok fun e h k H => sizeX_call e h)

/-! depths -/
mutual
def E.tn (d : Nat) : E → List Nat
  | .mk _ _ ks => d :: E.tnL (d + 1) ks
def E.tnL (d : Nat) : List E → List Nat
  | [] => []
  | e :: es => E.tn d e ++ E.tnL d es
end
theorem wrap_wrap (n : Int) : IntKind.i64.wrap (IntKind.i64.wrap n + 1) = IntKind.i64.wrap (n + 1) := by
  rw [IntKind.wrap_i64, IntKind.wrap_i64, IntKind.wrap_i64]
  omega
mutual
theorem E.nd_tn : ∀ (e : E) (d : Nat), (e.nd (IntKind.i64.wrap d)).map (·.1) = (e.tn d).map fun n : Nat => IntKind.i64.wrap n
  | .mk k i ks, d => by
    simp only [E.nd, E.tn, List.map_cons, wrap_wrap]
    have := E.ndL_tnL ks (d + 1)
    simp only [Int.natCast_add, Int.natCast_one] at this
    rw [this]
theorem E.ndL_tnL : ∀ (l : List E) (d : Nat), (E.ndL (IntKind.i64.wrap d) l).map (·.1) = (E.tnL d l).map fun n : Nat => IntKind.i64.wrap n
  | [], d => rfl
  | e :: es, d => by simp only [E.ndL, E.tnL, List.map_append, E.nd_tn e d, E.ndL_tnL es d]
end
def maxL : List Nat → Nat
  | [] => 0
  | x :: l => max x (maxL l)
theorem maxL_append : ∀ l m : List Nat, maxL (l ++ m) = max (maxL l) (maxL m)
  | [], m => by simp [maxL]
  | x :: l, m => by simp only [List.cons_append, maxL, maxL_append l m]; omega
mutual
theorem E.tn_max : ∀ (e : E) (d : Nat), maxL (e.tn d) + 1 = d + e.dp
  | .mk k i ks, d => by
    simp only [E.tn, E.dp, maxL]
    have := E.tnL_max ks (d + 1)
    split at this <;> omega
theorem E.tnL_max : ∀ (l : List E) (d : Nat), if l = [] then maxL (E.tnL d l) = 0 ∧ E.dpL l = 0 else maxL (E.tnL d l) + 1 = d + E.dpL l
  | [], d => by simp [E.tnL, maxL, E.dpL]
  | e :: es, d => by
    have h1 := E.tn_max e d
    have h2 := E.tnL_max es d
    have h3 := e.dp_pos
    simp only [E.tnL, maxL_append, E.dpL]
    rw [if_neg (by simp)]
    split at h2 <;> omega
end
mutual
theorem E.tn_step : ∀ (e : E) (d j v : Nat), (e.tn d)[j]? = some v → (j = 0 ∧ v = d) ∨ ∃ i u, i < j ∧ (e.tn d)[i]? = some u ∧ v = u + 1
  | .mk k i ks, d, 0, v, h => by simp [E.tn] at h; exact .inl ⟨rfl, h.symm⟩
  | .mk k i ks, d, j + 1, v, h => by
    simp only [E.tn, List.getElem?_cons_succ] at h
    rcases E.tnL_step ks (d + 1) j v h with h1 | ⟨q, u, h1, h2, h3⟩
    · exact .inr ⟨0, d, by omega, by simp [E.tn], h1⟩
    · exact .inr ⟨q + 1, u, by omega, by simpa [E.tn] using h2, h3⟩
theorem E.tnL_step : ∀ (l : List E) (d j v : Nat), (E.tnL d l)[j]? = some v → v = d ∨ ∃ i u, i < j ∧ (E.tnL d l)[i]? = some u ∧ v = u + 1
  | [], d, j, v, h => by simp [E.tnL] at h
  | e :: es, d, j, v, h => by
    simp only [E.tnL] at h ⊢
    by_cases hj : j < (E.tn d e).length
    · rw [List.getElem?_append_left hj] at h
      rcases E.tn_step e d j v h with h1 | ⟨q, u, h1, h2, h3⟩
      · exact .inl h1.2
      · exact .inr ⟨q, u, h1, by rw [List.getElem?_append_left (by omega)]; exact h2, h3⟩
    · rw [List.getElem?_append_right (by omega)] at h
      rcases E.tnL_step es d _ v h with h1 | ⟨q, u, h1, h2, h3⟩
      · exact .inl h1
      · exact .inr ⟨q + (E.tn d e).length, u, by omega, by rw [List.getElem?_append_right (by omega), Nat.add_sub_cancel]; exact h2, h3⟩
end
theorem maxL_take (l : List Nat) {j v : Nat} (h : l[j]? = some v) : maxL (l.take (j + 1)) = max (maxL (l.take j)) v := by
  rw [List.take_add_one, h, maxL_append]
  simp [maxL]
theorem maxL_mem : ∀ {l : List Nat} {v : Nat}, v ∈ l → v ≤ maxL l
  | x :: l, v, h => by
    rcases List.mem_cons.1 h with rfl | h
    · simp only [maxL]; omega
    · have := maxL_mem h
      simp only [maxL]; omega
theorem maxL_take_le (l : List Nat) (j : Nat) : maxL (l.take j) ≤ maxL l := by
  have := maxL_append (l.take j) (l.drop j)
  rw [List.take_append_drop] at this
  omega
theorem told_at (e : E) {j : Nat} {x : List AV} (hx : e.told[j]? = some x) : ∃ y : Int × E, (e.nd 1)[j]? = some y ∧ x = [.int .i64 y.1, y.2.av] := by
  simp only [E.told, List.getElem?_map, Option.map_eq_some_iff] at hx
  obtain ⟨y, h1, h2⟩ := hx
  exact ⟨y, h1, h2.symm⟩
theorem nd_depth (e : E) {j : Nat} {y : Int × E} (h : (e.nd 1)[j]? = some y) : ∃ v, (e.tn 1)[j]? = some v ∧ y.1 = IntKind.i64.wrap (v : Int) := by
  have h1 := E.nd_tn e 1
  have h2 : ((e.nd (IntKind.i64.wrap (1 : Nat))).map (·.1))[j]? = some y.1 := by
    rw [List.getElem?_map, show IntKind.i64.wrap ((1 : Nat) : Int) = 1 from by rw [wrap_i64] <;> omega, h]
    rfl
  rw [h1, List.getElem?_map, Option.map_eq_some_iff] at h2
  obtain ⟨v, h3, h4⟩ := h2
  exact ⟨v, h3, h4.symm⟩
theorem tn_len (e : E) : (e.tn 1).length = e.sz := by
  have := congrArg List.length (E.nd_tn e 1)
  simpa [E.nd_len] using this.symm
theorem depthX_call (e : E) (hok : e.ok) : CallAt Tryd.prog w0 k 32 [e.av] H H (.int .i64 (min (e.dp : Int) 101)) := by
  refine callAt tabOk specX1_ok mixed Tryd.func32 rfl rfl Tryd.results32 Tryd.ntmps32 (by simp) [] ?_
  intro hfr t hl ht
  simp only [At, Nat.reduceAdd, List.cons_append, List.nil_append] at ht
  simp (config := {contextual := true, maxSteps := 5000000}) only [go_sem, Nat.reduceAdd, Nat.reduceLT, Nat.reduceBEq, Nat.reduceSub, Nat.reduceMul, Nat.reduceLeDiff, Int.reduceToNat, Nat.reduceEqDiff, Nat.reduceMod, ht, hl, specX1, specX0]
  have hid : H ⟨1, 0 :: 1 :: k, 3⟩ = none := hfr _ (sfx2 _ _ _)
  have hmax : maxL (e.tn 1) = e.dp := by have := E.tn_max e 1; omega
  have hprev : ∀ j, (∀ i, i < j → (if 100 < maxL ((e.tn 1).take (i + 1)) then some (AEx.exit 0) else none) = none) → maxL ((e.tn 1).take j) ≤ 100 := fun j hp => by
    cases j with
    | zero => simp [maxL]
    | succ j =>
      have := hp j (by omega)
      rcases Nat.lt_or_ge 100 (maxL ((e.tn 1).take (j + 1))) with h | h
      · rw [if_pos h] at this; cases this
      · exact h
  have hnext : ∀ j v, maxL ((e.tn 1).take j) ≤ 100 → (e.tn 1)[j]? = some v → v ≤ 101 := fun j v hm hv => by
    rcases E.tn_step e 1 j v hv with ⟨_, h⟩ | ⟨i, u, h1, h2, h3⟩
    · omega
    · have : u ≤ maxL ((e.tn 1).take j) := maxL_mem (List.mem_of_getElem? (by rw [List.getElem?_take_of_lt h1]; exact h2))
      omega
  refine rangeDet (gf := 48) (caps := [.sptr e.cells]) (xs := e.told) (by simp (config := {contextual := true, maxSteps := 5000000}) only [go_sem, Nat.reduceAdd, Nat.reduceLT, Nat.reduceBEq, Nat.reduceSub, Nat.reduceMul, Nat.reduceLeDiff, Int.reduceToNat, Nat.reduceEqDiff, Nat.reduceMod, ht, hl, E.cells_eq]) (nodes_iter e hok) (told_len e)
    (fun j => H.upd ⟨1, 0 :: 1 :: k, 3⟩ (some (.cells [.int .i64 (maxL ((e.tn 1).take j) : Nat)]))) (fun j => if 100 < maxL ((e.tn 1).take (j + 1)) then some (.exit 0) else none) (fun j => by split <;> simp) rfl
    (fun j i hi => by rw [Hp.upd_ne _ _ (notKey hi (by decide))]; exact hfr i ((List.suffix_cons _ _).trans hi)) ?_ (fun ha => ?_) (fun j c hj hp hc => ?_)
  · intro j x hx hp l key w0' hw0 hkey
    refine vc_sound (tab := tab) (Sp := Spec.no) (mb := []) tabOk Spec.no_ok mixed _ _ _ ?_
    obtain ⟨y, hy, rfl⟩ := told_at e hx
    obtain ⟨v, hv, hyv⟩ := nd_depth e hy
    have hm := hprev j hp
    have hv1 := hnext j v hm hv
    have hw : y.1 = (v : Int) := by rw [hyv, wrap_i64] <;> omega
    have hmt := maxL_take _ hv
    simp (config := {contextual := true, maxSteps := 5000000}) only [go_sem, Nat.reduceAdd, Nat.reduceLT, Nat.reduceBEq, Nat.reduceSub, Nat.reduceMul, Nat.reduceLeDiff, Int.reduceToNat, Nat.reduceEqDiff, Nat.reduceMod, ht, hl, setPs, hw]
    intro w0'' hw0'
    refine vc_sound (tab := tab) (Sp := Spec.no) (mb := []) tabOk Spec.no_ok mixed _ _ _ ?_
    simp (config := {contextual := true, maxSteps := 5000000}) only [go_sem, Nat.reduceAdd, Nat.reduceLT, Nat.reduceBEq, Nat.reduceSub, Nat.reduceMul, Nat.reduceLeDiff, Int.reduceToNat, Nat.reduceEqDiff, Nat.reduceMod, ht, hl, hw]
    have hif : (if (maxL ((e.tn 1).take j) : Int) < (v : Int) then (v : Int) else (maxL ((e.tn 1).take j) : Int)) = ((max (maxL ((e.tn 1).take j)) v : Nat) : Int) := by split <;> omega
    rw [hif, hmt]
    refine ⟨fun a => ⟨?_, Hp.Le.refl _⟩, fun a => ⟨?_, Hp.Le.refl _⟩⟩ <;> simp only [decide_eq_true_eq, decide_eq_false_iff_not] at a
    · rw [if_pos (by omega)]
      rfl
    · rw [if_neg (by omega)]
      rfl
  · simp (config := {contextual := true, maxSteps := 5000000}) only [go_sem, Nat.reduceAdd, Nat.reduceLT, Nat.reduceBEq, Nat.reduceSub, Nat.reduceMul, Nat.reduceLeDiff, Int.reduceToNat, Nat.reduceEqDiff, Nat.reduceMod, ht, hl]
    refine ⟨?_, Hp.le_upd (Hp.Le.refl _) hid⟩
    rw [E.told_length] at ha ⊢
    have := hprev _ ha
    rw [List.take_of_length_le (by rw [tn_len]; omega)] at this ⊢
    omega
  · have hm := hprev j hp
    rw [E.told_length, ← tn_len] at hj
    have hv : (e.tn 1)[j]? = some (e.tn 1)[j] := by simp [hj]
    have hv1 := hnext j _ hm hv
    have hmt := maxL_take _ hv
    have hle := maxL_take_le (e.tn 1) (j + 1)
    split at hc
    · cases hc
      simp (config := {contextual := true, maxSteps := 5000000}) only [go_sem, Nat.reduceAdd, Nat.reduceLT, Nat.reduceBEq, Nat.reduceSub, Nat.reduceMul, Nat.reduceLeDiff, Int.reduceToNat, Nat.reduceEqDiff, Nat.reduceMod, ht, hl]
      refine ⟨?_, Hp.le_upd (Hp.Le.refl _) hid⟩
      omega
    · cases hc
def specX2 : Spec := specX1.add 32 (sp1 dE (fun e => e.ok) fun e => .int .i64 (min (e.dp : Int) 101))
theorem specX2_ok : SpecOk Tryd.prog w0 specX2 := specX1_ok.add (sp1_ok fun e h k H => depthX_call e h)
theorem isTerm_call (e : E) : CallAt Tryd.prog w0 k 45 [e.av] H H (.bool e.term) := by
  refine callAt tabOk Spec.no_ok mixed Tryd.func45 rfl rfl Tryd.results45 Tryd.ntmps45 (by simp) [] ?_
  intro hfr t hl ht
  simp only [At, Nat.reduceAdd, List.cons_append, List.nil_append] at ht
  simp (config := {contextual := true, maxSteps := 5000000}) only [go_sem, Nat.reduceAdd, Nat.reduceLT, Nat.reduceBEq, Nat.reduceSub, Nat.reduceMul, Nat.reduceLeDiff, Int.reduceToNat, Nat.reduceEqDiff, Nat.reduceMod, ht, hl]
  simp +contextual [E.term] <;> grind
def specKA : Spec := Spec.no.add 45 (sp1 dE (fun _ => True) fun e => .bool e.term)
theorem specKA_ok : SpecOk Tryd.prog w0 specKA := Spec.no_ok.add (sp1_ok fun e _ k H => isTerm_call e)
theorem kidsAre_call (e : E) (l m : Int) (ts : Bool) (h1 : m ≤ 99) :
    CallAt Tryd.prog w0 k 50 [e.av, .int .i64 l, .int .i64 m, .bool ts] H H (.bool (decide (l ≤ e.kids.length) && decide (e.kids.length ≤ m) && e.kids.all fun x => x.term == ts)) := by
  refine callAt tabOk specKA_ok mixed Tryd.func50 rfl rfl Tryd.results50 Tryd.ntmps50 (by simp) [] ?_
  intro hfr t hl ht
  simp only [At, Nat.reduceAdd, List.cons_append, List.nil_append] at ht
  simp (config := {contextual := true, maxSteps := 5000000}) only [go_sem, Nat.reduceAdd, Nat.reduceLT, Nat.reduceBEq, Nat.reduceSub, Nat.reduceMul, Nat.reduceLeDiff, Int.reduceToNat, Nat.reduceEqDiff, Nat.reduceMod, ht, hl]
  refine ⟨fun a => ⟨fun b => ?_, fun b => ?_⟩, fun a => ?_⟩ <;> simp only [decide_eq_true_eq, decide_eq_false_iff_not] at a
  · simp only [decide_eq_true_eq] at b
    have : decide ((e.kids.length : Int) ≤ m) = false := by simp; omega
    simp [this]
  · simp only [decide_eq_false_iff_not] at b
    have d1 : decide (l ≤ (e.kids.length : Int)) = true := by simp; omega
    have d2 : decide ((e.kids.length : Int) ≤ m) = true := by simp; omega
    simp only [d1, d2, Bool.true_and]
    refine loop_inv tabOk specKA_ok mixed [] (fun j x => ∃ i : Nat, x.tmps.length = 35 ∧ x.tmps.getD 3 AV.undef = .bool ts ∧ (∀ i' x, i' < i → e.kids[i']? = some x → (x.term == ts) = true) ∧
      x.tmps.getD 24 AV.undef = .list .none (e.kids.map E.cells) ∧ x.tmps.getD 25 AV.undef = .int .i64 e.kids.length ∧ x.tmps.getD 26 AV.undef = .int .i64 i ∧ H.Le x.H ∧ i + j = e.kids.length) e.kids.length ⟨0, ?_⟩ ?_
    · simp (config := {contextual := true, maxSteps := 5000000}) only [go_sem, Nat.reduceAdd, Nat.reduceLT, Nat.reduceBEq, Nat.reduceSub, Nat.reduceMul, Nat.reduceLeDiff, Int.reduceToNat, Nat.reduceEqDiff, Nat.reduceMod, ht, hl]
      simp
    · rintro j ⟨t, n, H'⟩ ⟨i, hl, h3', hall, h24, h25, h26, hH, hij⟩
      simp only at hl h3' h24 h25 h26 hH
      by_cases hi : i < e.kids.length
      · have hd : decide ((i : Int) < (e.kids.length : Int)) = true := by simp [hi]
        have hw2 : IntKind.i64.wrap ((i : Int) + 1) = ((i + 1 : Nat) : Int) := by rw [wrap_i64] <;> omega
        obtain ⟨x, hx, he⟩ := E.kid e hi
        simp (config := {contextual := true, maxSteps := 5000000}) only [go_sem, Nat.reduceAdd, Nat.reduceLT, Nat.reduceBEq, Nat.reduceSub, Nat.reduceMul, Nat.reduceLeDiff, Int.reduceToNat, Nat.reduceEqDiff, Nat.reduceMod, he, specKA, h3', h24, h25, h26, hl, hd, hw2]
        have hn : H ⟨3, 2 :: (n + 1) :: k, 25⟩ = none := hfr _ (sfx2 _ _ _)
        have hle : ∀ a, H.Le (H'.upd ⟨3, 2 :: (n + 1) :: k, 25⟩ a) := fun a => Hp.le_upd hH hn
        have bad : (x.term == ts) = false → (false = e.kids.all fun x => x.term == ts) := fun h => by
          symm
          rw [List.all_eq_false]
          exact ⟨x, List.mem_of_getElem? hx, by simp [h]⟩
        refine ⟨⟨by omega, by omega⟩, fun a => ⟨bad (by simp_all), hle _⟩, fun a => ⟨j - 1, by omega, i + 1, fun i' y hi' hy => ?_, rfl, hle _, by omega⟩⟩
        by_cases e : i' = i
        · subst e
          rw [hx] at hy
          cases hy
          simp_all
        · exact hall i' y (by omega) hy
      · have hd : decide ((i : Int) < (e.kids.length : Int)) = false := by simp; omega
        simp (config := {contextual := true, maxSteps := 5000000}) only [go_sem, Nat.reduceAdd, Nat.reduceLT, Nat.reduceBEq, Nat.reduceSub, Nat.reduceMul, Nat.reduceLeDiff, Int.reduceToNat, Nat.reduceEqDiff, Nat.reduceMod, h3', h24, h25, h26, hl, hd]
        refine ⟨?_, hH⟩
        symm
        rw [List.all_eq_true]
        intro x hx
        obtain ⟨i', hi', hx'⟩ := List.getElem_of_mem hx
        exact hall i' x (by omega) (by rw [← hx']; simp)
  · have : decide (l ≤ (e.kids.length : Int)) = false := by simp; omega
    simp [this]
def specKB : Spec := Spec.no.add 50 (sp4 dE dI dI dB (fun _ _ m _ => m ≤ 99) fun e l m t => .bool (decide (l ≤ e.kids.length) && decide (e.kids.length ≤ m) && e.kids.all fun x => x.term == t))
theorem specKB_ok : SpecOk Tryd.prog w0 specKB := Spec.no_ok.add (sp4_ok fun e l m t h k H => kidsAre_call e l m t h)
theorem E.loc_all (e : E) : e.loc = match E.want e.kind with
    | some (mx, l, m, t) => decide (0 ≤ e.id) && decide (e.id ≤ mx) && (decide ((l : Int) ≤ e.kids.length) && decide ((e.kids.length : Int) ≤ m) && e.kids.all fun x => x.term == t)
    | none => false := by
  unfold E.loc
  cases h : E.want e.kind with
  | none => rfl
  | some v =>
    obtain ⟨mx, l, m, t⟩ := v
    simp only [Int.ofNat_le, Bool.and_assoc]
theorem shapedX_call (e : E) : CallAt Tryd.prog w0 k 37 [e.av] H H (.bool e.loc) := by
  refine callAt tabOk specKB_ok mixed Tryd.func37 rfl rfl Tryd.results37 Tryd.ntmps37 (by simp) [] ?_
  intro hfr t hl ht
  simp only [At, Nat.reduceAdd, List.cons_append, List.nil_append] at ht
  rw [E.loc_all]
  have hc : (e.kind = 1 ∨ e.kind = 2 ∨ e.kind = 3 ∨ e.kind = 4 ∨ e.kind = 5 ∨ e.kind = 6 ∨ e.kind = 7 ∨ e.kind = 8 ∨ e.kind = 9 ∨ e.kind = 10) ∨ (e.kind == 1) = false ∧ (e.kind == 2) = false ∧ (e.kind == 3) = false ∧ (e.kind == 4) = false ∧ (e.kind == 5) = false ∧ (e.kind == 6) = false ∧ (e.kind == 7) = false ∧ (e.kind == 8) = false ∧ (e.kind == 9) = false ∧ (e.kind == 10) = false := by
    simp only [beq_eq_false_iff_ne]
    omega
  rcases hc with (hk | hk | hk | hk | hk | hk | hk | hk | hk | hk) | ⟨b1, b2, b3, b4, b5, b6, b7, b8, b9, b10⟩
  · have b1 : (e.kind == 1) = true := by simp [hk]
    have b2 : (e.kind == 2) = false := by simp [hk]
    have b3 : (e.kind == 3) = false := by simp [hk]
    have b4 : (e.kind == 4) = false := by simp [hk]
    have b5 : (e.kind == 5) = false := by simp [hk]
    have b6 : (e.kind == 6) = false := by simp [hk]
    have b7 : (e.kind == 7) = false := by simp [hk]
    have b8 : (e.kind == 8) = false := by simp [hk]
    have b9 : (e.kind == 9) = false := by simp [hk]
    have b10 : (e.kind == 10) = false := by simp [hk]
    simp (config := {contextual := true, maxSteps := 5000000}) only [go_sem, Nat.reduceAdd, Nat.reduceLT, Nat.reduceBEq, Nat.reduceSub, Nat.reduceMul, Nat.reduceLeDiff, Int.reduceToNat, Nat.reduceEqDiff, Nat.reduceMod, ht, hl, specKB, b1, b2, b3, b4, b5, b6, b7, b8, b9, b10]
    simp only [E.want, hk]
    (repeat' (first | apply And.intro | intro _)) <;> by_cases h0 : e.kids = [] <;> simp_all <;> first | omega | grind
  · have b1 : (e.kind == 1) = false := by simp [hk]
    have b2 : (e.kind == 2) = true := by simp [hk]
    have b3 : (e.kind == 3) = false := by simp [hk]
    have b4 : (e.kind == 4) = false := by simp [hk]
    have b5 : (e.kind == 5) = false := by simp [hk]
    have b6 : (e.kind == 6) = false := by simp [hk]
    have b7 : (e.kind == 7) = false := by simp [hk]
    have b8 : (e.kind == 8) = false := by simp [hk]
    have b9 : (e.kind == 9) = false := by simp [hk]
    have b10 : (e.kind == 10) = false := by simp [hk]
    simp (config := {contextual := true, maxSteps := 5000000}) only [go_sem, Nat.reduceAdd, Nat.reduceLT, Nat.reduceBEq, Nat.reduceSub, Nat.reduceMul, Nat.reduceLeDiff, Int.reduceToNat, Nat.reduceEqDiff, Nat.reduceMod, ht, hl, specKB, b1, b2, b3, b4, b5, b6, b7, b8, b9, b10]
    simp only [E.want, hk]
    (repeat' (first | apply And.intro | intro _)) <;> simp_all <;> omega
  · have b1 : (e.kind == 1) = false := by simp [hk]
    have b2 : (e.kind == 2) = false := by simp [hk]
    have b3 : (e.kind == 3) = true := by simp [hk]
    have b4 : (e.kind == 4) = false := by simp [hk]
    have b5 : (e.kind == 5) = false := by simp [hk]
    have b6 : (e.kind == 6) = false := by simp [hk]
    have b7 : (e.kind == 7) = false := by simp [hk]
    have b8 : (e.kind == 8) = false := by simp [hk]
    have b9 : (e.kind == 9) = false := by simp [hk]
    have b10 : (e.kind == 10) = false := by simp [hk]
    simp (config := {contextual := true, maxSteps := 5000000}) only [go_sem, Nat.reduceAdd, Nat.reduceLT, Nat.reduceBEq, Nat.reduceSub, Nat.reduceMul, Nat.reduceLeDiff, Int.reduceToNat, Nat.reduceEqDiff, Nat.reduceMod, ht, hl, specKB, b1, b2, b3, b4, b5, b6, b7, b8, b9, b10]
    simp only [E.want, hk]
    (repeat' (first | apply And.intro | intro _)) <;> simp_all <;> omega
  · have b1 : (e.kind == 1) = false := by simp [hk]
    have b2 : (e.kind == 2) = false := by simp [hk]
    have b3 : (e.kind == 3) = false := by simp [hk]
    have b4 : (e.kind == 4) = true := by simp [hk]
    have b5 : (e.kind == 5) = false := by simp [hk]
    have b6 : (e.kind == 6) = false := by simp [hk]
    have b7 : (e.kind == 7) = false := by simp [hk]
    have b8 : (e.kind == 8) = false := by simp [hk]
    have b9 : (e.kind == 9) = false := by simp [hk]
    have b10 : (e.kind == 10) = false := by simp [hk]
    simp (config := {contextual := true, maxSteps := 5000000}) only [go_sem, Nat.reduceAdd, Nat.reduceLT, Nat.reduceBEq, Nat.reduceSub, Nat.reduceMul, Nat.reduceLeDiff, Int.reduceToNat, Nat.reduceEqDiff, Nat.reduceMod, ht, hl, specKB, b1, b2, b3, b4, b5, b6, b7, b8, b9, b10]
    simp only [E.want, hk]
    (repeat' (first | apply And.intro | intro _)) <;> simp_all <;> omega
  · have b1 : (e.kind == 1) = false := by simp [hk]
    have b2 : (e.kind == 2) = false := by simp [hk]
    have b3 : (e.kind == 3) = false := by simp [hk]
    have b4 : (e.kind == 4) = false := by simp [hk]
    have b5 : (e.kind == 5) = true := by simp [hk]
    have b6 : (e.kind == 6) = false := by simp [hk]
    have b7 : (e.kind == 7) = false := by simp [hk]
    have b8 : (e.kind == 8) = false := by simp [hk]
    have b9 : (e.kind == 9) = false := by simp [hk]
    have b10 : (e.kind == 10) = false := by simp [hk]
    simp (config := {contextual := true, maxSteps := 5000000}) only [go_sem, Nat.reduceAdd, Nat.reduceLT, Nat.reduceBEq, Nat.reduceSub, Nat.reduceMul, Nat.reduceLeDiff, Int.reduceToNat, Nat.reduceEqDiff, Nat.reduceMod, ht, hl, specKB, b1, b2, b3, b4, b5, b6, b7, b8, b9, b10]
    simp only [E.want, hk]
    (repeat' (first | apply And.intro | intro _)) <;> simp_all <;> omega
  · have b1 : (e.kind == 1) = false := by simp [hk]
    have b2 : (e.kind == 2) = false := by simp [hk]
    have b3 : (e.kind == 3) = false := by simp [hk]
    have b4 : (e.kind == 4) = false := by simp [hk]
    have b5 : (e.kind == 5) = false := by simp [hk]
    have b6 : (e.kind == 6) = true := by simp [hk]
    have b7 : (e.kind == 7) = false := by simp [hk]
    have b8 : (e.kind == 8) = false := by simp [hk]
    have b9 : (e.kind == 9) = false := by simp [hk]
    have b10 : (e.kind == 10) = false := by simp [hk]
    simp (config := {contextual := true, maxSteps := 5000000}) only [go_sem, Nat.reduceAdd, Nat.reduceLT, Nat.reduceBEq, Nat.reduceSub, Nat.reduceMul, Nat.reduceLeDiff, Int.reduceToNat, Nat.reduceEqDiff, Nat.reduceMod, ht, hl, specKB, b1, b2, b3, b4, b5, b6, b7, b8, b9, b10]
    simp only [E.want, hk]
    (repeat' (first | apply And.intro | intro _)) <;> simp_all <;> omega
  · have b1 : (e.kind == 1) = false := by simp [hk]
    have b2 : (e.kind == 2) = false := by simp [hk]
    have b3 : (e.kind == 3) = false := by simp [hk]
    have b4 : (e.kind == 4) = false := by simp [hk]
    have b5 : (e.kind == 5) = false := by simp [hk]
    have b6 : (e.kind == 6) = false := by simp [hk]
    have b7 : (e.kind == 7) = true := by simp [hk]
    have b8 : (e.kind == 8) = false := by simp [hk]
    have b9 : (e.kind == 9) = false := by simp [hk]
    have b10 : (e.kind == 10) = false := by simp [hk]
    simp (config := {contextual := true, maxSteps := 5000000}) only [go_sem, Nat.reduceAdd, Nat.reduceLT, Nat.reduceBEq, Nat.reduceSub, Nat.reduceMul, Nat.reduceLeDiff, Int.reduceToNat, Nat.reduceEqDiff, Nat.reduceMod, ht, hl, specKB, b1, b2, b3, b4, b5, b6, b7, b8, b9, b10]
    simp only [E.want, hk]
    (repeat' (first | apply And.intro | intro _)) <;> simp_all <;> omega
  · have b1 : (e.kind == 1) = false := by simp [hk]
    have b2 : (e.kind == 2) = false := by simp [hk]
    have b3 : (e.kind == 3) = false := by simp [hk]
    have b4 : (e.kind == 4) = false := by simp [hk]
    have b5 : (e.kind == 5) = false := by simp [hk]
    have b6 : (e.kind == 6) = false := by simp [hk]
    have b7 : (e.kind == 7) = false := by simp [hk]
    have b8 : (e.kind == 8) = true := by simp [hk]
    have b9 : (e.kind == 9) = false := by simp [hk]
    have b10 : (e.kind == 10) = false := by simp [hk]
    simp (config := {contextual := true, maxSteps := 5000000}) only [go_sem, Nat.reduceAdd, Nat.reduceLT, Nat.reduceBEq, Nat.reduceSub, Nat.reduceMul, Nat.reduceLeDiff, Int.reduceToNat, Nat.reduceEqDiff, Nat.reduceMod, ht, hl, specKB, b1, b2, b3, b4, b5, b6, b7, b8, b9, b10]
    simp only [E.want, hk]
    (repeat' (first | apply And.intro | intro _)) <;> simp_all <;> omega
  · have b1 : (e.kind == 1) = false := by simp [hk]
    have b2 : (e.kind == 2) = false := by simp [hk]
    have b3 : (e.kind == 3) = false := by simp [hk]
    have b4 : (e.kind == 4) = false := by simp [hk]
    have b5 : (e.kind == 5) = false := by simp [hk]
    have b6 : (e.kind == 6) = false := by simp [hk]
    have b7 : (e.kind == 7) = false := by simp [hk]
    have b8 : (e.kind == 8) = false := by simp [hk]
    have b9 : (e.kind == 9) = true := by simp [hk]
    have b10 : (e.kind == 10) = false := by simp [hk]
    simp (config := {contextual := true, maxSteps := 5000000}) only [go_sem, Nat.reduceAdd, Nat.reduceLT, Nat.reduceBEq, Nat.reduceSub, Nat.reduceMul, Nat.reduceLeDiff, Int.reduceToNat, Nat.reduceEqDiff, Nat.reduceMod, ht, hl, specKB, b1, b2, b3, b4, b5, b6, b7, b8, b9, b10]
    simp only [E.want, hk]
    (repeat' (first | apply And.intro | intro _)) <;> simp_all <;> omega
  · have b1 : (e.kind == 1) = false := by simp [hk]
    have b2 : (e.kind == 2) = false := by simp [hk]
    have b3 : (e.kind == 3) = false := by simp [hk]
    have b4 : (e.kind == 4) = false := by simp [hk]
    have b5 : (e.kind == 5) = false := by simp [hk]
    have b6 : (e.kind == 6) = false := by simp [hk]
    have b7 : (e.kind == 7) = false := by simp [hk]
    have b8 : (e.kind == 8) = false := by simp [hk]
    have b9 : (e.kind == 9) = false := by simp [hk]
    have b10 : (e.kind == 10) = true := by simp [hk]
    simp (config := {contextual := true, maxSteps := 5000000}) only [go_sem, Nat.reduceAdd, Nat.reduceLT, Nat.reduceBEq, Nat.reduceSub, Nat.reduceMul, Nat.reduceLeDiff, Int.reduceToNat, Nat.reduceEqDiff, Nat.reduceMod, ht, hl, specKB, b1, b2, b3, b4, b5, b6, b7, b8, b9, b10]
    simp only [E.want, hk]
    (repeat' (first | apply And.intro | intro _)) <;> simp_all <;> omega
  · simp (config := {contextual := true, maxSteps := 5000000}) only [go_sem, Nat.reduceAdd, Nat.reduceLT, Nat.reduceBEq, Nat.reduceSub, Nat.reduceMul, Nat.reduceLeDiff, Int.reduceToNat, Nat.reduceEqDiff, Nat.reduceMod, ht, hl, specKB, b1, b2, b3, b4, b5, b6, b7, b8, b9, b10]
    simp only [beq_eq_false_iff_ne] at b1 b2 b3 b4 b5 b6 b7 b8 b9 b10
    simp [E.want, b1, b2, b3, b4, b5, b6, b7, b8, b9, b10]
end Go.Proofs.YtkdendaohlnlcaaDoor.Av
