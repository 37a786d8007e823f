/- What parse.Print writes. No condition. -/
import Derived.Test.YtkdendaohlnlcaaDoorP02b
import Derived.Test.YtkdendaohlnlcaaDoorLb
namespace Go.Proofs.YtkdendaohlnlcaaDoor.Av
set_option linter.unusedVariables false
set_option linter.unusedSimpArgs false
set_option maxRecDepth 4000
set_option maxHeartbeats 1000000
variable {w0 : Base} {k : List Nat} {H : Hp}
def txtP (ts : List (List UInt8)) : Nat → List UInt8
  | 0 => []
  | i + 1 => txtP ts i ++ ((if i = 0 then [40] else [44, 32]) ++ ts.getD i [])
def txtK (k i : Int) (ts : List (List UInt8)) : List UInt8 :=
  if k = 1 then [120] ++ Lib.itoa i
  else if k = 2 ∨ k = 3 then (if k = 3 then [80] else [102]) ++ Lib.itoa i ++ (txtP ts ts.length ++ if ts.length = 0 then [] else [41])
  else if k = 4 then ts.getD 0 [] ++ [32, 61, 32] ++ ts.getD 1 []
  else if k = 5 then [33] ++ ts.getD 0 []
  else if k = 7 ∨ k = 10 then (if k = 10 then [63] else [64]) ++ [120] ++ Lib.itoa i ++ [32] ++ ts.getD 0 []
  else [40] ++ ts.getD 0 [] ++ (if k = 8 then [32, 38, 32] else if k = 9 then [32, 124, 32] else [32, 62, 32]) ++ ts.getD 1 [] ++ [41]
mutual
def E.txt : E → List UInt8
  | .mk k i ks => txtK k i (E.txtL ks)
def E.txtL : List E → List (List UInt8)
  | [] => []
  | e :: es => e.txt :: E.txtL es
end
theorem E.txtL_eq : ∀ l : List E, E.txtL l = l.map E.txt
  | [] => rfl
  | e :: es => by simp [E.txtL, E.txtL_eq es]
theorem E.txt_eq (e : E) : e.txt = txtK e.kind e.id (e.kids.map E.txt) := by cases e; simp [E.txt, E.kind, E.id, E.kids, E.txtL_eq]
/-- What a right node is. -/
theorem E.sh_kind {e : E} (h : e.sh = true) : (e.kind = 1 ∨ e.kind = 2 ∨ e.kind = 3 ∨ e.kind = 4 ∨ e.kind = 5 ∨ e.kind = 6 ∨ e.kind = 7 ∨ e.kind = 8 ∨ e.kind = 9 ∨ e.kind = 10) ∧ 0 ≤ e.id ∧ e.id ≤ 99 ∧ (∀ x ∈ e.kids, x.sh = true) ∧ e.kids.length ≤ 4 ∧
    (e.kind = 4 ∨ e.kind = 6 ∨ e.kind = 8 ∨ e.kind = 9 → e.kids.length = 2) ∧ (e.kind = 5 ∨ e.kind = 7 ∨ e.kind = 10 → e.kids.length = 1) ∧ (e.kind = 1 → e.kids.length = 0) := by
  rw [E.sh_eq, Bool.and_eq_true, List.all_eq_true] at h
  obtain ⟨h1, h2⟩ := h
  unfold E.loc at h1
  split at h1
  · rename_i mx l m t hw
    simp only [Bool.and_eq_true, decide_eq_true_eq] at h1
    obtain ⟨⟨⟨⟨a1, a2⟩, a3⟩, a4⟩, a5⟩ := h1
    unfold E.want at hw
    refine ⟨?_, a1, ?_, h2, ?_⟩
    all_goals (repeat' (split at hw)) <;> simp only [Option.some.injEq, Prod.mk.injEq, reduceCtorEq] at hw <;> obtain ⟨rfl, rfl, rfl, rfl⟩ := hw <;> omega
  · cases h1
def specIt : Spec := Spec.no.add 10 (sp1 dI (fun n => 0 ≤ n ∧ n < 100) fun n => .str (T (Lib.itoa n)))
theorem specIt_ok : SpecOk Tryd.prog w0 specIt := Spec.no_ok.add (sp1_ok fun n h k H => itoa_small n h.1 h.2)
def Writes (e : E) : Prop := ∀ id, Wrote 23 [.ptr id 0, e.av] id (T e.txt) (.tup [])
theorem bdK {key : List Nat} {id : Id} {H0 H : Hp} {s txt : ByteArray} {f : FuncId} {args : List AV} {v : AV} {K : Ev → Prop} (hw : Wrote f args id txt v) (hB : BdAt H0 id s H) (hs : s.size + txt.size ≤ 140737488355328) (hf : ∀ i : Id, key <:+ i.key → H0 i = none)
    (hk : ∀ H', BdAt H0 id (s ++ txt) H' → K (.eff H H' v)) : callK Tryd.prog w0 key f args H K none :=
  callK_ex (hw w0 key H0 H s hB hs hf) fun H' u ⟨h1, h2⟩ => by rw [h2]; exact hk H' h1
theorem BdAt.cast {H0 H : Hp} {id : Id} {s t : ByteArray} (h : BdAt H0 id s H) (e : L s = L t) : BdAt H0 id t H := by
  rw [← L_inj e]
  exact h
/-- A variable beside the builder. -/
theorem BdAt.frame {H0 H : Hp} {id X : Id} {s : ByteArray} {e : Option Ent} (h : BdAt H0 id s H) (h1 : X.sz ≠ 1) (h2 : X.sz ≠ 2) : BdAt (H0.upd X e) id s (H.upd X e) := by
  obtain ⟨⟨hz, hy⟩, p, tk, hp, htk, hle⟩ := h
  have hX : X ≠ id := fun e => h2 (by rw [e, hz])
  have ht : ∀ t0, tk = .tok t0 → t0 ≠ X := fun t0 e hh => h1 (by subst e; rw [← hh]; exact htk.1)
  refine ⟨⟨hz, hy⟩, p, tk, hp, ?_, fun j x hj => ?_⟩
  · cases tk with
    | tok t0 => exact ⟨htk.1, htk.2.1, by rw [Hp.upd_ne _ _ (ht t0 rfl)]; exact htk.2.2⟩
    | _ => exact htk
  · by_cases hjX : j = X
    · subst hjX
      rw [Hp.upd_same]
      rw [bdH, Hp.upd_ne _ _ hX] at hj
      cases tk with
      | tok t0 => rwa [tokUp, Hp.upd_ne _ _ (fun e => ht t0 rfl e.symm), Hp.upd_same] at hj
      | none => exact htk.elim
      | full => exact htk.elim
      | nil => rw [← hj]; exact (Hp.upd_same _ _ _).symm
    · rw [Hp.upd_ne _ _ hjX]
      refine hle j x ?_
      by_cases hji : j = id
      · subst hji
        rw [bdH, Hp.upd_same] at hj ⊢
        exact hj
      · rw [bdH, Hp.upd_ne _ _ hji] at hj ⊢
        cases tk with
        | tok t0 =>
          by_cases hjt : j = t0
          · subst hjt; rw [tokUp, Hp.upd_same] at hj ⊢; exact hj
          · rw [tokUp, Hp.upd_ne _ _ hjt] at hj ⊢
            rwa [Hp.upd_ne _ _ hjX] at hj
        | none => exact htk.elim
        | full => exact htk.elim
        | nil => exact (Hp.upd_ne _ _ hjX).symm.trans hj
theorem BdAt.at {H0 H : Hp} {id X : Id} {s : ByteArray} {e : Ent} (h : BdAt H0 id s H) (h2 : X.sz ≠ 2) (hX : H0 X = Option.some e) : H X = Option.some e := by
  obtain ⟨⟨hz, hy⟩, p, tk, hp, htk, hle⟩ := h
  exact hle _ _ (bdH_at (fun e => h2 (by rw [e, hz])) htk hX)
theorem BdAt.unframe {H0 H : Hp} {id X : Id} {s : ByteArray} {e : Ent} (h : BdAt (H0.upd X (Option.some e)) id s H) (hX : H0 X = Option.none) : BdAt H0 id s H := by
  obtain ⟨⟨hz, hy⟩, p, tk, hp, htk, hle⟩ := h
  have hl : H0.Le (H0.upd X (Option.some e)) := Hp.le_upd (Hp.Le.refl _) hX
  have ht : ∀ t0, tk = .tok t0 → H0 t0 = Option.none := fun t0 h => by
    subst h
    cases hh : H0 t0 with
    | none => rfl
    | some x => have := htk.2.2; rw [hl _ _ hh] at this; cases this
  refine ⟨⟨hz, hy⟩, p, tk, hp, ?_, Hp.Le.trans (fun j x hj => ?_) hle⟩
  · cases tk with
    | tok t0 => exact ⟨htk.1, htk.2.1, ht t0 rfl⟩
    | _ => exact htk
  · by_cases hji : j = id
    · subst hji
      rw [bdH, Hp.upd_same] at hj ⊢
      exact hj
    · rw [bdH, Hp.upd_ne _ _ hji] at hj
      cases tk with
      | tok t0 =>
        by_cases hjt : j = t0
        · subst hjt
          rw [bdH, Hp.upd_ne _ _ hji, tokUp, Hp.upd_same]
          rwa [tokUp, Hp.upd_same] at hj
        · rw [tokUp, Hp.upd_ne _ _ hjt] at hj
          exact bdH_at hji htk (hl _ _ hj)
      | none => exact htk.elim
      | full => exact htk.elim
      | nil => exact bdH_at hji htk (hl _ _ hj)
theorem freeU {H0 : Hp} {a m c n : Nat} {k : List Nat} {sz : Nat} {ty : TypeId} {e : Option Ent} (h : ∀ i : Id, k <:+ i.key → H0 i = none) (hne : m ≠ n) : ∀ i : Id, (a :: m :: k) <:+ i.key → (H0.upd ⟨sz, c :: n :: k, ty⟩ e) i = none := fun i hi => by
  have hiX : i ≠ ⟨sz, c :: n :: k, ty⟩ := fun e => by
    subst e
    have := hi.eq_of_length (by simp)
    simp only [List.cons.injEq] at this
    exact hne this.2.1
  rw [Hp.upd_ne _ _ hiX]
  exact h i ((sfx2 _ _ _).trans hi)
theorem free2 {H0 : Hp} {a b : Nat} {k : List Nat} (h : ∀ i : Id, k <:+ i.key → H0 i = none) : ∀ i : Id, (a :: b :: k) <:+ i.key → H0 i = none := fun i hi => h i ((sfx2 _ _ _).trans hi)
theorem free1 {H0 : Hp} {a : Nat} {k : List Nat} (h : ∀ i : Id, k <:+ i.key → H0 i = none) : ∀ i : Id, (a :: k) <:+ i.key → H0 i = none := fun i hi => h i ((sfx1 _ _).trans hi)
theorem txtP_mono (ts : List (List UInt8)) : ∀ (n i : Nat), (txtP ts i).length ≤ (txtP ts (i + n)).length
  | 0, i => Nat.le_refl _
  | n + 1, i => by
    have := txtP_mono ts n i
    rw [show i + (n + 1) = (i + n) + 1 by omega, txtP, List.length_append]
    omega
theorem txtP_le (ts : List (List UInt8)) (i : Nat) (h : i ≤ ts.length) : (txtP ts i).length ≤ (txtP ts ts.length).length := by
  have := txtP_mono ts (ts.length - i) i
  rwa [show i + (ts.length - i) = ts.length by omega] at this
theorem kidL (l : List E) {i : Nat} {x : E} (h : l[i]? = some x) : (l.map E.cells).getD i [] = [.int .i64 x.kind, .int .i64 x.id, .list .none (x.kids.map E.cells)] := by
  rw [← E.cells_eq]
  simp [List.getD_eq_getElem?_getD, h]
theorem joined_call (kd i : Int) (l : List E) (x y : E) (sep : List UInt8) (hx : l[0]? = some x) (hy : l[1]? = some y) (wx : Writes x) (wy : Writes y) (id : Id) : Wrote 38 [.ptr id 0, .agg [.int .i64 kd, .int .i64 i, .list .none (l.map E.cells)], .str (T sep)] id (T (x.txt ++ sep ++ y.txt)) (.tup []) := by
  intro w0 k H0 H s hB hsz0 hfr0
  have hsz : s.size + (x.txt ++ sep ++ y.txt).length ≤ 140737488355328 := by rw [← T_size]; exact hsz0
  clear hsz0
  simp only [List.length_append] at hsz
  have l0 : 0 < l.length := (List.getElem?_eq_some_iff.1 hx).1
  have l1 : 1 < l.length := (List.getElem?_eq_some_iff.1 hy).1
  have hxe := kidL l hx
  have hye := kidL l hy
  refine callX (Q := fun H' u => BdAt H0 id (s ++ T (x.txt ++ sep ++ y.txt)) H' ∧ u = .tup []) tabOk Spec.no_ok mixed Tryd.func38 rfl rfl Tryd.results38 Tryd.ntmps38 (by simp) [] ?_ ?_
  · obtain ⟨H', h⟩ := BdAt.ex hB.1.1 hB.1.2 hfr0 (s ++ T (x.txt ++ sep ++ y.txt))
    exact ⟨H', _, h, rfl⟩
  intro hfr t hl ht
  simp only [At, Nat.reduceAdd] at ht
  simp (config := {contextual := true, maxSteps := 5000000}) only [go_sem, Nat.reduceAdd, Nat.reduceLT, Nat.reduceBEq, Nat.reduceSub, Nat.reduceMul, Nat.reduceLeDiff, Int.reduceToNat, Nat.reduceEqDiff, Nat.reduceMod, ht, hl, Spec.no, hxe]
  refine ⟨⟨by omega, by omega⟩, bdK (wx id) hB (by (first | omega | ((try simp only [ByteArray.size_append, ByteArray.size_empty, T_size, List.size_toArray, List.length_append, List.length_cons, List.length_nil, Int.natCast_add] at *); omega))) (free2 hfr0) fun H1 hB1 => ?_⟩
  simp (config := {contextual := true, maxSteps := 5000000}) only [go_sem, Nat.reduceAdd, Nat.reduceLT, Nat.reduceBEq, Nat.reduceSub, Nat.reduceMul, Nat.reduceLeDiff, Int.reduceToNat, Nat.reduceEqDiff, Nat.reduceMod, ht, hl, Spec.no, hxe]
  refine bdK (ws_call id _ (by (first | omega | ((try simp only [ByteArray.size_append, ByteArray.size_empty, T_size, List.size_toArray, List.length_append, List.length_cons, List.length_nil, Int.natCast_add] at *); omega)))) hB1 (by (first | omega | ((try simp only [ByteArray.size_append, ByteArray.size_empty, T_size, List.size_toArray, List.length_append, List.length_cons, List.length_nil, Int.natCast_add] at *); omega))) (free2 hfr0) fun H2 hB2 => ?_
  simp (config := {contextual := true, maxSteps := 5000000}) only [go_sem, Nat.reduceAdd, Nat.reduceLT, Nat.reduceBEq, Nat.reduceSub, Nat.reduceMul, Nat.reduceLeDiff, Int.reduceToNat, Nat.reduceEqDiff, Nat.reduceMod, ht, hl, Spec.no, hye, Int.reduceToNat]
  refine ⟨⟨by omega, by omega⟩, bdK (wy id) hB2 (by (first | omega | ((try simp only [ByteArray.size_append, ByteArray.size_empty, T_size, List.size_toArray, List.length_append, List.length_cons, List.length_nil, Int.natCast_add] at *); omega))) (free2 hfr0) fun H3 hB3 => ?_⟩
  simp (config := {contextual := true, maxSteps := 5000000}) only [go_sem, Nat.reduceAdd, Nat.reduceLT, Nat.reduceBEq, Nat.reduceSub, Nat.reduceMul, Nat.reduceLeDiff, Int.reduceToNat, Nat.reduceEqDiff, Nat.reduceMod, ht, hl, Spec.no, hye]
  exact ⟨_, Weak.refl _, H3, Hp.Le.refl _, hB3.cast (by simp only [L_append, L_T, List.append_assoc]), rfl⟩
theorem write_step (e : E) (ih : ∀ x ∈ e.kids, Writes x) (hok : e.ok) (hsh : e.sh = true) : Writes e := by
  intro id w0 k H0 H s hB hsz0 hfr0
  obtain ⟨hk, hi0, hi9, hsk, hn4, hn2, hn1, hn0⟩ := E.sh_kind hsh
  have hsz : s.size + e.txt.length ≤ 140737488355328 := by rw [← T_size e.txt]; exact hsz0
  clear hsz0
  refine callX (Q := fun H' u => BdAt H0 id (s ++ T e.txt) H' ∧ u = .tup []) tabOk specIt_ok mixed Tryd.func23 rfl rfl Tryd.results23 Tryd.ntmps23 (by simp) [] ?_ ?_
  · obtain ⟨H', h⟩ := BdAt.ex hB.1.1 hB.1.2 hfr0 (s ++ T e.txt)
    exact ⟨H', _, h, rfl⟩
  intro hfr t hl ht
  simp only [At, Nat.reduceAdd, List.cons_append, List.nil_append] at ht
  have wok : ∀ (x : E) (i : Nat), e.kids[i]? = some x → Writes x := fun x i h => ih x (List.mem_of_getElem? h)
  rcases hk with hk | hk | hk | hk | hk | hk | hk | hk | hk | hk
  · have htx : e.txt = [120] ++ Lib.itoa e.id := by rw [E.txt_eq, txtK, if_pos hk]
    have hln : e.txt.length = 1 + (Lib.itoa e.id).length := by rw [htx]; simp; omega
    simp (config := {contextual := true, maxSteps := 5000000}) only [go_sem, Nat.reduceAdd, Nat.reduceLT, Nat.reduceBEq, Nat.reduceSub, Nat.reduceMul, Nat.reduceLeDiff, Int.reduceToNat, Nat.reduceEqDiff, Nat.reduceMod, ht, hl, hk, specIt, Int.reduceBEq]
    refine ⟨⟨hi0, by omega⟩, by (first | omega | ((try simp only [ByteArray.size_append, ByteArray.size_empty, T_size, List.size_toArray, List.length_append, List.length_cons, List.length_nil, Int.natCast_add] at *); omega)), ?_⟩
    refine bdK (ws_call id _ (by (first | omega | ((try simp only [ByteArray.size_append, ByteArray.size_empty, T_size, List.size_toArray, List.length_append, List.length_cons, List.length_nil, Int.natCast_add] at *); omega)))) hB (by (first | omega | ((try simp only [ByteArray.size_append, ByteArray.size_empty, T_size, List.size_toArray, List.length_append, List.length_cons, List.length_nil, Int.natCast_add] at *); omega))) (free2 hfr0) fun H1 hB1 => ?_
    simp (config := {contextual := true, maxSteps := 5000000}) only [go_sem, Nat.reduceAdd, Nat.reduceLT, Nat.reduceBEq, Nat.reduceSub, Nat.reduceMul, Nat.reduceLeDiff, Int.reduceToNat, Nat.reduceEqDiff, Nat.reduceMod, ht, hl, hk, specIt, Int.reduceBEq]
    exact ⟨_, Weak.refl _, H1, Hp.Le.refl _, hB1.cast (by simp only [L_append, L_T, htx]; rfl), rfl⟩
  · have htx : e.txt = [102] ++ Lib.itoa e.id ++ (txtP (e.kids.map E.txt) e.kids.length ++ if e.kids.length = 0 then [] else [41]) := by
      rw [E.txt_eq, txtK, hk]
      simp
    have hln := congrArg List.length htx
    simp only [List.length_append, List.length_cons, List.length_nil] at hln
    simp (config := {contextual := true, maxSteps := 5000000}) only [go_sem, Nat.reduceAdd, Nat.reduceLT, Nat.reduceBEq, Nat.reduceSub, Nat.reduceMul, Nat.reduceLeDiff, Int.reduceToNat, Nat.reduceEqDiff, Nat.reduceMod, ht, hl, hk, specIt, Int.reduceBEq]
    refine ⟨⟨hi0, by omega⟩, by (first | omega | ((try simp only [ByteArray.size_append, ByteArray.size_empty, T_size, List.size_toArray, List.length_append, List.length_cons, List.length_nil, Int.natCast_add] at *); omega)), ?_⟩
    refine bdK (ws_call id _ (by (first | omega | ((try simp only [ByteArray.size_append, ByteArray.size_empty, T_size, List.size_toArray, List.length_append, List.length_cons, List.length_nil, Int.natCast_add] at *); omega)))) hB (by (first | omega | ((try simp only [ByteArray.size_append, ByteArray.size_empty, T_size, List.size_toArray, List.length_append, List.length_cons, List.length_nil, Int.natCast_add] at *); omega))) (free2 hfr0) fun H1 hB1 => ?_
    simp (config := {contextual := true, maxSteps := 5000000}) only [go_sem, Nat.reduceAdd, Nat.reduceLT, Nat.reduceBEq, Nat.reduceSub, Nat.reduceMul, Nat.reduceLeDiff, Int.reduceToNat, Nat.reduceEqDiff, Nat.reduceMod, ht, hl, hk, specIt, Int.reduceBEq]
    refine loop_inv tabOk specIt_ok mixed [] (fun j x => ∃ i : Nat, x.tmps.length = 107 ∧ x.tmps.getD 0 AV.undef = .ptr id 0 ∧ x.tmps.getD 3 AV.undef = .sptr [.int .i64 2, .int .i64 e.id, .list .none (e.kids.map E.cells)] ∧ x.tmps.getD 47 AV.undef = .list .none (e.kids.map E.cells) ∧
      x.tmps.getD 48 AV.undef = .int .i64 e.kids.length ∧ x.tmps.getD 49 AV.undef = .int .i64 i ∧ i + j = e.kids.length ∧ BdAt H0 id (s ++ T ([102] ++ Lib.itoa e.id ++ txtP (e.kids.map E.txt) i)) x.H) e.kids.length ⟨0, ?_⟩ ?_
    · simp (config := {contextual := true, maxSteps := 5000000}) only [go_sem, Nat.reduceAdd, Nat.reduceLT, Nat.reduceBEq, Nat.reduceSub, Nat.reduceMul, Nat.reduceLeDiff, Int.reduceToNat, Nat.reduceEqDiff, Nat.reduceMod, ht, hl]
      exact ⟨by omega, by omega, hB1.cast (by simp [L_append, L_T, txtP])⟩
    · rintro j ⟨t, n, H2⟩ ⟨i, hl, h0, h3, h47, h48, h49, hij, hB2⟩
      simp only at hl h0 h3 h47 h48 h49 hB2
      by_cases hi : i < e.kids.length
      · have hd : decide ((i : Int) < (e.kids.length : Int)) = true := by simp [hi]
        have hw : IntKind.i64.wrap ((i : Int) + 1) = ((i + 1 : Nat) : Int) := by rw [wrap_i64] <;> omega
        obtain ⟨x, hx, hxe⟩ := e.kid hi
        have hP : txtP (e.kids.map E.txt) (i + 1) = txtP (e.kids.map E.txt) i ++ ((if i = 0 then [40] else [44, 32]) ++ x.txt) := by
          rw [txtP]
          simp [List.getD_eq_getElem?_getD, hx]
        have hPl := txtP_le (e.kids.map E.txt) (i + 1) (by simp; omega)
        rw [hP, List.length_map] at hPl
        have hX : H0 ⟨3, 3 :: (n + 1) :: k, 25⟩ = none := hfr0 _ (sfx2 _ _ _)
        have hm : (if 1 < (i : Int) then 1 else (i : Int)) = ((min i 1 : Nat) : Int) := by split <;> omega
        have hg : ([[AV.raw (.string ⟨#[40]⟩)], [AV.raw (.string ⟨#[44, 32]⟩)]] : List (List AV)).getD (min i 1) [] = [.str (T (if i = 0 then [40] else [44, 32]))] := by
          by_cases h0 : i = 0
          · subst h0; rfl
          · rw [show min i 1 = 1 by omega, if_neg h0]; rfl
        rw [List.length_append] at hPl
        simp (config := {contextual := true, maxSteps := 5000000}) only [go_sem, Nat.reduceAdd, Nat.reduceLT, Nat.reduceBEq, Nat.reduceSub, Nat.reduceMul, Nat.reduceLeDiff, Int.reduceToNat, Nat.reduceEqDiff, Nat.reduceMod, h0, h3, h47, h48, h49, hl, hd, hw, hxe, hm, hg]
        refine ⟨⟨by omega, by omega⟩, ⟨by omega, by omega⟩, bdK (ws_call id _ (by (first | omega | ((try simp only [ByteArray.size_append, ByteArray.size_empty, T_size, List.size_toArray, List.length_append, List.length_cons, List.length_nil, Int.natCast_add] at *); omega)))) (hB2.frame (X := ⟨3, 3 :: (n + 1) :: k, 25⟩) (by simp) (by simp)) (by (first | omega | ((try simp only [ByteArray.size_append, ByteArray.size_empty, T_size, List.size_toArray, List.length_append, List.length_cons, List.length_nil, Int.natCast_add] at *); omega))) (freeU hfr0 (by omega)) fun H3 hB3 => ?_⟩
        have hat := hB3.at (by simp) (Hp.upd_same _ _ _)
        have hB3' := hB3.unframe hX
        simp (config := {contextual := true, maxSteps := 5000000}) only [go_sem, Nat.reduceAdd, Nat.reduceLT, Nat.reduceBEq, Nat.reduceSub, Nat.reduceMul, Nat.reduceLeDiff, Int.reduceToNat, Nat.reduceEqDiff, Nat.reduceMod, h0, h3, h47, h48, h49, hl, hd, hw, hat]
        refine bdK (wok x i hx id) hB3' (by (first | omega | ((try simp only [ByteArray.size_append, ByteArray.size_empty, T_size, List.size_toArray, List.length_append, List.length_cons, List.length_nil, Int.natCast_add] at *); omega))) (free2 hfr0) fun H4 hB4 => ?_
        simp (config := {contextual := true, maxSteps := 5000000}) only [go_sem, Nat.reduceAdd, Nat.reduceLT, Nat.reduceBEq, Nat.reduceSub, Nat.reduceMul, Nat.reduceLeDiff, Int.reduceToNat, Nat.reduceEqDiff, Nat.reduceMod, h0, h3, h47, h48, h49, hl, hd, hw]
        exact ⟨j - 1, by omega, i + 1, rfl, by omega, hB4.cast (by rw [hP]; simp only [L_append, L_T, List.append_assoc, List.cons_append, List.nil_append])⟩
      · have hd : decide ((i : Int) < (e.kids.length : Int)) = false := by simp; omega
        obtain rfl : i = e.kids.length := by omega
        simp (config := {contextual := true, maxSteps := 5000000}) only [go_sem, Nat.reduceAdd, Nat.reduceLT, Nat.reduceBEq, Nat.reduceSub, Nat.reduceMul, Nat.reduceLeDiff, Int.reduceToNat, Nat.reduceEqDiff, Nat.reduceMod, h0, h3, h47, h48, h49, hl, hd, specIt]
        refine ⟨fun a => ?_, fun a => ?_⟩
        · simp only [decide_eq_true_eq] at a
          rw [if_neg (by omega)] at htx hln
          simp only [List.length_cons, List.length_nil] at hln
          refine bdK (ws_call id _ (by (first | omega | ((try simp only [ByteArray.size_append, ByteArray.size_empty, T_size, List.size_toArray, List.length_append, List.length_cons, List.length_nil, Int.natCast_add] at *); omega)))) hB2 (by (first | omega | ((try simp only [ByteArray.size_append, ByteArray.size_empty, T_size, List.size_toArray, List.length_append, List.length_cons, List.length_nil, Int.natCast_add] at *); omega))) (free2 hfr0) fun H3 hB3 => ?_
          simp (config := {contextual := true, maxSteps := 5000000}) only [go_sem, Nat.reduceAdd, Nat.reduceLT, Nat.reduceBEq, Nat.reduceSub, Nat.reduceMul, Nat.reduceLeDiff, Int.reduceToNat, Nat.reduceEqDiff, Nat.reduceMod, hl]
          exact ⟨_, Weak.refl _, H3, Hp.Le.refl _, hB3.cast (by simp only [L_append, L_T, htx, List.append_assoc]), rfl⟩
        · simp only [decide_eq_false_iff_not] at a
          rw [if_pos (by omega), List.append_nil] at htx
          exact ⟨_, Weak.refl _, H2, Hp.Le.refl _, hB2.cast (by simp only [L_append, L_T, htx, List.append_assoc]), rfl⟩
  · have htx : e.txt = [80] ++ Lib.itoa e.id ++ (txtP (e.kids.map E.txt) e.kids.length ++ if e.kids.length = 0 then [] else [41]) := by
      rw [E.txt_eq, txtK, hk]
      simp
    have hln := congrArg List.length htx
    simp only [List.length_append, List.length_cons, List.length_nil] at hln
    simp (config := {contextual := true, maxSteps := 5000000}) only [go_sem, Nat.reduceAdd, Nat.reduceLT, Nat.reduceBEq, Nat.reduceSub, Nat.reduceMul, Nat.reduceLeDiff, Int.reduceToNat, Nat.reduceEqDiff, Nat.reduceMod, ht, hl, hk, specIt, Int.reduceBEq]
    refine ⟨⟨hi0, by omega⟩, by (first | omega | ((try simp only [ByteArray.size_append, ByteArray.size_empty, T_size, List.size_toArray, List.length_append, List.length_cons, List.length_nil, Int.natCast_add] at *); omega)), ?_⟩
    refine bdK (ws_call id _ (by (first | omega | ((try simp only [ByteArray.size_append, ByteArray.size_empty, T_size, List.size_toArray, List.length_append, List.length_cons, List.length_nil, Int.natCast_add] at *); omega)))) hB (by (first | omega | ((try simp only [ByteArray.size_append, ByteArray.size_empty, T_size, List.size_toArray, List.length_append, List.length_cons, List.length_nil, Int.natCast_add] at *); omega))) (free2 hfr0) fun H1 hB1 => ?_
    simp (config := {contextual := true, maxSteps := 5000000}) only [go_sem, Nat.reduceAdd, Nat.reduceLT, Nat.reduceBEq, Nat.reduceSub, Nat.reduceMul, Nat.reduceLeDiff, Int.reduceToNat, Nat.reduceEqDiff, Nat.reduceMod, ht, hl, hk, specIt, Int.reduceBEq]
    refine loop_inv tabOk specIt_ok mixed [] (fun j x => ∃ i : Nat, x.tmps.length = 107 ∧ x.tmps.getD 0 AV.undef = .ptr id 0 ∧ x.tmps.getD 3 AV.undef = .sptr [.int .i64 3, .int .i64 e.id, .list .none (e.kids.map E.cells)] ∧ x.tmps.getD 47 AV.undef = .list .none (e.kids.map E.cells) ∧
      x.tmps.getD 48 AV.undef = .int .i64 e.kids.length ∧ x.tmps.getD 49 AV.undef = .int .i64 i ∧ i + j = e.kids.length ∧ BdAt H0 id (s ++ T ([80] ++ Lib.itoa e.id ++ txtP (e.kids.map E.txt) i)) x.H) e.kids.length ⟨0, ?_⟩ ?_
    · simp (config := {contextual := true, maxSteps := 5000000}) only [go_sem, Nat.reduceAdd, Nat.reduceLT, Nat.reduceBEq, Nat.reduceSub, Nat.reduceMul, Nat.reduceLeDiff, Int.reduceToNat, Nat.reduceEqDiff, Nat.reduceMod, ht, hl]
      exact ⟨by omega, by omega, hB1.cast (by simp [L_append, L_T, txtP])⟩
    · rintro j ⟨t, n, H2⟩ ⟨i, hl, h0, h3, h47, h48, h49, hij, hB2⟩
      simp only at hl h0 h3 h47 h48 h49 hB2
      by_cases hi : i < e.kids.length
      · have hd : decide ((i : Int) < (e.kids.length : Int)) = true := by simp [hi]
        have hw : IntKind.i64.wrap ((i : Int) + 1) = ((i + 1 : Nat) : Int) := by rw [wrap_i64] <;> omega
        obtain ⟨x, hx, hxe⟩ := e.kid hi
        have hP : txtP (e.kids.map E.txt) (i + 1) = txtP (e.kids.map E.txt) i ++ ((if i = 0 then [40] else [44, 32]) ++ x.txt) := by
          rw [txtP]
          simp [List.getD_eq_getElem?_getD, hx]
        have hPl := txtP_le (e.kids.map E.txt) (i + 1) (by simp; omega)
        rw [hP, List.length_map] at hPl
        have hX : H0 ⟨3, 3 :: (n + 1) :: k, 25⟩ = none := hfr0 _ (sfx2 _ _ _)
        have hm : (if 1 < (i : Int) then 1 else (i : Int)) = ((min i 1 : Nat) : Int) := by split <;> omega
        have hg : ([[AV.raw (.string ⟨#[40]⟩)], [AV.raw (.string ⟨#[44, 32]⟩)]] : List (List AV)).getD (min i 1) [] = [.str (T (if i = 0 then [40] else [44, 32]))] := by
          by_cases h0 : i = 0
          · subst h0; rfl
          · rw [show min i 1 = 1 by omega, if_neg h0]; rfl
        rw [List.length_append] at hPl
        simp (config := {contextual := true, maxSteps := 5000000}) only [go_sem, Nat.reduceAdd, Nat.reduceLT, Nat.reduceBEq, Nat.reduceSub, Nat.reduceMul, Nat.reduceLeDiff, Int.reduceToNat, Nat.reduceEqDiff, Nat.reduceMod, h0, h3, h47, h48, h49, hl, hd, hw, hxe, hm, hg]
        refine ⟨⟨by omega, by omega⟩, ⟨by omega, by omega⟩, bdK (ws_call id _ (by (first | omega | ((try simp only [ByteArray.size_append, ByteArray.size_empty, T_size, List.size_toArray, List.length_append, List.length_cons, List.length_nil, Int.natCast_add] at *); omega)))) (hB2.frame (X := ⟨3, 3 :: (n + 1) :: k, 25⟩) (by simp) (by simp)) (by (first | omega | ((try simp only [ByteArray.size_append, ByteArray.size_empty, T_size, List.size_toArray, List.length_append, List.length_cons, List.length_nil, Int.natCast_add] at *); omega))) (freeU hfr0 (by omega)) fun H3 hB3 => ?_⟩
        have hat := hB3.at (by simp) (Hp.upd_same _ _ _)
        have hB3' := hB3.unframe hX
        simp (config := {contextual := true, maxSteps := 5000000}) only [go_sem, Nat.reduceAdd, Nat.reduceLT, Nat.reduceBEq, Nat.reduceSub, Nat.reduceMul, Nat.reduceLeDiff, Int.reduceToNat, Nat.reduceEqDiff, Nat.reduceMod, h0, h3, h47, h48, h49, hl, hd, hw, hat]
        refine bdK (wok x i hx id) hB3' (by (first | omega | ((try simp only [ByteArray.size_append, ByteArray.size_empty, T_size, List.size_toArray, List.length_append, List.length_cons, List.length_nil, Int.natCast_add] at *); omega))) (free2 hfr0) fun H4 hB4 => ?_
        simp (config := {contextual := true, maxSteps := 5000000}) only [go_sem, Nat.reduceAdd, Nat.reduceLT, Nat.reduceBEq, Nat.reduceSub, Nat.reduceMul, Nat.reduceLeDiff, Int.reduceToNat, Nat.reduceEqDiff, Nat.reduceMod, h0, h3, h47, h48, h49, hl, hd, hw]
        exact ⟨j - 1, by omega, i + 1, rfl, by omega, hB4.cast (by rw [hP]; simp only [L_append, L_T, List.append_assoc, List.cons_append, List.nil_append])⟩
      · have hd : decide ((i : Int) < (e.kids.length : Int)) = false := by simp; omega
        obtain rfl : i = e.kids.length := by omega
        simp (config := {contextual := true, maxSteps := 5000000}) only [go_sem, Nat.reduceAdd, Nat.reduceLT, Nat.reduceBEq, Nat.reduceSub, Nat.reduceMul, Nat.reduceLeDiff, Int.reduceToNat, Nat.reduceEqDiff, Nat.reduceMod, h0, h3, h47, h48, h49, hl, hd, specIt]
        refine ⟨fun a => ?_, fun a => ?_⟩
        · simp only [decide_eq_true_eq] at a
          rw [if_neg (by omega)] at htx hln
          simp only [List.length_cons, List.length_nil] at hln
          refine bdK (ws_call id _ (by (first | omega | ((try simp only [ByteArray.size_append, ByteArray.size_empty, T_size, List.size_toArray, List.length_append, List.length_cons, List.length_nil, Int.natCast_add] at *); omega)))) hB2 (by (first | omega | ((try simp only [ByteArray.size_append, ByteArray.size_empty, T_size, List.size_toArray, List.length_append, List.length_cons, List.length_nil, Int.natCast_add] at *); omega))) (free2 hfr0) fun H3 hB3 => ?_
          simp (config := {contextual := true, maxSteps := 5000000}) only [go_sem, Nat.reduceAdd, Nat.reduceLT, Nat.reduceBEq, Nat.reduceSub, Nat.reduceMul, Nat.reduceLeDiff, Int.reduceToNat, Nat.reduceEqDiff, Nat.reduceMod, hl]
          exact ⟨_, Weak.refl _, H3, Hp.Le.refl _, hB3.cast (by simp only [L_append, L_T, htx, List.append_assoc]), rfl⟩
        · simp only [decide_eq_false_iff_not] at a
          rw [if_pos (by omega), List.append_nil] at htx
          exact ⟨_, Weak.refl _, H2, Hp.Le.refl _, hB2.cast (by simp only [L_append, L_T, htx, List.append_assoc, List.cons_append, List.nil_append]), rfl⟩
  · have hlen : e.kids.length = 2 := hn2 (by omega)
    obtain ⟨x, hx, hxe⟩ := e.kid (i := 0) (by omega)
    obtain ⟨y, hy, hye⟩ := e.kid (i := 1) (by omega)
    have htx : e.txt = x.txt ++ [32, 61, 32] ++ y.txt := by
      rw [E.txt_eq, txtK, hk]
      simp [List.getD_eq_getElem?_getD, hx, hy]
    have hln := congrArg List.length htx
    simp only [List.length_append, List.length_cons, List.length_nil] at hln
    simp (config := {contextual := true, maxSteps := 5000000}) only [go_sem, Nat.reduceAdd, Nat.reduceLT, Nat.reduceBEq, Nat.reduceSub, Nat.reduceMul, Nat.reduceLeDiff, Int.reduceToNat, Nat.reduceEqDiff, Nat.reduceMod, ht, hl, hk, specIt, Int.reduceBEq]
    refine bdK (joined_call _ _ e.kids x y _ hx hy (wok x 0 hx) (wok y 1 hy) id) hB (by (first | omega | ((try simp only [ByteArray.size_append, ByteArray.size_empty, T_size, List.size_toArray, List.length_append, List.length_cons, List.length_nil, Int.natCast_add] at *); omega))) (free2 hfr0) fun H1 hB1 => ?_
    simp (config := {contextual := true, maxSteps := 5000000}) only [go_sem, Nat.reduceAdd, Nat.reduceLT, Nat.reduceBEq, Nat.reduceSub, Nat.reduceMul, Nat.reduceLeDiff, Int.reduceToNat, Nat.reduceEqDiff, Nat.reduceMod, ht, hl, hk, specIt, Int.reduceBEq]
    exact ⟨_, Weak.refl _, H1, Hp.Le.refl _, hB1.cast (by simp only [L_append, L_T, htx, List.append_assoc]), rfl⟩
  · have hlen : e.kids.length = 1 := hn1 (.inl hk)
    obtain ⟨x, hx, hxe⟩ := e.kid (i := 0) (by omega)
    have htx : e.txt = [33] ++ x.txt := by
      rw [E.txt_eq, txtK, hk]
      simp [List.getD_eq_getElem?_getD, hx]
    have hln : e.txt.length = 1 + x.txt.length := by rw [htx]; simp; omega
    simp (config := {contextual := true, maxSteps := 5000000}) only [go_sem, Nat.reduceAdd, Nat.reduceLT, Nat.reduceBEq, Nat.reduceSub, Nat.reduceMul, Nat.reduceLeDiff, Int.reduceToNat, Nat.reduceEqDiff, Nat.reduceMod, ht, hl, hk, specIt, Int.reduceBEq]
    refine bdK (ws_call id _ (by (first | omega | ((try simp only [ByteArray.size_append, ByteArray.size_empty, T_size, List.size_toArray, List.length_append, List.length_cons, List.length_nil, Int.natCast_add] at *); omega)))) hB (by (first | omega | ((try simp only [ByteArray.size_append, ByteArray.size_empty, T_size, List.size_toArray, List.length_append, List.length_cons, List.length_nil, Int.natCast_add] at *); omega))) (free2 hfr0) fun H1 hB1 => ?_
    simp (config := {contextual := true, maxSteps := 5000000}) only [go_sem, Nat.reduceAdd, Nat.reduceLT, Nat.reduceBEq, Nat.reduceSub, Nat.reduceMul, Nat.reduceLeDiff, Int.reduceToNat, Nat.reduceEqDiff, Nat.reduceMod, ht, hl, hk, specIt, Int.reduceBEq, hxe, hlen]
    refine ⟨⟨by omega, by omega⟩, bdK (wok x 0 hx id) hB1 (by (first | omega | ((try simp only [ByteArray.size_append, ByteArray.size_empty, T_size, List.size_toArray, List.length_append, List.length_cons, List.length_nil, Int.natCast_add] at *); omega))) (free2 hfr0) fun H2 hB2 => ?_⟩
    simp (config := {contextual := true, maxSteps := 5000000}) only [go_sem, Nat.reduceAdd, Nat.reduceLT, Nat.reduceBEq, Nat.reduceSub, Nat.reduceMul, Nat.reduceLeDiff, Int.reduceToNat, Nat.reduceEqDiff, Nat.reduceMod, ht, hl, hk, specIt, Int.reduceBEq, hxe, hlen]
    exact ⟨_, Weak.refl _, H2, Hp.Le.refl _, hB2.cast (by simp only [L_append, L_T, htx, List.append_assoc, List.cons_append, List.nil_append]), rfl⟩
  · have hlen : e.kids.length = 2 := hn2 (by omega)
    obtain ⟨x, hx, hxe⟩ := e.kid (i := 0) (by omega)
    obtain ⟨y, hy, hye⟩ := e.kid (i := 1) (by omega)
    have htx : e.txt = [40] ++ (x.txt ++ [32, 62, 32] ++ y.txt) ++ [41] := by
      rw [E.txt_eq, txtK, hk]
      simp [List.getD_eq_getElem?_getD, hx, hy]
    have hln := congrArg List.length htx
    simp only [List.length_append, List.length_cons, List.length_nil] at hln
    simp (config := {contextual := true, maxSteps := 5000000}) only [go_sem, Nat.reduceAdd, Nat.reduceLT, Nat.reduceBEq, Nat.reduceSub, Nat.reduceMul, Nat.reduceLeDiff, Int.reduceToNat, Nat.reduceEqDiff, Nat.reduceMod, ht, hl, hk, specIt, Int.reduceBEq]
    refine bdK (ws_call id _ (by (first | omega | ((try simp only [ByteArray.size_append, ByteArray.size_empty, T_size, List.size_toArray, List.length_append, List.length_cons, List.length_nil, Int.natCast_add] at *); omega)))) hB (by (first | omega | ((try simp only [ByteArray.size_append, ByteArray.size_empty, T_size, List.size_toArray, List.length_append, List.length_cons, List.length_nil, Int.natCast_add] at *); omega))) (free2 hfr0) fun H1 hB1 => ?_
    simp (config := {contextual := true, maxSteps := 5000000}) only [go_sem, Nat.reduceAdd, Nat.reduceLT, Nat.reduceBEq, Nat.reduceSub, Nat.reduceMul, Nat.reduceLeDiff, Int.reduceToNat, Nat.reduceEqDiff, Nat.reduceMod, ht, hl, hk, specIt, Int.reduceBEq]
    refine bdK (joined_call _ _ e.kids x y _ hx hy (wok x 0 hx) (wok y 1 hy) id) hB1 (by (first | omega | ((try simp only [ByteArray.size_append, ByteArray.size_empty, T_size, List.size_toArray, List.length_append, List.length_cons, List.length_nil, Int.natCast_add] at *); omega))) (free2 hfr0) fun H2 hB2 => ?_
    simp (config := {contextual := true, maxSteps := 5000000}) only [go_sem, Nat.reduceAdd, Nat.reduceLT, Nat.reduceBEq, Nat.reduceSub, Nat.reduceMul, Nat.reduceLeDiff, Int.reduceToNat, Nat.reduceEqDiff, Nat.reduceMod, ht, hl, hk, specIt, Int.reduceBEq]
    refine bdK (ws_call id _ (by (first | omega | ((try simp only [ByteArray.size_append, ByteArray.size_empty, T_size, List.size_toArray, List.length_append, List.length_cons, List.length_nil, Int.natCast_add] at *); omega)))) hB2 (by (first | omega | ((try simp only [ByteArray.size_append, ByteArray.size_empty, T_size, List.size_toArray, List.length_append, List.length_cons, List.length_nil, Int.natCast_add] at *); omega))) (free2 hfr0) fun H3 hB3 => ?_
    simp (config := {contextual := true, maxSteps := 5000000}) only [go_sem, Nat.reduceAdd, Nat.reduceLT, Nat.reduceBEq, Nat.reduceSub, Nat.reduceMul, Nat.reduceLeDiff, Int.reduceToNat, Nat.reduceEqDiff, Nat.reduceMod, ht, hl, hk, specIt, Int.reduceBEq]
    exact ⟨_, Weak.refl _, H3, Hp.Le.refl _, hB3.cast (by simp only [L_append, L_T, htx, List.append_assoc]), rfl⟩
  · have hlen : e.kids.length = 1 := hn1 (by omega)
    obtain ⟨x, hx, hxe⟩ := e.kid (i := 0) (by omega)
    have htx : e.txt = [64, 120] ++ Lib.itoa e.id ++ [32] ++ x.txt := by
      rw [E.txt_eq, txtK, hk]
      simp [List.getD_eq_getElem?_getD, hx]
    have hln := congrArg List.length htx
    simp only [List.length_append, List.length_cons, List.length_nil] at hln
    simp (config := {contextual := true, maxSteps := 5000000}) only [go_sem, Nat.reduceAdd, Nat.reduceLT, Nat.reduceBEq, Nat.reduceSub, Nat.reduceMul, Nat.reduceLeDiff, Int.reduceToNat, Nat.reduceEqDiff, Nat.reduceMod, ht, hl, hk, specIt, Int.reduceBEq]
    refine ⟨by (first | omega | ((try simp only [ByteArray.size_append, ByteArray.size_empty, T_size, List.size_toArray, List.length_append, List.length_cons, List.length_nil, Int.natCast_add] at *); omega)), ⟨hi0, by omega⟩, by (first | omega | ((try simp only [ByteArray.size_append, ByteArray.size_empty, T_size, List.size_toArray, List.length_append, List.length_cons, List.length_nil, Int.natCast_add] at *); omega)), by (first | omega | ((try simp only [ByteArray.size_append, ByteArray.size_empty, T_size, List.size_toArray, List.length_append, List.length_cons, List.length_nil, Int.natCast_add] at *); omega)), ?_⟩
    refine bdK (ws_call id _ (by (first | omega | ((try simp only [ByteArray.size_append, ByteArray.size_empty, T_size, List.size_toArray, List.length_append, List.length_cons, List.length_nil, Int.natCast_add] at *); omega)))) hB (by (first | omega | ((try simp only [ByteArray.size_append, ByteArray.size_empty, T_size, List.size_toArray, List.length_append, List.length_cons, List.length_nil, Int.natCast_add] at *); omega))) (free2 hfr0) fun H1 hB1 => ?_
    simp (config := {contextual := true, maxSteps := 5000000}) only [go_sem, Nat.reduceAdd, Nat.reduceLT, Nat.reduceBEq, Nat.reduceSub, Nat.reduceMul, Nat.reduceLeDiff, Int.reduceToNat, Nat.reduceEqDiff, Nat.reduceMod, ht, hl, hk, specIt, Int.reduceBEq, hxe, hlen]
    refine ⟨⟨by omega, by omega⟩, bdK (wok x 0 hx id) hB1 (by (first | omega | ((try simp only [ByteArray.size_append, ByteArray.size_empty, T_size, List.size_toArray, List.length_append, List.length_cons, List.length_nil, Int.natCast_add] at *); omega))) (free2 hfr0) fun H2 hB2 => ?_⟩
    simp (config := {contextual := true, maxSteps := 5000000}) only [go_sem, Nat.reduceAdd, Nat.reduceLT, Nat.reduceBEq, Nat.reduceSub, Nat.reduceMul, Nat.reduceLeDiff, Int.reduceToNat, Nat.reduceEqDiff, Nat.reduceMod, ht, hl, hk, specIt, Int.reduceBEq, hxe, hlen]
    exact ⟨_, Weak.refl _, H2, Hp.Le.refl _, hB2.cast (by simp only [L_append, L_T, htx, List.append_assoc, List.cons_append, List.nil_append]), rfl⟩
  · have hlen : e.kids.length = 2 := hn2 (by omega)
    obtain ⟨x, hx, hxe⟩ := e.kid (i := 0) (by omega)
    obtain ⟨y, hy, hye⟩ := e.kid (i := 1) (by omega)
    have htx : e.txt = [40] ++ (x.txt ++ [32, 38, 32] ++ y.txt) ++ [41] := by
      rw [E.txt_eq, txtK, hk]
      simp [List.getD_eq_getElem?_getD, hx, hy]
    have hln := congrArg List.length htx
    simp only [List.length_append, List.length_cons, List.length_nil] at hln
    simp (config := {contextual := true, maxSteps := 5000000}) only [go_sem, Nat.reduceAdd, Nat.reduceLT, Nat.reduceBEq, Nat.reduceSub, Nat.reduceMul, Nat.reduceLeDiff, Int.reduceToNat, Nat.reduceEqDiff, Nat.reduceMod, ht, hl, hk, specIt, Int.reduceBEq]
    refine bdK (ws_call id _ (by (first | omega | ((try simp only [ByteArray.size_append, ByteArray.size_empty, T_size, List.size_toArray, List.length_append, List.length_cons, List.length_nil, Int.natCast_add] at *); omega)))) hB (by (first | omega | ((try simp only [ByteArray.size_append, ByteArray.size_empty, T_size, List.size_toArray, List.length_append, List.length_cons, List.length_nil, Int.natCast_add] at *); omega))) (free2 hfr0) fun H1 hB1 => ?_
    simp (config := {contextual := true, maxSteps := 5000000}) only [go_sem, Nat.reduceAdd, Nat.reduceLT, Nat.reduceBEq, Nat.reduceSub, Nat.reduceMul, Nat.reduceLeDiff, Int.reduceToNat, Nat.reduceEqDiff, Nat.reduceMod, ht, hl, hk, specIt, Int.reduceBEq]
    refine bdK (joined_call _ _ e.kids x y _ hx hy (wok x 0 hx) (wok y 1 hy) id) hB1 (by (first | omega | ((try simp only [ByteArray.size_append, ByteArray.size_empty, T_size, List.size_toArray, List.length_append, List.length_cons, List.length_nil, Int.natCast_add] at *); omega))) (free2 hfr0) fun H2 hB2 => ?_
    simp (config := {contextual := true, maxSteps := 5000000}) only [go_sem, Nat.reduceAdd, Nat.reduceLT, Nat.reduceBEq, Nat.reduceSub, Nat.reduceMul, Nat.reduceLeDiff, Int.reduceToNat, Nat.reduceEqDiff, Nat.reduceMod, ht, hl, hk, specIt, Int.reduceBEq]
    refine bdK (ws_call id _ (by (first | omega | ((try simp only [ByteArray.size_append, ByteArray.size_empty, T_size, List.size_toArray, List.length_append, List.length_cons, List.length_nil, Int.natCast_add] at *); omega)))) hB2 (by (first | omega | ((try simp only [ByteArray.size_append, ByteArray.size_empty, T_size, List.size_toArray, List.length_append, List.length_cons, List.length_nil, Int.natCast_add] at *); omega))) (free2 hfr0) fun H3 hB3 => ?_
    simp (config := {contextual := true, maxSteps := 5000000}) only [go_sem, Nat.reduceAdd, Nat.reduceLT, Nat.reduceBEq, Nat.reduceSub, Nat.reduceMul, Nat.reduceLeDiff, Int.reduceToNat, Nat.reduceEqDiff, Nat.reduceMod, ht, hl, hk, specIt, Int.reduceBEq]
    exact ⟨_, Weak.refl _, H3, Hp.Le.refl _, hB3.cast (by simp only [L_append, L_T, htx, List.append_assoc]), rfl⟩
  · have hlen : e.kids.length = 2 := hn2 (by omega)
    obtain ⟨x, hx, hxe⟩ := e.kid (i := 0) (by omega)
    obtain ⟨y, hy, hye⟩ := e.kid (i := 1) (by omega)
    have htx : e.txt = [40] ++ (x.txt ++ [32, 124, 32] ++ y.txt) ++ [41] := by
      rw [E.txt_eq, txtK, hk]
      simp [List.getD_eq_getElem?_getD, hx, hy]
    have hln := congrArg List.length htx
    simp only [List.length_append, List.length_cons, List.length_nil] at hln
    simp (config := {contextual := true, maxSteps := 5000000}) only [go_sem, Nat.reduceAdd, Nat.reduceLT, Nat.reduceBEq, Nat.reduceSub, Nat.reduceMul, Nat.reduceLeDiff, Int.reduceToNat, Nat.reduceEqDiff, Nat.reduceMod, ht, hl, hk, specIt, Int.reduceBEq]
    refine bdK (ws_call id _ (by (first | omega | ((try simp only [ByteArray.size_append, ByteArray.size_empty, T_size, List.size_toArray, List.length_append, List.length_cons, List.length_nil, Int.natCast_add] at *); omega)))) hB (by (first | omega | ((try simp only [ByteArray.size_append, ByteArray.size_empty, T_size, List.size_toArray, List.length_append, List.length_cons, List.length_nil, Int.natCast_add] at *); omega))) (free2 hfr0) fun H1 hB1 => ?_
    simp (config := {contextual := true, maxSteps := 5000000}) only [go_sem, Nat.reduceAdd, Nat.reduceLT, Nat.reduceBEq, Nat.reduceSub, Nat.reduceMul, Nat.reduceLeDiff, Int.reduceToNat, Nat.reduceEqDiff, Nat.reduceMod, ht, hl, hk, specIt, Int.reduceBEq]
    refine bdK (joined_call _ _ e.kids x y _ hx hy (wok x 0 hx) (wok y 1 hy) id) hB1 (by (first | omega | ((try simp only [ByteArray.size_append, ByteArray.size_empty, T_size, List.size_toArray, List.length_append, List.length_cons, List.length_nil, Int.natCast_add] at *); omega))) (free2 hfr0) fun H2 hB2 => ?_
    simp (config := {contextual := true, maxSteps := 5000000}) only [go_sem, Nat.reduceAdd, Nat.reduceLT, Nat.reduceBEq, Nat.reduceSub, Nat.reduceMul, Nat.reduceLeDiff, Int.reduceToNat, Nat.reduceEqDiff, Nat.reduceMod, ht, hl, hk, specIt, Int.reduceBEq]
    refine bdK (ws_call id _ (by (first | omega | ((try simp only [ByteArray.size_append, ByteArray.size_empty, T_size, List.size_toArray, List.length_append, List.length_cons, List.length_nil, Int.natCast_add] at *); omega)))) hB2 (by (first | omega | ((try simp only [ByteArray.size_append, ByteArray.size_empty, T_size, List.size_toArray, List.length_append, List.length_cons, List.length_nil, Int.natCast_add] at *); omega))) (free2 hfr0) fun H3 hB3 => ?_
    simp (config := {contextual := true, maxSteps := 5000000}) only [go_sem, Nat.reduceAdd, Nat.reduceLT, Nat.reduceBEq, Nat.reduceSub, Nat.reduceMul, Nat.reduceLeDiff, Int.reduceToNat, Nat.reduceEqDiff, Nat.reduceMod, ht, hl, hk, specIt, Int.reduceBEq]
    exact ⟨_, Weak.refl _, H3, Hp.Le.refl _, hB3.cast (by simp only [L_append, L_T, htx, List.append_assoc]), rfl⟩
  · have hlen : e.kids.length = 1 := hn1 (by omega)
    obtain ⟨x, hx, hxe⟩ := e.kid (i := 0) (by omega)
    have htx : e.txt = [63, 120] ++ Lib.itoa e.id ++ [32] ++ x.txt := by
      rw [E.txt_eq, txtK, hk]
      simp [List.getD_eq_getElem?_getD, hx]
    have hln := congrArg List.length htx
    simp only [List.length_append, List.length_cons, List.length_nil] at hln
    simp (config := {contextual := true, maxSteps := 5000000}) only [go_sem, Nat.reduceAdd, Nat.reduceLT, Nat.reduceBEq, Nat.reduceSub, Nat.reduceMul, Nat.reduceLeDiff, Int.reduceToNat, Nat.reduceEqDiff, Nat.reduceMod, ht, hl, hk, specIt, Int.reduceBEq]
    refine ⟨by (first | omega | ((try simp only [ByteArray.size_append, ByteArray.size_empty, T_size, List.size_toArray, List.length_append, List.length_cons, List.length_nil, Int.natCast_add] at *); omega)), ⟨hi0, by omega⟩, by (first | omega | ((try simp only [ByteArray.size_append, ByteArray.size_empty, T_size, List.size_toArray, List.length_append, List.length_cons, List.length_nil, Int.natCast_add] at *); omega)), by (first | omega | ((try simp only [ByteArray.size_append, ByteArray.size_empty, T_size, List.size_toArray, List.length_append, List.length_cons, List.length_nil, Int.natCast_add] at *); omega)), ?_⟩
    refine bdK (ws_call id _ (by (first | omega | ((try simp only [ByteArray.size_append, ByteArray.size_empty, T_size, List.size_toArray, List.length_append, List.length_cons, List.length_nil, Int.natCast_add] at *); omega)))) hB (by (first | omega | ((try simp only [ByteArray.size_append, ByteArray.size_empty, T_size, List.size_toArray, List.length_append, List.length_cons, List.length_nil, Int.natCast_add] at *); omega))) (free2 hfr0) fun H1 hB1 => ?_
    simp (config := {contextual := true, maxSteps := 5000000}) only [go_sem, Nat.reduceAdd, Nat.reduceLT, Nat.reduceBEq, Nat.reduceSub, Nat.reduceMul, Nat.reduceLeDiff, Int.reduceToNat, Nat.reduceEqDiff, Nat.reduceMod, ht, hl, hk, specIt, Int.reduceBEq, hxe, hlen]
    refine ⟨⟨by omega, by omega⟩, bdK (wok x 0 hx id) hB1 (by (first | omega | ((try simp only [ByteArray.size_append, ByteArray.size_empty, T_size, List.size_toArray, List.length_append, List.length_cons, List.length_nil, Int.natCast_add] at *); omega))) (free2 hfr0) fun H2 hB2 => ?_⟩
    simp (config := {contextual := true, maxSteps := 5000000}) only [go_sem, Nat.reduceAdd, Nat.reduceLT, Nat.reduceBEq, Nat.reduceSub, Nat.reduceMul, Nat.reduceLeDiff, Int.reduceToNat, Nat.reduceEqDiff, Nat.reduceMod, ht, hl, hk, specIt, Int.reduceBEq, hxe, hlen]
    exact ⟨_, Weak.refl _, H2, Hp.Le.refl _, hB2.cast (by simp only [L_append, L_T, htx, List.append_assoc, List.cons_append, List.nil_append]), rfl⟩
end Go.Proofs.YtkdendaohlnlcaaDoor.Av
