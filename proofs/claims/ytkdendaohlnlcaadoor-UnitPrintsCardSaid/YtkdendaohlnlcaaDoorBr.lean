/- From the reading of an argument to plain data. No condition. -/
import Derived.Test.YtkdendaohlnlcaaDoorUn
import Derived.Test.YtkdendaohlnlcaaDoorP09b
import Derived.DataReads
import Derived.DataElems
namespace Go.Proofs.YtkdendaohlnlcaaDoor.Av
set_option linter.unusedVariables false
set_option linter.unusedSimpArgs false
set_option maxRecDepth 4000
set_option maxHeartbeats 1000000
open Go.RowKit
section
variable {HT : Type} {enc : TypeId × Value → HT} {P : Program} {tb : Tab} {w : World} {base : Nat} {sp : Nat → Bool} {held : Bool}

/-- What is known at the start: the world's cells. -/
def ghOf (w : World) : Gh := ⟨w.cell?, fun _ => none, fun _ => none, fun _ => none⟩
theorem sim_start (w : World) : Sim ⟨w, ghOf w⟩ (ghOf w) (fun _ => none) w where
  c := fun _ _ h => h
  v := fun _ _ h => by cases h
  d := fun _ _ h => by cases h
  t := fun _ h => by cases h
  inj := fun _ _ _ h => by cases h
  tinj := fun _ _ _ _ _ h => by cases h
  vt := fun _ _ _ _ h => by cases h
  below := Below.refl _ _
  g := Gh.Le.refl _
  r := fun _ _ h => by cases h

theorem TabOk.cellsOf (hT : TabOk P tb) {t : TypeId} {ti : TI} (e : tb t = some ti) : P.cellsOf t = ti.size := by
  obtain ⟨i, d, h1, h2, h3, h4, _⟩ := hT t ti e
  simp [Program.cellsOf, h1, h4]
theorem TabOk.under (hT : TabOk P tb) {t : TypeId} {ti : TI} (e : tb t = some ti) : ∃ d, P.underlying t = some d ∧ tdOf d = ti.td := by
  obtain ⟨i, d, h1, h2, h3, h4, _⟩ := hT t ti e
  exact ⟨d, h2, h3⟩

theorem trod_int (hT : TabOk P tb) {t : TypeId} {k : IntKind} {a b : Nat} {z : Value} (e : tb t = some ⟨.int k, a, b, z⟩) {f : Nat} {cs : List Value} {x : DataW HT × List MemPlace} (h : DataW.trod enc P w base sp held f t cs = some x) : ∃ n, cs = [.int k n] := by
  obtain ⟨d, hu, hd⟩ := hT.under e
  cases d <;> simp [tdOf] at hd
  subst hd
  cases f with
  | zero => simp [DataW.trod] at h
  | succ f =>
    unfold DataW.trod at h
    rw [hu] at h
    split at h <;> simp_all
theorem trod_str (hT : TabOk P tb) {t : TypeId} {a b : Nat} {z : Value} (e : tb t = some ⟨.string, a, b, z⟩) {f : Nat} {cs : List Value} {x : DataW HT × List MemPlace} (h : DataW.trod enc P w base sp held f t cs = some x) : ∃ s : ByteArray, cs = [.string s] ∧ s.size ≤ maxLen := by
  obtain ⟨d, hu, hd⟩ := hT.under e
  cases d <;> simp [tdOf] at hd
  cases f with
  | zero => simp [DataW.trod] at h
  | succ f =>
    unfold DataW.trod at h
    rw [hu] at h
    split at h <;> simp_all
theorem trod_struct (hT : TabOk P tb) {t : TypeId} {fs : List (Nat × TypeId)} {a b : Nat} {z : Value} (e : tb t = some ⟨.struct fs, a, b, z⟩) {f : Nat} {cs : List Value} {x : DataW HT × List MemPlace} (h : DataW.trod enc P w base sp held f t cs = some x) :
    ∃ f', f = f' + 1 ∧ cs.length = a ∧ ∀ p ∈ fs, ∃ y, DataW.trod enc P w base sp held f' p.2 ((cs.drop p.1).take (P.cellsOf p.2)) = some y := by
  obtain ⟨d, hu, hd⟩ := hT.under e
  have hc := hT.cellsOf e
  cases d <;> simp [tdOf] at hd
  rename_i fa
  cases f with
  | zero => simp [DataW.trod] at h
  | succ f =>
    refine ⟨f, rfl, ?_⟩
    unfold DataW.trod at h
    rw [hu] at h
    have key : (if cs.length = P.cellsOf t then (fa.toList.mapM fun g => DataW.trod enc P w base sp held f g.type ((cs.drop g.offset).take (P.cellsOf g.type))).map fun xs => ((.agg (xs.map (·.1)) : DataW HT), xs.flatMap (·.2)) else none) = some x := by
      rcases cs with _ | ⟨c, _ | ⟨c2, cs⟩⟩
      · exact h
      · cases c <;> exact h
      · cases c <;> exact h
    split at key
    · rename_i hl
      refine ⟨by rw [hl, hc], ?_⟩
      cases hm : fa.toList.mapM fun g => DataW.trod enc P w base sp held f g.type ((cs.drop g.offset).take (P.cellsOf g.type)) with
      | none => rw [hm] at key; simp at key
      | some xs =>
        intro p hp
        rw [← hd] at hp
        obtain ⟨g, hg, rfl⟩ := List.mem_map.1 hp
        obtain ⟨i, hi, hgi⟩ := List.getElem_of_mem hg
        have := mapM_some_get hm i g (by rw [← hgi]; simp)
        have hlen := mapM_some_length hm
        have hx : i < xs.length := by omega
        exact ⟨xs[i], by simpa [hx] using this⟩
    · cases key
theorem trod_slice (hT : TabOk P tb) {t el : TypeId} {a b : Nat} {z : Value} (e : tb t = some ⟨.slice el, a, b, z⟩) {te : TI} (he : tb el = some te) {α : Type} (D : DecC α) (hD : D.sz = te.size) (okA : α → Prop) {f : Nat}
    (helem : ∀ cs y, DataW.trod enc P w base sp held (f - 1) el cs = some y → ∃ u : α, okA u ∧ RepL (ghOf w) (D.enc u) cs) {cs : List Value} {x : DataW HT × List MemPlace} (h : DataW.trod enc P w base sp held f t cs = some x) :
    ∃ (l : List α) (V : Value), cs = [V] ∧ Rep (ghOf w) (.list .none (l.map D.enc)) V ∧ l.length ≤ maxLen ∧ ∀ u ∈ l, okA u := by
  obtain ⟨d, hu, hd⟩ := hT.under e
  have hc := hT.cellsOf he
  cases d <;> simp [tdOf] at hd
  subst hd
  cases f with
  | zero => simp [DataW.trod] at h
  | succ f =>
    simp only [Nat.add_sub_cancel] at helem
    unfold DataW.trod at h
    rw [hu] at h
    split at h <;> try (simp_all; done)
    · exact ⟨[], _, rfl, by simp only [Rep]; exact ⟨none, 0, 0, rfl, rfl, Nat.le_refl _, trivial, ⟨0, by simp⟩, ⟨0, 0, none⟩, by simp, by simp [RepE]⟩, by simp, by simp⟩
    · rename_i d1 c1 el2 ad n c heq
      cases heq
      simp only at h
      split at h
      · rename_i hb
        obtain ⟨hb1, hb2, hb3⟩ := hb
        simp only [Option.bind_eq_some_iff] at h
        obtain ⟨elems, hm, _⟩ := h
        have hlen := mapM_some_length hm
        simp only [List.length_range] at hlen
        have each : ∀ i, i < n → ∃ u : α, okA u ∧ RepC (ghOf w) ad (i * D.sz) (D.enc u) := fun i hi => by
          have h1 := mapM_some_get hm i i (by simp [hi])
          rw [show elems[i]? = some (elems[i]'(by omega)) by simp [show i < elems.length by omega]] at h1
          obtain ⟨cs, h2, h3⟩ := Option.bind_eq_some_iff.1 h1
          obtain ⟨u, h4, h5⟩ := helem cs _ h3
          obtain ⟨_, h6, h7⟩ := World.cells?_some h2
          refine ⟨u, h4, RepC_of_list _ _ cs h5 fun j v hj => ?_⟩
          have hjl : j < cs.length := (List.getElem?_eq_some_iff.1 hj).1
          have h8 := h7 j (by omega)
          rw [Addr.add_add, hc, ← hD, hj] at h8
          exact h8
        have all : ∀ m i, i + m = n → ∃ l : List α, l.length = m ∧ RepE (ghOf w) ad (i * D.sz) (l.map D.enc) ∧ ∀ u ∈ l, okA u := by
          intro m
          induction m with
          | zero => exact fun i _ => ⟨[], rfl, by simp [RepE], by simp⟩
          | succ m ih =>
            intro i him
            obtain ⟨u, hu1, hu2⟩ := each i (by omega)
            obtain ⟨l, hl1, hl2, hl3⟩ := ih (i + 1) (by omega)
            refine ⟨u :: l, by simp [hl1], ?_, ?_⟩
            · simp only [List.map_cons, RepE]
              refine ⟨hu2, ?_⟩
              rw [D.elen, show i * D.sz + D.sz = (i + 1) * D.sz by rw [Nat.add_mul]; omega]
              exact hl2
            · intro v hv
              rcases List.mem_cons.1 hv with rfl | hv
              · exact hu1
              · exact hl3 v hv
        obtain ⟨l, hl1, hl2, hl3⟩ := all n 0 (by omega)
        refine ⟨l, _, rfl, ?_, by omega, hl3⟩
        simp only [Rep]
        refine ⟨some ad, n, c, rfl, by simp [hl1], hb2, trivial, ⟨D.sz, fun x hx => ?_⟩, ad, fun _ => rfl, by simpa using hl2⟩
        obtain ⟨y, _, rfl⟩ := List.mem_map.1 hx
        exact D.elen y
      · cases h
end
section
variable {HT : Type} {enc : TypeId × Value → HT} {w : World} {base : Nat} {sp : Nat → Bool} {held : Bool}
theorem maxLen_int {n : Nat} (h : n ≤ maxLen) : (n : Int) ≤ 9223372036854775807 := by
  have : maxLen = 9223372036854775807 := by decide
  omega
theorem E.ok_mk {k i : Int} {l : List E} (h1 : l.length ≤ maxLen) (h2 : ∀ u ∈ l, E.ok u) : (E.mk k i l).ok := by
  refine ⟨maxLen_int h1, ?_⟩
  clear h1
  induction l with
  | nil => trivial
  | cons u l ih => exact ⟨h2 u (by simp), ih fun v hv => h2 v (by simp [hv])⟩
theorem trodE : ∀ (f : Nat) (cs : List Value) (x : DataW HT × List MemPlace), DataW.trod enc Tryd.prog w base sp held f 25 cs = some x → ∃ e : E, e.ok ∧ RepL (ghOf w) e.cells cs := by
  intro f
  induction f using Nat.strongRecOn with
  | _ f ih =>
    intro cs x h
    obtain ⟨f', rfl, hl, hp⟩ := trod_struct tabOk (tab_25) h
    obtain ⟨a, b, c, rfl⟩ : ∃ a b c, cs = [a, b, c] := by
      match cs, hl with
      | [a, b, c], _ => exact ⟨a, b, c, rfl⟩
    obtain ⟨y1, h1⟩ := hp _ (by simp : (0, 3) ∈ _)
    obtain ⟨y2, h2⟩ := hp _ (by simp : (1, 3) ∈ _)
    obtain ⟨y3, h3⟩ := hp _ (by simp : (2, 23) ∈ _)
    simp only [tabOk.cellsOf tab_3, tabOk.cellsOf tab_23, List.drop_zero, List.drop_succ_cons, List.take_succ_cons, List.take_zero] at h1 h2 h3
    obtain ⟨n1, e1⟩ := trod_int tabOk tab_3 h1
    obtain ⟨n2, e2⟩ := trod_int tabOk tab_3 h2
    obtain ⟨l, V, e3, hr, hml, hok⟩ := trod_slice tabOk tab_23 tab_25 cE rfl E.ok (fun cs y hy => ih (f' - 1) (by omega) cs y hy) h3
    simp only [List.cons.injEq, and_true] at e1 e2 e3
    subst e1 e2 e3
    refine ⟨.mk n1 n2 l, E.ok_mk hml hok, ?_⟩
    simp only [E.cells, RepL, E.cellsL_eq]
    exact ⟨_, _, rfl, by simp [Rep], _, _, rfl, by simp [Rep], _, _, rfl, hr, rfl⟩
theorem trodS (f : Nat) (cs : List Value) (x : DataW HT × List MemPlace) (h : DataW.trod enc Tryd.prog w base sp held f 9 cs = some x) : ∃ s : ByteArray, (s.size : Int) ≤ 9223372036854775807 ∧ RepL (ghOf w) (cS.enc s) cs := by
  obtain ⟨s, rfl, hs⟩ := trod_str tabOk tab_9 h
  exact ⟨s, maxLen_int hs, by simp only [cS, RepL]; exact ⟨_, _, rfl, by simp [Rep], rfl⟩⟩
theorem trodStep (f : Nat) (cs : List Value) (x : DataW HT × List MemPlace) (h : DataW.trod enc Tryd.prog w base sp held f 45 cs = some x) : ∃ s : Step, (s.says.ok ∧ (s.cite.size : Int) ≤ 9223372036854775807) ∧ RepL (ghOf w) (cStep.enc s) cs := by
  obtain ⟨f', rfl, hl, hp⟩ := trod_struct tabOk (tab_45) h
  obtain ⟨a, b, c, d, e, g, i, rfl⟩ : ∃ a b c d e g i, cs = [a, b, c, d, e, g, i] := by
    match cs, hl with
    | [a, b, c, d, e, g, i], _ => exact ⟨a, b, c, d, e, g, i, rfl⟩
  obtain ⟨y1, h1⟩ := hp _ (by simp : (0, 25) ∈ _)
  obtain ⟨y2, h2⟩ := hp _ (by simp : (3, 3) ∈ _)
  obtain ⟨y3, h3⟩ := hp _ (by simp : (4, 3) ∈ _)
  obtain ⟨y4, h4⟩ := hp _ (by simp : (5, 3) ∈ _)
  obtain ⟨y5, h5⟩ := hp _ (by simp : (6, 9) ∈ _)
  simp only [tabOk.cellsOf tab_3, tabOk.cellsOf tab_25, tabOk.cellsOf tab_9, List.drop_zero, List.drop_succ_cons, List.take_succ_cons, List.take_zero] at h1 h2 h3 h4 h5
  obtain ⟨e0, hok, hr⟩ := trodE _ _ _ h1
  obtain ⟨n2, e2⟩ := trod_int tabOk tab_3 h2
  obtain ⟨n3, e3⟩ := trod_int tabOk tab_3 h3
  obtain ⟨n4, e4⟩ := trod_int tabOk tab_3 h4
  obtain ⟨s5, e5, hs⟩ := trod_str tabOk tab_9 h5
  simp only [List.cons.injEq, and_true] at e2 e3 e4 e5
  subst e2 e3 e4 e5
  refine ⟨⟨e0, n2, n3, n4, s5⟩, ⟨hok, maxLen_int hs⟩, ?_⟩
  rw [E.cells_eq] at hr
  have hr2 : RepL (ghOf w) [.int .i64 n2, .int .i64 n3, .int .i64 n4, .str s5] [.int .i64 n2, .int .i64 n3, .int .i64 n4, .string s5] := by
    simp only [RepL]
    exact ⟨_, _, rfl, by simp [Rep], _, _, rfl, by simp [Rep], _, _, rfl, by simp [Rep], _, _, rfl, by simp [Rep], rfl⟩
  exact RepL.append hr hr2
theorem trodU (f : Nat) (cs : List Value) (x : DataW HT × List MemPlace) (h : DataW.trod enc Tryd.prog w base sp held f 28 cs = some x) : ∃ u : U, u.okN ∧ RepL (ghOf w) (cU.enc u) cs := by
  obtain ⟨f', rfl, hl, hp⟩ := trod_struct tabOk (tab_28) h
  obtain ⟨a, b, c, d, e, rfl⟩ : ∃ a b c d e, cs = [a, b, c, d, e] := by
    match cs, hl with
    | [a, b, c, d, e], _ => exact ⟨a, b, c, d, e, rfl⟩
  obtain ⟨y1, h1⟩ := hp _ (by simp : (0, 22) ∈ _)
  obtain ⟨y2, h2⟩ := hp _ (by simp : (1, 25) ∈ _)
  obtain ⟨y3, h3⟩ := hp _ (by simp : (4, 26) ∈ _)
  simp only [tabOk.cellsOf tab_22, tabOk.cellsOf tab_25, tabOk.cellsOf tab_26, List.drop_zero, List.drop_succ_cons, List.take_succ_cons, List.take_zero] at h1 h2 h3
  obtain ⟨l, V, e1, hr1, hml1, hok1⟩ := trod_slice tabOk tab_22 tab_9 cS rfl (fun s => (s.size : Int) ≤ 9223372036854775807) (fun cs y hy => trodS _ cs y hy) h1
  obtain ⟨e0, hok, hr⟩ := trodE _ _ _ h2
  obtain ⟨m, V3, e3, hr3, hml3, hok3⟩ := trod_slice tabOk tab_26 tab_45 cStep rfl (fun s : Step => s.says.ok ∧ (s.cite.size : Int) ≤ 9223372036854775807) (fun cs y hy => trodStep _ cs y hy) h3
  simp only [List.cons.injEq, and_true] at e1 e3
  subst e1 e3
  refine ⟨⟨l, e0, m⟩, ⟨⟨maxLen_int hml1, maxLen_int hml3, hok, fun s hs => (hok3 s hs).1⟩, hok1, fun s hs => (hok3 s hs).2⟩, ?_⟩
  rw [E.cells_eq] at hr
  have q1 : RepL (ghOf w) [.list .none (l.map cS.enc)] [a] := repL_one hr1
  have q3 : RepL (ghOf w) [.list .none (m.map cStep.enc)] [e] := repL_one hr3
  exact RepL.append q1 (RepL.append hr q3)
end
end Go.Proofs.YtkdendaohlnlcaaDoor.Av
