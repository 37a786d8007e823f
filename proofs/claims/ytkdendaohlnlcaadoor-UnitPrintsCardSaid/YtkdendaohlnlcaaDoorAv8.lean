/- Variables: made, read, written; append. No condition. -/
import Derived.Test.YtkdendaohlnlcaaDoorAv7
namespace Go.Proofs.YtkdendaohlnlcaaDoor.Av
set_option linter.unusedVariables false
set_option linter.unusedSimpArgs false
open Go.RowKit

section
variable {P : Program} {tab : Tab} {w0 : Base} {k : List Nat}

theorem RepL.size {G : Gh} {as : List AV} {vs : Array Value} (h : RepL G as vs.toList) : as.length = vs.size := by simpa using h.length

def Gh.withσ (G : Gh) (id : Id) (b : Nat) : Gh := { G with σ := fun j => if j = id then some b else G.σ j }
theorem Gh.le_withσ {G : Gh} {id : Id} {b : Nat} (h : G.σ id = none) : G.Le (G.withσ id b) :=
  ⟨fun _ _ h => h, fun i c e => by
    simp only [Gh.withσ]
    split
    · rename_i hi; subst hi; rw [h] at e; cases e
    · exact e, fun _ _ h => h, fun _ _ h => h⟩
def Gh.withτ (G : Gh) (id : Id) (x : Option (Nat × Nat × Nat × TypeId)) : Gh := { G with τ := fun j => if j = id then some x else G.τ j }
theorem Gh.le_withτ {G : Gh} {id : Id} {x : Option (Nat × Nat × Nat × TypeId)} (h : G.τ id = none) : G.Le (G.withτ id x) :=
  ⟨fun _ _ h => h, fun _ _ h => h, fun i c e => by
    simp only [Gh.withτ]
    split
    · rename_i hi; subst hi; rw [h] at e; cases e
    · exact e, fun _ _ h => h⟩
theorem New.σ {G : Gh} {id : Id} {b : Nat} (hk : k <:+ id.key) : New k G (G.withσ id b) := fun i hi => by
  refine ⟨?_, rfl⟩
  simp only [Gh.withσ]
  split
  · rename_i h; subst h; exact absurd hk hi
  · rfl
theorem New.τ {G : Gh} {id : Id} {x : Option (Nat × Nat × Nat × TypeId)} (hk : k <:+ id.key) : New k G (G.withτ id x) := fun i hi => by
  refine ⟨rfl, ?_⟩
  simp only [Gh.withτ]
  split
  · rename_i h; subst h; exact absurd hk hi
  · rfl

theorem new_block {w : World} {cs : Array Value} {T : TypeId} : (w.alloc (.cells cs T)).heap[w.heap.size]? = some (.cells cs T (0, 0)) := by
  show (w.heap.push _)[w.heap.size]? = _
  simp

/-- A new variable. -/
theorem Sim.newVar {G : Gh} {H H' : Hp} {w : World} (h : Sim w0 G H w) (id : Id) (hid : G.σ id = none) (vs : Array Value) (T : TypeId) (hsz : vs.size = id.sz ∧ T = id.ty)
    (hH : ∀ i, i ≠ id → H' i = H i) (hn : H' id = none ∨ ∃ cs, H' id = some (.cells cs) ∧ RepL G cs vs.toList) : Sim w0 (G.withσ id w.heap.size) H' (w.alloc (.cells vs T)) := by
  have h1 := h.alloc (.cells vs T)
  have hle := Gh.le_withσ (b := w.heap.size) hid
  have htok : ∀ i, H' i = some .tok → H i = some .tok := fun i e => by
    by_cases hi : i = id
    · subst hi
      rcases hn with hn | ⟨cs, hn, _⟩ <;> rw [hn] at e <;> cases e
    · rwa [hH i hi] at e
  constructor
  · exact h1.c
  · intro i b e
    simp only [Gh.withσ] at e
    split at e
    · rename_i hi
      subst hi
      cases e
      refine ⟨h.base, vs, T, new_block, hsz, fun a ha => ?_, fun avs hav => ?_⟩
      · cases hc : G.C a with
        | none => exact hc
        | some u => have := h.lt_of_C hc; omega
      · rcases hn with hn | ⟨cs, hn, hr⟩
        · rw [hn] at hav; cases hav
        · rw [hn] at hav
          cases hav
          exact RepL.mono hle _ _ hr
    · rename_i hi
      obtain ⟨a1, cs, T', a2, a3, a4, a5⟩ := h1.v i b e
      exact ⟨a1, cs, T', a2, a3, a4, fun avs hav => RepL.mono hle _ _ (a5 avs (by rwa [hH i hi] at hav))⟩
  · intro i avs e
    by_cases hi : i = id
    · exact ⟨w.heap.size, by simp [Gh.withσ, hi]⟩
    · rw [hH i hi] at e
      obtain ⟨b, hb⟩ := h.d i avs e
      exact ⟨b, hle.σ i b hb⟩
  · intro i e
    rcases h1.t i (htok i e) with h2 | h2
    · exact .inl h2
    · exact .inr h2
  · intro i j b hi hj
    simp only [Gh.withσ] at hi hj
    split at hi <;> split at hj
    · simp_all
    · cases hi
      have := h.lt_of_σ hj
      omega
    · cases hj
      have := h.lt_of_σ hi
      omega
    · exact h.inj i j b hi hj
  · exact fun i j b x y hi hj => h.tinj i j b x y (htok i hi) (htok j hj)
  · intro i j b x hi hj e
    simp only [Gh.withσ] at hi
    split at hi
    · cases hi
      rcases h.t j (htok j hj) with h2 | ⟨b', m, c, T', cs, h2, h3, h4, _⟩
      · rw [show (G.withσ id w.heap.size).τ j = G.τ j from rfl, h2] at e
        cases e
      · rw [show (G.withσ id w.heap.size).τ j = G.τ j from rfl, h2] at e
        simp only [Option.some.injEq, Prod.mk.injEq] at e
        have := (Array.getElem?_eq_some_iff.1 h4).1
        omega
    · exact h.vt i j b x hi (htok j hj) e
  · exact h1.below
  · exact h.g.trans hle
  · intro b L e
    obtain ⟨r1, o, r2, r3, r4⟩ := h1.r b L e
    exact ⟨r1, o, r2, r3, fun x hx => (r4 x hx).later (fun _ h => h) fun i _ hi => htok i hi⟩

theorem OpOk.alloc (h : TabOk P tab) {o : Oper} {ρ : Operand → AV} {et : TypeId} {te : TI} (ho : o.op = .alloc et) (hte : tab et = some te) (H H' : Hp) (hz : (absC te.zero).cells.length = te.size)
    (hH : ∀ i, i ≠ ⟨te.size, k, et⟩ → H' i = H i) (hn : H' ⟨te.size, k, et⟩ = none ∨ H' ⟨te.size, k, et⟩ = some (.cells (absC te.zero).cells)) : OpOk P w0 k o ρ H H' (.ptr ⟨te.size, k, et⟩ 0) := by
  intro G w a hs hf hr K Q hK
  have hzr := (rep_absC G te.zero).cells
  have hrun : (execOp a.eval o).run P w = .ok (.value (.pointer (some ⟨w.heap.size, 0, none⟩))) (w.alloc (.cells te.zero.cells et)) := by
    simp [execOp, ho, Instr.alloc, h.zeroValue hte, newVar, newRow]
  have hid := (hf ⟨te.size, k, et⟩ (List.suffix_refl _)).1
  unfold Oper.wp
  rw [hrun]
  refine hK (G.withσ ⟨te.size, k, et⟩ w.heap.size) _ _ (Gh.le_withσ hid) (New.σ (List.suffix_refl _)) (hs.newVar ⟨te.size, k, et⟩ hid te.zero.cells et ?_ hH ?_) ?_
  · refine ⟨?_, rfl⟩
    have := hzr.size
    simp only
    omega
  · rcases hn with hn | hn
    · exact .inl hn
    · exact .inr ⟨_, hn, hzr⟩
  · simp only [Rep]
    exact ⟨w.heap.size, by simp [Gh.withσ], rfl⟩

theorem OpOk.boxVar {o : Oper} {ρ : Operand → AV} {et : TypeId} {x : Operand} (ho : o.op = .box et x) (H : Hp) :
    OpOk P w0 k o ρ H (H.upd ⟨(ρ x).cells.length, k, et⟩ (some (.cells (ρ x).cells))) (.ptr ⟨(ρ x).cells.length, k, et⟩ 0) := by
  intro G w a hs hf hr K Q hK
  have hx := (hr x (by simp [ho, Op.operands])).cells
  have hrun : (execOp a.eval o).run P w = .ok (.value (.pointer (some ⟨w.heap.size, 0, none⟩))) (w.alloc (.cells (a.eval x).cells et)) := by
    simp [execOp, ho, Instr.box, newVar, newRow]
  have hid := (hf ⟨(ρ x).cells.length, k, et⟩ (List.suffix_refl _)).1
  unfold Oper.wp
  rw [hrun]
  refine hK (G.withσ ⟨(ρ x).cells.length, k, et⟩ w.heap.size) _ _ (Gh.le_withσ hid) (New.σ (List.suffix_refl _)) (hs.newVar ⟨_, k, et⟩ hid _ et ?_ (fun i hi => Hp.upd_ne _ _ hi) ?_) ?_
  · exact ⟨hx.size.symm, rfl⟩
  · exact .inr ⟨_, Hp.upd_same _ _ _, hx⟩
  · simp only [Rep]
    exact ⟨w.heap.size, by simp [Gh.withσ], rfl⟩

/-- What is read of a variable. -/
def readA (ti : TI) (c : List AV) (off : Nat) : AV := partA ti (c.drop off) 0

theorem OpOk.load (h : TabOk P tab) {o : Oper} {ρ : Operand → AV} {t : TypeId} {ti : TI} {x : Operand} {id : Id} {off : Nat} {c : List AV} (ho : o.op = .load t x) (hx : ρ x = .ptr id off) (hti : tab t = some ti)
    (hl : off + ti.size ≤ c.length) (hp : 0 < ti.size) (H : Hp) (hH : H id = some (.cells c)) : OpOk P w0 k o ρ H H (readA ti c off) := by
  intro G w a hs hf hr K Q hK
  have hX := hr x (by simp [ho, Op.operands])
  rw [hx] at hX
  simp only [Rep] at hX
  obtain ⟨b, hb, hX⟩ := hX
  obtain ⟨_, cs, T, h2, h3, h4, h5⟩ := hs.v id b hb
  have hrc := h5 c hH
  have hlen := hrc.size
  -- the very view in which these cells are seen
  have hdrop := hrc.drop off
  have hcell : ∀ j v, (cs.toList.drop off)[j]? = some v → w.cell? ((⟨b, off, none⟩ : Addr).add j) = some v := fun j v hj => by
    have hadd : (⟨b, off, none⟩ : Addr).add j = ⟨b, off + j, none⟩ := by unfold Addr.add; split <;> simp_all
    rw [hadd]
    simp only [World.cell?, h2]
    simpa [List.getElem?_drop] using hj
  have hrun : ∃ V, (loadVar t ⟨b, off, none⟩).run P w = .ok V w ∧ Rep G (readA ti c off) V := by
    unfold loadVar readA partA
    simp only [Sem.run_bind, h.isAgg hti w, Result.andThen_ok]
    cases hA : ti.isAgg with
    | true =>
      have hload := run_loadCells_list (P := P) w ⟨b, off, none⟩ ((cs.toList.drop off).take ti.size) (fun j v hj => hcell j v (by
        rw [List.getElem?_take] at hj
        split at hj
        · exact hj
        · cases hj))
      rw [List.length_take, List.length_drop, Array.length_toList, Nat.min_eq_left (by omega)] at hload
      refine ⟨.agg ((cs.toList.drop off).take ti.size).toArray, by simp [h.sizeOf hti w, hload], ?_⟩
      simp only [if_true, Rep, List.drop_zero]
      exact ⟨_, rfl, hdrop.take _⟩
    | false =>
      have hlt : off < cs.size := by omega
      have hu := hcell 0 cs[off] (by simp [hlt])
      rw [show (⟨b, off, none⟩ : Addr).add 0 = ⟨b, off, none⟩ from rfl] at hu
      refine ⟨cs[off], by simp [hu], ?_⟩
      have := hrc.get off
      simp only [Bool.false_eq_true, if_false]
      have e1 : (c.drop off).getD 0 AV.undef = c.getD off AV.undef := by simp [List.getD_eq_getElem?_getD]
      rw [e1]
      simpa [List.getD_eq_getElem?_getD, hlt] using this
  obtain ⟨V, hV, hR⟩ := hrun
  unfold Oper.wp
  have : (execOp a.eval o).run P w = .ok (.value V) w := by simp [execOp, ho, Instr.loadAt, hX, Instr.sureAddr, hV]
  rw [this]
  exact hK G w V (Gh.Le.refl G) (New.refl k G) hs hR

/-- May it be stored into one cell? -/
def oneA : AV → Bool
  | .raw v => v.oneCell'
  | .agg _ | .tup _ => false
  | _ => true
theorem oneA_ok {G : Gh} {v : AV} {V : Value} (h : Rep G v V) (h1 : oneA v = true) : V.oneCell' = true := by
  cases v with
  | raw u => simp only [Rep] at h; subst h; exact h1
  | agg _ => simp [oneA] at h1
  | tup _ => simp [oneA] at h1
  | list t xs => simp only [Rep] at h; obtain ⟨A, n, c, rfl, _⟩ := h; rfl
  | ptr id off => simp only [Rep] at h; obtain ⟨b, _, rfl⟩ := h; rfl
  | sptr cells => simp only [Rep] at h; obtain ⟨b, rfl, _⟩ := h; rfl
  | arr id off len => simp only [Rep] at h; obtain ⟨b, _, rfl⟩ := h; rfl
  | rowp t xs => simp only [Rep] at h; obtain ⟨A, n, c, rfl | ⟨_, p, rfl⟩, _⟩ := h <;> rfl
  | clo fn f c => simp only [Rep] at h; obtain ⟨_, _, rfl, _⟩ := h; rfl
  | iface t v => simp only [Rep] at h; obtain ⟨_, rfl, _⟩ := h; rfl
theorem oneA_list {G : Gh} : ∀ {as : List AV} {vs : List Value}, RepL G as vs → as.all oneA = true → ∀ v ∈ vs, v.oneCell' = true
  | [], _, h, _, v, hv => by simp only [RepL] at h; subst h; simp at hv
  | a :: as, _, h, h1, v, hv => by
    simp only [RepL] at h
    obtain ⟨u, us, rfl, h2, h3⟩ := h
    simp only [List.all_cons, Bool.and_eq_true] at h1
    simp only [List.mem_cons] at hv
    rcases hv with rfl | hv
    · exact oneA_ok h2 h1.1
    · exact oneA_list h3 h1.2 v hv

theorem layAt_eq : ∀ (vs : List AV) (cs : List AV) (off : Nat), off + vs.length ≤ cs.length → layAt cs off vs = cs.take off ++ vs ++ cs.drop (off + vs.length)
  | [], cs, off, h => by simp [layAt]
  | v :: vs, cs, off, h => by
    simp only [layAt, List.length_cons] at h ⊢
    rw [layAt_eq vs (cs.set off v) (off + 1) (by simp; omega)]
    have hlt : off < cs.length := by omega
    rw [List.set_eq_take_append_cons_drop, if_pos hlt]
    have e1 : (cs.take off ++ v :: cs.drop (off + 1)).take (off + 1) = cs.take off ++ [v] := by
      rw [List.take_append, List.take_of_length_le (by simp; omega), List.length_take, Nat.min_eq_left (by omega)]
      rw [show off + 1 - off = 1 by omega]
      simp
    have e2 : (cs.take off ++ v :: cs.drop (off + 1)).drop (off + 1 + vs.length) = cs.drop (off + (vs.length + 1)) := by
      rw [List.drop_append, List.drop_of_length_le (by simp; omega), List.length_take, Nat.min_eq_left (by omega)]
      rw [show off + 1 + vs.length - off = vs.length + 1 by omega]
      simp only [List.nil_append, List.drop_succ_cons, List.drop_drop]
      congr 1
      omega
    rw [e1, e2]
    simp

theorem setRow_below {w : World} {g : Nat} {cs : Array Value} (h : Below w0.heap.size w0.w w) (hg : w0.heap.size ≤ g) : Below w0.heap.size w0.w (w.setRow g cs) :=
  h.trans ⟨rfl, rfl, rfl, by simp, fun i hi => setRow_other w g i cs (by omega)⟩

/-- A variable is written. -/
theorem Sim.store {G : Gh} {H H' : Hp} {w : World} (h : Sim w0 G H w) (id : Id) (b : Nat) (hb : G.σ id = some b) (cs : Array Value) (T : TypeId) (hcs : w.heap[b]? = some (.cells cs T (0, 0))) (new : Array Value) (hsz : new.size = cs.size)
    (avs : List AV) (hr : RepL G avs new.toList) (hH : H' = H.upd id (some (.cells avs))) : Sim w0 G H' (w.setRow b new) := by
  subst hH
  obtain ⟨hbase, cs', T', h2, h3, h4, h5⟩ := h.v id b hb
  rw [hcs] at h2
  simp only [Option.some.injEq, Obj.cells.injEq] at h2
  obtain ⟨rfl, rfl, _⟩ := h2
  have htok : ∀ i, (H.upd id (some (.cells avs))) i = some .tok → H i = some .tok := fun i e => by
    by_cases hi : i = id
    · subst hi
      rw [Hp.upd_same] at e
      cases e
    · rwa [Hp.upd_ne _ _ hi] at e
  constructor
  · intro a v e
    have hne : a.block ≠ b := fun hh => by rw [h4 a hh] at e; cases e
    have := h.c a v e
    rwa [World.cell?_of_block (w := w) (setRow_other w b a.block new hne)]
  · intro i c e
    by_cases hi : i = id
    · subst hi
      rw [hb] at e
      cases e
      exact ⟨hbase, new, T, setRow_heap w b cs new T (0, 0) hcs, ⟨by omega, h3.2⟩, h4, fun a ha => by
        rw [Hp.upd_same] at ha
        cases ha
        exact hr⟩
    · obtain ⟨a1, c1, T1, a2, a3, a4, a5⟩ := h.v i c e
      have hne : c ≠ b := fun hh => hi (h.inj i id c e (by rw [hh]; exact hb))
      exact ⟨a1, c1, T1, by rw [setRow_other w b c new hne]; exact a2, a3, a4, fun a ha => a5 a (by rwa [Hp.upd_ne _ _ hi] at ha)⟩
  · intro i a e
    by_cases hi : i = id
    · exact ⟨b, by rw [hi]; exact hb⟩
    · rw [Hp.upd_ne _ _ hi] at e
      exact h.d i a e
  · intro i e
    rcases h.t i (htok i e) with h6 | ⟨b', m, c, T1, c1, a1, a2, a3, a4⟩
    · exact .inl h6
    · have hne : b' ≠ b := fun hh => h.vt id i b (m, c, T1) hb (htok i e) (by rw [← hh]; exact a1)
      exact .inr ⟨b', m, c, T1, c1, a1, a2, by rw [setRow_other w b b' new hne]; exact a3, a4⟩
  · exact h.inj
  · exact fun i j c x y hi hj => h.tinj i j c x y (htok i hi) (htok j hj)
  · exact fun i j c x hi hj => h.vt i j c x hi (htok j hj)
  · exact setRow_below h.below hbase
  · exact h.g
  · intro l x e
    obtain ⟨r1, o, r2, r3, r4⟩ := h.r l x e
    have hne : l ≠ b := fun hh => by
      rw [hh, hcs] at r2
      cases r2
      exact r3 _ _ _ rfl
    exact ⟨r1, o, by rw [setRow_other w b l new hne]; exact r2, r3, fun y hy => (r4 y hy).later (fun _ h => h) fun i _ hi => htok i hi⟩

theorem OpOk.store (h : TabOk P tab) {o : Oper} {ρ : Operand → AV} {t : TypeId} {ti : TI} {x y : Operand} {id : Id} {off : Nat} {c : List AV} (ho : o.op = .store t x y) (hx : ρ x = .ptr id off) (hti : tab t = some ti)
    (hl : off + ti.size ≤ id.sz) (hv : (ρ y).cells.length = ti.size) (h1 : (ρ y).cells.all oneA = true) (H : Hp) (hH : H id = some (.cells c) ∨ (c.length = id.sz ∧ off = 0 ∧ ti.size = id.sz)) :
    OpOk P w0 k o ρ H (H.upd id (some (.cells (layAt c off (ρ y).cells)))) AV.undef := by
  intro G w a hs hf hr K Q hK
  have hX := hr x (by simp [ho, Op.operands])
  have hY := (hr y (by simp [ho, Op.operands])).cells
  rw [hx] at hX
  simp only [Rep] at hX
  obtain ⟨b, hb, hX⟩ := hX
  obtain ⟨_, cs, T, h2, h3, h4, h5⟩ := hs.v id b hb
  have hYl := hY.size
  have hst := run_storeCells_at P b off T (a.eval y).cells.toList 0 cs w h2 (by simp only [Array.length_toList]; omega) (oneA_list hY h1)
  have hrun : (execOp a.eval o).run P w = .ok .skip (w.setRow b (cs.toList.take off ++ (a.eval y).cells.toList ++ cs.toList.drop (off + (a.eval y).cells.toList.length)).toArray) := by
    simp only [execOp, ho, Sem.run_bind, Instr.storeAt, hX, Instr.sureAddr, Sem.run_pure, Result.andThen_ok, storeVar, h.sizeOf hti]
    rw [if_neg (by omega)]
    simp only [Nat.add_zero] at hst
    simp only [hst, Result.andThen_ok, Sem.run_pure, Sem.run_bind]
  have hnl : (cs.toList.take off ++ (a.eval y).cells.toList ++ cs.toList.drop (off + (a.eval y).cells.toList.length)).length = cs.size := by
    simp only [List.length_append, List.length_take, List.length_drop, Array.length_toList]
    omega
  have hcl : c.length = id.sz := by
    rcases hH with hH | hH
    · have := (h5 c hH).size
      omega
    · exact hH.1
  have hrep : RepL G (layAt c off (ρ y).cells) (cs.toList.take off ++ (a.eval y).cells.toList ++ cs.toList.drop (off + (a.eval y).cells.toList.length)) := by
    rw [layAt_eq _ _ _ (by omega)]
    rcases hH with hH | ⟨_, rfl, hz⟩
    · have hrc := h5 c hH
      have := RepL.append (RepL.append (hrc.take off) hY) (hrc.drop (off + (ρ y).cells.length))
      rwa [show (a.eval y).cells.toList.length = (ρ y).cells.length by simp only [Array.length_toList]; omega]
    · rw [List.take_zero, List.take_zero, List.drop_of_length_le (by omega), List.drop_of_length_le (by simp only [Array.length_toList]; omega)]
      simpa using hY
  unfold Oper.wp
  rw [hrun]
  exact hK G _ Go.undef (Gh.Le.refl G) (New.refl k G) (hs.store id b hb cs T h2 _ (by simpa using hnl) _ (by simpa using hrep) rfl) (by simp [Rep])

end
end Go.Proofs.YtkdendaohlnlcaaDoor.Av
