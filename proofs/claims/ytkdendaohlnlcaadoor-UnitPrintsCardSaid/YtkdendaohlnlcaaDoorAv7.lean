/- What the operations do that make memory, read or write variables, or append. No condition. -/
import Derived.Test.YtkdendaohlnlcaaDoorAv6
import Derived.Laws.Append
import Derived.Laws.AppendOwn
import Derived.Deep.Upon
import Derived.ArgAppend
namespace Go.Proofs.YtkdendaohlnlcaaDoor.Av
set_option linter.unusedVariables false
set_option linter.unusedSimpArgs false
open Go.RowKit

def Fresh (G : Gh) (k : List Nat) : Prop := ∀ i : Id, k <:+ i.key → G.σ i = none ∧ G.τ i = none
def New (k : List Nat) (G G' : Gh) : Prop := ∀ i : Id, ¬ k <:+ i.key → G'.σ i = G.σ i ∧ G'.τ i = G.τ i
theorem New.refl (k : List Nat) (G : Gh) : New k G G := fun _ _ => ⟨rfl, rfl⟩

/-- What an operation at the place k does: it answers v, and H becomes H'. -/
def OpOk (P : Program) (w0 : Base) (k : List Nat) (o : Oper) (ρ : Operand → AV) (H H' : Hp) (v : AV) : Prop :=
  ∀ (G : Gh) (w : World) (a : Act), Sim w0 G H w → Fresh G k → (∀ x ∈ o.op.operands.toList, Rep G (ρ x) (a.eval x)) →
    ∀ (K : Act → World → Prop) (Q : Exit → Act → World → Prop), (∀ G' w' V, G.Le G' → New k G G' → Sim w0 G' H' w' → Rep G' v V → K (a.put o.dst V) w') → o.wp P a w K Q

section
variable {P : Program} {tab : Tab} {w0 : Base} {k : List Nat}

theorem OpOk.quiet {o : Oper} {ρ : Operand → AV} {v : AV} (h : Quiet P o ρ v) (H : Hp) : OpOk P w0 k o ρ H H v := by
  intro G w a hs hf hr K Q hK
  obtain ⟨V, hV, hR⟩ := h G w a.eval hs.c hr
  unfold Oper.wp
  rw [hV]
  exact hK G w V (Gh.Le.refl G) (New.refl k G) hs hR

/-! ### memory that nobody will write -/
theorem rep_newRow {G : Gh} {H : Hp} {w : World} (h : Sim w0 G H w) {cs : List AV} {vs : Array Value} (hr : RepL G cs vs.toList) :
    RepC (G.withC (viewOf w.heap.size vs vs.size)) ⟨w.heap.size, 0, none⟩ 0 cs := by
  refine RepC_of_list cs 0 vs.toList (RepL.mono (G.le_withC _) _ _ hr) fun j v hj => ?_
  rw [add_at, Nat.zero_add]
  refine G.withC_new ?_ ?_
  · cases hc : G.C ⟨w.heap.size, j, none⟩ with
    | none => rfl
    | some u => have := h.lt_of_C hc; simp at this
  · have hlt : j < vs.size := by
      have := (List.getElem?_eq_some_iff.1 hj).1
      simpa using this
    simp only [viewOf]
    rw [if_pos ⟨trivial, trivial, hlt⟩]
    simpa using hj

theorem OpOk.boxConst {o : Oper} {ρ : Operand → AV} {et : TypeId} {x : Operand} (ho : o.op = .box et x) (H : Hp) : OpOk P w0 k o ρ H H (.sptr (ρ x).cells) := by
  intro G w a hs hf hr K Q hK
  have hx := (hr x (by simp [ho, Op.operands])).cells
  have hrun : (execOp a.eval o).run P w = .ok (.value (.pointer (some ⟨w.heap.size, 0, none⟩))) (w.alloc (.cells (a.eval x).cells et)) := by
    simp [execOp, ho, Instr.box, newVar, newRow]
  unfold Oper.wp
  rw [hrun]
  refine hK _ _ _ (G.le_withC _) (fun _ _ => ⟨rfl, rfl⟩) (hs.newRow _ et) ?_
  simp only [Rep]
  exact ⟨_, rfl, rep_newRow hs hx⟩

theorem RepE_of_list {G : Gh} {ad : Addr} : ∀ (xs : List (List AV)) (k : Nat), RepC G ad k xs.flatten → RepE G ad k xs
  | [], k, _ => by simp [RepE]
  | x :: xs, k, h => by
    simp only [List.flatten_cons] at h
    have := (RepC.split x xs.flatten k).1 h
    simp only [RepE]
    exact ⟨this.1, RepE_of_list xs _ this.2⟩
theorem RepE.flat {G : Gh} {ad : Addr} : ∀ (xs : List (List AV)) (k : Nat), RepE G ad k xs → RepC G ad k xs.flatten
  | [], k, _ => by simp [RepC]
  | x :: xs, k, h => by
    simp only [RepE] at h
    simp only [List.flatten_cons]
    exact (RepC.split x xs.flatten k).2 ⟨h.1, RepE.flat xs _ h.2⟩
theorem flatten_length {sz : Nat} : ∀ (xs : List (List AV)), (∀ x ∈ xs, x.length = sz) → xs.flatten.length = xs.length * sz
  | [], _ => by simp
  | x :: xs, h => by
    simp only [List.flatten_cons, List.length_append, List.length_cons, flatten_length xs fun y hy => h y (by simp [hy]), h x (by simp), Nat.succ_mul]
    omega

/-- A token that stands for nothing any more stands for nothing in an element. -/
def strip : AV → AV
  | .list _ xs => .list .none xs
  | v => v
theorem Rep.strip {G : Gh} {v : AV} {V : Value} (h : Rep G v V) : Rep G (strip v) V := by
  cases v <;> try exact h
  simp only [Av.strip, Rep] at h ⊢
  obtain ⟨A, n, c, h1, h2, h3, _, h5⟩ := h
  exact ⟨A, n, c, h1, h2, h3, trivial, h5⟩
theorem RepL.strip {G : Gh} : ∀ {as : List AV} {vs : List Value}, RepL G as vs → RepL G (as.map Av.strip) vs
  | [], _, h => by simp only [RepL] at h; subst h; simp [RepL]
  | a :: as, _, h => by
    simp only [RepL] at h
    obtain ⟨u, us, rfl, h1, h2⟩ := h
    simp only [List.map_cons, RepL]
    exact ⟨u, us, rfl, h1.strip, RepL.strip h2⟩

/-- So many pieces of one length. -/
def chunks (sz : Nat) (cs : List AV) : Nat → List (List AV)
  | 0 => []
  | n + 1 => cs.take sz :: chunks sz (cs.drop sz) n
theorem chunks_flat (sz : Nat) : ∀ (n : Nat) (cs : List AV), cs.length = n * sz → (chunks sz cs n).flatten = cs
  | 0, cs, h => by
    simp at h
    subst h
    rfl
  | n + 1, cs, h => by
    simp only [chunks, List.flatten_cons]
    rw [chunks_flat sz n (cs.drop sz) (by rw [List.length_drop, h, Nat.succ_mul]; omega), List.take_append_drop]
theorem chunks_length (sz : Nat) : ∀ (n : Nat) (cs : List AV), (chunks sz cs n).length = n
  | 0, cs => rfl
  | n + 1, cs => by simp [chunks, chunks_length sz n]
theorem chunks_each (sz : Nat) : ∀ (n : Nat) (cs : List AV), cs.length = n * sz → ∀ x ∈ chunks sz cs n, x.length = sz
  | 0, cs, h, x, hx => by simp [chunks] at hx
  | n + 1, cs, h, x, hx => by
    simp only [chunks, List.mem_cons] at hx
    rcases hx with rfl | hx
    · rw [List.length_take, h, Nat.succ_mul]
      omega
    · exact chunks_each sz n _ (by rw [List.length_drop, h, Nat.succ_mul]; omega) x hx

def zeroCellsA (z : Value) (n : Nat) : List AV := (List.range n).map fun j => (absC z).cells.getD (j % (absC z).cells.length) AV.undef

def sliceLitA (tab : Tab) (t : TypeId) (len : Nat) (parts : List (Nat × AV)) : Option AV :=
  match tab t with
  | some ⟨.slice e, _, _, _⟩ => match tab e with
    | some te => if len * te.size ≤ 16777216 ∧ 0 < te.size ∧ (absC te.zero).cells.length = te.size then
        match fillA (fun i => some (i * te.size, te.size)) (zeroCellsA te.zero (len * te.size)) parts with
        | some cs => some (.list .full (chunks te.size (cs.map strip) len))
        | none => none
      else none
    | none => none
  | _ => none

theorem fillA_length {pl : Nat → Option (Nat × Nat)} : ∀ (parts : List (Nat × AV)) (cells cs : List AV), fillA pl cells parts = some cs → cs.length = cells.length
  | [], cells, cs, e => by simp only [fillA, Option.some.injEq] at e; rw [e]
  | (i, v) :: parts, cells, cs, e => by
    simp only [fillA] at e
    split at e <;> try cases e
    split at e <;> try cases e
    rw [fillA_length parts _ _ e, layAt_length]

theorem RepL.get_lt {G : Gh} : ∀ {as : List AV} {vs : List Value}, RepL G as vs → ∀ (t : Nat) (d : Value), t < as.length → Rep G (as.getD t AV.undef) (vs.getD t d)
  | [], _, h, t, d, ht => by simp at ht
  | a :: as, _, h, 0, d, _ => by
    simp only [RepL] at h
    obtain ⟨u, us, rfl, h1, _⟩ := h
    simpa using h1
  | a :: as, _, h, t + 1, d, ht => by
    simp only [RepL] at h
    obtain ⟨u, us, rfl, _, h2⟩ := h
    simpa using RepL.get_lt h2 t d (by simpa using ht)

theorem zeroCells_ok (G : Gh) (z : Value) (n : Nat) (hz : 0 < (absC z).cells.length) : RepL G (zeroCellsA z n) ((Array.range n).map (z.cells[· % z.cells.size]!)).toList := by
  have hr := (rep_absC G z).cells
  have hl : (absC z).cells.length = z.cells.size := by simpa using hr.length
  unfold zeroCellsA
  rw [Array.toList_map, Array.toList_range]
  have : ∀ l : List Nat, RepL G (l.map fun j => (absC z).cells.getD (j % (absC z).cells.length) AV.undef) (l.map fun j => z.cells[j % z.cells.size]!) := by
    intro l
    induction l with
    | nil => simp [RepL]
    | cons j l ih =>
      simp only [List.map_cons, RepL]
      refine ⟨_, _, rfl, ?_, ih⟩
      rw [← hl]
      have h1 := RepL.get_lt hr (j % (absC z).cells.length) default (Nat.mod_lt _ hz)
      rwa [show z.cells[j % (absC z).cells.length]! = z.cells.toList.getD (j % (absC z).cells.length) default by
        simp [getElem!_def, List.getD_eq_getElem?_getD]
        cases z.cells[j % (absC z).cells.length]? <;> rfl]
  exact this _

theorem OpOk.sliceLit (h : TabOk P tab) {o : Oper} {ρ : Operand → AV} {t : TypeId} {len : Nat} {parts : Array (Nat × Operand)} {v : AV} (ho : o.op = .buildSlice t len parts)
    (e : sliceLitA tab t len (parts.toList.map fun p => (p.1, ρ p.2)) = some v) (H : Hp) : OpOk P w0 k o ρ H H v := by
  intro G w a hs hf hr K Q hK
  unfold sliceLitA at e
  split at e <;> try cases e
  rename_i el a1 a2 z ht
  split at e <;> try cases e
  rename_i te hte
  split at e <;> try cases e
  rename_i hc
  split at e <;> cases e
  rename_i cs hcs
  obtain ⟨c1, c2, c3⟩ := hc
  have hu := h.slice ht
  have hpr : RepP G (parts.toList.map fun p => (p.1, ρ p.2)) (parts.toList.map fun p => (p.1, a.eval p.2)) :=
    RepP_of parts.toList fun p hp => hr p.2 (by simp [ho, Op.operands]; exact ⟨p.1, by simpa using hp⟩)
  have hlen := fillA_length _ _ _ hcs
  have hzl : (zeroCellsA te.zero (len * te.size)).length = len * te.size := by simp [zeroCellsA]
  rw [hzl] at hlen
  obtain ⟨vs', f1, f2⟩ := fill_ok (pc := fun i => some (i * te.size, te.size)) (fun j q hj => hj) _ _ _ cs ((Array.range (len * te.size)).map (te.zero.cells[· % te.zero.cells.size]!)) hpr
    (zeroCells_ok G te.zero _ (by omega)) hcs
  have hrun : (execOp a.eval o).run P w = .ok (.value (.slice (some ⟨w.heap.size, 0, none⟩) len len)) (w.alloc (.cells vs' el)) := by
    simp only [execOp, ho, Sem.run_bind, Instr.buildSlice, run_underlying hu, Result.andThen_ok, h.sizeOf hte]
    rw [if_neg (by omega)]
    by_cases h0 : len * te.size = 0
    · rw [if_pos h0]
      have f1' := f1
      rw [h0] at f1'
      simp only [Sem.run_pure, Sem.run_bind, Result.andThen_ok, h0]
      have : (parts.map fun (x : Nat × Operand) => match x with | (i, x) => (i, a.eval x)).toList = parts.toList.map fun p => (p.1, a.eval p.2) := by rw [Array.toList_map]
      rw [this]
      have e0 : (Array.map (fun x => (#[] : Array Value)[x % (#[] : Array Value).size]!) (Array.range 0)) = Array.map (fun x => te.zero.cells[x % te.zero.cells.size]!) (Array.range 0) := by simp
      rw [e0, f1']
      simp [newRow]
    · rw [if_neg h0]
      simp only [Sem.run_pure, Sem.run_bind, Result.andThen_ok, h.zeroValue hte]
      have : (parts.map fun (x : Nat × Operand) => match x with | (i, x) => (i, a.eval x)).toList = parts.toList.map fun p => (p.1, a.eval p.2) := by rw [Array.toList_map]
      rw [this, f1]
      simp [newRow]
  unfold Oper.wp
  rw [hrun]
  refine hK _ _ _ (G.le_withC _) (fun _ _ => ⟨rfl, rfl⟩) (hs.newRow vs' el) ?_
  simp only [Rep]
  have hfl : (chunks te.size (cs.map strip) len).flatten = cs.map strip := chunks_flat te.size len _ (by rw [List.length_map, hlen])
  refine ⟨_, _, _, rfl, (chunks_length _ _ _).symm, Nat.le_refl _, rfl, ⟨te.size, chunks_each te.size len _ (by rw [List.length_map, hlen])⟩, ⟨w.heap.size, 0, none⟩, fun _ => rfl, RepE_of_list _ _ ?_⟩
  rw [hfl]
  exact rep_newRow hs f2.strip

end
end Go.Proofs.YtkdendaohlnlcaaDoor.Av
