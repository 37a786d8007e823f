/- The heap of variables and tokens, how it stands to the model's world, and the small steps that keep this. No condition. -/
import Derived.Test.YtkdendaohlnlcaaDoorAv1
namespace Go.Proofs.YtkdendaohlnlcaaDoor.Av
set_option linter.unusedVariables false
set_option linter.unusedSimpArgs false
open Go.RowKit

inductive Ent where
  | cells (avs : List AV)
  | tok

abbrev Hp := Id → Option Ent
def Hp.upd (H : Hp) (i : Id) (e : Option Ent) : Hp := fun j => if j = i then e else H j
def Hp.Le (H H' : Hp) : Prop := ∀ i e, H i = some e → H' i = some e
theorem Hp.Le.refl (H : Hp) : H.Le H := fun _ _ h => h
theorem Hp.Le.trans {A B C : Hp} (h : A.Le B) (k : B.Le C) : A.Le C := fun i e x => k i e (h i e x)
theorem Hp.upd_same (H : Hp) (i : Id) (e : Option Ent) : H.upd i e i = e := by simp [Hp.upd]
theorem Hp.upd_ne (H : Hp) {i j : Id} (e : Option Ent) (h : j ≠ i) : H.upd i e j = H j := by simp [Hp.upd, h]
theorem Hp.le_upd {A H : Hp} {i : Id} {e : Option Ent} (h : A.Le H) (hn : A i = none) : A.Le (H.upd i e) := by
  intro j x hj
  by_cases hji : j = i
  · subst hji
    rw [hn] at hj
    cases hj
  · rw [Hp.upd_ne _ _ hji]
    exact h j x hj
theorem Hp.le_upd_none {A H : Hp} {i : Id} (h : A.Le H) (hn : A i = none) : A.Le (H.upd i none) := Hp.le_upd h hn

/-- The world at the start, and what was known then. -/
structure Base where
  w : World
  G : Gh
abbrev Base.heap (b : Base) := b.w.heap
/-- What is known of a block that is no cells. -/
def pinned (G : Gh) (H : Hp) (b : Nat) (o : Obj) (x : Option Id × Obj) : Prop := match x.1 with
  | none => o = x.2
  | some i => (i.sz = b ∧ G.τ i ≠ none) ∧ (H i = some .tok → o = x.2)
theorem pinned.later {G G' : Gh} {H H' : Hp} {b : Nat} {o : Obj} {x : Option Id × Obj} (h : pinned G H b o x) (hτ : ∀ i, G.τ i ≠ none → G'.τ i ≠ none) (hH : ∀ i, G.τ i ≠ none → H' i = some .tok → H i = some .tok) : pinned G' H' b o x := by
  unfold pinned at h ⊢
  split at h
  · exact h
  · exact ⟨⟨h.1.1, hτ _ h.1.2⟩, fun e => h.2 (hH _ h.1.2 e)⟩
structure Sim (w0 : Base) (G : Gh) (H : Hp) (w : World) : Prop where
  c : ∀ a v, G.C a = some v → w.cell? a = some v
  v : ∀ i b, G.σ i = some b → w0.heap.size ≤ b ∧ ∃ cs T, w.heap[b]? = some (.cells cs T (0, 0)) ∧ (cs.size = i.sz ∧ T = i.ty) ∧ (∀ a, a.block = b → G.C a = none) ∧ ∀ avs, H i = some (.cells avs) → RepL G avs cs.toList
  d : ∀ i avs, H i = some (.cells avs) → ∃ b, G.σ i = some b
  t : ∀ i, H i = some .tok → G.τ i = some none ∨ ∃ b m c T cs, G.τ i = some (some (b, m, c, T)) ∧ w0.heap.size ≤ b ∧ w.heap[b]? = some (.cells cs T (0, 0)) ∧ (m ≤ c ∧ T = i.ty) ∧ c * i.sz ≤ cs.size ∧ (∀ a, a.block = b → m * i.sz ≤ a.off → G.C a = none)
  inj : ∀ i j b, G.σ i = some b → G.σ j = some b → i = j
  tinj : ∀ i j b x y, H i = some .tok → H j = some .tok → G.τ i = some (some (b, x)) → G.τ j = some (some (b, y)) → i = j
  vt : ∀ i j b x, G.σ i = some b → H j = some .tok → G.τ j ≠ some (some (b, x))
  below : Below w0.heap.size w0.w w
  g : w0.G.Le G
  r : ∀ b L, G.ρ b = some L → w0.heap.size ≤ b ∧ ∃ o, w.heap[b]? = some o ∧ (∀ cs T f, o ≠ .cells cs T f) ∧ ∀ x ∈ L, pinned G H b o x

theorem Sim.base {w0 : Base} {G : Gh} {H : Hp} {w : World} (h : Sim w0 G H w) : w0.heap.size ≤ w.heap.size := h.below.size

theorem Sim.forget {w0 : Base} {G : Gh} {H H' : Hp} {w : World} (h : Sim w0 G H w) (hl : H'.Le H) : Sim w0 G H' w where
  c := h.c
  v := fun i b e => by
    obtain ⟨h1, cs, T, h2, h3, h4, h5⟩ := h.v i b e
    exact ⟨h1, cs, T, h2, h3, h4, fun avs ha => h5 avs (hl _ _ ha)⟩
  d := fun i avs e => h.d i avs (hl _ _ e)
  t := fun i e => h.t i (hl _ _ e)
  inj := h.inj
  tinj := fun i j b x y hi hj => h.tinj i j b x y (hl _ _ hi) (hl _ _ hj)
  vt := fun i j b x hi hj => h.vt i j b x hi (hl _ _ hj)
  below := h.below
  g := h.g
  r := fun b L e => by
    obtain ⟨h1, o, h2, h3, h4⟩ := h.r b L e
    exact ⟨h1, o, h2, h3, fun x hx => (h4 x hx).later (fun _ h => h) fun i _ hi => hl _ _ hi⟩

theorem Sim.lt_of_C {w0 : Base} {G : Gh} {H : Hp} {w : World} (h : Sim w0 G H w) {a : Addr} {v : Value} (e : G.C a = some v) : a.block < w.heap.size :=
  World.block_lt_of_cell? w a (h.c a v e)
theorem Sim.lt_of_σ {w0 : Base} {G : Gh} {H : Hp} {w : World} (h : Sim w0 G H w) {i : Id} {b : Nat} (e : G.σ i = some b) : b < w.heap.size := by
  obtain ⟨_, cs, T, h2, _⟩ := h.v i b e
  exact (Array.getElem?_eq_some_iff.1 h2).1

/-- A draw turns nothing. -/
theorem Sim.drew {w0 : Base} {G : Gh} {H : Hp} {w : World} (h : Sim w0 G H w) : Sim w0 G H w.drew := ⟨h.c, h.v, h.d, h.t, h.inj, h.tinj, h.vt, h.below.drew, h.g, h.r⟩

/-- A new block of which nothing is known yet. -/
theorem Sim.alloc {w0 : Base} {G : Gh} {H : Hp} {w : World} (h : Sim w0 G H w) (o : Obj) : Sim w0 G H (w.alloc o) where
  c := fun a v e => by rw [World.cell?_alloc_lt w o a (h.lt_of_C e)]; exact h.c a v e
  v := fun i b e => by
    obtain ⟨h1, cs, T, h2, h3⟩ := h.v i b e
    exact ⟨h1, cs, T, by rw [Below.heap_alloc w o b (h.lt_of_σ e)]; exact h2, h3⟩
  d := h.d
  t := fun i e => by
    rcases h.t i e with h1 | ⟨b, m, c, T, cs, h1, h2, h3, h4⟩
    · exact .inl h1
    · exact .inr ⟨b, m, c, T, cs, h1, h2, by rw [Below.heap_alloc w o b (Array.getElem?_eq_some_iff.1 h3).1]; exact h3, h4⟩
  inj := h.inj
  tinj := h.tinj
  vt := h.vt
  below := h.below.alloc h.base o
  g := h.g
  r := fun b x e => by
    obtain ⟨h1, o', h2, h3⟩ := h.r b x e
    exact ⟨h1, o', by rw [Below.heap_alloc w o b (Array.getElem?_eq_some_iff.1 h2).1]; exact h2, h3⟩

def Gh.withC (G : Gh) (f : Addr → Option Value) : Gh := { G with C := fun a => (G.C a).or (f a) }
theorem Gh.le_withC (G : Gh) (f : Addr → Option Value) : G.Le (G.withC f) := ⟨fun a v e => by simp [Gh.withC, e], fun _ _ h => h, fun _ _ h => h, fun _ _ h => h⟩
theorem Gh.withC_new (G : Gh) {f : Addr → Option Value} {a : Addr} {v : Value} (h : G.C a = none) (e : f a = some v) : (G.withC f).C a = some v := by simp [Gh.withC, h, e]

/-- More cells that nobody writes any more. -/
theorem Sim.withC {w0 : Base} {G : Gh} {H : Hp} {w : World} (h : Sim w0 G H w) (f : Addr → Option Value) (hf : ∀ a v, f a = some v → w.cell? a = some v)
    (hσ : ∀ i b, G.σ i = some b → ∀ a, a.block = b → f a = none)
    (hτ : ∀ i b m c T, H i = some .tok → G.τ i = some (some (b, m, c, T)) → ∀ a, a.block = b → m * i.sz ≤ a.off → f a = none) : Sim w0 (G.withC f) H w where
  c := fun a v e => by
    simp only [Gh.withC] at e
    cases hc : G.C a with
    | none => rw [hc] at e; simp at e; exact hf a v e
    | some u => rw [hc] at e; simp at e; subst e; exact h.c a u hc
  v := fun i b e => by
    obtain ⟨h1, cs, T, h2, h3, h4, h5⟩ := h.v i b e
    exact ⟨h1, cs, T, h2, h3, fun a ha => by simp [Gh.withC, h4 a ha, hσ i b e a ha], fun avs ha => RepL.mono (G.le_withC f) _ _ (h5 avs ha)⟩
  d := h.d
  t := fun i e => by
    rcases h.t i e with h1 | ⟨b, m, c, T, cs, h1, h2, h3, h4, h5, h6⟩
    · exact .inl h1
    exact .inr ⟨b, m, c, T, cs, h1, h2, h3, h4, h5, fun a ha ho => by simp [Gh.withC, h6 a ha ho, hτ i b m c T e h1 a ha ho]⟩
  inj := h.inj
  tinj := h.tinj
  vt := h.vt
  below := h.below
  g := h.g.trans (G.le_withC f)
  r := fun b L e => by
    obtain ⟨h1, o, h2, h3, h4⟩ := h.r b L e
    exact ⟨h1, o, h2, h3, fun x hx => (h4 x hx).later (fun _ h => h) fun i _ hi => hi⟩

/-- The cells of one block, from the beginning on. -/
def viewOf (b : Nat) (cs : Array Value) (n : Nat) : Addr → Option Value := fun a => if a.block = b ∧ a.spot = none ∧ a.off < n then cs[a.off]? else none
theorem viewOf_cell {w : World} {b : Nat} {cs : Array Value} {T : TypeId} {fr : Nat × Nat} {n : Nat} (hb : w.heap[b]? = some (.cells cs T fr)) : ∀ a v, viewOf b cs n a = some v → w.cell? a = some v := by
  intro a v e
  unfold viewOf at e
  split at e
  · rename_i hc
    obtain ⟨h1, h2, h3⟩ := hc
    unfold World.cell?
    rw [h1, hb]
    simp [h2, e]
  · cases e
theorem viewOf_none {b : Nat} {cs : Array Value} {n : Nat} {a : Addr} (h : a.block ≠ b) : viewOf b cs n a = none := by simp [viewOf, h]

/-- A new block that nobody will write. -/
theorem Sim.newRow {w0 : Base} {G : Gh} {H : Hp} {w : World} (h : Sim w0 G H w) (cs : Array Value) (T : TypeId) :
    Sim w0 (G.withC (viewOf w.heap.size cs cs.size)) H (w.alloc (.cells cs T)) := by
  have hnew : (w.alloc (.cells cs T)).heap[w.heap.size]? = some (.cells cs T (0, 0)) := by
    show (w.heap.push _)[w.heap.size]? = _
    simp
  refine (h.alloc (.cells cs T)).withC _ (viewOf_cell hnew) (fun i b e a ha => viewOf_none ?_) (fun i b m c T' e e2 a ha ho => viewOf_none ?_)
  · have := h.lt_of_σ e
    omega
  · rcases h.t i e with h1 | ⟨b', m', c', T'', cs', h1, h2, h3, _⟩
    · rw [e2] at h1
      cases h1
    rw [e2] at h1
    simp only [Option.some.injEq, Prod.mk.injEq] at h1
    have := (Array.getElem?_eq_some_iff.1 h3).1
    omega

theorem add_at (b k : Nat) : (⟨b, 0, none⟩ : Addr).add k = ⟨b, k, none⟩ := by
  unfold Addr.add
  split
  · rename_i h; subst h; rfl
  · simp

theorem RepC_of_list {G : Gh} {ad : Addr} : ∀ (as : List AV) (k : Nat) (vs : List Value), RepL G as vs → (∀ j v, vs[j]? = some v → G.C (ad.add (k + j)) = some v) → RepC G ad k as
  | [], _, _, _, _ => by simp [RepC]
  | a :: as, k, vs, h, hc => by
    simp only [RepL] at h
    obtain ⟨u, us, rfl, h1, h2⟩ := h
    simp only [RepC]
    refine ⟨⟨u, by simpa using hc 0 u rfl, h1⟩, RepC_of_list as (k + 1) us h2 fun j v hj => ?_⟩
    have := hc (j + 1) v (by simpa using hj)
    rwa [show k + 1 + j = k + (j + 1) by omega]

theorem RepL.length {G : Gh} : ∀ {as : List AV} {vs : List Value}, RepL G as vs → as.length = vs.length
  | [], _, h => by simp only [RepL] at h; subst h; rfl
  | a :: as, _, h => by
    simp only [RepL] at h
    obtain ⟨u, us, rfl, _, h2⟩ := h
    simp [RepL.length h2]

theorem RepL.get {G : Gh} : ∀ {as : List AV} {vs : List Value}, RepL G as vs → ∀ t : Nat, Rep G (as.getD t AV.undef) (vs.getD t Go.undef)
  | [], _, h, t => by simp only [RepL] at h; subst h; simp [Rep, AV.undef]
  | a :: as, _, h, 0 => by
    simp only [RepL] at h
    obtain ⟨u, us, rfl, h1, _⟩ := h
    simpa using h1
  | a :: as, _, h, t + 1 => by
    simp only [RepL] at h
    obtain ⟨u, us, rfl, _, h2⟩ := h
    simpa using RepL.get h2 t

theorem RepL.set {G : Gh} {v : AV} {V : Value} (hv : Rep G v V) : ∀ {as : List AV} {vs : List Value}, RepL G as vs → ∀ t : Nat, RepL G (as.set t v) (vs.set t V)
  | [], _, h, t => by simp only [RepL] at h; subst h; simp [RepL]
  | a :: as, _, h, 0 => by
    simp only [RepL] at h
    obtain ⟨u, us, rfl, _, h2⟩ := h
    simp only [List.set_cons_zero, RepL]
    exact ⟨V, us, rfl, hv, h2⟩
  | a :: as, _, h, t + 1 => by
    simp only [RepL] at h
    obtain ⟨u, us, rfl, h1, h2⟩ := h
    simp only [List.set_cons_succ, RepL]
    exact ⟨u, us.set t V, rfl, h1, RepL.set hv h2 t⟩

theorem RepL.append {G : Gh} : ∀ {as : List AV} {vs : List Value} {bs : List AV} {us : List Value}, RepL G as vs → RepL G bs us → RepL G (as ++ bs) (vs ++ us)
  | [], _, _, _, h, k => by simp only [RepL] at h; subst h; simpa using k
  | a :: as, _, _, _, h, k => by
    simp only [RepL] at h
    obtain ⟨u, us', rfl, h1, h2⟩ := h
    simp only [List.cons_append, RepL]
    exact ⟨u, _, rfl, h1, RepL.append h2 k⟩

theorem RepL.take {G : Gh} : ∀ {as : List AV} {vs : List Value} (n : Nat), RepL G as vs → RepL G (as.take n) (vs.take n)
  | [], _, n, h => by simp only [RepL] at h; subst h; simp [RepL]
  | a :: as, _, 0, h => by simp [RepL]
  | a :: as, _, n + 1, h => by
    simp only [RepL] at h
    obtain ⟨u, us, rfl, h1, h2⟩ := h
    simp only [List.take_succ_cons, RepL]
    exact ⟨u, _, rfl, h1, RepL.take n h2⟩

theorem RepL.drop {G : Gh} : ∀ {as : List AV} {vs : List Value} (n : Nat), RepL G as vs → RepL G (as.drop n) (vs.drop n)
  | as, vs, 0, h => by simpa using h
  | [], _, n + 1, h => by simp only [RepL] at h; subst h; simp [RepL]
  | a :: as, _, n + 1, h => by
    simp only [RepL] at h
    obtain ⟨u, us, rfl, _, h2⟩ := h
    simpa using RepL.drop n h2

theorem RepL.replicate (G : Gh) (n : Nat) : RepL G (List.replicate n AV.undef) (List.replicate n Go.undef) := by
  induction n with
  | zero => simp [RepL]
  | succ n ih =>
    simp only [List.replicate_succ, RepL]
    exact ⟨_, _, rfl, by simp [Rep, AV.undef], ih⟩

theorem RepC.split {G : Gh} {ad : Addr} : ∀ (as bs : List AV) (k : Nat), RepC G ad k (as ++ bs) ↔ RepC G ad k as ∧ RepC G ad (k + as.length) bs
  | [], bs, k => by simp [RepC]
  | a :: as, bs, k => by
    simp only [List.cons_append, RepC, RepC.split as bs (k + 1), List.length_cons]
    rw [show k + 1 + as.length = k + (as.length + 1) by omega]
    exact and_assoc.symm

theorem add_add (ad : Addr) (m k : Nat) : (ad.add m).add k = ad.add (m + k) := by
  unfold Addr.add
  by_cases h1 : m = 0 <;> by_cases h2 : k = 0 <;> simp_all <;> omega

theorem RepC.shift {G : Gh} {ad : Addr} (m : Nat) : ∀ (as : List AV) (k : Nat), RepC G (ad.add m) k as ↔ RepC G ad (m + k) as
  | [], k => by simp [RepC]
  | a :: as, k => by
    simp only [RepC, RepC.shift m as (k + 1), add_add]
    rw [show m + (k + 1) = m + k + 1 by omega]

/-- What lies there, as values. -/
theorem RepC.values {G : Gh} {ad : Addr} : ∀ (as : List AV) (k : Nat), RepC G ad k as → ∃ vs, RepL G as vs ∧ ∀ j v, vs[j]? = some v → G.C (ad.add (k + j)) = some v
  | [], k, _ => ⟨[], by simp [RepL], by simp⟩
  | a :: as, k, h => by
    simp only [RepC] at h
    obtain ⟨⟨u, e, h1⟩, h2⟩ := h
    obtain ⟨us, h3, h4⟩ := RepC.values as (k + 1) h2
    refine ⟨u :: us, by simp only [RepL]; exact ⟨u, us, rfl, h1, h3⟩, fun j v hj => ?_⟩
    cases j with
    | zero => simp at hj; subst hj; simpa using e
    | succ j =>
      have := h4 j v (by simpa using hj)
      rwa [show k + (j + 1) = k + 1 + j by omega]

end Go.Proofs.YtkdendaohlnlcaaDoor.Av
