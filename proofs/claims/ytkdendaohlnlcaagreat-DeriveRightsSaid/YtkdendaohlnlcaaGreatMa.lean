/- A part of the theory and of the contracts: Av1, Av2, Av3, Av4, Av5, Av6, Av7, Av8, Av9, AvS, Av10, Av11, AvQ, Av12. No condition. -/
import Derived.Below
import Derived.Laws.World
import Derived.Calls
import Derived.Orders
import Derived.Laws.CopyRow
import Derived.Laws.Cells
import Derived.Laws.Entries
import Derived.ChangeKeysEq
import Derived.Laws.Tables
import Derived.Laws.Append
import Derived.Laws.AppendOwn
import Derived.Deep.Upon
import Derived.ArgAppend
import Derived.Deep.AppendSrc
import Derived.Lib.Builder
import Derived.Lib.UnsafeStr
import Derived.OrdersIn
import Derived.RangeFuncCalls
import Derived.DeepKeys
import Derived.RangeFuncSeq
import Derived.LoopN
import Derived.Scope
import Derived.Tactics
/- A theory of values without memory over the model: what a value stands for (lists, trees, variables by name), and that this outlives whatever writes elsewhere. No condition. -/
namespace Go.Proofs.YtkdendaohlnlcaaGreat.Av
set_option linter.unusedVariables false
set_option linter.unusedSimpArgs false
open Go.RowKit

/-- The name of a variable that a run has made: how many cells it has, where in the run it was made, and its type. -/
structure Id where
  sz : Nat
  key : List Nat
  ty : TypeId
  deriving DecidableEq

/-- May a list be appended to: unknown; it is nil; it has no room (an append makes a new one); it is the row behind a token. -/
inductive Tok where
  | none
  | nil
  | full
  | tok (id : Id)

/-- A value without memory. -/
inductive AV where
  | raw (v : Value)
  | list (t : Tok) (xs : List (List AV))
  | ptr (id : Id) (off : Nat)
  | sptr (cells : List AV)
  | arr (id : Id) (off len : Nat)
  | rowp (t : Tok) (xs : List (List AV))
  | iter (id : Id)
  | clo (fn : Fn) (first caps : List AV)
  | iface (t : TypeId) (v : AV)
  | agg (cells : List AV)
  | tup (vs : List AV)

abbrev AV.int (k : IntKind) (n : Int) : AV := .raw (.int k n)
abbrev AV.bool (b : Bool) : AV := .raw (.bool b)
abbrev AV.str (s : ByteArray) : AV := .raw (.string s)
abbrev AV.undef : AV := .raw Go.undef

/-- What is known of memory: cells that nobody writes any more; the blocks of variables; the rows of tokens (none: no room; block, how many elements, room, element type); blocks that are no cells: what lies there, always, or as long as a token lives. -/
structure Gh where
  C : Addr → Option Value
  σ : Id → Option Nat
  τ : Id → Option (Option (Nat × Nat × Nat × TypeId))
  ρ : Nat → Option (List (Option Id × Obj))

structure Gh.Le (G G' : Gh) : Prop where
  C : ∀ a v, G.C a = some v → G'.C a = some v
  σ : ∀ i b, G.σ i = some b → G'.σ i = some b
  τ : ∀ i b, G.τ i = some b → G'.τ i = some b
  ρ : ∀ b o, G.ρ b = some o → G'.ρ b = some o

theorem Gh.Le.refl (G : Gh) : G.Le G := ⟨fun _ _ h => h, fun _ _ h => h, fun _ _ h => h, fun _ _ h => h⟩
theorem Gh.Le.trans {A B C : Gh} (h : A.Le B) (k : B.Le C) : A.Le C :=
  ⟨fun a v e => k.C a v (h.C a v e), fun a v e => k.σ a v (h.σ a v e), fun a v e => k.τ a v (h.τ a v e), fun a v e => k.ρ a v (h.ρ a v e)⟩

def tokOk (G : Gh) (A : Option Addr) (n c : Nat) : Tok → Prop
  | .none => True
  | .nil => A = none ∧ c = 0
  | .full => c = n
  | .tok id => ∃ b T, G.τ id = some (some (b, n, c, T)) ∧ A = some ⟨b, 0, none⟩

def uniform (xs : List (List AV)) : Prop := ∃ sz, ∀ x, x ∈ xs → x.length = sz

mutual
def Rep (G : Gh) : AV → Value → Prop
  | .raw v, V => V = v
  | .list t xs, V => ∃ A n c, V = .slice A n c ∧ n = xs.length ∧ n ≤ c ∧ tokOk G A n c t ∧ uniform xs ∧ ∃ ad, (xs ≠ [] → A = some ad) ∧ RepE G ad 0 xs
  | .ptr id off, V => ∃ b, G.σ id = some b ∧ V = .pointer (some ⟨b, off, none⟩)
  | .sptr cells, V => ∃ ad, V = .pointer (some ad) ∧ RepC G ad 0 cells
  | .arr id off len, V => ∃ b, G.σ id = some b ∧ V = .slice (some ⟨b, off, none⟩) len len
  | .rowp t xs, V => ∃ A n c, (V = .pointer A ∨ xs = [] ∧ ∃ p, V = .pointer p) ∧ n = xs.length ∧ n ≤ c ∧ tokOk G A n c t ∧ uniform xs ∧ ∃ ad, (xs ≠ [] → A = some ad) ∧ RepE G ad 0 xs
  | .iter id, V => ∃ b, G.τ id = some (some (b, 0, 0, 0)) ∧ V = .pointer (some ⟨b, 0, none⟩)
  | .clo fn first caps, V => ∃ f c, V = .func fn f.toArray c.toArray ∧ RepL G first f ∧ RepL G caps c
  | .iface t v, V => ∃ u, V = .iface t u ∧ Rep G v u
  | .agg cells, V => ∃ cs, V = .agg cs.toArray ∧ RepL G cells cs
  | .tup vs, V => ∃ cs, V = .tuple cs.toArray ∧ RepL G vs cs
def RepL (G : Gh) : List AV → List Value → Prop
  | [], vs => vs = []
  | a :: as, vs => ∃ u us, vs = u :: us ∧ Rep G a u ∧ RepL G as us
def RepC (G : Gh) (ad : Addr) (k : Nat) : List AV → Prop
  | [] => True
  | a :: as => (∃ v, G.C (ad.add k) = some v ∧ Rep G a v) ∧ RepC G ad (k + 1) as
def RepE (G : Gh) (ad : Addr) (k : Nat) : List (List AV) → Prop
  | [] => True
  | x :: xs => RepC G ad k x ∧ RepE G ad (k + x.length) xs
end

theorem tokOk.mono {G G' : Gh} (h : G.Le G') {A : Option Addr} {n c : Nat} {t : Tok} (k : tokOk G A n c t) : tokOk G' A n c t := by
  cases t with
  | none => exact k
  | nil => exact k
  | full => exact k
  | tok id =>
    obtain ⟨b, T, e, ha⟩ := k
    exact ⟨b, T, h.τ _ _ e, ha⟩

mutual
theorem Rep.mono {G G' : Gh} (h : G.Le G') : ∀ (a : AV) (V : Value), Rep G a V → Rep G' a V
  | .raw v, V, k => by simpa [Rep] using k
  | .list t xs, V, k => by
    simp only [Rep] at k ⊢
    obtain ⟨A, n, c, e, hn, hc, ht, hu, ad, ha, hr⟩ := k
    exact ⟨A, n, c, e, hn, hc, ht.mono h, hu, ad, ha, RepE.mono h ad 0 xs hr⟩
  | .ptr id off, V, k => by
    simp only [Rep] at k ⊢
    obtain ⟨b, e, hv⟩ := k
    exact ⟨b, h.σ _ _ e, hv⟩
  | .sptr cells, V, k => by
    simp only [Rep] at k ⊢
    obtain ⟨ad, e, hr⟩ := k
    exact ⟨ad, e, RepC.mono h ad 0 cells hr⟩
  | .arr id off len, V, k => by
    simp only [Rep] at k ⊢
    obtain ⟨b, e, hv⟩ := k
    exact ⟨b, h.σ _ _ e, hv⟩
  | .rowp t xs, V, k => by
    simp only [Rep] at k ⊢
    obtain ⟨A, n, c, e, hn, hc, ht, hu, ad, ha, hr⟩ := k
    exact ⟨A, n, c, e, hn, hc, ht.mono h, hu, ad, ha, RepE.mono h ad 0 xs hr⟩
  | .iter id, V, k => by
    simp only [Rep] at k ⊢
    obtain ⟨b, e, hv⟩ := k
    exact ⟨b, h.τ _ _ e, hv⟩
  | .clo fn first caps, V, k => by
    simp only [Rep] at k ⊢
    obtain ⟨f, c, e, h1, h2⟩ := k
    exact ⟨f, c, e, RepL.mono h first f h1, RepL.mono h caps c h2⟩
  | .iface t v, V, k => by
    simp only [Rep] at k ⊢
    obtain ⟨u, e, hr⟩ := k
    exact ⟨u, e, Rep.mono h v u hr⟩
  | .agg cells, V, k => by
    simp only [Rep] at k ⊢
    obtain ⟨cs, e, hr⟩ := k
    exact ⟨cs, e, RepL.mono h cells cs hr⟩
  | .tup vs, V, k => by
    simp only [Rep] at k ⊢
    obtain ⟨cs, e, hr⟩ := k
    exact ⟨cs, e, RepL.mono h vs cs hr⟩
theorem RepL.mono {G G' : Gh} (h : G.Le G') : ∀ (as : List AV) (vs : List Value), RepL G as vs → RepL G' as vs
  | [], vs, k => by simpa [RepL] using k
  | a :: as, vs, k => by
    simp only [RepL] at k ⊢
    obtain ⟨u, us, e, h1, h2⟩ := k
    exact ⟨u, us, e, Rep.mono h a u h1, RepL.mono h as us h2⟩
theorem RepC.mono {G G' : Gh} (h : G.Le G') (ad : Addr) : ∀ (k : Nat) (as : List AV), RepC G ad k as → RepC G' ad k as
  | _, [], _ => by simp [RepC]
  | k, a :: as, hk => by
    simp only [RepC] at hk ⊢
    obtain ⟨⟨v, e, h1⟩, h2⟩ := hk
    exact ⟨⟨v, h.C _ _ e, Rep.mono h a v h1⟩, RepC.mono h ad (k + 1) as h2⟩
theorem RepE.mono {G G' : Gh} (h : G.Le G') (ad : Addr) : ∀ (k : Nat) (xs : List (List AV)), RepE G ad k xs → RepE G' ad k xs
  | _, [], _ => by simp [RepE]
  | k, x :: xs, hk => by
    simp only [RepE] at hk ⊢
    exact ⟨RepC.mono h ad k x hk.1, RepE.mono h ad (k + x.length) xs hk.2⟩
end

end Go.Proofs.YtkdendaohlnlcaaGreat.Av

/- The heap of variables and tokens, how it stands to the model's world, and the small steps that keep this. No condition. -/
namespace Go.Proofs.YtkdendaohlnlcaaGreat.Av
set_option linter.unusedVariables false
set_option linter.unusedSimpArgs false
open Go.RowKit

inductive Ent where
  | cells (avs : List AV)
  | tok

abbrev Hp := Id → Option Ent
def Hp.upd (H : Hp) (i : Id) (e : Option Ent) : Hp := fun j => if j = i then e else H j
def Hp.Le (H H' : Hp) : Prop := ∀ i e, H i = some e → H' i = some e
theorem Hp.Le.refl (H : Hp) : H.Le H := fun _ _ h => h
theorem Hp.Le.trans {A B C : Hp} (h : A.Le B) (k : B.Le C) : A.Le C := fun i e x => k i e (h i e x)
theorem Hp.upd_same (H : Hp) (i : Id) (e : Option Ent) : H.upd i e i = e := by simp [Hp.upd]
theorem Hp.upd_ne (H : Hp) {i j : Id} (e : Option Ent) (h : j ≠ i) : H.upd i e j = H j := by simp [Hp.upd, h]
theorem Hp.le_upd {A H : Hp} {i : Id} {e : Option Ent} (h : A.Le H) (hn : A i = none) : A.Le (H.upd i e) := by
  intro j x hj
  by_cases hji : j = i
  · subst hji
    rw [hn] at hj
    cases hj
  · rw [Hp.upd_ne _ _ hji]
    exact h j x hj
theorem Hp.le_upd_none {A H : Hp} {i : Id} (h : A.Le H) (hn : A i = none) : A.Le (H.upd i none) := Hp.le_upd h hn

/-- The world at the start, and what was known then. -/
structure Base where
  w : World
  G : Gh
abbrev Base.heap (b : Base) := b.w.heap
/-- What is known of a block that is no cells. -/
def pinned (G : Gh) (H : Hp) (b : Nat) (o : Obj) (x : Option Id × Obj) : Prop := match x.1 with
  | none => o = x.2
  | some i => (i.sz = b ∧ G.τ i ≠ none) ∧ (H i = some .tok → o = x.2)
theorem pinned.later {G G' : Gh} {H H' : Hp} {b : Nat} {o : Obj} {x : Option Id × Obj} (h : pinned G H b o x) (hτ : ∀ i, G.τ i ≠ none → G'.τ i ≠ none) (hH : ∀ i, G.τ i ≠ none → H' i = some .tok → H i = some .tok) : pinned G' H' b o x := by
  unfold pinned at h ⊢
  split at h
  · exact h
  · exact ⟨⟨h.1.1, hτ _ h.1.2⟩, fun e => h.2 (hH _ h.1.2 e)⟩
structure Sim (w0 : Base) (G : Gh) (H : Hp) (w : World) : Prop where
  c : ∀ a v, G.C a = some v → w.cell? a = some v
  v : ∀ i b, G.σ i = some b → w0.heap.size ≤ b ∧ ∃ cs T, w.heap[b]? = some (.cells cs T (0, 0)) ∧ (cs.size = i.sz ∧ T = i.ty) ∧ (∀ a, a.block = b → G.C a = none) ∧ ∀ avs, H i = some (.cells avs) → RepL G avs cs.toList
  d : ∀ i avs, H i = some (.cells avs) → ∃ b, G.σ i = some b
  t : ∀ i, H i = some .tok → G.τ i = some none ∨ ∃ b m c T cs, G.τ i = some (some (b, m, c, T)) ∧ w0.heap.size ≤ b ∧ w.heap[b]? = some (.cells cs T (0, 0)) ∧ (m ≤ c ∧ T = i.ty) ∧ c * i.sz ≤ cs.size ∧ (∀ a, a.block = b → m * i.sz ≤ a.off → G.C a = none)
  inj : ∀ i j b, G.σ i = some b → G.σ j = some b → i = j
  tinj : ∀ i j b x y, H i = some .tok → H j = some .tok → G.τ i = some (some (b, x)) → G.τ j = some (some (b, y)) → i = j
  vt : ∀ i j b x, G.σ i = some b → H j = some .tok → G.τ j ≠ some (some (b, x))
  below : Below w0.heap.size w0.w w
  g : w0.G.Le G
  r : ∀ b L, G.ρ b = some L → w0.heap.size ≤ b ∧ ∃ o, w.heap[b]? = some o ∧ (∀ cs T f, o ≠ .cells cs T f) ∧ ∀ x ∈ L, pinned G H b o x

theorem Sim.base {w0 : Base} {G : Gh} {H : Hp} {w : World} (h : Sim w0 G H w) : w0.heap.size ≤ w.heap.size := h.below.size

theorem Sim.forget {w0 : Base} {G : Gh} {H H' : Hp} {w : World} (h : Sim w0 G H w) (hl : H'.Le H) : Sim w0 G H' w where
  c := h.c
  v := fun i b e => by
    obtain ⟨h1, cs, T, h2, h3, h4, h5⟩ := h.v i b e
    exact ⟨h1, cs, T, h2, h3, h4, fun avs ha => h5 avs (hl _ _ ha)⟩
  d := fun i avs e => h.d i avs (hl _ _ e)
  t := fun i e => h.t i (hl _ _ e)
  inj := h.inj
  tinj := fun i j b x y hi hj => h.tinj i j b x y (hl _ _ hi) (hl _ _ hj)
  vt := fun i j b x hi hj => h.vt i j b x hi (hl _ _ hj)
  below := h.below
  g := h.g
  r := fun b L e => by
    obtain ⟨h1, o, h2, h3, h4⟩ := h.r b L e
    exact ⟨h1, o, h2, h3, fun x hx => (h4 x hx).later (fun _ h => h) fun i _ hi => hl _ _ hi⟩

theorem Sim.lt_of_C {w0 : Base} {G : Gh} {H : Hp} {w : World} (h : Sim w0 G H w) {a : Addr} {v : Value} (e : G.C a = some v) : a.block < w.heap.size :=
  World.block_lt_of_cell? w a (h.c a v e)
theorem Sim.lt_of_σ {w0 : Base} {G : Gh} {H : Hp} {w : World} (h : Sim w0 G H w) {i : Id} {b : Nat} (e : G.σ i = some b) : b < w.heap.size := by
  obtain ⟨_, cs, T, h2, _⟩ := h.v i b e
  exact (Array.getElem?_eq_some_iff.1 h2).1

/-- A draw turns nothing. -/
theorem Sim.drew {w0 : Base} {G : Gh} {H : Hp} {w : World} (h : Sim w0 G H w) : Sim w0 G H w.drew := ⟨h.c, h.v, h.d, h.t, h.inj, h.tinj, h.vt, h.below.drew, h.g, h.r⟩

/-- A new block of which nothing is known yet. -/
theorem Sim.alloc {w0 : Base} {G : Gh} {H : Hp} {w : World} (h : Sim w0 G H w) (o : Obj) : Sim w0 G H (w.alloc o) where
  c := fun a v e => by rw [World.cell?_alloc_lt w o a (h.lt_of_C e)]; exact h.c a v e
  v := fun i b e => by
    obtain ⟨h1, cs, T, h2, h3⟩ := h.v i b e
    exact ⟨h1, cs, T, by rw [Below.heap_alloc w o b (h.lt_of_σ e)]; exact h2, h3⟩
  d := h.d
  t := fun i e => by
    rcases h.t i e with h1 | ⟨b, m, c, T, cs, h1, h2, h3, h4⟩
    · exact .inl h1
    · exact .inr ⟨b, m, c, T, cs, h1, h2, by rw [Below.heap_alloc w o b (Array.getElem?_eq_some_iff.1 h3).1]; exact h3, h4⟩
  inj := h.inj
  tinj := h.tinj
  vt := h.vt
  below := h.below.alloc h.base o
  g := h.g
  r := fun b x e => by
    obtain ⟨h1, o', h2, h3⟩ := h.r b x e
    exact ⟨h1, o', by rw [Below.heap_alloc w o b (Array.getElem?_eq_some_iff.1 h2).1]; exact h2, h3⟩

def Gh.withC (G : Gh) (f : Addr → Option Value) : Gh := { G with C := fun a => (G.C a).or (f a) }
theorem Gh.le_withC (G : Gh) (f : Addr → Option Value) : G.Le (G.withC f) := ⟨fun a v e => by simp [Gh.withC, e], fun _ _ h => h, fun _ _ h => h, fun _ _ h => h⟩
theorem Gh.withC_new (G : Gh) {f : Addr → Option Value} {a : Addr} {v : Value} (h : G.C a = none) (e : f a = some v) : (G.withC f).C a = some v := by simp [Gh.withC, h, e]

/-- More cells that nobody writes any more. -/
theorem Sim.withC {w0 : Base} {G : Gh} {H : Hp} {w : World} (h : Sim w0 G H w) (f : Addr → Option Value) (hf : ∀ a v, f a = some v → w.cell? a = some v)
    (hσ : ∀ i b, G.σ i = some b → ∀ a, a.block = b → f a = none)
    (hτ : ∀ i b m c T, H i = some .tok → G.τ i = some (some (b, m, c, T)) → ∀ a, a.block = b → m * i.sz ≤ a.off → f a = none) : Sim w0 (G.withC f) H w where
  c := fun a v e => by
    simp only [Gh.withC] at e
    cases hc : G.C a with
    | none => rw [hc] at e; simp at e; exact hf a v e
    | some u => rw [hc] at e; simp at e; subst e; exact h.c a u hc
  v := fun i b e => by
    obtain ⟨h1, cs, T, h2, h3, h4, h5⟩ := h.v i b e
    exact ⟨h1, cs, T, h2, h3, fun a ha => by simp [Gh.withC, h4 a ha, hσ i b e a ha], fun avs ha => RepL.mono (G.le_withC f) _ _ (h5 avs ha)⟩
  d := h.d
  t := fun i e => by
    rcases h.t i e with h1 | ⟨b, m, c, T, cs, h1, h2, h3, h4, h5, h6⟩
    · exact .inl h1
    exact .inr ⟨b, m, c, T, cs, h1, h2, h3, h4, h5, fun a ha ho => by simp [Gh.withC, h6 a ha ho, hτ i b m c T e h1 a ha ho]⟩
  inj := h.inj
  tinj := h.tinj
  vt := h.vt
  below := h.below
  g := h.g.trans (G.le_withC f)
  r := fun b L e => by
    obtain ⟨h1, o, h2, h3, h4⟩ := h.r b L e
    exact ⟨h1, o, h2, h3, fun x hx => (h4 x hx).later (fun _ h => h) fun i _ hi => hi⟩

/-- The cells of one block, from the beginning on. -/
def viewOf (b : Nat) (cs : Array Value) (n : Nat) : Addr → Option Value := fun a => if a.block = b ∧ a.spot = none ∧ a.off < n then cs[a.off]? else none
theorem viewOf_cell {w : World} {b : Nat} {cs : Array Value} {T : TypeId} {fr : Nat × Nat} {n : Nat} (hb : w.heap[b]? = some (.cells cs T fr)) : ∀ a v, viewOf b cs n a = some v → w.cell? a = some v := by
  intro a v e
  unfold viewOf at e
  split at e
  · rename_i hc
    obtain ⟨h1, h2, h3⟩ := hc
    unfold World.cell?
    rw [h1, hb]
    simp [h2, e]
  · cases e
theorem viewOf_none {b : Nat} {cs : Array Value} {n : Nat} {a : Addr} (h : a.block ≠ b) : viewOf b cs n a = none := by simp [viewOf, h]

/-- A new block that nobody will write. -/
theorem Sim.newRow {w0 : Base} {G : Gh} {H : Hp} {w : World} (h : Sim w0 G H w) (cs : Array Value) (T : TypeId) :
    Sim w0 (G.withC (viewOf w.heap.size cs cs.size)) H (w.alloc (.cells cs T)) := by
  have hnew : (w.alloc (.cells cs T)).heap[w.heap.size]? = some (.cells cs T (0, 0)) := by
    show (w.heap.push _)[w.heap.size]? = _
    simp
  refine (h.alloc (.cells cs T)).withC _ (viewOf_cell hnew) (fun i b e a ha => viewOf_none ?_) (fun i b m c T' e e2 a ha ho => viewOf_none ?_)
  · have := h.lt_of_σ e
    omega
  · rcases h.t i e with h1 | ⟨b', m', c', T'', cs', h1, h2, h3, _⟩
    · rw [e2] at h1
      cases h1
    rw [e2] at h1
    simp only [Option.some.injEq, Prod.mk.injEq] at h1
    have := (Array.getElem?_eq_some_iff.1 h3).1
    omega

theorem add_at (b k : Nat) : (⟨b, 0, none⟩ : Addr).add k = ⟨b, k, none⟩ := by
  unfold Addr.add
  split
  · rename_i h; subst h; rfl
  · simp

theorem RepC_of_list {G : Gh} {ad : Addr} : ∀ (as : List AV) (k : Nat) (vs : List Value), RepL G as vs → (∀ j v, vs[j]? = some v → G.C (ad.add (k + j)) = some v) → RepC G ad k as
  | [], _, _, _, _ => by simp [RepC]
  | a :: as, k, vs, h, hc => by
    simp only [RepL] at h
    obtain ⟨u, us, rfl, h1, h2⟩ := h
    simp only [RepC]
    refine ⟨⟨u, by simpa using hc 0 u rfl, h1⟩, RepC_of_list as (k + 1) us h2 fun j v hj => ?_⟩
    have := hc (j + 1) v (by simpa using hj)
    rwa [show k + 1 + j = k + (j + 1) by omega]

theorem RepL.length {G : Gh} : ∀ {as : List AV} {vs : List Value}, RepL G as vs → as.length = vs.length
  | [], _, h => by simp only [RepL] at h; subst h; rfl
  | a :: as, _, h => by
    simp only [RepL] at h
    obtain ⟨u, us, rfl, _, h2⟩ := h
    simp [RepL.length h2]

theorem RepL.get {G : Gh} : ∀ {as : List AV} {vs : List Value}, RepL G as vs → ∀ t : Nat, Rep G (as.getD t AV.undef) (vs.getD t Go.undef)
  | [], _, h, t => by simp only [RepL] at h; subst h; simp [Rep, AV.undef]
  | a :: as, _, h, 0 => by
    simp only [RepL] at h
    obtain ⟨u, us, rfl, h1, _⟩ := h
    simpa using h1
  | a :: as, _, h, t + 1 => by
    simp only [RepL] at h
    obtain ⟨u, us, rfl, _, h2⟩ := h
    simpa using RepL.get h2 t

theorem RepL.set {G : Gh} {v : AV} {V : Value} (hv : Rep G v V) : ∀ {as : List AV} {vs : List Value}, RepL G as vs → ∀ t : Nat, RepL G (as.set t v) (vs.set t V)
  | [], _, h, t => by simp only [RepL] at h; subst h; simp [RepL]
  | a :: as, _, h, 0 => by
    simp only [RepL] at h
    obtain ⟨u, us, rfl, _, h2⟩ := h
    simp only [List.set_cons_zero, RepL]
    exact ⟨V, us, rfl, hv, h2⟩
  | a :: as, _, h, t + 1 => by
    simp only [RepL] at h
    obtain ⟨u, us, rfl, h1, h2⟩ := h
    simp only [List.set_cons_succ, RepL]
    exact ⟨u, us.set t V, rfl, h1, RepL.set hv h2 t⟩

theorem RepL.append {G : Gh} : ∀ {as : List AV} {vs : List Value} {bs : List AV} {us : List Value}, RepL G as vs → RepL G bs us → RepL G (as ++ bs) (vs ++ us)
  | [], _, _, _, h, k => by simp only [RepL] at h; subst h; simpa using k
  | a :: as, _, _, _, h, k => by
    simp only [RepL] at h
    obtain ⟨u, us', rfl, h1, h2⟩ := h
    simp only [List.cons_append, RepL]
    exact ⟨u, _, rfl, h1, RepL.append h2 k⟩

theorem RepL.take {G : Gh} : ∀ {as : List AV} {vs : List Value} (n : Nat), RepL G as vs → RepL G (as.take n) (vs.take n)
  | [], _, n, h => by simp only [RepL] at h; subst h; simp [RepL]
  | a :: as, _, 0, h => by simp [RepL]
  | a :: as, _, n + 1, h => by
    simp only [RepL] at h
    obtain ⟨u, us, rfl, h1, h2⟩ := h
    simp only [List.take_succ_cons, RepL]
    exact ⟨u, _, rfl, h1, RepL.take n h2⟩

theorem RepL.drop {G : Gh} : ∀ {as : List AV} {vs : List Value} (n : Nat), RepL G as vs → RepL G (as.drop n) (vs.drop n)
  | as, vs, 0, h => by simpa using h
  | [], _, n + 1, h => by simp only [RepL] at h; subst h; simp [RepL]
  | a :: as, _, n + 1, h => by
    simp only [RepL] at h
    obtain ⟨u, us, rfl, _, h2⟩ := h
    simpa using RepL.drop n h2

theorem RepL.replicate (G : Gh) (n : Nat) : RepL G (List.replicate n AV.undef) (List.replicate n Go.undef) := by
  induction n with
  | zero => simp [RepL]
  | succ n ih =>
    simp only [List.replicate_succ, RepL]
    exact ⟨_, _, rfl, by simp [Rep, AV.undef], ih⟩

theorem RepC.split {G : Gh} {ad : Addr} : ∀ (as bs : List AV) (k : Nat), RepC G ad k (as ++ bs) ↔ RepC G ad k as ∧ RepC G ad (k + as.length) bs
  | [], bs, k => by simp [RepC]
  | a :: as, bs, k => by
    simp only [List.cons_append, RepC, RepC.split as bs (k + 1), List.length_cons]
    rw [show k + 1 + as.length = k + (as.length + 1) by omega]
    exact and_assoc.symm

theorem add_add (ad : Addr) (m k : Nat) : (ad.add m).add k = ad.add (m + k) := by
  unfold Addr.add
  by_cases h1 : m = 0 <;> by_cases h2 : k = 0 <;> simp_all <;> omega

theorem RepC.shift {G : Gh} {ad : Addr} (m : Nat) : ∀ (as : List AV) (k : Nat), RepC G (ad.add m) k as ↔ RepC G ad (m + k) as
  | [], k => by simp [RepC]
  | a :: as, k => by
    simp only [RepC, RepC.shift m as (k + 1), add_add]
    rw [show m + (k + 1) = m + k + 1 by omega]

/-- What lies there, as values. -/
theorem RepC.values {G : Gh} {ad : Addr} : ∀ (as : List AV) (k : Nat), RepC G ad k as → ∃ vs, RepL G as vs ∧ ∀ j v, vs[j]? = some v → G.C (ad.add (k + j)) = some v
  | [], k, _ => ⟨[], by simp [RepL], by simp⟩
  | a :: as, k, h => by
    simp only [RepC] at h
    obtain ⟨⟨u, e, h1⟩, h2⟩ := h
    obtain ⟨us, h3, h4⟩ := RepC.values as (k + 1) h2
    refine ⟨u :: us, by simp only [RepL]; exact ⟨u, us, rfl, h1, h3⟩, fun j v hj => ?_⟩
    cases j with
    | zero => simp at hj; subst hj; simpa using e
    | succ j =>
      have := h4 j v (by simpa using hj)
      rwa [show k + (j + 1) = k + 1 + j by omega]

end Go.Proofs.YtkdendaohlnlcaaGreat.Av

/- What each operation without memory of its own answers on values without memory, and that the model's operation answers that. No condition. -/
namespace Go.Proofs.YtkdendaohlnlcaaGreat.Av
set_option linter.unusedVariables false
set_option linter.unusedSimpArgs false
open Go.RowKit

/-- A type as far as it is needed here. -/
inductive TD where
  | bool | int (k : IntKind) | string | pointer (e : TypeId) | slice (e : TypeId) | array (n : Nat) (e : TypeId)
  | struct (fs : List (Nat × TypeId)) | map (k e : TypeId) | func | iface (n : Nat) | unsafeP | other

def tdOf : TypeDesc → TD
  | .bool => .bool
  | .int k => .int k
  | .string => .string
  | .pointer e => .pointer e
  | .slice e => .slice e
  | .array n e => .array n e
  | .struct fs => .struct (fs.toList.map fun f => (f.offset, f.type))
  | .map k e => .map k e
  | .func .. => .func
  | .interface ms => .iface ms.size
  | .unsafePointer => .unsafeP
  | _ => .other

structure TI where
  td : TD
  size : Nat
  bytes : Nat
  zero : Value

def TI.isAgg (t : TI) : Bool := match t.td with
  | .struct _ | .array _ _ => true
  | _ => false

abbrev Tab := TypeId → Option TI

def TabOk (P : Program) (tab : Tab) : Prop := ∀ t ti, tab t = some ti → ∃ i d, P.info? t = some i ∧ P.underlying t = some d ∧ tdOf d = ti.td ∧ i.size = ti.size ∧ i.bytes = ti.bytes ∧ i.zero = some ti.zero

section
variable {P : Program} {tab : Tab}

theorem TabOk.isAgg (h : TabOk P tab) {t : TypeId} {ti : TI} (e : tab t = some ti) (w : World) : (Go.isAgg t).run P w = .ok ti.isAgg w := by
  obtain ⟨i, d, h1, h2, h3, _⟩ := h t ti e
  unfold Go.isAgg
  simp only [Sem.run_bind, run_underlying h2, Result.andThen_ok]
  unfold TI.isAgg
  rw [← h3]
  cases d <;> simp [tdOf]
theorem TabOk.sizeOf (h : TabOk P tab) {t : TypeId} {ti : TI} (e : tab t = some ti) (w : World) : (Go.sizeOf t).run P w = .ok ti.size w := by
  obtain ⟨i, d, h1, h2, h3, h4, _⟩ := h t ti e
  simp [Go.sizeOf, run_typeInfo w h1, h4]
theorem TabOk.zeroValue (h : TabOk P tab) {t : TypeId} {ti : TI} (e : tab t = some ti) (w : World) : (Go.zeroValue t).run P w = .ok ti.zero w := by
  obtain ⟨i, d, h1, h2, h3, h4, h5, h6⟩ := h t ti e
  simp [Go.zeroValue, run_typeInfo w h1, h6]
end

def absC1 : Value → AV
  | .slice none 0 0 => .list .nil []
  | v => .raw v
/-- A constant. -/
def absC : Value → AV
  | .agg cs => .agg (cs.toList.map absC1)
  | v => absC1 v

theorem rep_absC1 (G : Gh) (v : Value) : Rep G (absC1 v) v := by
  unfold absC1
  split
  · simp only [Rep]
    exact ⟨none, 0, 0, rfl, rfl, Nat.le_refl _, ⟨rfl, rfl⟩, ⟨0, by simp⟩, ⟨0, 0, none⟩, by simp, by simp [RepE]⟩
  · simp [Rep]
theorem repL_absC1 (G : Gh) : ∀ vs : List Value, RepL G (vs.map absC1) vs
  | [] => by simp [RepL]
  | v :: vs => by simp only [List.map_cons, RepL]; exact ⟨v, vs, rfl, rep_absC1 G v, repL_absC1 G vs⟩
theorem rep_absC (G : Gh) (v : Value) : Rep G (absC v) v := by
  unfold absC
  split
  · simp only [Rep]
    exact ⟨_, by simp, repL_absC1 G _⟩
  · exact rep_absC1 G v

def evA (tmps : List AV) : Operand → AV
  | .tmp t => tmps.getD t AV.undef
  | .const v => absC v
  | .global g => .raw (.pointer (some ⟨g, 0, none⟩))
  | .func f => .clo (.func f) [] []

theorem rep_eval {G : Gh} {tmps : List AV} {a : Act} (h : RepL G tmps a.tmps.toList) (x : Operand) : Rep G (evA tmps x) (a.eval x) := by
  cases x with
  | tmp t =>
    have := RepL.get h t
    simp only [evA, Act.eval]
    rwa [show a.tmps.getD t Go.undef = a.tmps.toList.getD t Go.undef by simp [Array.getD_eq_getD_getElem?, List.getD_eq_getElem?_getD]]
  | const v => exact rep_absC G v
  | global g => simp [evA, Act.eval, Rep]
  | func f =>
    simp only [evA, Act.eval, Rep]
    exact ⟨[], [], rfl, by simp [RepL], by simp [RepL]⟩

def AV.cells : AV → List AV
  | .agg cs => cs
  | .raw (.agg cs) => cs.toList.map .raw
  | v => [v]
theorem repL_raw (G : Gh) : ∀ vs : List Value, RepL G (vs.map .raw) vs
  | [] => by simp [RepL]
  | v :: vs => by simp only [List.map_cons, RepL]; exact ⟨v, vs, rfl, by simp [Rep], repL_raw G vs⟩
theorem repL_one {G : Gh} {v : AV} {V : Value} (h : Rep G v V) : RepL G [v] [V] := by
  simp only [RepL]
  exact ⟨V, [], rfl, h, rfl⟩
theorem Rep.cells {G : Gh} {v : AV} {V : Value} (h : Rep G v V) : RepL G v.cells V.cells.toList := by
  have one : ∀ {a : AV}, Rep G a V → (∀ cs, V ≠ .agg cs) → a.cells = [a] → RepL G a.cells V.cells.toList := by
    intro a ha hn hc
    rw [hc]
    cases V <;> first | exact absurd rfl (hn _) | exact repL_one ha
  cases v with
  | agg cs =>
    simp only [Rep] at h
    obtain ⟨vs, rfl, h1⟩ := h
    simpa [AV.cells, Value.cells] using h1
  | raw v =>
    simp only [Rep] at h
    subst h
    cases V with
    | agg cs => exact repL_raw G cs.toList
    | _ => exact repL_one (by simp [Rep])
  | list t xs => exact one h (by simp only [Rep] at h; obtain ⟨A, n, c, rfl, _⟩ := h; simp) rfl
  | ptr id off => exact one h (by simp only [Rep] at h; obtain ⟨b, _, rfl⟩ := h; simp) rfl
  | sptr cells => exact one h (by simp only [Rep] at h; obtain ⟨b, rfl, _⟩ := h; simp) rfl
  | arr id off len => exact one h (by simp only [Rep] at h; obtain ⟨b, _, rfl⟩ := h; simp) rfl
  | rowp t xs => exact one h (by simp only [Rep] at h; obtain ⟨A, n, c, rfl | ⟨_, p, rfl⟩, _⟩ := h <;> simp) rfl
  | iter id => exact one h (by simp only [Rep] at h; obtain ⟨b, _, rfl⟩ := h; simp) rfl
  | clo fn f c => exact one h (by simp only [Rep] at h; obtain ⟨_, _, rfl, _⟩ := h; simp) rfl
  | iface t v => exact one h (by simp only [Rep] at h; obtain ⟨_, rfl, _⟩ := h; simp) rfl
  | tup vs => exact one h (by simp only [Rep] at h; obtain ⟨_, rfl, _⟩ := h; simp) rfl

/-! ### the operations -/
def andI (k : IntKind) (a b : Int) : Int := k.wrap (BitVec.ofInt k.bits a &&& BitVec.ofInt k.bits b).toNat
def orI (k : IntKind) (a b : Int) : Int := k.wrap (BitVec.ofInt k.bits a ||| BitVec.ofInt k.bits b).toNat
def andNotI (k : IntKind) (a b : Int) : Int := k.wrap (BitVec.ofInt k.bits a &&& ~~~BitVec.ofInt k.bits b).toNat
def shlI (k : IntKind) (a b : Int) : Int := k.wrap (a * 2 ^ (min b.toNat k.bits))
def shrI (k : IntKind) (a b : Int) : Int := a.fdiv (2 ^ (min b.toNat k.bits))
def binInt (op : BinOp) (k k' : IntKind) (a b : Int) : Option (Prop × AV) :=
  match op with
  | .add => some (k = k', .int k (k.wrap (a + b)))
  | .sub => some (k = k', .int k (k.wrap (a - b)))
  | .mul => some (k = k', .int k (k.wrap (a * b)))
  | .quo => some (k = k' ∧ b ≠ 0, .int k (k.wrap (a.tdiv b)))
  | .rem => some (k = k' ∧ b ≠ 0, .int k (a.tmod b))
  | .and => some (k = k', .int k (andI k a b))
  | .or => some (k = k', .int k (orI k a b))
  | .xor => some (k = k', .int k (k.wrap (BitVec.ofInt k.bits a ^^^ BitVec.ofInt k.bits b).toNat))
  | .andNot => some (k = k', .int k (andNotI k a b))
  | .shl => some (0 ≤ b, .int k (shlI k a b))
  | .shr => some (0 ≤ b, .int k (shrI k a b))
  | .eql => some (k = k', .bool (a == b))
  | .neq => some (k = k', .bool (a != b))
  | .lss => some (k = k', .bool (decide (a < b)))
  | .leq => some (k = k', .bool (decide (a ≤ b)))
  | .gtr => some (k = k', .bool (decide (a > b)))
  | .geq => some (k = k', .bool (decide (a ≥ b)))

def binStr (op : BinOp) (x y : ByteArray) : Option (Prop × AV) :=
  match op with
  | .add => some (((x.size + y.size : Nat) : Int) ≤ 9223372036854775807, .str (x ++ y))
  | .eql => some (True, .bool (x.toList == y.toList))
  | .neq => some (True, .bool (!(x.toList == y.toList)))
  | .lss => some (True, .bool (Op.bytesLess x.toList y.toList))
  | .leq => some (True, .bool (Op.bytesLess x.toList y.toList || x.toList == y.toList))
  | .gtr => some (True, .bool (!(Op.bytesLess x.toList y.toList || x.toList == y.toList)))
  | .geq => some (True, .bool (!(Op.bytesLess x.toList y.toList)))
  | _ => none

def binBool (op : BinOp) (x y : Bool) : Option (Prop × AV) :=
  match op with
  | .eql => some (True, .bool (x == y))
  | .neq => some (True, .bool (!(x == y)))
  | _ => none

/-- Are two pointers one? (None: that is not known.) -/
def ptrEq : AV → AV → Option Bool
  | .raw (.pointer none), .raw (.pointer none) => some true
  | .raw (.pointer none), .ptr _ _ => some false
  | .raw (.pointer none), .sptr _ => some false
  | .ptr _ _, .raw (.pointer none) => some false
  | .sptr _, .raw (.pointer none) => some false
  | .ptr i o, .ptr j p => if i = j ∧ o = p then some true else none
  | _, _ => none
def binPtr (tab : Tab) (op : BinOp) (t : TypeId) (x y : AV) : Option (Prop × AV) :=
  match tab t with
  | some ⟨.pointer e, _, _, _⟩ => match tab e with
    | some te => match ptrEq x y with
      | some b => match op with
        | .eql => some (0 < te.size, .bool b)
        | .neq => some (0 < te.size, .bool !b)
        | _ => none
      | none => none
    | none => none
  | _ => none
def binA (tab : Tab) (op : BinOp) (t : TypeId) : AV → AV → Option (Prop × AV)
  | .raw (.int k a), .raw (.int k' b) => binInt op k k' a b
  | .raw (.string a), .raw (.string b) => binStr op a b
  | .raw (.bool a), .raw (.bool b) => match tab t with
    | some ⟨.bool, _, _, _⟩ => binBool op a b
    | _ => none
  | x, y => binPtr tab op t x y

def isNilC : Operand → Bool
  | .const .nilIface => true
  | _ => false
/-- An interface's value beside the constant nil. -/
def nilI (tab : Tab) (op : BinOp) (t : TypeId) (x : AV) : Option (Prop × AV) := match tab t with
  | some ⟨.iface _, _, _, _⟩ => (match op, x with
    | .eql, .raw .nilIface => some (True, .bool true)
    | .neq, .raw .nilIface => some (True, .bool false)
    | .eql, .iface _ _ => some (True, .bool false)
    | .neq, .iface _ _ => some (True, .bool true)
    | _, _ => none)
  | _ => none
def binN (tab : Tab) (op : BinOp) (t : TypeId) (c : Bool) (x y : AV) : Option (Prop × AV) := match c with
  | true => (match y with
    | .raw .nilIface => nilI tab op t x
    | _ => none)
  | false => binA tab op t x y

theorem binInt_ok (P : Program) (w : World) {op : BinOp} {k k' : IntKind} {a b : Int} {φ : Prop} {v : AV} (t : TypeId) (e : binInt op k k' a b = some (φ, v)) (h : φ) :
    ∃ V, v = .raw V ∧ (binOp op t (.int k a) (.int k' b)).run P w = .ok V w := by
  cases op <;> simp only [binInt, Option.some.injEq, Prod.mk.injEq] at e <;> obtain ⟨rfl, rfl⟩ := e
  case quo => obtain ⟨rfl, hb⟩ := h; exact ⟨_, rfl, by simp [andI, orI, andNotI, shlI, shrI, binOp, Op.intDiv, hb]⟩
  case rem => obtain ⟨rfl, hb⟩ := h; exact ⟨_, rfl, by simp [andI, orI, andNotI, shlI, shrI, binOp, Op.intDiv, hb]⟩
  case shl => exact ⟨_, rfl, by simp [andI, orI, andNotI, shlI, shrI, binOp, Op.shift, show ¬ b < 0 by omega]⟩
  case shr => exact ⟨_, rfl, by simp [andI, orI, andNotI, shlI, shrI, binOp, Op.shift, show ¬ b < 0 by omega]⟩
  all_goals (subst h; exact ⟨_, rfl, by simp [andI, orI, andNotI, shlI, shrI, binOp, Op.intArith, Op.intCmp, Op.intBits]⟩)

theorem binStr_ok (P : Program) (w : World) {op : BinOp} {a b : ByteArray} {φ : Prop} {v : AV} (t : TypeId) (e : binStr op a b = some (φ, v)) (h : φ) :
    ∃ V, v = .raw V ∧ (binOp op t (.string a) (.string b)).run P w = .ok V w := by
  cases op <;> simp only [binStr, Option.some.injEq, Prod.mk.injEq, reduceCtorEq] at e <;> obtain ⟨rfl, rfl⟩ := e
  case add =>
    have h' : ¬ ((a.size + b.size : Nat) : Int) > IntKind.i64.max := by
      have : IntKind.i64.max = 9223372036854775807 := by decide
      omega
    exact ⟨_, rfl, by simp only [binOp, Op.stringOp]; rw [if_neg h']; rfl⟩
  all_goals exact ⟨_, rfl, by simp [binOp, Op.stringOp]⟩

theorem run_eqGuard_bool (P : Program) (w : World) (op : BinOp) (t : TypeId) (x y : Operand) (A B : Value) (hn : ¬ (A = .nilIface ∧ B = .nilIface)) (ha : ∀ cs, A ≠ .agg cs) : (eqGuard op t x y A B).run P w = .ok () w := by
  unfold eqGuard
  cases op <;> simp <;> (split <;> simp_all)

/-- An operation that answers v and turns nothing, whatever the memory is in which its operands stand for these values. -/
def Quiet (P : Program) (o : Oper) (ρ : Operand → AV) (v : AV) : Prop :=
  ∀ (G : Gh) (w : World) (e : Operand → Value), (∀ a u, G.C a = some u → w.cell? a = some u) → (∀ x ∈ o.op.operands.toList, Rep G (ρ x) (e x)) →
    ∃ V, (execOp e o).run P w = .ok (.value V) w ∧ Rep G v V

def unA (op : UnOp) : AV → Option (Prop × AV)
  | .raw (.bool b) => match op with
    | .not => some (True, .bool (!b))
    | _ => none
  | .raw (.int k n) => match op with
    | .neg => some (True, .int k (k.wrap (0 - n)))
    | .xor => binInt .xor k k (if k.signed then -1 else k.max) n
    | _ => none
  | _ => none

def convA (tab : Tab) (src dst : TypeId) : AV → Option (Prop × AV)
  | .raw (.int _ n) => match tab src, tab dst with
    | some ⟨.int _, _, _, _⟩, some ⟨.int k, _, _, _⟩ => some (True, .int k (k.wrap n))
    | some ⟨.int _, _, _, _⟩, some ⟨.string, _, _, _⟩ => some (True, .str (Utf8.encode n))
    | _, _ => none
  | .raw (.string s) => match tab src, tab dst with
    | some ⟨.string, _, _, _⟩, some ⟨.string, _, _, _⟩ => some (True, .str s)
    | _, _ => none
  | _ => none

/-- A part of an aggregate. -/
def partA (ti : TI) (cs : List AV) (off : Nat) : AV := if ti.isAgg then .agg ((cs.drop off).take ti.size) else cs.getD off AV.undef

def fieldA (tab : Tab) (t : TypeId) (f : Nat) : AV → Option (Prop × AV)
  | .agg cs => match tab t with
    | some ⟨.struct fs, _, _, _⟩ => match fs[f]? with
      | some (off, ft) => match tab ft with
        | some ti => some (off + ti.size ≤ cs.length ∧ 0 < ti.size, partA ti cs off)
        | none => none
      | none => none
    | _ => none
  | _ => none

def fieldAddrA (tab : Tab) (t : TypeId) (f : Nat) (x : AV) : Option (Prop × AV) :=
  match tab t with
  | some ⟨.struct fs, _, _, _⟩ => match fs[f]? with
    | some (off, ft) => match tab ft with
      | some ti => match x with
        | .sptr cells => some (0 < ti.size, .sptr (cells.drop off))
        | .ptr id o => some (0 < ti.size, .ptr id (o + off))
        | _ => none
      | none => none
    | none => none
  | _ => none

def indexAddrA (tab : Tab) (t : TypeId) (x i : AV) : Option (Prop × AV) :=
  match i with
  | .raw (.int _ n) => match tab t with
    | some ⟨.slice e, _, _, _⟩ => match tab e with
      | some ti => match x with
        | .list _ xs => some (0 ≤ n ∧ n < xs.length ∧ (xs.getD n.toNat []).length = ti.size, .sptr (xs.getD n.toNat []))
        | .arr id off len => some (0 ≤ n ∧ n < len, .ptr id (off + n.toNat * ti.size))
        | _ => none
      | none => none
    | some ⟨.array m e, _, _, _⟩ => match tab e with
      | some ti => match x with
        | .ptr id off => some (0 ≤ n ∧ n < m, .ptr id (off + n.toNat * ti.size))
        | .sptr cells => some (0 ≤ n ∧ n < m, .sptr (cells.drop (n.toNat * ti.size)))
        | _ => none
      | none => none
    | _ => none
  | _ => none

/-- The byte at a place. -/
def byteAt (s : ByteArray) (i : Int) : Int := if h : i.toNat < s.size then ((s[i.toNat]'h).toNat : Int) else 0

def indexA (tab : Tab) (t : TypeId) (x i : AV) : Option (Prop × AV) :=
  match i with
  | .raw (.int _ n) => match tab t with
    | some ⟨.string, _, _, _⟩ => match x with
      | .raw (.string s) => some (0 ≤ n ∧ n < s.size, .int .u8 (byteAt s n))
      | _ => none
    | some ⟨.array m e, _, _, _⟩ => match tab e with
      | some ti => match x with
        | .agg cs => some (0 ≤ n ∧ n < m ∧ n.toNat * ti.size + ti.size ≤ cs.length ∧ 0 < ti.size, partA ti cs (n.toNat * ti.size))
        | _ => none
      | none => none
    | _ => none
  | _ => none

def loadA (tab : Tab) (t : TypeId) : AV → Option (Prop × AV)
  | .sptr cells => match tab t with
    | some ti => some (ti.size ≤ cells.length ∧ 0 < ti.size, partA ti cells 0)
    | none => none
  | _ => none

def nilCheckA : AV → Option (Prop × AV)
  | .ptr id o => some (True, .ptr id o)
  | .sptr c => some (True, .sptr c)
  | .iface t v => some (True, .iface t v)
  | .clo (.func f) fs cs => some (True, .clo (.func f) fs cs)
  | _ => none

def extractA (i : Nat) : AV → Option (Prop × AV)
  | .tup vs => match vs[i]? with
    | some v => some (True, v)
    | none => none
  | _ => none

def sliceA (tab : Tab) (t : TypeId) (x : AV) (lo hi : Option AV) : Option (Prop × AV) :=
  match tab t with
  | some ⟨.string, _, _, _⟩ => match x with
    | .raw (.string s) => match lo, hi with
      | none, none => some (True, .str (s.extract 0 s.size))
      | some (.raw (.int _ l)), none => some (0 ≤ l ∧ l ≤ s.size, .str (s.extract l.toNat s.size))
      | none, some (.raw (.int _ h)) => some (0 ≤ h ∧ h ≤ s.size, .str (s.extract 0 h.toNat))
      | some (.raw (.int _ l)), some (.raw (.int _ h)) => some (0 ≤ l ∧ l ≤ h ∧ h ≤ s.size, .str (s.extract l.toNat h.toNat))
      | _, _ => none
    | _ => none
  | some ⟨.slice e, _, _, _⟩ => match tab e with
    | some ti => match x with
      | .list _ xs => match lo, hi with
        | none, none => some (True, .list .none xs)
        | some (.raw (.int _ l)), none => some (0 ≤ l ∧ l ≤ xs.length ∧ (∀ x ∈ xs, x.length = ti.size), .list .none (xs.drop l.toNat))
        | none, some (.raw (.int _ h)) => some (0 ≤ h ∧ h ≤ xs.length ∧ (∀ x ∈ xs, x.length = ti.size), .list .none (xs.take h.toNat))
        | some (.raw (.int _ l)), some (.raw (.int _ h)) => some (0 ≤ l ∧ l ≤ h ∧ h ≤ xs.length ∧ (∀ x ∈ xs, x.length = ti.size), .list .none ((xs.take h.toNat).drop l.toNat))
        | _, _ => none
      | _ => none
    | none => none
  | _ => none

def assertA (tab : Tab) (asserted : TypeId) (commaOk : Bool) (x : AV) : Option (Prop × AV) :=
  match tab asserted with
  | some ti => match ti.td with
    | .iface _ => none
    | _ => match x with
      | .iface t v => if t = asserted then some (True, if commaOk then .tup [v, .bool true] else v) else if commaOk then some (True, .tup [absC ti.zero, .bool false]) else none
      | .raw .nilIface => if commaOk then some (True, .tup [absC ti.zero, .bool false]) else none
      | _ => none
  | none => none

def lenA (tab : Tab) (t : TypeId) (x : AV) : Option (Prop × AV) :=
  match tab t with
  | some ⟨.string, _, _, _⟩ => match x with
    | .raw (.string s) => some (True, .int .i64 s.size)
    | _ => none
  | some ⟨.slice _, _, _, _⟩ => match x with
    | .list _ xs => some (True, .int .i64 xs.length)
    | .arr _ _ n => some (True, .int .i64 n)
    | _ => none
  | some ⟨.array n _, _, _, _⟩ => some (True, .int .i64 n)
  | _ => none

def minmaxA (mx : Bool) : List AV → Option (Prop × AV)
  | [.raw (.int k x)] => some (True, .int k x)
  | [.raw (.int k x), .raw (.int k' y)] => some (True, .int k (if mx then (if y > x then y else x) else (if y < x then y else x)))
  | [.raw (.int k x), .raw (.int k' y), .raw (.int k'' z)] => some (True, .int k (if mx then (if z > (if y > x then y else x) then z else (if y > x then y else x)) else (if z < (if y < x then y else x) then z else (if y < x then y else x))))
  | _ => none

/-- Cells laid into others, from a place on. -/
def layAt (cs : List AV) (off : Nat) : List AV → List AV
  | [] => cs
  | v :: vs => layAt (cs.set off v) (off + 1) vs

def fillA (place : Nat → Option (Nat × Nat)) (cells : List AV) : List (Nat × AV) → Option (List AV)
  | [] => some cells
  | (i, v) :: rest => match place i with
    | none => none
    | some (off, size) => if v.cells.length = size ∧ off + size ≤ cells.length then fillA place (layAt cells off v.cells) rest else none

def placeOf (tab : Tab) (fs : List (Nat × TypeId)) (i : Nat) : Option (Nat × Nat) :=
  match fs[i]? with
  | some (off, ft) => match tab ft with
    | some ti => some (off, ti.size)
    | none => none
  | none => none

def buildA (tab : Tab) (t : TypeId) (parts : List (Nat × AV)) : Option (Prop × AV) :=
  match tab t with
  | some ti => match ti.td with
    | .struct fs => if (fs.all fun f => (tab f.2).isSome) then match fillA (placeOf tab fs) (absC ti.zero).cells parts with
      | some cs => some (True, .agg cs)
      | none => none else none
    | .array _ e => match tab e with
      | some te => match fillA (fun i => some (i * te.size, te.size)) (absC ti.zero).cells parts with
        | some cs => some (True, .agg cs)
        | none => none
      | none => none
    | _ => none
  | none => none

/-- What an operation answers that neither reads what may change nor makes memory. -/
def opN (tab : Tab) (o : Oper) (ρ : Operand → AV) : Option (Prop × AV) :=
  match o.op with
  | .move x | .assign x => some (True, ρ x)
  | .pick c a b => match ρ c with
    | .raw (.bool t) => some (True, bif t then ρ a else ρ b)
    | _ => none
  | .makeFunc fn first caps => some (True, .clo fn (first.toList.map ρ) (caps.toList.map ρ))
  | .makeInterface t x => match tab t with
    | some ⟨.iface _, _, _, _⟩ => none
    | some _ => some (True, .iface t (ρ x))
    | none => none
  | .extract x i => extractA i (ρ x)
  | .field t x f => fieldA tab t f (ρ x)
  | .fieldAddr t x f => fieldAddrA tab t f (ρ x)
  | .indexAddr t x i => indexAddrA tab t (ρ x) (ρ i)
  | .index t x i => indexA tab t (ρ x) (ρ i)
  | .load t x => loadA tab t (ρ x)
  | .nilCheck x => nilCheckA (ρ x)
  | .binOp op t x y _ => binN tab op t (isNilC y) (ρ x) (ρ y)
  | .unOp op _ x => unA op (ρ x)
  | .convert s d x => convA tab s d (ρ x)
  | .slice t x lo hi none => sliceA tab t (ρ x) (lo.map ρ) (hi.map ρ)
  | .typeAssert x _ a ok => assertA tab a ok (ρ x)
  | .build t parts => buildA tab t (parts.toList.map fun p => (p.1, ρ p.2))
  | .call { callee := .builtin .len, args := args, argTypes := ts } => match args.toList, ts.toList with
    | [x], [t] => lenA tab t (ρ x)
    | _, _ => none
  | .call { callee := .builtin .max, args := args, .. } => minmaxA true (args.toList.map ρ)
  | .call { callee := .builtin .min, args := args, .. } => minmaxA false (args.toList.map ρ)
  | _ => none

end Go.Proofs.YtkdendaohlnlcaaGreat.Av

/- The model's operations answer what is said of them in the text before. No condition. -/
namespace Go.Proofs.YtkdendaohlnlcaaGreat.Av
set_option linter.unusedVariables false
set_option linter.unusedSimpArgs false
open Go.RowKit

section
variable {P : Program} {tab : Tab}

def Seen (G : Gh) (w : World) : Prop := ∀ a u, G.C a = some u → w.cell? a = some u

theorem TabOk.slice (h : TabOk P tab) {t : TypeId} {e : TypeId} {a b : Nat} {z : Value} (k : tab t = some ⟨.slice e, a, b, z⟩) : P.underlying t = some (.slice e) := by
  obtain ⟨i, d, _, h2, h3, _⟩ := h t _ k
  rw [h2]
  cases d <;> simp_all [tdOf]
theorem TabOk.array (h : TabOk P tab) {t : TypeId} {n e : Nat} {a b : Nat} {z : Value} (k : tab t = some ⟨.array n e, a, b, z⟩) : P.underlying t = some (.array n e) := by
  obtain ⟨i, d, _, h2, h3, _⟩ := h t _ k
  rw [h2]
  cases d <;> simp_all [tdOf]
theorem TabOk.str (h : TabOk P tab) {t : TypeId} {a b : Nat} {z : Value} (k : tab t = some ⟨.string, a, b, z⟩) : P.underlying t = some .string := by
  obtain ⟨i, d, _, h2, h3, _⟩ := h t _ k
  rw [h2]
  cases d <;> simp_all [tdOf]
theorem TabOk.bl (h : TabOk P tab) {t : TypeId} {a b : Nat} {z : Value} (k : tab t = some ⟨.bool, a, b, z⟩) : P.underlying t = some .bool := by
  obtain ⟨i, d, _, h2, h3, _⟩ := h t _ k
  rw [h2]
  cases d <;> simp_all [tdOf]
theorem TabOk.int (h : TabOk P tab) {t : TypeId} {ik : IntKind} {a b : Nat} {z : Value} (k : tab t = some ⟨.int ik, a, b, z⟩) : P.underlying t = some (.int ik) := by
  obtain ⟨i, d, _, h2, h3, _⟩ := h t _ k
  rw [h2]
  cases d <;> simp_all [tdOf]
theorem TabOk.struct (h : TabOk P tab) {t : TypeId} {fs : List (Nat × TypeId)} {a b : Nat} {z : Value} (k : tab t = some ⟨.struct fs, a, b, z⟩) :
    ∃ F : Array Field, P.underlying t = some (.struct F) ∧ F.toList.map (fun f => (f.offset, f.type)) = fs := by
  obtain ⟨i, d, _, h2, h3, _⟩ := h t _ k
  rw [h2]
  cases d <;> simp [tdOf] at h3 ⊢
  exact h3
theorem field_get {F : Array Field} {fs : List (Nat × TypeId)} (hF : F.toList.map (fun f => (f.offset, f.type)) = fs) {f : Nat} {off ft : Nat} (e : fs[f]? = some (off, ft)) :
    ∃ x : Field, F[f]? = some x ∧ x.offset = off ∧ x.type = ft := by
  subst hF
  simp only [List.getElem?_map, Option.map_eq_some_iff, Array.getElem?_toList] at e
  obtain ⟨x, h1, h2⟩ := e
  simp only [Prod.mk.injEq] at h2
  exact ⟨x, h1, h2.1, h2.2⟩

theorem run_part (h : TabOk P tab) {t : TypeId} {ti : TI} (e : tab t = some ti) (G : Gh) (w : World) {cs : List AV} {vs : List Value} (hr : RepL G cs vs) (off : Nat) (hl : off + ti.size ≤ cs.length) (hp : 0 < ti.size) :
    ∃ V, (Go.part t vs.toArray off).run P w = .ok V w ∧ Rep G (partA ti cs off) V := by
  have hlen := hr.length
  unfold Go.part partA
  simp only [Sem.run_bind, h.isAgg e w, Result.andThen_ok]
  cases hA : ti.isAgg with
  | true =>
    refine ⟨.agg (vs.toArray.extract off (off + ti.size)), by simp [h.sizeOf e w], ?_⟩
    simp only [if_true, Rep]
    refine ⟨(vs.drop off).take ti.size, ?_, (hr.drop off).take _⟩
    congr 1
    apply Array.ext'
    simp [List.extract_eq_take_drop]
  | false =>
    have ho : off < vs.length := by omega
    refine ⟨vs[off], by simp [ho], ?_⟩
    have := hr.get off
    simpa [List.getD_eq_getElem?_getD, List.getElem?_eq_getElem ho] using this

theorem fieldA_ok (h : TabOk P tab) {t : TypeId} {f : Nat} {x v : AV} {φ : Prop} (e : fieldA tab t f x = some (φ, v)) (hφ : φ) (G : Gh) (w : World) {X : Value} (hr : Rep G x X) :
    ∃ V, (Instr.field t X f).run P w = .ok V w ∧ Rep G v V := by
  unfold fieldA at e
  split at e <;> try cases e
  rename_i cs
  split at e <;> try cases e
  rename_i fs sz by_ z ht
  split at e <;> try cases e
  rename_i off ft hf
  split at e <;> try cases e
  rename_i ti hti
  obtain ⟨F, hu, hF⟩ := h.struct ht
  obtain ⟨fd, h1, h2, h3⟩ := field_get hF hf
  simp only [Rep] at hr
  obtain ⟨vs, rfl, hr⟩ := hr
  obtain ⟨V, hV, hR⟩ := run_part h (t := fd.type) (by rw [h3]; exact hti) G w hr fd.offset (by rw [h2]; exact hφ.1) hφ.2
  refine ⟨V, ?_, by rw [← h2]; exact hR⟩
  unfold Instr.field
  simp only [Sem.run_bind, run_underlying hu, Result.andThen_ok, h1, asAgg]
  simpa using hV

theorem run_fieldPlace (h : TabOk P tab) {fd : Field} {ti : TI} (e : tab fd.type = some ti) (hp : 0 < ti.size) (w : World) (ad : Addr) : (fieldPlace ad fd).run P w = .ok (ad.add fd.offset) w := by
  unfold fieldPlace
  simp [h.sizeOf e w, show ¬ ti.size = 0 by omega]

theorem RepC.drop {G : Gh} {ad : Addr} {cells : List AV} (off : Nat) (h : RepC G ad 0 cells) : RepC G (ad.add off) 0 (cells.drop off) := by
  rw [RepC.shift off _ 0, Nat.add_zero]
  by_cases hl : off ≤ cells.length
  · have := (RepC.split (cells.take off) (cells.drop off) 0).1 (by rw [List.take_append_drop]; exact h)
    simpa [Nat.min_eq_left hl] using this.2
  · rw [List.drop_eq_nil_of_le (by omega)]
    simp [RepC]

theorem fieldAddrA_ok (h : TabOk P tab) {t : TypeId} {f : Nat} {x v : AV} {φ : Prop} (e : fieldAddrA tab t f x = some (φ, v)) (hφ : φ) (G : Gh) (w : World) {X : Value} (hr : Rep G x X) :
    ∃ V, (Instr.fieldAt t X f).run P w = .ok V w ∧ Rep G v V := by
  unfold fieldAddrA at e
  split at e <;> try cases e
  rename_i fs sz by_ z ht
  split at e <;> try cases e
  rename_i off ft hf
  split at e <;> try cases e
  rename_i ti hti
  obtain ⟨F, hu, hF⟩ := h.struct ht
  obtain ⟨fd, h1, h2, h3⟩ := field_get hF hf
  split at e <;> try cases e
  · rename_i cells
    simp only [Rep] at hr
    obtain ⟨ad, rfl, hc⟩ := hr
    refine ⟨.pointer (some (ad.add off)), ?_, by simp only [Rep]; exact ⟨_, rfl, hc.drop off⟩⟩
    unfold Instr.fieldAt
    simp only [Sem.run_bind, run_underlying hu, Result.andThen_ok, h1, Instr.sureAddr, Sem.run_pure, run_fieldPlace h (by rw [h3]; exact hti) hφ w, h2]
  · rename_i id o
    simp only [Rep] at hr
    obtain ⟨b, hb, rfl⟩ := hr
    refine ⟨.pointer (some ⟨b, o + off, none⟩), ?_, by simp only [Rep]; exact ⟨_, hb, rfl⟩⟩
    unfold Instr.fieldAt
    simp only [Sem.run_bind, run_underlying hu, Result.andThen_ok, h1, Instr.sureAddr, Sem.run_pure, run_fieldPlace h (by rw [h3]; exact hti) hφ w, h2]
    congr 3
    unfold Addr.add
    split
    · rename_i h0; simp [h0]
    · rfl

/-- Element i of what is read row by row. -/
theorem RepE.at_ {G : Gh} {ad : Addr} {sz : Nat} : ∀ (xs : List (List AV)) (k : Nat), (∀ x ∈ xs, x.length = sz) → RepE G ad k xs → ∀ i, i < xs.length → RepC G ad (k + i * sz) (xs.getD i [])
  | [], _, _, _, i, hi => by simp at hi
  | x :: xs, k, hu, h, 0, _ => by
    simp only [RepE] at h
    simpa using h.1
  | x :: xs, k, hu, h, i + 1, hi => by
    simp only [RepE] at h
    have := RepE.at_ xs (k + x.length) (fun y hy => hu y (by simp [hy])) h.2 i (by simpa using hi)
    rw [hu x (by simp)] at this
    simpa [Nat.add_assoc, Nat.succ_mul, Nat.add_comm sz] using this

theorem indexAddrA_ok (h : TabOk P tab) {t : TypeId} {x i v : AV} {φ : Prop} (e : indexAddrA tab t x i = some (φ, v)) (hφ : φ) (G : Gh) (w : World) {X I : Value} (hr : Rep G x X) (hi : Rep G i I) :
    ∃ V, (Instr.indexAt t X I).run P w = .ok V w ∧ Rep G v V := by
  unfold indexAddrA at e
  split at e <;> try cases e
  rename_i ik n
  simp only [Rep] at hi
  subst hi
  split at e <;> try cases e
  · rename_i el a1 a2 z ht
    split at e <;> try cases e
    rename_i ti hti
    have hu := h.slice ht
    have hel : P.elem t = el := by simp [Program.elem, hu]
    split at e <;> try cases e
    · rename_i tk xs
      simp only [Rep] at hr
      obtain ⟨A, m, c, rfl, rfl, hc, _, hun, ad, ha, hre⟩ := hr
      obtain ⟨h0, h1, h2⟩ := hφ
      have hne : xs ≠ [] := by rintro rfl; simp at h1; omega
      obtain rfl := ha hne
      obtain ⟨sz, hsz⟩ := hun
      have hlt : n.toNat < xs.length := by omega
      have hmem : xs.getD n.toNat [] ∈ xs := by
        rw [List.getD_eq_getElem?_getD, List.getElem?_eq_getElem hlt]
        simp
      have hsz' : sz = ti.size := by rw [← hsz _ hmem]; exact h2
      subst hsz'
      refine ⟨.pointer (some (ad.add (n.toNat * ti.size))), ?_, ?_⟩
      · rw [run_indexAt_slice w t ad xs.length c ik n (by rw [hel]; exact hu), if_pos ⟨h0, h1⟩, hel, h.sizeOf hti w]
        rfl
      · simp only [Rep]
        refine ⟨_, rfl, ?_⟩
        rw [RepC.shift, Nat.add_zero]
        simpa using hre.at_ xs 0 hsz n.toNat hlt
    · rename_i id off len
      simp only [Rep] at hr
      obtain ⟨b, hb, rfl⟩ := hr
      refine ⟨.pointer (some ⟨b, off + n.toNat * ti.size, none⟩), ?_, by simp only [Rep]; exact ⟨_, hb, rfl⟩⟩
      rw [run_indexAt_slice w t _ len len ik n (by rw [hel]; exact hu), if_pos hφ, hel, h.sizeOf hti w]
      simp only [Result.andThen_ok]
      congr 3
      unfold Addr.add
      split
      · rename_i h0; simp [h0]
      · rfl
  · rename_i m el a1 a2 z ht
    split at e <;> try cases e
    rename_i ti hti
    have hu := h.array ht
    have hel : P.elem t = el := by simp [Program.elem, hu]
    have hal : P.arrayLen t = m := by simp [Program.arrayLen, hu]
    split at e <;> try cases e
    · rename_i id off
      simp only [Rep] at hr
      obtain ⟨b, hb, rfl⟩ := hr
      refine ⟨.pointer (some ⟨b, off + n.toNat * ti.size, none⟩), ?_, by simp only [Rep]; exact ⟨_, hb, rfl⟩⟩
      rw [run_indexAt_array w t _ ik n (by rw [hel, hal]; exact hu), if_pos (by rw [hal]; exact hφ), hel, h.sizeOf hti w]
      simp only [Result.andThen_ok]
      congr 3
      unfold Addr.add
      split
      · rename_i h0; simp [h0]
      · rfl
    · rename_i cells
      simp only [Rep] at hr
      obtain ⟨ad, rfl, hc⟩ := hr
      refine ⟨.pointer (some (ad.add (n.toNat * ti.size))), ?_, by simp only [Rep]; exact ⟨_, rfl, hc.drop _⟩⟩
      rw [run_indexAt_array w t _ ik n (by rw [hel, hal]; exact hu), if_pos (by rw [hal]; exact hφ), hel, h.sizeOf hti w]
      rfl

theorem indexA_ok (h : TabOk P tab) {t : TypeId} {x i v : AV} {φ : Prop} (e : indexA tab t x i = some (φ, v)) (hφ : φ) (G : Gh) (w : World) {X I : Value} (hr : Rep G x X) (hi : Rep G i I) :
    ∃ V, (Instr.index t X I).run P w = .ok V w ∧ Rep G v V := by
  unfold indexA at e
  split at e <;> try cases e
  rename_i ik n
  simp only [Rep] at hi
  subst hi
  split at e <;> try cases e
  · rename_i a1 a2 z ht
    split at e <;> try cases e
    rename_i s
    simp only [Rep] at hr
    subst hr
    obtain ⟨h0, h1⟩ := hφ
    have hlt : n.toNat < s.size := by omega
    refine ⟨.int .u8 (byteAt s n), ?_, by simp [Rep]⟩
    unfold Instr.index
    simp only [Sem.run_bind, asIntOf, Sem.run_pure, Result.andThen_ok, run_underlying (h.str ht), h0, if_true]
    simp [byteAt, hlt]
  · rename_i m el a1 a2 z ht
    split at e <;> try cases e
    rename_i ti hti
    split at e <;> try cases e
    rename_i cs
    simp only [Rep] at hr
    obtain ⟨vs, rfl, hr⟩ := hr
    obtain ⟨V, hV, hR⟩ := run_part h hti G w hr (n.toNat * ti.size) hφ.2.2.1 hφ.2.2.2
    refine ⟨V, ?_, hR⟩
    unfold Instr.index
    simp only [Sem.run_bind, asIntOf, Sem.run_pure, Result.andThen_ok, run_underlying (h.array ht), hφ.1, hφ.2.1, and_self, if_true, h.sizeOf hti w]
    exact hV

theorem run_loadVar_rep (h : TabOk P tab) {t : TypeId} {ti : TI} (e : tab t = some ti) {G : Gh} {w : World} (hs : Seen G w) {ad : Addr} {cells : List AV} (hc : RepC G ad 0 cells) (hl : ti.size ≤ cells.length) (hp : 0 < ti.size) :
    ∃ V, (loadVar t ad).run P w = .ok V w ∧ Rep G (partA ti cells 0) V := by
  obtain ⟨vs, hv, hcell⟩ := hc.values
  have hlen := hv.length
  unfold loadVar partA
  simp only [Sem.run_bind, h.isAgg e w, Result.andThen_ok]
  cases hA : ti.isAgg with
  | true =>
    have hload := run_loadCells_list (P := P) w ad (vs.take ti.size) (fun j v hj => hs _ _ (by
      have : vs[j]? = some v := by
        rw [List.getElem?_take] at hj
        split at hj
        · exact hj
        · cases hj
      simpa using hcell j v this))
    rw [List.length_take, Nat.min_eq_left (by omega)] at hload
    refine ⟨.agg (vs.take ti.size).toArray, by simp [h.sizeOf e w, hload], ?_⟩
    simp only [if_true, Rep, List.drop_zero]
    exact ⟨_, rfl, hv.take _⟩
  | false =>
    cases cells with
    | nil => simp at hl; omega
    | cons a as =>
      simp only [RepL] at hv
      obtain ⟨u, us, rfl, h1, h2⟩ := hv
      have hu := hs _ _ (by simpa using hcell 0 u rfl)
      refine ⟨u, ?_, by simpa using h1⟩
      have h0 : ad.add 0 = ad := rfl
      rw [h0] at hu
      simp [hu]

theorem loadA_ok (h : TabOk P tab) {t : TypeId} {x v : AV} {φ : Prop} (e : loadA tab t x = some (φ, v)) (hφ : φ) (G : Gh) (w : World) (hs : Seen G w) {X : Value} (hr : Rep G x X) :
    ∃ V, (Instr.loadAt t X).run P w = .ok V w ∧ Rep G v V := by
  unfold loadA at e
  split at e <;> try cases e
  rename_i cells
  split at e <;> try cases e
  rename_i ti hti
  simp only [Rep] at hr
  obtain ⟨ad, rfl, hc⟩ := hr
  obtain ⟨V, hV, hR⟩ := run_loadVar_rep h hti hs hc hφ.1 hφ.2
  exact ⟨V, by simpa [Instr.loadAt, Instr.sureAddr] using hV, hR⟩

end
end Go.Proofs.YtkdendaohlnlcaaGreat.Av

/- The model's operations answer what is said of them: the rest, and all of them in one. No condition. -/
namespace Go.Proofs.YtkdendaohlnlcaaGreat.Av
set_option linter.unusedVariables false
set_option linter.unusedSimpArgs false
open Go.RowKit

section
variable {P : Program} {tab : Tab}

theorem RepL.mem {G : Gh} : ∀ {as : List AV} {vs : List Value}, RepL G as vs → ∀ i : Nat, ∀ a, as[i]? = some a → ∃ v, vs[i]? = some v ∧ Rep G a v
  | [], _, _, i, a, e => by simp at e
  | x :: as, _, h, 0, a, e => by
    simp only [RepL] at h
    obtain ⟨u, us, rfl, h1, _⟩ := h
    simp at e
    subst e
    exact ⟨u, rfl, h1⟩
  | x :: as, _, h, i + 1, a, e => by
    simp only [RepL] at h
    obtain ⟨u, us, rfl, _, h2⟩ := h
    simpa using RepL.mem h2 i a (by simpa using e)

theorem extractA_ok {i : Nat} {x v : AV} {φ : Prop} (e : extractA i x = some (φ, v)) (G : Gh) (w : World) {X : Value} (hr : Rep G x X) :
    ∃ V, (Instr.extract X i).run P w = .ok V w ∧ Rep G v V := by
  unfold extractA at e
  split at e <;> try cases e
  rename_i vs
  split at e <;> try cases e
  rename_i u hu
  simp only [Rep] at hr
  obtain ⟨cs, rfl, hc⟩ := hr
  obtain ⟨V, hV, hR⟩ := hc.mem i _ hu
  exact ⟨V, by simp [Instr.extract, hV], hR⟩

theorem unA_ok {op : UnOp} {x v : AV} {φ : Prop} (e : unA op x = some (φ, v)) (hφ : φ) (G : Gh) (w : World) {X : Value} (hr : Rep G x X) :
    ∃ V, (Op.unary op X).run P w = .ok V w ∧ Rep G v V := by
  unfold unA at e
  split at e <;> try cases e
  · simp only [Rep] at hr
    subst hr
    split at e <;> cases e
    exact ⟨_, by simp [Op.unary]; rfl, by simp [Rep]⟩
  · rename_i k n
    simp only [Rep] at hr
    subst hr
    split at e <;> try cases e
    · exact ⟨_, by simp [Op.unary, Op.intArith]; rfl, by simp [Rep]⟩
    · exact ⟨_, by simp [Op.unary, Op.intBits]; rfl, by simp [Rep]⟩

theorem convA_ok (h : TabOk P tab) {s d : TypeId} {x v : AV} {φ : Prop} (e : convA tab s d x = some (φ, v)) (G : Gh) (w : World) {X : Value} (hr : Rep G x X) :
    ∃ V, (convert s d X).run P w = .ok V w ∧ Rep G v V := by
  unfold convA at e
  split at e <;> try cases e
  · simp only [Rep] at hr
    subst hr
    split at e <;> try cases e
    · rename_i hs hd
      exact ⟨_, by simp [convert, run_underlying (h.int hs), run_underlying (h.int hd), Conv.intToInt]; rfl, by simp [Rep]⟩
    · rename_i hs hd
      exact ⟨_, by simp [convert, run_underlying (h.int hs), run_underlying (h.str hd), Conv.intToString]; rfl, by simp [Rep]⟩
  · simp only [Rep] at hr
    subst hr
    split at e <;> try cases e
    rename_i hs hd
    exact ⟨_, by simp [convert, run_underlying (h.str hs), run_underlying (h.str hd)]; rfl, by simp [Rep]⟩

theorem TabOk.ptr (h : TabOk P tab) {t e : TypeId} {a b : Nat} {z : Value} (k : tab t = some ⟨.pointer e, a, b, z⟩) : P.underlying t = some (.pointer e) := by
  obtain ⟨i, d, _, h2, h3, _⟩ := h t _ k
  rw [h2]
  cases d <;> simp_all [tdOf]
theorem ptrEq_ok (h : TabOk P tab) {t e : TypeId} {a b : Nat} {z : Value} (k : tab t = some ⟨.pointer e, a, b, z⟩) {te : TI} (ke : tab e = some te) (hp : 0 < te.size) {x y : AV} {r : Bool} (er : ptrEq x y = some r) {G : Gh} {X Y : Value} (hx : Rep G x X) (hy : Rep G y Y) (w : World) :
    (Op.equal t X Y).run P w = .ok r w ∧ (∃ p, X = .pointer p) ∧ ∃ p, Y = .pointer p := by
  have hu := h.ptr k
  have hsz : (sizeOf e).run P w = .ok te.size w := h.sizeOf ke w
  have e1 : (Op.equal t (.pointer none) (.pointer none)).run P w = .ok true w := by
    have : ∀ d, (Op.equalIn (d + 1) t (.pointer none) (.pointer none)).run P w = .ok true w := fun d => by simp [Op.equalIn, run_underlying hu]
    exact this 9999
  have e2 : ∀ A, (Op.equal t (.pointer none) (.pointer (some A))).run P w = .ok false w := fun A => by
    have : ∀ d, (Op.equalIn (d + 1) t (.pointer none) (.pointer (some A))).run P w = .ok false w := fun d => by simp [Op.equalIn, run_underlying hu]
    exact this 9999
  have e3 : ∀ A, (Op.equal t (.pointer (some A)) (.pointer none)).run P w = .ok false w := fun A => by
    have : ∀ d, (Op.equalIn (d + 1) t (.pointer (some A)) (.pointer none)).run P w = .ok false w := fun d => by simp [Op.equalIn, run_underlying hu]
    exact this 9999
  have e4 : ∀ A, (Op.equal t (.pointer (some A)) (.pointer (some A))).run P w = .ok true w := fun A => by
    have : ∀ d, (Op.equalIn (d + 1) t (.pointer (some A)) (.pointer (some A))).run P w = .ok true w := fun d => by
      simp [Op.equalIn, run_underlying hu, hsz, sameAddr, show te.size ≠ 0 by omega]
    exact this 9999
  unfold ptrEq at er
  split at er
  · cases er; simp only [Rep] at hx hy; subst hx hy; exact ⟨e1, ⟨_, rfl⟩, _, rfl⟩
  · cases er; simp only [Rep] at hx hy; obtain ⟨b, _, rfl⟩ := hy; subst hx; exact ⟨e2 _, ⟨_, rfl⟩, _, rfl⟩
  · cases er; simp only [Rep] at hx hy; obtain ⟨b, rfl, _⟩ := hy; subst hx; exact ⟨e2 _, ⟨_, rfl⟩, _, rfl⟩
  · cases er; simp only [Rep] at hx hy; obtain ⟨b, _, rfl⟩ := hx; subst hy; exact ⟨e3 _, ⟨_, rfl⟩, _, rfl⟩
  · cases er; simp only [Rep] at hx hy; obtain ⟨b, rfl, _⟩ := hx; subst hy; exact ⟨e3 _, ⟨_, rfl⟩, _, rfl⟩
  · split at er <;> cases er
    rename_i hij
    obtain ⟨rfl, rfl⟩ := hij
    simp only [Rep] at hx hy
    obtain ⟨b, hb, rfl⟩ := hx
    obtain ⟨b', hb', rfl⟩ := hy
    rw [hb] at hb'
    cases hb'
    exact ⟨e4 _, ⟨_, rfl⟩, _, rfl⟩
  · cases er

theorem binA_ok (h : TabOk P tab) {op : BinOp} {t : TypeId} {x y v : AV} {φ : Prop} (e : binA tab op t x y = some (φ, v)) (hφ : φ) (G : Gh) (w : World) {X Y : Value} (xo yo : Operand) (hx : Rep G x X) (hy : Rep G y Y) :
    ∃ V, (do eqGuard op t xo yo X Y; binOp op t X Y : Sem Value).run P w = .ok V w ∧ Rep G v V := by
  unfold binA at e
  split at e <;> try cases e
  · simp only [Rep] at hx hy
    subst hx hy
    obtain ⟨V, rfl, hV⟩ := binInt_ok P w t e hφ
    refine ⟨V, ?_, by simp [Rep]⟩
    rw [Sem.run_bind, run_eqGuard_bool P w _ _ _ _ _ _ (by simp) (by simp)]
    exact hV
  · simp only [Rep] at hx hy
    subst hx hy
    obtain ⟨V, rfl, hV⟩ := binStr_ok P w t e hφ
    refine ⟨V, ?_, by simp [Rep]⟩
    rw [Sem.run_bind, run_eqGuard_bool P w _ _ _ _ _ _ (by simp) (by simp)]
    exact hV
  · simp only [Rep] at hx hy
    subst hx hy
    rename_i a b
    split at e <;> try cases e
    rename_i ht
    have hu := h.bl ht
    have heqd : ∀ d, (Op.equalIn (d + 1) t (.bool a) (.bool b)).run P w = .ok (a == b) w := fun d => by simp [Op.equalIn, run_underlying hu]
    have heq : (Op.equal t (.bool a) (.bool b)).run P w = .ok (a == b) w := heqd 9999
    unfold binBool at e
    split at e <;> cases e
    · refine ⟨_, ?_, by simp [Rep]; rfl⟩
      rw [Sem.run_bind, run_eqGuard_bool P w _ _ _ _ _ _ (by simp) (by simp)]
      simp [binOp, heq]
    · refine ⟨_, ?_, by simp [Rep]; rfl⟩
      rw [Sem.run_bind, run_eqGuard_bool P w _ _ _ _ _ _ (by simp) (by simp)]
      simp [binOp, heq]
  · unfold binPtr at e
    split at e <;> try cases e
    rename_i el b1 b2 z ht
    split at e <;> try cases e
    rename_i te hte
    split at e <;> try cases e
    rename_i r hr
    split at e <;> cases e
    · obtain ⟨h1, ⟨p, rfl⟩, q, rfl⟩ := ptrEq_ok h ht hte hφ hr hx hy w
      refine ⟨_, ?_, by simp [Rep]; rfl⟩
      rw [Sem.run_bind, run_eqGuard_bool P w _ _ _ _ _ _ (by simp) (by simp)]
      simp [binOp, h1]
    · obtain ⟨h1, ⟨p, rfl⟩, q, rfl⟩ := ptrEq_ok h ht hte hφ hr hx hy w
      refine ⟨_, ?_, by simp [Rep]; rfl⟩
      rw [Sem.run_bind, run_eqGuard_bool P w _ _ _ _ _ _ (by simp) (by simp)]
      simp [binOp, h1]

theorem binN_ok (h : TabOk P tab) {op : BinOp} {t : TypeId} {x y v : AV} {φ : Prop} (G : Gh) (w : World) {X Y : Value} (xo yo : Operand) (e : binN tab op t (isNilC yo) x y = some (φ, v)) (hφ : φ) (hx : Rep G x X) (hy : Rep G y Y) :
    ∃ V, (do eqGuard op t xo yo X Y; binOp op t X Y : Sem Value).run P w = .ok V w ∧ Rep G v V := by
  unfold binN at e
  split at e
  · rename_i hc
    have hyo : yo = .const .nilIface := by
      unfold isNilC at hc
      split at hc
      · rfl
      · cases hc
    subst hyo
    split at e <;> try cases e
    simp only [Rep] at hy
    subst hy
    unfold nilI at e
    split at e <;> try cases e
    rename_i ht
    obtain ⟨i, d, h1, h2, h3, _⟩ := h _ _ ht
    cases d <;> simp [tdOf] at h3
    have q1 : ∀ d, (Op.equalIn (d + 1) t .nilIface .nilIface).run P w = .ok true w := fun d => by simp [Op.equalIn, run_underlying h2]
    have q2 : ∀ T V' d, (Op.equalIn (d + 1) t (.iface T V') .nilIface).run P w = .ok false w := fun T V' d => by simp [Op.equalIn, run_underlying h2]
    split at e <;> cases e <;> simp only [Rep] at hx
    · subst hx
      have q : (Op.equal t .nilIface .nilIface).run P w = .ok true w := q1 9999
      exact ⟨.bool true, by simp [eqGuard, binOp, q], by simp [Rep]⟩
    · subst hx
      have q : (Op.equal t .nilIface .nilIface).run P w = .ok true w := q1 9999
      exact ⟨.bool false, by simp [eqGuard, binOp, q], by simp [Rep]⟩
    · obtain ⟨V', rfl, _⟩ := hx
      have q : ∀ T, (Op.equal t (.iface T V') .nilIface).run P w = .ok false w := fun T => q2 T V' 9999
      exact ⟨.bool false, by simp [eqGuard, binOp, q], by simp [Rep]⟩
    · obtain ⟨V', rfl, _⟩ := hx
      have q : ∀ T, (Op.equal t (.iface T V') .nilIface).run P w = .ok false w := fun T => q2 T V' 9999
      exact ⟨.bool true, by simp [eqGuard, binOp, q], by simp [Rep]⟩
  · exact binA_ok h e hφ G w xo yo hx hy

theorem run_sliceBound_in (w : World) (k : IntKind) (i : Int) (y : Nat) (c : BoundsCode) (h : 0 ≤ i ∧ i ≤ y) : (Instr.sliceBound (.int k i) y c).run P w = .ok i.toNat w := by
  unfold Instr.sliceBound
  simp [asIntOf, h]

theorem RepE.split {G : Gh} {ad : Addr} {sz : Nat} : ∀ (xs ys : List (List AV)) (k : Nat), (∀ x ∈ xs, x.length = sz) → (RepE G ad k (xs ++ ys) ↔ RepE G ad k xs ∧ RepE G ad (k + xs.length * sz) ys)
  | [], ys, k, _ => by simp [RepE]
  | x :: xs, ys, k, h => by
    simp only [List.cons_append, RepE, RepE.split xs ys (k + x.length) (fun y hy => h y (by simp [hy])), List.length_cons]
    rw [h x (by simp), show k + sz + xs.length * sz = k + (xs.length + 1) * sz by rw [Nat.succ_mul]; omega]
    exact and_assoc.symm

theorem RepE.shift {G : Gh} {ad : Addr} (m : Nat) : ∀ (xs : List (List AV)) (k : Nat), RepE G (ad.add m) k xs ↔ RepE G ad (m + k) xs
  | [], k => by simp [RepE]
  | x :: xs, k => by
    simp only [RepE, RepE.shift m xs (k + x.length), RepC.shift]
    rw [show m + (k + x.length) = m + k + x.length by omega]

theorem uniform_of {xs ys : List (List AV)} (h : uniform xs) (hs : ∀ y ∈ ys, y ∈ xs) : uniform ys := by
  obtain ⟨sz, hz⟩ := h
  exact ⟨sz, fun y hy => hz y (hs y hy)⟩

/-- A cut of a list. -/
theorem rep_cut {G : Gh} {tk : Tok} {xs : List (List AV)} {A : Option Addr} {n c sz : Nat} (hr : Rep G (.list tk xs) (.slice A n c)) (l h m : Nat) (hl : l ≤ h) (hh : h ≤ n) (hm : h ≤ m) (hmc : m ≤ c) (hsz : (∀ x ∈ xs, x.length = sz) ∨ l = 0) :
    Rep G (.list .none ((xs.take h).drop l)) (.slice (if m = l then A else A.map (·.add (l * sz))) (h - l) (m - l)) := by
  simp only [Rep] at hr ⊢
  obtain ⟨A', n', c', he, hn, hc, _, hun, ad, ha, hre⟩ := hr
  simp only [Value.slice.injEq] at he
  obtain ⟨rfl, rfl, rfl⟩ := he
  subst hn
  refine ⟨_, _, _, rfl, by simp [Nat.min_eq_left hh], by omega, trivial, uniform_of hun fun y hy => List.mem_of_mem_take (List.mem_of_mem_drop hy), ?_⟩
  by_cases hlh : l < h
  · have hne : xs ≠ [] := by rintro rfl; simp at hh; omega
    obtain rfl := ha hne
    rw [if_neg (by omega)]
    refine ⟨ad.add (l * sz), fun _ => rfl, ?_⟩
    rw [RepE.shift, Nat.add_zero]
    rcases hsz with hsz | h0
    · have e1 : xs = xs.take h ++ xs.drop h := (List.take_append_drop h xs).symm
      have hre1 : RepE G ad 0 (xs.take h) := by
        rw [e1] at hre
        exact ((RepE.split (sz := sz) _ _ 0 fun x hx => hsz x (List.mem_of_mem_take hx)).1 hre).1
      have e2 : xs.take h = (xs.take h).take l ++ (xs.take h).drop l := (List.take_append_drop l _).symm
      rw [e2] at hre1
      have := ((RepE.split (sz := sz) _ _ 0 fun x hx => hsz x (List.mem_of_mem_take (List.mem_of_mem_take hx))).1 hre1).2
      simpa [Nat.min_eq_left (show l ≤ h by omega), Nat.min_eq_left (show h ≤ xs.length by omega), Nat.min_eq_left (show l ≤ xs.length by omega)] using this
    · subst h0
      obtain ⟨s2, hs2⟩ := hun
      have e1 : xs = xs.take h ++ xs.drop h := (List.take_append_drop h xs).symm
      rw [e1] at hre
      have := ((RepE.split (sz := s2) _ _ 0 fun x hx => hs2 x (List.mem_of_mem_take hx)).1 hre).1
      simpa using this
  · refine ⟨⟨0, 0, none⟩, fun hx => absurd ?_ hx, ?_⟩
    · rw [List.drop_eq_nil_of_le (by simp; omega)]
    · rw [List.drop_eq_nil_of_le (by simp; omega)]
      simp [RepE]

theorem sliceA_ok (h : TabOk P tab) {t : TypeId} {x v : AV} {lo hi : Option AV} {φ : Prop} (e : sliceA tab t x lo hi = some (φ, v)) (hφ : φ) (G : Gh) (w : World) {X : Value} {LO HI : Option Value} (hr : Rep G x X)
    (hlo : ∀ a, lo = some a → ∃ A, LO = some A ∧ Rep G a A) (hlo' : lo = none → LO = none) (hhi : ∀ a, hi = some a → ∃ A, HI = some A ∧ Rep G a A) (hhi' : hi = none → HI = none) :
    ∃ V, (Instr.sliceAt t X LO HI none).run P w = .ok V w ∧ Rep G v V := by
  unfold sliceA at e
  split at e <;> try cases e
  · rename_i a1 a2 z ht
    have hu := h.str ht
    split at e <;> try cases e
    rename_i s
    simp only [Rep] at hr
    subst hr
    split at e <;> try cases e
    · obtain rfl := hlo' rfl
      obtain rfl := hhi' rfl
      exact ⟨_, by simp [Instr.sliceAt, Instr.slice, Instr.sliceBounds, run_underlying hu]; rfl, by simp [Rep]⟩
    · rename_i k l
      obtain ⟨_, rfl, hA⟩ := hlo _ rfl
      obtain rfl := hhi' rfl
      simp only [Rep] at hA
      subst hA
      exact ⟨_, by simp [Instr.sliceAt, Instr.slice, Instr.sliceBounds, run_underlying hu, run_sliceBound_in w k l _ _ hφ]; rfl, by simp [Rep]⟩
    · rename_i k l
      obtain ⟨_, rfl, hA⟩ := hhi _ rfl
      obtain rfl := hlo' rfl
      simp only [Rep] at hA
      subst hA
      exact ⟨_, by simp [Instr.sliceAt, Instr.slice, Instr.sliceBounds, run_underlying hu, run_sliceBound_in w k l _ _ hφ]; rfl, by simp [Rep]⟩
    · rename_i k l k' l'
      obtain ⟨_, rfl, hA⟩ := hlo _ rfl
      obtain ⟨_, rfl, hB⟩ := hhi _ rfl
      simp only [Rep] at hA hB
      subst hA hB
      obtain ⟨h1, h2, h3⟩ := hφ
      exact ⟨_, by simp [Instr.sliceAt, Instr.slice, Instr.sliceBounds, run_underlying hu, run_sliceBound_in w k' l' s.size _ ⟨by omega, h3⟩, run_sliceBound_in w k l l'.toNat _ ⟨h1, by omega⟩]; rfl, by simp [Rep]⟩
  · rename_i el a1 a2 z ht
    have hu := h.slice ht
    split at e <;> try cases e
    rename_i ti hti
    split at e <;> try cases e
    rename_i tk xs
    have hrep := hr
    simp only [Rep] at hr
    obtain ⟨A, n, c, rfl, rfl, hc, _⟩ := hr
    split at e <;> try cases e
    · obtain rfl := hlo' rfl
      obtain rfl := hhi' rfl
      refine ⟨.slice (if c = 0 then A else A.map (·.add (0 * ti.size))) (xs.length - 0) (c - 0), ?_, by simpa using rep_cut hrep 0 xs.length c (by omega) (Nat.le_refl _) hc (Nat.le_refl _) (.inr rfl) (sz := ti.size)⟩
      simp [Instr.sliceAt, Instr.slice, Instr.sliceBounds, run_underlying hu, h.sizeOf hti]
    · rename_i k l
      obtain ⟨_, rfl, hA⟩ := hlo _ rfl
      obtain rfl := hhi' rfl
      simp only [Rep] at hA
      subst hA
      obtain ⟨h1, h2, h3⟩ := hφ
      refine ⟨.slice (if c = l.toNat then A else A.map (·.add (l.toNat * ti.size))) (xs.length - l.toNat) (c - l.toNat), ?_, by simpa using rep_cut hrep l.toNat xs.length c (by omega) (Nat.le_refl _) hc (Nat.le_refl _) (.inl h3)⟩
      simp [Instr.sliceAt, Instr.slice, Instr.sliceBounds, run_underlying hu, h.sizeOf hti, run_sliceBound_in w k l _ _ ⟨h1, h2⟩]
    · rename_i k l
      obtain ⟨_, rfl, hA⟩ := hhi _ rfl
      obtain rfl := hlo' rfl
      simp only [Rep] at hA
      subst hA
      obtain ⟨h1, h2, h3⟩ := hφ
      refine ⟨.slice (if c = 0 then A else A.map (·.add (0 * ti.size))) (l.toNat - 0) (c - 0), ?_, by simpa using rep_cut hrep 0 l.toNat c (by omega) (by omega) (by omega) (Nat.le_refl _) (.inr rfl) (sz := ti.size)⟩
      simp [Instr.sliceAt, Instr.slice, Instr.sliceBounds, run_underlying hu, h.sizeOf hti, run_sliceBound_in w k l c _ ⟨h1, by omega⟩]
    · rename_i k l k' l'
      obtain ⟨_, rfl, hA⟩ := hlo _ rfl
      obtain ⟨_, rfl, hB⟩ := hhi _ rfl
      simp only [Rep] at hA hB
      subst hA hB
      obtain ⟨h1, h2, h3, h4⟩ := hφ
      refine ⟨.slice (if c = l.toNat then A else A.map (·.add (l.toNat * ti.size))) (l'.toNat - l.toNat) (c - l.toNat), ?_, rep_cut hrep l.toNat l'.toNat c (by omega) (by omega) (by omega) (Nat.le_refl _) (.inl h4)⟩
      simp [Instr.sliceAt, Instr.slice, Instr.sliceBounds, run_underlying hu, h.sizeOf hti, run_sliceBound_in w k' l' c _ ⟨by omega, by omega⟩, run_sliceBound_in w k l l'.toNat _ ⟨h1, by omega⟩]

theorem lenA_ok (h : TabOk P tab) {t ty : TypeId} {x v : AV} {φ : Prop} (e : lenA tab t x = some (φ, v)) (G : Gh) (w : World) {X : Value} (hr : Rep G x X) :
    ∃ V, (Builtin.len_ #[t] ty #[X]).run P w = .ok V w ∧ Rep G v V := by
  unfold lenA at e
  split at e <;> try cases e
  · rename_i ht
    split at e <;> try cases e
    simp only [Rep] at hr
    subst hr
    exact ⟨_, by simp [Builtin.len_, run_underlying (h.str ht), goInt]; rfl, by simp [Rep]⟩
  · rename_i ht
    split at e <;> try cases e
    · simp only [Rep] at hr
      obtain ⟨A, n, c, rfl, rfl, _⟩ := hr
      exact ⟨_, by simp [Builtin.len_, run_underlying (h.slice ht), goInt]; rfl, by simp [Rep]⟩
    · simp only [Rep] at hr
      obtain ⟨b, _, rfl⟩ := hr
      exact ⟨_, by simp [Builtin.len_, run_underlying (h.slice ht), goInt]; rfl, by simp [Rep]⟩
  · rename_i ht
    exact ⟨_, by simp [Builtin.len_, run_underlying (h.array ht), goInt]; rfl, by simp [Rep]⟩

end
end Go.Proofs.YtkdendaohlnlcaaGreat.Av

/- Structs and arrays that are built; all operations without memory of their own in one. No condition. -/
namespace Go.Proofs.YtkdendaohlnlcaaGreat.Av
set_option linter.unusedVariables false
set_option linter.unusedSimpArgs false
open Go.RowKit

section
variable {P : Program} {tab : Tab}

theorem lay_ok {G : Gh} : ∀ (as : List AV) (us : List Value) (cells : List AV) (vs : Array Value) (off k : Nat), RepL G as us → RepL G cells vs.toList →
    RepL G (layAt cells (off + k) as) ((us.zipIdx k).foldl (fun cs (c : Value × Nat) => cs.setIfInBounds (off + c.2) c.1) vs).toList
  | [], us, cells, vs, off, k, h, hc => by
    simp only [RepL] at h
    subst h
    simpa [layAt] using hc
  | a :: as, us, cells, vs, off, k, h, hc => by
    simp only [RepL] at h
    obtain ⟨u, us', rfl, h1, h2⟩ := h
    simp only [layAt, List.zipIdx_cons, List.foldl_cons]
    have := lay_ok as us' (cells.set (off + k) a) (vs.setIfInBounds (off + k) u) off (k + 1) h2 (by rw [Array.toList_setIfInBounds]; exact hc.set h1 _)
    simpa [Nat.add_assoc] using this

theorem layAt_length : ∀ (vs : List AV) (cs : List AV) (off : Nat), (layAt cs off vs).length = cs.length
  | [], cs, off => rfl
  | v :: vs, cs, off => by simp [layAt, layAt_length vs]

def RepP (G : Gh) : List (Nat × AV) → List (Nat × Value) → Prop
  | [], ys => ys = []
  | x :: xs, ys => ∃ V us, ys = (x.1, V) :: us ∧ Rep G x.2 V ∧ RepP G xs us

theorem fill_ok {G : Gh} {pa pc : Nat → Option (Nat × Nat)} (hp : ∀ i q, pa i = some q → pc i = some q) : ∀ (parts : List (Nat × AV)) (qs : List (Nat × Value)) (cells cs' : List AV) (vs : Array Value),
    RepP G parts qs → RepL G cells vs.toList → fillA pa cells parts = some cs' → ∃ vs', Instr.fill pc vs qs = some vs' ∧ RepL G cs' vs'.toList
  | [], qs, cells, cs', vs, h, hc, e => by
    simp only [RepP] at h
    subst h
    simp only [fillA, Option.some.injEq] at e
    subst e
    exact ⟨vs, rfl, hc⟩
  | (i, v) :: parts, qs, cells, cs', vs, h, hc, e => by
    simp only [RepP] at h
    obtain ⟨V, us, rfl, h1, h2⟩ := h
    simp only [fillA] at e
    split at e <;> try cases e
    rename_i off size hpl
    split at e <;> try cases e
    rename_i hcond
    have hl1 := h1.cells.length
    have hl2 := hc.length
    obtain ⟨c1, c2⟩ := hcond
    have hlay := lay_ok v.cells V.cells.toList cells vs off 0 h1.cells hc
    obtain ⟨vs', h3, h4⟩ := fill_ok hp parts us (layAt cells off v.cells) cs' (V.cells.zipIdx.foldl (fun cs (c : Value × Nat) => cs.setIfInBounds (off + c.2) c.1) vs) h2 (by
      rw [← Array.foldl_toList, Array.toList_zipIdx]
      simpa using hlay) e
    refine ⟨vs', ?_, h4⟩
    simp only [Instr.fill, hp _ _ hpl]
    rw [if_neg]
    · exact h3
    · simp only [Array.length_toList] at hl1 hl2
      simp
      omega

theorem RepP_of {G : Gh} {ρ : Operand → AV} {e : Operand → Value} : ∀ (parts : List (Nat × Operand)), (∀ p ∈ parts, Rep G (ρ p.2) (e p.2)) → RepP G (parts.map fun p => (p.1, ρ p.2)) (parts.map fun p => (p.1, e p.2))
  | [], _ => by simp [RepP]
  | p :: ps, h => by
    simp only [List.map_cons, RepP]
    exact ⟨_, _, rfl, h p (by simp), RepP_of ps fun q hq => h q (by simp [hq])⟩

theorem places_ok (h : TabOk P tab) : ∀ (F : List Field) (fs : List (Nat × TypeId)), F.map (fun f => (f.offset, f.type)) = fs → (fs.all fun f => (tab f.2).isSome) = true →
    ∃ pl : List (Nat × Nat), F.mapM (fun f => (P.info? f.type).map fun i => (f.offset, i.size)) = some pl ∧ ∀ i q, placeOf tab fs i = some q → pl[i]? = some q
  | [], fs, e, _ => by
    simp only [List.map_nil] at e
    subst e
    exact ⟨[], by simp, by simp [placeOf]⟩
  | f :: F, fs, e, ha => by
    subst e
    simp only [List.map_cons, List.all_cons, Bool.and_eq_true] at ha
    obtain ⟨ti, hti⟩ := Option.isSome_iff_exists.1 ha.1
    obtain ⟨i, d, h1, h2, h3, h4, _⟩ := h _ _ hti
    obtain ⟨pl, e1, e2⟩ := places_ok h F _ rfl ha.2
    refine ⟨(f.offset, i.size) :: pl, by simp [h1, e1], fun j q hj => ?_⟩
    cases j with
    | zero =>
      simp [placeOf, hti] at hj
      simp [h4, hj]
    | succ j =>
      have := e2 j q (by simpa [placeOf] using hj)
      simpa using this

theorem buildA_ok (h : TabOk P tab) {t : TypeId} {parts : List (Nat × AV)} {qs : Array (Nat × Value)} {v : AV} {φ : Prop} (e : buildA tab t parts = some (φ, v)) (G : Gh) (w : World) (hr : RepP G parts qs.toList) :
    ∃ V, (Instr.build t qs).run P w = .ok V w ∧ Rep G v V := by
  unfold buildA at e
  split at e <;> try cases e
  rename_i ti hti
  obtain ⟨i, d, h1, h2, h3, h4, h5, h6⟩ := h _ _ hti
  split at e
  · rename_i fs htd
    split at e <;> try cases e
    rename_i hall
    split at e <;> cases e
    rename_i cs hcs
    obtain ⟨ti_td, a1, a2, z⟩ := ti
    simp only at htd
    subst htd
    obtain ⟨F, hu, hF⟩ := h.struct hti
    obtain ⟨pl, p1, p2⟩ := places_ok h F.toList fs hF hall
    obtain ⟨vs', f1, f2⟩ := fill_ok (pc := (pl.toArray[·]?)) (fun j q hj => by simpa using p2 j q hj) parts qs.toList _ cs z.cells hr (rep_absC G z).cells hcs
    refine ⟨.agg vs', run_build w t qs vs' ?_, by simp only [Rep]; exact ⟨vs'.toList, by simp, f2⟩⟩
    unfold Program.built
    simp only [h1, hu, h6, p1]
    simpa using f1
  · rename_i n el htd
    split at e <;> try cases e
    rename_i te hte
    split at e <;> cases e
    rename_i cs hcs
    obtain ⟨ti_td, a1, a2, z⟩ := ti
    simp only at htd
    subst htd
    have hu := h.array hti
    obtain ⟨ie, de, k1, k2, k3, k4, _⟩ := h _ _ hte
    obtain ⟨vs', f1, f2⟩ := fill_ok (pc := fun i => some (i * te.size, te.size)) (fun j q hj => hj) parts qs.toList _ cs z.cells hr (rep_absC G z).cells hcs
    refine ⟨.agg vs', run_build w t qs vs' ?_, by simp only [Rep]; exact ⟨vs'.toList, by simp, f2⟩⟩
    unfold Program.built
    simp only [h1, hu, h6, k1, k4]
    exact f1
  · cases e

theorem assertA_ok (h : TabOk P tab) {xt a : TypeId} {ok : Bool} {x v : AV} {φ : Prop} (e : assertA tab a ok x = some (φ, v)) (G : Gh) (w : World) {X : Value} (hr : Rep G x X) :
    ∃ V, (Instr.typeAssert X xt a ok).run P w = .ok V w ∧ Rep G v V := by
  unfold assertA at e
  split at e <;> try cases e
  rename_i ti hti
  obtain ⟨i, d, h1, h2, h3, h4, h5, h6⟩ := h _ _ hti
  have hz := h.zeroValue hti w
  split at e
  · cases e
  rename_i hni
  have hnd : ∀ ms, d ≠ .interface ms := by
    rintro ms rfl
    exact hni _ h3.symm
  split at e
  · rename_i t u
    simp only [Rep] at hr
    obtain ⟨U, rfl, hU⟩ := hr
    split at e
    · rename_i hta
      subst hta
      cases e
      refine ⟨if ok then .tuple #[U, .bool true] else U, ?_, ?_⟩
      · unfold Instr.typeAssert
        cases d <;> first | exact absurd rfl (hnd _) | (simp [run_underlying h2])
      · cases ok with
        | true => simp only [if_true, Rep]; exact ⟨[U, .bool true], rfl, by simp only [RepL]; exact ⟨_, _, rfl, hU, _, _, rfl, by simp [Rep], rfl⟩⟩
        | false => simpa using hU
    · rename_i hta
      split at e <;> cases e
      rename_i hok
      subst hok
      refine ⟨.tuple #[ti.zero, .bool false], ?_, ?_⟩
      · unfold Instr.typeAssert
        cases d <;> first | exact absurd rfl (hnd _) | (simp [run_underlying h2, hta, hz])
      · simp only [Rep]
        exact ⟨[ti.zero, .bool false], rfl, by simp only [RepL]; exact ⟨_, _, rfl, rep_absC G _, _, _, rfl, by simp [Rep], rfl⟩⟩
  · simp only [Rep] at hr
    subst hr
    split at e <;> cases e
    rename_i hok
    subst hok
    refine ⟨.tuple #[ti.zero, .bool false], ?_, ?_⟩
    · unfold Instr.typeAssert
      cases d <;> first | exact absurd rfl (hnd _) | (simp [run_underlying h2, hz])
    · simp only [Rep]
      exact ⟨[ti.zero, .bool false], rfl, by simp only [RepL]; exact ⟨_, _, rfl, rep_absC G _, _, _, rfl, by simp [Rep], rfl⟩⟩
  · cases e

theorem minmaxA_ok {mx : Bool} {xs : List AV} {Xs : List Value} {v : AV} {φ : Prop} (e : minmaxA mx xs = some (φ, v)) (G : Gh) (w : World) (ts : Array TypeId) (ty : TypeId) (hr : RepL G xs Xs) :
    ∃ V, (if mx then Builtin.max_ ts ty Xs.toArray else Builtin.min_ ts ty Xs.toArray).run P w = .ok V w ∧ Rep G v V := by
  unfold minmaxA at e
  split at e <;> cases e
  all_goals
    simp only [RepL, Rep] at hr
  · obtain ⟨_, _, rfl, rfl, rfl⟩ := hr
    cases mx <;> exact ⟨_, by simp [Builtin.max_, Builtin.min_]; rfl, by simp [Rep]⟩
  · obtain ⟨_, _, rfl, rfl, _, _, rfl, rfl, rfl⟩ := hr
    cases mx <;> exact ⟨_, by simp [Builtin.max_, Builtin.min_, Builtin.max2, Builtin.min2]; rfl, by simp [Rep]⟩
  · obtain ⟨_, _, rfl, rfl, _, _, rfl, rfl, _, _, rfl, rfl, rfl⟩ := hr
    cases mx <;> exact ⟨_, by simp [Builtin.max_, Builtin.min_, Builtin.max2, Builtin.min2]; rfl, by simp [Rep]⟩

theorem nilCheckA_ok {x v : AV} {φ : Prop} (o : Oper) (xo : Operand) (ho : o.op = .nilCheck xo) (e : nilCheckA x = some (φ, v)) (G : Gh) (w : World) {ev : Operand → Value} (hr : Rep G x (ev xo)) :
    ∃ V, (execOp ev o).run P w = .ok (.value V) w ∧ Rep G v V := by
  unfold nilCheckA at e
  unfold execOp
  simp only [ho]
  generalize ev xo = X at hr
  split at e <;> cases e
  · have hr' := hr
    simp only [Rep] at hr
    obtain ⟨b, _, rfl⟩ := hr
    exact ⟨_, rfl, hr'⟩
  · have hr' := hr
    simp only [Rep] at hr
    obtain ⟨b, rfl, _⟩ := hr
    exact ⟨_, rfl, hr'⟩
  · have hr' := hr
    simp only [Rep] at hr
    obtain ⟨b, rfl, _⟩ := hr
    exact ⟨_, rfl, hr'⟩
  · have hr' := hr
    simp only [Rep] at hr
    obtain ⟨_, _, rfl, _⟩ := hr
    exact ⟨_, rfl, hr'⟩

theorem RepL_map {G : Gh} {ρ : Operand → AV} {e : Operand → Value} : ∀ (xs : List Operand), (∀ x ∈ xs, Rep G (ρ x) (e x)) → RepL G (xs.map ρ) (xs.map e)
  | [], _ => by simp [RepL]
  | x :: xs, h => by
    simp only [List.map_cons, RepL]
    exact ⟨_, _, rfl, h x (by simp), RepL_map xs fun y hy => h y (by simp [hy])⟩

theorem opN_quiet (h : TabOk P tab) {o : Oper} {ρ : Operand → AV} {v : AV} {φ : Prop} (e : opN tab o ρ = some (φ, v)) (hφ : φ) : Quiet P o ρ v := by
  intro G w ev hs hr
  obtain ⟨dst, op, type, pos, after, guard⟩ := o
  cases op
  case move x =>
    simp only [opN, Option.some.injEq, Prod.mk.injEq] at e
    obtain ⟨_, rfl⟩ := e
    exact ⟨_, rfl, hr x (by simp [Op.operands])⟩
  case assign x =>
    simp only [opN, Option.some.injEq, Prod.mk.injEq] at e
    obtain ⟨_, rfl⟩ := e
    exact ⟨_, rfl, hr x (by simp [Op.operands])⟩
  case pick c a b =>
    simp only [opN] at e
    split at e <;> cases e
    rename_i t ht
    have hc := hr c (by simp [Op.operands])
    rw [ht] at hc
    simp only [Rep] at hc
    refine ⟨if t then ev a else ev b, by simp [execOp, hc, asBool], ?_⟩
    cases t
    · exact hr b (by simp [Op.operands])
    · exact hr a (by simp [Op.operands])
  case makeFunc fn first caps =>
    simp only [opN, Option.some.injEq, Prod.mk.injEq] at e
    obtain ⟨_, rfl⟩ := e
    refine ⟨.func fn (first.map ev) (caps.map ev), by simp [execOp, Instr.makeFunc], ?_⟩
    simp only [Rep]
    exact ⟨first.toList.map ev, caps.toList.map ev, by rw [← Array.toList_map, ← Array.toList_map], RepL_map _ fun x hx => hr x (by simp only [Op.operands, Array.toList_append, List.mem_append]; exact .inl hx), RepL_map _ fun x hx => hr x (by simp only [Op.operands, Array.toList_append, List.mem_append]; exact .inr hx)⟩
  case makeInterface t x =>
    simp only [opN] at e
    split at e <;> cases e
    rename_i ti hni hti
    obtain ⟨i, d, h1, h2, h3, h4, h5, h6⟩ := h _ _ hti
    refine ⟨.iface t (ev x), ?_, by simp only [Rep]; exact ⟨_, rfl, hr x (by simp [Op.operands])⟩⟩
    have hnd : ∀ ms, d ≠ .interface ms := by
      rintro ms rfl
      obtain ⟨td, a1, a2, z⟩ := ti
      simp only [tdOf] at h3
      subst h3
      exact hni _ _ _ _ rfl
    cases d <;> first | exact absurd rfl (hnd _) | (simp [execOp, Instr.makeInterface, run_underlying h2])
  case extract x i =>
    simp only [opN] at e
    obtain ⟨V, hV, hR⟩ := extractA_ok (P := P) e G w (hr x (by simp [Op.operands]))
    exact ⟨V, by simp [execOp, hV], hR⟩
  case field t x f =>
    simp only [opN] at e
    obtain ⟨V, hV, hR⟩ := fieldA_ok h e hφ G w (hr x (by simp [Op.operands]))
    exact ⟨V, by simp [execOp, hV], hR⟩
  case fieldAddr t x f =>
    simp only [opN] at e
    obtain ⟨V, hV, hR⟩ := fieldAddrA_ok h e hφ G w (hr x (by simp [Op.operands]))
    exact ⟨V, by simp [execOp, hV], hR⟩
  case indexAddr t x i =>
    simp only [opN] at e
    obtain ⟨V, hV, hR⟩ := indexAddrA_ok h e hφ G w (hr x (by simp [Op.operands])) (hr i (by simp [Op.operands]))
    exact ⟨V, by simp [execOp, hV], hR⟩
  case index t x i =>
    simp only [opN] at e
    obtain ⟨V, hV, hR⟩ := indexA_ok h e hφ G w (hr x (by simp [Op.operands])) (hr i (by simp [Op.operands]))
    exact ⟨V, by simp [execOp, hV], hR⟩
  case load t x =>
    simp only [opN] at e
    obtain ⟨V, hV, hR⟩ := loadA_ok h e hφ G w hs (hr x (by simp [Op.operands]))
    exact ⟨V, by simp [execOp, hV], hR⟩
  case nilCheck x =>
    simp only [opN] at e
    exact nilCheckA_ok _ x rfl e G w (hr x (by simp [Op.operands]))
  case binOp op t x y yt =>
    simp only [opN] at e
    obtain ⟨V, hV, hR⟩ := binN_ok h G w x y e hφ (hr x (by simp [Op.operands])) (hr y (by simp [Op.operands]))
    exact ⟨V, by simp only [execOp, Sem.run_bind, hV, Result.andThen_ok, Sem.run_pure], hR⟩
  case unOp op t x =>
    simp only [opN] at e
    obtain ⟨V, hV, hR⟩ := unA_ok (P := P) e hφ G w (hr x (by simp [Op.operands]))
    exact ⟨V, by simp [execOp, hV], hR⟩
  case convert s d x =>
    simp only [opN] at e
    obtain ⟨V, hV, hR⟩ := convA_ok h e G w (hr x (by simp [Op.operands]))
    exact ⟨V, by simp [execOp, hV], hR⟩
  case typeAssert x xt a ok =>
    simp only [opN] at e
    obtain ⟨V, hV, hR⟩ := assertA_ok (xt := xt) h e G w (hr x (by simp [Op.operands]))
    exact ⟨V, by simp [execOp, hV], hR⟩
  case slice t x lo hi mx =>
    cases mx with
    | some m => simp [opN] at e
    | none =>
      simp only [opN] at e
      obtain ⟨V, hV, hR⟩ := sliceA_ok (LO := lo.map ev) (HI := hi.map ev) h e hφ G w (hr x (by simp [Op.operands]))
        (fun a ha => by cases lo with
          | none => simp at ha
          | some l => simp at ha; subst ha; exact ⟨_, rfl, hr l (by simp [Op.operands])⟩)
        (fun ha => by cases lo with
          | none => rfl
          | some l => simp at ha)
        (fun a ha => by cases hi with
          | none => simp at ha
          | some l => simp at ha; subst ha; exact ⟨_, rfl, hr l (by simp [Op.operands])⟩)
        (fun ha => by cases hi with
          | none => rfl
          | some l => simp at ha)
      exact ⟨V, by simp [execOp, hV], hR⟩
  case build t parts =>
    simp only [opN] at e
    obtain ⟨V, hV, hR⟩ := buildA_ok (qs := parts.map fun p => (p.1, ev p.2)) h e G w (by
      simpa using RepP_of parts.toList fun p hp => hr p.2 (by simp [Op.operands]; exact ⟨p.1, by simpa using hp⟩))
    exact ⟨V, by simp only [execOp, Sem.run_bind]; rw [show (parts.map fun (x : Nat × Operand) => match x with | (i, x) => (i, ev x)) = parts.map fun p => (p.1, ev p.2) from rfl, hV]; rfl, hR⟩
  case call c =>
    obtain ⟨callee, args, ats⟩ := c
    cases callee with
    | value f => simp [opN] at e
    | invoke r m => simp [opN] at e
    | builtin b =>
      have hargs : ∀ x ∈ args.toList, Rep G (ρ x) (ev x) := fun x hx => hr x (by simpa [Op.operands, Call.operands] using hx)
      cases b <;> try (simp [opN] at e; done)
      case len =>
        simp only [opN] at e
        split at e <;> try cases e
        rename_i x t ha ht
        have ha' : args = #[x] := by apply Array.ext'; simpa using ha
        have ht' : ats = #[t] := by apply Array.ext'; simpa using ht
        subst ha' ht'
        obtain ⟨V, hV, hR⟩ := lenA_ok (ty := type) h e G w (hargs x (by simp))
        exact ⟨V, by simp [execOp, resolve, invoke, builtin, hV], hR⟩
      case max =>
        simp only [opN] at e
        obtain ⟨V, hV, hR⟩ := minmaxA_ok (P := P) e G w ats type (RepL_map _ hargs)
        simp only [if_true] at hV
        refine ⟨V, ?_, hR⟩
        simp only [execOp, resolve, invoke, builtin, Sem.run_bind, Sem.run_pure, Result.andThen_ok]
        rw [show args.map ev = (args.toList.map ev).toArray by rw [← Array.toList_map], hV]
        rfl
      case min =>
        simp only [opN] at e
        obtain ⟨V, hV, hR⟩ := minmaxA_ok (P := P) e G w ats type (RepL_map _ hargs)
        simp only [Bool.false_eq_true, if_false] at hV
        refine ⟨V, ?_, hR⟩
        simp only [execOp, resolve, invoke, builtin, Sem.run_bind, Sem.run_pure, Result.andThen_ok]
        rw [show args.map ev = (args.toList.map ev).toArray by rw [← Array.toList_map], hV]
        rfl
  all_goals (simp [opN] at e)

end
end Go.Proofs.YtkdendaohlnlcaaGreat.Av

/- What the operations do that make memory, read or write variables, or append. No condition. -/
namespace Go.Proofs.YtkdendaohlnlcaaGreat.Av
set_option linter.unusedVariables false
set_option linter.unusedSimpArgs false
open Go.RowKit

def Fresh (G : Gh) (k : List Nat) : Prop := ∀ i : Id, k <:+ i.key → G.σ i = none ∧ G.τ i = none
def New (k : List Nat) (G G' : Gh) : Prop := ∀ i : Id, ¬ k <:+ i.key → G'.σ i = G.σ i ∧ G'.τ i = G.τ i
theorem New.refl (k : List Nat) (G : Gh) : New k G G := fun _ _ => ⟨rfl, rfl⟩

/-- What an operation at the place k does: it answers v, and H becomes H'. -/
def OpOk (P : Program) (w0 : Base) (k : List Nat) (o : Oper) (ρ : Operand → AV) (H H' : Hp) (v : AV) : Prop :=
  ∀ (G : Gh) (w : World) (a : Act), Sim w0 G H w → Fresh G k → (∀ x ∈ o.op.operands.toList, Rep G (ρ x) (a.eval x)) →
    ∀ (K : Act → World → Prop) (Q : Exit → Act → World → Prop), (∀ G' w' V, G.Le G' → New k G G' → Sim w0 G' H' w' → Rep G' v V → K (a.put o.dst V) w') → o.wp P a w K Q

section
variable {P : Program} {tab : Tab} {w0 : Base} {k : List Nat}

theorem OpOk.quiet {o : Oper} {ρ : Operand → AV} {v : AV} (h : Quiet P o ρ v) (H : Hp) : OpOk P w0 k o ρ H H v := by
  intro G w a hs hf hr K Q hK
  obtain ⟨V, hV, hR⟩ := h G w a.eval hs.c hr
  unfold Oper.wp
  rw [hV]
  exact hK G w V (Gh.Le.refl G) (New.refl k G) hs hR

/-! ### memory that nobody will write -/
theorem rep_newRow {G : Gh} {H : Hp} {w : World} (h : Sim w0 G H w) {cs : List AV} {vs : Array Value} (hr : RepL G cs vs.toList) :
    RepC (G.withC (viewOf w.heap.size vs vs.size)) ⟨w.heap.size, 0, none⟩ 0 cs := by
  refine RepC_of_list cs 0 vs.toList (RepL.mono (G.le_withC _) _ _ hr) fun j v hj => ?_
  rw [add_at, Nat.zero_add]
  refine G.withC_new ?_ ?_
  · cases hc : G.C ⟨w.heap.size, j, none⟩ with
    | none => rfl
    | some u => have := h.lt_of_C hc; simp at this
  · have hlt : j < vs.size := by
      have := (List.getElem?_eq_some_iff.1 hj).1
      simpa using this
    simp only [viewOf]
    rw [if_pos ⟨trivial, trivial, hlt⟩]
    simpa using hj

theorem OpOk.boxConst {o : Oper} {ρ : Operand → AV} {et : TypeId} {x : Operand} (ho : o.op = .box et x) (H : Hp) : OpOk P w0 k o ρ H H (.sptr (ρ x).cells) := by
  intro G w a hs hf hr K Q hK
  have hx := (hr x (by simp [ho, Op.operands])).cells
  have hrun : (execOp a.eval o).run P w = .ok (.value (.pointer (some ⟨w.heap.size, 0, none⟩))) (w.alloc (.cells (a.eval x).cells et)) := by
    simp [execOp, ho, Instr.box, newVar, newRow]
  unfold Oper.wp
  rw [hrun]
  refine hK _ _ _ (G.le_withC _) (fun _ _ => ⟨rfl, rfl⟩) (hs.newRow _ et) ?_
  simp only [Rep]
  exact ⟨_, rfl, rep_newRow hs hx⟩

theorem RepE_of_list {G : Gh} {ad : Addr} : ∀ (xs : List (List AV)) (k : Nat), RepC G ad k xs.flatten → RepE G ad k xs
  | [], k, _ => by simp [RepE]
  | x :: xs, k, h => by
    simp only [List.flatten_cons] at h
    have := (RepC.split x xs.flatten k).1 h
    simp only [RepE]
    exact ⟨this.1, RepE_of_list xs _ this.2⟩
theorem RepE.flat {G : Gh} {ad : Addr} : ∀ (xs : List (List AV)) (k : Nat), RepE G ad k xs → RepC G ad k xs.flatten
  | [], k, _ => by simp [RepC]
  | x :: xs, k, h => by
    simp only [RepE] at h
    simp only [List.flatten_cons]
    exact (RepC.split x xs.flatten k).2 ⟨h.1, RepE.flat xs _ h.2⟩
theorem flatten_length {sz : Nat} : ∀ (xs : List (List AV)), (∀ x ∈ xs, x.length = sz) → xs.flatten.length = xs.length * sz
  | [], _ => by simp
  | x :: xs, h => by
    simp only [List.flatten_cons, List.length_append, List.length_cons, flatten_length xs fun y hy => h y (by simp [hy]), h x (by simp), Nat.succ_mul]
    omega

/-- A token that stands for nothing any more stands for nothing in an element. -/
def strip : AV → AV
  | .list _ xs => .list .none xs
  | v => v
theorem Rep.strip {G : Gh} {v : AV} {V : Value} (h : Rep G v V) : Rep G (strip v) V := by
  cases v <;> try exact h
  simp only [Av.strip, Rep] at h ⊢
  obtain ⟨A, n, c, h1, h2, h3, _, h5⟩ := h
  exact ⟨A, n, c, h1, h2, h3, trivial, h5⟩
theorem RepL.strip {G : Gh} : ∀ {as : List AV} {vs : List Value}, RepL G as vs → RepL G (as.map Av.strip) vs
  | [], _, h => by simp only [RepL] at h; subst h; simp [RepL]
  | a :: as, _, h => by
    simp only [RepL] at h
    obtain ⟨u, us, rfl, h1, h2⟩ := h
    simp only [List.map_cons, RepL]
    exact ⟨u, us, rfl, h1.strip, RepL.strip h2⟩

/-- So many pieces of one length. -/
def chunks (sz : Nat) (cs : List AV) : Nat → List (List AV)
  | 0 => []
  | n + 1 => cs.take sz :: chunks sz (cs.drop sz) n
theorem chunks_flat (sz : Nat) : ∀ (n : Nat) (cs : List AV), cs.length = n * sz → (chunks sz cs n).flatten = cs
  | 0, cs, h => by
    simp at h
    subst h
    rfl
  | n + 1, cs, h => by
    simp only [chunks, List.flatten_cons]
    rw [chunks_flat sz n (cs.drop sz) (by rw [List.length_drop, h, Nat.succ_mul]; omega), List.take_append_drop]
theorem chunks_length (sz : Nat) : ∀ (n : Nat) (cs : List AV), (chunks sz cs n).length = n
  | 0, cs => rfl
  | n + 1, cs => by simp [chunks, chunks_length sz n]
theorem chunks_each (sz : Nat) : ∀ (n : Nat) (cs : List AV), cs.length = n * sz → ∀ x ∈ chunks sz cs n, x.length = sz
  | 0, cs, h, x, hx => by simp [chunks] at hx
  | n + 1, cs, h, x, hx => by
    simp only [chunks, List.mem_cons] at hx
    rcases hx with rfl | hx
    · rw [List.length_take, h, Nat.succ_mul]
      omega
    · exact chunks_each sz n _ (by rw [List.length_drop, h, Nat.succ_mul]; omega) x hx

def zeroCellsA (z : Value) (n : Nat) : List AV := (List.range n).map fun j => (absC z).cells.getD (j % (absC z).cells.length) AV.undef

def sliceLitA (tab : Tab) (t : TypeId) (len : Nat) (parts : List (Nat × AV)) : Option AV :=
  match tab t with
  | some ⟨.slice e, _, _, _⟩ => match tab e with
    | some te => if len * te.size ≤ 16777216 ∧ 0 < te.size ∧ (absC te.zero).cells.length = te.size then
        match fillA (fun i => some (i * te.size, te.size)) (zeroCellsA te.zero (len * te.size)) parts with
        | some cs => some (.list .full (chunks te.size (cs.map strip) len))
        | none => none
      else none
    | none => none
  | _ => none

theorem fillA_length {pl : Nat → Option (Nat × Nat)} : ∀ (parts : List (Nat × AV)) (cells cs : List AV), fillA pl cells parts = some cs → cs.length = cells.length
  | [], cells, cs, e => by simp only [fillA, Option.some.injEq] at e; rw [e]
  | (i, v) :: parts, cells, cs, e => by
    simp only [fillA] at e
    split at e <;> try cases e
    split at e <;> try cases e
    rw [fillA_length parts _ _ e, layAt_length]

theorem RepL.get_lt {G : Gh} : ∀ {as : List AV} {vs : List Value}, RepL G as vs → ∀ (t : Nat) (d : Value), t < as.length → Rep G (as.getD t AV.undef) (vs.getD t d)
  | [], _, h, t, d, ht => by simp at ht
  | a :: as, _, h, 0, d, _ => by
    simp only [RepL] at h
    obtain ⟨u, us, rfl, h1, _⟩ := h
    simpa using h1
  | a :: as, _, h, t + 1, d, ht => by
    simp only [RepL] at h
    obtain ⟨u, us, rfl, _, h2⟩ := h
    simpa using RepL.get_lt h2 t d (by simpa using ht)

theorem zeroCells_ok (G : Gh) (z : Value) (n : Nat) (hz : 0 < (absC z).cells.length) : RepL G (zeroCellsA z n) ((Array.range n).map (z.cells[· % z.cells.size]!)).toList := by
  have hr := (rep_absC G z).cells
  have hl : (absC z).cells.length = z.cells.size := by simpa using hr.length
  unfold zeroCellsA
  rw [Array.toList_map, Array.toList_range]
  have : ∀ l : List Nat, RepL G (l.map fun j => (absC z).cells.getD (j % (absC z).cells.length) AV.undef) (l.map fun j => z.cells[j % z.cells.size]!) := by
    intro l
    induction l with
    | nil => simp [RepL]
    | cons j l ih =>
      simp only [List.map_cons, RepL]
      refine ⟨_, _, rfl, ?_, ih⟩
      rw [← hl]
      have h1 := RepL.get_lt hr (j % (absC z).cells.length) default (Nat.mod_lt _ hz)
      rwa [show z.cells[j % (absC z).cells.length]! = z.cells.toList.getD (j % (absC z).cells.length) default by
        simp [getElem!_def, List.getD_eq_getElem?_getD]
        cases z.cells[j % (absC z).cells.length]? <;> rfl]
  exact this _

theorem OpOk.sliceLit (h : TabOk P tab) {o : Oper} {ρ : Operand → AV} {t : TypeId} {len : Nat} {parts : Array (Nat × Operand)} {v : AV} (ho : o.op = .buildSlice t len parts)
    (e : sliceLitA tab t len (parts.toList.map fun p => (p.1, ρ p.2)) = some v) (H : Hp) : OpOk P w0 k o ρ H H v := by
  intro G w a hs hf hr K Q hK
  unfold sliceLitA at e
  split at e <;> try cases e
  rename_i el a1 a2 z ht
  split at e <;> try cases e
  rename_i te hte
  split at e <;> try cases e
  rename_i hc
  split at e <;> cases e
  rename_i cs hcs
  obtain ⟨c1, c2, c3⟩ := hc
  have hu := h.slice ht
  have hpr : RepP G (parts.toList.map fun p => (p.1, ρ p.2)) (parts.toList.map fun p => (p.1, a.eval p.2)) :=
    RepP_of parts.toList fun p hp => hr p.2 (by simp [ho, Op.operands]; exact ⟨p.1, by simpa using hp⟩)
  have hlen := fillA_length _ _ _ hcs
  have hzl : (zeroCellsA te.zero (len * te.size)).length = len * te.size := by simp [zeroCellsA]
  rw [hzl] at hlen
  obtain ⟨vs', f1, f2⟩ := fill_ok (pc := fun i => some (i * te.size, te.size)) (fun j q hj => hj) _ _ _ cs ((Array.range (len * te.size)).map (te.zero.cells[· % te.zero.cells.size]!)) hpr
    (zeroCells_ok G te.zero _ (by omega)) hcs
  have hrun : (execOp a.eval o).run P w = .ok (.value (.slice (some ⟨w.heap.size, 0, none⟩) len len)) (w.alloc (.cells vs' el)) := by
    simp only [execOp, ho, Sem.run_bind, Instr.buildSlice, run_underlying hu, Result.andThen_ok, h.sizeOf hte]
    rw [if_neg (by omega)]
    by_cases h0 : len * te.size = 0
    · rw [if_pos h0]
      have f1' := f1
      rw [h0] at f1'
      simp only [Sem.run_pure, Sem.run_bind, Result.andThen_ok, h0]
      have : (parts.map fun (x : Nat × Operand) => match x with | (i, x) => (i, a.eval x)).toList = parts.toList.map fun p => (p.1, a.eval p.2) := by rw [Array.toList_map]
      rw [this]
      have e0 : (Array.map (fun x => (#[] : Array Value)[x % (#[] : Array Value).size]!) (Array.range 0)) = Array.map (fun x => te.zero.cells[x % te.zero.cells.size]!) (Array.range 0) := by simp
      rw [e0, f1']
      simp [newRow]
    · rw [if_neg h0]
      simp only [Sem.run_pure, Sem.run_bind, Result.andThen_ok, h.zeroValue hte]
      have : (parts.map fun (x : Nat × Operand) => match x with | (i, x) => (i, a.eval x)).toList = parts.toList.map fun p => (p.1, a.eval p.2) := by rw [Array.toList_map]
      rw [this, f1]
      simp [newRow]
  unfold Oper.wp
  rw [hrun]
  refine hK _ _ _ (G.le_withC _) (fun _ _ => ⟨rfl, rfl⟩) (hs.newRow vs' el) ?_
  simp only [Rep]
  have hfl : (chunks te.size (cs.map strip) len).flatten = cs.map strip := chunks_flat te.size len _ (by rw [List.length_map, hlen])
  refine ⟨_, _, _, rfl, (chunks_length _ _ _).symm, Nat.le_refl _, rfl, ⟨te.size, chunks_each te.size len _ (by rw [List.length_map, hlen])⟩, ⟨w.heap.size, 0, none⟩, fun _ => rfl, RepE_of_list _ _ ?_⟩
  rw [hfl]
  exact rep_newRow hs f2.strip

end
end Go.Proofs.YtkdendaohlnlcaaGreat.Av

/- Variables: made, read, written; append. No condition. -/
namespace Go.Proofs.YtkdendaohlnlcaaGreat.Av
set_option linter.unusedVariables false
set_option linter.unusedSimpArgs false
open Go.RowKit

section
variable {P : Program} {tab : Tab} {w0 : Base} {k : List Nat}

theorem RepL.size {G : Gh} {as : List AV} {vs : Array Value} (h : RepL G as vs.toList) : as.length = vs.size := by simpa using h.length

def Gh.withσ (G : Gh) (id : Id) (b : Nat) : Gh := { G with σ := fun j => if j = id then some b else G.σ j }
theorem Gh.le_withσ {G : Gh} {id : Id} {b : Nat} (h : G.σ id = none) : G.Le (G.withσ id b) :=
  ⟨fun _ _ h => h, fun i c e => by
    simp only [Gh.withσ]
    split
    · rename_i hi; subst hi; rw [h] at e; cases e
    · exact e, fun _ _ h => h, fun _ _ h => h⟩
def Gh.withτ (G : Gh) (id : Id) (x : Option (Nat × Nat × Nat × TypeId)) : Gh := { G with τ := fun j => if j = id then some x else G.τ j }
theorem Gh.le_withτ {G : Gh} {id : Id} {x : Option (Nat × Nat × Nat × TypeId)} (h : G.τ id = none) : G.Le (G.withτ id x) :=
  ⟨fun _ _ h => h, fun _ _ h => h, fun i c e => by
    simp only [Gh.withτ]
    split
    · rename_i hi; subst hi; rw [h] at e; cases e
    · exact e, fun _ _ h => h⟩
theorem New.σ {G : Gh} {id : Id} {b : Nat} (hk : k <:+ id.key) : New k G (G.withσ id b) := fun i hi => by
  refine ⟨?_, rfl⟩
  simp only [Gh.withσ]
  split
  · rename_i h; subst h; exact absurd hk hi
  · rfl
theorem New.τ {G : Gh} {id : Id} {x : Option (Nat × Nat × Nat × TypeId)} (hk : k <:+ id.key) : New k G (G.withτ id x) := fun i hi => by
  refine ⟨rfl, ?_⟩
  simp only [Gh.withτ]
  split
  · rename_i h; subst h; exact absurd hk hi
  · rfl

theorem new_block {w : World} {cs : Array Value} {T : TypeId} : (w.alloc (.cells cs T)).heap[w.heap.size]? = some (.cells cs T (0, 0)) := by
  show (w.heap.push _)[w.heap.size]? = _
  simp

/-- A new variable. -/
theorem Sim.newVar {G : Gh} {H H' : Hp} {w : World} (h : Sim w0 G H w) (id : Id) (hid : G.σ id = none) (vs : Array Value) (T : TypeId) (hsz : vs.size = id.sz ∧ T = id.ty)
    (hH : ∀ i, i ≠ id → H' i = H i) (hn : H' id = none ∨ ∃ cs, H' id = some (.cells cs) ∧ RepL G cs vs.toList) : Sim w0 (G.withσ id w.heap.size) H' (w.alloc (.cells vs T)) := by
  have h1 := h.alloc (.cells vs T)
  have hle := Gh.le_withσ (b := w.heap.size) hid
  have htok : ∀ i, H' i = some .tok → H i = some .tok := fun i e => by
    by_cases hi : i = id
    · subst hi
      rcases hn with hn | ⟨cs, hn, _⟩ <;> rw [hn] at e <;> cases e
    · rwa [hH i hi] at e
  constructor
  · exact h1.c
  · intro i b e
    simp only [Gh.withσ] at e
    split at e
    · rename_i hi
      subst hi
      cases e
      refine ⟨h.base, vs, T, new_block, hsz, fun a ha => ?_, fun avs hav => ?_⟩
      · cases hc : G.C a with
        | none => exact hc
        | some u => have := h.lt_of_C hc; omega
      · rcases hn with hn | ⟨cs, hn, hr⟩
        · rw [hn] at hav; cases hav
        · rw [hn] at hav
          cases hav
          exact RepL.mono hle _ _ hr
    · rename_i hi
      obtain ⟨a1, cs, T', a2, a3, a4, a5⟩ := h1.v i b e
      exact ⟨a1, cs, T', a2, a3, a4, fun avs hav => RepL.mono hle _ _ (a5 avs (by rwa [hH i hi] at hav))⟩
  · intro i avs e
    by_cases hi : i = id
    · exact ⟨w.heap.size, by simp [Gh.withσ, hi]⟩
    · rw [hH i hi] at e
      obtain ⟨b, hb⟩ := h.d i avs e
      exact ⟨b, hle.σ i b hb⟩
  · intro i e
    rcases h1.t i (htok i e) with h2 | h2
    · exact .inl h2
    · exact .inr h2
  · intro i j b hi hj
    simp only [Gh.withσ] at hi hj
    split at hi <;> split at hj
    · simp_all
    · cases hi
      have := h.lt_of_σ hj
      omega
    · cases hj
      have := h.lt_of_σ hi
      omega
    · exact h.inj i j b hi hj
  · exact fun i j b x y hi hj => h.tinj i j b x y (htok i hi) (htok j hj)
  · intro i j b x hi hj e
    simp only [Gh.withσ] at hi
    split at hi
    · cases hi
      rcases h.t j (htok j hj) with h2 | ⟨b', m, c, T', cs, h2, h3, h4, _⟩
      · rw [show (G.withσ id w.heap.size).τ j = G.τ j from rfl, h2] at e
        cases e
      · rw [show (G.withσ id w.heap.size).τ j = G.τ j from rfl, h2] at e
        simp only [Option.some.injEq, Prod.mk.injEq] at e
        have := (Array.getElem?_eq_some_iff.1 h4).1
        omega
    · exact h.vt i j b x hi (htok j hj) e
  · exact h1.below
  · exact h.g.trans hle
  · intro b L e
    obtain ⟨r1, o, r2, r3, r4⟩ := h1.r b L e
    exact ⟨r1, o, r2, r3, fun x hx => (r4 x hx).later (fun _ h => h) fun i _ hi => htok i hi⟩

theorem OpOk.alloc (h : TabOk P tab) {o : Oper} {ρ : Operand → AV} {et : TypeId} {te : TI} (ho : o.op = .alloc et) (hte : tab et = some te) (H H' : Hp) (hz : (absC te.zero).cells.length = te.size)
    (hH : ∀ i, i ≠ ⟨te.size, k, et⟩ → H' i = H i) (hn : H' ⟨te.size, k, et⟩ = none ∨ H' ⟨te.size, k, et⟩ = some (.cells (absC te.zero).cells)) : OpOk P w0 k o ρ H H' (.ptr ⟨te.size, k, et⟩ 0) := by
  intro G w a hs hf hr K Q hK
  have hzr := (rep_absC G te.zero).cells
  have hrun : (execOp a.eval o).run P w = .ok (.value (.pointer (some ⟨w.heap.size, 0, none⟩))) (w.alloc (.cells te.zero.cells et)) := by
    simp [execOp, ho, Instr.alloc, h.zeroValue hte, newVar, newRow]
  have hid := (hf ⟨te.size, k, et⟩ (List.suffix_refl _)).1
  unfold Oper.wp
  rw [hrun]
  refine hK (G.withσ ⟨te.size, k, et⟩ w.heap.size) _ _ (Gh.le_withσ hid) (New.σ (List.suffix_refl _)) (hs.newVar ⟨te.size, k, et⟩ hid te.zero.cells et ?_ hH ?_) ?_
  · refine ⟨?_, rfl⟩
    have := hzr.size
    simp only
    omega
  · rcases hn with hn | hn
    · exact .inl hn
    · exact .inr ⟨_, hn, hzr⟩
  · simp only [Rep]
    exact ⟨w.heap.size, by simp [Gh.withσ], rfl⟩

theorem OpOk.boxVar {o : Oper} {ρ : Operand → AV} {et : TypeId} {x : Operand} (ho : o.op = .box et x) (H : Hp) :
    OpOk P w0 k o ρ H (H.upd ⟨(ρ x).cells.length, k, et⟩ (some (.cells (ρ x).cells))) (.ptr ⟨(ρ x).cells.length, k, et⟩ 0) := by
  intro G w a hs hf hr K Q hK
  have hx := (hr x (by simp [ho, Op.operands])).cells
  have hrun : (execOp a.eval o).run P w = .ok (.value (.pointer (some ⟨w.heap.size, 0, none⟩))) (w.alloc (.cells (a.eval x).cells et)) := by
    simp [execOp, ho, Instr.box, newVar, newRow]
  have hid := (hf ⟨(ρ x).cells.length, k, et⟩ (List.suffix_refl _)).1
  unfold Oper.wp
  rw [hrun]
  refine hK (G.withσ ⟨(ρ x).cells.length, k, et⟩ w.heap.size) _ _ (Gh.le_withσ hid) (New.σ (List.suffix_refl _)) (hs.newVar ⟨_, k, et⟩ hid _ et ?_ (fun i hi => Hp.upd_ne _ _ hi) ?_) ?_
  · exact ⟨hx.size.symm, rfl⟩
  · exact .inr ⟨_, Hp.upd_same _ _ _, hx⟩
  · simp only [Rep]
    exact ⟨w.heap.size, by simp [Gh.withσ], rfl⟩

/-- What is read of a variable. -/
def readA (ti : TI) (c : List AV) (off : Nat) : AV := partA ti (c.drop off) 0

theorem OpOk.load (h : TabOk P tab) {o : Oper} {ρ : Operand → AV} {t : TypeId} {ti : TI} {x : Operand} {id : Id} {off : Nat} {c : List AV} (ho : o.op = .load t x) (hx : ρ x = .ptr id off) (hti : tab t = some ti)
    (hl : off + ti.size ≤ c.length) (hp : 0 < ti.size) (H : Hp) (hH : H id = some (.cells c)) : OpOk P w0 k o ρ H H (readA ti c off) := by
  intro G w a hs hf hr K Q hK
  have hX := hr x (by simp [ho, Op.operands])
  rw [hx] at hX
  simp only [Rep] at hX
  obtain ⟨b, hb, hX⟩ := hX
  obtain ⟨_, cs, T, h2, h3, h4, h5⟩ := hs.v id b hb
  have hrc := h5 c hH
  have hlen := hrc.size
  -- the very view in which these cells are seen
  have hdrop := hrc.drop off
  have hcell : ∀ j v, (cs.toList.drop off)[j]? = some v → w.cell? ((⟨b, off, none⟩ : Addr).add j) = some v := fun j v hj => by
    have hadd : (⟨b, off, none⟩ : Addr).add j = ⟨b, off + j, none⟩ := by unfold Addr.add; split <;> simp_all
    rw [hadd]
    simp only [World.cell?, h2]
    simpa [List.getElem?_drop] using hj
  have hrun : ∃ V, (loadVar t ⟨b, off, none⟩).run P w = .ok V w ∧ Rep G (readA ti c off) V := by
    unfold loadVar readA partA
    simp only [Sem.run_bind, h.isAgg hti w, Result.andThen_ok]
    cases hA : ti.isAgg with
    | true =>
      have hload := run_loadCells_list (P := P) w ⟨b, off, none⟩ ((cs.toList.drop off).take ti.size) (fun j v hj => hcell j v (by
        rw [List.getElem?_take] at hj
        split at hj
        · exact hj
        · cases hj))
      rw [List.length_take, List.length_drop, Array.length_toList, Nat.min_eq_left (by omega)] at hload
      refine ⟨.agg ((cs.toList.drop off).take ti.size).toArray, by simp [h.sizeOf hti w, hload], ?_⟩
      simp only [if_true, Rep, List.drop_zero]
      exact ⟨_, rfl, hdrop.take _⟩
    | false =>
      have hlt : off < cs.size := by omega
      have hu := hcell 0 cs[off] (by simp [hlt])
      rw [show (⟨b, off, none⟩ : Addr).add 0 = ⟨b, off, none⟩ from rfl] at hu
      refine ⟨cs[off], by simp [hu], ?_⟩
      have := hrc.get off
      simp only [Bool.false_eq_true, if_false]
      have e1 : (c.drop off).getD 0 AV.undef = c.getD off AV.undef := by simp [List.getD_eq_getElem?_getD]
      rw [e1]
      simpa [List.getD_eq_getElem?_getD, hlt] using this
  obtain ⟨V, hV, hR⟩ := hrun
  unfold Oper.wp
  have : (execOp a.eval o).run P w = .ok (.value V) w := by simp [execOp, ho, Instr.loadAt, hX, Instr.sureAddr, hV]
  rw [this]
  exact hK G w V (Gh.Le.refl G) (New.refl k G) hs hR

/-- May it be stored into one cell? -/
def oneA : AV → Bool
  | .raw v => v.oneCell'
  | .agg _ | .tup _ => false
  | _ => true
theorem oneA_ok {G : Gh} {v : AV} {V : Value} (h : Rep G v V) (h1 : oneA v = true) : V.oneCell' = true := by
  cases v with
  | raw u => simp only [Rep] at h; subst h; exact h1
  | agg _ => simp [oneA] at h1
  | tup _ => simp [oneA] at h1
  | list t xs => simp only [Rep] at h; obtain ⟨A, n, c, rfl, _⟩ := h; rfl
  | ptr id off => simp only [Rep] at h; obtain ⟨b, _, rfl⟩ := h; rfl
  | sptr cells => simp only [Rep] at h; obtain ⟨b, rfl, _⟩ := h; rfl
  | arr id off len => simp only [Rep] at h; obtain ⟨b, _, rfl⟩ := h; rfl
  | rowp t xs => simp only [Rep] at h; obtain ⟨A, n, c, rfl | ⟨_, p, rfl⟩, _⟩ := h <;> rfl
  | iter id => simp only [Rep] at h; obtain ⟨b, _, rfl⟩ := h; rfl
  | clo fn f c => simp only [Rep] at h; obtain ⟨_, _, rfl, _⟩ := h; rfl
  | iface t v => simp only [Rep] at h; obtain ⟨_, rfl, _⟩ := h; rfl
theorem oneA_list {G : Gh} : ∀ {as : List AV} {vs : List Value}, RepL G as vs → as.all oneA = true → ∀ v ∈ vs, v.oneCell' = true
  | [], _, h, _, v, hv => by simp only [RepL] at h; subst h; simp at hv
  | a :: as, _, h, h1, v, hv => by
    simp only [RepL] at h
    obtain ⟨u, us, rfl, h2, h3⟩ := h
    simp only [List.all_cons, Bool.and_eq_true] at h1
    simp only [List.mem_cons] at hv
    rcases hv with rfl | hv
    · exact oneA_ok h2 h1.1
    · exact oneA_list h3 h1.2 v hv

theorem layAt_eq : ∀ (vs : List AV) (cs : List AV) (off : Nat), off + vs.length ≤ cs.length → layAt cs off vs = cs.take off ++ vs ++ cs.drop (off + vs.length)
  | [], cs, off, h => by simp [layAt]
  | v :: vs, cs, off, h => by
    simp only [layAt, List.length_cons] at h ⊢
    rw [layAt_eq vs (cs.set off v) (off + 1) (by simp; omega)]
    have hlt : off < cs.length := by omega
    rw [List.set_eq_take_append_cons_drop, if_pos hlt]
    have e1 : (cs.take off ++ v :: cs.drop (off + 1)).take (off + 1) = cs.take off ++ [v] := by
      rw [List.take_append, List.take_of_length_le (by simp; omega), List.length_take, Nat.min_eq_left (by omega)]
      rw [show off + 1 - off = 1 by omega]
      simp
    have e2 : (cs.take off ++ v :: cs.drop (off + 1)).drop (off + 1 + vs.length) = cs.drop (off + (vs.length + 1)) := by
      rw [List.drop_append, List.drop_of_length_le (by simp; omega), List.length_take, Nat.min_eq_left (by omega)]
      rw [show off + 1 + vs.length - off = vs.length + 1 by omega]
      simp only [List.nil_append, List.drop_succ_cons, List.drop_drop]
      congr 1
      omega
    rw [e1, e2]
    simp

theorem setRow_below {w : World} {g : Nat} {cs : Array Value} (h : Below w0.heap.size w0.w w) (hg : w0.heap.size ≤ g) : Below w0.heap.size w0.w (w.setRow g cs) :=
  h.trans ⟨rfl, rfl, rfl, by simp, fun i hi => setRow_other w g i cs (by omega)⟩

/-- A variable is written. -/
theorem Sim.store {G : Gh} {H H' : Hp} {w : World} (h : Sim w0 G H w) (id : Id) (b : Nat) (hb : G.σ id = some b) (cs : Array Value) (T : TypeId) (hcs : w.heap[b]? = some (.cells cs T (0, 0))) (new : Array Value) (hsz : new.size = cs.size)
    (avs : List AV) (hr : RepL G avs new.toList) (hH : H' = H.upd id (some (.cells avs))) : Sim w0 G H' (w.setRow b new) := by
  subst hH
  obtain ⟨hbase, cs', T', h2, h3, h4, h5⟩ := h.v id b hb
  rw [hcs] at h2
  simp only [Option.some.injEq, Obj.cells.injEq] at h2
  obtain ⟨rfl, rfl, _⟩ := h2
  have htok : ∀ i, (H.upd id (some (.cells avs))) i = some .tok → H i = some .tok := fun i e => by
    by_cases hi : i = id
    · subst hi
      rw [Hp.upd_same] at e
      cases e
    · rwa [Hp.upd_ne _ _ hi] at e
  constructor
  · intro a v e
    have hne : a.block ≠ b := fun hh => by rw [h4 a hh] at e; cases e
    have := h.c a v e
    rwa [World.cell?_of_block (w := w) (setRow_other w b a.block new hne)]
  · intro i c e
    by_cases hi : i = id
    · subst hi
      rw [hb] at e
      cases e
      exact ⟨hbase, new, T, setRow_heap w b cs new T (0, 0) hcs, ⟨by omega, h3.2⟩, h4, fun a ha => by
        rw [Hp.upd_same] at ha
        cases ha
        exact hr⟩
    · obtain ⟨a1, c1, T1, a2, a3, a4, a5⟩ := h.v i c e
      have hne : c ≠ b := fun hh => hi (h.inj i id c e (by rw [hh]; exact hb))
      exact ⟨a1, c1, T1, by rw [setRow_other w b c new hne]; exact a2, a3, a4, fun a ha => a5 a (by rwa [Hp.upd_ne _ _ hi] at ha)⟩
  · intro i a e
    by_cases hi : i = id
    · exact ⟨b, by rw [hi]; exact hb⟩
    · rw [Hp.upd_ne _ _ hi] at e
      exact h.d i a e
  · intro i e
    rcases h.t i (htok i e) with h6 | ⟨b', m, c, T1, c1, a1, a2, a3, a4⟩
    · exact .inl h6
    · have hne : b' ≠ b := fun hh => h.vt id i b (m, c, T1) hb (htok i e) (by rw [← hh]; exact a1)
      exact .inr ⟨b', m, c, T1, c1, a1, a2, by rw [setRow_other w b b' new hne]; exact a3, a4⟩
  · exact h.inj
  · exact fun i j c x y hi hj => h.tinj i j c x y (htok i hi) (htok j hj)
  · exact fun i j c x hi hj => h.vt i j c x hi (htok j hj)
  · exact setRow_below h.below hbase
  · exact h.g
  · intro l x e
    obtain ⟨r1, o, r2, r3, r4⟩ := h.r l x e
    have hne : l ≠ b := fun hh => by
      rw [hh, hcs] at r2
      cases r2
      exact r3 _ _ _ rfl
    exact ⟨r1, o, by rw [setRow_other w b l new hne]; exact r2, r3, fun y hy => (r4 y hy).later (fun _ h => h) fun i _ hi => htok i hi⟩

theorem OpOk.store (h : TabOk P tab) {o : Oper} {ρ : Operand → AV} {t : TypeId} {ti : TI} {x y : Operand} {id : Id} {off : Nat} {c : List AV} (ho : o.op = .store t x y) (hx : ρ x = .ptr id off) (hti : tab t = some ti)
    (hl : off + ti.size ≤ id.sz) (hv : (ρ y).cells.length = ti.size) (h1 : (ρ y).cells.all oneA = true) (H : Hp) (hH : H id = some (.cells c) ∨ (c.length = id.sz ∧ off = 0 ∧ ti.size = id.sz)) :
    OpOk P w0 k o ρ H (H.upd id (some (.cells (layAt c off (ρ y).cells)))) AV.undef := by
  intro G w a hs hf hr K Q hK
  have hX := hr x (by simp [ho, Op.operands])
  have hY := (hr y (by simp [ho, Op.operands])).cells
  rw [hx] at hX
  simp only [Rep] at hX
  obtain ⟨b, hb, hX⟩ := hX
  obtain ⟨_, cs, T, h2, h3, h4, h5⟩ := hs.v id b hb
  have hYl := hY.size
  have hst := run_storeCells_at P b off T (a.eval y).cells.toList 0 cs w h2 (by simp only [Array.length_toList]; omega) (oneA_list hY h1)
  have hrun : (execOp a.eval o).run P w = .ok .skip (w.setRow b (cs.toList.take off ++ (a.eval y).cells.toList ++ cs.toList.drop (off + (a.eval y).cells.toList.length)).toArray) := by
    simp only [execOp, ho, Sem.run_bind, Instr.storeAt, hX, Instr.sureAddr, Sem.run_pure, Result.andThen_ok, storeVar, h.sizeOf hti]
    rw [if_neg (by omega)]
    simp only [Nat.add_zero] at hst
    simp only [hst, Result.andThen_ok, Sem.run_pure, Sem.run_bind]
  have hnl : (cs.toList.take off ++ (a.eval y).cells.toList ++ cs.toList.drop (off + (a.eval y).cells.toList.length)).length = cs.size := by
    simp only [List.length_append, List.length_take, List.length_drop, Array.length_toList]
    omega
  have hcl : c.length = id.sz := by
    rcases hH with hH | hH
    · have := (h5 c hH).size
      omega
    · exact hH.1
  have hrep : RepL G (layAt c off (ρ y).cells) (cs.toList.take off ++ (a.eval y).cells.toList ++ cs.toList.drop (off + (a.eval y).cells.toList.length)) := by
    rw [layAt_eq _ _ _ (by omega)]
    rcases hH with hH | ⟨_, rfl, hz⟩
    · have hrc := h5 c hH
      have := RepL.append (RepL.append (hrc.take off) hY) (hrc.drop (off + (ρ y).cells.length))
      rwa [show (a.eval y).cells.toList.length = (ρ y).cells.length by simp only [Array.length_toList]; omega]
    · rw [List.take_zero, List.take_zero, List.drop_of_length_le (by omega), List.drop_of_length_le (by simp only [Array.length_toList]; omega)]
      simpa using hY
  unfold Oper.wp
  rw [hrun]
  exact hK G _ Go.undef (Gh.Le.refl G) (New.refl k G) (hs.store id b hb cs T h2 _ (by simpa using hnl) _ (by simpa using hrep) rfl) (by simp [Rep])

end
end Go.Proofs.YtkdendaohlnlcaaGreat.Av

/- append. No condition. -/
namespace Go.Proofs.YtkdendaohlnlcaaGreat.Av
set_option linter.unusedVariables false
set_option linter.unusedSimpArgs false
open Go.RowKit

section
variable {P : Program} {tab : Tab} {w0 : Base} {k : List Nat}

/-- A new token. -/
theorem Sim.newTok {G : Gh} {H H' : Hp} {w : World} (h : Sim w0 G H w) (id : Id) (hid : G.τ id = none) (x : Option (Nat × Nat × Nat × TypeId))
    (hc : ∀ i avs, H' i = some (.cells avs) → H i = some (.cells avs)) (ht : ∀ i, i ≠ id → H' i = some .tok → H i = some .tok)
    (hx : ∀ b m c T, x = some (b, m, c, T) → w0.heap.size ≤ b ∧ (∃ cs, w.heap[b]? = some (.cells cs T (0, 0)) ∧ c * id.sz ≤ cs.size) ∧ (m ≤ c ∧ T = id.ty) ∧ (∀ a, a.block = b → m * id.sz ≤ a.off → G.C a = none) ∧
      (∀ i, G.σ i ≠ some b) ∧ ∀ i, i ≠ id → H' i = some .tok → ∀ y, G.τ i ≠ some (some (b, y))) : Sim w0 (G.withτ id x) H' w := by
  have hle := Gh.le_withτ (x := x) hid
  have hold : ∀ i, i ≠ id → (G.withτ id x).τ i = G.τ i := fun i hi => by simp [Gh.withτ, hi]
  have hnew : (G.withτ id x).τ id = some x := by simp [Gh.withτ]
  constructor
  · exact h.c
  · intro i b e
    obtain ⟨a1, cs, T, a2, a3, a4, a5⟩ := h.v i b e
    exact ⟨a1, cs, T, a2, a3, a4, fun avs hav => RepL.mono hle _ _ (a5 avs (hc _ _ hav))⟩
  · exact fun i avs e => h.d i avs (hc _ _ e)
  · intro i e
    by_cases hi : i = id
    · subst hi
      rw [hnew]
      cases x with
      | none => exact .inl rfl
      | some y =>
        obtain ⟨b, m, c, T⟩ := y
        obtain ⟨h1, ⟨cs, h2, h3⟩, h4, h5, _⟩ := hx b m c T rfl
        exact .inr ⟨b, m, c, T, cs, rfl, h1, h2, h4, h3, h5⟩
    · rw [hold i hi]
      exact h.t i (ht i hi e)
  · exact h.inj
  · intro i j b y z hi hj ei ej
    by_cases h1 : i = id <;> by_cases h2 : j = id
    · rw [h1, h2]
    · subst h1
      rw [hnew] at ei
      rw [hold j h2] at ej
      obtain ⟨m, c, T⟩ := y
      simp only [Option.some.injEq] at ei
      exact absurd ej ((hx b m c T ei).2.2.2.2.2 j h2 hj z)
    · subst h2
      rw [hnew] at ej
      rw [hold i h1] at ei
      obtain ⟨m, c, T⟩ := z
      simp only [Option.some.injEq] at ej
      exact absurd ei ((hx b m c T ej).2.2.2.2.2 i h1 hi y)
    · rw [hold i h1] at ei
      rw [hold j h2] at ej
      exact h.tinj i j b y z (ht i h1 hi) (ht j h2 hj) ei ej
  · intro i j b y hi hj ej
    by_cases h2 : j = id
    · subst h2
      rw [hnew] at ej
      obtain ⟨m, c, T⟩ := y
      simp only [Option.some.injEq] at ej
      exact (hx b m c T ej).2.2.2.2.1 i hi
    · rw [hold j h2] at ej
      exact h.vt i j b y hi (ht j h2 hj) ej
  · exact h.below
  · exact h.g.trans hle
  · intro b L e
    obtain ⟨r1, o, r2, r3, r4⟩ := h.r b L e
    refine ⟨r1, o, r2, r3, fun x hx => (r4 x hx).later (fun i hi => ?_) fun i hi hh => ht i (fun hii => hi (by rw [hii]; exact hid)) hh⟩
    have hne : i ≠ id := fun hii => hi (by rw [hii]; exact hid)
    rw [hold i hne]
    exact hi

def viewFrom (b : Nat) (cs : Array Value) (lo hi : Nat) : Addr → Option Value := fun a => if a.block = b ∧ a.spot = none ∧ lo ≤ a.off ∧ a.off < hi then cs[a.off]? else none
theorem viewFrom_cell {w : World} {b : Nat} {cs : Array Value} {T : TypeId} {fr : Nat × Nat} {lo hi : Nat} (hb : w.heap[b]? = some (.cells cs T fr)) : ∀ a v, viewFrom b cs lo hi a = some v → w.cell? a = some v := by
  intro a v e
  unfold viewFrom at e
  split at e
  · rename_i hc
    obtain ⟨h1, h2, _, _⟩ := hc
    unfold World.cell?
    rw [h1, hb]
    simp [h2, e]
  · cases e

/-- Into the room behind a row: nothing that is known turns. -/
theorem Sim.roomed {G : Gh} {H : Hp} {w : World} (h : Sim w0 G H w) (t : Id) (ht : H t = some .tok) {b m c : Nat} {T : TypeId} (hτ : G.τ t = some (some (b, m, c, T))) {cs : Array Value} (hb : w.heap[b]? = some (.cells cs T (0, 0)))
    (new : Array Value) (hsz : new.size = cs.size) (hsame : ∀ j, j < m * t.sz → new[j]? = cs[j]?) : Sim w0 G H (w.setRow b new) := by
  rcases h.t t ht with h1 | ⟨b', m', c', T', cs', h1, h2, h3, h4, h5, h6⟩
  · rw [hτ] at h1; cases h1
  rw [hτ] at h1
  simp only [Option.some.injEq, Prod.mk.injEq] at h1
  obtain ⟨rfl, rfl, rfl, rfl⟩ := h1
  constructor
  · intro a v e
    have hold := h.c a v e
    by_cases hab : a.block = b
    · have ho : a.off < m * t.sz := by
        rcases Nat.lt_or_ge a.off (m * t.sz) with h' | h'
        · exact h'
        · rw [h6 a hab h'] at e; cases e
      unfold World.cell? at hold ⊢
      rw [hab] at hold ⊢
      rw [setRow_heap w b cs new T (0, 0) hb]
      rw [hb] at hold
      simp only at hold ⊢
      rw [hsame a.off ho]
      exact hold
    · rwa [World.cell?_of_block (w := w) (setRow_other w b a.block new hab)]
  · intro i c e
    obtain ⟨a1, c1, T1, a2, a3⟩ := h.v i c e
    have hne : c ≠ b := fun hh => h.vt i t c (m, _, T) e ht (by rw [hh]; exact hτ)
    exact ⟨a1, c1, T1, by rw [setRow_other w b c new hne]; exact a2, a3⟩
  · exact h.d
  · intro i e
    rcases h.t i e with g | ⟨b1, m1, c1, T1, cs1, g1, g2, g3, g4, g5, g6⟩
    · exact .inl g
    · by_cases hbb : b1 = b
      · subst hbb
        rw [hb] at g3
        simp only [Option.some.injEq, Obj.cells.injEq] at g3
        obtain ⟨rfl, rfl, _⟩ := g3
        exact .inr ⟨b1, m1, c1, T, new, g1, g2, setRow_heap w b1 cs new T (0, 0) hb, g4, by omega, g6⟩
      · exact .inr ⟨b1, m1, c1, T1, cs1, g1, g2, by rw [setRow_other w b b1 new hbb]; exact g3, g4, g5, g6⟩
  · exact h.inj
  · exact h.tinj
  · exact h.vt
  · exact setRow_below h.below h2
  · exact h.g
  · intro l x e
    obtain ⟨r1, o, r2, r3, r4⟩ := h.r l x e
    have hne : l ≠ b := fun hh => by
      rw [hh, hb] at r2
      cases r2
      exact r3 _ _ _ rfl
    exact ⟨r1, o, by rw [setRow_other w b l new hne]; exact r2, r3, fun y hy => (r4 y hy).later (fun _ h => h) fun i _ hi => hi⟩

def killTok (H : Hp) : Tok → Hp
  | .tok t => H.upd t none
  | _ => H
def tokLive (H : Hp) (sz : Nat) (e : TypeId) : Tok → Prop
  | .tok t => H t = some .tok ∧ t.sz = sz ∧ t.ty = e
  | .full => True
  | .nil => True
  | .none => False

theorem killTok_cells {H : Hp} {tk : Tok} (i : Id) (avs : List AV) (e : killTok H tk i = some (.cells avs)) : H i = some (.cells avs) := by
  cases tk with
  | tok t =>
    by_cases hi : i = t
    · subst hi; rw [killTok, Hp.upd_same] at e; cases e
    · rwa [killTok, Hp.upd_ne _ _ hi] at e
  | _ => exact e
theorem killTok_tok {H : Hp} {tk : Tok} (i : Id) (e : killTok H tk i = some .tok) : H i = some .tok ∧ ∀ t, tk = .tok t → i ≠ t := by
  cases tk with
  | tok t =>
    by_cases hi : i = t
    · subst hi; rw [killTok, Hp.upd_same] at e; cases e
    · exact ⟨by rwa [killTok, Hp.upd_ne _ _ hi] at e, fun t' ht => by cases ht; exact hi⟩
  | none => exact ⟨e, fun t ht => by cases ht⟩
  | nil => exact ⟨e, fun t ht => by cases ht⟩
  | full => exact ⟨e, fun t ht => by cases ht⟩

theorem RepE.stripped {G : Gh} {ad : Addr} : ∀ (xs : List (List AV)) (k : Nat), RepE G ad k xs → RepE G ad k (xs.map (·.map strip))
  | [], k, _ => by simp [RepE]
  | x :: xs, k, h => by
    simp only [RepE] at h
    simp only [List.map_cons, RepE, List.length_map]
    refine ⟨?_, RepE.stripped xs _ h.2⟩
    obtain ⟨vs, h1, h2⟩ := h.1.values
    exact RepC_of_list _ _ vs h1.strip h2

theorem flatten_strip (xs : List (List AV)) : (xs.map (·.map strip)).flatten = xs.flatten.map strip := by
  induction xs with
  | nil => rfl
  | cons x xs ih => simp only [List.map_cons, List.flatten_cons, List.map_append, ih]

/-- The values of a list's elements. -/
theorem list_values {G : Gh} {tk : Tok} {xs : List (List AV)} {A : Option Addr} {n c sz : Nat} (h : Rep G (.list tk xs) (.slice A n c)) (hsz : ∀ x ∈ xs, x.length = sz) :
    n = xs.length ∧ n ≤ c ∧ tokOk G A n c tk ∧ ∃ vs, RepL G xs.flatten vs ∧ vs.length = n * sz ∧ (xs ≠ [] → ∃ ad, A = some ad) ∧ ∀ ad, A = some ad → ∀ j v, vs[j]? = some v → G.C (ad.add j) = some v := by
  simp only [Rep] at h
  obtain ⟨A', n', c', he, hn, hc, ht, hun, ad, ha, hre⟩ := h
  simp only [Value.slice.injEq] at he
  obtain ⟨rfl, rfl, rfl⟩ := he
  subst hn
  obtain ⟨vs, h1, h2⟩ := (RepE.flat xs 0 hre).values
  have hl := h1.length
  rw [flatten_length xs hsz] at hl
  refine ⟨rfl, hc, ht, vs, h1, hl.symm, fun hx => ⟨ad, ha hx⟩, fun ad' had j v hj => ?_⟩
  have hx : xs ≠ [] := by
    rintro rfl
    simp only [List.flatten_nil, RepL] at h1
    subst h1
    simp at hj
  rw [ha hx] at had
  cases had
  simpa using h2 j v hj

/-- A string's bytes, each in a cell. -/
def bytesA (s : ByteArray) : List (List AV) := s.data.toList.map fun b => [.int .u8 b.toNat]
theorem bytesA_length (s : ByteArray) : (bytesA s).length = s.size := by
  unfold bytesA
  rw [List.length_map, Array.length_toList]
  rfl
theorem bytesA_each (s : ByteArray) : ∀ x ∈ bytesA s, x.length = 1 := by
  intro x hx
  obtain ⟨b, _, rfl⟩ := List.mem_map.1 hx
  rfl
theorem bytesA_rep (G : Gh) (s : ByteArray) : RepL G (bytesA s).flatten (byteCells s) := by
  unfold bytesA byteCells
  generalize s.data.toList = l
  induction l with
  | nil => simp [RepL]
  | cons b l ih =>
    simp only [List.map_cons, List.flatten_cons, List.cons_append, List.nil_append, RepL]
    exact ⟨_, _, rfl, by simp [Rep], ih⟩

/-- What is appended: a list's elements, or a string's bytes. -/
def srcA (tab : Tab) (sz : Nat) (t : TypeId) : AV → Option (Prop × List (List AV))
  | .list _ ys => match tab t with
    | some ⟨.slice _, _, _, _⟩ => some (∀ y ∈ ys, y.length = sz, ys)
    | _ => none
  | .raw (.string s) => match tab t with
    | some ⟨.string, _, _, _⟩ => some (sz = 1, bytesA s)
    | _ => none
  | _ => none

theorem src_ok (h : TabOk P tab) {sz : Nat} {t : TypeId} {v : AV} {ψ : Prop} {ys : List (List AV)} (e : srcA tab sz t v = some (ψ, ys)) (hψ : ψ) (h1 : ys.flatten.all oneA = true) {G : Gh} {w : World} (hc : ∀ a u, G.C a = some u → w.cell? a = some u) {X : Value} (hr : Rep G v X) :
    (∀ y ∈ ys, y.length = sz) ∧ ∃ us, Src P sz t X ys.length us w ∧ RepL G ys.flatten us := by
  unfold srcA at e
  split at e <;> try cases e
  · rename_i tk ys'
    split at e <;> cases e
    rename_i e' b1 b2 z' ht
    have hr0 := hr
    simp only [Rep] at hr0
    obtain ⟨A, m, c, rfl, _⟩ := hr0
    obtain ⟨hm, hmc, _, us, u1, u2, u3, u4⟩ := list_values hr hψ
    have hone := oneA_list u1 h1
    refine ⟨hψ, us, ?_, u1⟩
    subst hm
    cases A with
    | none =>
      have hy : ys = [] := by
        by_cases hy : ys = []
        · exact hy
        · obtain ⟨ad, had⟩ := u3 hy
          cases had
      subst hy
      have hus : us = [] := List.eq_nil_of_length_eq_zero (by simpa using u2)
      subst hus
      exact Src.ofNil w (h.slice ht) c
    | some ad => exact Src.ofSlice w (h.slice ht) ad _ c us u2 (fun j u hj => hc _ _ (u4 ad rfl j u hj)) hone
  · rename_i s
    split at e <;> cases e
    rename_i b1 b2 z' ht
    subst hψ
    simp only [Rep] at hr
    subst hr
    refine ⟨bytesA_each s, byteCells s, ?_, bytesA_rep G s⟩
    rw [bytesA_length]
    exact Src.ofString w (h.str ht) s

/-- The token of what came of an append: of one without room, to which nothing was appended, there is none. -/
def tokBy (tk : Tok) (ys : List (List AV)) (id : Id) : Tok := match tk, ys with
  | .full, [] => .full
  | .nil, [] => .nil
  | _, _ => .tok id

theorem OpOk.append (h : TabOk P tab) {o : Oper} {ρ : Operand → AV} {t t' e : TypeId} {a1 a2 : Nat} {z : Value} {te : TI} {s x : Operand} {tk : Tok} {xs ys : List (List AV)} {ψ : Prop}
    (ho : o.op = .call { callee := .builtin .append, args := #[s, x], argTypes := #[t, t'] }) (ht : tab t = some ⟨.slice e, a1, a2, z⟩) (hte : tab e = some te) (hs : ρ s = .list tk xs) (hx : srcA tab te.size t' (ρ x) = some (ψ, ys)) (hψ : ψ)
    (hxs : ∀ y ∈ xs, y.length = te.size) (hp : 0 < te.size) (hz : (absC te.zero).cells.length = te.size) (h1 : ys.flatten.all oneA = true)
    (hb : (xs.length + ys.length) * te.bytes ≤ 140737488355328) (hm : xs.length + ys.length ≤ 4611686018427387904) (H : Hp) (hl : tokLive H te.size e tk) :
    OpOk P w0 k o ρ H ((killTok H tk).upd ⟨te.size, k, e⟩ (some .tok)) (.list (tokBy tk ys ⟨te.size, k, e⟩) (xs ++ ys.map (·.map strip))) := by
  intro G w a hsim hf hr K Q hK
  obtain ⟨i, d, i1, i2, i3, i4, i5, i6⟩ := h _ _ hte
  have hu := h.slice ht
  have hid := (hf ⟨te.size, k, e⟩ (List.suffix_refl _)).2
  have hS := hr s (by simp [ho, Op.operands, Call.operands])
  have hX := hr x (by simp [ho, Op.operands, Call.operands])
  rw [hs] at hS
  generalize hSv : a.eval s = S at hS
  generalize hXv : a.eval x = X at hX
  have hS0 := hS
  simp only [Rep] at hS0
  obtain ⟨A, n, c, rfl, _⟩ := hS0
  obtain ⟨hn, hnc, htok, vs, v1, v2, v3, v4⟩ := list_values hS hxs
  obtain ⟨hys, us, hsrc, u1⟩ := src_ok (P := P) h hx hψ h1 hsim.c hX
  obtain ⟨m, hm'⟩ : ∃ m, m = ys.length := ⟨_, rfl⟩
  rw [← hm'] at hsrc
  have u2 := hsrc.newsLen
  have hone := hsrc.one
  rw [← i4] at hsrc
  have hbe : (n + m) * i.bytes ≤ 140737488355328 := by rw [i5, hn, hm']; exact hb
  have hnm : n + m ≤ 4611686018427387904 := by omega
  have hsimK : Sim w0 G (killTok H tk) w := hsim.forget fun j e' hj => by
    cases tk with
    | tok t0 =>
      by_cases hjt : j = t0
      · subst hjt; rw [killTok, Hp.upd_same] at hj; cases hj
      · rwa [killTok, Hp.upd_ne _ _ hjt] at hj
    | _ => exact hj
  have hcells : ∀ j avs, ((killTok H tk).upd ⟨te.size, k, e⟩ (some .tok)) j = some (.cells avs) → (killTok H tk) j = some (.cells avs) := fun j avs e' => by
    by_cases hj : j = ⟨te.size, k, e⟩
    · subst hj; rw [Hp.upd_same] at e'; cases e'
    · rwa [Hp.upd_ne _ _ hj] at e'
  have htoks : ∀ j, j ≠ ⟨te.size, k, e⟩ → ((killTok H tk).upd ⟨te.size, k, e⟩ (some .tok)) j = some .tok → (killTok H tk) j = some .tok := fun j hj e' => by rwa [Hp.upd_ne _ _ hj] at e'
  have hres : ∀ (G' : Gh) (w' : World) (ad : Addr) (cc : Nat), G.Le G' → RepC G' ad 0 (xs.flatten ++ ys.flatten) → n + m ≤ cc → tokOk G' (some ad) (n + m) cc (.tok ⟨te.size, k, e⟩) → m ≠ 0 →
      Rep G' (.list (tokBy tk ys ⟨te.size, k, e⟩) (xs ++ ys.map (·.map strip))) (.slice (some ad) (n + m) cc) := by
    intro G' w' ad cc hle hrc hcc htk hm0
    have hty : tokBy tk ys ⟨te.size, k, e⟩ = .tok ⟨te.size, k, e⟩ := by
      cases ys with
      | nil => simp at hm'; omega
      | cons y ys => cases tk <;> rfl
    rw [hty]
    simp only [Rep]
    refine ⟨_, _, _, rfl, by simp [hn, hm'], hcc, htk, ⟨te.size, fun y hy => ?_⟩, ad, fun _ => rfl, RepE_of_list _ _ ?_⟩
    · rcases List.mem_append.1 hy with hy | hy
      · exact hxs y hy
      · obtain ⟨y', hy', rfl⟩ := List.mem_map.1 hy
        simpa using hys y' hy'
    · rw [List.flatten_append, flatten_strip]
      have := (RepC.split _ _ 0).1 hrc
      refine (RepC.split _ _ 0).2 ⟨this.1, ?_⟩
      obtain ⟨vs2, q1, q2⟩ := this.2.values
      exact RepC_of_list _ _ vs2 q1.strip q2
  unfold Oper.wp
  have hexec : ∀ v w', (Builtin.append_ #[t, t'] o.type #[.slice A n c, X]).run P w = .ok v w' → (execOp a.eval o).run P w = .ok (.value v) w' := by
    intro v w' hrun
    simp only [execOp, ho, resolve, invoke, builtin, Sem.run_bind, Sem.run_pure, Result.andThen_ok, List.map_toArray, List.map_cons, List.map_nil, hSv, hXv, hrun]
  by_cases hm0 : m = 0
  · -- nothing is appended
    subst hm0
    have hy0 : ys = [] := List.eq_nil_of_length_eq_zero (by omega)
    subst hy0
    have hus : us = [] := List.eq_nil_of_length_eq_zero (by simpa using u2)
    subst hus
    have hrun := hexec _ _ (run_append_nothing (P := P) w t t' o.type e i hu i1 A n c hnc X hsrc)
    rw [hrun]
    have hdone : ∀ x0, Sim w0 (G.withτ ⟨te.size, k, e⟩ x0) ((killTok H tk).upd ⟨te.size, k, e⟩ (some .tok)) w → tokOk (G.withτ ⟨te.size, k, e⟩ x0) A n c (tokBy tk [] ⟨te.size, k, e⟩) →
        (Oper.upon P o a K Q (Result.ok (Next.value (Value.slice A n c)) w)) := by
      intro x0 hs0 hk0
      refine hK _ _ _ (Gh.le_withτ hid) (New.τ (List.suffix_refl _)) hs0 ?_
      have hS' := Rep.mono (Gh.le_withτ (x := x0) hid) _ _ hS
      simp only [List.map_nil, List.append_nil, Rep] at hS' ⊢
      obtain ⟨A2, n2, c2, e2, q1, q2, _, q4⟩ := hS'
      simp only [Value.slice.injEq] at e2
      obtain ⟨rfl, rfl, rfl⟩ := e2
      exact ⟨_, _, _, rfl, q1, q2, hk0, q4⟩
    cases tk with
    | none => exact hl.elim
    | nil => exact hdone none (hsimK.newTok ⟨te.size, k, e⟩ hid none hcells htoks fun _ _ _ _ e2 => by cases e2) htok
    | full => exact hdone none (hsimK.newTok ⟨te.size, k, e⟩ hid none hcells htoks fun _ _ _ _ e2 => by cases e2) htok
    | tok t0 =>
      obtain ⟨b, T, hτ, hA⟩ := htok
      refine hdone (some (b, n, c, T)) (hsimK.newTok ⟨te.size, k, e⟩ hid _ hcells htoks fun b2 m2 c2 T2 e2 => ?_) ⟨b, T, by simp [Gh.withτ], hA⟩
      cases e2
      rcases hsim.t t0 hl.1 with g | ⟨b', m', c1, T', cs, g1, g2, g3, g4, g5, g6⟩
      · rw [hτ] at g; cases g
      rw [hτ] at g1
      simp only [Option.some.injEq, Prod.mk.injEq] at g1
      obtain ⟨rfl, rfl, rfl, rfl⟩ := g1
      refine ⟨g2, ⟨cs, g3, by rw [← hl.2.1]; exact g5⟩, ⟨g4.1, g4.2.trans hl.2.2⟩, fun a' ha' ho' => g6 a' ha' (by rw [hl.2.1]; exact ho'), fun i' hi' => hsim.vt i' t0 b _ hi' hl.1 hτ, fun j hj hjt y hy => ?_⟩
      obtain ⟨q1, q2⟩ := killTok_tok j (htoks j hj hjt)
      exact q2 t0 rfl (hsim.tinj j t0 b y _ q1 hl.1 hy hτ)
  · by_cases hroom : n + m ≤ c
    · -- there is room
      cases tk with
      | none => exact hl.elim
      | nil => exact absurd (show A = none ∧ c = 0 from htok).2 (by omega)
      | full => exact absurd (show c = n from htok) (by omega)
      | tok t0 =>
        obtain ⟨b, T, hτ, hA⟩ := htok
        subst hA
        rcases hsim.t t0 hl.1 with g | ⟨b', m', c1, T', cs, g1, g2, g3, g4, g5, g6⟩
        · rw [hτ] at g; cases g
        rw [hτ] at g1
        simp only [Option.some.injEq, Prod.mk.injEq] at g1
        obtain ⟨rfl, rfl, rfl, rfl⟩ := g1
        have hsz : t0.sz = te.size := hl.2.1
        rw [hsz] at g5 g6
        have hfit : n * te.size + us.length ≤ cs.size := by rw [u2, ← Nat.add_mul]; exact Nat.le_trans (Nat.mul_le_mul_right _ hroom) g5
        have hst := run_storeCells_at P b (n * te.size) T us 0 cs w g3 (by simpa using hfit) hone
        simp only [Nat.add_zero] at hst
        have hrun := hexec (.slice (some ⟨b, 0, none⟩) (n + m) c) (w.setRow b (cs.toList.take (n * te.size) ++ us ++ cs.toList.drop (n * te.size + us.length)).toArray) (by
          have e4 : (sizeOf e).run P w = .ok te.size w := h.sizeOf hte w
          have hcl := hsrc.cells
          rw [i4] at hcl
          rcases hsrc.kind with ⟨e', hk⟩ | hk <;> simp [Builtin.append_, run_underlying hu, run_underlying hk, e4, hsrc.len, hroom, hcl, Addr.add_lit, hst])
        rw [hrun]
        generalize hnew : (cs.toList.take (n * te.size) ++ us ++ cs.toList.drop (n * te.size + us.length)) = new
        have hnl : new.toArray.size = cs.size := by
          rw [← hnew]
          simp only [List.size_toArray, List.length_append, List.length_take, List.length_drop, Array.length_toList]
          omega
        have hold : ∀ j, j < n * te.size → new.toArray[j]? = cs[j]? := fun j hj => by
          rw [← hnew]
          simp only [List.getElem?_toArray, List.append_assoc]
          rw [List.getElem?_append_left (by simp only [List.length_take, Array.length_toList]; omega), List.getElem?_take, if_pos hj]
          simp
        have hmid : ∀ j v, us[j]? = some v → new.toArray[n * te.size + j]? = some v := fun j v hj => by
          have hjl : j < us.length := (List.getElem?_eq_some_iff.1 hj).1
          rw [← hnew]
          simp only [List.getElem?_toArray]
          rw [List.getElem?_append_left (by simp only [List.length_append, List.length_take, Array.length_toList]; omega), List.getElem?_append_right (by simp only [List.length_take, Array.length_toList]; omega)]
          rw [show n * te.size + j - (cs.toList.take (n * te.size)).length = j by simp only [List.length_take, Array.length_toList]; omega]
          exact hj
        have hr1 : Sim w0 G H (w.setRow b new.toArray) := hsim.roomed t0 hl.1 hτ g3 new.toArray hnl (by rw [hsz]; exact hold)
        have hr1K : Sim w0 G (killTok H (.tok t0)) (w.setRow b new.toArray) := hr1.forget fun j e' hj => by
          by_cases hjt : j = t0
          · subst hjt; rw [killTok, Hp.upd_same] at hj; cases hj
          · rwa [killTok, Hp.upd_ne _ _ hjt] at hj
        have hheap := setRow_heap w b cs new.toArray T (0, 0) g3
        have hr2 := hr1K.withC (viewFrom b new.toArray (n * te.size) ((n + m) * te.size)) (viewFrom_cell hheap)
          (fun i' b2 hi' a' ha' => by
            have hne : a'.block ≠ b := fun hh => hsim.vt i' t0 b _ (by rw [← hh, ha']; exact hi') hl.1 hτ
            simp [viewFrom, hne])
          (fun i' b2 m2 c2 T2 hi' hti a' ha' _ => by
            obtain ⟨q1, q2⟩ := killTok_tok i' hi'
            have hne : a'.block ≠ b := fun hh => q2 t0 rfl (hsim.tinj i' t0 b _ _ q1 hl.1 (by rw [← hh, ha']; exact hti) hτ)
            simp [viewFrom, hne])
        have hleC := G.le_withC (viewFrom b new.toArray (n * te.size) ((n + m) * te.size))
        have hr3 := hr2.newTok (H' := (killTok H (.tok t0)).upd ⟨te.size, k, e⟩ (some .tok)) ⟨te.size, k, e⟩ hid (some (b, n + m, c, T)) hcells htoks fun b2 m2 c2 T2 e2 => by
          cases e2
          refine ⟨g2, ⟨new.toArray, hheap, by rw [hnl]; exact g5⟩, ⟨hroom, g4.2.trans hl.2.2⟩, fun a' ha' ho' => ?_, fun i' hi' => hsim.vt i' t0 b _ hi' hl.1 hτ, fun j hj hjt y hy => ?_⟩
          · have ho2 : (n + m) * te.size ≤ a'.off := ho'
            have h7 : n * te.size ≤ a'.off := Nat.le_trans (Nat.mul_le_mul_right _ (by omega)) ho2
            simp only [Gh.withC, g6 a' ha' h7, Option.none_or, viewFrom]
            rw [if_neg (fun hh => absurd hh.2.2.2 (Nat.not_lt.2 ho2))]
          · obtain ⟨q1, q2⟩ := killTok_tok j (htoks j hj hjt)
            exact q2 t0 rfl (hsim.tinj j t0 b y _ q1 hl.1 hy hτ)
        refine hK _ _ _ (hleC.trans (Gh.le_withτ hid)) (fun i' hi' => ⟨rfl, (New.τ (List.suffix_refl _) i' hi').2⟩) hr3 ?_
        refine hres _ (w.setRow b new.toArray) ⟨b, 0, none⟩ c (hleC.trans (Gh.le_withτ hid)) ?_ hroom ⟨b, T, by simp [Gh.withτ], rfl⟩ hm0
        have hle3 := hleC.trans (Gh.le_withτ (x := some (b, n + m, c, T)) (G := G.withC (viewFrom b new.toArray (n * te.size) ((n + m) * te.size))) hid)
        refine RepC_of_list _ 0 (vs ++ us) (RepL.append (RepL.mono hle3 _ _ v1) (RepL.mono hle3 _ _ u1)) fun j v hj => ?_
        rw [Nat.zero_add]
        by_cases hjv : j < vs.length
        · rw [List.getElem?_append_left hjv] at hj
          exact hle3.C _ _ (v4 _ rfl j v hj)
        · rw [List.getElem?_append_right (by omega)] at hj
          have hju : j - vs.length < us.length := (List.getElem?_eq_some_iff.1 hj).1
          have hm1 := hmid (j - vs.length) v hj
          rw [v2] at hm1 hju hjv
          rw [show n * te.size + (j - n * te.size) = j by omega] at hm1
          rw [add_at]
          have hc0 : G.C ⟨b, j, none⟩ = none := g6 _ rfl (show n * te.size ≤ j by omega)
          show (G.withC _).C _ = _
          refine G.withC_new hc0 ?_
          simp only [viewFrom]
          rw [if_pos ⟨trivial, trivial, by omega, by rw [Nat.add_mul]; omega⟩]
          exact hm1
    · -- a new row
      have hge := grownCap_ge w (n + m) c e
      have hzs : te.zero.cells.size = te.size := by rw [← (rep_absC G te.zero).cells.size]; exact hz
      have hold : (Builtin.firstCells i.size n (.slice A n c)).run P w.drew = .ok vs.toArray w.drew := by
        rw [i4]
        cases A with
        | none =>
          have hx0 : xs = [] := by
            by_cases hx : xs = []
            · exact hx
            · obtain ⟨ad, had⟩ := v3 hx
              cases had
          subst hx0
          have hvs : vs = [] := List.eq_nil_of_length_eq_zero (by rw [v2, hn]; simp)
          subst hvs
          exact run_firstCells_none w.drew te.size n n c
        | some ad =>
          have hcd : ∀ j v, vs[j]? = some v → w.drew.cell? (ad.add j) = some v := fun j v hj => by
            have := hsim.c _ _ (v4 ad rfl j v hj)
            simpa using this
          exact run_firstCells_some (P := P) w.drew te.size n ad n c vs v2 hcd
      have hrun := hexec _ _ (run_append_grow_src (P := P) w t t' o.type e i te.zero hu i1 i6 A n c vs hold X m us hsrc (by omega) (by omega) (growslice_fits (by omega) hbe))
      rw [hrun]
      generalize hrw : ((vs ++ us).toArray ++ Builtin.zeroCells te.zero.cells (grownCap w (n + m) c e - (n + m))) = row
      generalize hcap' : grownCap w (n + m) c e = cap at *
      have hrow : cap * te.size ≤ row.size := by
        rw [← hrw]
        simp only [Array.size_append, List.size_toArray, List.length_append, size_zeroCells, hzs, u2, v2, ← Nat.add_mul]
        rw [Nat.add_sub_cancel' hge]
        exact Nat.le_refl _
      have htk : (vs ++ us).length = (n + m) * te.size := by rw [List.length_append, v2, u2, Nat.add_mul]
      have htake : row.toList.take ((n + m) * te.size) = vs ++ us := by
        rw [← hrw]
        simp only [Array.toList_append]
        rw [← htk]
        exact List.take_left
      have hs1 := hsimK.drew.alloc (.cells row e)
      have hnb : (w.drew.alloc (.cells row e)).heap[w.heap.size]? = some (.cells row e (0, 0)) := new_block (w := w.drew)
      have hgone : ∀ a' : Addr, a'.block = w.heap.size → G.C a' = none := fun a' ha' => by
        cases hc : G.C a' with
        | none => rfl
        | some u => have := hsim.lt_of_C hc; omega
      have hnoσ : ∀ i', G.σ i' ≠ some w.heap.size := fun i' hi' => by have := hsim.lt_of_σ hi'; omega
      have hnoτ : ∀ j, H j = some .tok → ∀ y, G.τ j ≠ some (some (w.heap.size, y)) := fun j hj y hy => by
        rcases hsim.t j hj with g | ⟨b', m', c1, T', cs, g1, g2, g3, _⟩
        · rw [hy] at g; cases g
        · rw [hy] at g1
          simp only [Option.some.injEq, Prod.mk.injEq] at g1
          have := (Array.getElem?_eq_some_iff.1 g3).1
          omega
      have hs2 := hs1.withC (viewFrom w.heap.size row 0 ((n + m) * te.size)) (viewFrom_cell hnb)
        (fun i' b2 hi' a' ha' => by
          have hne : a'.block ≠ w.heap.size := fun hh => hnoσ i' (by rw [← hh, ha']; exact hi')
          simp [viewFrom, hne])
        (fun i' b2 m2 c2 T2 hi' hti a' ha' _ => by
          have hne : a'.block ≠ w.heap.size := fun hh => hnoτ i' (killTok_tok i' hi').1 _ (by rw [← hh, ha']; exact hti)
          simp [viewFrom, hne])
      have hleC := G.le_withC (viewFrom w.heap.size row 0 ((n + m) * te.size))
      have hs3 := hs2.newTok (H' := (killTok H tk).upd ⟨te.size, k, e⟩ (some .tok)) ⟨te.size, k, e⟩ hid (some (w.heap.size, n + m, cap, e)) hcells htoks fun b2 m2 c2 T2 e2 => by
        cases e2
        refine ⟨hsim.base, ⟨row, hnb, hrow⟩, ⟨hge, rfl⟩, fun a' ha' ho' => ?_, hnoσ, fun j hj hjt y hy => hnoτ j (killTok_tok j (htoks j hj hjt)).1 y hy⟩
        have ho2 : (n + m) * te.size ≤ a'.off := ho'
        simp only [Gh.withC, hgone a' ha', Option.none_or, viewFrom]
        rw [if_neg (fun hh => absurd hh.2.2.2 (Nat.not_lt.2 ho2))]
      have hle3 := hleC.trans (Gh.le_withτ (x := some (w.heap.size, n + m, cap, e)) (G := G.withC (viewFrom w.heap.size row 0 ((n + m) * te.size))) hid)
      refine hK _ _ _ hle3 (fun i' hi' => ⟨rfl, (New.τ (List.suffix_refl _) i' hi').2⟩) hs3 ?_
      refine hres _ (w.drew.alloc (.cells row e)) ⟨w.heap.size, 0, none⟩ cap hle3 ?_ hge ⟨_, e, by simp [Gh.withτ], rfl⟩ hm0
      refine RepC_of_list _ 0 (vs ++ us) (RepL.append (RepL.mono hle3 _ _ v1) (RepL.mono hle3 _ _ u1)) fun j v hj => ?_
      rw [Nat.zero_add, add_at]
      have hjl : j < (vs ++ us).length := (List.getElem?_eq_some_iff.1 hj).1
      have hjl2 : j < (n + m) * te.size := by rw [← htk]; exact hjl
      show (G.withC _).C _ = _
      refine G.withC_new (hgone _ rfl) ?_
      simp only [viewFrom]
      rw [if_pos ⟨trivial, trivial, by omega, hjl2⟩]
      rw [← htake, List.getElem?_take, if_pos hjl2] at hj
      simpa using hj

end
end Go.Proofs.YtkdendaohlnlcaaGreat.Av

/- What pointers do on their way through unsafe.Pointer, a row's data pointer, and a string made of a row. No condition. -/
namespace Go.Proofs.YtkdendaohlnlcaaGreat.Av
set_option linter.unusedVariables false
set_option linter.unusedSimpArgs false
open Go.RowKit

section
variable {P : Program} {tab : Tab} {w0 : Base} {k : List Nat}

/-- A pointer to a variable turned into an unsafe.Pointer, or back: what is asked. -/
def convP (P : Program) (tab : Tab) (s d : TypeId) (id : Id) (off : Nat) : Option Prop :=
  match tab s, tab d with
  | some ⟨.pointer t, _, _, _⟩, some ⟨.unsafeP, _, _, _⟩ => match tab t with
    | some ti => some (0 < ti.size ∧ off < id.sz)
    | none => none
  | some ⟨.unsafeP, _, _, _⟩, some ⟨.pointer u, _, _, _⟩ => some ((tab u).isSome = true ∧ liesAt P P.depth id.ty (id.sz / P.cellsOf id.ty) off u 1 = true)
  | _, _ => none

theorem TabOk.unsafeP (h : TabOk P tab) {t : TypeId} {a b : Nat} {z : Value} (k : tab t = some ⟨.unsafeP, a, b, z⟩) : P.underlying t = some .unsafePointer := by
  obtain ⟨i, d, _, h2, h3, _⟩ := h t _ k
  rw [h2]
  cases d <;> simp_all [tdOf]

theorem OpOk.convP (h : TabOk P tab) {o : Oper} {ρ : Operand → AV} {s d : TypeId} {x : Operand} {id : Id} {off : Nat} {φ : Prop} (ho : o.op = .convert s d x) (hx : ρ x = .ptr id off) (e : convP P tab s d id off = some φ) (hφ : φ) (H : Hp) : OpOk P w0 k o ρ H H (.ptr id off) := by
  intro G w a hs hf hr K Q hK
  have hX := hr x (by simp [ho, Op.operands])
  rw [hx] at hX
  have hX0 := hX
  simp only [Rep] at hX
  obtain ⟨b, hb, hX⟩ := hX
  obtain ⟨_, cs, T, h2, ⟨h3, h3'⟩, h4, h5⟩ := hs.v id b hb
  have hsh : w.shape? (⟨b, off, none⟩ : Addr).block = some (T, cs.size) := by simp [World.shape?, h2]
  have fin : (convert s d (a.eval x)).run P w = .ok (a.eval x) w := by
    unfold Av.convP at e
    split at e
    · rename_i t a1 a2 z1 b1 b2 z2 hs' hd'
      split at e <;> cases e
      rename_i ti hti
      obtain ⟨i, dd, i1, i2, i3, i4, i5, i6⟩ := h _ _ hti
      rw [hX]
      exact Go.Lib.run_to_unsafe (P := P) w _ (h.ptr hs') (h.unsafeP hd') i1 (by omega) hsh (by simp only; omega)
    · rename_i a1 a2 z1 u b1 b2 z2 hs' hd'
      cases e
      obtain ⟨h6, h7⟩ := hφ
      obtain ⟨tu, htu⟩ := Option.isSome_iff_exists.1 h6
      obtain ⟨i, dd, i1, i2, i3, i4, i5, i6⟩ := h _ _ htu
      rw [hX]
      exact Go.Lib.run_from_unsafe (P := P) w _ (h.unsafeP hs') (h.ptr hd') i1 hsh (by rw [h3, h3']; exact h7)
    · cases e
  unfold Oper.wp
  have : (execOp a.eval o).run P w = .ok (.value (a.eval x)) w := by simp only [execOp, ho, Sem.run_bind, fin, Result.andThen_ok, Sem.run_pure]
  rw [this]
  exact hK G w _ (Gh.Le.refl G) (New.refl k G) hs hX0

/-- May a list's data pointer be asked for? -/
def dataOk (H : Hp) (tk : Tok) (xs : List (List AV)) : Prop := tk = .nil ∨ xs ≠ [] ∨ ∃ t, tk = .tok t ∧ H t = some .tok

theorem OpOk.sliceData (h : TabOk P tab) {o : Oper} {ρ : Operand → AV} {ts : Array TypeId} {x : Operand} {tk : Tok} {xs : List (List AV)} {e : TypeId} {a1 a2 : Nat} {z : Value} (ho : o.op = .call { callee := .builtin .unsafeSliceData, args := #[x], argTypes := ts })
    (hx : ρ x = .list tk xs) (ht : tab o.type = some ⟨.pointer e, a1, a2, z⟩) (H : Hp) (hd : dataOk H tk xs) : OpOk P w0 k o ρ H H (.rowp tk xs) := by
  intro G w a hs hf hr K Q hK
  have hX := hr x (by simp [ho, Op.operands, Call.operands])
  rw [hx] at hX
  generalize hXv : a.eval x = X at hX
  simp only [Rep] at hX
  obtain ⟨A, n, c, rfl, hn, hc, htk, hu, ad, ha, hre⟩ := hX
  have hexec : ∀ v w', (Builtin.unsafeSliceData_ ts o.type #[.slice A n c]).run P w = .ok v w' → (execOp a.eval o).run P w = .ok (.value v) w' := by
    intro v w' hrun
    simp only [execOp, ho, resolve, invoke, builtin, Sem.run_bind, Sem.run_pure, Result.andThen_ok, List.map_toArray, List.map_cons, List.map_nil, hXv, hrun]
  have fin : ∀ v w', (Builtin.unsafeSliceData_ ts o.type #[.slice A n c]).run P w = .ok v w' → Sim w0 G H w' → (v = .pointer A ∨ xs = [] ∧ ∃ p, v = .pointer p) → Oper.upon P o a K Q ((execOp a.eval o).run P w) := by
    intro v w' hrun hs' hv
    rw [hexec v w' hrun]
    refine hK G w' v (Gh.Le.refl G) (New.refl k G) hs' ?_
    simp only [Rep]
    exact ⟨A, n, c, hv, hn, hc, htk, hu, ad, ha, hre⟩
  unfold Oper.wp
  rcases hd with rfl | hne | ⟨t, rfl, hH⟩
  · obtain ⟨rfl, rfl⟩ := htk
    exact fin _ w (Go.Lib.run_unsafeSliceData_nil w ts o.type n 0) hs (.inl rfl)
  · have hA := ha hne
    subst hA
    have hn0 : n ≠ 0 := by rw [hn]; exact fun h => hne (List.eq_nil_of_length_eq_zero h)
    exact fin _ w (Go.Lib.run_unsafeSliceData_row w ts o.type ad n c (by omega)) hs (.inl rfl)
  · obtain ⟨b, T, hτ, rfl⟩ := htk
    rcases hs.t t hH with g | ⟨b', m', c1, T', cs, g1, g2, g3, g4, g5, g6⟩
    · rw [hτ] at g; cases g
    rw [hτ] at g1
    simp only [Option.some.injEq, Prod.mk.injEq] at g1
    obtain ⟨rfl, rfl, rfl, rfl⟩ := g1
    by_cases hc0 : c = 0
    · have hx0 : xs = [] := List.eq_nil_of_length_eq_zero (by omega)
      have hsh : w.shape? b = some (T, cs.size) := by simp [World.shape?, g3]
      subst hc0
      exact fin (.pointer (some ⟨w.heap.size, 0, none⟩)) (w.alloc (.view ⟨b, 0, none⟩ e)) (Go.Lib.run_unsafeSliceData_zero w ts o.type e (h.ptr ht) ⟨b, 0, none⟩ n _ hsh) (hs.alloc _) (.inr ⟨hx0, _, rfl⟩)
    · exact fin _ w (Go.Lib.run_unsafeSliceData_row w ts o.type _ n c hc0) hs (.inl rfl)

/-- A list that is a string's bytes. -/
def strGo : List (List AV) → Option (List UInt8)
  | [] => some []
  | [.raw (.int .u8 n)] :: xs => if 0 ≤ n ∧ n < 256 then (strGo xs).map (UInt8.ofNat n.toNat :: ·) else none
  | _ => none
def strOf (xs : List (List AV)) : Option ByteArray := (strGo xs).map fun l => ⟨l.toArray⟩
theorem strGo_self : ∀ l : List UInt8, strGo (l.map fun b => [.int .u8 b.toNat]) = some l
  | [] => rfl
  | b :: l => by
    have hb : (0 : Int) ≤ (b.toNat : Int) ∧ (b.toNat : Int) < 256 := by have := b.toNat_lt; omega
    simp only [List.map_cons, strGo, hb, and_self, if_true, strGo_self l, Option.map_some, Int.toNat_natCast, UInt8.ofNat_toNat]
theorem strOf_self (s : ByteArray) : strOf (bytesA s) = some s := by simp [strOf, bytesA, strGo_self]
theorem strGo_ok : ∀ (xs : List (List AV)) (l : List UInt8), strGo xs = some l → xs = l.map fun b => [.int .u8 b.toNat]
  | [], l, h => by simp only [strGo, Option.some.injEq] at h; subst h; rfl
  | x :: xs, l, h => by
    unfold strGo at h
    split at h
    · rename_i he
      cases he
    · rename_i n xs' he
      cases he
      split at h
      · rename_i hn
        obtain ⟨l', h1, rfl⟩ := Option.map_eq_some_iff.1 h
        rw [strGo_ok xs l' h1]
        have : ((UInt8.ofNat n.toNat).toNat : Int) = n := by
          rw [UInt8.toNat_ofNat', Nat.mod_eq_of_lt (by omega)]
          omega
        simp only [List.map_cons, this]
      · cases h
    · cases h
theorem strOf_ok {xs : List (List AV)} {s : ByteArray} (h : strOf xs = some s) : xs = bytesA s := by
  obtain ⟨l, h1, rfl⟩ := Option.map_eq_some_iff.1 h
  simpa [bytesA] using strGo_ok xs l h1

theorem cell?_freeze (w : World) (p : Addr) (n : Nat) (a : Addr) : (w.freeze p n).cell? a = w.cell? a := by
  unfold World.freeze
  split
  · rfl
  · unfold World.cell?
    simp only [Array.getElem?_modify]
    by_cases h : p.block = a.block
    · rw [if_pos h]
      cases w.heap[a.block]? with
      | none => rfl
      | some o => cases o <;> rfl
    · rw [if_neg h]

/-- Cells of a row of which no token is left are frozen: nothing that is known turns. -/
theorem Sim.freeze {G : Gh} {H : Hp} {w : World} (h : Sim w0 G H w) {b : Nat} (hb : w0.heap.size ≤ b) {cs : Array Value} {T : TypeId} (hcs : w.heap[b]? = some (.cells cs T (0, 0))) (hσ : ∀ i, G.σ i ≠ some b) (hτ : ∀ i, H i = some .tok → ∀ y, G.τ i ≠ some (some (b, y))) (n : Nat) : Sim w0 G H (w.freeze ⟨b, 0, none⟩ n) := by
  have hother : ∀ j, j ≠ b → (w.freeze ⟨b, 0, none⟩ n).heap[j]? = w.heap[j]? := fun j hj => by
    unfold World.freeze
    split
    · rfl
    · simp only [Array.getElem?_modify]
      rw [if_neg (fun h => hj h.symm)]
  refine ⟨fun a v e => by rw [cell?_freeze]; exact h.c a v e, fun i c e => ?_, h.d, fun i e => ?_, h.inj, h.tinj, h.vt, Go.Lib.below_freeze h.below hb n, h.g, fun l x e => ?_⟩
  · obtain ⟨a1, c1, T1, a2, a3⟩ := h.v i c e
    exact ⟨a1, c1, T1, by rw [hother c (fun hh => hσ i (by rw [← hh]; exact e))]; exact a2, a3⟩
  · rcases h.t i e with g | ⟨b1, m1, c1, T1, cs1, g1, g2, g3, g4⟩
    · exact .inl g
    · exact .inr ⟨b1, m1, c1, T1, cs1, g1, g2, by rw [hother b1 (fun hh => hτ i e (m1, c1, T1) (by rw [← hh]; exact g1))]; exact g3, g4⟩
  · obtain ⟨r1, o, r2, r3, r4⟩ := h.r l x e
    have hne : l ≠ b := fun hh => by
      rw [hh, hcs] at r2
      cases r2
      exact r3 _ _ _ rfl
    exact ⟨r1, o, by rw [hother l hne]; exact r2, r3, r4⟩

/-- May a string be made of a row? -/
def strOk (P : Program) (H : Hp) (e : TypeId) (tk : Tok) (s : ByteArray) : Prop := s.size = 0 ∨ P.cellsOf e = 1 ∧ ∃ t, tk = .tok t ∧ H t = some .tok ∧ t.ty = e ∧ t.sz = 1

theorem OpOk.unsafeString (h : TabOk P tab) {o : Oper} {ρ : Operand → AV} {pt it e : TypeId} {x y : Operand} {tk : Tok} {xs : List (List AV)} {s : ByteArray} {a1 a2 : Nat} {z : Value} (ho : o.op = .call { callee := .builtin .unsafeString, args := #[x, y], argTypes := #[pt, it] })
    (hx : ρ x = .rowp tk xs) (hy : ρ y = .int .i64 s.size) (hst : strOf xs = some s) (ht : tab pt = some ⟨.pointer e, a1, a2, z⟩) (hsz : (s.size : Int) ≤ 9223372036854775807) (H : Hp) (hok : strOk P H e tk s) : OpOk P w0 k o ρ H (killTok H tk) (.str s) := by
  intro G w a hs hf hr K Q hK
  have hX := hr x (by simp [ho, Op.operands, Call.operands])
  have hY := hr y (by simp [ho, Op.operands, Call.operands])
  rw [hx] at hX
  rw [hy] at hY
  generalize hXv : a.eval x = X at hX
  generalize hYv : a.eval y = Y at hY
  simp only [Rep] at hX hY
  subst hY
  obtain rfl := strOf_ok hst
  obtain ⟨A, n, c, hv, hn, hc, htk, hu, ad, ha, hre⟩ := hX
  rw [bytesA_length] at hn
  have hexec : ∀ v w', (Builtin.unsafeString_ #[pt, it] o.type #[X, .int .i64 s.size]).run P w = .ok v w' → (execOp a.eval o).run P w = .ok (.value v) w' := by
    intro v w' hrun
    simp only [execOp, ho, resolve, invoke, builtin, Sem.run_bind, Sem.run_pure, Result.andThen_ok, List.map_toArray, List.map_cons, List.map_nil, hXv, hYv, hrun]
  have hsK : Sim w0 G (killTok H tk) w := hs.forget fun j e' hj => by
    cases tk with
    | tok t0 =>
      by_cases hjt : j = t0
      · subst hjt; rw [killTok, Hp.upd_same] at hj; cases hj
      · rwa [killTok, Hp.upd_ne _ _ hjt] at hj
    | _ => exact hj
  have empty : s.size = 0 → Oper.upon P o a K Q ((execOp a.eval o).run P w) := fun h0 => by
    have hs0 : s = .empty := by
      obtain ⟨d⟩ := s
      have : d = #[] := Array.eq_empty_of_size_eq_zero h0
      subst this
      rfl
    obtain ⟨p, rfl⟩ : ∃ p, X = .pointer p := by
      rcases hv with rfl | ⟨_, p, rfl⟩ <;> exact ⟨_, rfl⟩
    have := Go.Lib.run_unsafeString_none (P := P) (w := w) pt it o.type p
    rw [hexec (.string .empty) w (by rw [h0]; exact this)]
    exact hK G w _ (Gh.Le.refl G) (New.refl k G) hsK (by simp [Rep, hs0])
  unfold Oper.wp
  by_cases h0 : s.size = 0
  · exact empty h0
  rcases hok with h0' | ⟨hce, t, rfl, hH, hty, hts⟩
  · exact absurd h0' h0
  obtain ⟨b, T, hτ, rfl⟩ := htk
  have hne : bytesA s ≠ [] := fun hh => h0 (by rw [← bytesA_length, hh]; rfl)
  obtain rfl : X = .pointer (some ⟨b, 0, none⟩) := by
    rcases hv with hv | ⟨hv, _⟩
    · exact hv
    · exact absurd hv hne
  rcases hs.t t hH with g | ⟨b', m', c1, T', cs, g1, g2, g3, g4, g5, g6⟩
  · rw [hτ] at g; cases g
  rw [hτ] at g1
  simp only [Option.some.injEq, Prod.mk.injEq] at g1
  obtain ⟨rfl, rfl, rfl, rfl⟩ := g1
  have hT : T = e := g4.2.trans hty
  subst hT
  have had := ha hne
  simp only [Option.some.injEq] at had
  subst had
  obtain ⟨vs, r1, r2⟩ := (RepE.flat _ 0 hre).values
  have hvs : vs = byteCells s := by
    have := bytesA_rep G s
    -- both stand for the same
    have uniq : ∀ (l : List UInt8) (us ws : List Value), RepL G (l.map fun b => [AV.int .u8 b.toNat]).flatten us → RepL G (l.map fun b => [AV.int .u8 b.toNat]).flatten ws → us = ws := by
      intro l
      induction l with
      | nil => intro us ws h1 h2; simp only [List.map_nil, List.flatten_nil, RepL] at h1 h2; rw [h1, h2]
      | cons b l ih =>
        intro us ws h1 h2
        simp only [List.map_cons, List.flatten_cons, List.cons_append, List.nil_append, RepL, Rep] at h1 h2
        obtain ⟨u, us', rfl, rfl, h3⟩ := h1
        obtain ⟨v, ws', rfl, rfl, h4⟩ := h2
        rw [ih us' ws' h3 h4]
    exact uniq _ _ _ r1 this
  subst hvs
  have hl : s.data.toList.length = s.size := by
    rw [Array.length_toList]
    rfl
  have hrun := Go.Lib.run_unsafeString_row (P := P) (w := w) pt it o.type T (h.ptr ht) hce b cs.size (by simp [World.shape?, g3]) s.data.toList (fun hh => h0 (by rw [← hl, hh]; rfl)) (by rw [hl, ← hn]; rw [hts] at g5; omega) (by rw [hl]; omega) (fun j x hj => by
    have h7 := r2 j (.int .u8 x.toNat) (by simp only [byteCells, List.getElem?_map, hj, Option.map_some])
    rw [Nat.zero_add] at h7
    exact hs.c _ _ h7)
  rw [hl] at hrun
  rw [hexec _ _ hrun]
  refine hK G _ _ (Gh.Le.refl G) (New.refl k G) ?_ (by simp [Rep])
  refine hsK.freeze g2 g3 (fun i hi => hs.vt i t b _ hi hH hτ) (fun i hi y hy => ?_) _
  obtain ⟨q1, q2⟩ := killTok_tok i hi
  exact q2 t rfl (hs.tinj i t b y _ q1 hH hy hτ)
end
end Go.Proofs.YtkdendaohlnlcaaGreat.Av

/- Regions: what a list of operations does in the text's order it does in every order that its edges allow. No condition. -/
namespace Go.Proofs.YtkdendaohlnlcaaGreat.Av
set_option linter.unusedVariables false
set_option linter.unusedSimpArgs false
open Go.RowKit

/-- What an operation did: it answered; it read a variable; it made one heap of another; it panicked. -/
inductive Ev where
  | val (v : AV)
  | rd (id : Id) (c : List AV) (v : AV)
  | eff (H H' : Hp) (v : AV)
  | pan (H H' : Hp) (v : AV)

def Ev.out : Ev → AV
  | .val v => v
  | .rd _ _ v => v
  | .eff _ _ v => v
  | .pan _ _ v => v
def Ev.pre (H : Hp) : Ev → Prop
  | .val _ => True
  | .rd id c _ => H id = some (.cells c)
  | .eff H1 _ _ => H = H1
  | .pan H1 _ _ => H = H1
def Ev.post (H : Hp) : Ev → Hp
  | .eff _ H2 _ => H2
  | .pan _ H2 _ => H2
  | _ => H
def Ev.isPan : Ev → Bool
  | .pan _ _ _ => true
  | _ => false

/-- The wide fence, in a round or not. -/
def fz (ro : Option Nat) : Fence := { Fence.wide with round := ro }
theorem calls_fz {P : Program} {ro : Option Nat} {n : Nat} {f : FuncId} {args : Array Value} {w : World} {R : Ending → World → Prop} (h : Calls P f args w R) : CallsIn (fz ro) n P f args w R := by
  cases ro with
  | none => exact callsIn_wide.2 h
  | some l => exact CallsIn.inRound l (callsIn_wide.2 h)
theorem rows_fz {P : Program} {ro : Option Nat} {n : Nat} {row : String} {args : Array Value} {w : World} {R : Value → World → Prop} (h : Rows P row args w R) : RowsIn (fz ro) n P row args w R :=
  fun c cs _ => let ⟨v, w', r, s⟩ := h c cs; ⟨v, w', r, stepsIn_wide.2 s⟩
theorem wpIn_of_wp {P : Program} {ro : Option Nat} {o : Oper} {a : Act} {w : World} {K : Act → World → Prop} {Q : Exit → Act → World → Prop} (hd : ∀ c, o.op ≠ .defer c) (h : o.wp P a w K Q) : o.wpIn (fz ro) 0 P a w K Q := by
  refine ⟨fun _ _ => trivial, ?_⟩
  rw [Oper.semAt_eq _ _ _ hd]
  unfold Oper.wp at h
  generalize (execOp a.eval o).run P w = r at h
  cases r with
  | ok x w' =>
    cases x <;> simp only [Oper.upon, Oper.uponIn] at h ⊢ <;>
      first
        | exact h
        | exact ⟨(fun hh => by cases hh), (calls_fz h).mono fun e w'' he => by cases e <;> exact he⟩
        | exact ⟨(fun hh => by cases hh), rows_fz h⟩
  | halt x w' => cases x <;> simp only [Oper.upon, Oper.uponIn] at h ⊢ <;> exact h

/-- 'OpOk', in a round or not. -/
def OpIn (P : Program) (w0 : Base) (k : List Nat) (o : Oper) (ρ : Operand → AV) (H H' : Hp) (v : AV) : Prop :=
  ∀ (G : Gh) (w : World) (a : Act), Sim w0 G H w → Fresh G k → (∀ x ∈ o.op.operands.toList, Rep G (ρ x) (a.eval x)) →
    ∀ (K : Act → World → Prop) (Q : Exit → Act → World → Prop), (∀ G' w' V, G.Le G' → New k G G' → Sim w0 G' H' w' → Rep G' v V → K (a.put o.dst V) w') → ∀ ro, o.wpIn (fz ro) 0 P a w K Q
theorem OpOk.in_ {P : Program} {w0 : Base} {k : List Nat} {o : Oper} {ρ : Operand → AV} {H H' : Hp} {v : AV} (h : OpOk P w0 k o ρ H H' v) (hd : ∀ c, o.op ≠ .defer c) : OpIn P w0 k o ρ H H' v :=
  fun G w a hs hf hr K Q hK ro => wpIn_of_wp hd (h G w a hs hf hr K Q hK)

/-- The same of an operation that panics. -/
def PanIn (P : Program) (w0 : Base) (k : List Nat) (o : Oper) (ρ : Operand → AV) (H H' : Hp) (v : AV) : Prop :=
  ∀ (G : Gh) (w : World) (a : Act), Sim w0 G H w → Fresh G k → (∀ x ∈ o.op.operands.toList, Rep G (ρ x) (a.eval x)) →
    ∀ (K : Act → World → Prop) (Q : Exit → Act → World → Prop), (∀ G' w' V, G.Le G' → New k G G' → Sim w0 G' H' w' → Rep G' v V → Q (.panic [{ v := V, recovered := false }]) a w') → ∀ ro, o.wpIn (fz ro) 0 P a w K Q

structure S where
  tmps : List AV
  H : Hp

def putA (tmps : List AV) (dst : Option Tmp) (v : AV) : List AV :=
  match dst with
  | some d => tmps.set d v
  | none => tmps

structure TE where
  i : Nat
  o : Oper
  ev : Ev

section
variable (P : Program) (w0 : Base)

def EvOk (k : List Nat) (o : Oper) (ρ : Operand → AV) : Ev → Prop
  | .val v => ∀ H, OpIn P w0 k o ρ H H v
  | .rd id c v => ∀ H, H id = some (.cells c) → OpIn P w0 k o ρ H H v
  | .eff H H' v => OpIn P w0 k o ρ H H' v
  | .pan H H' v => PanIn P w0 k o ρ H H' v

/-- Is the operation wanted, by its guard? -/
def wantA (ops : Array Oper) (tmps : List AV) (o : Oper) (g : Bool) : Prop :=
  match o.guard with
  | none => g = true
  | some (j, want) => ∃ d, ((ops[j]?).bind (·.dst)) = some d ∧ d < tmps.length ∧ ((∃ t, tmps.getD d AV.undef = .raw (.bool t) ∧ g = (t == want)) ∨ (tmps.getD d AV.undef = AV.undef ∧ g = false))

def StepOk (ops : Array Oper) (kp : List Nat) (x : TE) (s s' : S) : Prop :=
  ∃ g, wantA ops s.tmps x.o g ∧ (g = true → EvOk P w0 (x.i :: kp) x.o (evA s.tmps) x.ev) ∧ (g = false → x.ev = .val AV.undef) ∧ (x.ev.isPan = false ∧ x.ev.pre s.H) ∧ s' = ⟨putA s.tmps x.o.dst x.ev.out, x.ev.post s.H⟩

def Run (ops : Array Oper) (kp : List Nat) : List TE → S → S → Prop
  | [], s, s' => s' = s
  | x :: rest, s, s' => ∃ s1, StepOk P w0 ops kp x s s1 ∧ Run ops kp rest s1 s'
end

section
variable {P : Program} {w0 : Base} {ops : Array Oper} {kp : List Nat}

theorem wanted_of {G : Gh} {tmps : List AV} {a : Act} {o : Oper} {g : Bool} (hr : RepL G tmps a.tmps.toList) (h : wantA ops tmps o g) : Region.wanted o (yielded ops a.tmps) = g := by
  unfold wantA at h
  unfold Region.wanted
  split at h
  · rename_i hg
    rw [hg]
    exact h.symm
  · rename_i j want hg
    obtain ⟨d, h1, h2, h3⟩ := h
    rw [hg]
    have h4 := hr.get_lt d Go.undef h2
    have hl := hr.size
    have hd : d < a.tmps.size := by rw [← hl]; exact h2
    rcases h3 with ⟨t, h3, rfl⟩ | ⟨h3, rfl⟩
    · rw [h3] at h4
      simp only [Rep] at h4
      have h5 : a.tmps[d]? = some (.bool t) := by
        rw [List.getD_eq_getElem?_getD] at h4
        simpa [hd] using h4
      simp only [yielded, h1, Option.bind_some, h5]
      cases t <;> cases want <;> rfl
    · rw [h3] at h4
      simp only [Rep] at h4
      have h5 : a.tmps[d]? = some Go.undef := by
        rw [List.getD_eq_getElem?_getD] at h4
        simpa [hd] using h4
      simp only [yielded, h1, Option.bind_some, h5]
      cases want <;> rfl

theorem putA_length (tmps : List AV) (dst : Option Tmp) (v : AV) : (putA tmps dst v).length = tmps.length := by
  cases dst <;> simp [putA]

theorem rep_put {G : Gh} {tmps : List AV} {a : Act} {v : AV} {V : Value} (hr : RepL G tmps a.tmps.toList) (hv : Rep G v V) (dst : Option Tmp) : RepL G (putA tmps dst v) (a.put dst V).tmps.toList := by
  cases dst with
  | none => exact hr
  | some d => simpa [putA, Act.put] using hr.set hv d

theorem put_defers' (a : Act) (dst : Option Tmp) (V : Value) : (a.put dst V).defers = a.defers := by cases dst <;> rfl

/-- One operation, in the model. -/
theorem step_ok {x : TE} {s s1 : S} (h : StepOk P w0 ops kp x s s1) (hi : ops[x.i]? = some x.o) {G : Gh} {w : World} {a : Act} (hs : Sim w0 G s.H w) (hr : RepL G s.tmps a.tmps.toList) (hf : Fresh G (x.i :: kp))
    {K : Act → World → Prop} {Q : Exit → Act → World → Prop}
    (hK : ∀ G' a' w', G.Le G' → New (x.i :: kp) G G' → Sim w0 G' s1.H w' → RepL G' s1.tmps a'.tmps.toList → a'.defers = a.defers → K a' w') (ro : Option Nat) : wpOpIn (fz ro) 0 P ops Q x.i K a w := by
  obtain ⟨g, hg, h1, h2, ⟨hnp, hpre⟩, rfl⟩ := h
  have hw := wanted_of hr hg
  unfold wpOpIn
  simp only [hi, hw]
  cases g with
  | true =>
    simp only [if_true]
    have hops : ∀ y ∈ x.o.op.operands.toList, Rep G (evA s.tmps y) (a.eval y) := fun y _ => rep_eval hr y
    have go : ∀ v H', OpIn P w0 (x.i :: kp) x.o (evA s.tmps) s.H H' v → (∀ G' w' V, G.Le G' → New (x.i :: kp) G G' → Sim w0 G' H' w' → Rep G' v V → K (a.put x.o.dst V) w') → x.o.wpIn (fz ro) 0 P a w K Q :=
      fun v H' hop hk => hop G w a hs hf hops K Q hk ro
    have h1 := h1 rfl
    generalize hev : x.ev = ev at h1 hpre hK hnp
    cases ev with
    | pan H1 H2 v => cases hnp
    | val v => exact go v s.H (h1 s.H) fun G' w' V hl hn hs' hv => hK G' _ w' hl hn hs' (rep_put (RepL.mono hl _ _ hr) hv _) (put_defers' _ _ _)
    | rd id c v => exact go v s.H (h1 s.H hpre) fun G' w' V hl hn hs' hv => hK G' _ w' hl hn hs' (rep_put (RepL.mono hl _ _ hr) hv _) (put_defers' _ _ _)
    | eff H1 H2 v =>
      obtain rfl : s.H = H1 := hpre
      exact go v H2 h1 fun G' w' V hl hn hs' hv => hK G' _ w' hl hn hs' (rep_put (RepL.mono hl _ _ hr) hv _) (put_defers' _ _ _)
  | false =>
    simp only [Bool.false_eq_true, if_false]
    have h2 := h2 rfl
    rw [h2] at hK
    exact ⟨fun _ _ => trivial, hK G _ w (Gh.Le.refl G) (New.refl _ G) hs (rep_put hr (by simp [Rep, Ev.out]) _) (put_defers' _ _ _)⟩

/-! ### two operations that do not touch each other -/
def compat : Ev → Ev → Prop
  | .rd id _ _, .eff H H' _ => H' id = H id
  | .eff H H' _, .rd id _ _ => H' id = H id
  | .eff _ _ _, .eff _ _ _ => False
  | .pan _ _ _, .eff _ _ _ => False
  | .eff _ _ _, .pan _ _ _ => False
  | _, _ => True

theorem evA_put {tmps : List AV} {dst : Option Tmp} {v : AV} {x : Operand} (h : ∀ d, dst = some d → x ≠ .tmp d) : evA (putA tmps dst v) x = evA tmps x := by
  cases dst with
  | none => rfl
  | some d =>
    cases x with
    | tmp t =>
      have hne : d ≠ t := fun e => h d rfl (e ▸ rfl)
      simp [evA, putA, List.getD_eq_getElem?_getD, List.getElem?_set_ne hne]
    | _ => rfl

theorem OpIn.congr {k : List Nat} {o : Oper} {ρ ρ' : Operand → AV} {H H' : Hp} {v : AV} (h : OpIn P w0 k o ρ H H' v) (e : ∀ x ∈ o.op.operands.toList, ρ' x = ρ x) : OpIn P w0 k o ρ' H H' v :=
  fun G w a hs hf hr K Q hK => h G w a hs hf (fun x hx => by rw [← e x hx]; exact hr x hx) K Q hK
theorem PanIn.congr {k : List Nat} {o : Oper} {ρ ρ' : Operand → AV} {H H' : Hp} {v : AV} (h : PanIn P w0 k o ρ H H' v) (e : ∀ x ∈ o.op.operands.toList, ρ' x = ρ x) : PanIn P w0 k o ρ' H H' v :=
  fun G w a hs hf hr K Q hK => h G w a hs hf (fun x hx => by rw [← e x hx]; exact hr x hx) K Q hK
theorem EvOk.congr {k : List Nat} {o : Oper} {ρ ρ' : Operand → AV} {ev : Ev} (h : EvOk P w0 k o ρ ev) (e : ∀ x ∈ o.op.operands.toList, ρ' x = ρ x) : EvOk P w0 k o ρ' ev := by
  cases ev with
  | val v => exact fun H => (h H).congr e
  | rd id c v => exact fun H hH => (h H hH).congr e
  | eff H H' v => exact OpIn.congr h e
  | pan H H' v => exact PanIn.congr h e

theorem operand_looks {o : Oper} {d : Tmp} (h : d ∉ o.looksAt ops) : ∀ x ∈ o.op.operands.toList, x ≠ .tmp d := fun x hx e => by
  subst e
  exact h (List.mem_append_left _ (List.mem_filterMap.2 ⟨.tmp d, hx, rfl⟩))

theorem wantA_put {tmps : List AV} {o : Oper} {dst : Option Tmp} {v : AV} {g : Bool} (hd : ∀ d, dst = some d → d ∉ o.looksAt ops) : wantA ops (putA tmps dst v) o g ↔ wantA ops tmps o g := by
  unfold wantA
  split
  · exact Iff.rfl
  · rename_i j want hg
    constructor
    all_goals
      rintro ⟨d, h1, h2, h3⟩
      have hne : ∀ e, dst = some e → e ≠ d := fun e he hed => hd e he (by subst hed; simp [Oper.looksAt, hg, h1])
      have e1 : (putA tmps dst v).getD d AV.undef = tmps.getD d AV.undef := by
        cases dst with
        | none => rfl
        | some e => simp [putA, List.getD_eq_getElem?_getD, List.getElem?_set_ne (hne e rfl)]
      rw [putA_length] at *
      first
        | exact ⟨d, h1, h2, by rw [← e1]; exact h3⟩
        | exact ⟨d, h1, h2, by rw [e1]; exact h3⟩

theorem putA_comm (tmps : List AV) {x y : Option Tmp} (v u : AV) (h : ∀ d, x = some d → y ≠ some d) : putA (putA tmps x v) y u = putA (putA tmps y u) x v := by
  cases x with
  | none => rfl
  | some d =>
    cases y with
    | none => rfl
    | some e =>
      have hne : d ≠ e := fun he => h d rfl (he ▸ rfl)
      simp [putA, List.set_comm _ _ hne]

theorem StepOk.swap {x y : TE} {s s1 s2 : S} (hap : x.o.apart ops y.o = true) (hc : compat x.ev y.ev) (h1 : StepOk P w0 ops kp x s s1) (h2 : StepOk P w0 ops kp y s1 s2) :
    ∃ s1', StepOk P w0 ops kp y s s1' ∧ StepOk P w0 ops kp x s1' s2 := by
  obtain ⟨a1, a2, a3⟩ := Oper.apart_spec hap
  obtain ⟨g, g1, g2, g3, ⟨g0, g4⟩, rfl⟩ := h1
  obtain ⟨f, f1, f2, f3, ⟨f0, f4⟩, rfl⟩ := h2
  have hyρ : ∀ z ∈ y.o.op.operands.toList, evA s.tmps z = evA (putA s.tmps x.o.dst x.ev.out) z := fun z hz => (evA_put fun d hd => operand_looks (a1 d hd) z hz).symm
  have hxρ : ∀ z ∈ x.o.op.operands.toList, evA (putA s.tmps y.o.dst y.ev.out) z = evA s.tmps z := fun z hz => evA_put fun d hd => operand_looks (a3 d hd) z hz
  refine ⟨⟨putA s.tmps y.o.dst y.ev.out, y.ev.post s.H⟩, ⟨f, (wantA_put fun d hd => a1 d hd).1 f1, fun hf => (f2 hf).congr hyρ, f3, ⟨f0, ?_⟩, rfl⟩, ⟨g, (wantA_put fun d hd => a3 d hd).2 g1, fun hg => (g2 hg).congr hxρ, g3, ⟨g0, ?_⟩, ?_⟩⟩
  · -- y's heap
    generalize hxe : x.ev = ex at hc f4 g0
    generalize hye : y.ev = ey at hc f4 f0
    cases ex <;> cases ey <;> simp only [Ev.pre, Ev.post, compat] at f4 hc ⊢ <;> first | exact f4 | exact nomatch (show true = false from g0) | exact nomatch (show true = false from f0) | skip
    rename_i H1 H2 v id c u
    rw [hxe] at g4
    simp only [Ev.pre] at g4
    subst g4
    rw [← hc]
    exact f4
  · generalize hxe : x.ev = ex at hc f4 g4 g0
    generalize hye : y.ev = ey at hc f4 f0
    cases ex <;> cases ey <;> simp only [Ev.pre, Ev.post, compat] at f4 hc g4 ⊢ <;> first | exact g4 | exact nomatch (show true = false from g0) | exact nomatch (show true = false from f0) | skip
    rename_i id c v H1 H2 u
    subst f4
    rw [hc]
    exact g4
  · simp only [S.mk.injEq]
    refine ⟨putA_comm _ _ _ a2, ?_⟩
    generalize x.ev = ex at hc g0
    generalize y.ev = ey at hc f0
    cases ex <;> cases ey <;> simp only [Ev.post, compat] at hc ⊢ <;> first | exact nomatch (show true = false from g0) | exact nomatch (show true = false from f0)

/-- One that touches none of those ahead of it may come first. -/
theorem Run.front {x : TE} : ∀ (t1 : List TE) {t2 : List TE} {s s' : S}, (∀ y ∈ t1, y.o.apart ops x.o = true ∧ compat y.ev x.ev) → Run P w0 ops kp (t1 ++ x :: t2) s s' → Run P w0 ops kp (x :: (t1 ++ t2)) s s'
  | [], t2, s, s', _, h => h
  | y :: t1, t2, s, s', hc, h => by
    obtain ⟨s1, h1, h2⟩ := h
    obtain ⟨s2, h3, h4⟩ := Run.front t1 (fun z hz => hc z (by simp [hz])) h2
    obtain ⟨s1', h5, h6⟩ := StepOk.swap (hc y (by simp)).1 (hc y (by simp)).2 h1 h3
    exact ⟨s1', h5, s2, h6, h4⟩

/-- An operation that panics where things stand so. -/
def PanStep (P : Program) (w0 : Base) (ops : Array Oper) (kp : List Nat) (i : Nat) (o : Oper) (s : S) (H' : Hp) (v : AV) : Prop := wantA ops s.tmps o true ∧ PanIn P w0 (i :: kp) o (evA s.tmps) s.H H' v
theorem pan_ok {i : Nat} {o : Oper} {s : S} {H' : Hp} {v : AV} (h : PanStep P w0 ops kp i o s H' v) (hi : ops[i]? = some o) {G : Gh} {w : World} {a : Act} (hs : Sim w0 G s.H w) (hr : RepL G s.tmps a.tmps.toList) (hf : Fresh G (i :: kp))
    {K : Act → World → Prop} {Q : Exit → Act → World → Prop}
    (hQ : ∀ G' w' V, G.Le G' → New (i :: kp) G G' → Sim w0 G' H' w' → Rep G' v V → Q (.panic [{ v := V, recovered := false }]) a w') (ro : Option Nat) : wpOpIn (fz ro) 0 P ops Q i K a w := by
  obtain ⟨hg, h1⟩ := h
  have hw := wanted_of hr hg
  unfold wpOpIn
  simp only [hi, hw, if_true]
  exact h1 G w a hs hf (fun y _ => rep_eval hr y) K Q hQ ro
/-- An operation that does nothing to what is known of memory. -/
def Ev.still : Ev → Bool
  | .val _ => true
  | .rd _ _ _ => true
  | _ => false
theorem PanStep.back {x : TE} {i : Nat} {o : Oper} {s s1 : S} {H' : Hp} {v : AV} (hap : x.o.apart ops o = true) (hq : x.ev.still = true) (h1 : StepOk P w0 ops kp x s s1) (h2 : PanStep P w0 ops kp i o s1 H' v) : PanStep P w0 ops kp i o s H' v := by
  obtain ⟨a1, a2, a3⟩ := Oper.apart_spec hap
  obtain ⟨g, g1, g2, g3, g4, rfl⟩ := h1
  obtain ⟨f1, f2⟩ := h2
  have hyρ : ∀ z ∈ o.op.operands.toList, evA s.tmps z = evA (putA s.tmps x.o.dst x.ev.out) z := fun z hz => (evA_put fun d hd => operand_looks (a1 d hd) z hz).symm
  refine ⟨(wantA_put fun d hd => a1 d hd).1 f1, ?_⟩
  have := f2.congr hyρ
  have hH : x.ev.post s.H = s.H := by
    generalize x.ev = ex at hq
    cases ex <;> first | rfl | exact nomatch (show false = true from hq)
  simp only [hH] at this
  exact this
theorem PanStep.backs {i : Nat} {o : Oper} {H' : Hp} {v : AV} : ∀ (tr : List TE) {s s' : S}, (∀ x ∈ tr, x.o.apart ops o = true ∧ x.ev.still = true) → Run P w0 ops kp tr s s' → PanStep P w0 ops kp i o s' H' v → PanStep P w0 ops kp i o s H' v
  | [], s, s', _, h, hp => by
    simp only [Run] at h
    subst h
    exact hp
  | x :: tr, s, s', hc, ⟨s1, h1, h2⟩, hp => PanStep.back (hc x (by simp)).1 (hc x (by simp)).2 h1 (PanStep.backs tr (fun y hy => hc y (by simp [hy])) h2 hp)

end
end Go.Proofs.YtkdendaohlnlcaaGreat.Av

/- Regions, in the model: the text's order, and every order that may be drawn. No condition. -/
namespace Go.Proofs.YtkdendaohlnlcaaGreat.Av
set_option linter.unusedVariables false
set_option linter.unusedSimpArgs false
open Go.RowKit

section
variable {P : Program} {w0 : Base} {ops : Array Oper} {kp : List Nat}

theorem New.up {i : Nat} {k : List Nat} {G G' : Gh} (h : New (i :: k) G G') : New k G G' := fun j hj => h j fun hs => hj ((List.suffix_cons i k).trans hs)
theorem New.trans {k : List Nat} {A B C : Gh} (h : New k A B) (g : New k B C) : New k A C := fun j hj => ⟨((g j hj).1).trans (h j hj).1, ((g j hj).2).trans (h j hj).2⟩
theorem Fresh.other {i j : Nat} {k : List Nat} {G G' : Gh} (h : Fresh G (j :: k)) (hn : New (i :: k) G G') (hij : i ≠ j) : Fresh G' (j :: k) := fun d hd => by
  have hno : ¬ (i :: k) <:+ d.key := fun hi => by
    have := List.suffix_of_suffix_length_le hi hd (by simp)
    have := this.eq_of_length (by simp)
    simp at this
    exact hij this
  rw [(hn d hno).1, (hn d hno).2]
  exact h d hd

theorem run_more {Q : Exit → Act → World → Prop} {js : List Nat} : ∀ (tr : List TE) (s s' : S), Run P w0 ops kp tr s s' → (∀ x ∈ tr, ops[x.i]? = some x.o) → (tr.map (·.i)).Nodup →
    ∀ (G : Gh) (a : Act) (w : World), Sim w0 G s.H w → RepL G s.tmps a.tmps.toList → (∀ x ∈ tr, Fresh G (x.i :: kp)) → ∀ ro,
      (∀ G' a' w', G.Le G' → New kp G G' → Sim w0 G' s'.H w' → RepL G' s'.tmps a'.tmps.toList → a'.defers = a.defers → (∀ j, j ∉ tr.map (·.i) → Fresh G (j :: kp) → Fresh G' (j :: kp)) → wpOpsIn (fz ro) 0 P ops Q js a' w') → wpOpsIn (fz ro) 0 P ops Q (tr.map (·.i) ++ js) a w
  | [], s, s', h, _, _, G, a, w, hs, hr, _, ro, hQ => by
    simp only [Run] at h
    subst h
    exact hQ G a w (Gh.Le.refl G) (New.refl _ G) hs hr rfl fun _ _ h => h
  | x :: tr, s, s', h, hi, hn, G, a, w, hs, hr, hf, ro, hQ => by
    obtain ⟨s1, h1, h2⟩ := h
    simp only [List.map_cons, List.nodup_cons] at hn
    rw [List.map_cons, List.cons_append, wpOpsIn_cons]
    refine step_ok h1 (hi x (by simp)) hs hr (hf x (by simp)) (fun G' a' w' hl hnw hs' hr' hd => ?_) ro
    refine run_more tr s1 s' h2 (fun y hy => hi y (by simp [hy])) hn.2 G' a' w' hs' hr' (fun y hy => (hf y (by simp [hy])).other hnw fun he => hn.1 (by rw [he]; exact List.mem_map_of_mem hy)) ro (fun G2 a2 w2 hl2 hn2 hs2 hr2 hd2 hf2 => ?_)
    refine hQ G2 a2 w2 (hl.trans hl2) (hnw.up.trans hn2) hs2 hr2 (hd2.trans hd) fun j hj hfj => ?_
    simp only [List.map_cons, List.mem_cons, not_or] at hj
    exact hf2 j hj.2 (hfj.other hnw (Ne.symm hj.1))
theorem run_list {Q : Exit → Act → World → Prop} (tr : List TE) (s s' : S) (h : Run P w0 ops kp tr s s') (hi : ∀ x ∈ tr, ops[x.i]? = some x.o) (hn : (tr.map (·.i)).Nodup)
    (G : Gh) (a : Act) (w : World) (hs : Sim w0 G s.H w) (hr : RepL G s.tmps a.tmps.toList) (hf : ∀ x ∈ tr, Fresh G (x.i :: kp))
    (hQ : ∀ G' a' w', G.Le G' → New kp G G' → Sim w0 G' s'.H w' → RepL G' s'.tmps a'.tmps.toList → a'.defers = a.defers → Q .normal a' w') (ro : Option Nat) : wpOpsIn (fz ro) 0 P ops Q (tr.map (·.i)) a w := by
  have := run_more (Q := Q) (js := []) tr s s' h hi hn G a w hs hr hf ro fun G' a' w' h1 h2 h3 h4 h5 _ => hQ G' a' w' h1 h2 h3 h4 h5
  simpa using this
/-- The same, up to an operation that panics. -/
theorem run_pan {Q : Exit → Act → World → Prop} {js : List Nat} {i : Nat} {o : Oper} {H' : Hp} {v : AV} (tr : List TE) (s s' : S) (h : Run P w0 ops kp tr s s') (hp : PanStep P w0 ops kp i o s' H' v) (hi : ∀ x ∈ tr, ops[x.i]? = some x.o) (hio : ops[i]? = some o) (hn : (tr.map (·.i)).Nodup) (hni : i ∉ tr.map (·.i))
    (G : Gh) (a : Act) (w : World) (hs : Sim w0 G s.H w) (hr : RepL G s.tmps a.tmps.toList) (hf : ∀ i, Fresh G (i :: kp))
    (hQ : ∀ G' a' w' V, G.Le G' → New kp G G' → Sim w0 G' H' w' → RepL G' s'.tmps a'.tmps.toList → a'.defers = a.defers → Rep G' v V → Q (.panic [{ v := V, recovered := false }]) a' w') (ro : Option Nat) : wpOpsIn (fz ro) 0 P ops Q (tr.map (·.i) ++ i :: js) a w :=
  run_more (Q := Q) (js := i :: js) tr s s' h hi hn G a w hs hr (fun x _ => hf x.i) ro fun G' a' w' h1 h2 h3 h4 h5 h6 => by
    rw [wpOpsIn_cons]
    exact pan_ok hp hio h3 h4 (h6 i hni (hf i)) (fun G2 w2 V g1 g2 g3 g4 => hQ G2 a' w2 V (h1.trans g1) (h2.trans g2.up) g3 (RepL.mono g1 _ _ h4) h5 g4) ro

/-! ### orders -/
def edgesBack (ops : Array Oper) : Prop := ∀ (k : Nat) o, ops[k]? = some o → ∀ e ∈ o.after, Region.binds .any e = true → e.on < k
def closure (ops : Array Oper) (B : Nat → Nat) : Prop := ∀ (k : Nat) o, ops[k]? = some o → ∀ y, (B k).testBit y = true → ∃ e ∈ o.after, Region.binds .any e = true ∧ (e.on = y ∨ (B e.on).testBit y = true)
def closed (ops : Array Oper) (listed : Array Bool) : Prop := ∀ (k : Nat) o, ops[k]? = some o → listed.getD k false = true → ∀ e ∈ o.after, Region.binds .any e = true → listed.getD e.on false = true

theorem closed_bit {B : Nat → Nat} (hb : edgesBack ops) (hc : closure ops B) {listed : Array Bool} (hcl : closed ops listed) : ∀ (k : Nat) o, ops[k]? = some o → listed.getD k false = true → ∀ y, (B k).testBit y = true → listed.getD y false = true := by
  intro k
  induction k using Nat.strongRecOn with
  | _ k ih =>
    intro o ho hk y hy
    obtain ⟨e, he, hbe, h1⟩ := hc k o ho y hy
    have hl := hcl k o ho hk e he hbe
    rcases h1 with rfl | h1
    · exact hl
    · have hlt := hb k o ho e he hbe
      have hlt2 : k < ops.size := (Array.getElem?_eq_some_iff.1 ho).1
      exact ih e.on hlt ops[e.on] (by simp [show e.on < ops.size by omega]) hl y h1

theorem ready_bit {B : Nat → Nat} (hb : edgesBack ops) (hc : closure ops B) {listed : Array Bool} (hcl : closed ops listed) {i : Nat} (hi : i ∈ Region.ready .any ops listed) {y : Nat} (hy : (B i).testBit y = true) : listed.getD y false = true := by
  obtain ⟨h0, o, ho, hall⟩ := mem_ready.1 hi
  obtain ⟨e, he, hbe, h1⟩ := hc i o ho y hy
  have hl := hall e he hbe
  rcases h1 with rfl | h1
  · exact hl
  · have hlt := hb i o ho e he hbe
    have hlt2 : i < ops.size := (Array.getElem?_eq_some_iff.1 ho).1
    exact closed_bit hb hc hcl e.on ops[e.on] (by simp [show e.on < ops.size by omega]) hl y h1

def pairsOk (ops : Array Oper) (B : Nat → Nat) (x y : TE) : Prop := (B y.i).testBit x.i = true ∨ (x.o.apart ops y.o = true ∧ compat x.ev y.ev)

theorem run_any {Q : Exit → Act → World → Prop} {B : Nat → Nat} (hb : edgesBack ops) (hc : closure ops B) : ∀ (fuel : Nat) (tr : List TE) (listed : Array Bool) (s s' : S), tr.length = fuel → Run P w0 ops kp tr s s' → (∀ x ∈ tr, ops[x.i]? = some x.o) →
    (tr.map (·.i)).Pairwise (· < ·) → listed.size = ops.size → (∀ i, i < ops.size → (listed.getD i true = false ↔ i ∈ tr.map (·.i))) → closed ops listed → tr.Pairwise (pairsOk ops B) →
    ∀ (G : Gh) (a : Act) (w : World), Sim w0 G s.H w → RepL G s.tmps a.tmps.toList → (∀ x ∈ tr, Fresh G (x.i :: kp)) →
      (∀ G' a' w', G.Le G' → New kp G G' → Sim w0 G' s'.H w' → RepL G' s'.tmps a'.tmps.toList → a'.defers = a.defers → Q .normal a' w') → ∀ ro, wpAnyIn (fz ro) 0 P .any ops Q fuel listed a w
  | 0, tr, listed, s, s', hlen, h, hi, _, _, hli, _, _, G, a, w, hs, hr, _, hQ => by
    intro ro
    obtain rfl := List.eq_nil_of_length_eq_zero hlen
    simp only [Run] at h
    subst h
    refine ⟨?_, hQ G a w (Gh.Le.refl G) (New.refl _ G) hs hr rfl⟩
    cases hrd : Region.ready .any ops listed with
    | nil => rfl
    | cons i l =>
      have : i ∈ Region.ready .any ops listed := by rw [hrd]; simp
      obtain ⟨h0, o, ho, _⟩ := mem_ready.1 this
      have := (hli i (Array.getElem?_eq_some_iff.1 ho).1).1 h0
      simp at this
  | fuel + 1, tr, listed, s, s', hlen, h, hi, hsort, hsz, hli, hcl, hp, G, a, w, hs, hr, hf, hQ => by
    intro ro
    refine ⟨fun hnil => ?_, fun i hri => ?_⟩
    · -- the first that is left is ready
      exfalso
      cases tr with
      | nil => simp at hlen
      | cons x tr =>
        have hx := hi x (by simp)
        have hxl : x.i < ops.size := (Array.getElem?_eq_some_iff.1 hx).1
        have : x.i ∈ Region.ready .any ops listed := by
          refine mem_ready.2 ⟨(hli x.i hxl).2 (by simp), x.o, hx, fun e he hbe => ?_⟩
          have hlt := hb x.i x.o hx e he hbe
          have hel : e.on < ops.size := by omega
          by_cases hle : listed.getD e.on true = false
          · have hm := (hli e.on hel).1 hle
            simp only [List.map_cons, List.mem_cons] at hm
            rcases hm with hm | hm
            · omega
            · simp only [List.map_cons, List.pairwise_cons] at hsort
              have := hsort.1 _ hm
              omega
          · have hel2 : e.on < listed.size := by omega
            simp only [Array.getD_eq_getD_getElem?, hel2, getElem?_pos, Option.getD_some] at hle ⊢
            simpa using hle
        rw [hnil] at this
        simp at this
    · obtain ⟨h0, o, ho, hall⟩ := mem_ready.1 hri
      have hil : i < ops.size := (Array.getElem?_eq_some_iff.1 ho).1
      have hm := (hli i hil).1 h0
      obtain ⟨x, hx, rfl⟩ := List.mem_map.1 hm
      obtain ⟨t1, t2, rfl⟩ := List.append_of_mem hx
      have hfront := Run.front t1 (x := x) (fun y hy => by
        have hpy : pairsOk ops B y x := (List.pairwise_append.1 hp).2.2 y hy x (by simp)
        rcases hpy with hpy | hpy
        · have hyl := hi y (by simp [hy])
          have := ready_bit hb hc hcl hri hpy
          have h2 := (hli y.i (Array.getElem?_eq_some_iff.1 hyl).1).2 (by simp only [List.map_append, List.mem_append]; exact .inl (List.mem_map_of_mem hy))
          have hel2 : y.i < listed.size := by have := (Array.getElem?_eq_some_iff.1 hyl).1; omega
          simp only [Array.getD_eq_getD_getElem?, hel2, getElem?_pos, Option.getD_some] at this h2
          rw [this] at h2
          cases h2
        · exact hpy) h
      obtain ⟨s1, h1, h2⟩ := hfront
      have hsub : (t1 ++ t2).Sublist (t1 ++ x :: t2) := List.Sublist.append (List.Sublist.refl _) (List.sublist_cons_self _ _)
      have hnd : x.i ∉ (t1 ++ t2).map (·.i) := by
        intro hmem
        rw [List.map_append, List.map_cons] at hsort
        rw [List.map_append, List.mem_append] at hmem
        have hs2 := List.pairwise_append.1 hsort
        rcases hmem with hmem | hmem
        · have := hs2.2.2 _ hmem x.i (by simp)
          omega
        · have := (List.pairwise_cons.1 hs2.2.1).1 _ hmem
          omega
      refine step_ok h1 (hi x hx) hs hr (hf x hx) (fun G' a' w' hl hnw hs' hr' hd => ?_) ro
      refine run_any hb hc fuel (t1 ++ t2) _ s1 s' (by simp at hlen ⊢; omega) h2 (fun y hy => hi y (hsub.subset hy)) (hsort.sublist (hsub.map _)) (by simpa using hsz) ?_ ?_ (hp.sublist hsub) G' a' w' hs' hr' ?_ ?_ ro
      · intro j hj
        by_cases hji : j = x.i
        · subst hji
          constructor
          · intro he
            rw [Array.getD_eq_getD_getElem?] at he
            simp [hsz, hj] at he
          · intro he
            exact absurd he hnd
        · rw [getD_set_ne true (Ne.symm hji), hli j hj]
          simp only [List.map_append, List.map_cons, List.mem_append, List.mem_cons]
          constructor
          · rintro (h | h | h)
            · exact .inl h
            · exact absurd h hji
            · exact .inr h
          · rintro (h | h)
            · exact .inl h
            · exact .inr (.inr h)
      · intro j oj hoj hlj e he hbe
        by_cases hji : j = x.i
        · subst hji
          rw [ho] at hoj
          cases hoj
          exact getD_set_true (hall e he hbe)
        · rw [getD_set_ne false (Ne.symm hji)] at hlj
          exact getD_set_true (hcl j oj hoj hlj e he hbe)
      · intro y hy
        exact (hf y (hsub.subset hy)).other hnw fun he => hnd (by rw [he]; exact List.mem_map_of_mem hy)
      · intro G2 a2 w2 hl2 hn2 hs2 hr2 hd2
        exact hQ G2 a2 w2 (hl.trans hl2) (hnw.up.trans hn2) hs2 hr2 (hd2.trans hd)

/-- In whatever order: an operation comes that panics; what is not ahead of it touches it not. -/
theorem run_anyP {Q : Exit → Act → World → Prop} {B : Nat → Nat} (hb : edgesBack ops) (hc : closure ops B) {pi : Nat} {po : Oper} {H' : Hp} {pv : AV} (hpo : ops[pi]? = some po) : ∀ (fuel : Nat) (tr : List TE) (listed : Array Bool) (s s' : S), tr.length < fuel → Run P w0 ops kp tr s s' → PanStep P w0 ops kp pi po s' H' pv → (∀ x ∈ tr, ops[x.i]? = some x.o) →
    (tr.map (·.i)).Pairwise (· < ·) → (∀ x ∈ tr, x.i < pi) → listed.size = ops.size → (∀ i, i < ops.size → (listed.getD i true = false ↔ i ∈ tr.map (·.i) ∨ i = pi ∨ pi < i)) → closed ops listed → tr.Pairwise (pairsOk ops B) →
    (∀ x ∈ tr, (B pi).testBit x.i = true ∨ (x.o.apart ops po = true ∧ x.ev.still = true)) → (∀ i, pi < i → i < ops.size → (B i).testBit pi = true) →
    ∀ (G : Gh) (a : Act) (w : World), Sim w0 G s.H w → RepL G s.tmps a.tmps.toList → (∀ i, i ∈ tr.map (·.i) ∨ i = pi → Fresh G (i :: kp)) →
      (∀ G' a' w' V, G.Le G' → New kp G G' → Sim w0 G' H' w' → a'.tmps.size = a.tmps.size → a'.defers = a.defers → Rep G' pv V → Q (.panic [{ v := V, recovered := false }]) a' w') → ∀ ro, wpAnyIn (fz ro) 0 P .any ops Q fuel listed a w
  | 0, tr, listed, s, s', hlen, _, _, _, _, _, _, _, _, _, _, _, G, a, w, _, _, _, _ => by omega
  | fuel + 1, tr, listed, s, s', hlen, h, hpan, hi, hsort, hlt, hsz, hli, hcl, hp, hpp, hlate, G, a, w, hs, hr, hf, hQ => by
    intro ro
    have hpl : pi < ops.size := (Array.getElem?_eq_some_iff.1 hpo).1
    refine ⟨fun hnil => ?_, fun i hri => ?_⟩
    · exfalso
      -- the first that is left is ready
      have hready : ∀ j oj, ops[j]? = some oj → listed.getD j true = false → (∀ e : Nat, e < j → listed.getD e true = true) → j ∈ Region.ready .any ops listed := fun j oj hoj hlj hall => by
        refine mem_ready.2 ⟨hlj, oj, hoj, fun e he hbe => ?_⟩
        have hlt := hb j oj hoj e he hbe
        have hjl := (Array.getElem?_eq_some_iff.1 hoj).1
        have hel2 : e.on < listed.size := by omega
        have := hall e.on hlt
        simpa only [Array.getD_eq_getD_getElem?, hel2, getElem?_pos, Option.getD_some] using this
      cases tr with
      | nil =>
        have := hready pi po hpo ((hli pi hpl).2 (.inr (.inl rfl))) fun e he => by
          cases hh : listed.getD e true with
          | true => rfl
          | false =>
            have := (hli e (by omega)).1 hh
            simp at this
            omega
        rw [hnil] at this
        simp at this
      | cons x tr =>
        have hx := hi x (by simp)
        have hxl : x.i < ops.size := (Array.getElem?_eq_some_iff.1 hx).1
        have hxp := hlt x (by simp)
        have := hready x.i x.o hx ((hli x.i hxl).2 (by simp)) fun e he => by
          cases hh : listed.getD e true with
          | true => rfl
          | false =>
            have := (hli e (by omega)).1 hh
            simp only [List.map_cons, List.mem_cons] at this
            rcases this with (h | h) | h | h
            · omega
            · simp only [List.map_cons, List.pairwise_cons] at hsort
              have := hsort.1 _ h
              omega
            · omega
            · omega
        rw [hnil] at this
        simp at this
    · obtain ⟨h0, o, ho, hall⟩ := mem_ready.1 hri
      have hil : i < ops.size := (Array.getElem?_eq_some_iff.1 ho).1
      have hnl : ∀ j, j < ops.size → listed.getD j true = false → listed.getD j false = true → False := fun j hj h1 h2 => by
        have hel2 : j < listed.size := by omega
        simp only [Array.getD_eq_getD_getElem?, hel2, getElem?_pos, Option.getD_some] at h1 h2
        rw [h1] at h2
        cases h2
      rcases (hli i hil).1 h0 with hm | hm | hm
      · obtain ⟨x, hx, rfl⟩ := List.mem_map.1 hm
        obtain ⟨t1, t2, rfl⟩ := List.append_of_mem hx
        have hfront := Run.front t1 (x := x) (fun y hy => by
          have hpy : pairsOk ops B y x := (List.pairwise_append.1 hp).2.2 y hy x (by simp)
          rcases hpy with hpy | hpy
          · have hyl := hi y (by simp [hy])
            have := ready_bit hb hc hcl hri hpy
            have h2 := (hli y.i (Array.getElem?_eq_some_iff.1 hyl).1).2 (.inl (by simp only [List.map_append, List.mem_append]; exact .inl (List.mem_map_of_mem hy)))
            exact (hnl y.i (Array.getElem?_eq_some_iff.1 hyl).1 h2 this).elim
          · exact hpy) h
        obtain ⟨s1, h1, h2⟩ := hfront
        have hsub : (t1 ++ t2).Sublist (t1 ++ x :: t2) := List.Sublist.append (List.Sublist.refl _) (List.sublist_cons_self _ _)
        have hnd : x.i ∉ (t1 ++ t2).map (·.i) := by
          intro hmem
          rw [List.map_append, List.map_cons] at hsort
          rw [List.map_append, List.mem_append] at hmem
          have hs2 := List.pairwise_append.1 hsort
          rcases hmem with hmem | hmem
          · have := hs2.2.2 _ hmem x.i (by simp)
            omega
          · have := (List.pairwise_cons.1 hs2.2.1).1 _ hmem
            omega
        have hxp := hlt x hx
        refine step_ok h1 (hi x hx) hs hr (hf x.i (.inl hm)) (fun G' a' w' hl hnw hs' hr' hd => ?_) ro
        refine run_anyP hb hc hpo fuel (t1 ++ t2) _ s1 s' (by simp at hlen ⊢; omega) h2 hpan (fun y hy => hi y (hsub.subset hy)) (hsort.sublist (hsub.map _)) (fun y hy => hlt y (hsub.subset hy)) (by simpa using hsz) ?_ ?_ (hp.sublist hsub) (fun y hy => hpp y (hsub.subset hy)) hlate G' a' w' hs' hr' ?_ ?_ ro
        · intro j hj
          by_cases hji : j = x.i
          · subst hji
            constructor
            · intro he
              rw [Array.getD_eq_getD_getElem?] at he
              simp [hsz, hj] at he
            · rintro (he | he | he)
              · exact absurd he hnd
              · omega
              · omega
          · rw [getD_set_ne true (Ne.symm hji), hli j hj]
            simp only [List.map_append, List.map_cons, List.mem_append, List.mem_cons]
            constructor
            · rintro ((h | h | h) | h)
              · exact .inl (.inl h)
              · exact absurd h hji
              · exact .inl (.inr h)
              · exact .inr h
            · rintro ((h | h) | h)
              · exact .inl (.inl h)
              · exact .inl (.inr (.inr h))
              · exact .inr h
        · intro j oj hoj hlj e he hbe
          by_cases hji : j = x.i
          · subst hji
            rw [ho] at hoj
            cases hoj
            exact getD_set_true (hall e he hbe)
          · rw [getD_set_ne false (Ne.symm hji)] at hlj
            exact getD_set_true (hcl j oj hoj hlj e he hbe)
        · intro j hj
          have hjx : x.i ≠ j := by
            rintro rfl
            rcases hj with hj | hj
            · exact hnd hj
            · omega
          refine (hf j ?_).other hnw hjx
          rcases hj with hj | hj
          · exact .inl ((hsub.map _).subset hj)
          · exact .inr hj
        · intro G2 a2 w2 V hl2 hn2 hs2 hr2 hd2 hv2
          refine hQ G2 a2 w2 V (hl.trans hl2) (hnw.up.trans hn2) hs2 ?_ (hd2.trans hd) hv2
          have e1 := hr.size
          have e2 := hr'.size
          obtain ⟨g, _, _, _, _, rfl⟩ := h1
          simp only [putA_length] at e2
          omega
      · subst hm
        rw [hpo] at ho
        cases ho
        have hps := PanStep.backs tr (fun x hx => by
          rcases hpp x hx with h1 | h1
          · have hxl := (Array.getElem?_eq_some_iff.1 (hi x hx)).1
            exact (hnl x.i hxl ((hli x.i hxl).2 (.inl (List.mem_map_of_mem hx))) (ready_bit hb hc hcl hri h1)).elim
          · exact h1) h hpan
        exact pan_ok hps hpo hs hr (hf i (.inr rfl)) (fun G' w' V g1 g2 g3 g4 => hQ G' a w' V g1 g2.up g3 rfl rfl g4) ro
      · exact (hnl pi hpl ((hli pi hpl).2 (.inr (.inl rfl))) (ready_bit hb hc hcl hri (hlate i hm hil))).elim

/-! ### what is asked of a region's text -/
def accB (B : Nat → Nat) (l : List Edge) : Nat := l.foldl (fun s e => if Region.binds .any e then s ||| (2 ^ e.on ||| B e.on) else s) 0
def beforeB (ops : Array Oper) : Nat → Nat := fun k => (Region.before ops).getD k 0

theorem accB_bit (B : Nat → Nat) (y : Nat) : ∀ (l : List Edge) (s : Nat), (l.foldl (fun s e => if Region.binds .any e then s ||| (2 ^ e.on ||| B e.on) else s) s).testBit y = true →
    s.testBit y = true ∨ ∃ e ∈ l, Region.binds .any e = true ∧ (e.on = y ∨ (B e.on).testBit y = true)
  | [], s, h => .inl h
  | e :: l, s, h => by
    simp only [List.foldl_cons] at h
    rcases accB_bit B y l _ h with h1 | ⟨e', he', h2⟩
    · by_cases hbe : Region.binds .any e = true
      · simp only [hbe, if_true, Nat.testBit_or, Bool.or_eq_true] at h1
        rcases h1 with h1 | h1 | h1
        · exact .inl h1
        · rw [Nat.testBit_two_pow] at h1
          exact .inr ⟨e, by simp, hbe, .inl (by simpa using h1)⟩
        · exact .inr ⟨e, by simp, hbe, .inr h1⟩
      · simp only [hbe, Bool.false_eq_true, if_false] at h1
        exact .inl h1
    · exact .inr ⟨e', by simp [he'], h2⟩

/-- The region's text is such that every order will do, as long as what reads variables keeps out of the way of what writes them. -/
def drawOk (ops : Array Oper) : Bool :=
  (List.range ops.size).all fun k => match ops[k]? with
    | none => true
    | some o => (o.after.toList.all fun e => !Region.binds .any e || decide (e.on < k)) && (beforeB ops k == accB (beforeB ops) o.after.toList) &&
      ((List.range k).all fun j => (beforeB ops k).testBit j || match ops[j]? with
        | none => true
        | some oj => oj.apart ops o)

theorem drawOk_spec (h : drawOk ops = true) : edgesBack ops ∧ closure ops (beforeB ops) ∧ ∀ (j k : Nat) oj o, j < k → ops[j]? = some oj → ops[k]? = some o → (beforeB ops k).testBit j = true ∨ oj.apart ops o = true := by
  have hall : ∀ k o, ops[k]? = some o → (∀ e ∈ o.after, Region.binds .any e = true → e.on < k) ∧ beforeB ops k = accB (beforeB ops) o.after.toList ∧ ∀ j oj, j < k → ops[j]? = some oj → (beforeB ops k).testBit j = true ∨ oj.apart ops o = true := by
    intro k o ho
    have hk : k < ops.size := (Array.getElem?_eq_some_iff.1 ho).1
    simp only [drawOk, List.all_eq_true, List.mem_range] at h
    have h1 := h k hk
    simp only [ho, Bool.and_eq_true, List.all_eq_true, List.mem_range, Bool.or_eq_true, Bool.not_eq_true', decide_eq_true_eq, beq_iff_eq] at h1
    obtain ⟨⟨h2, h3⟩, h4⟩ := h1
    refine ⟨fun e he hb => ?_, h3, fun j oj hj hoj => ?_⟩
    · rcases h2 e (by simpa using he) with h5 | h5
      · rw [hb] at h5; cases h5
      · exact h5
    · have := h4 j hj
      simp only [hoj] at this
      exact this
  refine ⟨fun k o ho => (hall k o ho).1, fun k o ho y hy => ?_, fun j k oj o hjk hj hk => (hall k o hk).2.2 j oj hjk hj⟩
  rw [(hall k o ho).2.1] at hy
  rcases accB_bit _ y _ 0 hy with h1 | ⟨e, he, h1⟩
  · simp at h1
  · exact ⟨e, by simpa using he, h1⟩

/-- A region whose order is drawn. -/
theorem wp_drawn {id : Nat} {Q : Exit → Act → World → Prop} (hm : P.follows .mixedOrders = true) (hd : drawOk ops = true) {tr : List TE} {s s' : S} (h : Run P w0 ops kp tr s s') (htr : tr.map (fun x => (x.i, x.o)) = ops.toList.zipIdx.map (fun x => (x.2, x.1)))
    (hp : tr.Pairwise fun x y => (beforeB ops y.i).testBit x.i = true ∨ compat x.ev y.ev)
    {G : Gh} {a : Act} {w : World} (hs : Sim w0 G s.H w) (hr : RepL G s.tmps a.tmps.toList) (hf : ∀ i, Fresh G (i :: kp))
    (hQ : ∀ G' a' w', G.Le G' → New kp G G' → Sim w0 G' s'.H w' → RepL G' s'.tmps a'.tmps.toList → a'.defers = a.defers → Q .normal a' w') : ∀ ro, (Code.region id ops true).wpIn (fz ro) 0 P Q a w := by
  intro ro
  obtain ⟨hb, hc, hap⟩ := drawOk_spec hd
  have hget : ∀ x ∈ tr, ops[x.i]? = some x.o := fun x hx => by
    have : (x.i, x.o) ∈ ops.toList.zipIdx.map (fun x => (x.2, x.1)) := by rw [← htr]; exact List.mem_map_of_mem (f := fun x => (x.i, x.o)) hx
    obtain ⟨y, hy, he⟩ := List.mem_map.1 this
    simp only [Prod.mk.injEq] at he
    have := List.mem_zipIdx_iff_getElem?.1 hy
    rw [← he.1, ← he.2]
    simpa using this
  have hidx : tr.map (·.i) = List.range ops.size := by
    have h1 := congrArg (List.map Prod.fst) htr
    rw [List.map_map, List.map_map] at h1
    have e1 : (Prod.fst ∘ fun x : TE => (x.i, x.o)) = fun x : TE => x.i := rfl
    have e2 : (Prod.fst ∘ fun x : Oper × Nat => (x.2, x.1)) = Prod.snd := rfl
    rw [e1, e2, List.zipIdx_map_snd] at h1
    rw [h1, List.range_eq_range']
    simp
  have hsort : (tr.map (·.i)).Pairwise (· < ·) := by rw [hidx]; exact List.pairwise_lt_range
  refine wpIn_region_any hm ?_
  refine run_any hb hc ops.size tr (Array.replicate ops.size false) s s' ?_ h hget hsort (by simp) ?_ ?_ ?_ G a _ hs.drew hr (fun x _ => hf x.i) hQ ro
  · have := congrArg List.length hidx
    simpa using this
  · intro i hi
    rw [hidx]
    simp [hi]
  · intro k o _ hk
    rw [Array.getD_eq_getD_getElem?] at hk
    have hfalse : (Array.replicate ops.size false)[k]?.getD false = false := by
      rw [Array.getElem?_replicate]
      split <;> rfl
    rw [hfalse] at hk
    cases hk
  · have hs2 : tr.Pairwise (fun x y => x.i < y.i) := List.pairwise_map.1 hsort
    refine List.Pairwise.imp_of_mem (fun {x y} hx hy hxy => ?_) (List.pairwise_and_iff.2 ⟨hp, hs2⟩)
    rcases hxy.1 with h1 | h1
    · exact .inl h1
    · rcases hap x.i y.i x.o y.o hxy.2 (hget x hx) (hget y hy) with h2 | h2
      · exact .inl h2
      · exact .inr ⟨h2, h1⟩

/-- A region whose order is drawn, of which one operation panics. -/
theorem wp_drawnP {id : Nat} {Q : Exit → Act → World → Prop} (hm : P.follows .mixedOrders = true) (hd : drawOk ops = true) {tr : List TE} {s s' : S} {pi : Nat} {po : Oper} {H' : Hp} {pv : AV} (h : Run P w0 ops kp tr s s') (htr : tr.map (fun x => (x.i, x.o)) = (ops.toList.zipIdx.take pi).map (fun x => (x.2, x.1)))
    (hpo : ops[pi]? = some po) (hpan : PanStep P w0 ops kp pi po s' H' pv) (hp : tr.Pairwise fun x y => (beforeB ops y.i).testBit x.i = true ∨ compat x.ev y.ev)
    (hpp : ∀ x ∈ tr, (beforeB ops pi).testBit x.i = true ∨ x.ev.still = true) (hlate : ∀ i, pi < i → i < ops.size → (beforeB ops i).testBit pi = true)
    {G : Gh} {a : Act} {w : World} (hs : Sim w0 G s.H w) (hr : RepL G s.tmps a.tmps.toList) (hf : ∀ i, Fresh G (i :: kp))
    (hQ : ∀ G' a' w' V, G.Le G' → New kp G G' → Sim w0 G' H' w' → a'.tmps.size = a.tmps.size → a'.defers = a.defers → Rep G' pv V → Q (.panic [{ v := V, recovered := false }]) a' w') : ∀ ro, (Code.region id ops true).wpIn (fz ro) 0 P Q a w := by
  intro ro
  obtain ⟨hb, hc, hap⟩ := drawOk_spec hd
  have hpl : pi < ops.size := (Array.getElem?_eq_some_iff.1 hpo).1
  have hget : ∀ x ∈ tr, ops[x.i]? = some x.o := fun x hx => by
    have : (x.i, x.o) ∈ (ops.toList.zipIdx.take pi).map (fun x => (x.2, x.1)) := by rw [← htr]; exact List.mem_map_of_mem (f := fun x => (x.i, x.o)) hx
    obtain ⟨y, hy, he⟩ := List.mem_map.1 this
    simp only [Prod.mk.injEq] at he
    have := List.mem_zipIdx_iff_getElem?.1 (List.mem_of_mem_take hy)
    rw [← he.1, ← he.2]
    simpa using this
  have hidx : tr.map (·.i) = List.range pi := by
    have h1 := congrArg (List.map Prod.fst) htr
    rw [List.map_map, List.map_map] at h1
    have e1 : (Prod.fst ∘ fun x : TE => (x.i, x.o)) = fun x : TE => x.i := rfl
    have e2 : (Prod.fst ∘ fun x : Oper × Nat => (x.2, x.1)) = Prod.snd := rfl
    rw [e1, e2, List.map_take, List.zipIdx_map_snd] at h1
    rw [h1, ← List.range_eq_range', List.take_range]
    congr 1
    simp
    omega
  have hsort : (tr.map (·.i)).Pairwise (· < ·) := by rw [hidx]; exact List.pairwise_lt_range
  have hlen : tr.length = pi := by
    have := congrArg List.length hidx
    simpa using this
  refine wpIn_region_any hm ?_
  refine run_anyP hb hc hpo ops.size tr (Array.replicate ops.size false) s s' (by omega) h hpan hget hsort (fun x hx => ?_) (by simp) ?_ ?_ ?_ (fun x hx => ?_) hlate G a _ hs.drew hr (fun i _ => hf i) hQ ro
  · have : x.i ∈ tr.map (·.i) := List.mem_map_of_mem hx
    rw [hidx] at this
    exact List.mem_range.1 this
  · intro i hi
    rw [hidx]
    simp [hi]
    omega
  · intro k o _ hk
    rw [Array.getD_eq_getD_getElem?] at hk
    have hfalse : (Array.replicate ops.size false)[k]?.getD false = false := by
      rw [Array.getElem?_replicate]
      split <;> rfl
    rw [hfalse] at hk
    cases hk
  · have hs2 : tr.Pairwise (fun x y => x.i < y.i) := List.pairwise_map.1 hsort
    refine List.Pairwise.imp_of_mem (fun {x y} hx hy hxy => ?_) (List.pairwise_and_iff.2 ⟨hp, hs2⟩)
    rcases hxy.1 with h1 | h1
    · exact .inl h1
    · rcases hap x.i y.i x.o y.o hxy.2 (hget x hx) (hget y hy) with h2 | h2
      · exact .inl h2
      · exact .inr ⟨h2, h1⟩
  · rcases hpp x hx with h1 | h1
    · exact .inl h1
    · have hlt : x.i < pi := by
        have : x.i ∈ tr.map (·.i) := List.mem_map_of_mem hx
        rw [hidx] at this
        exact List.mem_range.1 this
      rcases hap x.i pi x.o po hlt (hget x hx) hpo with h2 | h2
      · exact .inl h2
      · exact .inr ⟨h2, h1⟩

end
end Go.Proofs.YtkdendaohlnlcaaGreat.Av

/- Two structs, or arrays, of plain cells: are they the same? No condition. -/
namespace Go.Proofs.YtkdendaohlnlcaaGreat.Av
set_option linter.unusedVariables false
set_option linter.unusedSimpArgs false
open Go.RowKit

inductive PK where
  | bool
  | int (k : IntKind)
  | str
  deriving DecidableEq
/-- Values of these kinds. -/
def Fit : List PK → List Value → Prop
  | [], [] => True
  | .bool :: ks, .bool _ :: l => Fit ks l
  | .int k :: ks, .int k' _ :: l => k' = k ∧ Fit ks l
  | .str :: ks, .string _ :: l => Fit ks l
  | _, _ => False
def eqV : List Value → List Value → Bool
  | .bool a :: l, .bool b :: m => (a == b) && eqV l m
  | .int _ a :: l, .int _ b :: m => (a == b) && eqV l m
  | .string a :: l, .string b :: m => (a.toList == b.toList) && eqV l m
  | [], [] => true
  | _, _ => false
/-- A kind of one cell, and one more. -/
theorem Fit.cons {k : PK} {ks : List PK} {l : List Value} (h : Fit (k :: ks) l) : ∃ v m, l = v :: m ∧ Fit [k] [v] ∧ Fit ks m := by
  cases l with
  | nil => cases k <;> simp [Fit] at h
  | cons v m =>
    refine ⟨v, m, rfl, ?_⟩
    cases k <;> cases v <;> simp_all [Fit]
theorem Fit.mk {k : PK} {ks : List PK} {v : Value} {l : List Value} (h : Fit [k] [v]) (g : Fit ks l) : Fit (k :: ks) (v :: l) := by
  cases k <;> cases v <;> simp_all [Fit]
theorem Fit.take : ∀ {ks : List PK} {l : List Value} (n : Nat), Fit ks l → Fit (ks.take n) (l.take n)
  | [], l, n, h => by cases l <;> simp_all [Fit]
  | k :: ks, l, 0, h => by simp [Fit]
  | k :: ks, l, n + 1, h => by
    obtain ⟨v, m, rfl, h1, h2⟩ := h.cons
    simp only [List.take_succ_cons]
    exact h1.mk (h2.take n)
theorem Fit.drop : ∀ {ks : List PK} {l : List Value} (n : Nat), Fit ks l → Fit (ks.drop n) (l.drop n)
  | ks, l, 0, h => by simpa using h
  | [], l, n + 1, h => by cases l <;> simp_all [Fit]
  | k :: ks, l, n + 1, h => by
    obtain ⟨v, m, rfl, h1, h2⟩ := h.cons
    simpa using h2.drop n
theorem Fit.length : ∀ {ks : List PK} {l : List Value}, Fit ks l → l.length = ks.length
  | [], l, h => by cases l <;> simp_all [Fit]
  | k :: ks, l, h => by
    obtain ⟨v, m, rfl, h1, h2⟩ := h.cons
    simp [h2.length]
theorem eqV_cons {k : PK} {v u : Value} (h : Fit [k] [v]) (g : Fit [k] [u]) (l m : List Value) : eqV (v :: l) (u :: m) = (eqV [v] [u] && eqV l m) := by
  cases k <;> cases v <;> simp [Fit] at h <;> cases u <;> simp [Fit] at g <;> simp [eqV]
theorem eqV_append : ∀ {ks : List PK} {a b : List Value}, Fit ks a → Fit ks b → ∀ l m : List Value, eqV (a ++ l) (b ++ m) = (eqV a b && eqV l m)
  | [], a, b, h, g, l, m => by
    cases a <;> simp [Fit] at h
    cases b <;> simp [Fit] at g
    simp [eqV]
  | k :: ks, a, b, h, g, l, m => by
    obtain ⟨v, a', rfl, h1, h2⟩ := h.cons
    obtain ⟨u, b', rfl, g1, g2⟩ := g.cons
    rw [List.cons_append, List.cons_append, eqV_cons h1 g1, eqV_cons h1 g1 a' b', eqV_append h2 g2, Bool.and_assoc]
/-- Do parts lie one behind the other? -/
def tiles : Nat → List (Nat × Nat) → Option Nat
  | p, [] => some p
  | p, (o, c) :: l => if o = p then tiles (p + c) l else none
/-- Are a type's cells of these kinds? -/
def eqFits (P : Program) : Nat → TypeId → List PK → Bool
  | 0, _, _ => false
  | d + 1, t, ks => match P.underlying t with
    | some .bool => decide (ks = [.bool])
    | some (.int q) => decide (ks = [.int q])
    | some .string => decide (ks = [.str])
    | some (.array n e) => decide (ks.length = P.cellsOf t) && (P.info? e).isSome && ((List.range n).all fun i => eqFits P d e ((ks.drop (i * P.cellsOf e)).take (P.cellsOf e))) && decide (n * P.cellsOf e = ks.length)
    | some (.struct fs) => decide (ks.length = P.cellsOf t) && (fs.toList.all fun f => f.name != "_" && eqFits P d f.type ((ks.drop f.offset).take (P.cellsOf f.type))) && !P.stoodInHeld t && decide (tiles 0 (fs.toList.map fun f => (f.offset, P.cellsOf f.type)) = some ks.length)
    | _ => false
/-- The value of a type with these cells. -/
def valOf (P : Program) (t : TypeId) (l : List Value) : Value := match P.underlying t with
  | some (.struct _) => .agg l.toArray
  | some (.array _ _) => .agg l.toArray
  | _ => l.headD Go.undef
section
variable {P : Program}
theorem fit_one {k : PK} {l : List Value} (h : Fit [k] l) : ∃ v, l = [v] ∧ Fit [k] [v] := by
  obtain ⟨v, m, rfl, h1, h2⟩ := h.cons
  cases m <;> simp [Fit] at h2
  exact ⟨v, rfl, h1⟩
theorem run_part_fit (w : World) {m : Nat} {e : TypeId} {ks : List PK} {XS : Array Value} {off : Nat} (he : eqFits P m e ks = true) (hf : Fit ks ((XS.toList.drop off).take (P.cellsOf e))) : (part e XS off).run P w = .ok (valOf P e ((XS.toList.drop off).take (P.cellsOf e))) w := by
  cases m with
  | zero => simp [eqFits] at he
  | succ m =>
    unfold eqFits at he
    have agg : ∀ hu : (∃ n e', P.underlying e = some (.array n e')) ∨ (∃ fs, P.underlying e = some (.struct fs)), (part e XS off).run P w = .ok (.agg ((XS.toList.drop off).take (P.cellsOf e)).toArray) w := by
      intro hu
      have hx : (XS.extract off (off + P.cellsOf e)) = ((XS.toList.drop off).take (P.cellsOf e)).toArray := by
        apply Array.toList_inj.1
        rw [Array.toList_extract]
        simp [List.extract]
      rw [← hx]
      rcases hu with ⟨n, e', hu⟩ | ⟨fs, hu⟩ <;> obtain ⟨i, hi⟩ := info_of_underlying hu <;> simp [part, isAgg, run_underlying hu, run_sizeOf w hi]
    have plain : ∀ k : PK, ks = [k] → P.plainKey e = true → (part e XS off).run P w = .ok (((XS.toList.drop off).take (P.cellsOf e)).headD Go.undef) w := by
      intro k hk hp
      subst hk
      obtain ⟨v, hv, _⟩ := fit_one hf
      rw [hv]
      exact run_part_plain w hp (getElem?_of_chunk hv)
    cases hu : P.underlying e with
    | none => simp [hu] at he
    | some d =>
      cases d <;> simp only [hu] at he <;> simp only [valOf, hu]
      case bool => exact plain _ (by simpa using he) (by simp [Program.plainKey, hu])
      case int q => exact plain _ (by simpa using he) (by simp [Program.plainKey, hu])
      case string => exact plain _ (by simpa using he) (by simp [Program.plainKey, hu])
      case array n e' => exact agg (.inl ⟨n, e', hu⟩)
      case struct fs => exact agg (.inr ⟨fs, hu⟩)
      all_goals cases he
def FitRun (P : Program) (dd : Nat) (t : TypeId) (ks : List PK) : Prop := ∀ (w : World) (xs ys : List Value), Fit ks xs → Fit ks ys → (Op.equalIn dd t (valOf P t xs) (valOf P t ys)).run P w = .ok (eqV xs ys) w
theorem run_eqFields_fit (w : World) {dd m : Nat} {ks : List PK} {X Y : Array Value} (hx : Fit ks X.toList) (hy : Fit ks Y.toList) : ∀ (fs : List Field) (p : Nat), (∀ f ∈ fs, f.name ≠ "_" ∧ eqFits P m f.type ((ks.drop f.offset).take (P.cellsOf f.type)) = true ∧ FitRun P dd f.type ((ks.drop f.offset).take (P.cellsOf f.type))) →
    tiles p (fs.map fun f => (f.offset, P.cellsOf f.type)) = some ks.length → (Op.eqFields dd X Y fs).run P w = .ok (eqV (X.toList.drop p) (Y.toList.drop p)) w
  | [], p, _, ht => by
    simp only [List.map_nil, tiles, Option.some.injEq] at ht
    have h1 := hx.length
    have h2 := hy.length
    rw [List.drop_of_length_le (by omega), List.drop_of_length_le (by omega)]
    simp [Op.eqFields, eqV]
  | f :: fs, p, hall, ht => by
    simp only [List.map_cons, tiles] at ht
    split at ht
    · rename_i hp
      obtain ⟨hn, he, hr⟩ := hall f (by simp)
      have fx := (hx.drop f.offset).take (P.cellsOf f.type)
      have fy := (hy.drop f.offset).take (P.cellsOf f.type)
      have ih := run_eqFields_fit w hx hy fs (p + P.cellsOf f.type) (fun g hg => hall g (by simp [hg])) ht
      simp only [Op.eqFields, hn, ne_eq, not_false_eq_true, if_true, Sem.run_bind, run_part_fit w he fx, run_part_fit w he fy, Result.andThen_ok, hr w _ _ fx fy]
      have sp : ∀ l : List Value, l.drop p = (l.drop f.offset).take (P.cellsOf f.type) ++ l.drop (p + P.cellsOf f.type) := fun l => by
        rw [hp, ← List.drop_drop]
        exact (List.take_append_drop _ _).symm
      rw [sp X.toList, sp Y.toList, eqV_append fx fy]
      cases eqV ((X.toList.drop f.offset).take (P.cellsOf f.type)) ((Y.toList.drop f.offset).take (P.cellsOf f.type))
      · simp
      · simpa using ih
    · cases ht
theorem run_eqItems_fit (w : World) {dd m : Nat} {e : TypeId} {ks : List PK} {X Y : Array Value} (hx : Fit ks X.toList) (hy : Fit ks Y.toList) : ∀ (n p : Nat), (∀ i, p ≤ i → i < p + n → eqFits P m e ((ks.drop (i * P.cellsOf e)).take (P.cellsOf e)) = true ∧ FitRun P dd e ((ks.drop (i * P.cellsOf e)).take (P.cellsOf e))) →
    (p + n) * P.cellsOf e = ks.length → (Op.eqItems dd e (P.cellsOf e) X Y (List.range' p n)).run P w = .ok (eqV (X.toList.drop (p * P.cellsOf e)) (Y.toList.drop (p * P.cellsOf e))) w
  | 0, p, _, ht => by
    have h1 := hx.length
    have h2 := hy.length
    simp only [Nat.add_zero] at ht
    rw [List.drop_of_length_le (by omega), List.drop_of_length_le (by omega)]
    simp [Op.eqItems, eqV]
  | n + 1, p, hall, ht => by
    obtain ⟨he, hr⟩ := hall p (Nat.le_refl _) (by omega)
    have fx := (hx.drop (p * P.cellsOf e)).take (P.cellsOf e)
    have fy := (hy.drop (p * P.cellsOf e)).take (P.cellsOf e)
    have ih := run_eqItems_fit w hx hy n (p + 1) (fun i h1 h2 => hall i (by omega) (by omega)) (by rw [← ht]; congr 1; omega)
    simp only [List.range'_succ, Op.eqItems, Sem.run_bind, run_part_fit w he fx, run_part_fit w he fy, Result.andThen_ok, hr w _ _ fx fy]
    have sp : ∀ l : List Value, l.drop (p * P.cellsOf e) = (l.drop (p * P.cellsOf e)).take (P.cellsOf e) ++ l.drop ((p + 1) * P.cellsOf e) := fun l => by
      rw [Nat.add_mul, Nat.one_mul, ← List.drop_drop]
      exact (List.take_append_drop _ _).symm
    have e2 : eqV (X.toList.drop (p * P.cellsOf e)) (Y.toList.drop (p * P.cellsOf e)) = (eqV ((X.toList.drop (p * P.cellsOf e)).take (P.cellsOf e)) ((Y.toList.drop (p * P.cellsOf e)).take (P.cellsOf e)) && eqV (X.toList.drop ((p + 1) * P.cellsOf e)) (Y.toList.drop ((p + 1) * P.cellsOf e))) := by
      rw [← eqV_append fx fy, ← sp, ← sp]
    rw [e2]
    cases eqV ((X.toList.drop (p * P.cellsOf e)).take (P.cellsOf e)) ((Y.toList.drop (p * P.cellsOf e)).take (P.cellsOf e))
    · simp
    · simpa using ih
theorem eqFits_run (d : Nat) : ∀ (m : Nat) (t : TypeId) (ks : List PK), eqFits P m t ks = true → FitRun P (d + m) t ks
  | 0, _, _, h => by simp [eqFits] at h
  | m + 1, t, ks, h => by
    intro w xs ys hx hy
    unfold eqFits at h
    rw [show d + (m + 1) = (d + m) + 1 from rfl]
    cases hu : P.underlying t with
    | none => simp [hu] at h
    | some kd =>
      cases kd <;> simp only [hu] at h <;> simp only [valOf, hu]
      case bool =>
        obtain rfl : ks = [.bool] := by simpa using h
        obtain ⟨v, rfl, h1⟩ := fit_one hx
        obtain ⟨u, rfl, h2⟩ := fit_one hy
        cases v <;> simp [Fit] at h1
        cases u <;> simp [Fit] at h2
        rename_i a b
        show (Op.equalIn (d + m + 1) t (.bool a) (.bool b)).run P w = _
        rw [run_equalIn_bool w (d + m) t a b hu]
        simp [eqV]
      case int q =>
        obtain rfl : ks = [.int q] := by simpa using h
        obtain ⟨v, rfl, h1⟩ := fit_one hx
        obtain ⟨u, rfl, h2⟩ := fit_one hy
        cases v <;> simp [Fit] at h1
        cases u <;> simp [Fit] at h2
        subst h1
        subst h2
        rename_i a k b
        show (Op.equalIn (d + m + 1) t (.int k a) (.int k b)).run P w = _
        rw [run_equalIn_int w (d + m) t k k a b hu]
        simp [eqV]
      case string =>
        obtain rfl : ks = [.str] := by simpa using h
        obtain ⟨v, rfl, h1⟩ := fit_one hx
        obtain ⟨u, rfl, h2⟩ := fit_one hy
        cases v <;> simp [Fit] at h1
        cases u <;> simp [Fit] at h2
        rename_i a b
        show (Op.equalIn (d + m + 1) t (.string a) (.string b)).run P w = _
        rw [run_equalIn_string w (d + m) t a b hu]
        simp [eqV]
      case array n e =>
        simp only [Bool.and_eq_true, decide_eq_true_eq, List.all_eq_true, List.mem_range] at h
        obtain ⟨⟨⟨h1, h2⟩, h3⟩, h4⟩ := h
        obtain ⟨i, hi⟩ := Option.isSome_iff_exists.1 h2
        rw [run_equalIn_array w (d + m) xs.toArray ys.toArray hu hi]
        have := run_eqItems_fit w (dd := d + m) (m := m) (e := e) (X := xs.toArray) (Y := ys.toArray) hx hy n 0 (fun i _ hin => ⟨h3 i (by omega), eqFits_run d m e _ (h3 i (by omega))⟩) (by rw [Nat.zero_add]; exact h4)
        simpa [List.range_eq_range'] using this
      case struct fs =>
        simp only [Bool.and_eq_true, decide_eq_true_eq, List.all_eq_true, Bool.not_eq_true', bne_iff_ne, ne_eq] at h
        obtain ⟨⟨⟨h1, h2⟩, h3⟩, h4⟩ := h
        have hfs : P.fieldsOf t = fs := by simp [Program.fieldsOf, hu]
        rw [run_equalIn_struct w (d + m) t xs.toArray ys.toArray (by rw [hfs]; exact hu) h3, hfs]
        have := run_eqFields_fit w (dd := d + m) (m := m) (X := xs.toArray) (Y := ys.toArray) hx hy fs.toList 0 (fun f hf => ⟨(h2 f hf).1, (h2 f hf).2, eqFits_run d m f.type _ (h2 f hf).2⟩) h4
        simpa using this
      all_goals cases h
/-! ### of values without memory -/
def kindsA : List AV → Option (List PK)
  | [] => some []
  | .raw (.bool _) :: l => (kindsA l).map (.bool :: ·)
  | .raw (.int k _) :: l => (kindsA l).map (.int k :: ·)
  | .raw (.string _) :: l => (kindsA l).map (.str :: ·)
  | _ :: _ => none
def eqA : List AV → List AV → Bool
  | .raw (.bool a) :: l, .raw (.bool b) :: m => (a == b) && eqA l m
  | .raw (.int _ a) :: l, .raw (.int _ b) :: m => (a == b) && eqA l m
  | .raw (.string a) :: l, .raw (.string b) :: m => (a.toList == b.toList) && eqA l m
  | [], [] => true
  | _, _ => false
@[go_sem] theorem kindsA_nil : kindsA [] = some [] := rfl
@[go_sem] theorem kindsA_bool {b : Bool} {l : List AV} : kindsA (.raw (.bool b) :: l) = (kindsA l).map (.bool :: ·) := rfl
@[go_sem] theorem kindsA_int {k : IntKind} {b : Int} {l : List AV} : kindsA (.raw (.int k b) :: l) = (kindsA l).map (.int k :: ·) := rfl
@[go_sem] theorem kindsA_str {b : ByteArray} {l : List AV} : kindsA (.raw (.string b) :: l) = (kindsA l).map (.str :: ·) := rfl
@[go_sem] theorem eqA_nil : eqA [] [] = true := rfl
@[go_sem] theorem eqA_bool {a b : Bool} {l m : List AV} : eqA (.raw (.bool a) :: l) (.raw (.bool b) :: m) = ((a == b) && eqA l m) := rfl
@[go_sem] theorem eqA_int {k k' : IntKind} {a b : Int} {l m : List AV} : eqA (.raw (.int k a) :: l) (.raw (.int k' b) :: m) = ((a == b) && eqA l m) := rfl
@[go_sem] theorem eqA_str {a b : ByteArray} {l m : List AV} : eqA (.raw (.string a) :: l) (.raw (.string b) :: m) = ((a.toList == b.toList) && eqA l m) := rfl
theorem kindsA_fit : ∀ {l : List AV} {ks : List PK}, kindsA l = some ks → ∃ vs, l = vs.map .raw ∧ Fit ks vs
  | [], ks, h => by
    simp only [kindsA, Option.some.injEq] at h
    subst h
    exact ⟨[], rfl, trivial⟩
  | a :: l, ks, h => by
    unfold kindsA at h
    split at h
    · simp at *
    · rename_i b m e
      cases e
      simp only [Option.map_eq_some_iff] at h
      obtain ⟨k2, h1, rfl⟩ := h
      obtain ⟨vs, rfl, h2⟩ := kindsA_fit h1
      exact ⟨.bool b :: vs, rfl, h2⟩
    · rename_i k b m e
      cases e
      simp only [Option.map_eq_some_iff] at h
      obtain ⟨k2, h1, rfl⟩ := h
      obtain ⟨vs, rfl, h2⟩ := kindsA_fit h1
      exact ⟨.int k b :: vs, rfl, rfl, h2⟩
    · rename_i b m e
      cases e
      simp only [Option.map_eq_some_iff] at h
      obtain ⟨k2, h1, rfl⟩ := h
      obtain ⟨vs, rfl, h2⟩ := kindsA_fit h1
      exact ⟨.string b :: vs, rfl, h2⟩
    · cases h
theorem eqA_raw : ∀ {ks : List PK} {vs us : List Value}, Fit ks vs → Fit ks us → eqA (vs.map .raw) (us.map .raw) = eqV vs us
  | [], vs, us, h, g => by
    cases vs <;> simp [Fit] at h
    cases us <;> simp [Fit] at g
    rfl
  | k :: ks, vs, us, h, g => by
    obtain ⟨v, m, rfl, h1, h2⟩ := h.cons
    obtain ⟨u, n, rfl, g1, g2⟩ := g.cons
    have ih := eqA_raw h2 g2
    cases k <;> cases v <;> simp [Fit] at h1 <;> cases u <;> simp [Fit] at g1 <;> simp [eqA, eqV, ih]
/-- May two such be compared? -/
def eqAsk (P : Program) (t : TypeId) (ks : List PK) : Bool := eqFits P 9 t ks && !P.eqGuardType P.depth t && (match P.underlying t with
  | some (.struct _) => true
  | some (.array _ _) => true
  | _ => false)
theorem repL_raw_eq {G : Gh} : ∀ {vs : List Value} {us : List Value}, RepL G (vs.map .raw) us → us = vs
  | [], us, h => by simpa [RepL] using h
  | v :: vs, us, h => by
    simp only [List.map_cons, RepL, Rep] at h
    obtain ⟨u, m, rfl, rfl, h2⟩ := h
    rw [repL_raw_eq h2]
theorem eqAgg_ok {t : TypeId} {a b : List AV} {ks : List PK} (ha : kindsA a = some ks) (hb : kindsA b = some ks) (he : eqAsk P t ks = true) {neg : Bool} (G : Gh) (w : World) {X Y : Value} (xo yo : Operand) (hx : Rep G (.agg a) X) (hy : Rep G (.agg b) Y) :
    ∃ V, (do eqGuard (if neg then .neq else .eql) t xo yo X Y; binOp (if neg then .neq else .eql) t X Y : Sem Value).run P w = .ok V w ∧ Rep G (.bool (neg != eqA a b)) V := by
  simp only [eqAsk, Bool.and_eq_true, Bool.not_eq_true'] at he
  obtain ⟨⟨h1, h2⟩, h3⟩ := he
  obtain ⟨vs, rfl, f1⟩ := kindsA_fit ha
  obtain ⟨us, rfl, f2⟩ := kindsA_fit hb
  simp only [Rep] at hx hy
  obtain ⟨cs, rfl, hx⟩ := hx
  obtain ⟨ds, rfl, hy⟩ := hy
  obtain rfl := repL_raw_eq hx
  obtain rfl := repL_raw_eq hy
  have hv : ∀ l : List Value, valOf P t l = .agg l.toArray := fun l => by
    unfold valOf
    split at h3 <;> first | rfl | cases h3
  have := eqFits_run (P := P) 9991 9 t ks h1 w cs ds f1 f2
  rw [hv, hv] at this
  rw [eqA_raw f1 f2, Sem.run_bind, run_eqGuard_agg w _ t xo yo _ _ h2]
  simp only [Result.andThen_ok]
  cases neg
  · simp only [Bool.false_eq_true, if_false]
    rw [run_eql_struct, this]
    exact ⟨_, rfl, by simp [Rep]⟩
  · simp only [if_true]
    rw [run_neq_struct, this]
    exact ⟨_, rfl, by simp [Rep]⟩
end
end Go.Proofs.YtkdendaohlnlcaaGreat.Av

/- What is to be shown of a function's text, computed from the text; and that this is enough. No condition. -/
namespace Go.Proofs.YtkdendaohlnlcaaGreat.Av
set_option linter.unusedVariables false
set_option linter.unusedSimpArgs false
open Go.RowKit

/-- A call of f with these values, made at the place k where the heap is H: it answers v, the heap is H' then. -/
def BodyAt (P : Program) (w0 : Base) (k : List Nat) (f : FuncId) (args : List AV) (H H' : Hp) (v : AV) : Prop :=
  (∃ fn c, P.funcs[f]? = some fn ∧ fn.body = some c ∧ (fn.name == "runtime.NumGoroutine") = false) ∧
  ∀ (G : Gh) (w : World) (cargs : Array Value), Sim w0 G H w → Fresh G k → RepL G args cargs.toList →
    ∀ R : Ending → World → Prop, (∀ G' w' V, G.Le G' → New k G G' → Sim w0 G' H' w' → Rep G' v V → R (.returned V) w') → Calls P f cargs w R

/-- The same of a function without a body. -/
def ExtAt (P : Program) (w0 : Base) (k : List Nat) (f : FuncId) (args : List AV) (H H' : Hp) (v : AV) : Prop :=
  ∃ fn e, P.funcs[f]? = some fn ∧ fn.body = none ∧ (fn.name == "runtime.NumGoroutine") = false ∧ (Extern.findNext fn).isNone = true ∧ Extern.find fn = some e ∧
    ∀ (G : Gh) (w : World) (cargs : Array Value), Sim w0 G H w → Fresh G k → RepL G args cargs.toList → ∃ G' w' V, G.Le G' ∧ New k G G' ∧ Sim w0 G' H' w' ∧ Rep G' v V ∧ (e cargs).run P w = .ok V w'
def CallAt (P : Program) (w0 : Base) (k : List Nat) (f : FuncId) (args : List AV) (H H' : Hp) (v : AV) : Prop := BodyAt P w0 k f args H H' v ∨ ExtAt P w0 k f args H H' v

/-- The same of a call that panics with v. -/
def PanAt (P : Program) (w0 : Base) (k : List Nat) (f : FuncId) (args : List AV) (H H' : Hp) (v : AV) : Prop :=
  (∃ fn c, P.funcs[f]? = some fn ∧ fn.body = some c ∧ (fn.name == "runtime.NumGoroutine") = false) ∧
  ∀ (G : Gh) (w : World) (cargs : Array Value), Sim w0 G H w → Fresh G k → RepL G args cargs.toList →
    ∀ R : Ending → World → Prop, (∀ G' w' V, G.Le G' → New k G G' → Sim w0 G' H' w' → Rep G' v V → R (.panicked [{ v := V, recovered := false }]) w') → Calls P f cargs w R

section
variable {P : Program} {tab : Tab} {w0 : Base} {k : List Nat}

theorem CallAt.body {f : FuncId} {args : List AV} {H H' : Hp} {v : AV} (h : CallAt P w0 k f args H H' v) {fn : Func} {c : Code} (hf : P.funcs[f]? = some fn) (hb : fn.body = some c) : BodyAt P w0 k f args H H' v := by
  rcases h with h | ⟨fn', e, h1, h2, _⟩
  · exact h
  · rw [hf] at h1
    cases h1
    rw [hb] at h2
    cases h2

theorem CallAt.weak {f : FuncId} {args args' : List AV} {H H' : Hp} {v : AV} (h : CallAt P w0 k f args' H H' v) (hw : ∀ G V, RepL G args V → RepL G args' V) : CallAt P w0 k f args H H' v := by
  rcases h with h | ⟨fn, e, h1, h2, h3, h4, h5, h6⟩
  · exact .inl ⟨h.1, fun G w ca hs hf hr R hR => h.2 G w ca hs hf (hw G _ hr) R hR⟩
  · exact .inr ⟨fn, e, h1, h2, h3, h4, h5, fun G w ca hs hf hr => h6 G w ca hs hf (hw G _ hr)⟩

theorem OpOk.call {o : Oper} {ρ : Operand → AV} {fo : Operand} {as : Array Operand} {ts : Array TypeId} {f : FuncId} {first caps : List AV} {H H' : Hp} {v : AV}
    (ho : o.op = .call { callee := .value fo, args := as, argTypes := ts }) (hf : ρ fo = .clo (.func f) first caps) (hc : CallAt P w0 k f (first ++ as.toList.map ρ ++ caps) H H' v) : OpOk P w0 k o ρ H H' v := by
  intro G w a hs hfr hr K Q hK
  have hF := hr fo (by simp [ho, Op.operands, Call.operands])
  rw [hf] at hF
  simp only [Rep] at hF
  obtain ⟨fi, ca, hF, r1, r2⟩ := hF
  have hargs : RepL G (as.toList.map ρ) (as.toList.map a.eval) := RepL_map _ fun x hx => hr x (by simp [ho, Op.operands, Call.operands]; exact .inr (by simpa using hx))
  have hall : RepL G (first ++ as.toList.map ρ ++ caps) (fi.toArray ++ as.map a.eval ++ ca.toArray).toList := by
    have := RepL.append (RepL.append r1 hargs) r2
    simpa using this
  rcases hc with ⟨⟨fn, c, h1, h2, h3⟩, h4⟩ | ⟨fn, e, h1, h2, h3, h4, h5, h6⟩
  rotate_left
  · obtain ⟨G', w', V, g1, g2, g3, g4, g5⟩ := h6 G w _ hs hfr hall
    have h4' : Extern.findNext fn = none := by simpa using h4
    have g5' := g5
    rw [Array.append_assoc] at g5'
    have hrun : (execOp a.eval o).run P w = .ok (.value V) w' := by
      simp [execOp, ho, resolve, hF, Deferred.ofValue, invoke, callFunc, program, Sem.run, h1, h2, by simpa using h3, h4', h5, g5', mark]
    unfold Oper.wp
    rw [hrun]
    exact hK G' w' V g1 g2 g3 g4
  have hrun : (execOp a.eval o).run P w = .ok (.enter f (fi.toArray ++ as.map a.eval ++ ca.toArray)) w := by
    simp [execOp, ho, resolve, hF, Deferred.ofValue, invoke, callFunc, program, Sem.run, h1, h2, by simpa using h3]
  unfold Oper.wp
  rw [hrun]
  exact h4 G w _ hs hfr hall _ fun G' w' V hl hn hs' hv => hK G' w' V hl hn hs' hv

theorem PanIn.call {o : Oper} {ρ : Operand → AV} {fo : Operand} {as : Array Operand} {ts : Array TypeId} {f : FuncId} {first caps : List AV} {H H' : Hp} {v : AV}
    (ho : o.op = .call { callee := .value fo, args := as, argTypes := ts }) (hf : ρ fo = .clo (.func f) first caps) (hc : PanAt P w0 k f (first ++ as.toList.map ρ ++ caps) H H' v) : PanIn P w0 k o ρ H H' v := by
  intro G w a hs hfr hr K Q hQ ro
  refine wpIn_of_wp (fun c hcc => by rw [ho] at hcc; cases hcc) ?_
  have hF := hr fo (by simp [ho, Op.operands, Call.operands])
  rw [hf] at hF
  simp only [Rep] at hF
  obtain ⟨fi, ca, hF, r1, r2⟩ := hF
  have hargs : RepL G (as.toList.map ρ) (as.toList.map a.eval) := RepL_map _ fun x hx => hr x (by simp [ho, Op.operands, Call.operands]; exact .inr (by simpa using hx))
  have hall : RepL G (first ++ as.toList.map ρ ++ caps) (fi.toArray ++ as.map a.eval ++ ca.toArray).toList := by
    have := RepL.append (RepL.append r1 hargs) r2
    simpa using this
  obtain ⟨⟨fn, c, h1, h2, h3⟩, h4⟩ := hc
  have hrun : (execOp a.eval o).run P w = .ok (.enter f (fi.toArray ++ as.map a.eval ++ ca.toArray)) w := by
    simp [execOp, ho, resolve, hF, Deferred.ofValue, invoke, callFunc, program, Sem.run, h1, h2, by simpa using h3]
  unfold Oper.wp
  rw [hrun]
  exact h4 G w _ hs hfr hall _ fun G' w' V hl hn hs' hv => hQ G' w' V hl hn hs' hv
theorem PanIn.panic {o : Oper} {ρ : Operand → AV} {x : Operand} {H : Hp} {t : TypeId} {v : AV} (ho : o.op = .panic x) (hx : ρ x = .iface t v) : PanIn P w0 k o ρ H H (.iface t v) := by
  intro G w a hs hfr hr K Q hQ ro
  refine wpIn_of_wp (fun c hcc => by rw [ho] at hcc; cases hcc) ?_
  have hF := hr x (by simp [ho, Op.operands])
  rw [hx] at hF
  have hF' := hF
  simp only [Rep] at hF
  obtain ⟨u, hF, r1⟩ := hF
  have hrun : (execOp a.eval o).run P w = .halt (.panic (a.eval x)) w := by
    simp only [execOp, ho]
    rw [hF]
    rfl
  unfold Oper.wp
  rw [hrun]
  exact hQ G w (a.eval x) (Gh.Le.refl G) (New.refl _ G) hs hF'

end

/-- A call of the yield of the loop whose record is the block l: as 'CallAt'. -/
def YieldIn (P : Program) (w0 : Base) (k : List Nat) (l : Nat) (args : List AV) (H H' : Hp) (v : AV) : Prop :=
  ∀ (G : Gh) (w : World) (cargs : Array Value), Sim w0 G H w → Fresh G k → RepL G args cargs.toList →
    ∀ R : Ending → World → Prop, (∀ G' w' V, G.Le G' → New k G G' → Sim w0 G' H' w' → Rep G' v V → R (.returned V) w') → YieldAt Fence.wide 0 P l cargs w R
theorem OpIn.yield {P : Program} {w0 : Base} {k : List Nat} {o : Oper} {ρ : Operand → AV} {fo : Operand} {as : Array Operand} {ts : Array TypeId} {l : Nat} {H H' : Hp} {v : AV}
    (ho : o.op = .call { callee := .value fo, args := as, argTypes := ts }) (hf : ρ fo = .clo (.yield l) [] []) (hc : YieldIn P w0 k l (as.toList.map ρ) H H' v) : OpIn P w0 k o ρ H H' v := by
  intro G w a hs hfr hr K Q hK ro
  have hF := hr fo (by simp [ho, Op.operands, Call.operands])
  rw [hf] at hF
  simp only [Rep, RepL] at hF
  obtain ⟨fi, ca, hF, rfl, rfl⟩ := hF
  have hargs : RepL G (as.toList.map ρ) (as.map a.eval).toList := by
    have : RepL G (as.toList.map ρ) (as.toList.map a.eval) := RepL_map _ fun x hx => hr x (by simp [ho, Op.operands, Call.operands]; exact .inr (by simpa using hx))
    simpa using this
  obtain ⟨fn, tm, asg, body, hy, hR⟩ := hc G w _ hs hfr hargs (fun e w' => match e, w' with
    | .returned v, w'' => K (a.put o.dst v) w''
    | .panicked chain, w'' => Q (.panic chain) a w''
    | .outgrown, _ => LetsOut Q) fun G' w' V hl hn hs' hv => hK G' w' V hl hn hs' hv
  refine ⟨fun _ _ => trivial, ?_⟩
  have hrun : (execOp a.eval o).run P w = .ok (.round l fn tm asg body) w := by
    rw [← hy]
    simp [execOp, ho, resolve, hF, Deferred.ofValue, invoke]
  rw [Oper.semAt_eq _ _ _ (by simp [ho]), hrun]
  exact ⟨fun hh => (by cases hh), trivial, hR.2⟩

/-- What is known of functions whose calls leave the heap as it is: what they ask of their arguments, and answer. -/
abbrev Spec := FuncId → List AV → Option (Prop × AV)
def SpecOk (P : Program) (w0 : Base) (Sp : Spec) : Prop := ∀ f args φ v, Sp f args = some (φ, v) → φ → ∀ k H, CallAt P w0 k f args H H v

/-- An operation of two operands; two structs are compared part by part. -/
def vcBin (P : Program) (tab : Tab) (op : BinOp) (t : TypeId) (nl : Bool) (x y : AV) (K : Ev → Prop) : Prop := match x, y with
  | .agg a, .agg b => ∃ ks neg, op = (if neg then .neq else .eql) ∧ kindsA a = some ks ∧ kindsA b = some ks ∧ eqAsk P t ks = true ∧ K (.val (.bool (neg != eqA a b)))
  | u, v => match binN tab op t nl u v with
    | some (φ, r) => φ ∧ K (.val r)
    | none => False
/-- What an operation asks, and what it tells then. -/
def vcOp (P : Program) (tab : Tab) (Sp : Spec) (w0 : Base) (mb : List Tmp) (draw : Bool) (key : List Nat) (o : Oper) (tmps : List AV) (H : Hp) (K : Ev → Prop) : Prop :=
  match o.op with
  | .box et x => match o.dst with
    | some d => if mb.contains d then K (.eff H (H.upd ⟨(evA tmps x).cells.length, key, et⟩ (some (.cells (evA tmps x).cells))) (.ptr ⟨(evA tmps x).cells.length, key, et⟩ 0)) else K (.val (.sptr (evA tmps x).cells))
    | none => False
  | .buildSlice t len parts => match sliceLitA tab t len (parts.toList.map fun p => (p.1, evA tmps p.2)) with
    | some v => K (.val v)
    | none => False
  | .alloc et => match tab et with
    | some te => (absC te.zero).cells.length = te.size ∧ if draw then K (.val (.ptr ⟨te.size, key, et⟩ 0)) else K (.eff H (H.upd ⟨te.size, key, et⟩ (some (.cells (absC te.zero).cells))) (.ptr ⟨te.size, key, et⟩ 0))
    | none => False
  | .load t x => match evA tmps x with
    | .ptr id off => match tab t with
      | some ti => ∃ c, H id = some (.cells c) ∧ (off + ti.size ≤ c.length ∧ 0 < ti.size) ∧ K (.rd id c (readA ti c off))
      | none => False
    | v => match loadA tab t v with
      | some (φ, u) => φ ∧ K (.val u)
      | none => False
  | .store t x y => match evA tmps x with
    | .ptr id off => match tab t with
      | some ti => (evA tmps y).cells.length = ti.size ∧ (evA tmps y).cells.all oneA = true ∧
          if off = 0 ∧ ti.size = id.sz then K (.eff H (H.upd id (some (.cells (evA tmps y).cells))) AV.undef)
          else off + ti.size ≤ id.sz ∧ ∃ c, H id = some (.cells c) ∧ K (.eff H (H.upd id (some (.cells (layAt c off (evA tmps y).cells)))) AV.undef)
      | none => False
    | _ => False
  | .convert sT dT x => match evA tmps x with
    | .ptr id off => match convP P tab sT dT id off with
      | some φ => φ ∧ K (.val (.ptr id off))
      | none => False
    | v => match convA tab sT dT v with
      | some (φ, u) => φ ∧ K (.val u)
      | none => False
  | .call { callee := .builtin .append, args := as, argTypes := ts } => match as.toList, ts.toList with
    | [s, x], [t, t'] => match tab t with
      | some ⟨.slice e, _, _, _⟩ => match tab e with
        | some te => match evA tmps s with
          | .list tk xs => match srcA tab te.size t' (evA tmps x) with
            | some (ψ, ys) => ψ ∧ (∀ y ∈ xs, y.length = te.size) ∧ 0 < te.size ∧ (absC te.zero).cells.length = te.size ∧ ys.flatten.all oneA = true ∧
              (xs.length + ys.length) * te.bytes ≤ 140737488355328 ∧ xs.length + ys.length ≤ 4611686018427387904 ∧ tokLive H te.size e tk ∧
              K (.eff H ((killTok H tk).upd ⟨te.size, key, e⟩ (some .tok)) (.list (tokBy tk ys ⟨te.size, key, e⟩) (xs ++ ys.map (·.map strip))))
            | none => False
          | _ => False
        | none => False
      | _ => False
    | _, _ => False
  | .call { callee := .builtin .unsafeSliceData, args := as, .. } => match as.toList with
    | [x] => match evA tmps x, tab o.type with
      | .list tk xs, some ⟨.pointer _, _, _, _⟩ => dataOk H tk xs ∧ K (.eff H H (.rowp tk xs))
      | _, _ => False
    | _ => False
  | .call { callee := .builtin .unsafeString, args := as, argTypes := ts } => match as.toList, ts.toList with
    | [x, y], [pt, _] => match tab pt with
      | some ⟨.pointer e, _, _, _⟩ => match evA tmps x with
        | .rowp tk xs => match strOf xs with
          | some s => evA tmps y = .int .i64 s.size ∧ (s.size : Int) ≤ 9223372036854775807 ∧ strOk P H e tk s ∧ K (.eff H (killTok H tk) (.str s))
          | none => False
        | _ => False
      | _ => False
    | _, _ => False
  | .call { callee := .value fo, args := as, .. } => match evA tmps fo with
    | .clo (.func f) first caps => match Sp f (first ++ as.toList.map (evA tmps) ++ caps) with
      | some (φ, v) => φ ∧ K (.val v)
      | none => ∃ H' v, (CallAt P w0 key f (first ++ as.toList.map (evA tmps) ++ caps) H H' v ∧ K (.eff H H' v)) ∨ (PanAt P w0 key f (first ++ as.toList.map (evA tmps) ++ caps) H H' v ∧ K (.pan H H' v))
    | .clo (.yield l) [] [] => ∃ H' v, YieldIn P w0 key l (as.toList.map (evA tmps)) H H' v ∧ K (.eff H H' v)
    | _ => False
  | .panic x => match evA tmps x with
    | .iface t v => K (.pan H H (.iface t v))
    | _ => False
  | .binOp op t x y _ => vcBin P tab op t (isNilC y) (evA tmps x) (evA tmps y) K
  | _ => match opN tab o (evA tmps) with
    | some (φ, v) => φ ∧ K (.val v)
    | none => False

section
variable {P : Program} {tab : Tab} {Sp : Spec} {w0 : Base}

theorem layAt_whole {c vs : List AV} (h : c.length = vs.length) : layAt c 0 vs = vs := by
  rw [layAt_eq vs c 0 (by omega)]
  simp [List.drop_of_length_le (show c.length ≤ vs.length by omega)]

theorem vcOp_sound (hT : TabOk P tab) (hS : SpecOk P w0 Sp) {mb : List Tmp} {draw : Bool} {key : List Nat} {o : Oper} {tmps : List AV} {H : Hp} {K : Ev → Prop} (h : vcOp P tab Sp w0 mb draw key o tmps H K) :
    ∃ ev, EvOk P w0 key o (evA tmps) ev ∧ ev.pre H ∧ K ev := by
  have nd : ∀ c, o.op ≠ .defer c := fun c ho => by
    simp [vcOp, ho, opN] at h
  have mkV : ∀ {v : AV}, (∀ H', OpOk P w0 key o (evA tmps) H' H' v) → K (.val v) → ∃ ev, EvOk P w0 key o (evA tmps) ev ∧ ev.pre H ∧ K ev := fun {v} h hk => ⟨.val v, fun H => (h H).in_ nd, trivial, hk⟩
  have mkE : ∀ {H2 : Hp} {v : AV}, OpOk P w0 key o (evA tmps) H H2 v → K (.eff H H2 v) → ∃ ev, EvOk P w0 key o (evA tmps) ev ∧ ev.pre H ∧ K ev := fun {H2 v} h hk => ⟨.eff H H2 v, h.in_ nd, rfl, hk⟩
  have mkR : ∀ {id : Id} {c : List AV} {v : AV}, (∀ H', H' id = some (.cells c) → OpOk P w0 key o (evA tmps) H' H' v) → H id = some (.cells c) → K (.rd id c v) → ∃ ev, EvOk P w0 key o (evA tmps) ev ∧ ev.pre H ∧ K ev :=
    fun {id c v} h hH hk => ⟨.rd id c v, fun H hH => (h H hH).in_ nd, hH, hk⟩
  have hN : ∀ {φ : Prop} {v : AV}, opN tab o (evA tmps) = some (φ, v) → φ → K (.val v) → ∃ ev, EvOk P w0 key o (evA tmps) ev ∧ ev.pre H ∧ K ev :=
    fun e hφ hk => mkV (fun H' => OpOk.quiet (opN_quiet hT e hφ) H') hk
  unfold vcOp at h
  split at h
  · rename_i et x ho
    split at h
    · rename_i d hd
      split at h
      · exact mkE (OpOk.boxVar ho H) h
      · exact mkV (fun H' => OpOk.boxConst ho H') h
    · exact h.elim
  · rename_i t len parts ho
    split at h
    · rename_i v hv
      exact mkV (fun H' => OpOk.sliceLit hT ho hv H') h
    · exact h.elim
  · rename_i et ho
    split at h
    · rename_i te hte
      obtain ⟨hz, h⟩ := h
      split at h
      · refine mkV (fun H' => ?_) h
        -- the variable is made, but nothing is said of what it holds
        intro G w a hs hf hr K' Q hK
        have hn : H' ⟨te.size, key, et⟩ = none := by
          cases hh : H' ⟨te.size, key, et⟩ with
          | none => rfl
          | some e =>
            have hfr := hf ⟨te.size, key, et⟩ (List.suffix_refl _)
            cases e with
            | cells avs => obtain ⟨b, hb⟩ := hs.d _ _ hh; rw [hfr.1] at hb; cases hb
            | tok =>
              rcases hs.t _ hh with g | ⟨b, m, c, T, cs, g, _⟩
              · rw [hfr.2] at g; cases g
              · rw [hfr.2] at g; cases g
        exact OpOk.alloc hT ho hte H' H' hz (fun _ _ => rfl) (.inl hn) G w a hs hf hr K' Q hK
      · exact mkE (OpOk.alloc hT ho hte H _ hz (fun i hi => Hp.upd_ne _ _ hi) (.inr (Hp.upd_same _ _ _))) h
    · exact h.elim
  · rename_i t x ho
    split at h
    · rename_i id off hx
      split at h
      · rename_i ti hti
        obtain ⟨c, hc, ⟨h1, h2⟩, hk⟩ := h
        exact mkR (fun H' hH' => OpOk.load hT ho hx hti h1 h2 H' hH') hc hk
      · exact h.elim
    · split at h
      · rename_i φ u hu
        exact hN (by simp only [opN, ho]; exact hu) h.1 h.2
      · exact h.elim
  · rename_i t x y ho
    split at h
    · rename_i id off hx
      split at h
      · rename_i ti hti
        obtain ⟨h1, h2, h⟩ := h
        split at h
        · rename_i hoff
          obtain ⟨rfl, hsz⟩ := hoff
          refine mkE ?_ h
          have hop := OpOk.store (P := P) (w0 := w0) (k := key) hT (c := (evA tmps y).cells) ho hx hti (by omega) h1 h2 H (.inr ⟨by omega, rfl, hsz⟩)
          rw [layAt_whole rfl] at hop
          exact hop
        · obtain ⟨h3, c, hc, hk⟩ := h
          exact mkE (OpOk.store hT ho hx hti h3 h1 h2 H (.inl hc)) hk
      · exact h.elim
    · exact h.elim
  · rename_i sT dT x ho
    split at h
    · rename_i id off hx
      split at h
      · rename_i φ hφ
        exact mkV (fun H' => OpOk.convP hT ho hx hφ h.1 H') h.2
      · exact h.elim
    · split at h
      · rename_i φ u hu
        exact hN (by simp only [opN, ho]; exact hu) h.1 h.2
      · exact h.elim
  · rename_i as ts ho
    split at h
    · rename_i s x t t' has hts
      split at h
      · rename_i e a1 a2 z ht
        split at h
        · rename_i te hte
          split at h
          · rename_i tk xs hs
            split at h
            · rename_i ψ ys hx
              obtain ⟨h0, h1, h3, h4, h5, h6, h7, h8, hk⟩ := h
              have has' : as = #[s, x] := by apply Array.ext'; simpa using has
              have hts' : ts = #[t, t'] := by apply Array.ext'; simpa using hts
              subst has' hts'
              exact mkE (OpOk.append hT ho ht hte hs hx h0 h1 h3 h4 h5 h6 h7 H h8) hk
            · exact h.elim
          · exact h.elim
        · exact h.elim
      · exact h.elim
    · exact h.elim
  · rename_i as ts ho
    split at h
    · rename_i x has
      have has' : as = #[x] := by apply Array.ext'; simpa using has
      subst has'
      split at h
      · rename_i tk xs e a1 a2 z hx ht
        exact mkE (OpOk.sliceData hT ho hx ht H h.1) h.2
      · exact h.elim
    · exact h.elim
  · rename_i as ts ho
    split at h
    · rename_i x y pt it has hts
      have has' : as = #[x, y] := by apply Array.ext'; simpa using has
      have hts' : ts = #[pt, it] := by apply Array.ext'; simpa using hts
      subst has' hts'
      split at h
      · rename_i e a1 a2 z ht
        split at h
        · rename_i tk xs hx
          split at h
          · rename_i s hs
            obtain ⟨h1, h2, h3, hk⟩ := h
            exact mkE (OpOk.unsafeString hT ho hx h1 hs ht h2 H h3) hk
          · exact h.elim
        · exact h.elim
      · exact h.elim
    · exact h.elim
  · rename_i fo as ts ho
    split at h
    · rename_i f first caps hf
      split at h
      · rename_i φ v hsp
        exact mkV (fun H' => OpOk.call ho hf (hS _ _ _ _ hsp h.1 key H')) h.2
      · obtain ⟨H', v, ⟨hc, hk⟩ | ⟨hc, hk⟩⟩ := h
        · exact mkE (OpOk.call ho hf hc) hk
        · exact ⟨.pan H H' v, PanIn.call ho hf hc, rfl, hk⟩
    · rename_i l hf
      obtain ⟨H', v, hc, hk⟩ := h
      exact ⟨.eff H H' v, OpIn.yield ho hf hc, rfl, hk⟩
    · exact h.elim
  · rename_i x ho
    split at h
    · rename_i t v hx
      exact ⟨.pan H H (.iface t v), PanIn.panic ho hx, rfl, h⟩
    · exact h.elim
  · rename_i op t x y vt ho
    unfold vcBin at h
    split at h
    · rename_i a b hx hy
      obtain ⟨ks, neg, rfl, h1, h2, h3, hk⟩ := h
      refine mkV (fun H' => OpOk.quiet (fun G w e hc hr => ?_) H') hk
      obtain ⟨V, g1, g2⟩ := eqAgg_ok h1 h2 h3 (neg := neg) G w x y (by rw [← hx]; exact hr x (by simp [ho, Op.operands])) (by rw [← hy]; exact hr y (by simp [ho, Op.operands]))
      exact ⟨V, by simp only [execOp, ho, Sem.run_bind, g1, Result.andThen_ok, Sem.run_pure], g2⟩
    · split at h
      · rename_i φ v hv
        exact hN (by simp only [opN, ho]; exact hv) h.1 h.2
      · exact h.elim
  · split at h
    · rename_i φ v hv
      exact hN hv h.1 h.2
    · exact h.elim

end

/-- An operation with its guard. -/
def vcG (P : Program) (tab : Tab) (Sp : Spec) (w0 : Base) (mb : List Tmp) (draw : Bool) (ops : Array Oper) (key : List Nat) (o : Oper) (s : S) (K : Ev → Prop) : Prop :=
  match o.guard with
  | none => vcOp P tab Sp w0 mb draw key o s.tmps s.H K
  | some (j, want) => match (ops[j]?).bind (·.dst) with
    | some d => match s.tmps.getD d AV.undef with
      | .raw (.bool t) => d < s.tmps.length ∧ ((t == want) = true → vcOp P tab Sp w0 mb draw key o s.tmps s.H K) ∧ ((t == want) = false → K (.val AV.undef))
      | .raw (.tuple ⟨[]⟩) => d < s.tmps.length ∧ K (.val AV.undef)
      | _ => False
    | none => False

/-- What is asked behind an operation: the rest, or, where it panicked, that which is asked of a panic. -/
def evK (ev : Ev) (A : Prop) (B : Hp → AV → Prop) : Prop := match ev with
  | .pan _ H' v => B H' v
  | _ => A

def vcSeq (P : Program) (tab : Tab) (Sp : Spec) (w0 : Base) (mb : List Tmp) (ops : Array Oper) (kp : List Nat) (Kp : S → AV → Prop) : List (Oper × Nat) → S → (S → Prop) → Prop
  | [], s, K => K s
  | (o, i) :: rest, s, K => vcG P tab Sp w0 mb false ops (i :: kp) o s fun ev => evK ev (vcSeq P tab Sp w0 mb ops kp Kp rest ⟨putA s.tmps o.dst ev.out, ev.post s.H⟩ K) fun H' v => Kp ⟨s.tmps, H'⟩ v

def Ev.loud : Ev → Bool
  | .val _ => false
  | _ => true

def vcDraw (P : Program) (tab : Tab) (Sp : Spec) (w0 : Base) (mb : List Tmp) (ops : Array Oper) (kp : List Nat) : List (Oper × Nat) → S → (List (Nat × Ev) → S → Prop) → (Nat → List (Nat × Ev) → Hp → AV → Prop) → Prop
  | [], s, K, _ => K [] s
  | (o, i) :: rest, s, K, Kp => vcG P tab Sp w0 mb true ops (i :: kp) o s fun ev => evK ev (vcDraw P tab Sp w0 mb ops kp rest ⟨putA s.tmps o.dst ev.out, ev.post s.H⟩ (fun evs s' => K (if ev.loud then (i, ev) :: evs else evs) s') fun j evs H' v => Kp j (if ev.loud then (i, ev) :: evs else evs) H' v) fun H' v => Kp i [] H' v

section
variable {P : Program} {tab : Tab} {Sp : Spec} {w0 : Base} {mb : List Tmp} {ops : Array Oper} {kp : List Nat}

theorem vcG_sound (hT : TabOk P tab) (hS : SpecOk P w0 Sp) {draw : Bool} {o : Oper} {i : Nat} {s : S} {K : Ev → Prop} (h : vcG P tab Sp w0 mb draw ops (i :: kp) o s K) :
    (∃ ev, ev.isPan = false ∧ StepOk P w0 ops kp ⟨i, o, ev⟩ s ⟨putA s.tmps o.dst ev.out, ev.post s.H⟩ ∧ K ev) ∨ ∃ H' v, PanStep P w0 ops kp i o s H' v ∧ K (.pan s.H H' v) := by
  have fin : ∀ {ev : Ev}, wantA ops s.tmps o true → EvOk P w0 (i :: kp) o (evA s.tmps) ev → ev.pre s.H → K ev → (∃ ev, ev.isPan = false ∧ StepOk P w0 ops kp ⟨i, o, ev⟩ s ⟨putA s.tmps o.dst ev.out, ev.post s.H⟩ ∧ K ev) ∨ ∃ H' v, PanStep P w0 ops kp i o s H' v ∧ K (.pan s.H H' v) := fun {ev} hw h1 h2 h3 => by
    cases hp : ev.isPan with
    | false => exact .inl ⟨ev, hp, ⟨true, hw, fun _ => h1, fun e => (by cases e), ⟨hp, h2⟩, rfl⟩, h3⟩
    | true =>
      cases ev with
      | pan H1 H2 v =>
        obtain rfl : s.H = H1 := h2
        exact .inr ⟨H2, v, ⟨hw, h1⟩, h3⟩
      | _ => exact nomatch (show false = true from hp)
  unfold vcG at h
  split at h
  · rename_i hg
    obtain ⟨ev, h1, h2, h3⟩ := vcOp_sound hT hS h
    exact fin (by simp [wantA, hg]) h1 h2 h3
  · rename_i j want hg
    split at h
    · rename_i d hd
      split at h
      · rename_i t ht
        obtain ⟨hl, h1, h2⟩ := h
        cases htw : (t == want) with
        | true =>
          obtain ⟨ev, g1, g2, g3⟩ := vcOp_sound hT hS (h1 htw)
          exact fin (by simp only [wantA, hg]; exact ⟨d, hd, hl, .inl ⟨t, ht, htw.symm⟩⟩) g1 g2 g3
        | false =>
          exact .inl ⟨.val AV.undef, rfl, ⟨false, by simp only [wantA, hg]; exact ⟨d, hd, hl, .inl ⟨t, ht, htw.symm⟩⟩, fun e => (by cases e), fun _ => rfl, ⟨rfl, trivial⟩, rfl⟩, h2 htw⟩
      · rename_i ht
        exact .inl ⟨.val AV.undef, rfl, ⟨false, by simp only [wantA, hg]; exact ⟨d, hd, h.1, .inr ⟨ht, trivial⟩⟩, fun e => (by cases e), fun _ => rfl, ⟨rfl, trivial⟩, rfl⟩, h.2⟩
      · exact h.elim
    · exact h.elim

theorem evK_no {ev : Ev} (hp : ev.isPan = false) {A : Prop} {B : Hp → AV → Prop} (h : evK ev A B) : A := by
  cases ev <;> first | exact h | exact nomatch (show true = false from hp)

theorem vcSeq_sound (hT : TabOk P tab) (hS : SpecOk P w0 Sp) {Kp : S → AV → Prop} : ∀ (l : List (Oper × Nat)) (s : S) (K : S → Prop), vcSeq P tab Sp w0 mb ops kp Kp l s K →
    (∃ tr s', Run P w0 ops kp tr s s' ∧ tr.map (fun x => (x.i, x.o)) = l.map (fun x => (x.2, x.1)) ∧ K s') ∨
    ∃ tr s' pi po rest H' v, Run P w0 ops kp tr s s' ∧ l.map (fun x => (x.2, x.1)) = tr.map (fun x => (x.i, x.o)) ++ (pi, po) :: rest ∧ PanStep P w0 ops kp pi po s' H' v ∧ Kp ⟨s'.tmps, H'⟩ v
  | [], s, K, h => .inl ⟨[], s, rfl, rfl, h⟩
  | (o, i) :: rest, s, K, h => by
    rcases vcG_sound hT hS h with ⟨ev, h0, h1, h2⟩ | ⟨H', v, h1, h2⟩
    · rcases vcSeq_sound hT hS rest _ K (evK_no h0 h2) with ⟨tr, s', h3, h4, h5⟩ | ⟨tr, s', pi, po, r, H', v, h3, h4, h5, h6⟩
      · exact .inl ⟨⟨i, o, ev⟩ :: tr, s', ⟨_, h1, h3⟩, by simp [h4], h5⟩
      · exact .inr ⟨⟨i, o, ev⟩ :: tr, s', pi, po, r, H', v, ⟨_, h1, h3⟩, by simp [h4], h5, h6⟩
    · exact .inr ⟨[], s, i, o, rest.map (fun x => (x.2, x.1)), H', v, rfl, by simp, h1, h2⟩

def louds : List TE → List (Nat × Ev)
  | [] => []
  | x :: tr => if x.ev.loud then (x.i, x.ev) :: louds tr else louds tr

theorem vcDraw_sound (hT : TabOk P tab) (hS : SpecOk P w0 Sp) : ∀ (l : List (Oper × Nat)) (s : S) (K : List (Nat × Ev) → S → Prop) (Kp : Nat → List (Nat × Ev) → Hp → AV → Prop), vcDraw P tab Sp w0 mb ops kp l s K Kp →
    (∃ tr s', Run P w0 ops kp tr s s' ∧ tr.map (fun x => (x.i, x.o)) = l.map (fun x => (x.2, x.1)) ∧ K (louds tr) s') ∨
    ∃ tr s' pi po rest H' v, Run P w0 ops kp tr s s' ∧ l.map (fun x => (x.2, x.1)) = tr.map (fun x => (x.i, x.o)) ++ (pi, po) :: rest ∧ PanStep P w0 ops kp pi po s' H' v ∧ Kp pi (louds tr) H' v
  | [], s, K, Kp, h => .inl ⟨[], s, rfl, rfl, h⟩
  | (o, i) :: rest, s, K, Kp, h => by
    rcases vcG_sound hT hS h with ⟨ev, h0, h1, h2⟩ | ⟨H', v, h1, h2⟩
    · rcases vcDraw_sound hT hS rest _ _ _ (evK_no h0 h2) with ⟨tr, s', h3, h4, h5⟩ | ⟨tr, s', pi, po, r, H', v, h3, h4, h5, h6⟩
      · exact .inl ⟨⟨i, o, ev⟩ :: tr, s', ⟨_, h1, h3⟩, by simp [h4], by simpa [louds] using h5⟩
      · exact .inr ⟨⟨i, o, ev⟩ :: tr, s', pi, po, r, H', v, ⟨_, h1, h3⟩, by simp [h4], h5, by simpa [louds] using h6⟩
    · exact .inr ⟨[], s, i, o, rest.map (fun x => (x.2, x.1)), H', v, rfl, by simp, h1, h2⟩

theorem louds_mem : ∀ (tr : List TE) (x : TE), x ∈ tr → x.ev.loud = true → (x.i, x.ev) ∈ louds tr
  | [], x, hx, _ => by simp at hx
  | y :: tr, x, hx, hl => by
    simp only [List.mem_cons] at hx
    simp only [louds]
    rcases hx with rfl | hx
    · simp [hl]
    · have := louds_mem tr x hx hl
      split <;> simp [this]

theorem louds_pairs {R : Nat → Nat → Prop} : ∀ (tr : List TE), (louds tr).Pairwise (fun x y => R x.1 y.1 ∨ compat x.2 y.2) → tr.Pairwise fun x y => R x.i y.i ∨ compat x.ev y.ev
  | [], _ => List.Pairwise.nil
  | x :: tr, h => by
    have hquiet : ∀ e f : Ev, e.loud = false ∨ f.loud = false → compat e f := fun e f h => by cases e <;> cases f <;> simp_all [Ev.loud, compat]
    cases hx : x.ev.loud with
    | false =>
      simp only [louds, hx, Bool.false_eq_true, if_false] at h
      exact List.pairwise_cons.2 ⟨fun y _ => .inr (hquiet _ _ (.inl hx)), louds_pairs tr h⟩
    | true =>
      simp only [louds, hx, if_true] at h
      have h2 := List.pairwise_cons.1 h
      refine List.pairwise_cons.2 ⟨fun y hy => ?_, louds_pairs tr h2.2⟩
      cases hyl : y.ev.loud with
      | false => exact .inr (hquiet _ _ (.inr hyl))
      | true => exact h2.1 _ (louds_mem tr y hy hyl)

end
end Go.Proofs.YtkdendaohlnlcaaGreat.Av
