/- A theory of values without memory over the model: what a value stands for (lists, trees, variables by name), and that this outlives whatever writes elsewhere. No condition. -/
import Derived.Below
import Derived.Laws.World
import Derived.Calls
import Derived.Orders
namespace Go.Proofs.YtkdendaohlnlcaaDoor.Av
set_option linter.unusedVariables false
set_option linter.unusedSimpArgs false
open Go.RowKit

/-- The name of a variable that a run has made: how many cells it has, where in the run it was made, and its type. -/
structure Id where
  sz : Nat
  key : List Nat
  ty : TypeId
  deriving DecidableEq

/-- May a list be appended to: unknown; it is nil; it has no room (an append makes a new one); it is the row behind a token. -/
inductive Tok where
  | none
  | nil
  | full
  | tok (id : Id)

/-- A value without memory. -/
inductive AV where
  | raw (v : Value)
  | list (t : Tok) (xs : List (List AV))
  | ptr (id : Id) (off : Nat)
  | sptr (cells : List AV)
  | arr (id : Id) (off len : Nat)
  | rowp (t : Tok) (xs : List (List AV))
  | clo (fn : Fn) (first caps : List AV)
  | iface (t : TypeId) (v : AV)
  | agg (cells : List AV)
  | tup (vs : List AV)

abbrev AV.int (k : IntKind) (n : Int) : AV := .raw (.int k n)
abbrev AV.bool (b : Bool) : AV := .raw (.bool b)
abbrev AV.str (s : ByteArray) : AV := .raw (.string s)
abbrev AV.undef : AV := .raw Go.undef

/-- What is known of memory: cells that nobody writes any more; the blocks of variables; the rows of tokens (none: no room; block, how many elements, room, element type); blocks that are no cells: what lies there, always, or as long as a token lives. -/
structure Gh where
  C : Addr → Option Value
  σ : Id → Option Nat
  τ : Id → Option (Option (Nat × Nat × Nat × TypeId))
  ρ : Nat → Option (List (Option Id × Obj))

structure Gh.Le (G G' : Gh) : Prop where
  C : ∀ a v, G.C a = some v → G'.C a = some v
  σ : ∀ i b, G.σ i = some b → G'.σ i = some b
  τ : ∀ i b, G.τ i = some b → G'.τ i = some b
  ρ : ∀ b o, G.ρ b = some o → G'.ρ b = some o

theorem Gh.Le.refl (G : Gh) : G.Le G := ⟨fun _ _ h => h, fun _ _ h => h, fun _ _ h => h, fun _ _ h => h⟩
theorem Gh.Le.trans {A B C : Gh} (h : A.Le B) (k : B.Le C) : A.Le C :=
  ⟨fun a v e => k.C a v (h.C a v e), fun a v e => k.σ a v (h.σ a v e), fun a v e => k.τ a v (h.τ a v e), fun a v e => k.ρ a v (h.ρ a v e)⟩

def tokOk (G : Gh) (A : Option Addr) (n c : Nat) : Tok → Prop
  | .none => True
  | .nil => A = none ∧ c = 0
  | .full => c = n
  | .tok id => ∃ b T, G.τ id = some (some (b, n, c, T)) ∧ A = some ⟨b, 0, none⟩

def uniform (xs : List (List AV)) : Prop := ∃ sz, ∀ x, x ∈ xs → x.length = sz

mutual
def Rep (G : Gh) : AV → Value → Prop
  | .raw v, V => V = v
  | .list t xs, V => ∃ A n c, V = .slice A n c ∧ n = xs.length ∧ n ≤ c ∧ tokOk G A n c t ∧ uniform xs ∧ ∃ ad, (xs ≠ [] → A = some ad) ∧ RepE G ad 0 xs
  | .ptr id off, V => ∃ b, G.σ id = some b ∧ V = .pointer (some ⟨b, off, none⟩)
  | .sptr cells, V => ∃ ad, V = .pointer (some ad) ∧ RepC G ad 0 cells
  | .arr id off len, V => ∃ b, G.σ id = some b ∧ V = .slice (some ⟨b, off, none⟩) len len
  | .rowp t xs, V => ∃ A n c, (V = .pointer A ∨ xs = [] ∧ ∃ p, V = .pointer p) ∧ n = xs.length ∧ n ≤ c ∧ tokOk G A n c t ∧ uniform xs ∧ ∃ ad, (xs ≠ [] → A = some ad) ∧ RepE G ad 0 xs
  | .clo fn first caps, V => ∃ f c, V = .func fn f.toArray c.toArray ∧ RepL G first f ∧ RepL G caps c
  | .iface t v, V => ∃ u, V = .iface t u ∧ Rep G v u
  | .agg cells, V => ∃ cs, V = .agg cs.toArray ∧ RepL G cells cs
  | .tup vs, V => ∃ cs, V = .tuple cs.toArray ∧ RepL G vs cs
def RepL (G : Gh) : List AV → List Value → Prop
  | [], vs => vs = []
  | a :: as, vs => ∃ u us, vs = u :: us ∧ Rep G a u ∧ RepL G as us
def RepC (G : Gh) (ad : Addr) (k : Nat) : List AV → Prop
  | [] => True
  | a :: as => (∃ v, G.C (ad.add k) = some v ∧ Rep G a v) ∧ RepC G ad (k + 1) as
def RepE (G : Gh) (ad : Addr) (k : Nat) : List (List AV) → Prop
  | [] => True
  | x :: xs => RepC G ad k x ∧ RepE G ad (k + x.length) xs
end

theorem tokOk.mono {G G' : Gh} (h : G.Le G') {A : Option Addr} {n c : Nat} {t : Tok} (k : tokOk G A n c t) : tokOk G' A n c t := by
  cases t with
  | none => exact k
  | nil => exact k
  | full => exact k
  | tok id =>
    obtain ⟨b, T, e, ha⟩ := k
    exact ⟨b, T, h.τ _ _ e, ha⟩

mutual
theorem Rep.mono {G G' : Gh} (h : G.Le G') : ∀ (a : AV) (V : Value), Rep G a V → Rep G' a V
  | .raw v, V, k => by simpa [Rep] using k
  | .list t xs, V, k => by
    simp only [Rep] at k ⊢
    obtain ⟨A, n, c, e, hn, hc, ht, hu, ad, ha, hr⟩ := k
    exact ⟨A, n, c, e, hn, hc, ht.mono h, hu, ad, ha, RepE.mono h ad 0 xs hr⟩
  | .ptr id off, V, k => by
    simp only [Rep] at k ⊢
    obtain ⟨b, e, hv⟩ := k
    exact ⟨b, h.σ _ _ e, hv⟩
  | .sptr cells, V, k => by
    simp only [Rep] at k ⊢
    obtain ⟨ad, e, hr⟩ := k
    exact ⟨ad, e, RepC.mono h ad 0 cells hr⟩
  | .arr id off len, V, k => by
    simp only [Rep] at k ⊢
    obtain ⟨b, e, hv⟩ := k
    exact ⟨b, h.σ _ _ e, hv⟩
  | .rowp t xs, V, k => by
    simp only [Rep] at k ⊢
    obtain ⟨A, n, c, e, hn, hc, ht, hu, ad, ha, hr⟩ := k
    exact ⟨A, n, c, e, hn, hc, ht.mono h, hu, ad, ha, RepE.mono h ad 0 xs hr⟩
  | .clo fn first caps, V, k => by
    simp only [Rep] at k ⊢
    obtain ⟨f, c, e, h1, h2⟩ := k
    exact ⟨f, c, e, RepL.mono h first f h1, RepL.mono h caps c h2⟩
  | .iface t v, V, k => by
    simp only [Rep] at k ⊢
    obtain ⟨u, e, hr⟩ := k
    exact ⟨u, e, Rep.mono h v u hr⟩
  | .agg cells, V, k => by
    simp only [Rep] at k ⊢
    obtain ⟨cs, e, hr⟩ := k
    exact ⟨cs, e, RepL.mono h cells cs hr⟩
  | .tup vs, V, k => by
    simp only [Rep] at k ⊢
    obtain ⟨cs, e, hr⟩ := k
    exact ⟨cs, e, RepL.mono h vs cs hr⟩
theorem RepL.mono {G G' : Gh} (h : G.Le G') : ∀ (as : List AV) (vs : List Value), RepL G as vs → RepL G' as vs
  | [], vs, k => by simpa [RepL] using k
  | a :: as, vs, k => by
    simp only [RepL] at k ⊢
    obtain ⟨u, us, e, h1, h2⟩ := k
    exact ⟨u, us, e, Rep.mono h a u h1, RepL.mono h as us h2⟩
theorem RepC.mono {G G' : Gh} (h : G.Le G') (ad : Addr) : ∀ (k : Nat) (as : List AV), RepC G ad k as → RepC G' ad k as
  | _, [], _ => by simp [RepC]
  | k, a :: as, hk => by
    simp only [RepC] at hk ⊢
    obtain ⟨⟨v, e, h1⟩, h2⟩ := hk
    exact ⟨⟨v, h.C _ _ e, Rep.mono h a v h1⟩, RepC.mono h ad (k + 1) as h2⟩
theorem RepE.mono {G G' : Gh} (h : G.Le G') (ad : Addr) : ∀ (k : Nat) (xs : List (List AV)), RepE G ad k xs → RepE G' ad k xs
  | _, [], _ => by simp [RepE]
  | k, x :: xs, hk => by
    simp only [RepE] at hk ⊢
    exact ⟨RepC.mono h ad k x hk.1, RepE.mono h ad (k + x.length) xs hk.2⟩
end

end Go.Proofs.YtkdendaohlnlcaaDoor.Av
