/- A call of a function that is known by a law of the library's kind: it answers a value, and nothing that was there turns. No condition. -/
import Derived.Test.YtkdendaohlnlcaaDoorAv15
namespace Go.Proofs.YtkdendaohlnlcaaDoor.Av
set_option linter.unusedVariables false
set_option linter.unusedSimpArgs false
open Go.RowKit
section
variable {P : Program} {w0 : Base}
theorem Sim.grow {G : Gh} {H : Hp} {w w' : World} (h : Sim w0 G H w) (hb : Below w.heap.size w w') : Sim w0 G H w' where
  c := fun a v e => by rw [hb.cell (h.lt_of_C e)]; exact h.c a v e
  v := fun i b e => by
    obtain ⟨h1, cs, T, h2, h3⟩ := h.v i b e
    exact ⟨h1, cs, T, by rw [hb.block b (h.lt_of_σ e)]; exact h2, h3⟩
  d := h.d
  t := fun i e => by
    rcases h.t i e with h1 | ⟨b, m, c, T, cs, h1, h2, h3, h4⟩
    · exact .inl h1
    · exact .inr ⟨b, m, c, T, cs, h1, h2, by rw [hb.block b (Array.getElem?_eq_some_iff.1 h3).1]; exact h3, h4⟩
  inj := h.inj
  tinj := h.tinj
  vt := h.vt
  below := h.below.trans (hb.mono h.base)
  g := h.g
  r := fun b L e => by
    obtain ⟨h1, o, h2, h3⟩ := h.r b L e
    exact ⟨h1, o, by rw [hb.block b (Array.getElem?_eq_some_iff.1 h2).1]; exact h2, h3⟩

/-- A call whose arguments are plain values and whose answer is a plain value. -/
theorem callAt_of_law {k : List Nat} {f : FuncId} {fn : Func} {c : Code} {H : Hp} (hf : P.funcs[f]? = some fn) (hb : fn.body = some c) (hn : (fn.name == "runtime.NumGoroutine") = false) {args : List AV} {v : Value}
    (h : ∀ (G : Gh) (w : World) (cargs : Array Value), (∀ a u, G.C a = some u → w.cell? a = some u) → RepL G args cargs.toList → Calls P f cargs w fun e w' => e = .returned v ∧ Below w.heap.size w w') : CallAt P w0 k f args H H (.raw v) :=
  .inl ⟨⟨fn, c, hf, hb, hn⟩, fun G w cargs hs _ hr R hR => (h G w cargs hs.c hr).mono fun e w' he => by
    obtain ⟨rfl, hbl⟩ := he
    exact hR G w' v (Gh.Le.refl G) (New.refl _ G) (hs.grow hbl) (by simp [Rep])⟩

/-- A call whose answer may lie in memory that the call has made. -/
theorem callAt_of_law' {k : List Nat} {f : FuncId} {fn : Func} {c : Code} {H : Hp} (hf : P.funcs[f]? = some fn) (hb : fn.body = some c) (hn : (fn.name == "runtime.NumGoroutine") = false) {args : List AV} {v : AV}
    (h : ∀ (G : Gh) (w : World) (cargs : Array Value), Sim w0 G H w → RepL G args cargs.toList → Calls P f cargs w fun e w' => ∃ V g, e = .returned V ∧ Below w.heap.size w w' ∧ (∀ a u, g a = some u → w'.cell? a = some u ∧ w.heap.size ≤ a.block) ∧ Rep (G.withC g) v V) : CallAt P w0 k f args H H v :=
  .inl ⟨⟨fn, c, hf, hb, hn⟩, fun G w cargs hs _ hr R hR => (h G w cargs hs hr).mono fun e w' he => by
    obtain ⟨V, g, rfl, hbl, hg, hv⟩ := he
    refine hR (G.withC g) w' V (G.le_withC g) (fun _ _ => ⟨rfl, rfl⟩) ((hs.grow hbl).withC g (fun a u e => (hg a u e).1) (fun i b e a ha => ?_) (fun i b m cc T hi e a ha _ => ?_)) hv
    · cases hga : g a with
      | none => rfl
      | some u =>
        have h1 := (hg a u hga).2
        have h2 := hs.lt_of_σ e
        omega
    · cases hga : g a with
      | none => rfl
      | some u =>
        have h1 := (hg a u hga).2
        rcases hs.t i hi with h2 | ⟨b', m', c', T', cs, h2, h3, h4, _⟩
        · rw [e] at h2; cases h2
        · rw [e] at h2
          simp only [Option.some.injEq, Prod.mk.injEq] at h2
          have := (Array.getElem?_eq_some_iff.1 h4).1
          omega⟩
end
end Go.Proofs.YtkdendaohlnlcaaDoor.Av
