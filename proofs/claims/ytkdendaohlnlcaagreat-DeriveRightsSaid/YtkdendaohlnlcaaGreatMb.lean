/- A part of the theory and of the contracts: Av13. No condition. -/
import Derived.Test.YtkdendaohlnlcaaGreatMa
import Derived.RangeFuncRecord
import Derived.LoopNIn
/- The same of whole bodies: sequences, tests, blocks, loops; and a call of a function out of its body. No condition. -/
namespace Go.Proofs.YtkdendaohlnlcaaGreat.Av
set_option linter.unusedVariables false
set_option linter.unusedSimpArgs false
open Go.RowKit

structure FS where
  tmps : List AV
  n : Nat
  H : Hp

inductive AEx where
  | normal
  | exit (id : Nat)
  | ret
  | panic (v : AV)

def AEx.conc (G : Gh) : AEx → Exit → Prop
  | .normal, X => X = .normal
  | .exit id, X => X = .exit id
  | .ret, X => X = .ret
  | .panic v, X => ∃ V, X = .panic [{ v := V, recovered := false }] ∧ Rep G v V
/-- Slots at an end: of a panic that came in whatever order nothing is told. -/
def RepT (G : Gh) : AEx → List AV → Array Value → Prop
  | .panic _, t, a => t = [] ∨ RepL G t a.toList
  | _, t, a => RepL G t a.toList

def FreshFrom (G : Gh) (p : List Nat) (n : Nat) : Prop := ∀ m, n ≤ m → Fresh G (m :: p)
def NewF (p : List Nat) (n : Nat) (G G' : Gh) : Prop := ∀ i : Id, (¬ ∃ m, n ≤ m ∧ (m :: p) <:+ i.key) → G'.σ i = G.σ i ∧ G'.τ i = G.τ i
theorem NewF.refl (p : List Nat) (n : Nat) (G : Gh) : NewF p n G G := fun _ _ => ⟨rfl, rfl⟩
theorem NewF.trans {p : List Nat} {n n' : Nat} {A B C : Gh} (h : NewF p n A B) (g : NewF p n' B C) (hn : n ≤ n') : NewF p n A C := fun i hi => by
  have h1 := h i hi
  have h2 := g i fun ⟨m, hm, hs⟩ => hi ⟨m, by omega, hs⟩
  exact ⟨h2.1.trans h1.1, h2.2.trans h1.2⟩
theorem NewF.up {p : List Nat} {n : Nat} {A B : Gh} (h : NewF p n A B) : New p A B := fun i hi => h i fun ⟨m, _, hs⟩ => hi ((List.suffix_cons m p).trans hs)
theorem New.f {p : List Nat} {n : Nat} {A B : Gh} (h : New (n :: p) A B) : NewF p n A B := fun i hi => h i fun hs => hi ⟨n, Nat.le_refl _, hs⟩
theorem FreshFrom.next {p : List Nat} {n : Nat} {A B : Gh} (h : FreshFrom A p n) (hn : New (n :: p) A B) : FreshFrom B p (n + 1) := fun m hm => (h m (by omega)).other hn (by omega)

/-- Deferred calls of an activation: the marks of its loops over functions alone, with nothing behind them. -/
def mkMark (D : Nat) : Deferred := { target := .collected D, args := #[] }
structure D0 where
  g : Gh
  ds : List Deferred
def DefOk (G0 : D0) (G : Gh) (ds : List Deferred) : Prop := G0.g.Le G ∧ ∃ Ds : List Nat, ds = Ds.map mkMark ++ G0.ds ∧ Ds.Nodup ∧ ∀ D ∈ Ds, G.ρ D = some [(none, .deferred (some []))] ∧ G0.g.ρ D = none
theorem DefOk.nil (G : Gh) (ds : List Deferred) : DefOk ⟨G, ds⟩ G ds := ⟨Gh.Le.refl G, [], rfl, List.nodup_nil, by simp⟩
theorem DefOk.later {G0 : D0} {G G' : Gh} {ds : List Deferred} (h : DefOk G0 G ds) (hl : G.Le G') : DefOk G0 G' ds := by
  obtain ⟨h0, Ds, h1, h2, h3⟩ := h
  exact ⟨h0.trans hl, Ds, h1, h2, fun D hD => ⟨hl.ρ _ _ (h3 D hD).1, (h3 D hD).2⟩⟩

/-- What the model does of a state's text: whatever may come of it by R is to be borne. -/
def Bears (P : Program) (w0 : Base) (p : List Nat) (s : FS) (R : AEx → FS → Prop) (G0 : D0) (G : Gh) (Qc : Exit → Act → World → Prop) : Prop :=
  ∀ x s' G' w' a', R x s' → G.Le G' → NewF p s.n G G' → Sim w0 G' s'.H w' → RepT G' x s'.tmps a'.tmps → DefOk G0 G' a'.defers → FreshFrom G' p s'.n → s.n ≤ s'.n → ∀ X, x.conc G' X → Qc X a' w'

def CodeOk (P : Program) (w0 : Base) (ro : Option Nat) (p : List Nat) (c : Code) (s : FS) (R : AEx → FS → Prop) : Prop :=
  ∀ (G0 : D0) (G : Gh) (w : World) (a : Act), Sim w0 G s.H w → RepL G s.tmps a.tmps.toList → FreshFrom G p s.n → DefOk G0 G a.defers → ∀ Qc, Bears P w0 p s R G0 G Qc → c.wpIn (fz ro) 0 P Qc a w

/-- A loop's text, done at most n times. -/
def LoopN (P : Program) (w0 : Base) (ro : Option Nat) (p : List Nat) (n : Nat) (c : Code) (s : FS) (R : AEx → FS → Prop) : Prop :=
  ∀ (G0 : D0) (G : Gh) (w : World) (a : Act), Sim w0 G s.H w → RepL G s.tmps a.tmps.toList → FreshFrom G p s.n → DefOk G0 G a.defers → ∀ Qc, Bears P w0 p s R G0 G Qc → Code.roundsIn (fz ro) 0 P c Qc n a w

/-- The very end. -/
def eqR (x : AEx) (s' : FS) : AEx → FS → Prop := fun y t => y = x ∧ t = s'
/-- A text's one end, of which R holds. -/
def DetOk (P : Program) (w0 : Base) (ro : Option Nat) (p : List Nat) (c : Code) (s : FS) (R : AEx → FS → Prop) : Prop := ∃ x s', R x s' ∧ CodeOk P w0 ro p c s (eqR x s')
def LoopOk (P : Program) (w0 : Base) (ro : Option Nat) (p : List Nat) (c : Code) (s : FS) (R : AEx → FS → Prop) : Prop := ∃ x s', R x s' ∧ ∃ n, LoopN P w0 ro p n c s (eqR x s')

def thenR (K : FS → Prop) (R : AEx → FS → Prop) : AEx → FS → Prop
  | .normal, s => K s
  | x, s => R x s
def blockR (id : Nat) (R : AEx → FS → Prop) : AEx → FS → Prop
  | .exit id', s => if id' = id then R .normal s else R (.exit id') s
  | x, s => R x s

/-- An operation that panics in an order that is drawn: what stands behind it comes behind it in every order; what may come behind it, and stands ahead of it, leaves memory alone. -/
def panOk (ops : Array Oper) (j : Nat) (evs : List (Nat × Ev)) : Bool :=
  ((List.range ops.size).all fun i => decide (i ≤ j) || (beforeB ops i).testBit j) && evs.all fun x => (beforeB ops j).testBit x.1 || x.2.still

/-- Does a loop over a string's characters begin there? -/
def isRangeO (o : Oper) : Bool := match o.op with
  | .range _ _ => true
  | _ => false
def lastRange : List Oper → Bool
  | [] => false
  | [o] => isRangeO o
  | _ :: o :: l => lastRange (o :: l)
def isStr : Code → Bool
  | .region _ ops _ => lastRange ops.toList
  | _ => false

def vc (P : Program) (tab : Tab) (Sp : Spec) (w0 : Base) (ro : Option Nat) (mb : List Tmp) (p : List Nat) : Code → FS → (AEx → FS → Prop) → Prop
  | .skip, s, R => R .normal s
  | .label _, s, R => R .normal s
  | .region _ ops draw, s, R =>
    if draw then drawOk ops = true ∧ vcDraw P tab Sp w0 mb ops (s.n :: p) ops.toList.zipIdx ⟨s.tmps, s.H⟩ (fun evs s' => evs.Pairwise (fun x y => (beforeB ops y.1).testBit x.1 = true ∨ compat x.2 y.2) ∧ R .normal ⟨s'.tmps, s.n + 1, s'.H⟩) fun j evs H' v => panOk ops j evs = true ∧ evs.Pairwise (fun x y => (beforeB ops y.1).testBit x.1 = true ∨ compat x.2 y.2) ∧ R (.panic v) ⟨[], s.n + 1, H'⟩
    else vcSeq P tab Sp w0 mb ops (s.n :: p) (fun s' v => R (.panic v) ⟨s'.tmps, s.n + 1, s'.H⟩) ops.toList.zipIdx ⟨s.tmps, s.H⟩ fun s' => R .normal ⟨s'.tmps, s.n + 1, s'.H⟩
  | .seq a b, s, R => if isStr a = true then DetOk P w0 ro p (.seq a b) s R else vc P tab Sp w0 ro mb p a s (thenR (fun s' => vc P tab Sp w0 ro mb p b s' R) R)
  | .cond c a b, s, R => match evA s.tmps c with
    | .raw (.bool t) => (t = true → vc P tab Sp w0 ro mb p a s R) ∧ (t = false → vc P tab Sp w0 ro mb p b s R)
    | _ => False
  | .block id c, s, R => vc P tab Sp w0 ro mb p c s (blockR id R)
  | .loop c, s, R => LoopOk P w0 ro p c s R
  | .exit id, s, R => R (.exit id) s
  | .scope c, s, R => ro = none ∧ vc P tab Sp w0 ro mb p c s R
  | .ret, s, R => R .ret s
  | .rangeFunc f ps as b, s, R => DetOk P w0 ro p (.rangeFunc f ps as b) s R
  | .goto _, _, _ => False
  | .refuse _, _, _ => False

section
variable {P : Program} {tab : Tab} {Sp : Spec} {w0 : Base} {ro : Option Nat} {mb : List Tmp} {p k : List Nat}

theorem Bears.here {s : FS} {R : AEx → FS → Prop} {G0 : D0} {G : Gh} {Qc : Exit → Act → World → Prop} (h : Bears P w0 p s R G0 G Qc) {x : AEx} (hx : R x s) {w : World} {a : Act} (hs : Sim w0 G s.H w) (hr : RepL G s.tmps a.tmps.toList) (hf : FreshFrom G p s.n) (hd : DefOk G0 G a.defers) {X : Exit} (hX : x.conc G X) : Qc X a w :=
  h x s G w a hx (Gh.Le.refl G) (NewF.refl _ _ _) hs (by cases x <;> first | exact hr | exact .inr hr) hd hf (Nat.le_refl _) X hX

theorem Bears.later {s s1 : FS} {R R1 : AEx → FS → Prop} {G0 : D0} {G G1 : Gh} {Qc : Exit → Act → World → Prop} (h : Bears P w0 p s R G0 G Qc) (hl : G.Le G1) (hn : NewF p s.n G G1) (hle : s.n ≤ s1.n) (hR : ∀ x s', R1 x s' → R x s') : Bears P w0 p s1 R1 G0 G1 Qc :=
  fun x s' G' w' a' hx hl' hn' hs hr hd hf hle' X hX => h x s' G' w' a' (hR x s' hx) (hl.trans hl') (hn.trans hn' hle) hs hr hd hf (by omega) X hX

theorem vc_region (hT : TabOk P tab) (hS : SpecOk P w0 Sp) (hm : P.follows .mixedOrders = true) {id : Nat} {ops : Array Oper} {draw : Bool} {s : FS} {R : AEx → FS → Prop} (h : vc P tab Sp w0 ro mb p (.region id ops draw) s R) : DetOk P w0 ro p (.region id ops draw) s R := by
  have split : ∀ {tr : List TE} {pi : Nat} {po : Oper} {rest : List (Nat × Oper)}, ops.toList.zipIdx.map (fun x => (x.2, x.1)) = tr.map (fun x => (x.i, x.o)) ++ (pi, po) :: rest → pi = tr.length ∧ ops[pi]? = some po ∧ tr.map (fun x => (x.i, x.o)) = (ops.toList.zipIdx.take pi).map (fun x => (x.2, x.1)) := fun {tr pi po rest} e => by
    have hm : (pi, po) ∈ ops.toList.zipIdx.map (fun x => (x.2, x.1)) := by rw [e]; simp
    have h1 : ops[pi]? = some po := by
      obtain ⟨y, hy, he⟩ := List.mem_map.1 hm
      simp only [Prod.mk.injEq] at he
      have := List.mem_zipIdx_iff_getElem?.1 hy
      rw [← he.1, ← he.2]
      simpa using this
    have h2 : pi = tr.length := by
      have h3 := congrArg (fun l => (l.map Prod.fst)[tr.length]?) e
      simp only [List.map_append, List.map_map, List.map_cons] at h3
      rw [List.getElem?_append_right (by simp)] at h3
      have e2 : (Prod.fst ∘ fun x : Oper × Nat => (x.2, x.1)) = Prod.snd := rfl
      rw [e2, List.zipIdx_map_snd] at h3
      simp only [List.length_map, Nat.sub_self, List.getElem?_cons_zero, List.getElem?_range'] at h3
      have hl := congrArg List.length e
      simp only [List.length_map, List.length_zipIdx, List.length_append, List.length_cons] at hl
      rw [List.getElem?_range' (by omega)] at h3
      simp at h3
      omega
    refine ⟨h2, h1, ?_⟩
    rw [List.map_take, e, h2, List.take_left' (by simp)]
  cases draw with
  | true =>
    simp only [vc, if_true] at h
    obtain ⟨hdr, h⟩ := h
    rcases vcDraw_sound hT hS _ _ _ _ h with ⟨tr, s', h1, h2, h3, h4⟩ | ⟨tr, s', pi, po, rest, H', v, h1, h2, h3, h4, h5, h6⟩
    · refine ⟨_, _, h4, fun G0 G w a hs hr hf hd Qc hB => ?_⟩
      have hfr : ∀ i, Fresh G (i :: s.n :: p) := fun i j hj => hf s.n (Nat.le_refl _) j ((List.suffix_cons i _).trans hj)
      exact wp_drawn hm hdr h1 h2 (louds_pairs (R := fun i j => (beforeB ops j).testBit i = true) tr h3) hs hr hfr (fun G' a' w' hl hn hs' hr' hd' => hB .normal ⟨s'.tmps, s.n + 1, s'.H⟩ G' w' a' ⟨rfl, rfl⟩ hl hn.f hs' hr' (by rw [hd']; exact hd.later hl) (hf.next hn) (Nat.le_succ _) _ rfl) ro
    · obtain ⟨rfl, hpo, htk⟩ := split h2
      refine ⟨_, _, h6, fun G0 G w a hs hr hf hd Qc hB => ?_⟩
      have hfr : ∀ i, Fresh G (i :: s.n :: p) := fun i j hj => hf s.n (Nat.le_refl _) j ((List.suffix_cons i _).trans hj)
      simp only [panOk, Bool.and_eq_true, List.all_eq_true, List.mem_range, Bool.or_eq_true, decide_eq_true_eq] at h4
      refine wp_drawnP hm hdr h1 htk hpo h3 (louds_pairs (R := fun i j => (beforeB ops j).testBit i = true) tr h5) (fun x hx => ?_) (fun i hi hil => ?_) hs hr hfr (fun G' a' w' V hl hn hs' _ hd' hv => hB (.panic v) ⟨[], s.n + 1, H'⟩ G' w' a' ⟨rfl, rfl⟩ hl hn.f hs' (.inl rfl) (by rw [hd']; exact hd.later hl) (hf.next hn) (Nat.le_succ _) _ ⟨V, rfl, hv⟩) ro
      · cases hxl : x.ev.loud with
        | false =>
          generalize x.ev = ex at hxl
          cases ex <;> first | exact .inr rfl | exact nomatch (show true = false from hxl)
        | true => exact h4.2 _ (louds_mem tr x hx hxl)
      · rcases h4.1 i hil with h | h
        · omega
        · exact h
  | false =>
    simp only [vc, Bool.false_eq_true, if_false] at h
    rcases vcSeq_sound hT hS _ _ _ h with ⟨tr, s', h1, h2, h3⟩ | ⟨tr, s', pi, po, rest, H', v, h1, h2, h3, h4⟩
    · refine ⟨_, _, h3, fun G0 G w a hs hr hf hd Qc hB => ?_⟩
      have hfr : ∀ i, Fresh G (i :: s.n :: p) := fun i j hj => hf s.n (Nat.le_refl _) j ((List.suffix_cons i _).trans hj)
      have hidx : tr.map (·.i) = List.range ops.size := by
        have h5 := congrArg (List.map Prod.fst) h2
        rw [List.map_map, List.map_map] at h5
        have e1 : (Prod.fst ∘ fun x : TE => (x.i, x.o)) = fun x : TE => x.i := rfl
        have e2 : (Prod.fst ∘ fun x : Oper × Nat => (x.2, x.1)) = Prod.snd := rfl
        rw [e1, e2, List.zipIdx_map_snd] at h5
        rw [h5, List.range_eq_range']
        simp
      have hget : ∀ x ∈ tr, ops[x.i]? = some x.o := fun x hx => by
        have : (x.i, x.o) ∈ ops.toList.zipIdx.map (fun x => (x.2, x.1)) := by rw [← h2]; exact List.mem_map_of_mem (f := fun x => (x.i, x.o)) hx
        obtain ⟨y, hy, he⟩ := List.mem_map.1 this
        simp only [Prod.mk.injEq] at he
        have := List.mem_zipIdx_iff_getElem?.1 hy
        rw [← he.1, ← he.2]
        simpa using this
      refine wpIn_region ?_
      have := run_list (Q := Qc) tr _ _ h1 hget (by rw [hidx]; exact List.nodup_range) G a w hs hr (fun x _ => hfr x.i) (fun G' a' w' hl hn hs' hr' hd' => hB .normal ⟨s'.tmps, s.n + 1, s'.H⟩ G' w' a' ⟨rfl, rfl⟩ hl hn.f hs' hr' (by rw [hd']; exact hd.later hl) (hf.next hn) (Nat.le_succ _) _ rfl) ro
      rwa [hidx] at this
    · obtain ⟨hpi, hpo, htk⟩ := split h2
      refine ⟨_, _, h4, fun G0 G w a hs hr hf hd Qc hB => ?_⟩
      have hfr : ∀ i, Fresh G (i :: s.n :: p) := fun i j hj => hf s.n (Nat.le_refl _) j ((List.suffix_cons i _).trans hj)
      have hpl : pi < ops.size := (Array.getElem?_eq_some_iff.1 hpo).1
      have hget : ∀ x ∈ tr, ops[x.i]? = some x.o := fun x hx => by
        have : (x.i, x.o) ∈ (ops.toList.zipIdx.take pi).map (fun x => (x.2, x.1)) := by rw [← htk]; exact List.mem_map_of_mem (f := fun x => (x.i, x.o)) hx
        obtain ⟨y, hy, he⟩ := List.mem_map.1 this
        simp only [Prod.mk.injEq] at he
        have := List.mem_zipIdx_iff_getElem?.1 (List.mem_of_mem_take hy)
        rw [← he.1, ← he.2]
        simpa using this
      have hidx : tr.map (·.i) = List.range pi := by
        have h5 := congrArg (List.map Prod.fst) htk
        rw [List.map_map, List.map_map] at h5
        have e1 : (Prod.fst ∘ fun x : TE => (x.i, x.o)) = fun x : TE => x.i := rfl
        have e2 : (Prod.fst ∘ fun x : Oper × Nat => (x.2, x.1)) = Prod.snd := rfl
        rw [e1, e2, List.map_take, List.zipIdx_map_snd] at h5
        rw [h5, ← List.range_eq_range', List.take_range]
        congr 1
        simp
        omega
      refine wpIn_region ?_
      have := run_pan (Q := Qc) (js := (List.range' (pi + 1) (ops.size - pi - 1))) tr _ _ h1 h3 hget hpo (by rw [hidx]; exact List.nodup_range) (by rw [hidx]; simp) G a w hs hr hfr (fun G' a' w' V hl hn hs' hr' hd' hv => hB (.panic v) ⟨s'.tmps, s.n + 1, H'⟩ G' w' a' ⟨rfl, rfl⟩ hl hn.f hs' (.inr hr') (by rw [hd']; exact hd.later hl) (hf.next hn) (Nat.le_succ _) _ ⟨V, rfl, hv⟩) ro
      have e : tr.map (·.i) ++ pi :: List.range' (pi + 1) (ops.size - pi - 1) = List.range ops.size := by
        rw [hidx, List.range_eq_range', List.range_eq_range', show pi :: List.range' (pi + 1) (ops.size - pi - 1) = List.range' pi (ops.size - pi) by
          rw [show ops.size - pi = (ops.size - pi - 1) + 1 by omega, List.range'_succ]
          simp]
        rw [show List.range' pi (ops.size - pi) = List.range' (0 + 1 * pi) (ops.size - pi) by simp, List.range'_append]
        congr 1
        omega
      rwa [e] at this

/-- One round of a loop, and those behind it. -/
theorem loop_step {n : Nat} {c : Code} {s : FS} {R : AEx → FS → Prop} (h : CodeOk P w0 ro p c s (thenR (fun s' => LoopN P w0 ro p n c s' R) R)) : LoopN P w0 ro p (n + 1) c s R := by
  intro G0 G w a hs hr hf hd Qc hB
  rw [roundsIn_succ]
  refine h G0 G w a hs hr hf hd _ fun x s' G' w' a' hx hl hn hs' hr' hd' hf' hle X hX => ?_
  cases x with
  | normal => cases hX; exact hx G0 G' w' a' hs' hr' hf' hd' Qc (hB.later hl hn hle fun _ _ h => h)
  | exit id => cases hX; exact hB (.exit id) s' G' w' a' hx hl hn hs' hr' hd' hf' hle _ rfl
  | ret => cases hX; exact hB .ret s' G' w' a' hx hl hn hs' hr' hd' hf' hle _ rfl
  | panic v => obtain ⟨V, rfl, hV⟩ := hX; exact hB (.panic v) s' G' w' a' hx hl hn hs' hr' hd' hf' hle _ ⟨V, rfl, hV⟩

theorem CodeOk.seq {a b : Code} {s : FS} {R : AEx → FS → Prop} (h : CodeOk P w0 ro p a s (thenR (fun s' => CodeOk P w0 ro p b s' R) R)) : CodeOk P w0 ro p (.seq a b) s R := fun G0 G w act hs hr hf hd Qc hB => by
  refine wpIn_seq (h G0 G w act hs hr hf hd _ fun x s' G' w' a' hx hl hn hs' hr' hd' hf' hle X hX => ?_)
  cases x with
  | normal => cases hX; exact hx G0 G' w' a' hs' hr' hf' hd' Qc (hB.later hl hn hle fun _ _ h => h)
  | exit id => cases hX; exact hB (.exit id) s' G' w' a' hx hl hn hs' hr' hd' hf' hle _ rfl
  | ret => cases hX; exact hB .ret s' G' w' a' hx hl hn hs' hr' hd' hf' hle _ rfl
  | panic v => obtain ⟨V, rfl, hV⟩ := hX; exact hB (.panic v) s' G' w' a' hx hl hn hs' hr' hd' hf' hle _ ⟨V, rfl, hV⟩
theorem CodeOk.block {id : Nat} {c : Code} {s : FS} {R : AEx → FS → Prop} (h : CodeOk P w0 ro p c s (blockR id R)) : CodeOk P w0 ro p (.block id c) s R := fun G0 G w a hs hr hf hd Qc hB => by
  refine wpIn_block (h G0 G w a hs hr hf hd _ fun x s' G' w' a' hx hl hn hs' hr' hd' hf' hle X hX => ?_)
  cases x with
  | normal => cases hX; exact hB .normal s' G' w' a' hx hl hn hs' hr' hd' hf' hle _ rfl
  | ret => cases hX; exact hB .ret s' G' w' a' hx hl hn hs' hr' hd' hf' hle _ rfl
  | panic v => obtain ⟨V, rfl, hV⟩ := hX; exact hB (.panic v) s' G' w' a' hx hl hn hs' hr' hd' hf' hle _ ⟨V, rfl, hV⟩
  | exit id' =>
    cases hX
    simp only [blockR] at hx
    simp only [Exit.inBlock]
    split at hx
    · rename_i he
      rw [if_pos he]
      exact hB .normal s' G' w' a' hx hl hn hs' hr' hd' hf' hle _ rfl
    · rename_i he
      rw [if_neg he]
      exact hB (.exit id') s' G' w' a' hx hl hn hs' hr' hd' hf' hle _ rfl
theorem LoopN.mono {n : Nat} {c : Code} {s : FS} {R R' : AEx → FS → Prop} (h : LoopN P w0 ro p n c s R) (hR : ∀ x s', R x s' → R' x s') : LoopN P w0 ro p n c s R' :=
  fun G0 G w a hs hr hf hd Qc hB => h G0 G w a hs hr hf hd Qc (hB.later (Gh.Le.refl G) (NewF.refl _ _ _) (Nat.le_refl _) hR)
theorem CodeOk.mono {c : Code} {s : FS} {R R' : AEx → FS → Prop} (h : CodeOk P w0 ro p c s R) (hR : ∀ x s', R x s' → R' x s') : CodeOk P w0 ro p c s R' :=
  fun G0 G w a hs hr hf hd Qc hB => h G0 G w a hs hr hf hd Qc (hB.later (Gh.Le.refl G) (NewF.refl _ _ _) (Nat.le_refl _) hR)

theorem vc_det (hT : TabOk P tab) (hS : SpecOk P w0 Sp) (hm : P.follows .mixedOrders = true) : ∀ (c : Code) (s : FS) (R : AEx → FS → Prop), vc P tab Sp w0 ro mb p c s R → DetOk P w0 ro p c s R
  | .skip, s, R, h => ⟨.normal, s, h, fun G0 G w a hs hr hf hd Qc hB => wpIn_skip (hB.here (x := .normal) ⟨rfl, rfl⟩ hs hr hf hd rfl)⟩
  | .label l, s, R, h => ⟨.normal, s, h, fun G0 G w a hs hr hf hd Qc hB => wpIn_label (hB.here (x := .normal) ⟨rfl, rfl⟩ hs hr hf hd rfl)⟩
  | .region id ops draw, s, R, h => vc_region hT hS hm h
  | .seq c d, s, R, h => by
    unfold vc at h
    split at h
    · exact h
    obtain ⟨x, s1, h1, h2⟩ := vc_det hT hS hm c s _ h
    cases x with
    | normal =>
      obtain ⟨y, s2, h3, h4⟩ := vc_det hT hS hm d s1 R h1
      refine ⟨y, s2, h3, CodeOk.seq (h2.mono fun z t hz => ?_)⟩
      obtain ⟨rfl, rfl⟩ := hz
      exact h4
    | exit id =>
      refine ⟨.exit id, s1, h1, CodeOk.seq (h2.mono fun z t hz => ?_)⟩
      obtain ⟨rfl, rfl⟩ := hz
      exact ⟨rfl, rfl⟩
    | ret =>
      refine ⟨.ret, s1, h1, CodeOk.seq (h2.mono fun z t hz => ?_)⟩
      obtain ⟨rfl, rfl⟩ := hz
      exact ⟨rfl, rfl⟩
    | panic v =>
      refine ⟨.panic v, s1, h1, CodeOk.seq (h2.mono fun z t hz => ?_)⟩
      obtain ⟨rfl, rfl⟩ := hz
      exact ⟨rfl, rfl⟩
  | .cond c d e, s, R, h => by
    simp only [vc] at h
    split at h
    · rename_i t ht
      cases t with
      | true =>
        obtain ⟨x, s1, h1, h2⟩ := vc_det hT hS hm d s R (h.1 rfl)
        refine ⟨x, s1, h1, fun G0 G w a hs hr hf hd Qc hB => ?_⟩
        have hc := rep_eval hr c
        rw [ht] at hc
        simp only [Rep] at hc
        refine wpIn_cond hc ?_
        exact h2 G0 G w a hs hr hf hd Qc hB
      | false =>
        obtain ⟨x, s1, h1, h2⟩ := vc_det hT hS hm e s R (h.2 rfl)
        refine ⟨x, s1, h1, fun G0 G w a hs hr hf hd Qc hB => ?_⟩
        have hc := rep_eval hr c
        rw [ht] at hc
        simp only [Rep] at hc
        refine wpIn_cond hc ?_
        exact h2 G0 G w a hs hr hf hd Qc hB
    · exact h.elim
  | .block id c, s, R, h => by
    obtain ⟨x, s1, h1, h2⟩ := vc_det hT hS hm c s _ h
    cases x with
    | normal =>
      refine ⟨.normal, s1, h1, CodeOk.block (h2.mono fun z t hz => ?_)⟩
      obtain ⟨rfl, rfl⟩ := hz
      exact ⟨rfl, rfl⟩
    | ret =>
      refine ⟨.ret, s1, h1, CodeOk.block (h2.mono fun z t hz => ?_)⟩
      obtain ⟨rfl, rfl⟩ := hz
      exact ⟨rfl, rfl⟩
    | panic v =>
      refine ⟨.panic v, s1, h1, CodeOk.block (h2.mono fun z t hz => ?_)⟩
      obtain ⟨rfl, rfl⟩ := hz
      exact ⟨rfl, rfl⟩
    | exit id' =>
      simp only [blockR] at h1
      split at h1
      · rename_i he
        refine ⟨.normal, s1, h1, CodeOk.block (h2.mono fun z t hz => ?_)⟩
        obtain ⟨rfl, rfl⟩ := hz
        simp only [blockR, if_pos he]
        exact ⟨rfl, rfl⟩
      · rename_i he
        refine ⟨.exit id', s1, h1, CodeOk.block (h2.mono fun z t hz => ?_)⟩
        obtain ⟨rfl, rfl⟩ := hz
        simp only [blockR, if_neg he]
        exact ⟨rfl, rfl⟩
  | .loop c, s, R, h => by
    obtain ⟨x, s1, h1, n, h2⟩ := h
    exact ⟨x, s1, h1, fun G0 G w a hs hr hf hd Qc hB => wpIn_loop_rounds n (h2 G0 G w a hs hr hf hd Qc hB)⟩
  | .exit id, s, R, h => ⟨.exit id, s, h, fun G0 G w a hs hr hf hd Qc hB => wpIn_exit (hB.here (x := .exit id) ⟨rfl, rfl⟩ hs hr hf hd rfl)⟩
  | .scope c, s, R, h => by
    obtain ⟨x, s1, h1, h2⟩ := vc_det hT hS hm c s R h.2
    refine ⟨x, s1, h1, fun G0 G w a hs hr hf hd Qc hB => ?_⟩
    rw [h.1] at h2 ⊢
    refine (wpIn_wide (n := 0)).2 (wp_scope_straight ((wpIn_wide (n := 0)).1 (h2 G0 G w a hs hr hf hd _ fun x s' G' w' a' hx hl hn hs' hr' hd' hf' hle X hX => ?_)))
    cases x with
    | normal => cases hX; exact hB .normal s' G' w' a' hx hl hn hs' hr' hd' hf' hle _ rfl
    | ret => cases hX; exact hB .ret s' G' w' a' hx hl hn hs' hr' hd' hf' hle _ rfl
    | exit id => cases hX; exact hB (.exit id) s' G' w' a' hx hl hn hs' hr' hd' hf' hle _ rfl
    | panic v => obtain ⟨V, rfl, hV⟩ := hX; exact hB (.panic v) s' G' w' a' hx hl hn hs' hr' hd' hf' hle _ ⟨V, rfl, hV⟩
  | .ret, s, R, h => ⟨.ret, s, h, fun G0 G w a hs hr hf hd Qc hB => wpIn_ret (hB.here (x := .ret) ⟨rfl, rfl⟩ hs hr hf hd rfl)⟩
  | .rangeFunc f ps as b, s, R, h => h
  | .goto l, s, R, h => h.elim
  | .refuse m, s, R, h => h.elim

theorem DetOk.code {c : Code} {s : FS} {R : AEx → FS → Prop} (h : DetOk P w0 ro p c s R) : CodeOk P w0 ro p c s R := by
  obtain ⟨x, s', h1, h2⟩ := h
  exact h2.mono fun y t hy => by
    obtain ⟨rfl, rfl⟩ := hy
    exact h1
theorem vc_sound (hT : TabOk P tab) (hS : SpecOk P w0 Sp) (hm : P.follows .mixedOrders = true) (c : Code) (s : FS) (R : AEx → FS → Prop) (h : vc P tab Sp w0 ro mb p c s R) : CodeOk P w0 ro p c s R := (vc_det hT hS hm c s R h).code

/-- A value may be said with less. -/
def Weak (v u : AV) : Prop := ∀ (G : Gh) (V : Value), Rep G v V → Rep G u V
theorem Weak.refl (v : AV) : Weak v v := fun _ _ h => h
theorem Weak.strip (v : AV) : Weak v (strip v) := fun _ _ h => h.strip
def WeakL : List AV → List AV → Prop
  | [], us => us = []
  | v :: vs, us => ∃ u us', us = u :: us' ∧ Weak v u ∧ WeakL vs us'
theorem WeakL.rep {G : Gh} : ∀ {vs us : List AV} {V : List Value}, WeakL vs us → RepL G vs V → RepL G us V
  | [], us, V, h, hr => by simp only [WeakL] at h; subst h; exact hr
  | v :: vs, us, V, h, hr => by
    simp only [WeakL] at h
    obtain ⟨u, us', rfl, h1, h2⟩ := h
    simp only [RepL] at hr ⊢
    obtain ⟨x, xs, rfl, h3, h4⟩ := hr
    exact ⟨x, xs, rfl, h1 G x h3, WeakL.rep h2 h4⟩
theorem WeakL.strip : ∀ vs : List AV, WeakL vs (vs.map Av.strip)
  | [] => by simp [WeakL]
  | v :: vs => by simp only [List.map_cons, WeakL]; exact ⟨_, _, rfl, Weak.strip v, WeakL.strip vs⟩
theorem WeakL.agg {vs us : List AV} (h : WeakL vs us) : Weak (.agg vs) (.agg us) := fun G V hr => by
  simp only [Rep] at hr ⊢
  obtain ⟨cs, e, hc⟩ := hr
  exact ⟨cs, e, h.rep hc⟩
theorem WeakL.tup {vs us : List AV} (h : WeakL vs us) : Weak (.tup vs) (.tup us) := fun G V hr => by
  simp only [Rep] at hr ⊢
  obtain ⟨cs, e, hc⟩ := hr
  exact ⟨cs, e, h.rep hc⟩

/-- One result, as it is read at the end. -/
def resOne (tab : Tab) (s : FS) : ResultVar → Option AV
  | .tmp t => some (s.tmps.getD t AV.undef)
  | .cell a t => match s.tmps.getD a AV.undef with
    | .ptr id off => match tab t, s.H id with
      | some ti, some (.cells c) => if off + ti.size ≤ c.length ∧ 0 < ti.size then some (readA ti c off) else none
      | _, _ => none
    | .sptr cells => match tab t with
      | some ti => if ti.size ≤ cells.length ∧ 0 < ti.size then some (partA ti cells 0) else none
      | none => none
    | _ => none
def resAll (tab : Tab) (s : FS) : List ResultVar → Option (List AV)
  | [] => some []
  | r :: rs => match resOne tab s r, resAll tab s rs with
    | some v, some vs => some (v :: vs)
    | _, _ => none
def resA (tab : Tab) (rs : List ResultVar) (s : FS) : Option AV :=
  match resAll tab s rs with
  | some [v] => some v
  | some vs => some (.tup vs)
  | none => none

def resSem (tmps : Array Value) (r : ResultVar) : Sem Value := match r with
  | .tmp t => pure (tmps.getD t Go.undef)
  | .cell a t => do loadVar t (← asAddr (tmps.getD a Go.undef))
theorem results_eq (fn : Func) (tmps : Array Value) : results fn tmps = (do let vs ← fn.results.mapM (resSem tmps); pure (if h : vs.size = 1 then vs[0] else .tuple vs)) := rfl

theorem resOne_ok (hT : TabOk P tab) {s : FS} {r : ResultVar} {v : AV} (e : resOne tab s r = some v) {G : Gh} {w : World} {a : Act} (hs : Sim w0 G s.H w) (hr : RepL G s.tmps a.tmps.toList) :
    ∃ V, (resSem a.tmps r).run P w = .ok V w ∧ Rep G v V := by
  cases r with
  | tmp t =>
    simp only [resOne, Option.some.injEq] at e
    subst e
    exact ⟨_, rfl, rep_eval hr (.tmp t)⟩
  | cell x t =>
    simp only [resOne] at e
    have hx := rep_eval hr (.tmp x)
    simp only [evA, Act.eval] at hx
    split at e
    · rename_i id off hxe
      split at e
      · rename_i ti c hti hc
        split at e <;> cases e
        rename_i hl
        -- by the operation that reads a variable
        have hop := OpOk.load (P := P) (w0 := w0) (k := []) hT (o := { dst := none, op := .load t (.tmp x), type := 0, pos := "", after := #[], guard := none }) (ρ := evA s.tmps) (t := t) (x := .tmp x) (id := id) (off := off) (c := c) rfl (by simpa [evA] using hxe) hti hl.1 hl.2 s.H hc
        rw [hxe] at hx
        simp only [Rep] at hx
        obtain ⟨b, hb, hx⟩ := hx
        obtain ⟨_, cs, T, h2, h3, h4, h5⟩ := hs.v id b hb
        have hrc := h5 c hc
        have hlen := hrc.size
        have hdrop := hrc.drop off
        have hcell : ∀ j v, (cs.toList.drop off)[j]? = some v → w.cell? ((⟨b, off, none⟩ : Addr).add j) = some v := fun j v hj => by
          have hadd : (⟨b, off, none⟩ : Addr).add j = ⟨b, off + j, none⟩ := by unfold Addr.add; split <;> simp_all
          rw [hadd]
          simp only [World.cell?, h2]
          simpa [List.getElem?_drop] using hj
        have hrun : ∃ V, (loadVar t ⟨b, off, none⟩).run P w = .ok V w ∧ Rep G (readA ti c off) V := by
          unfold loadVar readA partA
          simp only [Sem.run_bind, hT.isAgg hti w, Result.andThen_ok]
          cases hA : ti.isAgg with
          | true =>
            have hload := run_loadCells_list (P := P) w ⟨b, off, none⟩ ((cs.toList.drop off).take ti.size) (fun j v hj => hcell j v (by
              rw [List.getElem?_take] at hj
              split at hj
              · exact hj
              · cases hj))
            rw [List.length_take, List.length_drop, Array.length_toList, Nat.min_eq_left (by omega)] at hload
            refine ⟨.agg ((cs.toList.drop off).take ti.size).toArray, by simp [hT.sizeOf hti w, hload], ?_⟩
            simp only [if_true, Rep, List.drop_zero]
            exact ⟨_, rfl, hdrop.take _⟩
          | false =>
            have hlt : off < cs.size := by omega
            have hu := hcell 0 cs[off] (by simp [hlt])
            rw [show (⟨b, off, none⟩ : Addr).add 0 = ⟨b, off, none⟩ from rfl] at hu
            refine ⟨cs[off], by simp [hu], ?_⟩
            have := hrc.get off
            simp only [Bool.false_eq_true, if_false]
            have e1 : (c.drop off).getD 0 AV.undef = c.getD off AV.undef := by simp [List.getD_eq_getElem?_getD]
            rw [e1]
            simpa [List.getD_eq_getElem?_getD, hlt] using this
        obtain ⟨V, hV, hR⟩ := hrun
        exact ⟨V, by simp only [resSem, hx, asAddr, Sem.run_bind, Sem.run_pure, Result.andThen_ok, hV], hR⟩
      · cases e
    · rename_i cells hxe
      split at e
      · rename_i ti hti
        split at e <;> cases e
        rename_i hl
        rw [hxe] at hx
        simp only [Rep] at hx
        obtain ⟨ad, hx, hc⟩ := hx
        obtain ⟨V, hV, hR⟩ := run_loadVar_rep hT hti hs.c hc hl.1 hl.2
        exact ⟨V, by simp only [resSem, hx, asAddr, Sem.run_bind, Sem.run_pure, Result.andThen_ok, hV], hR⟩
      · cases e
    · cases e

theorem resA_ok (hT : TabOk P tab) {fn : Func} {s : FS} {v : AV} (e : resA tab fn.results.toList s = some v) {G : Gh} {w : World} {a : Act} (hs : Sim w0 G s.H w) (hr : RepL G s.tmps a.tmps.toList) :
    ∃ V, (results fn a.tmps).run P w = .ok V w ∧ Rep G v V := by
  have hall : ∀ (rs : List ResultVar) (vs : List AV), resAll tab s rs = some vs → ∃ Vs : List Value, (rs.mapM (resSem a.tmps)).run P w = .ok Vs w ∧ RepL G vs Vs := by
    intro rs
    induction rs with
    | nil =>
      intro vs e
      simp only [resAll, Option.some.injEq] at e
      subst e
      exact ⟨[], by simp, by simp [RepL]⟩
    | cons r rs ih =>
      intro vs e
      simp only [resAll] at e
      split at e <;> try cases e
      rename_i u us hu hus
      obtain ⟨V, h1, h2⟩ := resOne_ok hT hu hs hr
      obtain ⟨Vs, h3, h4⟩ := ih us hus
      refine ⟨V :: Vs, ?_, by simp only [RepL]; exact ⟨_, _, rfl, h2, h4⟩⟩
      rw [List.mapM_cons]
      simp only [Sem.run_bind, h1, h3, Result.andThen_ok, Sem.run_pure]
  unfold resA at e
  rw [results_eq, Array.mapM_eq_mapM_toList]
  split at e
  · rename_i u hu
    cases e
    obtain ⟨Vs, h1, h2⟩ := hall _ _ hu
    simp only [RepL] at h2
    obtain ⟨V, _, rfl, h3, rfl⟩ := h2
    exact ⟨V, by simp only [Sem.run_bind, Sem.run_map, h1, Result.andThen_ok]; simp, h3⟩
  · rename_i us hne hu
    cases e
    obtain ⟨Vs, h1, h2⟩ := hall _ _ hu
    have hlen := h2.length
    have hn1 : Vs.length ≠ 1 := fun h => by
      rw [h] at hlen
      obtain ⟨x, hx⟩ := List.length_eq_one_iff.1 hlen
      exact hne x hx
    refine ⟨.tuple Vs.toArray, by simp only [Sem.run_bind, Sem.run_map, h1, Result.andThen_ok]; simp [hn1], by simp only [Rep]; exact ⟨_, rfl, h2⟩⟩
  · cases e

mutual
theorem rep_noρ1 {G : Gh} {ρ : Nat → Option (List (Option Id × Obj))} : ∀ (a : AV) (V : Value), Rep G a V → Rep { G with ρ := ρ } a V
  | .raw v, V, k => by simpa [Rep] using k
  | .list t xs, V, k => by
    simp only [Rep] at k ⊢
    obtain ⟨A, n, c, e, hn, hc, ht, hu, ad, ha, hr⟩ := k
    exact ⟨A, n, c, e, hn, hc, by cases t <;> exact ht, hu, ad, ha, repE_noρ ad 0 xs hr⟩
  | .ptr id off, V, k => by simpa only [Rep] using k
  | .sptr cells, V, k => by
    simp only [Rep] at k ⊢
    obtain ⟨ad, e, hr⟩ := k
    exact ⟨ad, e, repC_noρ ad 0 cells hr⟩
  | .arr id off len, V, k => by simpa only [Rep] using k
  | .rowp t xs, V, k => by
    simp only [Rep] at k ⊢
    obtain ⟨A, n, c, e, hn, hc, ht, hu, ad, ha, hr⟩ := k
    exact ⟨A, n, c, e, hn, hc, by cases t <;> exact ht, hu, ad, ha, repE_noρ ad 0 xs hr⟩
  | .iter id, V, k => by simpa only [Rep] using k
  | .clo fn first caps, V, k => by
    simp only [Rep] at k ⊢
    obtain ⟨f, c, e, h1, h2⟩ := k
    exact ⟨f, c, e, repL_noρ first f h1, repL_noρ caps c h2⟩
  | .iface t v, V, k => by
    simp only [Rep] at k ⊢
    obtain ⟨u, e, hr⟩ := k
    exact ⟨u, e, rep_noρ1 v u hr⟩
  | .agg cells, V, k => by
    simp only [Rep] at k ⊢
    obtain ⟨cs, e, hr⟩ := k
    exact ⟨cs, e, repL_noρ cells cs hr⟩
  | .tup vs, V, k => by
    simp only [Rep] at k ⊢
    obtain ⟨cs, e, hr⟩ := k
    exact ⟨cs, e, repL_noρ vs cs hr⟩
theorem repL_noρ {G : Gh} {ρ : Nat → Option (List (Option Id × Obj))} : ∀ (l : List AV) (vs : List Value), RepL G l vs → RepL { G with ρ := ρ } l vs
  | [], vs, k => by simpa [RepL] using k
  | a :: l, vs, k => by
    simp only [RepL] at k ⊢
    obtain ⟨u, us, e, h1, h2⟩ := k
    exact ⟨u, us, e, rep_noρ1 a u h1, repL_noρ l us h2⟩
theorem repC_noρ {G : Gh} {ρ : Nat → Option (List (Option Id × Obj))} (ad : Addr) : ∀ (k : Nat) (l : List AV), RepC G ad k l → RepC { G with ρ := ρ } ad k l
  | _, [], _ => by simp [RepC]
  | k, a :: l, hk => by
    simp only [RepC] at hk ⊢
    obtain ⟨⟨v, e, h1⟩, h2⟩ := hk
    exact ⟨⟨v, e, rep_noρ1 a v h1⟩, repC_noρ ad (k + 1) l h2⟩
theorem repE_noρ {G : Gh} {ρ : Nat → Option (List (Option Id × Obj))} (ad : Addr) : ∀ (k : Nat) (xs : List (List AV)), RepE G ad k xs → RepE { G with ρ := ρ } ad k xs
  | _, [], _ => by simp [RepE]
  | k, x :: xs, hk => by
    simp only [RepE] at hk ⊢
    exact ⟨repC_noρ ad k x hk.1, repE_noρ ad (k + x.length) xs hk.2⟩
end
theorem rep_noρ {G : Gh} {ρ : Nat → Option (List (Option Id × Obj))} {l : List AV} {vs : List Value} (h : RepL G l vs) : RepL { G with ρ := ρ } l vs := repL_noρ l vs h

/-- A block that is no cells is written. -/
theorem Sim.putObj {G : Gh} {H : Hp} {w : World} (h : Sim w0 G H w) {D : Nat} {o o' : Obj} (hD : w.heap[D]? = some o) (hn : ∀ cs T f, o ≠ .cells cs T f) (hb : w0.heap.size ≤ D) (hn' : ∀ cs T f, o' ≠ .cells cs T f)
    (hp : ∀ L, G.ρ D = some L → ∀ x ∈ L, pinned G H D o' x) : Sim w0 G H (w.putObj D o') := by
  have hlt := (Array.getElem?_eq_some_iff.1 hD).1
  have hother : ∀ (b : Nat) cs T f, w.heap[b]? = some (Obj.cells cs T f) → (w.putObj D o').heap[b]? = some (Obj.cells cs T f) := fun b cs T f e => by
    rw [World.putObj_heap_other (fun hbd => by rw [hbd, hD] at e; cases e; exact hn _ _ _ rfl)]
    exact e
  refine ⟨fun a v e => ?_, fun i b e => ?_, h.d, fun i e => ?_, h.inj, h.tinj, h.vt, ?_, h.g, fun b L e => ?_⟩
  · have hc := h.c a v e
    have hne : a.block ≠ D := fun hbd => by
      unfold World.cell? at hc
      rw [hbd, hD] at hc
      cases o <;> simp at hc
      exact hn _ _ _ rfl
    rwa [World.cell?_of_block (w := w) (World.putObj_heap_other hne)]
  · obtain ⟨h1, cs, T, h2, h3⟩ := h.v i b e
    exact ⟨h1, cs, T, hother b _ _ _ h2, h3⟩
  · rcases h.t i e with h1 | ⟨b, m, c, T, cs, h1, h2, h3, h4⟩
    · exact .inl h1
    · exact .inr ⟨b, m, c, T, cs, h1, h2, hother b _ _ _ h3, h4⟩
  · exact h.below.trans ⟨rfl, rfl, rfl, by simp, fun i hi => World.putObj_heap_other (by omega)⟩
  · obtain ⟨r1, x, r2, r3, r4⟩ := h.r b L e
    by_cases hbd : b = D
    · subst hbd
      exact ⟨r1, o', World.putObj_heap_same hlt, hn', hp L e⟩
    · exact ⟨r1, x, by rw [World.putObj_heap_other hbd]; exact r2, r3, r4⟩

theorem leaves_marks {fn : Func} {tmps : Array Value} {Hx : Hp} {G1 : Gh} {R : Ending → World → Prop} {ds0 : List Deferred} {u : FrameMode} (hu : u ≠ .run)
    (hR : ∀ w2, Sim w0 G1 Hx w2 → LeavesInM Fence.wide 0 P fn tmps R ds0 u w2) : ∀ (Ds : List Nat), Ds.Nodup → ∀ w', Sim w0 G1 Hx w' → (∀ D ∈ Ds, w0.heap.size ≤ D ∧ w'.heap[D]? = some (.deferred (some []))) → (∀ D ∈ Ds, G1.ρ D = none) →
      LeavesInM Fence.wide 0 P fn tmps R (Ds.map mkMark ++ ds0) u w'
  | [], _, w', hs, _, _ => hR w' hs
  | D :: Ds, hnd, w', hs, hb, hρ => by
    obtain ⟨h1, h2⟩ := List.nodup_cons.1 hnd
    obtain ⟨hD1, hD2⟩ := hb D (by simp)
    refine ⟨hu, .inl ⟨D, _, rfl, run_takeDeferred hD2, ?_⟩⟩
    refine leaves_marks hu hR Ds h2 _ (hs.putObj hD2 (by simp) hD1 (by simp) fun L e => by rw [hρ D (by simp)] at e; cases e) (fun E hE => ?_) fun E hE => hρ E (by simp [hE])
    obtain ⟨g1, g2⟩ := hb E (by simp [hE])
    exact ⟨g1, by rw [World.putObj_heap_other (fun he => h1 (by rw [← he]; exact hE))]; exact g2⟩

/-- What a call comes to. -/
inductive Out where
  | ret (v : AV)
  | pan (v : AV)
def BodyO (P : Program) (w0 : Base) (k : List Nat) (f : FuncId) (args : List AV) (H H' : Hp) : Out → Prop
  | .ret v => BodyAt P w0 k f args H H' v
  | .pan v => PanAt P w0 k f args H H' v
def CallO (P : Program) (w0 : Base) (k : List Nat) (f : FuncId) (args : List AV) (H H' : Hp) : Out → Prop
  | .ret v => CallAt P w0 k f args H H' v
  | .pan v => PanAt P w0 k f args H H' v
theorem BodyO.call {f : FuncId} {args : List AV} {H H' : Hp} {o : Out} (h : BodyO P w0 k f args H H' o) : CallO P w0 k f args H H' o := by
  cases o with
  | ret v => exact .inl h
  | pan v => exact h
/-- How a body ends. -/
def endOx (tab : Tab) (rs : List ResultVar) (o : Out) (H' : Hp) : AEx → FS → Prop
  | .normal, s' => ∃ v, o = .ret v ∧ ∃ u, resA tab rs s' = some u ∧ Weak u v ∧ H'.Le s'.H
  | .ret, s' => ∃ v, o = .ret v ∧ ∃ u, resA tab rs s' = some u ∧ Weak u v ∧ H'.Le s'.H
  | .panic u, s' => ∃ v, o = .pan v ∧ Weak u v ∧ H'.Le s'.H
  | .exit _, _ => False

/-- What stands at an activation's end, its deferred marks, seen without them. -/
theorem end_base {G G' : Gh} {Hx : Hp} {w w' : World} (hle : G.Le G') (hg : w0.G.Le G) (hs' : Sim w0 G' Hx w') : Sim w0 { G' with ρ := G.ρ } Hx w' := by
  refine ⟨hs'.c, fun i b e => ?_, hs'.d, hs'.t, hs'.inj, hs'.tinj, hs'.vt, hs'.below, hg.trans ⟨hle.C, hle.σ, hle.τ, fun _ _ h => h⟩, fun b L e => hs'.r b L (hle.ρ b L e)⟩
  obtain ⟨h1, cs, T, h2, h3, h4, h5⟩ := hs'.v i b e
  exact ⟨h1, cs, T, h2, h3, h4, fun avs ha => rep_noρ (h5 avs ha)⟩
theorem end_marks {G0 : D0} {G G' : Gh} {Hx : Hp} {w' : World} (hs' : Sim w0 G' Hx w') {Ds : List Nat} (hDs : ∀ D ∈ Ds, G'.ρ D = some [(none, .deferred (some []))] ∧ G0.g.ρ D = none) : ∀ D ∈ Ds, w0.heap.size ≤ D ∧ w'.heap[D]? = some (.deferred (some [])) := fun D hD => by
  obtain ⟨h1, o, h2, h3, h4⟩ := hs'.r D _ (hDs D hD).1
  have := h4 _ (List.mem_singleton.2 rfl)
  simp only [pinned] at this
  subst this
  exact ⟨h1, h2⟩

/-- A call, out of the function's body. -/
theorem callO_of_code (hT : TabOk P tab) {f : FuncId} {fn : Func} {c : Code} {args : List AV} {H H' : Hp} {o : Out} (hf : P.funcs[f]? = some fn) (hb : fn.body = some c) (hn : (fn.name == "runtime.NumGoroutine") = false)
    {rs : List ResultVar} {nt : Nat} (hrs : fn.results = rs.toArray) (hnt : fn.ntmps = nt)
    (h : (∀ i : Id, k <:+ i.key → H i = none) → CodeOk P w0 none k c ⟨args ++ List.replicate (nt - args.length) AV.undef, 0, H⟩ (endOx tab rs o H')) : BodyO P w0 k f args H H' o := by
  subst hnt
  have core : ∀ (G : Gh) (w : World) (cargs : Array Value), Sim w0 G H w → Fresh G k → RepL G args cargs.toList → ∀ R : Ending → World → Prop,
      (∀ G' w', G.Le G' → New k G G' → Sim w0 G' H' w' → (∀ v V, o = .ret v → Rep G' v V → R (.returned V) w') ∧ ∀ v V, o = .pan v → Rep G' v V → R (.panicked [{ v := V, recovered := false }]) w') → Calls P f cargs w R := by
    intro G w cargs hs hfr hr R hR
    have hfresh : ∀ i : Id, k <:+ i.key → H i = none := fun i hi => by
      cases hh : H i with
      | none => rfl
      | some e =>
        have hk := hfr i hi
        cases e with
        | cells avs => obtain ⟨b, hb⟩ := hs.d _ _ hh; rw [hk.1] at hb; cases hb
        | tok =>
          rcases hs.t _ hh with g | ⟨b, m, c, T, cs, g, _⟩
          · rw [hk.2] at g; cases g
          · rw [hk.2] at g; cases g
    have hl : args.length = cargs.size := hr.size
    refine (callsIn_wide (n := 0)).1 (callsIn_of_wp_marks hf hb trivial ?_)
    refine h hfresh ⟨G, []⟩ G w _ hs ?_ (fun m _ i hi => hfr i ((List.suffix_cons m k).trans hi)) (DefOk.nil G []) _ ?_
    · simp only [Array.toList_append, Array.toList_replicate]
      rw [hl]
      exact RepL.append hr (RepL.replicate G _)
    · intro x s' G' w' a' hx hle hnw hs' hr' hd' _ _ X hX
      obtain ⟨hle0, Ds, hds, hnd, hDs⟩ := hd'
      rw [List.append_nil] at hds
      have base : Sim w0 { G' with ρ := G.ρ } s'.H w' := end_base (w := w) hle hs.g hs'
      have hle' : G.Le { G' with ρ := G.ρ } := ⟨hle.C, hle.σ, hle.τ, fun _ _ h => h⟩
      have hnew' : New k G { G' with ρ := G.ρ } := hnw.up
      have hbl := end_marks (G := G) hs' hDs
      have fin : ∀ {u : FrameMode}, u ≠ .run → (∀ w2, Sim w0 { G' with ρ := G.ρ } s'.H w2 → LeavesInM Fence.wide 0 P fn a'.tmps R [] u w2) → LeavesInM Fence.wide 0 P fn a'.tmps R a'.defers u w' := fun {u} hu hR2 => by
        rw [hds]
        have := leaves_marks (ds0 := []) hu hR2 Ds hnd w' base hbl fun D hD => (hDs D hD).2
        simpa using this
      have done : (∃ v, o = .ret v ∧ ∃ u, resA tab rs s' = some u ∧ Weak u v ∧ H'.Le s'.H) → RepL G' s'.tmps a'.tmps.toList → LeavesInM Fence.wide 0 P fn a'.tmps R a'.defers .returning w' := fun ⟨v, ho, u, hu, hw, hH⟩ hr' => by
        refine fin (by simp) fun w2 hs2 => ?_
        obtain ⟨V, hV, hRep⟩ := resA_ok (fn := fn) (s := s') (by exact hT) (by rw [hrs]; exact hu) hs2 (rep_noρ hr')
        exact ⟨V, hV, (hR { G' with ρ := G.ρ } w2 hle' hnew' (hs2.forget hH)).1 v V ho (hw _ V hRep)⟩
      cases x with
      | normal => cases hX; exact done hx hr'
      | ret => cases hX; exact done hx hr'
      | exit id => exact hx.elim
      | panic u =>
        obtain ⟨V, rfl, hV⟩ := hX
        obtain ⟨v, ho, hw, hH⟩ := hx
        exact fin (by simp) fun w2 hs2 => (hR { G' with ρ := G.ρ } w2 hle' hnew' (hs2.forget hH)).2 v V ho (hw _ V (rep_noρ1 _ _ hV))
  cases o with
  | ret v => exact ⟨⟨fn, c, hf, hb, hn⟩, fun G w cargs hs hfr hr R hR => core G w cargs hs hfr hr R fun G' w' h1 h2 h3 => ⟨fun u V e hv => (by cases e; exact hR G' w' V h1 h2 h3 hv), fun u V e => (by cases e)⟩⟩
  | pan v => exact ⟨⟨fn, c, hf, hb, hn⟩, fun G w cargs hs hfr hr R hR => core G w cargs hs hfr hr R fun G' w' h1 h2 h3 => ⟨fun u V e => (by cases e), fun u V e hv => (by cases e; exact hR G' w' V h1 h2 h3 hv)⟩⟩
theorem callAt_of_code (hT : TabOk P tab) {f : FuncId} {fn : Func} {c : Code} {args : List AV} {H H' : Hp} {v : AV} (hf : P.funcs[f]? = some fn) (hb : fn.body = some c) (hn : (fn.name == "runtime.NumGoroutine") = false)
    {rs : List ResultVar} {nt : Nat} (hrs : fn.results = rs.toArray) (hnt : fn.ntmps = nt)
    (h : (∀ i : Id, k <:+ i.key → H i = none) → CodeOk P w0 none k c ⟨args ++ List.replicate (nt - args.length) AV.undef, 0, H⟩ fun x s' => (x = .normal ∨ x = .ret) ∧ ∃ u, resA tab rs s' = some u ∧ Weak u v ∧ H'.Le s'.H) : BodyAt P w0 k f args H H' v :=
  callO_of_code (o := .ret v) hT hf hb hn hrs hnt fun hfr => (h hfr).mono fun x s' hx => by
    obtain ⟨rfl | rfl, h2⟩ := hx
    · exact ⟨v, rfl, h2⟩
    · exact ⟨v, rfl, h2⟩
/-- The same, of what is to be shown of the text. -/
theorem callO_of_vc (hT : TabOk P tab) (hS : SpecOk P w0 Sp) (hm : P.follows .mixedOrders = true) {f : FuncId} {fn : Func} {c : Code} {args : List AV} {H H' : Hp} {o : Out} (hf : P.funcs[f]? = some fn) (hb : fn.body = some c) (hn : (fn.name == "runtime.NumGoroutine") = false)
    {rs : List ResultVar} {nt : Nat} (hrs : fn.results = rs.toArray) (hnt : fn.ntmps = nt) (mb : List Tmp)
    (h : (∀ i : Id, k <:+ i.key → H i = none) → vc P tab Sp w0 none mb k c ⟨args ++ List.replicate (nt - args.length) AV.undef, 0, H⟩ (endOx tab rs o H')) : BodyO P w0 k f args H H' o :=
  callO_of_code hT hf hb hn hrs hnt fun hfr => (vc_det hT hS hm c _ _ (h hfr)).code

theorem callAt_of_vc (hT : TabOk P tab) (hS : SpecOk P w0 Sp) (hm : P.follows .mixedOrders = true) {f : FuncId} {fn : Func} {c : Code} {args : List AV} {H H' : Hp} {v : AV} (hf : P.funcs[f]? = some fn) (hb : fn.body = some c) (hn : (fn.name == "runtime.NumGoroutine") = false)
    {rs : List ResultVar} {nt : Nat} (hrs : fn.results = rs.toArray) (hnt : fn.ntmps = nt) (mb : List Tmp)
    (h : (∀ i : Id, k <:+ i.key → H i = none) → vc P tab Sp w0 none mb k c ⟨args ++ List.replicate (nt - args.length) AV.undef, 0, H⟩ fun x s' => (x = .normal ∨ x = .ret) ∧ ∃ u, resA tab rs s' = some u ∧ Weak u v ∧ H'.Le s'.H) : BodyAt P w0 k f args H H' v :=
  callAt_of_code hT hf hb hn hrs hnt fun hfr => (vc_det hT hS hm c _ _ (h hfr)).code
/-- A call of which is told what holds of its answer and of the heap behind it. -/
theorem callX_of_vc (hT : TabOk P tab) (hS : SpecOk P w0 Sp) (hm : P.follows .mixedOrders = true) {f : FuncId} {fn : Func} {c : Code} {args : List AV} {H : Hp} {Q : Hp → AV → Prop} (hf : P.funcs[f]? = some fn) (hb : fn.body = some c) (hn : (fn.name == "runtime.NumGoroutine") = false)
    {rs : List ResultVar} {nt : Nat} (hrs : fn.results = rs.toArray) (hnt : fn.ntmps = nt) (mb : List Tmp) (hQ : ∃ H' v, Q H' v)
    (h : (∀ i : Id, k <:+ i.key → H i = none) → vc P tab Sp w0 none mb k c ⟨args ++ List.replicate (nt - args.length) AV.undef, 0, H⟩ fun x s' => (x = .normal ∨ x = .ret) ∧ ∃ u, resA tab rs s' = some u ∧ ∃ v, Weak u v ∧ ∃ H', H'.Le s'.H ∧ Q H' v) : ∃ H' v, Q H' v ∧ BodyAt P w0 k f args H H' v := by
  by_cases hfr : ∀ i : Id, k <:+ i.key → H i = none
  · obtain ⟨x, s', ⟨hx, u, hu, v, hv, H', hH, hq⟩, hc⟩ := vc_det hT hS hm c _ _ (h hfr)
    exact ⟨H', v, hq, callAt_of_code hT hf hb hn hrs hnt fun _ => hc.mono fun y t hy => by
      obtain ⟨rfl, rfl⟩ := hy
      exact ⟨hx, u, hu, hv, hH⟩⟩
  · obtain ⟨H', v, hq⟩ := hQ
    exact ⟨H', v, hq, callAt_of_code hT hf hb hn hrs hnt fun h => absurd h hfr⟩

end
end Go.Proofs.YtkdendaohlnlcaaGreat.Av
