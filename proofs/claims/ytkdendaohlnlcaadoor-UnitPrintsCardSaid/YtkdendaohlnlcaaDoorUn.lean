/- Steps and units as plain data, and how they lie in memory. No condition. -/
import Derived.Test.YtkdendaohlnlcaaDoorEx
namespace Go.Proofs.YtkdendaohlnlcaaDoor.Av
set_option linter.unusedVariables false
set_option linter.unusedSimpArgs false
set_option maxRecDepth 4000
set_option maxHeartbeats 1000000

section
variable {α : Type}
def decL (d : List AV → Option α) : List (List AV) → Option (List α)
  | [] => some []
  | x :: xs => (d x).bind fun a => (decL d xs).bind fun l => some (a :: l)
/-- A row of parts, read part by part. -/
structure DecC (α : Type) where
  dec : List AV → Option α
  enc : α → List AV
  sz : Nat
  len : ∀ c x, dec c = some x → c.length = sz
  elen : ∀ x, (enc x).length = sz
  ok : ∀ c x, dec c = some x → ∀ G V, RepL G c V → RepL G (enc x) V
  self : ∀ x, dec (enc x) = some x
theorem decL_length (D : DecC α) : ∀ {xs : List (List AV)} {l : List α}, decL D.dec xs = some l → xs.length = l.length
  | [], l, h => by simp only [decL, Option.some.injEq] at h; subst h; rfl
  | x :: xs, l, h => by
    simp only [decL, Option.bind_eq_some_iff] at h
    obtain ⟨a, h1, l', h2, h3⟩ := h
    cases h3
    simp [decL_length D h2]
theorem decL_repE (D : DecC α) {G : Gh} : ∀ (xs : List (List AV)) (l : List α), decL D.dec xs = some l → ∀ ad k, RepE G ad k xs → RepE G ad k (l.map D.enc)
  | [], l, h, ad, k, hr => by
    simp only [decL, Option.some.injEq] at h
    subst h
    simp [RepE]
  | x :: xs, l, h, ad, k, hr => by
    simp only [decL, Option.bind_eq_some_iff] at h
    obtain ⟨a, h1, l', h2, h3⟩ := h
    cases h3
    simp only [List.map_cons, RepE] at hr ⊢
    obtain ⟨vs, r, g⟩ := hr.1.values
    refine ⟨RepC_of_list _ _ _ (D.ok x a h1 G vs r) g, ?_⟩
    rw [D.elen, ← D.len x a h1]
    exact decL_repE D xs l' h2 ad _ hr.2
theorem decL_weak (D : DecC α) {t : Tok} {xs : List (List AV)} {l : List α} (h : decL D.dec xs = some l) : Weak (.list t xs) (.list .none (l.map D.enc)) := fun G V hr => by
  simp only [Rep] at hr ⊢
  obtain ⟨A, n, cp, e1, e2, e3, e4, e5, ad, e6, e7⟩ := hr
  have hl := decL_length D h
  refine ⟨A, n, cp, e1, by simp; omega, e3, trivial, ⟨D.sz, ?_⟩, ad, fun hne => e6 ?_, decL_repE D xs l h ad 0 e7⟩
  · intro x hx
    obtain ⟨y, _, rfl⟩ := List.mem_map.1 hx
    exact D.elen y
  · intro hx
    subst hx
    cases l with
    | nil => exact hne rfl
    | cons _ _ => simp at hl
theorem decL_self (D : DecC α) : ∀ l : List α, decL D.dec (l.map D.enc) = some l
  | [] => rfl
  | x :: l => by simp [decL, D.self, decL_self D l]
def dL (D : DecC α) : Dec (List α) where
  dec := fun a => match a with
    | .list _ xs => decL D.dec xs
    | _ => none
  enc := fun l => .list .none (l.map D.enc)
  ok := fun a x h => by
    split at h
    · exact decL_weak D h
    · cases h
def dA (D : DecC α) : Dec α where
  dec := fun a => match a with
    | .agg c => D.dec c
    | _ => none
  enc := fun x => .agg (D.enc x)
  ok := fun a x h => by
    split at h
    · intro G V hr
      simp only [Rep] at hr ⊢
      obtain ⟨cs, h1, h2⟩ := hr
      exact ⟨cs, h1, D.ok _ _ h G _ h2⟩
    · cases h
@[go_sem] theorem dL_at {D : DecC α} {t : Tok} {l : List α} : (dL D).dec (.list t (l.map D.enc)) = some l := decL_self D l
@[go_sem] theorem dA_at {D : DecC α} {c : List AV} : (dA D).dec (.agg c) = D.dec c := rfl
end

def cE : DecC E where
  dec := toE
  enc := E.cells
  sz := 3
  len := fun c x h => toE_length h
  elen := E.cells_length
  ok := fun c x h G V hr => toE_rep x c h V hr
  self := toE_cells
def cS : DecC ByteArray where
  dec := fun c => match c with
    | [.raw (.string s)] => some s
    | _ => none
  enc := fun s => [.str s]
  sz := 1
  len := fun c x h => by
    split at h
    · rfl
    · cases h
  elen := fun x => rfl
  ok := fun c x h G V hr => by
    split at h
    · cases h
      exact hr
    · cases h
  self := fun x => rfl

@[go_sem] theorem cS_cons {t : Tok} {s : ByteArray} {l : List ByteArray} : (dL cS).dec (.list t ([.raw (.string s)] :: l.map cS.enc)) = some (s :: l) := by
  show decL cS.dec _ = _
  rw [decL, decL_self]
  rfl
@[go_sem] theorem cS_strip {l : List ByteArray} : List.map (fun x => List.map strip x) (l.map cS.enc) = l.map cS.enc := by
  rw [List.map_map]
  rfl
theorem cS_each (l : List ByteArray) : ∀ y ∈ l.map cS.enc, y.length = 1 := fun y hy => by
  obtain ⟨x, _, rfl⟩ := List.mem_map.1 hy
  rfl
theorem cS_one (l : List ByteArray) : (l.map cS.enc).flatten.all oneA = true := by
  rw [List.all_eq_true]
  intro x hx
  obtain ⟨y, hy, hx⟩ := List.mem_flatten.1 hx
  obtain ⟨z, _, rfl⟩ := List.mem_map.1 hy
  simp only [cS, List.mem_cons, List.not_mem_nil, or_false] at hx
  subst hx
  rfl
theorem RepL.parts {G : Gh} : ∀ {as_ bs : List AV} {V : List Value}, RepL G (as_ ++ bs) V → ∃ v1 v2, V = v1 ++ v2 ∧ RepL G as_ v1 ∧ RepL G bs v2
  | [], bs, V, h => ⟨[], V, rfl, by simp [RepL], h⟩
  | a :: l, bs, V, h => by
    simp only [List.cons_append, RepL] at h
    obtain ⟨u, us, rfl, h1, h2⟩ := h
    obtain ⟨v1, v2, rfl, h3, h4⟩ := RepL.parts h2
    exact ⟨u :: v1, v2, rfl, by simp only [RepL]; exact ⟨_, _, rfl, h1, h3⟩, h4⟩
structure Step where
  says : E
  by_ : Int
  a : Int
  b : Int
  cite : ByteArray
def Step.cells (s : Step) : List AV := [.int .i64 s.says.kind, .int .i64 s.says.id, .list .none (s.says.kids.map E.cells), .int .i64 s.by_, .int .i64 s.a, .int .i64 s.b, .str s.cite]
def cStep : DecC Step where
  dec := fun c => match c with
    | [x, y, z, .raw (.int .i64 n), .raw (.int .i64 a), .raw (.int .i64 b), .raw (.string s)] => (toE [x, y, z]).map fun e => ⟨e, n, a, b, s⟩
    | _ => none
  enc := Step.cells
  sz := 7
  len := fun c x h => by
    split at h
    · rfl
    · cases h
  elen := fun x => rfl
  ok := fun c x h G V hr => by
    split at h
    · rename_i p q r n a b s
      simp only [Option.map_eq_some_iff] at h
      obtain ⟨e, he, rfl⟩ := h
      have h1 : RepL G ([p, q, r] ++ [.raw (.int .i64 n), .raw (.int .i64 a), .raw (.int .i64 b), .raw (.string s)]) V := hr
      obtain ⟨v1, v2, rfl, h2, h3⟩ := RepL.parts h1
      have := toE_rep e _ he _ h2
      rw [E.cells_eq] at this
      exact RepL.append this h3
    · cases h
  self := fun x => by
    simp only [Step.cells]
    have := toE_cells x.says
    rw [E.cells_eq] at this
    simp [this]
structure U where
  cites : List ByteArray
  states : E
  steps : List Step
def U.cells (u : U) : List AV := [.list .none (u.cites.map cS.enc), .int .i64 u.states.kind, .int .i64 u.states.id, .list .none (u.states.kids.map E.cells), .list .none (u.steps.map cStep.enc)]
def cU : DecC U where
  dec := fun c => match c with
    | [.list _ l, x, y, z, .list _ m] => (decL cS.dec l).bind fun l => (toE [x, y, z]).bind fun e => (decL cStep.dec m).bind fun m => some ⟨l, e, m⟩
    | _ => none
  enc := U.cells
  sz := 5
  len := fun c x h => by
    split at h
    · rfl
    · cases h
  elen := fun x => rfl
  ok := fun c x h G V hr => by
    split at h
    · rename_i t l p q r t' m
      simp only [Option.bind_eq_some_iff] at h
      obtain ⟨l', hl, e, he, m', hm, h⟩ := h
      cases h
      have h1 : RepL G ([.list t l] ++ ([p, q, r] ++ [.list t' m])) V := hr
      obtain ⟨v1, v2, rfl, h2, h3⟩ := RepL.parts h1
      obtain ⟨v3, v4, rfl, h4, h5⟩ := RepL.parts h3
      have := toE_rep e _ he _ h4
      rw [E.cells_eq] at this
      have w1 : WeakL [.list t l] [.list .none (l'.map cS.enc)] := ⟨_, _, rfl, decL_weak cS hl, rfl⟩
      have w2 : WeakL [.list t' m] [.list .none (m'.map cStep.enc)] := ⟨_, _, rfl, decL_weak cStep hm, rfl⟩
      exact RepL.append (w1.rep h2) (RepL.append this (w2.rep h5))
    · cases h
  self := fun x => by
    simp only [U.cells]
    have := toE_cells x.states
    rw [E.cells_eq] at this
    simp [this, decL_self]
@[go_sem] theorem cE_dec : cE.dec = toE := rfl
@[go_sem] theorem cE_enc : cE.enc = E.cells := rfl
@[go_sem] theorem cStep_at (s : Step) (t : Tok) : cStep.dec [.raw (.int .i64 s.says.kind), .raw (.int .i64 s.says.id), .list t (s.says.kids.map E.cells), .raw (.int .i64 s.by_), .raw (.int .i64 s.a), .raw (.int .i64 s.b), .raw (.string s.cite)] = some s := by
  simp [cStep, toE_at]
@[go_sem] theorem cU_at (u : U) (t t' t'' : Tok) : cU.dec [.list t (u.cites.map cS.enc), .raw (.int .i64 u.states.kind), .raw (.int .i64 u.states.id), .list t' (u.states.kids.map E.cells), .list t'' (u.steps.map cStep.enc)] = some u := by
  simp [cU, toE_at, decL_self]
theorem str_get (l : List ByteArray) {i : Nat} (h : i < l.length) : ∃ s, l[i]? = some s ∧ (l.map cS.enc).getD i [] = [.str s] :=
  ⟨l[i], by simp [h], by simp [List.getD_eq_getElem?_getD, h, cS]⟩
theorem step_get (l : List Step) {i : Nat} (h : i < l.length) : ∃ s, l[i]? = some s ∧ (l.map cStep.enc).getD i [] = s.cells :=
  ⟨l[i], by simp [h], by simp [List.getD_eq_getElem?_getD, h, cStep]⟩
end Go.Proofs.YtkdendaohlnlcaaDoor.Av
