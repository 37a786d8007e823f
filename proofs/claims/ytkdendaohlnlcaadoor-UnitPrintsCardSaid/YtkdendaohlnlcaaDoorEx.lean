/- Expressions as plain data, and how they lie in memory. No condition. -/
import Derived.Test.YtkdendaohlnlcaaDoorSp
namespace Go.Proofs.YtkdendaohlnlcaaDoor.Av
set_option linter.unusedVariables false
set_option linter.unusedSimpArgs false
set_option maxRecDepth 4000
set_option maxHeartbeats 1000000

inductive E where
  | mk (kind id : Int) (kids : List E)
namespace E
def kind : E → Int | mk k _ _ => k
def id : E → Int | mk _ i _ => i
def kids : E → List E | mk _ _ ks => ks
end E
mutual
def E.cells : E → List AV
  | .mk k i ks => [.int .i64 k, .int .i64 i, .list .none (E.cellsL ks)]
def E.cellsL : List E → List (List AV)
  | [] => []
  | e :: es => e.cells :: E.cellsL es
end
theorem E.cellsL_eq : ∀ l : List E, E.cellsL l = l.map E.cells
  | [] => by simp [E.cellsL]
  | e :: es => by simp [E.cellsL, E.cellsL_eq es]
theorem E.cells_eq (e : E) : e.cells = [.int .i64 e.kind, .int .i64 e.id, .list .none (e.kids.map E.cells)] := by
  cases e
  simp [E.cells, E.kind, E.id, E.kids, E.cellsL_eq]
theorem E.cells_length (e : E) : e.cells.length = 3 := by rw [E.cells_eq]; rfl
abbrev E.av (e : E) : AV := .agg [.int .i64 e.kind, .int .i64 e.id, .list .none (e.kids.map E.cells)]

mutual
def toE : List AV → Option E
  | [.raw (.int .i64 k), .raw (.int .i64 i), .list _ xs] => match toEL xs with
    | some ks => some (.mk k i ks)
    | none => none
  | _ => none
def toEL : List (List AV) → Option (List E)
  | [] => some []
  | x :: xs => match toE x, toEL xs with
    | some e, some es => some (e :: es)
    | _, _ => none
end
mutual
theorem toE_cells : ∀ e : E, toE e.cells = some e
  | .mk k i ks => by simp only [E.cells, toE, toEL_cells ks]
theorem toEL_cells : ∀ l : List E, toEL (E.cellsL l) = some l
  | [] => by simp [E.cellsL, toEL]
  | e :: es => by simp only [E.cellsL, toEL, toE_cells e, toEL_cells es]
end
@[go_sem] theorem toE_at (e : E) (t : Tok) : toE [.raw (.int .i64 e.kind), .raw (.int .i64 e.id), .list t (e.kids.map E.cells)] = some e := by
  cases e with
  | mk k i ks => simp only [E.kind, E.id, E.kids, toE, ← E.cellsL_eq, toEL_cells]
@[go_sem] theorem toEL_at (l : List E) : toEL (l.map E.cells) = some l := by rw [← E.cellsL_eq, toEL_cells]

theorem toE_length : ∀ {c : List AV} {e : E}, toE c = some e → c.length = 3 := by
  intro c e h
  unfold toE at h
  split at h
  · rfl
  · cases h
theorem toEL_length : ∀ {xs : List (List AV)} {es : List E}, toEL xs = some es → xs.length = es.length
  | [], es, h => by simp only [toEL, Option.some.injEq] at h; subst h; rfl
  | x :: xs, es, h => by
    simp only [toEL] at h
    split at h <;> cases h
    rename_i e es h1 h2
    simp [toEL_length h2]
theorem toE_inv {c : List AV} {e : E} (h : toE c = some e) : ∃ t xs, c = [.raw (.int .i64 e.kind), .raw (.int .i64 e.id), .list t xs] ∧ toEL xs = some e.kids := by
  unfold toE at h
  split at h
  · split at h <;> cases h
    rename_i ks hks
    exact ⟨_, _, rfl, hks⟩
  · cases h
theorem toEL_inv {xs : List (List AV)} {e : E} {es : List E} (h : toEL xs = some (e :: es)) : ∃ y ys, xs = y :: ys ∧ toE y = some e ∧ toEL ys = some es := by
  cases xs with
  | nil => simp [toEL] at h
  | cons x xs =>
    simp only [toEL] at h
    split at h <;> cases h
    exact ⟨_, _, rfl, by assumption, by assumption⟩
mutual
theorem toE_rep {G : Gh} : ∀ (e : E) (c : List AV), toE c = some e → ∀ V, RepL G c V → RepL G e.cells V
  | .mk k i ks, c, h, V, hr => by
    obtain ⟨t, xs, rfl, hks⟩ := toE_inv h
    simp only [E.kind, E.id, E.kids] at hks hr
    simp only [E.cells, RepL] at hr ⊢
    obtain ⟨a, as1, h1, ha, b, as2, h2, hb, c, as3, h3, hc, h4⟩ := hr
    refine ⟨a, as1, h1, ha, b, as2, h2, hb, c, as3, h3, ?_, h4⟩
    simp only [Rep] at hc ⊢
    obtain ⟨A, n, cp, e1, e2, e3, e4, e5, ad, e6, e7⟩ := hc
    have hl := toEL_length hks
    have hl2 : (E.cellsL ks).length = ks.length := by simp [E.cellsL_eq]
    refine ⟨A, n, cp, e1, by omega, e3, trivial, ⟨3, ?_⟩, ad, fun hne => e6 ?_, toEL_rep ks xs hks ad 0 e7⟩
    · rw [E.cellsL_eq]
      intro x hx
      obtain ⟨y, _, rfl⟩ := List.mem_map.1 hx
      exact y.cells_length
    · intro hx
      rw [hx] at hl
      exact hne (List.length_eq_zero_iff.1 (by rw [hl2, ← hl]; rfl))
theorem toEL_rep {G : Gh} : ∀ (es : List E) (xs : List (List AV)), toEL xs = some es → ∀ ad k, RepE G ad k xs → RepE G ad k (E.cellsL es)
  | [], xs, h, ad, k, hr => by simp [E.cellsL, RepE]
  | e :: es, xs, h, ad, k, hr => by
    obtain ⟨y, ys, rfl, h1, h2⟩ := toEL_inv h
    simp only [E.cellsL, RepE] at hr ⊢
    have hx := toE_length h1
    obtain ⟨vs, r, g⟩ := hr.1.values
    refine ⟨RepC_of_list _ _ _ (toE_rep e y h1 vs r) g, ?_⟩
    rw [E.cells_length, ← hx]
    exact toEL_rep es ys h2 ad _ hr.2
end
theorem toE_weak {c : List AV} {e : E} (h : toE c = some e) : Weak (.agg c) e.av := fun G V hr => by
  simp only [Rep] at hr ⊢
  obtain ⟨cs, h1, h2⟩ := hr
  refine ⟨cs, h1, ?_⟩
  rw [← E.cells_eq]
  exact toE_rep e c h _ h2
/-- An expression, as an argument. -/
def dE : Dec E where
  dec := fun a => match a with
    | .agg c => toE c
    | _ => none
  enc := E.av
  ok := fun a x h => by
    split at h
    · exact toE_weak h
    · cases h
@[go_sem] theorem dE_at {c : List AV} : dE.dec (.agg c) = toE c := rfl
end Go.Proofs.YtkdendaohlnlcaaDoor.Av
