/- What pointers do on their way through unsafe.Pointer, a row's data pointer, and a string made of a row. No condition. -/
import Derived.Test.YtkdendaohlnlcaaDoorAv9
import Derived.Lib.Builder
import Derived.Lib.UnsafeStr
namespace Go.Proofs.YtkdendaohlnlcaaDoor.Av
set_option linter.unusedVariables false
set_option linter.unusedSimpArgs false
open Go.RowKit

section
variable {P : Program} {tab : Tab} {w0 : Base} {k : List Nat}

/-- A pointer to a variable turned into an unsafe.Pointer, or back: what is asked. -/
def convP (P : Program) (tab : Tab) (s d : TypeId) (id : Id) (off : Nat) : Option Prop :=
  match tab s, tab d with
  | some ⟨.pointer t, _, _, _⟩, some ⟨.unsafeP, _, _, _⟩ => match tab t with
    | some ti => some (0 < ti.size ∧ off < id.sz)
    | none => none
  | some ⟨.unsafeP, _, _, _⟩, some ⟨.pointer u, _, _, _⟩ => some ((tab u).isSome = true ∧ liesAt P P.depth id.ty (id.sz / P.cellsOf id.ty) off u 1 = true)
  | _, _ => none

theorem TabOk.unsafeP (h : TabOk P tab) {t : TypeId} {a b : Nat} {z : Value} (k : tab t = some ⟨.unsafeP, a, b, z⟩) : P.underlying t = some .unsafePointer := by
  obtain ⟨i, d, _, h2, h3, _⟩ := h t _ k
  rw [h2]
  cases d <;> simp_all [tdOf]

theorem OpOk.convP (h : TabOk P tab) {o : Oper} {ρ : Operand → AV} {s d : TypeId} {x : Operand} {id : Id} {off : Nat} {φ : Prop} (ho : o.op = .convert s d x) (hx : ρ x = .ptr id off) (e : convP P tab s d id off = some φ) (hφ : φ) (H : Hp) : OpOk P w0 k o ρ H H (.ptr id off) := by
  intro G w a hs hf hr K Q hK
  have hX := hr x (by simp [ho, Op.operands])
  rw [hx] at hX
  have hX0 := hX
  simp only [Rep] at hX
  obtain ⟨b, hb, hX⟩ := hX
  obtain ⟨_, cs, T, h2, ⟨h3, h3'⟩, h4, h5⟩ := hs.v id b hb
  have hsh : w.shape? (⟨b, off, none⟩ : Addr).block = some (T, cs.size) := by simp [World.shape?, h2]
  have fin : (convert s d (a.eval x)).run P w = .ok (a.eval x) w := by
    unfold Av.convP at e
    split at e
    · rename_i t a1 a2 z1 b1 b2 z2 hs' hd'
      split at e <;> cases e
      rename_i ti hti
      obtain ⟨i, dd, i1, i2, i3, i4, i5, i6⟩ := h _ _ hti
      rw [hX]
      exact Go.Lib.run_to_unsafe (P := P) w _ (h.ptr hs') (h.unsafeP hd') i1 (by omega) hsh (by simp only; omega)
    · rename_i a1 a2 z1 u b1 b2 z2 hs' hd'
      cases e
      obtain ⟨h6, h7⟩ := hφ
      obtain ⟨tu, htu⟩ := Option.isSome_iff_exists.1 h6
      obtain ⟨i, dd, i1, i2, i3, i4, i5, i6⟩ := h _ _ htu
      rw [hX]
      exact Go.Lib.run_from_unsafe (P := P) w _ (h.unsafeP hs') (h.ptr hd') i1 hsh (by rw [h3, h3']; exact h7)
    · cases e
  unfold Oper.wp
  have : (execOp a.eval o).run P w = .ok (.value (a.eval x)) w := by simp only [execOp, ho, Sem.run_bind, fin, Result.andThen_ok, Sem.run_pure]
  rw [this]
  exact hK G w _ (Gh.Le.refl G) (New.refl k G) hs hX0

/-- May a list's data pointer be asked for? -/
def dataOk (H : Hp) (tk : Tok) (xs : List (List AV)) : Prop := tk = .nil ∨ xs ≠ [] ∨ ∃ t, tk = .tok t ∧ H t = some .tok

theorem OpOk.sliceData (h : TabOk P tab) {o : Oper} {ρ : Operand → AV} {ts : Array TypeId} {x : Operand} {tk : Tok} {xs : List (List AV)} {e : TypeId} {a1 a2 : Nat} {z : Value} (ho : o.op = .call { callee := .builtin .unsafeSliceData, args := #[x], argTypes := ts })
    (hx : ρ x = .list tk xs) (ht : tab o.type = some ⟨.pointer e, a1, a2, z⟩) (H : Hp) (hd : dataOk H tk xs) : OpOk P w0 k o ρ H H (.rowp tk xs) := by
  intro G w a hs hf hr K Q hK
  have hX := hr x (by simp [ho, Op.operands, Call.operands])
  rw [hx] at hX
  generalize hXv : a.eval x = X at hX
  simp only [Rep] at hX
  obtain ⟨A, n, c, rfl, hn, hc, htk, hu, ad, ha, hre⟩ := hX
  have hexec : ∀ v w', (Builtin.unsafeSliceData_ ts o.type #[.slice A n c]).run P w = .ok v w' → (execOp a.eval o).run P w = .ok (.value v) w' := by
    intro v w' hrun
    simp only [execOp, ho, resolve, invoke, builtin, Sem.run_bind, Sem.run_pure, Result.andThen_ok, List.map_toArray, List.map_cons, List.map_nil, hXv, hrun]
  have fin : ∀ v w', (Builtin.unsafeSliceData_ ts o.type #[.slice A n c]).run P w = .ok v w' → Sim w0 G H w' → (v = .pointer A ∨ xs = [] ∧ ∃ p, v = .pointer p) → Oper.upon P o a K Q ((execOp a.eval o).run P w) := by
    intro v w' hrun hs' hv
    rw [hexec v w' hrun]
    refine hK G w' v (Gh.Le.refl G) (New.refl k G) hs' ?_
    simp only [Rep]
    exact ⟨A, n, c, hv, hn, hc, htk, hu, ad, ha, hre⟩
  unfold Oper.wp
  rcases hd with rfl | hne | ⟨t, rfl, hH⟩
  · obtain ⟨rfl, rfl⟩ := htk
    exact fin _ w (Go.Lib.run_unsafeSliceData_nil w ts o.type n 0) hs (.inl rfl)
  · have hA := ha hne
    subst hA
    have hn0 : n ≠ 0 := by rw [hn]; exact fun h => hne (List.eq_nil_of_length_eq_zero h)
    exact fin _ w (Go.Lib.run_unsafeSliceData_row w ts o.type ad n c (by omega)) hs (.inl rfl)
  · obtain ⟨b, T, hτ, rfl⟩ := htk
    rcases hs.t t hH with g | ⟨b', m', c1, T', cs, g1, g2, g3, g4, g5, g6⟩
    · rw [hτ] at g; cases g
    rw [hτ] at g1
    simp only [Option.some.injEq, Prod.mk.injEq] at g1
    obtain ⟨rfl, rfl, rfl, rfl⟩ := g1
    by_cases hc0 : c = 0
    · have hx0 : xs = [] := List.eq_nil_of_length_eq_zero (by omega)
      have hsh : w.shape? b = some (T, cs.size) := by simp [World.shape?, g3]
      subst hc0
      exact fin (.pointer (some ⟨w.heap.size, 0, none⟩)) (w.alloc (.view ⟨b, 0, none⟩ e)) (Go.Lib.run_unsafeSliceData_zero w ts o.type e (h.ptr ht) ⟨b, 0, none⟩ n _ hsh) (hs.alloc _) (.inr ⟨hx0, _, rfl⟩)
    · exact fin _ w (Go.Lib.run_unsafeSliceData_row w ts o.type _ n c hc0) hs (.inl rfl)

/-- A list that is a string's bytes. -/
def strGo : List (List AV) → Option (List UInt8)
  | [] => some []
  | [.raw (.int .u8 n)] :: xs => if 0 ≤ n ∧ n < 256 then (strGo xs).map (UInt8.ofNat n.toNat :: ·) else none
  | _ => none
def strOf (xs : List (List AV)) : Option ByteArray := (strGo xs).map fun l => ⟨l.toArray⟩
theorem strGo_self : ∀ l : List UInt8, strGo (l.map fun b => [.int .u8 b.toNat]) = some l
  | [] => rfl
  | b :: l => by
    have hb : (0 : Int) ≤ (b.toNat : Int) ∧ (b.toNat : Int) < 256 := by have := b.toNat_lt; omega
    simp only [List.map_cons, strGo, hb, and_self, if_true, strGo_self l, Option.map_some, Int.toNat_natCast, UInt8.ofNat_toNat]
theorem strOf_self (s : ByteArray) : strOf (bytesA s) = some s := by simp [strOf, bytesA, strGo_self]
theorem strGo_ok : ∀ (xs : List (List AV)) (l : List UInt8), strGo xs = some l → xs = l.map fun b => [.int .u8 b.toNat]
  | [], l, h => by simp only [strGo, Option.some.injEq] at h; subst h; rfl
  | x :: xs, l, h => by
    unfold strGo at h
    split at h
    · rename_i he
      cases he
    · rename_i n xs' he
      cases he
      split at h
      · rename_i hn
        obtain ⟨l', h1, rfl⟩ := Option.map_eq_some_iff.1 h
        rw [strGo_ok xs l' h1]
        have : ((UInt8.ofNat n.toNat).toNat : Int) = n := by
          rw [UInt8.toNat_ofNat', Nat.mod_eq_of_lt (by omega)]
          omega
        simp only [List.map_cons, this]
      · cases h
    · cases h
theorem strOf_ok {xs : List (List AV)} {s : ByteArray} (h : strOf xs = some s) : xs = bytesA s := by
  obtain ⟨l, h1, rfl⟩ := Option.map_eq_some_iff.1 h
  simpa [bytesA] using strGo_ok xs l h1

theorem cell?_freeze (w : World) (p : Addr) (n : Nat) (a : Addr) : (w.freeze p n).cell? a = w.cell? a := by
  unfold World.freeze
  split
  · rfl
  · unfold World.cell?
    simp only [Array.getElem?_modify]
    by_cases h : p.block = a.block
    · rw [if_pos h]
      cases w.heap[a.block]? with
      | none => rfl
      | some o => cases o <;> rfl
    · rw [if_neg h]

/-- Cells of a row of which no token is left are frozen: nothing that is known turns. -/
theorem Sim.freeze {G : Gh} {H : Hp} {w : World} (h : Sim w0 G H w) {b : Nat} (hb : w0.heap.size ≤ b) {cs : Array Value} {T : TypeId} (hcs : w.heap[b]? = some (.cells cs T (0, 0))) (hσ : ∀ i, G.σ i ≠ some b) (hτ : ∀ i, H i = some .tok → ∀ y, G.τ i ≠ some (some (b, y))) (n : Nat) : Sim w0 G H (w.freeze ⟨b, 0, none⟩ n) := by
  have hother : ∀ j, j ≠ b → (w.freeze ⟨b, 0, none⟩ n).heap[j]? = w.heap[j]? := fun j hj => by
    unfold World.freeze
    split
    · rfl
    · simp only [Array.getElem?_modify]
      rw [if_neg (fun h => hj h.symm)]
  refine ⟨fun a v e => by rw [cell?_freeze]; exact h.c a v e, fun i c e => ?_, h.d, fun i e => ?_, h.inj, h.tinj, h.vt, Go.Lib.below_freeze h.below hb n, h.g, fun l x e => ?_⟩
  · obtain ⟨a1, c1, T1, a2, a3⟩ := h.v i c e
    exact ⟨a1, c1, T1, by rw [hother c (fun hh => hσ i (by rw [← hh]; exact e))]; exact a2, a3⟩
  · rcases h.t i e with g | ⟨b1, m1, c1, T1, cs1, g1, g2, g3, g4⟩
    · exact .inl g
    · exact .inr ⟨b1, m1, c1, T1, cs1, g1, g2, by rw [hother b1 (fun hh => hτ i e (m1, c1, T1) (by rw [← hh]; exact g1))]; exact g3, g4⟩
  · obtain ⟨r1, o, r2, r3, r4⟩ := h.r l x e
    have hne : l ≠ b := fun hh => by
      rw [hh, hcs] at r2
      cases r2
      exact r3 _ _ _ rfl
    exact ⟨r1, o, by rw [hother l hne]; exact r2, r3, r4⟩

/-- May a string be made of a row? -/
def strOk (P : Program) (H : Hp) (e : TypeId) (tk : Tok) (s : ByteArray) : Prop := s.size = 0 ∨ P.cellsOf e = 1 ∧ ∃ t, tk = .tok t ∧ H t = some .tok ∧ t.ty = e ∧ t.sz = 1

theorem OpOk.unsafeString (h : TabOk P tab) {o : Oper} {ρ : Operand → AV} {pt it e : TypeId} {x y : Operand} {tk : Tok} {xs : List (List AV)} {s : ByteArray} {a1 a2 : Nat} {z : Value} (ho : o.op = .call { callee := .builtin .unsafeString, args := #[x, y], argTypes := #[pt, it] })
    (hx : ρ x = .rowp tk xs) (hy : ρ y = .int .i64 s.size) (hst : strOf xs = some s) (ht : tab pt = some ⟨.pointer e, a1, a2, z⟩) (hsz : (s.size : Int) ≤ 9223372036854775807) (H : Hp) (hok : strOk P H e tk s) : OpOk P w0 k o ρ H (killTok H tk) (.str s) := by
  intro G w a hs hf hr K Q hK
  have hX := hr x (by simp [ho, Op.operands, Call.operands])
  have hY := hr y (by simp [ho, Op.operands, Call.operands])
  rw [hx] at hX
  rw [hy] at hY
  generalize hXv : a.eval x = X at hX
  generalize hYv : a.eval y = Y at hY
  simp only [Rep] at hX hY
  subst hY
  obtain rfl := strOf_ok hst
  obtain ⟨A, n, c, hv, hn, hc, htk, hu, ad, ha, hre⟩ := hX
  rw [bytesA_length] at hn
  have hexec : ∀ v w', (Builtin.unsafeString_ #[pt, it] o.type #[X, .int .i64 s.size]).run P w = .ok v w' → (execOp a.eval o).run P w = .ok (.value v) w' := by
    intro v w' hrun
    simp only [execOp, ho, resolve, invoke, builtin, Sem.run_bind, Sem.run_pure, Result.andThen_ok, List.map_toArray, List.map_cons, List.map_nil, hXv, hYv, hrun]
  have hsK : Sim w0 G (killTok H tk) w := hs.forget fun j e' hj => by
    cases tk with
    | tok t0 =>
      by_cases hjt : j = t0
      · subst hjt; rw [killTok, Hp.upd_same] at hj; cases hj
      · rwa [killTok, Hp.upd_ne _ _ hjt] at hj
    | _ => exact hj
  have empty : s.size = 0 → Oper.upon P o a K Q ((execOp a.eval o).run P w) := fun h0 => by
    have hs0 : s = .empty := by
      obtain ⟨d⟩ := s
      have : d = #[] := Array.eq_empty_of_size_eq_zero h0
      subst this
      rfl
    obtain ⟨p, rfl⟩ : ∃ p, X = .pointer p := by
      rcases hv with rfl | ⟨_, p, rfl⟩ <;> exact ⟨_, rfl⟩
    have := Go.Lib.run_unsafeString_none (P := P) (w := w) pt it o.type p
    rw [hexec (.string .empty) w (by rw [h0]; exact this)]
    exact hK G w _ (Gh.Le.refl G) (New.refl k G) hsK (by simp [Rep, hs0])
  unfold Oper.wp
  by_cases h0 : s.size = 0
  · exact empty h0
  rcases hok with h0' | ⟨hce, t, rfl, hH, hty, hts⟩
  · exact absurd h0' h0
  obtain ⟨b, T, hτ, rfl⟩ := htk
  have hne : bytesA s ≠ [] := fun hh => h0 (by rw [← bytesA_length, hh]; rfl)
  obtain rfl : X = .pointer (some ⟨b, 0, none⟩) := by
    rcases hv with hv | ⟨hv, _⟩
    · exact hv
    · exact absurd hv hne
  rcases hs.t t hH with g | ⟨b', m', c1, T', cs, g1, g2, g3, g4, g5, g6⟩
  · rw [hτ] at g; cases g
  rw [hτ] at g1
  simp only [Option.some.injEq, Prod.mk.injEq] at g1
  obtain ⟨rfl, rfl, rfl, rfl⟩ := g1
  have hT : T = e := g4.2.trans hty
  subst hT
  have had := ha hne
  simp only [Option.some.injEq] at had
  subst had
  obtain ⟨vs, r1, r2⟩ := (RepE.flat _ 0 hre).values
  have hvs : vs = byteCells s := by
    have := bytesA_rep G s
    -- both stand for the same
    have uniq : ∀ (l : List UInt8) (us ws : List Value), RepL G (l.map fun b => [AV.int .u8 b.toNat]).flatten us → RepL G (l.map fun b => [AV.int .u8 b.toNat]).flatten ws → us = ws := by
      intro l
      induction l with
      | nil => intro us ws h1 h2; simp only [List.map_nil, List.flatten_nil, RepL] at h1 h2; rw [h1, h2]
      | cons b l ih =>
        intro us ws h1 h2
        simp only [List.map_cons, List.flatten_cons, List.cons_append, List.nil_append, RepL, Rep] at h1 h2
        obtain ⟨u, us', rfl, rfl, h3⟩ := h1
        obtain ⟨v, ws', rfl, rfl, h4⟩ := h2
        rw [ih us' ws' h3 h4]
    exact uniq _ _ _ r1 this
  subst hvs
  have hl : s.data.toList.length = s.size := by
    rw [Array.length_toList]
    rfl
  have hrun := Go.Lib.run_unsafeString_row (P := P) (w := w) pt it o.type T (h.ptr ht) hce b cs.size (by simp [World.shape?, g3]) s.data.toList (fun hh => h0 (by rw [← hl, hh]; rfl)) (by rw [hl, ← hn]; rw [hts] at g5; omega) (by rw [hl]; omega) (fun j x hj => by
    have h7 := r2 j (.int .u8 x.toNat) (by simp only [byteCells, List.getElem?_map, hj, Option.map_some])
    rw [Nat.zero_add] at h7
    exact hs.c _ _ h7)
  rw [hl] at hrun
  rw [hexec _ _ hrun]
  refine hK G _ _ (Gh.Le.refl G) (New.refl k G) ?_ (by simp [Rep])
  refine hsK.freeze g2 g3 (fun i hi => hs.vt i t b _ hi hH hτ) (fun i hi y hy => ?_) _
  obtain ⟨q1, q2⟩ := killTok_tok i hi
  exact q2 t rfl (hs.tinj i t b y _ q1 hH hy hτ)
end
end Go.Proofs.YtkdendaohlnlcaaDoor.Av
