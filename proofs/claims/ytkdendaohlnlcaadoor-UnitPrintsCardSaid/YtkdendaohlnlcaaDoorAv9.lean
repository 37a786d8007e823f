/- append. No condition. -/
import Derived.Test.YtkdendaohlnlcaaDoorAv8
import Derived.Deep.AppendSrc
namespace Go.Proofs.YtkdendaohlnlcaaDoor.Av
set_option linter.unusedVariables false
set_option linter.unusedSimpArgs false
open Go.RowKit

section
variable {P : Program} {tab : Tab} {w0 : Base} {k : List Nat}

/-- A new token. -/
theorem Sim.newTok {G : Gh} {H H' : Hp} {w : World} (h : Sim w0 G H w) (id : Id) (hid : G.τ id = none) (x : Option (Nat × Nat × Nat × TypeId))
    (hc : ∀ i avs, H' i = some (.cells avs) → H i = some (.cells avs)) (ht : ∀ i, i ≠ id → H' i = some .tok → H i = some .tok)
    (hx : ∀ b m c T, x = some (b, m, c, T) → w0.heap.size ≤ b ∧ (∃ cs, w.heap[b]? = some (.cells cs T (0, 0)) ∧ c * id.sz ≤ cs.size) ∧ (m ≤ c ∧ T = id.ty) ∧ (∀ a, a.block = b → m * id.sz ≤ a.off → G.C a = none) ∧
      (∀ i, G.σ i ≠ some b) ∧ ∀ i, i ≠ id → H' i = some .tok → ∀ y, G.τ i ≠ some (some (b, y))) : Sim w0 (G.withτ id x) H' w := by
  have hle := Gh.le_withτ (x := x) hid
  have hold : ∀ i, i ≠ id → (G.withτ id x).τ i = G.τ i := fun i hi => by simp [Gh.withτ, hi]
  have hnew : (G.withτ id x).τ id = some x := by simp [Gh.withτ]
  constructor
  · exact h.c
  · intro i b e
    obtain ⟨a1, cs, T, a2, a3, a4, a5⟩ := h.v i b e
    exact ⟨a1, cs, T, a2, a3, a4, fun avs hav => RepL.mono hle _ _ (a5 avs (hc _ _ hav))⟩
  · exact fun i avs e => h.d i avs (hc _ _ e)
  · intro i e
    by_cases hi : i = id
    · subst hi
      rw [hnew]
      cases x with
      | none => exact .inl rfl
      | some y =>
        obtain ⟨b, m, c, T⟩ := y
        obtain ⟨h1, ⟨cs, h2, h3⟩, h4, h5, _⟩ := hx b m c T rfl
        exact .inr ⟨b, m, c, T, cs, rfl, h1, h2, h4, h3, h5⟩
    · rw [hold i hi]
      exact h.t i (ht i hi e)
  · exact h.inj
  · intro i j b y z hi hj ei ej
    by_cases h1 : i = id <;> by_cases h2 : j = id
    · rw [h1, h2]
    · subst h1
      rw [hnew] at ei
      rw [hold j h2] at ej
      obtain ⟨m, c, T⟩ := y
      simp only [Option.some.injEq] at ei
      exact absurd ej ((hx b m c T ei).2.2.2.2.2 j h2 hj z)
    · subst h2
      rw [hnew] at ej
      rw [hold i h1] at ei
      obtain ⟨m, c, T⟩ := z
      simp only [Option.some.injEq] at ej
      exact absurd ei ((hx b m c T ej).2.2.2.2.2 i h1 hi y)
    · rw [hold i h1] at ei
      rw [hold j h2] at ej
      exact h.tinj i j b y z (ht i h1 hi) (ht j h2 hj) ei ej
  · intro i j b y hi hj ej
    by_cases h2 : j = id
    · subst h2
      rw [hnew] at ej
      obtain ⟨m, c, T⟩ := y
      simp only [Option.some.injEq] at ej
      exact (hx b m c T ej).2.2.2.2.1 i hi
    · rw [hold j h2] at ej
      exact h.vt i j b y hi (ht j h2 hj) ej
  · exact h.below
  · exact h.g.trans hle
  · intro b L e
    obtain ⟨r1, o, r2, r3, r4⟩ := h.r b L e
    refine ⟨r1, o, r2, r3, fun x hx => (r4 x hx).later (fun i hi => ?_) fun i hi hh => ht i (fun hii => hi (by rw [hii]; exact hid)) hh⟩
    have hne : i ≠ id := fun hii => hi (by rw [hii]; exact hid)
    rw [hold i hne]
    exact hi

def viewFrom (b : Nat) (cs : Array Value) (lo hi : Nat) : Addr → Option Value := fun a => if a.block = b ∧ a.spot = none ∧ lo ≤ a.off ∧ a.off < hi then cs[a.off]? else none
theorem viewFrom_cell {w : World} {b : Nat} {cs : Array Value} {T : TypeId} {fr : Nat × Nat} {lo hi : Nat} (hb : w.heap[b]? = some (.cells cs T fr)) : ∀ a v, viewFrom b cs lo hi a = some v → w.cell? a = some v := by
  intro a v e
  unfold viewFrom at e
  split at e
  · rename_i hc
    obtain ⟨h1, h2, _, _⟩ := hc
    unfold World.cell?
    rw [h1, hb]
    simp [h2, e]
  · cases e

/-- Into the room behind a row: nothing that is known turns. -/
theorem Sim.roomed {G : Gh} {H : Hp} {w : World} (h : Sim w0 G H w) (t : Id) (ht : H t = some .tok) {b m c : Nat} {T : TypeId} (hτ : G.τ t = some (some (b, m, c, T))) {cs : Array Value} (hb : w.heap[b]? = some (.cells cs T (0, 0)))
    (new : Array Value) (hsz : new.size = cs.size) (hsame : ∀ j, j < m * t.sz → new[j]? = cs[j]?) : Sim w0 G H (w.setRow b new) := by
  rcases h.t t ht with h1 | ⟨b', m', c', T', cs', h1, h2, h3, h4, h5, h6⟩
  · rw [hτ] at h1; cases h1
  rw [hτ] at h1
  simp only [Option.some.injEq, Prod.mk.injEq] at h1
  obtain ⟨rfl, rfl, rfl, rfl⟩ := h1
  constructor
  · intro a v e
    have hold := h.c a v e
    by_cases hab : a.block = b
    · have ho : a.off < m * t.sz := by
        rcases Nat.lt_or_ge a.off (m * t.sz) with h' | h'
        · exact h'
        · rw [h6 a hab h'] at e; cases e
      unfold World.cell? at hold ⊢
      rw [hab] at hold ⊢
      rw [setRow_heap w b cs new T (0, 0) hb]
      rw [hb] at hold
      simp only at hold ⊢
      rw [hsame a.off ho]
      exact hold
    · rwa [World.cell?_of_block (w := w) (setRow_other w b a.block new hab)]
  · intro i c e
    obtain ⟨a1, c1, T1, a2, a3⟩ := h.v i c e
    have hne : c ≠ b := fun hh => h.vt i t c (m, _, T) e ht (by rw [hh]; exact hτ)
    exact ⟨a1, c1, T1, by rw [setRow_other w b c new hne]; exact a2, a3⟩
  · exact h.d
  · intro i e
    rcases h.t i e with g | ⟨b1, m1, c1, T1, cs1, g1, g2, g3, g4, g5, g6⟩
    · exact .inl g
    · by_cases hbb : b1 = b
      · subst hbb
        rw [hb] at g3
        simp only [Option.some.injEq, Obj.cells.injEq] at g3
        obtain ⟨rfl, rfl, _⟩ := g3
        exact .inr ⟨b1, m1, c1, T, new, g1, g2, setRow_heap w b1 cs new T (0, 0) hb, g4, by omega, g6⟩
      · exact .inr ⟨b1, m1, c1, T1, cs1, g1, g2, by rw [setRow_other w b b1 new hbb]; exact g3, g4, g5, g6⟩
  · exact h.inj
  · exact h.tinj
  · exact h.vt
  · exact setRow_below h.below h2
  · exact h.g
  · intro l x e
    obtain ⟨r1, o, r2, r3, r4⟩ := h.r l x e
    have hne : l ≠ b := fun hh => by
      rw [hh, hb] at r2
      cases r2
      exact r3 _ _ _ rfl
    exact ⟨r1, o, by rw [setRow_other w b l new hne]; exact r2, r3, fun y hy => (r4 y hy).later (fun _ h => h) fun i _ hi => hi⟩

def killTok (H : Hp) : Tok → Hp
  | .tok t => H.upd t none
  | _ => H
def tokLive (H : Hp) (sz : Nat) (e : TypeId) : Tok → Prop
  | .tok t => H t = some .tok ∧ t.sz = sz ∧ t.ty = e
  | .full => True
  | .nil => True
  | .none => False

theorem killTok_cells {H : Hp} {tk : Tok} (i : Id) (avs : List AV) (e : killTok H tk i = some (.cells avs)) : H i = some (.cells avs) := by
  cases tk with
  | tok t =>
    by_cases hi : i = t
    · subst hi; rw [killTok, Hp.upd_same] at e; cases e
    · rwa [killTok, Hp.upd_ne _ _ hi] at e
  | _ => exact e
theorem killTok_tok {H : Hp} {tk : Tok} (i : Id) (e : killTok H tk i = some .tok) : H i = some .tok ∧ ∀ t, tk = .tok t → i ≠ t := by
  cases tk with
  | tok t =>
    by_cases hi : i = t
    · subst hi; rw [killTok, Hp.upd_same] at e; cases e
    · exact ⟨by rwa [killTok, Hp.upd_ne _ _ hi] at e, fun t' ht => by cases ht; exact hi⟩
  | none => exact ⟨e, fun t ht => by cases ht⟩
  | nil => exact ⟨e, fun t ht => by cases ht⟩
  | full => exact ⟨e, fun t ht => by cases ht⟩

theorem RepE.stripped {G : Gh} {ad : Addr} : ∀ (xs : List (List AV)) (k : Nat), RepE G ad k xs → RepE G ad k (xs.map (·.map strip))
  | [], k, _ => by simp [RepE]
  | x :: xs, k, h => by
    simp only [RepE] at h
    simp only [List.map_cons, RepE, List.length_map]
    refine ⟨?_, RepE.stripped xs _ h.2⟩
    obtain ⟨vs, h1, h2⟩ := h.1.values
    exact RepC_of_list _ _ vs h1.strip h2

theorem flatten_strip (xs : List (List AV)) : (xs.map (·.map strip)).flatten = xs.flatten.map strip := by
  induction xs with
  | nil => rfl
  | cons x xs ih => simp only [List.map_cons, List.flatten_cons, List.map_append, ih]

/-- The values of a list's elements. -/
theorem list_values {G : Gh} {tk : Tok} {xs : List (List AV)} {A : Option Addr} {n c sz : Nat} (h : Rep G (.list tk xs) (.slice A n c)) (hsz : ∀ x ∈ xs, x.length = sz) :
    n = xs.length ∧ n ≤ c ∧ tokOk G A n c tk ∧ ∃ vs, RepL G xs.flatten vs ∧ vs.length = n * sz ∧ (xs ≠ [] → ∃ ad, A = some ad) ∧ ∀ ad, A = some ad → ∀ j v, vs[j]? = some v → G.C (ad.add j) = some v := by
  simp only [Rep] at h
  obtain ⟨A', n', c', he, hn, hc, ht, hun, ad, ha, hre⟩ := h
  simp only [Value.slice.injEq] at he
  obtain ⟨rfl, rfl, rfl⟩ := he
  subst hn
  obtain ⟨vs, h1, h2⟩ := (RepE.flat xs 0 hre).values
  have hl := h1.length
  rw [flatten_length xs hsz] at hl
  refine ⟨rfl, hc, ht, vs, h1, hl.symm, fun hx => ⟨ad, ha hx⟩, fun ad' had j v hj => ?_⟩
  have hx : xs ≠ [] := by
    rintro rfl
    simp only [List.flatten_nil, RepL] at h1
    subst h1
    simp at hj
  rw [ha hx] at had
  cases had
  simpa using h2 j v hj

/-- A string's bytes, each in a cell. -/
def bytesA (s : ByteArray) : List (List AV) := s.data.toList.map fun b => [.int .u8 b.toNat]
theorem bytesA_length (s : ByteArray) : (bytesA s).length = s.size := by
  unfold bytesA
  rw [List.length_map, Array.length_toList]
  rfl
theorem bytesA_each (s : ByteArray) : ∀ x ∈ bytesA s, x.length = 1 := by
  intro x hx
  obtain ⟨b, _, rfl⟩ := List.mem_map.1 hx
  rfl
theorem bytesA_rep (G : Gh) (s : ByteArray) : RepL G (bytesA s).flatten (byteCells s) := by
  unfold bytesA byteCells
  generalize s.data.toList = l
  induction l with
  | nil => simp [RepL]
  | cons b l ih =>
    simp only [List.map_cons, List.flatten_cons, List.cons_append, List.nil_append, RepL]
    exact ⟨_, _, rfl, by simp [Rep], ih⟩

/-- What is appended: a list's elements, or a string's bytes. -/
def srcA (tab : Tab) (sz : Nat) (t : TypeId) : AV → Option (Prop × List (List AV))
  | .list _ ys => match tab t with
    | some ⟨.slice _, _, _, _⟩ => some (∀ y ∈ ys, y.length = sz, ys)
    | _ => none
  | .raw (.string s) => match tab t with
    | some ⟨.string, _, _, _⟩ => some (sz = 1, bytesA s)
    | _ => none
  | _ => none

theorem src_ok (h : TabOk P tab) {sz : Nat} {t : TypeId} {v : AV} {ψ : Prop} {ys : List (List AV)} (e : srcA tab sz t v = some (ψ, ys)) (hψ : ψ) (h1 : ys.flatten.all oneA = true) {G : Gh} {w : World} (hc : ∀ a u, G.C a = some u → w.cell? a = some u) {X : Value} (hr : Rep G v X) :
    (∀ y ∈ ys, y.length = sz) ∧ ∃ us, Src P sz t X ys.length us w ∧ RepL G ys.flatten us := by
  unfold srcA at e
  split at e <;> try cases e
  · rename_i tk ys'
    split at e <;> cases e
    rename_i e' b1 b2 z' ht
    have hr0 := hr
    simp only [Rep] at hr0
    obtain ⟨A, m, c, rfl, _⟩ := hr0
    obtain ⟨hm, hmc, _, us, u1, u2, u3, u4⟩ := list_values hr hψ
    have hone := oneA_list u1 h1
    refine ⟨hψ, us, ?_, u1⟩
    subst hm
    cases A with
    | none =>
      have hy : ys = [] := by
        by_cases hy : ys = []
        · exact hy
        · obtain ⟨ad, had⟩ := u3 hy
          cases had
      subst hy
      have hus : us = [] := List.eq_nil_of_length_eq_zero (by simpa using u2)
      subst hus
      exact Src.ofNil w (h.slice ht) c
    | some ad => exact Src.ofSlice w (h.slice ht) ad _ c us u2 (fun j u hj => hc _ _ (u4 ad rfl j u hj)) hone
  · rename_i s
    split at e <;> cases e
    rename_i b1 b2 z' ht
    subst hψ
    simp only [Rep] at hr
    subst hr
    refine ⟨bytesA_each s, byteCells s, ?_, bytesA_rep G s⟩
    rw [bytesA_length]
    exact Src.ofString w (h.str ht) s

/-- The token of what came of an append: of one without room, to which nothing was appended, there is none. -/
def tokBy (tk : Tok) (ys : List (List AV)) (id : Id) : Tok := match tk, ys with
  | .full, [] => .full
  | .nil, [] => .nil
  | _, _ => .tok id

theorem OpOk.append (h : TabOk P tab) {o : Oper} {ρ : Operand → AV} {t t' e : TypeId} {a1 a2 : Nat} {z : Value} {te : TI} {s x : Operand} {tk : Tok} {xs ys : List (List AV)} {ψ : Prop}
    (ho : o.op = .call { callee := .builtin .append, args := #[s, x], argTypes := #[t, t'] }) (ht : tab t = some ⟨.slice e, a1, a2, z⟩) (hte : tab e = some te) (hs : ρ s = .list tk xs) (hx : srcA tab te.size t' (ρ x) = some (ψ, ys)) (hψ : ψ)
    (hxs : ∀ y ∈ xs, y.length = te.size) (hp : 0 < te.size) (hz : (absC te.zero).cells.length = te.size) (h1 : ys.flatten.all oneA = true)
    (hb : (xs.length + ys.length) * te.bytes ≤ 140737488355328) (hm : xs.length + ys.length ≤ 4611686018427387904) (H : Hp) (hl : tokLive H te.size e tk) :
    OpOk P w0 k o ρ H ((killTok H tk).upd ⟨te.size, k, e⟩ (some .tok)) (.list (tokBy tk ys ⟨te.size, k, e⟩) (xs ++ ys.map (·.map strip))) := by
  intro G w a hsim hf hr K Q hK
  obtain ⟨i, d, i1, i2, i3, i4, i5, i6⟩ := h _ _ hte
  have hu := h.slice ht
  have hid := (hf ⟨te.size, k, e⟩ (List.suffix_refl _)).2
  have hS := hr s (by simp [ho, Op.operands, Call.operands])
  have hX := hr x (by simp [ho, Op.operands, Call.operands])
  rw [hs] at hS
  generalize hSv : a.eval s = S at hS
  generalize hXv : a.eval x = X at hX
  have hS0 := hS
  simp only [Rep] at hS0
  obtain ⟨A, n, c, rfl, _⟩ := hS0
  obtain ⟨hn, hnc, htok, vs, v1, v2, v3, v4⟩ := list_values hS hxs
  obtain ⟨hys, us, hsrc, u1⟩ := src_ok (P := P) h hx hψ h1 hsim.c hX
  obtain ⟨m, hm'⟩ : ∃ m, m = ys.length := ⟨_, rfl⟩
  rw [← hm'] at hsrc
  have u2 := hsrc.newsLen
  have hone := hsrc.one
  rw [← i4] at hsrc
  have hbe : (n + m) * i.bytes ≤ 140737488355328 := by rw [i5, hn, hm']; exact hb
  have hnm : n + m ≤ 4611686018427387904 := by omega
  have hsimK : Sim w0 G (killTok H tk) w := hsim.forget fun j e' hj => by
    cases tk with
    | tok t0 =>
      by_cases hjt : j = t0
      · subst hjt; rw [killTok, Hp.upd_same] at hj; cases hj
      · rwa [killTok, Hp.upd_ne _ _ hjt] at hj
    | _ => exact hj
  have hcells : ∀ j avs, ((killTok H tk).upd ⟨te.size, k, e⟩ (some .tok)) j = some (.cells avs) → (killTok H tk) j = some (.cells avs) := fun j avs e' => by
    by_cases hj : j = ⟨te.size, k, e⟩
    · subst hj; rw [Hp.upd_same] at e'; cases e'
    · rwa [Hp.upd_ne _ _ hj] at e'
  have htoks : ∀ j, j ≠ ⟨te.size, k, e⟩ → ((killTok H tk).upd ⟨te.size, k, e⟩ (some .tok)) j = some .tok → (killTok H tk) j = some .tok := fun j hj e' => by rwa [Hp.upd_ne _ _ hj] at e'
  have hres : ∀ (G' : Gh) (w' : World) (ad : Addr) (cc : Nat), G.Le G' → RepC G' ad 0 (xs.flatten ++ ys.flatten) → n + m ≤ cc → tokOk G' (some ad) (n + m) cc (.tok ⟨te.size, k, e⟩) → m ≠ 0 →
      Rep G' (.list (tokBy tk ys ⟨te.size, k, e⟩) (xs ++ ys.map (·.map strip))) (.slice (some ad) (n + m) cc) := by
    intro G' w' ad cc hle hrc hcc htk hm0
    have hty : tokBy tk ys ⟨te.size, k, e⟩ = .tok ⟨te.size, k, e⟩ := by
      cases ys with
      | nil => simp at hm'; omega
      | cons y ys => cases tk <;> rfl
    rw [hty]
    simp only [Rep]
    refine ⟨_, _, _, rfl, by simp [hn, hm'], hcc, htk, ⟨te.size, fun y hy => ?_⟩, ad, fun _ => rfl, RepE_of_list _ _ ?_⟩
    · rcases List.mem_append.1 hy with hy | hy
      · exact hxs y hy
      · obtain ⟨y', hy', rfl⟩ := List.mem_map.1 hy
        simpa using hys y' hy'
    · rw [List.flatten_append, flatten_strip]
      have := (RepC.split _ _ 0).1 hrc
      refine (RepC.split _ _ 0).2 ⟨this.1, ?_⟩
      obtain ⟨vs2, q1, q2⟩ := this.2.values
      exact RepC_of_list _ _ vs2 q1.strip q2
  unfold Oper.wp
  have hexec : ∀ v w', (Builtin.append_ #[t, t'] o.type #[.slice A n c, X]).run P w = .ok v w' → (execOp a.eval o).run P w = .ok (.value v) w' := by
    intro v w' hrun
    simp only [execOp, ho, resolve, invoke, builtin, Sem.run_bind, Sem.run_pure, Result.andThen_ok, List.map_toArray, List.map_cons, List.map_nil, hSv, hXv, hrun]
  by_cases hm0 : m = 0
  · -- nothing is appended
    subst hm0
    have hy0 : ys = [] := List.eq_nil_of_length_eq_zero (by omega)
    subst hy0
    have hus : us = [] := List.eq_nil_of_length_eq_zero (by simpa using u2)
    subst hus
    have hrun := hexec _ _ (run_append_nothing (P := P) w t t' o.type e i hu i1 A n c hnc X hsrc)
    rw [hrun]
    have hdone : ∀ x0, Sim w0 (G.withτ ⟨te.size, k, e⟩ x0) ((killTok H tk).upd ⟨te.size, k, e⟩ (some .tok)) w → tokOk (G.withτ ⟨te.size, k, e⟩ x0) A n c (tokBy tk [] ⟨te.size, k, e⟩) →
        (Oper.upon P o a K Q (Result.ok (Next.value (Value.slice A n c)) w)) := by
      intro x0 hs0 hk0
      refine hK _ _ _ (Gh.le_withτ hid) (New.τ (List.suffix_refl _)) hs0 ?_
      have hS' := Rep.mono (Gh.le_withτ (x := x0) hid) _ _ hS
      simp only [List.map_nil, List.append_nil, Rep] at hS' ⊢
      obtain ⟨A2, n2, c2, e2, q1, q2, _, q4⟩ := hS'
      simp only [Value.slice.injEq] at e2
      obtain ⟨rfl, rfl, rfl⟩ := e2
      exact ⟨_, _, _, rfl, q1, q2, hk0, q4⟩
    cases tk with
    | none => exact hl.elim
    | nil => exact hdone none (hsimK.newTok ⟨te.size, k, e⟩ hid none hcells htoks fun _ _ _ _ e2 => by cases e2) htok
    | full => exact hdone none (hsimK.newTok ⟨te.size, k, e⟩ hid none hcells htoks fun _ _ _ _ e2 => by cases e2) htok
    | tok t0 =>
      obtain ⟨b, T, hτ, hA⟩ := htok
      refine hdone (some (b, n, c, T)) (hsimK.newTok ⟨te.size, k, e⟩ hid _ hcells htoks fun b2 m2 c2 T2 e2 => ?_) ⟨b, T, by simp [Gh.withτ], hA⟩
      cases e2
      rcases hsim.t t0 hl.1 with g | ⟨b', m', c1, T', cs, g1, g2, g3, g4, g5, g6⟩
      · rw [hτ] at g; cases g
      rw [hτ] at g1
      simp only [Option.some.injEq, Prod.mk.injEq] at g1
      obtain ⟨rfl, rfl, rfl, rfl⟩ := g1
      refine ⟨g2, ⟨cs, g3, by rw [← hl.2.1]; exact g5⟩, ⟨g4.1, g4.2.trans hl.2.2⟩, fun a' ha' ho' => g6 a' ha' (by rw [hl.2.1]; exact ho'), fun i' hi' => hsim.vt i' t0 b _ hi' hl.1 hτ, fun j hj hjt y hy => ?_⟩
      obtain ⟨q1, q2⟩ := killTok_tok j (htoks j hj hjt)
      exact q2 t0 rfl (hsim.tinj j t0 b y _ q1 hl.1 hy hτ)
  · by_cases hroom : n + m ≤ c
    · -- there is room
      cases tk with
      | none => exact hl.elim
      | nil => exact absurd (show A = none ∧ c = 0 from htok).2 (by omega)
      | full => exact absurd (show c = n from htok) (by omega)
      | tok t0 =>
        obtain ⟨b, T, hτ, hA⟩ := htok
        subst hA
        rcases hsim.t t0 hl.1 with g | ⟨b', m', c1, T', cs, g1, g2, g3, g4, g5, g6⟩
        · rw [hτ] at g; cases g
        rw [hτ] at g1
        simp only [Option.some.injEq, Prod.mk.injEq] at g1
        obtain ⟨rfl, rfl, rfl, rfl⟩ := g1
        have hsz : t0.sz = te.size := hl.2.1
        rw [hsz] at g5 g6
        have hfit : n * te.size + us.length ≤ cs.size := by rw [u2, ← Nat.add_mul]; exact Nat.le_trans (Nat.mul_le_mul_right _ hroom) g5
        have hst := run_storeCells_at P b (n * te.size) T us 0 cs w g3 (by simpa using hfit) hone
        simp only [Nat.add_zero] at hst
        have hrun := hexec (.slice (some ⟨b, 0, none⟩) (n + m) c) (w.setRow b (cs.toList.take (n * te.size) ++ us ++ cs.toList.drop (n * te.size + us.length)).toArray) (by
          have e4 : (sizeOf e).run P w = .ok te.size w := h.sizeOf hte w
          have hcl := hsrc.cells
          rw [i4] at hcl
          rcases hsrc.kind with ⟨e', hk⟩ | hk <;> simp [Builtin.append_, run_underlying hu, run_underlying hk, e4, hsrc.len, hroom, hcl, Addr.add_lit, hst])
        rw [hrun]
        generalize hnew : (cs.toList.take (n * te.size) ++ us ++ cs.toList.drop (n * te.size + us.length)) = new
        have hnl : new.toArray.size = cs.size := by
          rw [← hnew]
          simp only [List.size_toArray, List.length_append, List.length_take, List.length_drop, Array.length_toList]
          omega
        have hold : ∀ j, j < n * te.size → new.toArray[j]? = cs[j]? := fun j hj => by
          rw [← hnew]
          simp only [List.getElem?_toArray, List.append_assoc]
          rw [List.getElem?_append_left (by simp only [List.length_take, Array.length_toList]; omega), List.getElem?_take, if_pos hj]
          simp
        have hmid : ∀ j v, us[j]? = some v → new.toArray[n * te.size + j]? = some v := fun j v hj => by
          have hjl : j < us.length := (List.getElem?_eq_some_iff.1 hj).1
          rw [← hnew]
          simp only [List.getElem?_toArray]
          rw [List.getElem?_append_left (by simp only [List.length_append, List.length_take, Array.length_toList]; omega), List.getElem?_append_right (by simp only [List.length_take, Array.length_toList]; omega)]
          rw [show n * te.size + j - (cs.toList.take (n * te.size)).length = j by simp only [List.length_take, Array.length_toList]; omega]
          exact hj
        have hr1 : Sim w0 G H (w.setRow b new.toArray) := hsim.roomed t0 hl.1 hτ g3 new.toArray hnl (by rw [hsz]; exact hold)
        have hr1K : Sim w0 G (killTok H (.tok t0)) (w.setRow b new.toArray) := hr1.forget fun j e' hj => by
          by_cases hjt : j = t0
          · subst hjt; rw [killTok, Hp.upd_same] at hj; cases hj
          · rwa [killTok, Hp.upd_ne _ _ hjt] at hj
        have hheap := setRow_heap w b cs new.toArray T (0, 0) g3
        have hr2 := hr1K.withC (viewFrom b new.toArray (n * te.size) ((n + m) * te.size)) (viewFrom_cell hheap)
          (fun i' b2 hi' a' ha' => by
            have hne : a'.block ≠ b := fun hh => hsim.vt i' t0 b _ (by rw [← hh, ha']; exact hi') hl.1 hτ
            simp [viewFrom, hne])
          (fun i' b2 m2 c2 T2 hi' hti a' ha' _ => by
            obtain ⟨q1, q2⟩ := killTok_tok i' hi'
            have hne : a'.block ≠ b := fun hh => q2 t0 rfl (hsim.tinj i' t0 b _ _ q1 hl.1 (by rw [← hh, ha']; exact hti) hτ)
            simp [viewFrom, hne])
        have hleC := G.le_withC (viewFrom b new.toArray (n * te.size) ((n + m) * te.size))
        have hr3 := hr2.newTok (H' := (killTok H (.tok t0)).upd ⟨te.size, k, e⟩ (some .tok)) ⟨te.size, k, e⟩ hid (some (b, n + m, c, T)) hcells htoks fun b2 m2 c2 T2 e2 => by
          cases e2
          refine ⟨g2, ⟨new.toArray, hheap, by rw [hnl]; exact g5⟩, ⟨hroom, g4.2.trans hl.2.2⟩, fun a' ha' ho' => ?_, fun i' hi' => hsim.vt i' t0 b _ hi' hl.1 hτ, fun j hj hjt y hy => ?_⟩
          · have ho2 : (n + m) * te.size ≤ a'.off := ho'
            have h7 : n * te.size ≤ a'.off := Nat.le_trans (Nat.mul_le_mul_right _ (by omega)) ho2
            simp only [Gh.withC, g6 a' ha' h7, Option.none_or, viewFrom]
            rw [if_neg (fun hh => absurd hh.2.2.2 (Nat.not_lt.2 ho2))]
          · obtain ⟨q1, q2⟩ := killTok_tok j (htoks j hj hjt)
            exact q2 t0 rfl (hsim.tinj j t0 b y _ q1 hl.1 hy hτ)
        refine hK _ _ _ (hleC.trans (Gh.le_withτ hid)) (fun i' hi' => ⟨rfl, (New.τ (List.suffix_refl _) i' hi').2⟩) hr3 ?_
        refine hres _ (w.setRow b new.toArray) ⟨b, 0, none⟩ c (hleC.trans (Gh.le_withτ hid)) ?_ hroom ⟨b, T, by simp [Gh.withτ], rfl⟩ hm0
        have hle3 := hleC.trans (Gh.le_withτ (x := some (b, n + m, c, T)) (G := G.withC (viewFrom b new.toArray (n * te.size) ((n + m) * te.size))) hid)
        refine RepC_of_list _ 0 (vs ++ us) (RepL.append (RepL.mono hle3 _ _ v1) (RepL.mono hle3 _ _ u1)) fun j v hj => ?_
        rw [Nat.zero_add]
        by_cases hjv : j < vs.length
        · rw [List.getElem?_append_left hjv] at hj
          exact hle3.C _ _ (v4 _ rfl j v hj)
        · rw [List.getElem?_append_right (by omega)] at hj
          have hju : j - vs.length < us.length := (List.getElem?_eq_some_iff.1 hj).1
          have hm1 := hmid (j - vs.length) v hj
          rw [v2] at hm1 hju hjv
          rw [show n * te.size + (j - n * te.size) = j by omega] at hm1
          rw [add_at]
          have hc0 : G.C ⟨b, j, none⟩ = none := g6 _ rfl (show n * te.size ≤ j by omega)
          show (G.withC _).C _ = _
          refine G.withC_new hc0 ?_
          simp only [viewFrom]
          rw [if_pos ⟨trivial, trivial, by omega, by rw [Nat.add_mul]; omega⟩]
          exact hm1
    · -- a new row
      have hge := grownCap_ge w (n + m) c e
      have hzs : te.zero.cells.size = te.size := by rw [← (rep_absC G te.zero).cells.size]; exact hz
      have hold : (Builtin.firstCells i.size n (.slice A n c)).run P w.drew = .ok vs.toArray w.drew := by
        rw [i4]
        cases A with
        | none =>
          have hx0 : xs = [] := by
            by_cases hx : xs = []
            · exact hx
            · obtain ⟨ad, had⟩ := v3 hx
              cases had
          subst hx0
          have hvs : vs = [] := List.eq_nil_of_length_eq_zero (by rw [v2, hn]; simp)
          subst hvs
          exact run_firstCells_none w.drew te.size n n c
        | some ad =>
          have hcd : ∀ j v, vs[j]? = some v → w.drew.cell? (ad.add j) = some v := fun j v hj => by
            have := hsim.c _ _ (v4 ad rfl j v hj)
            simpa using this
          exact run_firstCells_some (P := P) w.drew te.size n ad n c vs v2 hcd
      have hrun := hexec _ _ (run_append_grow_src (P := P) w t t' o.type e i te.zero hu i1 i6 A n c vs hold X m us hsrc (by omega) (by omega) (growslice_fits (by omega) hbe))
      rw [hrun]
      generalize hrw : ((vs ++ us).toArray ++ Builtin.zeroCells te.zero.cells (grownCap w (n + m) c e - (n + m))) = row
      generalize hcap' : grownCap w (n + m) c e = cap at *
      have hrow : cap * te.size ≤ row.size := by
        rw [← hrw]
        simp only [Array.size_append, List.size_toArray, List.length_append, size_zeroCells, hzs, u2, v2, ← Nat.add_mul]
        rw [Nat.add_sub_cancel' hge]
        exact Nat.le_refl _
      have htk : (vs ++ us).length = (n + m) * te.size := by rw [List.length_append, v2, u2, Nat.add_mul]
      have htake : row.toList.take ((n + m) * te.size) = vs ++ us := by
        rw [← hrw]
        simp only [Array.toList_append]
        rw [← htk]
        exact List.take_left
      have hs1 := hsimK.drew.alloc (.cells row e)
      have hnb : (w.drew.alloc (.cells row e)).heap[w.heap.size]? = some (.cells row e (0, 0)) := new_block (w := w.drew)
      have hgone : ∀ a' : Addr, a'.block = w.heap.size → G.C a' = none := fun a' ha' => by
        cases hc : G.C a' with
        | none => rfl
        | some u => have := hsim.lt_of_C hc; omega
      have hnoσ : ∀ i', G.σ i' ≠ some w.heap.size := fun i' hi' => by have := hsim.lt_of_σ hi'; omega
      have hnoτ : ∀ j, H j = some .tok → ∀ y, G.τ j ≠ some (some (w.heap.size, y)) := fun j hj y hy => by
        rcases hsim.t j hj with g | ⟨b', m', c1, T', cs, g1, g2, g3, _⟩
        · rw [hy] at g; cases g
        · rw [hy] at g1
          simp only [Option.some.injEq, Prod.mk.injEq] at g1
          have := (Array.getElem?_eq_some_iff.1 g3).1
          omega
      have hs2 := hs1.withC (viewFrom w.heap.size row 0 ((n + m) * te.size)) (viewFrom_cell hnb)
        (fun i' b2 hi' a' ha' => by
          have hne : a'.block ≠ w.heap.size := fun hh => hnoσ i' (by rw [← hh, ha']; exact hi')
          simp [viewFrom, hne])
        (fun i' b2 m2 c2 T2 hi' hti a' ha' _ => by
          have hne : a'.block ≠ w.heap.size := fun hh => hnoτ i' (killTok_tok i' hi').1 _ (by rw [← hh, ha']; exact hti)
          simp [viewFrom, hne])
      have hleC := G.le_withC (viewFrom w.heap.size row 0 ((n + m) * te.size))
      have hs3 := hs2.newTok (H' := (killTok H tk).upd ⟨te.size, k, e⟩ (some .tok)) ⟨te.size, k, e⟩ hid (some (w.heap.size, n + m, cap, e)) hcells htoks fun b2 m2 c2 T2 e2 => by
        cases e2
        refine ⟨hsim.base, ⟨row, hnb, hrow⟩, ⟨hge, rfl⟩, fun a' ha' ho' => ?_, hnoσ, fun j hj hjt y hy => hnoτ j (killTok_tok j (htoks j hj hjt)).1 y hy⟩
        have ho2 : (n + m) * te.size ≤ a'.off := ho'
        simp only [Gh.withC, hgone a' ha', Option.none_or, viewFrom]
        rw [if_neg (fun hh => absurd hh.2.2.2 (Nat.not_lt.2 ho2))]
      have hle3 := hleC.trans (Gh.le_withτ (x := some (w.heap.size, n + m, cap, e)) (G := G.withC (viewFrom w.heap.size row 0 ((n + m) * te.size))) hid)
      refine hK _ _ _ hle3 (fun i' hi' => ⟨rfl, (New.τ (List.suffix_refl _) i' hi').2⟩) hs3 ?_
      refine hres _ (w.drew.alloc (.cells row e)) ⟨w.heap.size, 0, none⟩ cap hle3 ?_ hge ⟨_, e, by simp [Gh.withτ], rfl⟩ hm0
      refine RepC_of_list _ 0 (vs ++ us) (RepL.append (RepL.mono hle3 _ _ v1) (RepL.mono hle3 _ _ u1)) fun j v hj => ?_
      rw [Nat.zero_add, add_at]
      have hjl : j < (vs ++ us).length := (List.getElem?_eq_some_iff.1 hj).1
      have hjl2 : j < (n + m) * te.size := by rw [← htk]; exact hjl
      show (G.withC _).C _ = _
      refine G.withC_new (hgone _ rfl) ?_
      simp only [viewFrom]
      rw [if_pos ⟨trivial, trivial, by omega, hjl2⟩]
      rw [← htake, List.getElem?_take, if_pos hjl2] at hj
      simpa using hj

end
end Go.Proofs.YtkdendaohlnlcaaDoor.Av
