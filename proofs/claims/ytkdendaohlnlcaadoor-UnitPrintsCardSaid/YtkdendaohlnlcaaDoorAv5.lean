/- The model's operations answer what is said of them: the rest, and all of them in one. No condition. -/
import Derived.Test.YtkdendaohlnlcaaDoorAv4
namespace Go.Proofs.YtkdendaohlnlcaaDoor.Av
set_option linter.unusedVariables false
set_option linter.unusedSimpArgs false
open Go.RowKit

section
variable {P : Program} {tab : Tab}

theorem RepL.mem {G : Gh} : ∀ {as : List AV} {vs : List Value}, RepL G as vs → ∀ i : Nat, ∀ a, as[i]? = some a → ∃ v, vs[i]? = some v ∧ Rep G a v
  | [], _, _, i, a, e => by simp at e
  | x :: as, _, h, 0, a, e => by
    simp only [RepL] at h
    obtain ⟨u, us, rfl, h1, _⟩ := h
    simp at e
    subst e
    exact ⟨u, rfl, h1⟩
  | x :: as, _, h, i + 1, a, e => by
    simp only [RepL] at h
    obtain ⟨u, us, rfl, _, h2⟩ := h
    simpa using RepL.mem h2 i a (by simpa using e)

theorem extractA_ok {i : Nat} {x v : AV} {φ : Prop} (e : extractA i x = some (φ, v)) (G : Gh) (w : World) {X : Value} (hr : Rep G x X) :
    ∃ V, (Instr.extract X i).run P w = .ok V w ∧ Rep G v V := by
  unfold extractA at e
  split at e <;> try cases e
  rename_i vs
  split at e <;> try cases e
  rename_i u hu
  simp only [Rep] at hr
  obtain ⟨cs, rfl, hc⟩ := hr
  obtain ⟨V, hV, hR⟩ := hc.mem i _ hu
  exact ⟨V, by simp [Instr.extract, hV], hR⟩

theorem unA_ok {op : UnOp} {x v : AV} {φ : Prop} (e : unA op x = some (φ, v)) (hφ : φ) (G : Gh) (w : World) {X : Value} (hr : Rep G x X) :
    ∃ V, (Op.unary op X).run P w = .ok V w ∧ Rep G v V := by
  unfold unA at e
  split at e <;> try cases e
  · simp only [Rep] at hr
    subst hr
    split at e <;> cases e
    exact ⟨_, by simp [Op.unary]; rfl, by simp [Rep]⟩
  · rename_i k n
    simp only [Rep] at hr
    subst hr
    split at e <;> try cases e
    · exact ⟨_, by simp [Op.unary, Op.intArith]; rfl, by simp [Rep]⟩
    · exact ⟨_, by simp [Op.unary, Op.intBits]; rfl, by simp [Rep]⟩

theorem convA_ok (h : TabOk P tab) {s d : TypeId} {x v : AV} {φ : Prop} (e : convA tab s d x = some (φ, v)) (G : Gh) (w : World) {X : Value} (hr : Rep G x X) :
    ∃ V, (convert s d X).run P w = .ok V w ∧ Rep G v V := by
  unfold convA at e
  split at e <;> try cases e
  · simp only [Rep] at hr
    subst hr
    split at e <;> try cases e
    rename_i hs hd
    exact ⟨_, by simp [convert, run_underlying (h.int hs), run_underlying (h.int hd), Conv.intToInt]; rfl, by simp [Rep]⟩
  · simp only [Rep] at hr
    subst hr
    split at e <;> try cases e
    rename_i hs hd
    exact ⟨_, by simp [convert, run_underlying (h.str hs), run_underlying (h.str hd)]; rfl, by simp [Rep]⟩

theorem TabOk.ptr (h : TabOk P tab) {t e : TypeId} {a b : Nat} {z : Value} (k : tab t = some ⟨.pointer e, a, b, z⟩) : P.underlying t = some (.pointer e) := by
  obtain ⟨i, d, _, h2, h3, _⟩ := h t _ k
  rw [h2]
  cases d <;> simp_all [tdOf]
theorem ptrEq_ok (h : TabOk P tab) {t e : TypeId} {a b : Nat} {z : Value} (k : tab t = some ⟨.pointer e, a, b, z⟩) {te : TI} (ke : tab e = some te) (hp : 0 < te.size) {x y : AV} {r : Bool} (er : ptrEq x y = some r) {G : Gh} {X Y : Value} (hx : Rep G x X) (hy : Rep G y Y) (w : World) :
    (Op.equal t X Y).run P w = .ok r w ∧ (∃ p, X = .pointer p) ∧ ∃ p, Y = .pointer p := by
  have hu := h.ptr k
  have hsz : (sizeOf e).run P w = .ok te.size w := h.sizeOf ke w
  have e1 : (Op.equal t (.pointer none) (.pointer none)).run P w = .ok true w := by
    have : ∀ d, (Op.equalIn (d + 1) t (.pointer none) (.pointer none)).run P w = .ok true w := fun d => by simp [Op.equalIn, run_underlying hu]
    exact this 9999
  have e2 : ∀ A, (Op.equal t (.pointer none) (.pointer (some A))).run P w = .ok false w := fun A => by
    have : ∀ d, (Op.equalIn (d + 1) t (.pointer none) (.pointer (some A))).run P w = .ok false w := fun d => by simp [Op.equalIn, run_underlying hu]
    exact this 9999
  have e3 : ∀ A, (Op.equal t (.pointer (some A)) (.pointer none)).run P w = .ok false w := fun A => by
    have : ∀ d, (Op.equalIn (d + 1) t (.pointer (some A)) (.pointer none)).run P w = .ok false w := fun d => by simp [Op.equalIn, run_underlying hu]
    exact this 9999
  have e4 : ∀ A, (Op.equal t (.pointer (some A)) (.pointer (some A))).run P w = .ok true w := fun A => by
    have : ∀ d, (Op.equalIn (d + 1) t (.pointer (some A)) (.pointer (some A))).run P w = .ok true w := fun d => by
      simp [Op.equalIn, run_underlying hu, hsz, sameAddr, show te.size ≠ 0 by omega]
    exact this 9999
  unfold ptrEq at er
  split at er
  · cases er; simp only [Rep] at hx hy; subst hx hy; exact ⟨e1, ⟨_, rfl⟩, _, rfl⟩
  · cases er; simp only [Rep] at hx hy; obtain ⟨b, _, rfl⟩ := hy; subst hx; exact ⟨e2 _, ⟨_, rfl⟩, _, rfl⟩
  · cases er; simp only [Rep] at hx hy; obtain ⟨b, rfl, _⟩ := hy; subst hx; exact ⟨e2 _, ⟨_, rfl⟩, _, rfl⟩
  · cases er; simp only [Rep] at hx hy; obtain ⟨b, _, rfl⟩ := hx; subst hy; exact ⟨e3 _, ⟨_, rfl⟩, _, rfl⟩
  · cases er; simp only [Rep] at hx hy; obtain ⟨b, rfl, _⟩ := hx; subst hy; exact ⟨e3 _, ⟨_, rfl⟩, _, rfl⟩
  · split at er <;> cases er
    rename_i hij
    obtain ⟨rfl, rfl⟩ := hij
    simp only [Rep] at hx hy
    obtain ⟨b, hb, rfl⟩ := hx
    obtain ⟨b', hb', rfl⟩ := hy
    rw [hb] at hb'
    cases hb'
    exact ⟨e4 _, ⟨_, rfl⟩, _, rfl⟩
  · cases er

theorem binA_ok (h : TabOk P tab) {op : BinOp} {t : TypeId} {x y v : AV} {φ : Prop} (e : binA tab op t x y = some (φ, v)) (hφ : φ) (G : Gh) (w : World) {X Y : Value} (xo yo : Operand) (hx : Rep G x X) (hy : Rep G y Y) :
    ∃ V, (do eqGuard op t xo yo X Y; binOp op t X Y : Sem Value).run P w = .ok V w ∧ Rep G v V := by
  unfold binA at e
  split at e <;> try cases e
  · simp only [Rep] at hx hy
    subst hx hy
    obtain ⟨V, rfl, hV⟩ := binInt_ok P w t e hφ
    refine ⟨V, ?_, by simp [Rep]⟩
    rw [Sem.run_bind, run_eqGuard_bool P w _ _ _ _ _ _ (by simp) (by simp)]
    exact hV
  · simp only [Rep] at hx hy
    subst hx hy
    obtain ⟨V, rfl, hV⟩ := binStr_ok P w t e hφ
    refine ⟨V, ?_, by simp [Rep]⟩
    rw [Sem.run_bind, run_eqGuard_bool P w _ _ _ _ _ _ (by simp) (by simp)]
    exact hV
  · simp only [Rep] at hx hy
    subst hx hy
    rename_i a b
    split at e <;> try cases e
    rename_i ht
    have hu := h.bl ht
    have heqd : ∀ d, (Op.equalIn (d + 1) t (.bool a) (.bool b)).run P w = .ok (a == b) w := fun d => by simp [Op.equalIn, run_underlying hu]
    have heq : (Op.equal t (.bool a) (.bool b)).run P w = .ok (a == b) w := heqd 9999
    unfold binBool at e
    split at e <;> cases e
    · refine ⟨_, ?_, by simp [Rep]; rfl⟩
      rw [Sem.run_bind, run_eqGuard_bool P w _ _ _ _ _ _ (by simp) (by simp)]
      simp [binOp, heq]
    · refine ⟨_, ?_, by simp [Rep]; rfl⟩
      rw [Sem.run_bind, run_eqGuard_bool P w _ _ _ _ _ _ (by simp) (by simp)]
      simp [binOp, heq]
  · unfold binPtr at e
    split at e <;> try cases e
    rename_i el b1 b2 z ht
    split at e <;> try cases e
    rename_i te hte
    split at e <;> try cases e
    rename_i r hr
    split at e <;> cases e
    · obtain ⟨h1, ⟨p, rfl⟩, q, rfl⟩ := ptrEq_ok h ht hte hφ hr hx hy w
      refine ⟨_, ?_, by simp [Rep]; rfl⟩
      rw [Sem.run_bind, run_eqGuard_bool P w _ _ _ _ _ _ (by simp) (by simp)]
      simp [binOp, h1]
    · obtain ⟨h1, ⟨p, rfl⟩, q, rfl⟩ := ptrEq_ok h ht hte hφ hr hx hy w
      refine ⟨_, ?_, by simp [Rep]; rfl⟩
      rw [Sem.run_bind, run_eqGuard_bool P w _ _ _ _ _ _ (by simp) (by simp)]
      simp [binOp, h1]

theorem run_sliceBound_in (w : World) (k : IntKind) (i : Int) (y : Nat) (c : BoundsCode) (h : 0 ≤ i ∧ i ≤ y) : (Instr.sliceBound (.int k i) y c).run P w = .ok i.toNat w := by
  unfold Instr.sliceBound
  simp [asIntOf, h]

theorem RepE.split {G : Gh} {ad : Addr} {sz : Nat} : ∀ (xs ys : List (List AV)) (k : Nat), (∀ x ∈ xs, x.length = sz) → (RepE G ad k (xs ++ ys) ↔ RepE G ad k xs ∧ RepE G ad (k + xs.length * sz) ys)
  | [], ys, k, _ => by simp [RepE]
  | x :: xs, ys, k, h => by
    simp only [List.cons_append, RepE, RepE.split xs ys (k + x.length) (fun y hy => h y (by simp [hy])), List.length_cons]
    rw [h x (by simp), show k + sz + xs.length * sz = k + (xs.length + 1) * sz by rw [Nat.succ_mul]; omega]
    exact and_assoc.symm

theorem RepE.shift {G : Gh} {ad : Addr} (m : Nat) : ∀ (xs : List (List AV)) (k : Nat), RepE G (ad.add m) k xs ↔ RepE G ad (m + k) xs
  | [], k => by simp [RepE]
  | x :: xs, k => by
    simp only [RepE, RepE.shift m xs (k + x.length), RepC.shift]
    rw [show m + (k + x.length) = m + k + x.length by omega]

theorem uniform_of {xs ys : List (List AV)} (h : uniform xs) (hs : ∀ y ∈ ys, y ∈ xs) : uniform ys := by
  obtain ⟨sz, hz⟩ := h
  exact ⟨sz, fun y hy => hz y (hs y hy)⟩

/-- A cut of a list. -/
theorem rep_cut {G : Gh} {tk : Tok} {xs : List (List AV)} {A : Option Addr} {n c sz : Nat} (hr : Rep G (.list tk xs) (.slice A n c)) (l h m : Nat) (hl : l ≤ h) (hh : h ≤ n) (hm : h ≤ m) (hmc : m ≤ c) (hsz : (∀ x ∈ xs, x.length = sz) ∨ l = 0) :
    Rep G (.list .none ((xs.take h).drop l)) (.slice (if m = l then A else A.map (·.add (l * sz))) (h - l) (m - l)) := by
  simp only [Rep] at hr ⊢
  obtain ⟨A', n', c', he, hn, hc, _, hun, ad, ha, hre⟩ := hr
  simp only [Value.slice.injEq] at he
  obtain ⟨rfl, rfl, rfl⟩ := he
  subst hn
  refine ⟨_, _, _, rfl, by simp [Nat.min_eq_left hh], by omega, trivial, uniform_of hun fun y hy => List.mem_of_mem_take (List.mem_of_mem_drop hy), ?_⟩
  by_cases hlh : l < h
  · have hne : xs ≠ [] := by rintro rfl; simp at hh; omega
    obtain rfl := ha hne
    rw [if_neg (by omega)]
    refine ⟨ad.add (l * sz), fun _ => rfl, ?_⟩
    rw [RepE.shift, Nat.add_zero]
    rcases hsz with hsz | h0
    · have e1 : xs = xs.take h ++ xs.drop h := (List.take_append_drop h xs).symm
      have hre1 : RepE G ad 0 (xs.take h) := by
        rw [e1] at hre
        exact ((RepE.split (sz := sz) _ _ 0 fun x hx => hsz x (List.mem_of_mem_take hx)).1 hre).1
      have e2 : xs.take h = (xs.take h).take l ++ (xs.take h).drop l := (List.take_append_drop l _).symm
      rw [e2] at hre1
      have := ((RepE.split (sz := sz) _ _ 0 fun x hx => hsz x (List.mem_of_mem_take (List.mem_of_mem_take hx))).1 hre1).2
      simpa [Nat.min_eq_left (show l ≤ h by omega), Nat.min_eq_left (show h ≤ xs.length by omega), Nat.min_eq_left (show l ≤ xs.length by omega)] using this
    · subst h0
      obtain ⟨s2, hs2⟩ := hun
      have e1 : xs = xs.take h ++ xs.drop h := (List.take_append_drop h xs).symm
      rw [e1] at hre
      have := ((RepE.split (sz := s2) _ _ 0 fun x hx => hs2 x (List.mem_of_mem_take hx)).1 hre).1
      simpa using this
  · refine ⟨⟨0, 0, none⟩, fun hx => absurd ?_ hx, ?_⟩
    · rw [List.drop_eq_nil_of_le (by simp; omega)]
    · rw [List.drop_eq_nil_of_le (by simp; omega)]
      simp [RepE]

theorem sliceA_ok (h : TabOk P tab) {t : TypeId} {x v : AV} {lo hi : Option AV} {φ : Prop} (e : sliceA tab t x lo hi = some (φ, v)) (hφ : φ) (G : Gh) (w : World) {X : Value} {LO HI : Option Value} (hr : Rep G x X)
    (hlo : ∀ a, lo = some a → ∃ A, LO = some A ∧ Rep G a A) (hlo' : lo = none → LO = none) (hhi : ∀ a, hi = some a → ∃ A, HI = some A ∧ Rep G a A) (hhi' : hi = none → HI = none) :
    ∃ V, (Instr.sliceAt t X LO HI none).run P w = .ok V w ∧ Rep G v V := by
  unfold sliceA at e
  split at e <;> try cases e
  · rename_i a1 a2 z ht
    have hu := h.str ht
    split at e <;> try cases e
    rename_i s
    simp only [Rep] at hr
    subst hr
    split at e <;> try cases e
    · obtain rfl := hlo' rfl
      obtain rfl := hhi' rfl
      exact ⟨_, by simp [Instr.sliceAt, Instr.slice, Instr.sliceBounds, run_underlying hu]; rfl, by simp [Rep]⟩
    · rename_i k l
      obtain ⟨_, rfl, hA⟩ := hlo _ rfl
      obtain rfl := hhi' rfl
      simp only [Rep] at hA
      subst hA
      exact ⟨_, by simp [Instr.sliceAt, Instr.slice, Instr.sliceBounds, run_underlying hu, run_sliceBound_in w k l _ _ hφ]; rfl, by simp [Rep]⟩
    · rename_i k l
      obtain ⟨_, rfl, hA⟩ := hhi _ rfl
      obtain rfl := hlo' rfl
      simp only [Rep] at hA
      subst hA
      exact ⟨_, by simp [Instr.sliceAt, Instr.slice, Instr.sliceBounds, run_underlying hu, run_sliceBound_in w k l _ _ hφ]; rfl, by simp [Rep]⟩
    · rename_i k l k' l'
      obtain ⟨_, rfl, hA⟩ := hlo _ rfl
      obtain ⟨_, rfl, hB⟩ := hhi _ rfl
      simp only [Rep] at hA hB
      subst hA hB
      obtain ⟨h1, h2, h3⟩ := hφ
      exact ⟨_, by simp [Instr.sliceAt, Instr.slice, Instr.sliceBounds, run_underlying hu, run_sliceBound_in w k' l' s.size _ ⟨by omega, h3⟩, run_sliceBound_in w k l l'.toNat _ ⟨h1, by omega⟩]; rfl, by simp [Rep]⟩
  · rename_i el a1 a2 z ht
    have hu := h.slice ht
    split at e <;> try cases e
    rename_i ti hti
    split at e <;> try cases e
    rename_i tk xs
    have hrep := hr
    simp only [Rep] at hr
    obtain ⟨A, n, c, rfl, rfl, hc, _⟩ := hr
    split at e <;> try cases e
    · obtain rfl := hlo' rfl
      obtain rfl := hhi' rfl
      refine ⟨.slice (if c = 0 then A else A.map (·.add (0 * ti.size))) (xs.length - 0) (c - 0), ?_, by simpa using rep_cut hrep 0 xs.length c (by omega) (Nat.le_refl _) hc (Nat.le_refl _) (.inr rfl) (sz := ti.size)⟩
      simp [Instr.sliceAt, Instr.slice, Instr.sliceBounds, run_underlying hu, h.sizeOf hti]
    · rename_i k l
      obtain ⟨_, rfl, hA⟩ := hlo _ rfl
      obtain rfl := hhi' rfl
      simp only [Rep] at hA
      subst hA
      obtain ⟨h1, h2, h3⟩ := hφ
      refine ⟨.slice (if c = l.toNat then A else A.map (·.add (l.toNat * ti.size))) (xs.length - l.toNat) (c - l.toNat), ?_, by simpa using rep_cut hrep l.toNat xs.length c (by omega) (Nat.le_refl _) hc (Nat.le_refl _) (.inl h3)⟩
      simp [Instr.sliceAt, Instr.slice, Instr.sliceBounds, run_underlying hu, h.sizeOf hti, run_sliceBound_in w k l _ _ ⟨h1, h2⟩]
    · rename_i k l
      obtain ⟨_, rfl, hA⟩ := hhi _ rfl
      obtain rfl := hlo' rfl
      simp only [Rep] at hA
      subst hA
      obtain ⟨h1, h2, h3⟩ := hφ
      refine ⟨.slice (if c = 0 then A else A.map (·.add (0 * ti.size))) (l.toNat - 0) (c - 0), ?_, by simpa using rep_cut hrep 0 l.toNat c (by omega) (by omega) (by omega) (Nat.le_refl _) (.inr rfl) (sz := ti.size)⟩
      simp [Instr.sliceAt, Instr.slice, Instr.sliceBounds, run_underlying hu, h.sizeOf hti, run_sliceBound_in w k l c _ ⟨h1, by omega⟩]
    · rename_i k l k' l'
      obtain ⟨_, rfl, hA⟩ := hlo _ rfl
      obtain ⟨_, rfl, hB⟩ := hhi _ rfl
      simp only [Rep] at hA hB
      subst hA hB
      obtain ⟨h1, h2, h3, h4⟩ := hφ
      refine ⟨.slice (if c = l.toNat then A else A.map (·.add (l.toNat * ti.size))) (l'.toNat - l.toNat) (c - l.toNat), ?_, rep_cut hrep l.toNat l'.toNat c (by omega) (by omega) (by omega) (Nat.le_refl _) (.inl h4)⟩
      simp [Instr.sliceAt, Instr.slice, Instr.sliceBounds, run_underlying hu, h.sizeOf hti, run_sliceBound_in w k' l' c _ ⟨by omega, by omega⟩, run_sliceBound_in w k l l'.toNat _ ⟨h1, by omega⟩]

theorem lenA_ok (h : TabOk P tab) {t ty : TypeId} {x v : AV} {φ : Prop} (e : lenA tab t x = some (φ, v)) (G : Gh) (w : World) {X : Value} (hr : Rep G x X) :
    ∃ V, (Builtin.len_ #[t] ty #[X]).run P w = .ok V w ∧ Rep G v V := by
  unfold lenA at e
  split at e <;> try cases e
  · rename_i ht
    split at e <;> try cases e
    simp only [Rep] at hr
    subst hr
    exact ⟨_, by simp [Builtin.len_, run_underlying (h.str ht), goInt]; rfl, by simp [Rep]⟩
  · rename_i ht
    split at e <;> try cases e
    · simp only [Rep] at hr
      obtain ⟨A, n, c, rfl, rfl, _⟩ := hr
      exact ⟨_, by simp [Builtin.len_, run_underlying (h.slice ht), goInt]; rfl, by simp [Rep]⟩
    · simp only [Rep] at hr
      obtain ⟨b, _, rfl⟩ := hr
      exact ⟨_, by simp [Builtin.len_, run_underlying (h.slice ht), goInt]; rfl, by simp [Rep]⟩
  · rename_i ht
    exact ⟨_, by simp [Builtin.len_, run_underlying (h.array ht), goInt]; rfl, by simp [Rep]⟩

end
end Go.Proofs.YtkdendaohlnlcaaDoor.Av
