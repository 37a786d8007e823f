/- A part of the theory and of the contracts: Tk3, Un, Ls, Tk4, Tk5, G3, G4, G5, G6, G7, G8, G9, G10, G11, G12, Av19, Av20, G13, P02, P02b. No condition. -/
import Derived.Test.YtkdendaohlnlcaaGreatDoorMc
import Derived.Below
import Derived.Lib.Strings
import Derived.RecoverIn
/- Does a rune stand among the signs? No condition. -/
namespace Go.Proofs.YtkdendaohlnlcaaGreatDoor.Av
set_option linter.unusedVariables false
set_option linter.unusedSimpArgs false
set_option maxRecDepth 4000
set_option maxHeartbeats 1000000
variable {w0 : Base} {k : List Nat} {H : Hp}
def dR : Dec Int where
  dec := fun a => match a with
    | .raw (.int .i32 n) => some n
    | _ => none
  enc := .int .i32
  ok := fun a x h => by
    split at h
    · cases h
      exact Weak.refl _
    · cases h
@[go_sem] theorem dR_at {n : Int} : dR.dec (.raw (.int .i32 n)) = some n := rfl
def signsB : ByteArray := ⟨#[40, 41, 44, 61, 33, 62, 38, 124, 64, 63]⟩
theorem rep2 {G : Gh} {a b : Value} {ca : Array Value} (h : RepL G [.raw a, .raw b] ca.toList) : ca = #[a, b] := by
  simp only [RepL, Rep] at h
  obtain ⟨u, us, e, rfl, v, vs, rfl, rfl, rfl⟩ := h
  apply Array.ext'
  simpa using e
theorem rep1 {G : Gh} {a : Value} {ca : Array Value} (h : RepL G [.raw a] ca.toList) : ca = #[a] := by
  simp only [RepL, Rep] at h
  obtain ⟨u, us, e, rfl, rfl⟩ := h
  apply Array.ext'
  simpa using e
theorem indexByte_call (s : ByteArray) (c : Int) : CallAt Tryz.prog w0 k 172 [.str s, .int .u8 c] H H (.int .i64 (Lib.indexByte s.data.toList c.toNat.toUInt8)) := by
  refine callAt_of_law Tryz.func172 rfl (by kernel_rfl) fun G w ca hs hr => ?_
  obtain rfl := rep2 hr
  refine (Tryz.strings_IndexByte s c w).mono fun e w' he => ?_
  obtain ⟨rfl, rfl⟩ := he
  exact ⟨rfl, Go.RowKit.Below.refl _ _⟩
theorem validRune_call (c : Int) : CallAt Tryz.prog w0 k 173 [.int .i32 c] H H (.bool (Lib.validRune c)) := by
  refine callAt_of_law Tryz.func173 rfl (by kernel_rfl) fun G w ca hs hr => ?_
  obtain rfl := rep1 hr
  refine (Tryz.utf8_ValidRune c w).mono fun e w' he => ?_
  obtain ⟨rfl, rfl⟩ := he
  exact ⟨rfl, Go.RowKit.Below.refl _ _⟩
theorem indexByte_none : ∀ (l : List UInt8) (c : UInt8), (∀ b ∈ l, b ≠ c) → Lib.indexByte l c = -1
  | [], c, _ => rfl
  | b :: l, c, h => by
    have h1 := h b (by simp)
    have h2 := indexByte_none l c fun x hx => h x (by simp [hx])
    unfold Lib.indexByte
    rw [if_neg (by simpa using h1), h2]
    simp
def specRn : Spec := (Spec.no.add 172 (sp2 dS dC (fun _ _ => True) fun s c => .int .i64 (Lib.indexByte s.data.toList c.toNat.toUInt8))).add 173 (sp1 dR (fun _ => True) fun c => .bool (Lib.validRune c))
theorem specRn_ok : SpecOk Tryz.prog w0 specRn := (Spec.no_ok.add (sp2_ok fun s c _ k H => indexByte_call s c)).add (sp1_ok fun c _ k H => validRune_call c)
theorem encode_big {c : Int} (h : 128 ≤ c) : 2 ≤ (Utf8.encode c).size ∧ (Utf8.encode c).size ≤ 4 ∧ 128 ≤ byteAt (Utf8.encode c) (((Utf8.encode c).size : Int) - 1) := by
  have hx : ∀ x : Nat, x < 256 → (UInt8.ofNat x).toNat = x := fun x hx => by simp [Nat.mod_eq_of_lt hx]
  unfold Utf8.encode
  generalize hc : (if Utf8.valid c = true then c.toNat else Utf8.runeError) = d
  have hd : 128 ≤ d ∧ d ≤ 1114111 := by
    subst hc
    split
    · rename_i hv
      simp only [Utf8.valid, Bool.or_eq_true, Bool.and_eq_true, decide_eq_true_eq] at hv
      omega
    · simp only [Utf8.runeError]
      omega
  simp only
  rw [if_neg (by omega)]
  split
  · refine ⟨by simp [ByteArray.size], by simp [ByteArray.size], ?_⟩
    show (128 : Int) ≤ ((UInt8.ofNat (0x80 + d % 64)).toNat : Int)
    rw [hx _ (by omega)]
    omega
  · split
    · refine ⟨by simp [ByteArray.size], by simp [ByteArray.size], ?_⟩
      show (128 : Int) ≤ ((UInt8.ofNat (0x80 + d % 64)).toNat : Int)
      rw [hx _ (by omega)]
      omega
    · refine ⟨by simp [ByteArray.size], by simp [ByteArray.size], ?_⟩
      show (128 : Int) ≤ ((UInt8.ofNat (0x80 + d % 64)).toNat : Int)
      rw [hx _ (by omega)]
      omega
theorem signsB_at {i : Nat} (h : i < 10) : byteAt signsB i < 128 := by
  rcases (show i = 0 ∨ i = 1 ∨ i = 2 ∨ i = 3 ∨ i = 4 ∨ i = 5 ∨ i = 6 ∨ i = 7 ∨ i = 8 ∨ i = 9 by omega) with rfl | rfl | rfl | rfl | rfl | rfl | rfl | rfl | rfl | rfl <;> decide
theorem signsB_ext {n : Nat} (h : n ≤ 10) : ∀ b ∈ (signsB.extract n 10).data.toList, b.toNat < 128 := by
  rcases (show n = 0 ∨ n = 1 ∨ n = 2 ∨ n = 3 ∨ n = 4 ∨ n = 5 ∨ n = 6 ∨ n = 7 ∨ n = 8 ∨ n = 9 ∨ n = 10 by omega) with rfl | rfl | rfl | rfl | rfl | rfl | rfl | rfl | rfl | rfl | rfl <;> decide
theorem indexRune_big (c : Int) (h : 128 ≤ c) : CallAt Tryz.prog w0 k 167 [.str signsB, .int .i32 c] H H (.int .i64 (-1)) := by
  refine callAt tabOk specRn_ok mixed Tryz.func167 rfl rfl Tryz.results167 Tryz.ntmps167 (by simp) [] ?_
  intro hfr t hl ht
  simp only [At, Nat.reduceAdd, List.cons_append, List.nil_append] at ht
  have h0 : decide ((0 : Int) ≤ c) = true := by simp; omega
  have h1 : decide (c < (128 : Int)) = false := by simp; omega
  by_cases he : c = 65533
  · subst he
    simp (config := {contextual := true, maxSteps := 5000000}) only [go_sem, false_and, Nat.reduceAdd, Nat.reduceLT, Nat.reduceBEq, Nat.reduceSub, Nat.reduceMul, Nat.reduceLeDiff, Int.reduceToNat, Nat.reduceEqDiff, Nat.reduceMod, ht, hl, h0, h1, specRn, Int.reduceBEq, Int.reduceLE, Int.reduceLT, decide_true, decide_false]
    refine strRange (s := signsB) (mb := []) tabOk specRn_ok mixed rfl rfl rfl rfl rfl rfl tab_9 rfl rfl rfl rfl rfl rfl (by simp (config := {contextual := true, maxSteps := 5000000}) only [go_sem, false_and, Nat.reduceAdd, Nat.reduceLT, Nat.reduceBEq, Nat.reduceSub, Nat.reduceMul, Nat.reduceLeDiff, Int.reduceToNat, Nat.reduceEqDiff, Nat.reduceMod, ht, hl]) (by simp [hl])
      (fun pos x => x.tmps.length = 187 ∧ x.tmps.getD 175 AV.undef = .iter ⟨0, 0 :: 3 :: k, 0⟩ ∧ x.H = H) ?_ ?_ ?_ ?_
    · simp (config := {contextual := true, maxSteps := 5000000}) only [go_sem, false_and, Nat.reduceAdd, Nat.reduceLT, Nat.reduceBEq, Nat.reduceSub, Nat.reduceMul, Nat.reduceLeDiff, Int.reduceToNat, Nat.reduceEqDiff, Nat.reduceMod, hl]
    · rintro pos ⟨t, n, H'⟩ ⟨hl, h175, rfl⟩
      simp only at hl h175
      exact ⟨h175, by simp [hl], by simp [hl]⟩
    · rintro pos ⟨t, n, H'⟩ hpos ⟨hl, h175, rfl⟩
      simp only at hl h175
      have hs10 : signsB.size = 10 := rfl
      obtain ⟨hd1, hd2⟩ := decode_small hpos (signsB_at (by omega))
      have hb := signsB_at (i := pos) (by omega)
      have hne : ((((Utf8.decode signsB pos).1 : Nat) : Int) == 65533) = false := by rw [hd1]; simp; omega
      simp (config := {contextual := true, maxSteps := 5000000}) only [go_sem, false_and, Nat.reduceAdd, Nat.reduceLT, Nat.reduceBEq, Nat.reduceSub, Nat.reduceMul, Nat.reduceLeDiff, Int.reduceToNat, Nat.reduceEqDiff, Nat.reduceMod, h175, hl, hne]
    · rintro pos ⟨t, n, H'⟩ hpos ⟨hl, h175, rfl⟩
      simp only at hl h175
      simp (config := {contextual := true, maxSteps := 5000000}) only [go_sem, false_and, Nat.reduceAdd, Nat.reduceLT, Nat.reduceBEq, Nat.reduceSub, Nat.reduceMul, Nat.reduceLeDiff, Int.reduceToNat, Nat.reduceEqDiff, Nat.reduceMod, h175, hl]
  · have h2 : (c == 65533) = false := by simpa using he
    cases hv : Lib.validRune c with
    | false =>
      simp (config := {contextual := true, maxSteps := 5000000}) only [go_sem, false_and, Nat.reduceAdd, Nat.reduceLT, Nat.reduceBEq, Nat.reduceSub, Nat.reduceMul, Nat.reduceLeDiff, Int.reduceToNat, Nat.reduceEqDiff, Nat.reduceMod, ht, hl, h0, h1, h2, hv, specRn]
    | true =>
      obtain ⟨e1, e2, e3⟩ := encode_big h
      have hw : IntKind.i64.wrap (((Utf8.encode c).size : Int) - 1) = ((Utf8.encode c).size : Int) - 1 := wrap_i64 (by omega) (by omega)
      simp (config := {contextual := true, maxSteps := 5000000}) only [go_sem, false_and, Nat.reduceAdd, Nat.reduceLT, Nat.reduceBEq, Nat.reduceSub, Nat.reduceMul, Nat.reduceLeDiff, Int.reduceToNat, Nat.reduceEqDiff, Nat.reduceMod, ht, hl, h0, h1, h2, hv, specRn]
      refine loop_inv tabOk specRn_ok mixed [] (fun j x => x.tmps.length = 187 ∧ x.tmps.getD 0 AV.undef = .str signsB ∧ x.tmps.getD 7 AV.undef = .str (Utf8.encode c) ∧ x.tmps.getD 8 AV.undef = .int .i64 (((Utf8.encode c).size : Int) - 1) ∧ x.tmps.getD 9 AV.undef = .int .i64 (((Utf8.encode c).size : Int) - 1) ∧ x.H = H) 0 ?_ ?_
      · simp (config := {contextual := true, maxSteps := 5000000}) only [go_sem, false_and, Nat.reduceAdd, Nat.reduceLT, Nat.reduceBEq, Nat.reduceSub, Nat.reduceMul, Nat.reduceLeDiff, Int.reduceToNat, Nat.reduceEqDiff, Nat.reduceMod, ht, hl, hw]
      · rintro j ⟨t, n, H'⟩ ⟨hl, g0, g7, g8, g9, rfl⟩
        simp only at hl g0 g7 g8 g9
        have hs10 : signsB.size = 10 := rfl
        have hd : decide (((Utf8.encode c).size : Int) - 1 < (signsB.size : Int)) = true := by rw [hs10]; simp; omega
        have hcast : ((Utf8.encode c).size : Int) - 1 = (((Utf8.encode c).size - 1 : Nat) : Int) := by omega
        have hsb := signsB_at (i := (Utf8.encode c).size - 1) (by omega)
        rw [← hcast] at hsb
        have hne : (byteAt signsB (((Utf8.encode c).size : Int) - 1) != byteAt (Utf8.encode c) (((Utf8.encode c).size : Int) - 1)) = true := by simp; omega
        have hw2 : IntKind.i64.wrap (((Utf8.encode c).size : Int) - 1 + 1) = ((Utf8.encode c).size : Int) := by rw [wrap_i64] <;> omega
        have hix : Lib.indexByte (signsB.extract (Utf8.encode c).size signsB.size).data.toList (byteAt (Utf8.encode c) (((Utf8.encode c).size : Int) - 1)).toNat.toUInt8 = -1 := by
          refine indexByte_none _ _ fun b hb hbe => ?_
          have h1 := signsB_ext (n := (Utf8.encode c).size) (by omega) b (by rw [hs10] at hb; exact hb)
          have h2 := (byteAt_lt (Utf8.encode c) (((Utf8.encode c).size : Int) - 1)).2
          rw [hbe] at h1
          simp only [Nat.toUInt8, UInt8.toNat_ofNat'] at h1
          omega
        have hlt : decide ((-1 : Int) < 0) = true := rfl
        simp (config := {contextual := true, maxSteps := 5000000}) only [go_sem, false_and, Nat.reduceAdd, Nat.reduceLT, Nat.reduceBEq, Nat.reduceSub, Nat.reduceMul, Nat.reduceLeDiff, Int.reduceToNat, Nat.reduceEqDiff, Nat.reduceMod, g0, g7, g8, g9, hl, hd, hne, specRn, hw2, hix, hlt]
        refine ⟨by kernel_rfl, ⟨by omega, by omega⟩, ⟨by omega, by omega⟩, List.Pairwise.nil, by kernel_rfl, ⟨by omega, by omega⟩, ⟨by omega, by omega⟩, List.Pairwise.nil⟩
theorem containsRune_call (c : Int) (h : 0 ≤ c) : CallAt Tryz.prog w0 k 151 [.str signsB, .int .i32 c] H H (.bool (isSign c)) := by
  by_cases hc : c < 128
  · refine callAt_of_law Tryz.func151 rfl (by kernel_rfl) fun G w ca hs hr => ?_
    obtain rfl := rep2 hr
    refine (Tryz.strings_ContainsRune_ascii signsB c w h hc).mono fun e w' he => ?_
    obtain ⟨rfl, rfl⟩ := he
    refine ⟨?_, Go.RowKit.Below.refl _ _⟩
    have : ∀ n : Nat, n < 128 → decide (0 ≤ Lib.indexByte signsB.data.toList ((n : Int).toNat.toUInt8)) = isSign (n : Int) := by decide
    have e := this c.toNat (by omega)
    rw [Int.toNat_of_nonneg h] at e
    rw [e]
  · refine callAt tabOk (Spec.no_ok.add (f := 167) (d := sp2 dS dR (fun s c => s = signsB ∧ 128 ≤ c) fun _ _ => .int .i64 (-1)) (sp2_ok fun s c h k H => by obtain ⟨rfl, h⟩ := h; exact indexRune_big c h)) mixed Tryz.func151 rfl rfl Tryz.results151 Tryz.ntmps151 (by simp) [] ?_
    intro hfr t hl ht
    simp only [At, Nat.reduceAdd, List.cons_append, List.nil_append] at ht
    simp (config := {contextual := true, maxSteps := 5000000}) only [go_sem, false_and, Nat.reduceAdd, Nat.reduceLT, Nat.reduceBEq, Nat.reduceSub, Nat.reduceMul, Nat.reduceLeDiff, Int.reduceToNat, Nat.reduceEqDiff, Nat.reduceMod, ht, hl]
    refine ⟨by omega, ?_⟩
    have : isSign c = false := by
      rw [isSign, List.any_eq_false]
      intro s hs
      simp only [signs, List.mem_cons, List.not_mem_nil, or_false] at hs
      simp only [beq_iff_eq]
      omega
    rw [this]
    rfl
end Go.Proofs.YtkdendaohlnlcaaGreatDoor.Av

/- Steps and units as plain data, and how they lie in memory. No condition. -/
namespace Go.Proofs.YtkdendaohlnlcaaGreatDoor.Av
set_option linter.unusedVariables false
set_option linter.unusedSimpArgs false
set_option maxRecDepth 4000
set_option maxHeartbeats 1000000

section
variable {α : Type}
def decL (d : List AV → Option α) : List (List AV) → Option (List α)
  | [] => some []
  | x :: xs => (d x).bind fun a => (decL d xs).bind fun l => some (a :: l)
/-- A row of parts, read part by part. -/
structure DecC (α : Type) where
  dec : List AV → Option α
  enc : α → List AV
  sz : Nat
  len : ∀ c x, dec c = some x → c.length = sz
  elen : ∀ x, (enc x).length = sz
  ok : ∀ c x, dec c = some x → ∀ G V, RepL G c V → RepL G (enc x) V
  self : ∀ x, dec (enc x) = some x
theorem decL_length (D : DecC α) : ∀ {xs : List (List AV)} {l : List α}, decL D.dec xs = some l → xs.length = l.length
  | [], l, h => by simp only [decL, Option.some.injEq] at h; subst h; rfl
  | x :: xs, l, h => by
    simp only [decL, Option.bind_eq_some_iff] at h
    obtain ⟨a, h1, l', h2, h3⟩ := h
    cases h3
    simp [decL_length D h2]
theorem decL_repE (D : DecC α) {G : Gh} : ∀ (xs : List (List AV)) (l : List α), decL D.dec xs = some l → ∀ ad k, RepE G ad k xs → RepE G ad k (l.map D.enc)
  | [], l, h, ad, k, hr => by
    simp only [decL, Option.some.injEq] at h
    subst h
    simp [RepE]
  | x :: xs, l, h, ad, k, hr => by
    simp only [decL, Option.bind_eq_some_iff] at h
    obtain ⟨a, h1, l', h2, h3⟩ := h
    cases h3
    simp only [List.map_cons, RepE] at hr ⊢
    obtain ⟨vs, r, g⟩ := hr.1.values
    refine ⟨RepC_of_list _ _ _ (D.ok x a h1 G vs r) g, ?_⟩
    rw [D.elen, ← D.len x a h1]
    exact decL_repE D xs l' h2 ad _ hr.2
theorem decL_weak (D : DecC α) {t : Tok} {xs : List (List AV)} {l : List α} (h : decL D.dec xs = some l) : Weak (.list t xs) (.list .none (l.map D.enc)) := fun G V hr => by
  simp only [Rep] at hr ⊢
  obtain ⟨A, n, cp, e1, e2, e3, e4, e5, ad, e6, e7⟩ := hr
  have hl := decL_length D h
  refine ⟨A, n, cp, e1, by simp; omega, e3, trivial, ⟨D.sz, ?_⟩, ad, fun hne => e6 ?_, decL_repE D xs l h ad 0 e7⟩
  · intro x hx
    obtain ⟨y, _, rfl⟩ := List.mem_map.1 hx
    exact D.elen y
  · intro hx
    subst hx
    cases l with
    | nil => exact hne rfl
    | cons _ _ => simp at hl
theorem decL_self (D : DecC α) : ∀ l : List α, decL D.dec (l.map D.enc) = some l
  | [] => rfl
  | x :: l => by simp [decL, D.self, decL_self D l]
def dL (D : DecC α) : Dec (List α) where
  dec := fun a => match a with
    | .list _ xs => decL D.dec xs
    | _ => none
  enc := fun l => .list .none (l.map D.enc)
  ok := fun a x h => by
    split at h
    · exact decL_weak D h
    · cases h
def dA (D : DecC α) : Dec α where
  dec := fun a => match a with
    | .agg c => D.dec c
    | _ => none
  enc := fun x => .agg (D.enc x)
  ok := fun a x h => by
    split at h
    · intro G V hr
      simp only [Rep] at hr ⊢
      obtain ⟨cs, h1, h2⟩ := hr
      exact ⟨cs, h1, D.ok _ _ h G _ h2⟩
    · cases h
@[go_sem] theorem dL_at {D : DecC α} {t : Tok} {l : List α} : (dL D).dec (.list t (l.map D.enc)) = some l := decL_self D l
@[go_sem] theorem dA_at {D : DecC α} {c : List AV} : (dA D).dec (.agg c) = D.dec c := rfl
end

def cE : DecC E where
  dec := toE
  enc := E.cells
  sz := 3
  len := fun c x h => toE_length h
  elen := E.cells_length
  ok := fun c x h G V hr => toE_rep x c h V hr
  self := toE_cells
def cS : DecC ByteArray where
  dec := fun c => match c with
    | [.raw (.string s)] => some s
    | _ => none
  enc := fun s => [.str s]
  sz := 1
  len := fun c x h => by
    split at h
    · rfl
    · cases h
  elen := fun x => rfl
  ok := fun c x h G V hr => by
    split at h
    · cases h
      exact hr
    · cases h
  self := fun x => rfl

@[go_sem] theorem cS_cons {t : Tok} {s : ByteArray} {l : List ByteArray} : (dL cS).dec (.list t ([.raw (.string s)] :: l.map cS.enc)) = some (s :: l) := by
  show decL cS.dec _ = _
  rw [decL, decL_self]
  rfl
@[go_sem] theorem cS_strip {l : List ByteArray} : List.map (fun x => List.map strip x) (l.map cS.enc) = l.map cS.enc := by
  rw [List.map_map]
  rfl
theorem cS_each (l : List ByteArray) : ∀ y ∈ l.map cS.enc, y.length = 1 := fun y hy => by
  obtain ⟨x, _, rfl⟩ := List.mem_map.1 hy
  rfl
theorem cS_one (l : List ByteArray) : (l.map cS.enc).flatten.all oneA = true := by
  rw [List.all_eq_true]
  intro x hx
  obtain ⟨y, hy, hx⟩ := List.mem_flatten.1 hx
  obtain ⟨z, _, rfl⟩ := List.mem_map.1 hy
  simp only [cS, List.mem_cons, List.not_mem_nil, or_false] at hx
  subst hx
  rfl
theorem RepL.parts {G : Gh} : ∀ {as_ bs : List AV} {V : List Value}, RepL G (as_ ++ bs) V → ∃ v1 v2, V = v1 ++ v2 ∧ RepL G as_ v1 ∧ RepL G bs v2
  | [], bs, V, h => ⟨[], V, rfl, by simp [RepL], h⟩
  | a :: l, bs, V, h => by
    simp only [List.cons_append, RepL] at h
    obtain ⟨u, us, rfl, h1, h2⟩ := h
    obtain ⟨v1, v2, rfl, h3, h4⟩ := RepL.parts h2
    exact ⟨u :: v1, v2, rfl, by simp only [RepL]; exact ⟨_, _, rfl, h1, h3⟩, h4⟩
structure Step where
  says : E
  by_ : Int
  a : Int
  b : Int
  cite : ByteArray
def Step.cells (s : Step) : List AV := [.int .i64 s.says.kind, .int .i64 s.says.id, .list .none (s.says.kids.map E.cells), .int .i64 s.by_, .int .i64 s.a, .int .i64 s.b, .str s.cite]
def cStep : DecC Step where
  dec := fun c => match c with
    | [x, y, z, .raw (.int .i64 n), .raw (.int .i64 a), .raw (.int .i64 b), .raw (.string s)] => (toE [x, y, z]).map fun e => ⟨e, n, a, b, s⟩
    | _ => none
  enc := Step.cells
  sz := 7
  len := fun c x h => by
    split at h
    · rfl
    · cases h
  elen := fun x => rfl
  ok := fun c x h G V hr => by
    split at h
    · rename_i p q r n a b s
      simp only [Option.map_eq_some_iff] at h
      obtain ⟨e, he, rfl⟩ := h
      have h1 : RepL G ([p, q, r] ++ [.raw (.int .i64 n), .raw (.int .i64 a), .raw (.int .i64 b), .raw (.string s)]) V := hr
      obtain ⟨v1, v2, rfl, h2, h3⟩ := RepL.parts h1
      have := toE_rep e _ he _ h2
      rw [E.cells_eq] at this
      exact RepL.append this h3
    · cases h
  self := fun x => by
    simp only [Step.cells]
    have := toE_cells x.says
    rw [E.cells_eq] at this
    simp [this]
structure U where
  cites : List ByteArray
  states : E
  steps : List Step
def U.cells (u : U) : List AV := [.list .none (u.cites.map cS.enc), .int .i64 u.states.kind, .int .i64 u.states.id, .list .none (u.states.kids.map E.cells), .list .none (u.steps.map cStep.enc)]
def cU : DecC U where
  dec := fun c => match c with
    | [.list _ l, x, y, z, .list _ m] => (decL cS.dec l).bind fun l => (toE [x, y, z]).bind fun e => (decL cStep.dec m).bind fun m => some ⟨l, e, m⟩
    | _ => none
  enc := U.cells
  sz := 5
  len := fun c x h => by
    split at h
    · rfl
    · cases h
  elen := fun x => rfl
  ok := fun c x h G V hr => by
    split at h
    · rename_i t l p q r t' m
      simp only [Option.bind_eq_some_iff] at h
      obtain ⟨l', hl, e, he, m', hm, h⟩ := h
      cases h
      have h1 : RepL G ([.list t l] ++ ([p, q, r] ++ [.list t' m])) V := hr
      obtain ⟨v1, v2, rfl, h2, h3⟩ := RepL.parts h1
      obtain ⟨v3, v4, rfl, h4, h5⟩ := RepL.parts h3
      have := toE_rep e _ he _ h4
      rw [E.cells_eq] at this
      have w1 : WeakL [.list t l] [.list .none (l'.map cS.enc)] := ⟨_, _, rfl, decL_weak cS hl, rfl⟩
      have w2 : WeakL [.list t' m] [.list .none (m'.map cStep.enc)] := ⟨_, _, rfl, decL_weak cStep hm, rfl⟩
      exact RepL.append (w1.rep h2) (RepL.append this (w2.rep h5))
    · cases h
  self := fun x => by
    simp only [U.cells]
    have := toE_cells x.states
    rw [E.cells_eq] at this
    simp [this, decL_self]
@[go_sem] theorem cE_dec : cE.dec = toE := rfl
@[go_sem] theorem cE_enc : cE.enc = E.cells := rfl
@[go_sem] theorem cStep_at (s : Step) (t : Tok) : cStep.dec [.raw (.int .i64 s.says.kind), .raw (.int .i64 s.says.id), .list t (s.says.kids.map E.cells), .raw (.int .i64 s.by_), .raw (.int .i64 s.a), .raw (.int .i64 s.b), .raw (.string s.cite)] = some s := by
  simp [cStep, toE_at]
@[go_sem] theorem cU_at (u : U) (t t' t'' : Tok) : cU.dec [.list t (u.cites.map cS.enc), .raw (.int .i64 u.states.kind), .raw (.int .i64 u.states.id), .list t' (u.states.kids.map E.cells), .list t'' (u.steps.map cStep.enc)] = some u := by
  simp [cU, toE_at, decL_self]
theorem str_get (l : List ByteArray) {i : Nat} (h : i < l.length) : ∃ s, l[i]? = some s ∧ (l.map cS.enc).getD i [] = [.str s] :=
  ⟨l[i], by simp [h], by simp [List.getD_eq_getElem?_getD, h, cS]⟩
theorem step_get (l : List Step) {i : Nat} (h : i < l.length) : ∃ s, l[i]? = some s ∧ (l.map cStep.enc).getD i [] = s.cells :=
  ⟨l[i], by simp [h], by simp [List.getD_eq_getElem?_getD, h, cStep]⟩
end Go.Proofs.YtkdendaohlnlcaaGreatDoor.Av

/- Lists that grow; expressions of no kind. No condition. -/
namespace Go.Proofs.YtkdendaohlnlcaaGreatDoor.Av
set_option linter.unusedVariables false
set_option linter.unusedSimpArgs false
set_option maxRecDepth 4000
set_option maxHeartbeats 1000000
variable {w0 : Base} {k : List Nat} {H : Hp}
/-- A list that the call has made and alone appends to. -/
def LstAt (H0 : Hp) (sz : Nat) (ty : TypeId) (tk : Tok) (H : Hp) : Prop := H0.Le H ∧ ((tk = .nil ∨ tk = .full) ∨ ∃ id : Id, tk = .tok id ∧ H id = some .tok ∧ H0 id = none ∧ id.sz = sz ∧ id.ty = ty)
theorem LstAt.live {H0 H : Hp} {sz : Nat} {ty : TypeId} {tk : Tok} (h : LstAt H0 sz ty tk H) : tokLive H sz ty tk := by
  rcases h.2 with (rfl | rfl) | ⟨id, rfl, h1, _, h2, h3⟩
  · exact trivial
  · exact trivial
  · exact ⟨h1, h2, h3⟩
theorem LstAt.push {H0 H : Hp} {sz : Nat} {ty : TypeId} {tk : Tok} (h : LstAt H0 sz ty tk H) {y : List AV} {ys : List (List AV)} {key : List Nat} (hn : H0 ⟨sz, key, ty⟩ = none) :
    LstAt H0 sz ty (tokBy tk (y :: ys) ⟨sz, key, ty⟩) ((killTok H tk).upd ⟨sz, key, ty⟩ (some .tok)) := by
  have e : tokBy tk (y :: ys) ⟨sz, key, ty⟩ = .tok ⟨sz, key, ty⟩ := by cases tk <;> rfl
  rw [e]
  refine ⟨fun i x hi => ?_, .inr ⟨_, rfl, Hp.upd_same _ _ _, hn, rfl, rfl⟩⟩
  have hne : i ≠ ⟨sz, key, ty⟩ := fun he => by rw [he, hn] at hi; cases hi
  rw [Hp.upd_ne _ _ hne]
  have hH := h.1 i x hi
  rcases h.2 with (rfl | rfl) | ⟨id, rfl, _, h0, _⟩
  · exact hH
  · exact hH
  · have hne2 : i ≠ id := fun he => by rw [he, h0] at hi; cases hi
    show (H.upd id none) i = some x
    rw [Hp.upd_ne _ _ hne2]
    exact hH
theorem LstAt.le {H0 H : Hp} {sz : Nat} {ty : TypeId} {tk : Tok} (h : LstAt H0 sz ty tk H) : H0.Le H := h.1
theorem LstAt.frame {H0 H : Hp} {sz : Nat} {ty : TypeId} {tk : Tok} (h : LstAt H0 sz ty tk H) {X : Id} {e : Option Ent} (hX : H0 X = none) (hz : X.sz ≠ sz) : LstAt H0 sz ty tk (H.upd X e) := by
  refine ⟨fun i x hi => ?_, ?_⟩
  · have hne : i ≠ X := fun he => by rw [he, hX] at hi; cases hi
    rw [Hp.upd_ne _ _ hne]
    exact h.1 i x hi
  · rcases h.2 with h2 | ⟨id, h1, h2, h3, h4, h5⟩
    · exact .inl h2
    · exact .inr ⟨id, h1, by rw [Hp.upd_ne _ _ (fun he => hz (by rw [← he]; exact h4))]; exact h2, h3, h4, h5⟩
theorem list_weak {tk : Tok} {xs : List (List AV)} : Weak (.list tk xs) (.list .none xs) := fun G V hr => by
  simp only [Rep] at hr ⊢
  obtain ⟨A, n, c, e, hn, hc, _, hu, ad, ha, hre⟩ := hr
  exact ⟨A, n, c, e, hn, hc, trivial, hu, ad, ha, hre⟩
def noE : E := .mk 0 0 []
theorem nil_weak : Weak (.list .nil []) (.list .none []) := list_weak
theorem noE_weak {e : Int} : Weak (.tup [.agg [.int .i64 0, .int .i64 0, .list .nil []], .int .i64 e]) (.tup [noE.av, .int .i64 e]) := WeakL.tup ⟨_, _, rfl, WeakL.agg ⟨_, _, rfl, Weak.refl _, _, _, rfl, Weak.refl _, _, _, rfl, nil_weak, rfl⟩, _, _, rfl, Weak.refl _, rfl⟩
theorem noE_ok : noE.ok := by simp [noE, E.ok, E.okL]
theorem noEw_weak : Weak (.agg [.int .i64 0, .int .i64 0, .list .nil []]) noE.av := WeakL.agg ⟨_, _, rfl, Weak.refl _, _, _, rfl, Weak.refl _, _, _, rfl, nil_weak, rfl⟩
theorem tup2_weak {a b : AV} {c : AV} (h : Weak a b) : Weak (.tup [a, c]) (.tup [b, c]) := WeakL.tup ⟨_, _, rfl, h, _, _, rfl, Weak.refl _, rfl⟩
/-- A list that a loop's one append has made, round by round. -/
def LstK (H0 : Hp) (sz : Nat) (ty : TypeId) (j : Nat) (k : List Nat) (tk : Tok) (H : Hp) : Prop := H0.Le H ∧ (tk = .nil ∨ ∃ m, tk = .tok ⟨sz, j :: m :: k, ty⟩ ∧ H ⟨sz, j :: m :: k, ty⟩ = some .tok)
theorem LstK.live {H0 H : Hp} {sz : Nat} {ty : TypeId} {j : Nat} {tk : Tok} (h : LstK H0 sz ty j k tk H) : tokLive H sz ty tk := by
  rcases h.2 with rfl | ⟨m, rfl, hm⟩
  · trivial
  · exact ⟨hm, rfl, rfl⟩
theorem LstK.push {H0 H : Hp} {sz : Nat} {ty : TypeId} {j : Nat} {tk : Tok} (h : LstK H0 sz ty j k tk H) (hn : ∀ m, H0 ⟨sz, j :: m :: k, ty⟩ = none) {y : List AV} {ys : List (List AV)} (m : Nat) :
    LstK H0 sz ty j k (tokBy tk (y :: ys) ⟨sz, j :: m :: k, ty⟩) ((killTok H tk).upd ⟨sz, j :: m :: k, ty⟩ (some .tok)) := by
  have hkill : H0.Le (killTok H tk) := by
    rcases h.2 with rfl | ⟨m', rfl, hm⟩
    · exact h.1
    · exact Hp.le_upd h.1 (hn m')
  refine ⟨Hp.le_upd hkill (hn m), .inr ⟨m, ?_, Hp.upd_same _ _ _⟩⟩
  rcases h.2 with rfl | ⟨m', rfl, hm⟩ <;> rfl
theorem LstK.frame {H0 H : Hp} {sz : Nat} {ty : TypeId} {j : Nat} {tk : Tok} (h : LstK H0 sz ty j k tk H) {X : Id} {e : Option Ent} (hX : H0 X = none) (hne : ∀ m, X ≠ ⟨sz, j :: m :: k, ty⟩) : LstK H0 sz ty j k tk (H.upd X e) := by
  refine ⟨Hp.le_upd h.1 hX, h.2.imp id ?_⟩
  rintro ⟨m, rfl, hm⟩
  exact ⟨m, rfl, by rw [Hp.upd_ne _ _ (Ne.symm (hne m))]; exact hm⟩
theorem killTok_keeps {H : Hp} {tk : Tok} {id : Id} {c : List AV} (h : H id = some (.cells c)) (hL : tk = .nil ∨ ∃ i, tk = .tok i ∧ H i = some .tok) : killTok H tk id = some (.cells c) := by
  rcases hL with rfl | ⟨i, rfl, hi⟩
  · exact h
  · show H.upd i none id = _
    rw [Hp.upd_ne _ _ (fun e => by subst e; rw [h] at hi; cases hi)]
    exact h
theorem tokBy_cons {tk : Tok} {y : List AV} {ys : List (List AV)} {id : Id} : tokBy tk (y :: ys) id = .tok id := by cases tk <;> rfl
theorem okL_all : ∀ {l : List E}, (∀ x ∈ l, x.ok) → E.okL l
  | [], _ => trivial
  | x :: l, h => ⟨h x (by simp), okL_all fun y hy => h y (by simp [hy])⟩
theorem mk1_weak {kd id : Int} {a : E} {tk : Tok} : Weak (.agg [.int .i64 kd, .int .i64 id, .list tk [[.int .i64 a.kind, .int .i64 a.id, .list .none (a.kids.map E.cells)]]]) (E.mk kd id [a]).av := by
  have h : [[AV.int .i64 a.kind, .int .i64 a.id, .list .none (a.kids.map E.cells)]] = [a].map E.cells := by simp only [List.map_cons, List.map_nil, E.cells_eq]
  rw [h]
  exact WeakL.agg ⟨_, _, rfl, Weak.refl _, _, _, rfl, Weak.refl _, _, _, rfl, list_weak, rfl⟩
theorem mk2_weak {kd id : Int} {a b : E} {tk : Tok} : Weak (.agg [.int .i64 kd, .int .i64 id, .list tk [[.int .i64 a.kind, .int .i64 a.id, .list .none (a.kids.map E.cells)], [.int .i64 b.kind, .int .i64 b.id, .list .none (b.kids.map E.cells)]]]) (E.mk kd id [a, b]).av := by
  have h : [[AV.int .i64 a.kind, .int .i64 a.id, .list .none (a.kids.map E.cells)], [AV.int .i64 b.kind, .int .i64 b.id, .list .none (b.kids.map E.cells)]] = [a, b].map E.cells := by simp only [List.map_cons, List.map_nil, E.cells_eq]
  rw [h]
  exact WeakL.agg ⟨_, _, rfl, Weak.refl _, _, _, rfl, Weak.refl _, _, _, rfl, list_weak, rfl⟩
end Go.Proofs.YtkdendaohlnlcaaGreatDoor.Av

/- Tokens, in plain words; lists that grow. No condition. -/
namespace Go.Proofs.YtkdendaohlnlcaaGreatDoor.Av
set_option linter.unusedVariables false
set_option linter.unusedSimpArgs false
set_option maxRecDepth 4000
set_option maxHeartbeats 1000000
variable {w0 : Base} {k : List Nat} {H : Hp}
structure Tk where
  kind : Int
  n : Int
  at_ : Int
def Tk.cells (t : Tk) : List AV := [.int .i64 t.kind, .int .i64 t.n, .int .i64 t.at_]
theorem byteAt_extract {s : ByteArray} {a b j : Nat} (hb : b ≤ s.size) (h : a + j < b) : byteAt (s.extract a b) j = byteAt s ((a + j : Nat) : Int) := by
  have hs : (s.extract a b).size = b - a := by simp [ByteArray.size_extract]; omega
  have e1 := byteAt_get (s.extract a b) j (by omega)
  have e2 := byteAt_get s (a + j) (by omega)
  rw [e1, e2]
  congr 2
  have g1 : (s.extract a b).get! j = (s.extract a b)[j]'(by omega) := by
    show (s.extract a b).data[j]! = _
    rw [getElem!_pos _ j (by show j < (s.extract a b).size; omega)]
    rfl
  have g2 : s.get! (a + j) = s[a + j]'(by omega) := by
    show s.data[a + j]! = _
    rw [getElem!_pos _ (a + j) (by show a + j < s.size; omega)]
    rfl
  rw [g1, g2]
  simp [ByteArray.getElem_extract]
theorem digsF_ext {s : ByteArray} {a : Nat} : ∀ m p, a + p + m = s.size → digsF (s.extract a s.size) m p = digsF s m (a + p)
  | 0, p, _ => rfl
  | m + 1, p, h => by
    have hs : (s.extract a s.size).size = s.size - a := by simp [ByteArray.size_extract]
    have hb := byteAt_extract (s := s) (a := a) (b := s.size) (j := p) (Nat.le_refl _) (by omega)
    rw [digsF, digsF, hb]
    have := digsF_ext (s := s) (a := a) m (p + 1) (by omega)
    rw [this]
    rw [hs, show a + (p + 1) = a + p + 1 by omega]
    by_cases hc : a + p < s.size ∧ isDig (byteAt s ((a + p : Nat) : Int)) = true
    · rw [if_pos hc, if_pos ⟨by omega, hc.2⟩]
    · rw [if_neg hc, if_neg fun h => hc ⟨by omega, h.2⟩]
theorem digs_ext {s : ByteArray} {a : Nat} (h : a ≤ s.size) : digs (s.extract a s.size) 0 = digs s a := by
  have hs : (s.extract a s.size).size = s.size - a := by simp [ByteArray.size_extract]
  unfold digs
  rw [hs, digsF_ext (s := s) (a := a) _ 0 (by omega)]
  simp
/-- The number behind a letter. -/
def numB (s : ByteArray) (p : Nat) (mst : Int) : Int × Nat := numR (s.extract (p + 1) s.size) mst
theorem num_agree {s : ByteArray} {p : Nat} {mst : Int} (hm : mst = 63 ∨ mst = 99) (hp : p < s.size) :
    num03 (s.extract (p + 1) (p + 1 + digs s (p + 1))) mst = (if (numB s p mst).2 = 0 then -1 else (numB s p mst).1) ∧ ((numB s p mst).2 ≠ 0 → (numB s p mst).2 = digs s (p + 1) ∧ 0 ≤ (numB s p mst).1 ∧ (numB s p mst).1 ≤ 99) := by
  have hle := digs_le s (p + 1)
  have hsz : (s.extract (p + 1) (p + 1 + digs s (p + 1))).size = digs s (p + 1) := by simp [ByteArray.size_extract]; omega
  have hd := digs_ext (s := s) (a := p + 1) (by omega)
  have hb : ∀ j : Nat, j < digs s (p + 1) → byteAt (s.extract (p + 1) (p + 1 + digs s (p + 1))) j = byteAt (s.extract (p + 1) s.size) j := fun j hj => by
    rw [byteAt_extract (by omega) (by omega), byteAt_extract (Nat.le_refl _) (by omega)]
  have hdig : ∀ j : Nat, j < digs s (p + 1) → 48 ≤ byteAt (s.extract (p + 1) s.size) j ∧ byteAt (s.extract (p + 1) s.size) j ≤ 57 := fun j hj => by
    have := digs_all (s := s.extract (p + 1) s.size) (p := 0) (i := j) (by omega)
    rw [Nat.zero_add] at this
    simpa [isDig] using this
  suffices hh : ∃ v c, num03 (s.extract (p + 1) (p + 1 + digs s (p + 1))) mst = (if c = 0 then -1 else v) ∧ numB s p mst = (v, c) ∧ (c ≠ 0 → c = digs s (p + 1) ∧ 0 ≤ v ∧ v ≤ 99) by
    obtain ⟨v, c, h1, h2, h3⟩ := hh
    rw [h2]
    exact ⟨h1, h3⟩
  unfold numB numR
  rw [hd]
  unfold num03
  rw [hsz]
  generalize digs s (p + 1) = d at *
  have e0 : ∀ x : ByteArray, byteAt x ((0 : Nat) : Int) = byteAt x 0 := fun _ => rfl
  have e1 : ∀ x : ByteArray, byteAt x ((1 : Nat) : Int) = byteAt x 1 := fun _ => rfl
  by_cases h1 : d = 1
  · subst h1
    have b0 := hb 0 (by omega)
    have d0 := hdig 0 (by omega)
    rw [e0, e0] at b0
    rw [e0] at d0
    have v1 : valI (s.extract (p + 1) (p + 1 + 1)) 1 = byteAt (s.extract (p + 1) (p + 1 + 1)) 0 - 48 := rfl
    refine ⟨byteAt (s.extract (p + 1) s.size) 0 - 48, 1, ?_, by rw [if_pos rfl], fun _ => ⟨rfl, by omega, by omega⟩⟩
    rw [if_neg (by omega), v1, b0, if_neg (by omega), if_neg (by decide)]
  · by_cases h2 : d = 2
    · subst h2
      have b0 := hb 0 (by omega)
      have b1 := hb 1 (by omega)
      have d0 := hdig 0 (by omega)
      have d1 := hdig 1 (by omega)
      rw [e0, e0] at b0
      rw [e1, e1] at b1
      rw [e0] at d0
      rw [e1] at d1
      have v2 : valI (s.extract (p + 1) (p + 1 + 2)) 2 = 10 * (byteAt (s.extract (p + 1) (p + 1 + 2)) 0 - 48) + (byteAt (s.extract (p + 1) (p + 1 + 2)) 1 - 48) := rfl
      rw [v2, b0, b1, if_neg h1]
      by_cases hz : byteAt (s.extract (p + 1) s.size) 0 = 48
      · exact ⟨0, 0, by rw [if_pos (.inr (.inr ⟨rfl, hz⟩))]; rfl, by rw [if_neg (fun h => h.2.1 hz)], fun h => absurd rfl h⟩
      · by_cases hg : mst < 10 * (byteAt (s.extract (p + 1) s.size) 0 - 48) + (byteAt (s.extract (p + 1) s.size) 1 - 48)
        · exact ⟨0, 0, by rw [if_neg (by omega), if_pos hg]; rfl, by rw [if_neg (by omega)], fun h => absurd rfl h⟩
        · exact ⟨10 * (byteAt (s.extract (p + 1) s.size) 0 - 48) + (byteAt (s.extract (p + 1) s.size) 1 - 48), 2, by rw [if_neg (by omega), if_neg hg]; rfl, by rw [if_pos (by omega)], fun _ => ⟨rfl, by omega, by omega⟩⟩
    · exact ⟨0, 0, by rw [if_pos (by omega)]; rfl, by rw [if_neg h1, if_neg (by omega)], fun h => absurd rfl h⟩
/-- What stands at a place: nothing; a token, and how many digits it has; or an error. -/
inductive TOne where
  | skip
  | tok (t : Tk) (w : Nat)
  | err (e : Int)
def tokOne (s : ByteArray) (p : Nat) : TOne :=
  if byteAt s p = 32 ∨ byteAt s p = 9 then .skip
  else if isSign (byteAt s p) = true then .tok ⟨4, byteAt s p, p⟩ 0
  else if most (byteAt s p) < 0 then .err 30
  else if (numB s p (most (byteAt s p))).2 = 0 then .err 31
  else .tok ⟨kindOf (byteAt s p), (numB s p (most (byteAt s p))).1, p⟩ (numB s p (most (byteAt s p))).2
inductive TR where
  | ok (l : List Tk)
  | err (e at_ : Int)
def tkGo (s : ByteArray) (p : Nat) (l : List Tk) : TR :=
  if p < s.size then
    match tokOne s p with
    | .skip => tkGo s (p + 1) l
    | .tok t w => tkGo s (p + 1 + w) (l ++ [t])
    | .err e => .err e p
  else .ok l
termination_by s.size - p
def toks (s : ByteArray) : TR := if 8000 < s.size then .err 2 0 else tkGo s 0 []
def TR.av : TR → AV
  | .ok l => .tup [.list .none (l.map Tk.cells), .int .i64 0, .int .i64 0]
  | .err e a => .tup [.list .nil [], .int .i64 e, .int .i64 a]
theorem tkGo_end {s : ByteArray} {p : Nat} {l : List Tk} (h : ¬ p < s.size) : tkGo s p l = .ok l := by rw [tkGo, if_neg h]
theorem tkGo_skip {s : ByteArray} {p : Nat} {l : List Tk} (h : p < s.size) (e : tokOne s p = .skip) : tkGo s p l = tkGo s (p + 1) l := by rw [tkGo, if_pos h, e]
theorem tkGo_tok {s : ByteArray} {p w : Nat} {l : List Tk} {t : Tk} (h : p < s.size) (e : tokOne s p = .tok t w) : tkGo s p l = tkGo s (p + 1 + w) (l ++ [t]) := by rw [tkGo, if_pos h, e]
theorem tkGo_err {s : ByteArray} {p : Nat} {l : List Tk} {c : Int} (h : p < s.size) (e : tokOne s p = .err c) : tkGo s p l = .err c p := by rw [tkGo, if_pos h, e]
end Go.Proofs.YtkdendaohlnlcaaGreatDoor.Av

/- What organonref03.Tokens and parse.Tokens answer. No condition. -/
namespace Go.Proofs.YtkdendaohlnlcaaGreatDoor.Av
set_option linter.unusedVariables false
set_option linter.unusedSimpArgs false
set_option maxRecDepth 4000
set_option maxHeartbeats 1000000
variable {w0 : Base} {k : List Nat} {H : Hp}
def specT3 : Spec := (((((Spec.no.add 124 (sp1 dC (fun _ => True) fun c => .bool (isSign c))).add 125 (sp1 dC (fun _ => True) fun c => .int .i64 (most c))).add 128 (sp1 dC (fun _ => True) fun c => .int .i64 (kindOf c))).add
  126 (sp2 dS dI (fun s p => s.size ≤ 140737488355328 ∧ 0 ≤ p ∧ p ≤ s.size) fun s p => .int .i64 (digs s p.toNat)))).add 127 (sp2 dS dI (fun s _ => (∀ i : Nat, i < s.size → isDig (byteAt s i) = true) ∧ s.size ≤ 140737488355328) fun s l => .int .i64 (num03 s l))
theorem specT3_ok : SpecOk Tryz.prog w0 specT3 := ((((Spec.no_ok.add (sp1_ok fun c _ k H => isSign_call c)).add (sp1_ok fun c _ k H => most_call c)).add (sp1_ok fun c _ k H => kindOf_call c)).add
  (sp2_ok fun s p h k H => by
    obtain ⟨m, rfl⟩ : ∃ m : Nat, p = m := ⟨p.toNat, by omega⟩
    exact digits_call s m h.1 (by omega))).add (sp2_ok fun s l h k H => number03_call s l h.1 h.2)
theorem push_ok {H2 : Hp} {l : List Tk} {tk : Tok} (hL : LstAt H 3 141 tk H2) (hll : l.length ≤ 8000) (t : Tk) : (∀ y : List AV, y = t.cells ∨ False → y.length = 3) ∧ (∀ y : List AV, y ∈ l.map Tk.cells → y.length = 3) ∧ [t.cells].flatten.all oneA = true ∧ (l.length + 1) * 24 ≤ 140737488355328 ∧ l.length ≤ 4611686018427387903 ∧ tokLive H2 3 141 tk := by
  refine ⟨fun y h => ?_, fun y h => ?_, rfl, by omega, by omega, hL.live⟩
  · rcases h with rfl | h
    · rfl
    · exact h.elim
  · obtain ⟨t, _, rfl⟩ := List.mem_map.1 h
    rfl
theorem weak_list3 {tk : Tok} {xs : List (List AV)} {a b : AV} : Weak (.tup [.list tk xs, a, b]) (.tup [.list .none xs, a, b]) := WeakL.tup ⟨_, _, rfl, list_weak, _, _, rfl, Weak.refl _, _, _, rfl, Weak.refl _, rfl⟩
theorem tokens03_call (s : ByteArray) : CallAt Tryz.prog w0 k 84 [.str s] H H (toks s).av := by
  refine callAt tabOk specT3_ok mixed Tryz.func84 rfl rfl Tryz.results84 Tryz.ntmps84 (by simp) [] ?_
  intro hfr t hl ht
  simp only [At, Nat.reduceAdd, List.cons_append, List.nil_append] at ht
  simp (config := {contextual := true, maxSteps := 5000000}) only [go_sem, false_and, Nat.reduceAdd, Nat.reduceLT, Nat.reduceBEq, Nat.reduceSub, Nat.reduceMul, Nat.reduceLeDiff, Int.reduceToNat, Nat.reduceEqDiff, Nat.reduceMod, ht, hl]
  refine ⟨fun a => ?_, fun a => ?_⟩ <;> simp only [decide_eq_true_eq, decide_eq_false_iff_not] at a
  · rw [toks, if_pos (by omega)]
    exact Weak.refl _
  · have htk : toks s = tkGo s 0 [] := by rw [toks, if_neg (by omega)]
    refine loop_inv tabOk specT3_ok mixed [] (fun j x => ∃ (p : Nat) (l : List Tk) (tk : Tok), x.tmps.length = 75 ∧ x.tmps.getD 0 AV.undef = .str s ∧ x.tmps.getD 5 AV.undef = .list tk (l.map Tk.cells) ∧ x.tmps.getD 6 AV.undef = .int .i64 p ∧ LstAt H 3 141 tk x.H ∧ s.size - p ≤ j ∧ p ≤ s.size ∧ l.length ≤ p ∧ tkGo s p l = toks s) s.size ⟨0, [], .full, ?_⟩ ?_
    · simp (config := {contextual := true, maxSteps := 5000000}) only [go_sem, false_and, Nat.reduceAdd, Nat.reduceLT, Nat.reduceBEq, Nat.reduceSub, Nat.reduceMul, Nat.reduceLeDiff, Int.reduceToNat, Nat.reduceEqDiff, Nat.reduceMod, ht, hl]
      exact ⟨rfl, ⟨Hp.Le.refl _, .inl (.inr rfl)⟩, by omega, by omega, htk.symm⟩
    · rintro j ⟨t, n, H2⟩ ⟨p, l, tk, hl, h0, h5, h6, hL, hj, hp, hlp, hgo⟩
      simp only at hl h0 h5 h6 hL
      by_cases hi : p < s.size
      · have hd : decide ((p : Int) < (s.size : Int)) = true := by simp [hi]
        have hw : IntKind.i64.wrap ((p : Int) + 1) = ((p + 1 : Nat) : Int) := by rw [wrap_i64] <;> omega
        have hdl := digs_le s (p + 1)
        have hwd : IntKind.i64.wrap (((p + 1 : Nat) : Int) + ((digs s (p + 1) : Nat) : Int)) = ((p + 1 + digs s (p + 1) : Nat) : Int) := by rw [wrap_i64] <;> omega
        have hcb := byteAt_lt s p
        have hwc : IntKind.i64.wrap (byteAt s p) = byteAt s p := wrap_i64 (by omega) (by omega)
        simp (config := {contextual := true, maxSteps := 5000000}) only [go_sem, false_and, Nat.reduceAdd, Nat.reduceLT, Nat.reduceBEq, Nat.reduceSub, Nat.reduceMul, Nat.reduceLeDiff, Int.reduceToNat, Nat.reduceEqDiff, Nat.reduceMod, h0, h5, h6, hl, hd, hw, hwd, hwc, specT3]
        have ho : tokOne s p = if byteAt s p = 32 ∨ byteAt s p = 9 then .skip
          else if isSign (byteAt s p) = true then .tok ⟨4, byteAt s p, p⟩ 0
          else if most (byteAt s p) < 0 then .err 30
          else if (numB s p (most (byteAt s p))).2 = 0 then .err 31
          else .tok ⟨kindOf (byteAt s p), (numB s p (most (byteAt s p))).1, p⟩ (numB s p (most (byteAt s p))).2 := rfl
        have hl8 : l.length ≤ 8000 := by omega
        have hskip : byteAt s p = 32 ∨ byteAt s p = 9 → ∃ j', j = j' + 1 ∧ ∃ (p_1 : Nat) (l_1 : List Tk) (tk_1 : Tok), AV.list tk (List.map Tk.cells l) = AV.list tk_1 (List.map Tk.cells l_1) ∧ ((p + 1 : Nat) : Int) = (p_1 : Int) ∧ LstAt H 3 141 tk_1 H2 ∧ s.size - p_1 ≤ j' ∧ p_1 ≤ s.size ∧ l_1.length ≤ p_1 ∧ tkGo s p_1 l_1 = toks s := fun h =>
          ⟨j - 1, by omega, p + 1, l, tk, rfl, rfl, hL, by omega, by omega, by omega, by rw [← hgo, tkGo_skip hi (by rw [ho, if_pos h])]⟩
        refine ⟨⟨by omega, by omega⟩, fun a => ⟨fun b => hskip (.inr (by simpa using b)), fun b => ?_⟩, fun a => hskip (.inl (by simpa using a))⟩
        clear hskip
        have hn1 : ¬ (byteAt s p = 32 ∨ byteAt s p = 9) := by simp only [beq_eq_false_iff_ne, ne_eq] at a b; omega
        rw [if_neg hn1] at ho
        refine ⟨fun c => ?_, fun c => ?_⟩
        · rw [if_pos c] at ho
          obtain ⟨q1, q2, q3, q4, q5, q6⟩ := push_ok hL hl8 ⟨4, byteAt s p, p⟩
          exact ⟨q1, q2, q3, q4, q5, q6, j - 1, by omega, p + 1, l ++ [⟨4, byteAt s p, p⟩], _, by rw [List.map_append]; rfl, rfl, hL.push (hfr _ (sfx2 _ _ _)), by omega, by omega, by simp; omega, by rw [← hgo, tkGo_tok hi ho]⟩
        · have hns : ¬ isSign (byteAt s p) = true := by simp [c]
          rw [if_neg hns] at ho
          refine ⟨fun d => ?_, fun d => ?_⟩ <;> simp only [decide_eq_true_eq, decide_eq_false_iff_not] at d
          · rw [if_pos d] at ho
            rw [← hgo, tkGo_err hi ho]
            exact ⟨Weak.refl _, hL.le⟩
          · rw [if_neg d] at ho
            have hm : most (byteAt s p) = 63 ∨ most (byteAt s p) = 99 := by
              unfold most at d ⊢
              split
              · exact .inl rfl
              · rename_i h1
                rw [if_neg h1] at d
                split
                · exact .inr rfl
                · rename_i h2
                  rw [if_neg h2] at d
                  omega
            obtain ⟨g1, g2⟩ := num_agree (s := s) (p := p) hm hi
            have hes : (s.extract (p + 1) (p + 1 + digs s (p + 1))).size = digs s (p + 1) := by simp [ByteArray.size_extract]; omega
            refine ⟨⟨by omega, by omega, by omega⟩, by kernel_rfl, ⟨by omega, by omega, by omega⟩, ⟨fun i hi' => ?_, by omega⟩, List.Pairwise.nil, fun e => ?_, fun e => ?_⟩
            · rw [byteAt_extract (by omega) (by omega)]
              exact digs_all (by omega)
            · rw [g1] at e
              simp only [decide_eq_true_eq] at e
              have hz : (numB s p (most (byteAt s p))).2 = 0 := by
                rcases Nat.eq_zero_or_pos (numB s p (most (byteAt s p))).2 with h | h
                · exact h
                · rw [if_neg (by omega)] at e
                  have := (g2 (by omega)).2.1
                  omega
              rw [if_pos hz] at ho
              rw [← hgo, tkGo_err hi ho]
              exact ⟨Weak.refl _, hL.le⟩
            · rw [g1] at e ⊢
              simp only [decide_eq_false_iff_not] at e
              have hz : ¬ (numB s p (most (byteAt s p))).2 = 0 := fun h => by
                rw [if_pos h] at e
                omega
              rw [if_neg hz] at ho ⊢
              obtain ⟨g3, g4, g5⟩ := g2 hz
              obtain ⟨q1, q2, q3, q4, q5, q6⟩ := push_ok hL hl8 ⟨kindOf (byteAt s p), (numB s p (most (byteAt s p))).1, p⟩
              exact ⟨q1, q2, q3, q4, q5, q6, j - 1, by omega, p + 1 + digs s (p + 1), l ++ [⟨kindOf (byteAt s p), (numB s p (most (byteAt s p))).1, p⟩], _, by rw [List.map_append]; rfl, rfl, hL.push (hfr _ (sfx2 _ _ _)), by omega, by omega, by simp; omega, by rw [← hgo, tkGo_tok hi ho, g3]⟩
      · have hd : decide ((p : Int) < (s.size : Int)) = false := by simp; omega
        simp (config := {contextual := true, maxSteps := 5000000}) only [go_sem, false_and, Nat.reduceAdd, Nat.reduceLT, Nat.reduceBEq, Nat.reduceSub, Nat.reduceMul, Nat.reduceLeDiff, Int.reduceToNat, Nat.reduceEqDiff, Nat.reduceMod, h0, h5, h6, hl, hd, specT3]
        rw [← hgo, tkGo_end hi]
        exact ⟨weak_list3, hL.le⟩
end Go.Proofs.YtkdendaohlnlcaaGreatDoor.Av

/- The grammar of formulas over tokens, in plain words; what the reference's small functions answer. No condition. -/
namespace Go.Proofs.YtkdendaohlnlcaaGreatDoor.Av
set_option linter.unusedVariables false
set_option linter.unusedSimpArgs false
set_option maxRecDepth 4000
set_option maxHeartbeats 1000000
variable {w0 : Base} {k : List Nat} {H : Hp}
def cTk : DecC Tk where
  dec := fun a => match a with
    | [.raw (.int .i64 x), .raw (.int .i64 y), .raw (.int .i64 z)] => some ⟨x, y, z⟩
    | _ => none
  enc := Tk.cells
  sz := 3
  len := fun c x h => by
    split at h
    · rfl
    · cases h
  elen := fun x => rfl
  ok := fun c x h G V hr => by
    split at h
    · cases h
      exact hr
    · cases h
  self := fun x => rfl
inductive Got where
  | ok (x : E) (p : Nat)
  | no (p : Nat)
def Got.cells : Got → List AV
  | .ok x p => [.bool true, .int .i64 x.kind, .int .i64 x.id, .list .none (x.kids.map E.cells), .int .i64 p]
  | .no p => [.bool false, .int .i64 0, .int .i64 0, .list .nil [], .int .i64 p]
@[go_sem] theorem got_cells_ok {x : E} {p : Nat} : (Got.ok x p).cells = [.bool true, .int .i64 x.kind, .int .i64 x.id, .list .none (x.kids.map E.cells), .int .i64 p] := rfl
@[go_sem] theorem got_cells_no {p : Nat} : (Got.no p).cells = [.bool false, .int .i64 0, .int .i64 0, .list .nil [], .int .i64 p] := rfl
@[go_sem] theorem got_len {g : Got} : g.cells.length = 5 := by cases g <;> rfl
@[go_sem] theorem got_one {g : Got} : g.cells.all oneA = true := by cases g <;> rfl
@[go_sem] theorem got_take {g : Got} : List.take 5 g.cells = g.cells := by cases g <;> rfl
def sgn (l : List Tk) (p : Nat) (c : Int) : Bool := match l[p]? with
  | some t => t.kind == 4 && t.n == c
  | none => false
def kAt (l : List Tk) (p : Nat) : Int := match l[p]? with
  | some t => t.kind
  | none => 0
def nAt (l : List Tk) (p : Nat) : Int := match l[p]? with
  | some t => t.n
  | none => 0
def argL (l : List Tk) (T : Nat → Got) (kd id : Int) : Nat → List E → Nat → Got
  | 0, _, p => .no p
  | c + 1, ks, p => match T p with
    | .no q => .no q
    | .ok x q => if sgn l q 41 = true then .ok (.mk kd id (ks ++ [x])) (q + 1) else if c = 0 ∨ sgn l q 44 = false then .no q else argL l T kd id c (ks ++ [x]) (q + 1)
def argG (l : List Tk) (T : Nat → Got) (kd id : Int) (p : Nat) : Got := if sgn l p 40 = true then argL l T kd id 4 [] (p + 1) else .ok (.mk kd id []) p
def tmF (l : List Tk) : Nat → Nat → Got
  | 0, p => .no p
  | m + 1, p => if kAt l p = 1 then .ok (.mk 1 (nAt l p) []) (p + 1) else if kAt l p = 2 then argG l (tmF l m) 2 (nAt l p) (p + 1) else .no p
theorem tk_get (l : List Tk) {p : Nat} (h : p < l.length) : ∃ t, l[p]? = some t ∧ (l.map cTk.enc).getD p [] = t.cells := ⟨l[p], by simp [h], by simp [List.getD_eq_getElem?_getD, h, cTk]⟩
theorem sign_call (l : List Tk) (p : Nat) (c : Int) (hc : 0 ≤ c ∧ c < 256) : CallAt Tryz.prog w0 k 129 [.list .none (l.map cTk.enc), .int .i64 p, .int .u8 c] H H (.bool (sgn l p c)) := by
  refine callAt tabOk Spec.no_ok mixed Tryz.func129 rfl rfl Tryz.results129 Tryz.ntmps129 (by simp) [] ?_
  intro hfr t hl ht
  simp only [At, Nat.reduceAdd, List.cons_append, List.nil_append] at ht
  have hw : IntKind.i64.wrap c = c := wrap_i64 (by omega) (by omega)
  by_cases hp : p < l.length
  · obtain ⟨x, hx, he⟩ := tk_get l hp
    have hd : decide ((p : Int) < (l.length : Int)) = true := by simp [hp]
    simp (config := {contextual := true, maxSteps := 5000000}) only [go_sem, false_and, Nat.reduceAdd, Nat.reduceLT, Nat.reduceBEq, Nat.reduceSub, Nat.reduceMul, Nat.reduceLeDiff, Int.reduceToNat, Nat.reduceEqDiff, Nat.reduceMod, ht, hl, hd, he, Tk.cells, hw]
    have hs : sgn l p c = (x.kind == 4 && x.n == c) := by rw [sgn, hx]
    rw [hs]
    refine ⟨⟨by omega, by omega⟩, fun a => ⟨⟨by omega, by omega⟩, ?_⟩, fun a => ?_⟩
    · rw [a]; simp
    · rw [a]; simp
  · have hd : decide ((p : Int) < (l.length : Int)) = false := by simp; omega
    simp (config := {contextual := true, maxSteps := 5000000}) only [go_sem, false_and, Nat.reduceAdd, Nat.reduceLT, Nat.reduceBEq, Nat.reduceSub, Nat.reduceMul, Nat.reduceLeDiff, Int.reduceToNat, Nat.reduceEqDiff, Nat.reduceMod, ht, hl, hd, hw]
    rw [sgn, List.getElem?_eq_none (by omega)]
theorem kindAt_call (l : List Tk) (p : Nat) : CallAt Tryz.prog w0 k 132 [.list .none (l.map cTk.enc), .int .i64 p] H H (.int .i64 (kAt l p)) := by
  refine callAt tabOk Spec.no_ok mixed Tryz.func132 rfl rfl Tryz.results132 Tryz.ntmps132 (by simp) [] ?_
  intro hfr t hl ht
  simp only [At, Nat.reduceAdd, List.cons_append, List.nil_append] at ht
  by_cases hp : p < l.length
  · obtain ⟨x, hx, he⟩ := tk_get l hp
    have hd : decide ((p : Int) < (l.length : Int)) = true := by simp [hp]
    simp (config := {contextual := true, maxSteps := 5000000}) only [go_sem, false_and, Nat.reduceAdd, Nat.reduceLT, Nat.reduceBEq, Nat.reduceSub, Nat.reduceMul, Nat.reduceLeDiff, Int.reduceToNat, Nat.reduceEqDiff, Nat.reduceMod, ht, hl, hd, he, Tk.cells]
    rw [kAt, hx]
    exact ⟨⟨by omega, by omega⟩, rfl⟩
  · have hd : decide ((p : Int) < (l.length : Int)) = false := by simp; omega
    simp (config := {contextual := true, maxSteps := 5000000}) only [go_sem, false_and, Nat.reduceAdd, Nat.reduceLT, Nat.reduceBEq, Nat.reduceSub, Nat.reduceMul, Nat.reduceLeDiff, Int.reduceToNat, Nat.reduceEqDiff, Nat.reduceMod, ht, hl, hd]
    rw [kAt, List.getElem?_eq_none (by omega)]
theorem got_no {p : Nat} : Weak (.agg [.bool false, .int .i64 0, .int .i64 0, .list .nil [], .int .i64 p]) (.agg (Got.no p).cells) := Weak.refl _
theorem got_ok {kd id : Int} {ks : List E} {p : Nat} {tk : Tok} : Weak (.agg [.bool true, .int .i64 kd, .int .i64 id, .list tk (ks.map E.cells), .int .i64 p]) (.agg (Got.ok (.mk kd id ks) p).cells) := by
  refine WeakL.agg ⟨_, _, rfl, Weak.refl _, _, _, rfl, Weak.refl _, _, _, rfl, Weak.refl _, _, _, rfl, list_weak, _, _, rfl, Weak.refl _, rfl⟩
theorem no_call (p : Nat) : CallAt Tryz.prog w0 k 158 [.int .i64 p] H H (.agg (Got.no p).cells) := by
  refine callAt tabOk Spec.no_ok mixed Tryz.func158 rfl rfl Tryz.results158 Tryz.ntmps158 (by simp) [] ?_
  intro hfr t hl ht
  simp only [At, Nat.reduceAdd, List.cons_append, List.nil_append] at ht
  simp (config := {contextual := true, maxSteps := 5000000}) only [go_sem, false_and, Nat.reduceAdd, Nat.reduceLT, Nat.reduceBEq, Nat.reduceSub, Nat.reduceMul, Nat.reduceLeDiff, Int.reduceToNat, Nat.reduceEqDiff, Nat.reduceMod, ht, hl]
  exact Hp.le_upd (Hp.Le.refl _) (hfr _ (sfx2 _ _ _))
def specG : Spec := ((Spec.no.add 129 (sp3 (dL cTk) dI dC (fun _ p c => 0 ≤ p ∧ 0 ≤ c ∧ c < 256) fun l p c => .bool (sgn l p.toNat c))).add 132 (sp2 (dL cTk) dI (fun _ p => 0 ≤ p) fun l p => .int .i64 (kAt l p.toNat))).add
  158 (sp1 dI (fun p => 0 ≤ p) fun p => .agg (Got.no p.toNat).cells)
theorem specG_ok : SpecOk Tryz.prog w0 specG := ((Spec.no_ok.add (sp3_ok fun l p c h k H => by
    obtain ⟨m, rfl⟩ : ∃ m : Nat, p = m := ⟨p.toNat, by omega⟩
    exact sign_call l m c h.2)).add (sp2_ok fun l p h k H => by
    obtain ⟨m, rfl⟩ : ∃ m : Nat, p = m := ⟨p.toNat, by omega⟩
    exact kindAt_call l m)).add (sp1_ok fun p h k H => by
    obtain ⟨m, rfl⟩ : ∃ m : Nat, p = m := ⟨p.toNat, by omega⟩
    exact no_call m)
/-- What is known of term, at places with so few tokens behind them. -/
def specTm (m : Nat) : Spec := specG.add 160 (sp2 (dL cTk) dI (fun l p => l.length ≤ 8000 ∧ 0 ≤ p ∧ (l.length : Int) < p + m) fun l p => .agg (tmF l m p.toNat).cells)
end Go.Proofs.YtkdendaohlnlcaaGreatDoor.Av

/- What the reference's args and term answer. No condition. -/
namespace Go.Proofs.YtkdendaohlnlcaaGreatDoor.Av
set_option linter.unusedVariables false
set_option linter.unusedSimpArgs false
set_option maxRecDepth 4000
set_option maxHeartbeats 1000000
variable {w0 : Base} {k : List Nat} {H : Hp}
/-- The kids so far, in a variable of the call's own. -/
def KidsAt (H : Hp) (X : Id) (kd id : Int) (ks : List E) (Hx : Hp) : Prop := H.Le Hx ∧ ∃ tk, Hx X = some (.cells [.int .i64 kd, .int .i64 id, .list tk (ks.map E.cells)]) ∧ (tk = .nil ∨ ∃ i : Id, tk = .tok i ∧ Hx i = some .tok ∧ H i = none ∧ i ≠ X ∧ i.sz = 3 ∧ i.ty = 25)
def Got.pos : Got → Nat
  | .ok _ p => p
  | .no p => p
theorem sgn_lt {l : List Tk} {p : Nat} {c : Int} (h : sgn l p c = true) : p < l.length := by
  unfold sgn at h
  split at h
  · rename_i t ht
    exact (List.getElem?_eq_some_iff.1 ht).1
  · cases h
theorem kAt_lt {l : List Tk} {p : Nat} (h : kAt l p ≠ 0) : p < l.length := by
  unfold kAt at h
  split at h
  · rename_i t ht
    exact (List.getElem?_eq_some_iff.1 ht).1
  · exact absurd rfl h
theorem argL_le {l : List Tk} {T : Nat → Got} {kd id : Int} (hT : ∀ p, p ≤ l.length → p ≤ (T p).pos ∧ (T p).pos ≤ l.length) : ∀ c ks p, p ≤ l.length → p ≤ (argL l T kd id c ks p).pos ∧ (argL l T kd id c ks p).pos ≤ l.length
  | 0, ks, p, hp => ⟨Nat.le_refl _, hp⟩
  | c + 1, ks, p, hp => by
    have h1 := hT p hp
    unfold argL
    cases hg : T p with
    | no q => rw [hg] at h1; exact h1
    | ok x q =>
      rw [hg] at h1
      simp only [Got.pos] at h1
      simp only
      by_cases hs : sgn l q 41 = true
      · have := sgn_lt hs
        rw [if_pos hs]
        simp only [Got.pos]
        omega
      · rw [if_neg hs]
        by_cases hs2 : c = 0 ∨ sgn l q 44 = false
        · rw [if_pos hs2]
          exact h1
        · rw [if_neg hs2]
          simp only [not_or, Bool.not_eq_false] at hs2
          have := sgn_lt hs2.2
          have := argL_le (kd := kd) (id := id) hT c (ks ++ [x]) (q + 1) (by omega)
          omega
theorem argG_le {l : List Tk} {T : Nat → Got} {kd id : Int} (hT : ∀ p, p ≤ l.length → p ≤ (T p).pos ∧ (T p).pos ≤ l.length) {p : Nat} (hp : p ≤ l.length) : p ≤ (argG l T kd id p).pos ∧ (argG l T kd id p).pos ≤ l.length := by
  unfold argG
  split
  · rename_i hs
    have := sgn_lt hs
    have := argL_le (kd := kd) (id := id) hT 4 [] (p + 1) (by omega)
    omega
  · exact ⟨Nat.le_refl _, hp⟩
theorem tmF_le (l : List Tk) : ∀ m p, p ≤ l.length → p ≤ (tmF l m p).pos ∧ (tmF l m p).pos ≤ l.length
  | 0, p, hp => ⟨Nat.le_refl _, hp⟩
  | m + 1, p, hp => by
    unfold tmF
    split
    · rename_i h
      have := kAt_lt (l := l) (p := p) (by omega)
      simp only [Got.pos]
      omega
    · split
      · rename_i h
        have := kAt_lt (l := l) (p := p) (by omega)
        have := argG_le (kd := 2) (id := nAt l p) (tmF_le l m) (p := p + 1) (by omega)
        omega
      · exact ⟨Nat.le_refl _, hp⟩
theorem KidsAt.push {X A N : Id} {kd id : Int} {ks : List E} {H2 : Hp} {tk : Tok} {x : E} {e : Option Ent} (hle : H.Le H2) (htk : tk = .nil ∨ ∃ i : Id, tk = .tok i ∧ H2 i = some .tok ∧ H i = none ∧ i ≠ X ∧ i.sz = 3 ∧ i.ty = 25)
    (hX : H X = none) (hA : H A = none) (hN : H N = none) (hNX : N ≠ X) (hz : N.sz = 3) (hy : N.ty = 25) {c : List AV} (hc : c = [.int .i64 kd, .int .i64 id, .list (.tok N) ((ks ++ [x]).map E.cells)]) :
    KidsAt H X kd id (ks ++ [x]) (((killTok (H2.upd A e) tk).upd N (some .tok)).upd X (some (.cells c))) := by
  subst hc
  refine ⟨fun j y hj => ?_, _, Hp.upd_same _ _ _, .inr ⟨N, rfl, by rw [Hp.upd_ne _ _ hNX, Hp.upd_same], hN, hNX, hz, hy⟩⟩
  have h1 : j ≠ X := fun h => by rw [h, hX] at hj; cases hj
  have h2 : j ≠ N := fun h => by rw [h, hN] at hj; cases hj
  have h3 : j ≠ A := fun h => by rw [h, hA] at hj; cases hj
  rw [Hp.upd_ne _ _ h1, Hp.upd_ne _ _ h2]
  have h4 : (H2.upd A e) j = some y := by rw [Hp.upd_ne _ _ h3]; exact hle j y hj
  rcases htk with rfl | ⟨i, rfl, _, hi, _⟩
  · exact h4
  · have h5 : j ≠ i := fun h => by rw [h, hi] at hj; cases hj
    show ((H2.upd A e).upd i none) j = some y
    rw [Hp.upd_ne _ _ h5]
    exact h4
theorem args_fin {l : List Tk} {kd id : Int} {ks : List E} {x : E} {r i c : Nat} {tk : Tok} {T : Nat → Got} {g : Got} (hic : i + c = 3)
    (hgo : (if sgn l r 41 = true then Got.ok (.mk kd id (ks ++ [x])) (r + 1) else if c = 0 ∨ sgn l r 44 = false then .no r else argL l T kd id c (ks ++ [x]) (r + 1)) = g) :
    (sgn l r 41 = true → Weak (.agg [.bool true, .int .i64 kd, .int .i64 id, .list tk ((ks ++ [x]).map E.cells), .int .i64 (r + 1 : Nat)]) (.agg g.cells)) ∧
    (sgn l r 41 = false → (((i : Int) == 3) = true ∨ sgn l r 44 = false) → Weak (.agg [.bool false, .int .i64 0, .int .i64 0, .list .nil [], .int .i64 r]) (.agg g.cells)) ∧
    (sgn l r 41 = false → ((i : Int) == 3) = false → sgn l r 44 = true → argL l T kd id c (ks ++ [x]) (r + 1) = g) := by
  refine ⟨fun a => ?_, fun a b => ?_, fun a b d => ?_⟩
  · rw [if_pos a] at hgo
    rw [← hgo]
    exact got_ok
  · rw [if_neg (by simp [a]), if_pos (by
      rcases b with b | b
      · left
        have := beq_iff_eq.1 b
        omega
      · exact .inr b)] at hgo
    rw [← hgo]
    exact got_no
  · have := beq_eq_false_iff_ne.1 b
    rw [if_neg (by simp [a]), if_neg (by simp [d]; omega)] at hgo
    exact hgo
theorem args_step (m : Nat) (hS : SpecOk Tryz.prog w0 (specTm m)) (l : List Tk) (hl8 : l.length ≤ 8000) (p : Nat) (hp : l.length < p + m) (hp2 : p ≤ l.length) (kd id : Int) : CallAt Tryz.prog w0 k 133 [.list .none (l.map cTk.enc), .int .i64 p, .agg [.int .i64 kd, .int .i64 id, .list .nil []]] H H (.agg (argG l (tmF l m) kd id p).cells) := by
  refine callAt tabOk hS mixed Tryz.func133 rfl rfl Tryz.results133 Tryz.ntmps133 (by simp) [5] ?_
  intro hfr t hl ht
  simp only [At, Nat.reduceAdd, List.cons_append, List.nil_append] at ht
  have hw : IntKind.i64.wrap ((p : Int) + 1) = ((p + 1 : Nat) : Int) := by rw [wrap_i64] <;> omega
  simp (config := {contextual := true, maxSteps := 5000000}) only [go_sem, false_and, Nat.reduceAdd, Nat.reduceLT, Nat.reduceBEq, Nat.reduceSub, Nat.reduceMul, Nat.reduceLeDiff, Int.reduceToNat, Nat.reduceEqDiff, Nat.reduceMod, ht, hl, hw, specTm, specG]
  refine ⟨⟨by omega, by omega, by omega⟩, fun a => ?_, fun a => ?_⟩
  · simp only [Bool.not_eq_true'] at a
    rw [argG, if_neg (by simp [a])]
    exact ⟨got_ok (ks := []), Hp.le_upd (Hp.le_upd (Hp.Le.refl _) (hfr _ (sfx2 _ _ _))) (hfr _ (sfx2 _ _ _))⟩
  · simp only [Bool.not_eq_false'] at a
    have hpl := sgn_lt a
    have hG : argG l (tmF l m) kd id p = argL l (tmF l m) kd id 4 [] (p + 1) := by rw [argG, if_pos a]
    refine loop_inv tabOk hS mixed [5] (fun c x => ∃ (i q : Nat) (ks : List E), x.tmps.length = 59 ∧ x.tmps.getD 0 AV.undef = .list .none (l.map cTk.enc) ∧ x.tmps.getD 1 AV.undef = .int .i64 q ∧ x.tmps.getD 5 AV.undef = .ptr ⟨3, 0 :: 0 :: k, 25⟩ 0 ∧ x.tmps.getD 6 AV.undef = .ptr ⟨5, 1 :: 0 :: k, 107⟩ 0 ∧ x.tmps.getD 7 AV.undef = .int .i64 i ∧
      i + c = 4 ∧ q ≤ l.length ∧ p + 1 ≤ q ∧ ks.length = i ∧ 4 ≤ x.n ∧ KidsAt H ⟨3, 0 :: 0 :: k, 25⟩ kd id ks x.H ∧ argL l (tmF l m) kd id c ks q = argG l (tmF l m) kd id p) 4 ⟨0, p + 1, [], ?_⟩ ?_
    · simp (config := {contextual := true, maxSteps := 5000000}) only [go_sem, false_and, Nat.reduceAdd, Nat.reduceLT, Nat.reduceBEq, Nat.reduceSub, Nat.reduceMul, Nat.reduceLeDiff, Int.reduceToNat, Nat.reduceEqDiff, Nat.reduceMod, ht, hl, hw]
      exact ⟨rfl, hpl, Nat.le_refl _, ⟨Hp.le_upd (Hp.le_upd (Hp.Le.refl _) (hfr _ (sfx2 _ _ _))) (hfr _ (sfx2 _ _ _)), .nil, by simp [Hp.upd], .inl rfl⟩, hG.symm⟩
    · rintro c ⟨t, n, H2⟩ ⟨i, q, ks, hl, h0, h1, h5, h6, h7, hic, hq, hpq, hks, hn, hK, hgo⟩
      simp only at hl h0 h1 h5 h6 h7 hK hn
      have hw : IntKind.i64.wrap ((i : Int) + 1) = ((i + 1 : Nat) : Int) := by rw [wrap_i64] <;> omega
      have fN : ∀ (a b : Nat) z ty, H ⟨z, a :: b :: k, ty⟩ = none := fun a b z ty => hfr _ (sfx2 _ _ _)
      cases c with
      | zero =>
        have hd : decide ((i : Int) < 4) = false := by simp; omega
        simp (config := {contextual := true, maxSteps := 5000000}) only [go_sem, false_and, Nat.reduceAdd, Nat.reduceLT, Nat.reduceBEq, Nat.reduceSub, Nat.reduceMul, Nat.reduceLeDiff, Int.reduceToNat, Nat.reduceEqDiff, Nat.reduceMod, h0, h1, h5, h6, h7, hl, hd, specTm, specG]
        rw [← hgo]
        exact ⟨by omega, got_no, Hp.le_upd hK.1 (fN _ _ _ _)⟩
      | succ c =>
        have hd : decide ((i : Int) < 4) = true := by simp; omega
        have hb := tmF_le l m q hq
        obtain ⟨hle, tk, hX, htk⟩ := hK
        rw [argL] at hgo
        cases hT : tmF l m q with
        | no r =>
          rw [hT] at hgo hb
          simp only at hgo
          simp (config := {contextual := true, maxSteps := 5000000}) only [go_sem, false_and, Nat.reduceAdd, Nat.reduceLT, Nat.reduceBEq, Nat.reduceSub, Nat.reduceMul, Nat.reduceLeDiff, Int.reduceToNat, Nat.reduceEqDiff, Nat.reduceMod, h0, h1, h5, h6, h7, hl, hd, specTm, specG, hT]
          rw [← hgo]
          exact ⟨⟨hl8, by omega, by omega⟩, got_no, Hp.le_upd (Hp.le_upd hle (fN _ _ _ _)) (fN _ _ _ _)⟩
        | ok x r =>
          rw [hT] at hgo hb
          simp only [Got.pos] at hgo hb
          have hwr : IntKind.i64.wrap ((r : Int) + 1) = ((r + 1 : Nat) : Int) := by rw [wrap_i64] <;> omega
          have hmap : (ks ++ [x]).map E.cells = ks.map E.cells ++ [[.int .i64 x.kind, .int .i64 x.id, .list .none (x.kids.map E.cells)]] := by simp [E.cells_eq]
          have hpush := fun e => KidsAt.push (x := x) (A := ⟨5, 3 :: (n + 1) :: k, 107⟩) (N := ⟨3, 5 :: (n + 1 + 1 + 1) :: k, 25⟩) (kd := kd) (id := id) (ks := ks) (e := e) hle htk (fN 0 0 _ _) (fN _ _ _ _) (fN _ _ _ _) (by simp) rfl rfl rfl
          rcases htk with rfl | ⟨i0, rfl, hi1, hi2, hi3, hi4, hi5⟩
          · simp (config := {contextual := true, maxSteps := 5000000}) only [go_sem, false_and, Nat.reduceAdd, Nat.reduceLT, Nat.reduceBEq, Nat.reduceSub, Nat.reduceMul, Nat.reduceLeDiff, Int.reduceToNat, Nat.reduceEqDiff, Nat.reduceMod, h0, h1, h5, h6, h7, hl, hd, hw, hwr, hX, specTm, specG, hT, strip, tokBy]
            rw [← hmap]
            simp only [killTok_nil] at hpush
            have hfin := fun tk => args_fin (tk := tk) (i := i) (c := c) (by omega) hgo
            refine ⟨⟨hl8, by omega, by omega⟩, fun y h => by rcases h with rfl | h; rfl; exact h.elim, fun y h => by obtain ⟨z, _, rfl⟩ := List.mem_map.1 h; exact E.cells_length z, rfl, by omega, by omega, trivial, ⟨by omega, by omega, by omega⟩, fun a => ⟨(hfin _).1 a, Hp.le_upd (hpush _).1 (fN _ _ _ _)⟩, fun a => ⟨fun b => ⟨⟨by omega, by omega, by omega⟩, fun d => ⟨by omega, (hfin .nil).2.1 a (.inr (by simpa using d)), Hp.le_upd (hpush _).1 (fN _ _ _ _)⟩, fun d => ⟨c, rfl, i + 1, r + 1, ks ++ [x], rfl, rfl, by omega, ?_, by omega, by simp [hks], hpush _, (hfin .nil).2.2 a b (by simpa using d)⟩⟩, fun b => ⟨by omega, (hfin .nil).2.1 a (.inl b), Hp.le_upd (hpush _).1 (fN _ _ _ _)⟩⟩⟩
            have := sgn_lt (l := l) (p := r) (c := 44) (by simpa using d)
            omega
          · have g1 : ∀ key ty, (i0 = ⟨5, key, ty⟩) = False := fun key ty => by simp; intro h; rw [h] at hi4; cases hi4
            have g3 : ∀ key ty, ((⟨5, key, ty⟩ : Id) = i0) = False := fun key ty => by simp; intro h; rw [← h] at hi4; cases hi4
            have g2 : ((⟨3, 0 :: 0 :: k, 25⟩ : Id) = i0) = False := by simp; exact fun h => hi3 h.symm
            simp (config := {contextual := true, maxSteps := 5000000}) only [go_sem, false_and, Nat.reduceAdd, Nat.reduceLT, Nat.reduceBEq, Nat.reduceSub, Nat.reduceMul, Nat.reduceLeDiff, Int.reduceToNat, Nat.reduceEqDiff, Nat.reduceMod, h0, h1, h5, h6, h7, hl, hd, hw, hwr, hX, specTm, specG, hT, strip, tokBy, g1, g2, g3, hi1]
            rw [← hmap]
            simp only [killTok_tok'] at hpush
            have hfin := fun tk => args_fin (tk := tk) (i := i) (c := c) (by omega) hgo
            refine ⟨⟨hl8, by omega, by omega⟩, fun y h => by rcases h with rfl | h; rfl; exact h.elim, fun y h => by obtain ⟨z, _, rfl⟩ := List.mem_map.1 h; exact E.cells_length z, rfl, by omega, by omega, ⟨by rw [Hp.upd_ne _ _ (by intro h; rw [h] at hi4; cases hi4)]; exact hi1, hi4, hi5⟩, ⟨by omega, by omega, by omega⟩, fun a => ⟨(hfin _).1 a, Hp.le_upd (hpush _).1 (fN _ _ _ _)⟩, fun a => ⟨fun b => ⟨⟨by omega, by omega, by omega⟩, fun d => ⟨by omega, (hfin .nil).2.1 a (.inr (by simpa using d)), Hp.le_upd (hpush _).1 (fN _ _ _ _)⟩, fun d => ⟨c, rfl, i + 1, r + 1, ks ++ [x], rfl, rfl, by omega, ?_, by omega, by simp [hks], hpush _, (hfin .nil).2.2 a b (by simpa using d)⟩⟩, fun b => ⟨by omega, (hfin .nil).2.1 a (.inl b), Hp.le_upd (hpush _).1 (fN _ _ _ _)⟩⟩⟩
            have := sgn_lt (l := l) (p := r) (c := 44) (by simpa using d)
            omega
end Go.Proofs.YtkdendaohlnlcaaGreatDoor.Av

/- What the reference's term and formula answer. No condition. -/
namespace Go.Proofs.YtkdendaohlnlcaaGreatDoor.Av
set_option linter.unusedVariables false
set_option linter.unusedSimpArgs false
set_option maxRecDepth 4000
set_option maxHeartbeats 1000000
variable {w0 : Base} {k : List Nat} {H : Hp}
def specAr (m : Nat) : Spec := (specTm m).add 133 (sp3 (dL cTk) dI (dA cE) (fun l p e => l.length ≤ 8000 ∧ 0 ≤ p ∧ (l.length : Int) < p + m ∧ p ≤ l.length ∧ e.kids = []) fun l p e => .agg (argG l (tmF l m) e.kind e.id p.toNat).cells)
theorem term_step (m : Nat) (hS : SpecOk Tryz.prog w0 (specTm m)) (l : List Tk) (hl8 : l.length ≤ 8000) (p : Nat) (hp : l.length < p + (m + 1)) : CallAt Tryz.prog w0 k 160 [.list .none (l.map cTk.enc), .int .i64 p] H H (.agg (tmF l (m + 1) p).cells) := by
  refine callAt tabOk hS mixed Tryz.func160 rfl rfl Tryz.results160 Tryz.ntmps160 (by simp) [] ?_
  intro hfr t hl ht
  simp only [At, Nat.reduceAdd, List.cons_append, List.nil_append] at ht
  rw [tmF]
  by_cases h1 : kAt l p = 1
  · obtain ⟨x, hx, he⟩ := tk_get l (kAt_lt (l := l) (p := p) (by omega))
    have hn : nAt l p = x.n := by rw [nAt, hx]
    have hlt := kAt_lt (l := l) (p := p) (by omega)
    have hw : IntKind.i64.wrap ((p : Int) + 1) = ((p + 1 : Nat) : Int) := by rw [wrap_i64] <;> omega
    simp (config := {contextual := true, maxSteps := 5000000}) only [go_sem, false_and, Nat.reduceAdd, Nat.reduceLT, Nat.reduceBEq, Nat.reduceSub, Nat.reduceMul, Nat.reduceLeDiff, Int.reduceToNat, Nat.reduceEqDiff, Nat.reduceMod, ht, hl, h1, hw, he, Tk.cells, specTm, specG, Int.reduceBEq]
    rw [hn]
    exact ⟨by omega, ⟨by omega, by omega⟩, got_ok (ks := []), Hp.le_upd (Hp.Le.refl _) (hfr _ (sfx2 _ _ _))⟩
  · by_cases h2 : kAt l p = 2
    · obtain ⟨x, hx, he⟩ := tk_get l (kAt_lt (l := l) (p := p) (by omega))
      have hn : nAt l p = x.n := by rw [nAt, hx]
      have hlt := kAt_lt (l := l) (p := p) (by omega)
      have hw : IntKind.i64.wrap ((p : Int) + 1) = ((p + 1 : Nat) : Int) := by rw [wrap_i64] <;> omega
      simp (config := {contextual := true, maxSteps := 5000000}) only [go_sem, false_and, Nat.reduceAdd, Nat.reduceLT, Nat.reduceBEq, Nat.reduceSub, Nat.reduceMul, Nat.reduceLeDiff, Int.reduceToNat, Nat.reduceEqDiff, Nat.reduceMod, ht, hl, h2, hw, he, Tk.cells, specTm, specG, Int.reduceBEq]
      rw [hn]
      refine ⟨by omega, by omega, ⟨by omega, by omega⟩, callK_intro (args_step m hS l hl8 (p + 1) (by omega) (by omega) 2 x.n) ?_⟩
      simp (config := {contextual := true, maxSteps := 5000000}) only [go_sem, false_and, Nat.reduceAdd, Nat.reduceLT, Nat.reduceBEq, Nat.reduceSub, Nat.reduceMul, Nat.reduceLeDiff, Int.reduceToNat, Nat.reduceEqDiff, Nat.reduceMod, ht, hl]
      exact ⟨Weak.refl _, Hp.le_upd (Hp.Le.refl _) (hfr _ (sfx2 _ _ _))⟩
    · have e1 : (kAt l p == 1) = false := by simpa using h1
      have e2 : (kAt l p == 2) = false := by simpa using h2
      simp (config := {contextual := true, maxSteps := 5000000}) only [go_sem, false_and, Nat.reduceAdd, Nat.reduceLT, Nat.reduceBEq, Nat.reduceSub, Nat.reduceMul, Nat.reduceLeDiff, Int.reduceToNat, Nat.reduceEqDiff, Nat.reduceMod, ht, hl, e1, e2, specTm, specG]
      rw [if_neg h1, if_neg h2]
      exact ⟨by omega, by omega, by omega, got_no, Hp.le_upd (Hp.Le.refl _) (hfr _ (sfx2 _ _ _))⟩
theorem term_step0 (l : List Tk) (p : Nat) (hp : l.length < p) : CallAt Tryz.prog w0 k 160 [.list .none (l.map cTk.enc), .int .i64 p] H H (.agg (tmF l 0 p).cells) := by
  refine callAt tabOk specG_ok mixed Tryz.func160 rfl rfl Tryz.results160 Tryz.ntmps160 (by simp) [] ?_
  intro hfr t hl ht
  simp only [At, Nat.reduceAdd, List.cons_append, List.nil_append] at ht
  have h0 : kAt l p = 0 := by rw [kAt, List.getElem?_eq_none (by omega)]
  simp (config := {contextual := true, maxSteps := 5000000}) only [go_sem, false_and, Nat.reduceAdd, Nat.reduceLT, Nat.reduceBEq, Nat.reduceSub, Nat.reduceMul, Nat.reduceLeDiff, Int.reduceToNat, Nat.reduceEqDiff, Nat.reduceMod, ht, hl, h0, specG, Int.reduceBEq]
  exact ⟨by omega, by omega, by omega, got_no, Hp.le_upd (Hp.Le.refl _) (hfr _ (sfx2 _ _ _))⟩
theorem specTm_ok : ∀ m, SpecOk Tryz.prog w0 (specTm m)
  | 0 => specG_ok.add (sp2_ok fun l p h k H => by
    obtain ⟨q, rfl⟩ : ∃ q : Nat, p = q := ⟨p.toNat, by omega⟩
    obtain ⟨h1, h2, h3⟩ := h
    exact term_step0 l q (by omega))
  | m + 1 => specG_ok.add (sp2_ok fun l p h k H => by
    obtain ⟨q, rfl⟩ : ∃ q : Nat, p = q := ⟨p.toNat, by omega⟩
    obtain ⟨h1, h2, h3⟩ := h
    exact term_step m (specTm_ok m) l h1 q (by omega))
end Go.Proofs.YtkdendaohlnlcaaGreatDoor.Av

/- What the reference's formula answers. No condition. -/
namespace Go.Proofs.YtkdendaohlnlcaaGreatDoor.Av
set_option linter.unusedVariables false
set_option linter.unusedSimpArgs false
set_option maxRecDepth 4000
set_option maxHeartbeats 1000000
variable {w0 : Base} {k : List Nat} {H : Hp}
def fQ (l : List Tk) (F : Nat → Got) (kd : Int) (p : Nat) : Got := if kAt l p = 1 then (match F (p + 1) with
  | .no q => .no q
  | .ok x q => .ok (.mk kd (nAt l p) [x]) q) else .no p
def jnt (l : List Tk) (p : Nat) : Int := if sgn l p 62 = true then 6 else if sgn l p 38 = true then 8 else if sgn l p 124 = true then 9 else 0
def fP (l : List Tk) (F : Nat → Got) (p : Nat) : Got := match F p with
  | .no q => .no q
  | .ok a q => if jnt l q = 0 then .no q else match F (q + 1) with
    | .no r => .no r
    | .ok b r => if sgn l r 41 = true then .ok (.mk (jnt l q) 0 [a, b]) (r + 1) else .no r
def fE (l : List Tk) (T : Nat → Got) (p : Nat) : Got := match T p with
  | .no q => .no q
  | .ok a q => if sgn l q 61 = true then (match T (q + 1) with
    | .no r => .no r
    | .ok b r => .ok (.mk 4 0 [a, b]) r) else .no q
def tmL (l : List Tk) : Nat → Got := tmF l (l.length + 1)
def fmF (l : List Tk) : Nat → Nat → Got
  | 0, p => .no p
  | m + 1, p => if sgn l p 33 = true then (match fmF l m (p + 1) with
      | .no q => .no q
      | .ok x q => .ok (.mk 5 0 [x]) q)
    else if sgn l p 64 = true then fQ l (fmF l m) 7 (p + 1) else if sgn l p 63 = true then fQ l (fmF l m) 10 (p + 1) else if sgn l p 40 = true then fP l (fmF l m) (p + 1)
    else if kAt l p = 3 then argG l (tmL l) 3 (nAt l p) (p + 1) else fE l (tmL l) p
theorem fQ_le {l : List Tk} {F : Nat → Got} {kd : Int} (hF : ∀ p, p ≤ l.length → p ≤ (F p).pos ∧ (F p).pos ≤ l.length) {p : Nat} (hp : p ≤ l.length) : p ≤ (fQ l F kd p).pos ∧ (fQ l F kd p).pos ≤ l.length := by
  unfold fQ
  split
  · rename_i h
    have h1 := kAt_lt (l := l) (p := p) (by omega)
    have h2 := hF (p + 1) (by omega)
    cases hg : F (p + 1) <;> rw [hg] at h2 <;> simp only [Got.pos] at h2 ⊢ <;> omega
  · exact ⟨Nat.le_refl _, hp⟩
theorem jnt_lt {l : List Tk} {p : Nat} (h : jnt l p ≠ 0) : p < l.length := by
  unfold jnt at h
  (repeat' split at h) <;> first | exact sgn_lt (by assumption) | exact absurd rfl h
theorem fP_le {l : List Tk} {F : Nat → Got} (hF : ∀ p, p ≤ l.length → p ≤ (F p).pos ∧ (F p).pos ≤ l.length) {p : Nat} (hp : p ≤ l.length) : p ≤ (fP l F p).pos ∧ (fP l F p).pos ≤ l.length := by
  have h1 := hF p hp
  unfold fP
  cases hg : F p with
  | no q => rw [hg] at h1; exact h1
  | ok a q =>
    rw [hg] at h1
    simp only [Got.pos] at h1
    simp only
    by_cases hj : jnt l q = 0
    · rw [if_pos hj]
      exact h1
    · have h2 := jnt_lt hj
      have h3 := hF (q + 1) (by omega)
      rw [if_neg hj]
      cases hg2 : F (q + 1) with
      | no r => rw [hg2] at h3; simp only [Got.pos] at h3 ⊢; omega
      | ok b r =>
        rw [hg2] at h3
        simp only [Got.pos] at h3
        simp only
        by_cases hs : sgn l r 41 = true
        · have := sgn_lt hs
          rw [if_pos hs]
          simp only [Got.pos]
          omega
        · rw [if_neg hs]
          simp only [Got.pos]
          omega
theorem fE_le {l : List Tk} {T : Nat → Got} (hF : ∀ p, p ≤ l.length → p ≤ (T p).pos ∧ (T p).pos ≤ l.length) {p : Nat} (hp : p ≤ l.length) : p ≤ (fE l T p).pos ∧ (fE l T p).pos ≤ l.length := by
  have h1 := hF p hp
  unfold fE
  cases hg : T p with
  | no q => rw [hg] at h1; exact h1
  | ok a q =>
    rw [hg] at h1
    simp only [Got.pos] at h1
    simp only
    by_cases hs : sgn l q 61 = true
    · have h2 := sgn_lt hs
      have h3 := hF (q + 1) (by omega)
      rw [if_pos hs]
      cases hg2 : T (q + 1) <;> rw [hg2] at h3 <;> simp only [Got.pos] at h3 ⊢ <;> omega
    · rw [if_neg hs]
      exact h1
theorem tmL_le (l : List Tk) : ∀ p, p ≤ l.length → p ≤ (tmL l p).pos ∧ (tmL l p).pos ≤ l.length := tmF_le l _
theorem fmF_le (l : List Tk) : ∀ m p, p ≤ l.length → p ≤ (fmF l m p).pos ∧ (fmF l m p).pos ≤ l.length
  | 0, p, hp => ⟨Nat.le_refl _, hp⟩
  | m + 1, p, hp => by
    have ih := fmF_le l m
    have step : ∀ {g : Got}, p < l.length → p + 1 ≤ g.pos ∧ g.pos ≤ l.length → p ≤ g.pos ∧ g.pos ≤ l.length := fun _ h => ⟨by omega, h.2⟩
    unfold fmF
    split
    · rename_i h
      have h1 := sgn_lt h
      have h2 := ih (p + 1) (by omega)
      cases hg : fmF l m (p + 1) <;> rw [hg] at h2 <;> simp only [Got.pos] at h2 ⊢ <;> omega
    · split
      · rename_i h
        have h1 := sgn_lt h
        exact step h1 (fQ_le ih (by omega))
      · split
        · rename_i h
          have h1 := sgn_lt h
          exact step h1 (fQ_le ih (by omega))
        · split
          · rename_i h
            have h1 := sgn_lt h
            exact step h1 (fP_le ih (by omega))
          · split
            · rename_i h
              have h1 := kAt_lt (l := l) (p := p) (by omega)
              exact step h1 (argG_le (tmL_le l) (by omega))
            · exact fE_le (tmL_le l) hp
/-! what the calls answer -/
theorem joint_call (l : List Tk) (p : Nat) : CallAt Tryz.prog w0 k 159 [.list .none (l.map cTk.enc), .int .i64 p] H H (.int .i64 (jnt l p)) := by
  refine callAt tabOk specG_ok mixed Tryz.func159 rfl rfl Tryz.results159 Tryz.ntmps159 (by simp) [] ?_
  intro hfr t hl ht
  simp only [At, Nat.reduceAdd, List.cons_append, List.nil_append] at ht
  simp (config := {contextual := true, maxSteps := 5000000}) only [go_sem, false_and, Nat.reduceAdd, Nat.reduceLT, Nat.reduceBEq, Nat.reduceSub, Nat.reduceMul, Nat.reduceLeDiff, Int.reduceToNat, Nat.reduceEqDiff, Nat.reduceMod, ht, hl, specG]
  unfold jnt
  refine ⟨⟨by omega, by omega, by omega⟩, fun a => ?_, fun a => ⟨⟨by omega, by omega, by omega⟩, fun b => ?_, fun b => ⟨⟨by omega, by omega, by omega⟩, fun c => ?_, fun c => ?_⟩⟩⟩ <;> simp_all
def specJ : Spec := (specG.add 159 (sp2 (dL cTk) dI (fun _ p => 0 ≤ p) fun l p => .int .i64 (jnt l p.toNat))).add 160 (sp2 (dL cTk) dI (fun l p => l.length ≤ 8000 ∧ 0 ≤ p) fun l p => .agg (tmL l p.toNat).cells)
theorem specJ_ok : SpecOk Tryz.prog w0 specJ := (specG_ok.add (sp2_ok fun l p h k H => by
    obtain ⟨q, rfl⟩ : ∃ q : Nat, p = q := ⟨p.toNat, by omega⟩
    exact joint_call l q)).add (sp2_ok fun l p h k H => by
    obtain ⟨q, rfl⟩ : ∃ q : Nat, p = q := ⟨p.toNat, by omega⟩
    exact term_step l.length (specTm_ok _) l h.1 q (by omega))
def specFm (m : Nat) : Spec := specJ.add 86 (sp2 (dL cTk) dI (fun l p => l.length ≤ 8000 ∧ 0 ≤ p ∧ (l.length : Int) < p + m ∧ p ≤ l.length) fun l p => .agg (fmF l m p.toNat).cells)
theorem got_ok1 {kd id : Int} {a : E} {p : Nat} {tk : Tok} : Weak (.agg [.bool true, .int .i64 kd, .int .i64 id, .list tk [[.int .i64 a.kind, .int .i64 a.id, .list .none (a.kids.map E.cells)]], .int .i64 p]) (.agg (Got.ok (.mk kd id [a]) p).cells) := by
  have := got_ok (kd := kd) (id := id) (ks := [a]) (p := p) (tk := tk)
  simpa only [List.map_cons, List.map_nil, E.cells_eq] using this
theorem got_ok2 {kd id : Int} {a b : E} {p : Nat} {tk : Tok} : Weak (.agg [.bool true, .int .i64 kd, .int .i64 id, .list tk [[.int .i64 a.kind, .int .i64 a.id, .list .none (a.kids.map E.cells)], [.int .i64 b.kind, .int .i64 b.id, .list .none (b.kids.map E.cells)]], .int .i64 p]) (.agg (Got.ok (.mk kd id [a, b]) p).cells) := by
  have := got_ok (kd := kd) (id := id) (ks := [a, b]) (p := p) (tk := tk)
  simpa only [List.map_cons, List.map_nil, E.cells_eq] using this
theorem equality_call (l : List Tk) (hl8 : l.length ≤ 8000) (p : Nat) (hp : p ≤ l.length) : CallAt Tryz.prog w0 k 134 [.list .none (l.map cTk.enc), .int .i64 p] H H (.agg (fE l (tmL l) p).cells) := by
  refine callAt tabOk specJ_ok mixed Tryz.func134 rfl rfl Tryz.results134 Tryz.ntmps134 (by simp) [] ?_
  intro hfr t hl ht
  simp only [At, Nat.reduceAdd, List.cons_append, List.nil_append] at ht
  have hb := tmL_le l p hp
  have fN : ∀ (a b : Nat) z ty, H ⟨z, a :: b :: k, ty⟩ = none := fun a b z ty => hfr _ (sfx2 _ _ _)
  unfold fE
  cases hT : tmL l p with
  | no q =>
    simp (config := {contextual := true, maxSteps := 5000000}) only [go_sem, false_and, Nat.reduceAdd, Nat.reduceLT, Nat.reduceBEq, Nat.reduceSub, Nat.reduceMul, Nat.reduceLeDiff, Int.reduceToNat, Nat.reduceEqDiff, Nat.reduceMod, ht, hl, hT, specJ, specG]
    ((repeat' apply And.intro) <;> first | omega | with_reducible assumption | exact got_ok1 | exact got_ok2 | exact got_no | exact Weak.refl _ | exact List.Pairwise.nil | (refine pw_of ?_; (repeat' (first | exact trivial | apply And.intro)); all_goals (first | exact .inr rfl | exact .inr trivial | exact .inl (by kernel_rfl))) | ((with_reducible (show drawOk _ = true)); kernel_rfl) | (repeat (first | exact Hp.Le.refl _ | refine Hp.le_upd ?_ (fN _ _ _ _))))
  | ok a q =>
    rw [hT] at hb
    simp only [Got.pos] at hb
    have hw : IntKind.i64.wrap ((q : Int) + 1) = ((q + 1 : Nat) : Int) := by rw [wrap_i64] <;> omega
    by_cases hs : sgn l q 61 = true
    · cases hT2 : tmL l (q + 1) with
      | no r =>
        simp (config := {contextual := true, maxSteps := 5000000}) only [go_sem, false_and, Nat.reduceAdd, Nat.reduceLT, Nat.reduceBEq, Nat.reduceSub, Nat.reduceMul, Nat.reduceLeDiff, Int.reduceToNat, Nat.reduceEqDiff, Nat.reduceMod, ht, hl, hT, hT2, hs, hw, specJ, specG]
        ((repeat' apply And.intro) <;> first | omega | with_reducible assumption | exact got_ok1 | exact got_ok2 | exact got_no | exact Weak.refl _ | exact List.Pairwise.nil | (refine pw_of ?_; (repeat' (first | exact trivial | apply And.intro)); all_goals (first | exact .inr rfl | exact .inr trivial | exact .inl (by kernel_rfl))) | ((with_reducible (show drawOk _ = true)); kernel_rfl) | (repeat (first | exact Hp.Le.refl _ | refine Hp.le_upd ?_ (fN _ _ _ _))))
      | ok b r =>
        simp (config := {contextual := true, maxSteps := 5000000}) only [go_sem, false_and, Nat.reduceAdd, Nat.reduceLT, Nat.reduceBEq, Nat.reduceSub, Nat.reduceMul, Nat.reduceLeDiff, Int.reduceToNat, Nat.reduceEqDiff, Nat.reduceMod, ht, hl, hT, hT2, hs, hw, specJ, specG, strip]
        ((repeat' apply And.intro) <;> first | omega | with_reducible assumption | exact got_ok1 | exact got_ok2 | exact got_no | exact Weak.refl _ | exact List.Pairwise.nil | (refine pw_of ?_; (repeat' (first | exact trivial | apply And.intro)); all_goals (first | exact .inr rfl | exact .inr trivial | exact .inl (by kernel_rfl))) | ((with_reducible (show drawOk _ = true)); kernel_rfl) | (repeat (first | exact Hp.Le.refl _ | refine Hp.le_upd ?_ (fN _ _ _ _))))
    · simp only [Bool.not_eq_true] at hs
      simp (config := {contextual := true, maxSteps := 5000000}) only [go_sem, false_and, Nat.reduceAdd, Nat.reduceLT, Nat.reduceBEq, Nat.reduceSub, Nat.reduceMul, Nat.reduceLeDiff, Int.reduceToNat, Nat.reduceEqDiff, Nat.reduceMod, ht, hl, hT, hs, hw, specJ, specG]
      ((repeat' apply And.intro) <;> first | omega | with_reducible assumption | exact got_ok1 | exact got_ok2 | exact got_no | exact Weak.refl _ | exact List.Pairwise.nil | (refine pw_of ?_; (repeat' (first | exact trivial | apply And.intro)); all_goals (first | exact .inr rfl | exact .inr trivial | exact .inl (by kernel_rfl))) | ((with_reducible (show drawOk _ = true)); kernel_rfl) | (repeat (first | exact Hp.Le.refl _ | refine Hp.le_upd ?_ (fN _ _ _ _))))
theorem quantified_step (m : Nat) (hS : SpecOk Tryz.prog w0 (specFm m)) (l : List Tk) (hl8 : l.length ≤ 8000) (kd : Int) (p : Nat) (hp : l.length < p + m) (hp2 : p ≤ l.length) : CallAt Tryz.prog w0 k 130 [.list .none (l.map cTk.enc), .int .i64 p, .int .i64 kd] H H (.agg (fQ l (fmF l m) kd p).cells) := by
  refine callAt tabOk hS mixed Tryz.func130 rfl rfl Tryz.results130 Tryz.ntmps130 (by simp) [] ?_
  intro hfr t hl ht
  simp only [At, Nat.reduceAdd, List.cons_append, List.nil_append] at ht
  have fN : ∀ (a b : Nat) z ty, H ⟨z, a :: b :: k, ty⟩ = none := fun a b z ty => hfr _ (sfx2 _ _ _)
  unfold fQ
  by_cases h1 : kAt l p = 1
  · obtain ⟨x, hx, he⟩ := tk_get l (kAt_lt (l := l) (p := p) (by omega))
    have hn : nAt l p = x.n := by rw [nAt, hx]
    have hlt := kAt_lt (l := l) (p := p) (by omega)
    have hw : IntKind.i64.wrap ((p : Int) + 1) = ((p + 1 : Nat) : Int) := by rw [wrap_i64] <;> omega
    cases hF : fmF l m (p + 1) with
    | no q =>
      simp (config := {contextual := true, maxSteps := 5000000}) only [go_sem, false_and, Nat.reduceAdd, Nat.reduceLT, Nat.reduceBEq, Nat.reduceSub, Nat.reduceMul, Nat.reduceLeDiff, Int.reduceToNat, Nat.reduceEqDiff, Nat.reduceMod, ht, hl, h1, hF, hw, specFm, specJ, specG, Int.reduceBEq, bne_self_eq_false]
      ((repeat' apply And.intro) <;> first | omega | with_reducible assumption | exact got_ok1 | exact got_ok2 | exact got_no | exact Weak.refl _ | exact List.Pairwise.nil | (refine pw_of ?_; (repeat' (first | exact trivial | apply And.intro)); all_goals (first | exact .inr rfl | exact .inr trivial | exact .inl (by kernel_rfl))) | ((with_reducible (show drawOk _ = true)); kernel_rfl) | (repeat (first | exact Hp.Le.refl _ | refine Hp.le_upd ?_ (fN _ _ _ _))))
    | ok a q =>
      simp (config := {contextual := true, maxSteps := 5000000}) only [go_sem, false_and, Nat.reduceAdd, Nat.reduceLT, Nat.reduceBEq, Nat.reduceSub, Nat.reduceMul, Nat.reduceLeDiff, Int.reduceToNat, Nat.reduceEqDiff, Nat.reduceMod, ht, hl, h1, hF, hw, he, Tk.cells, specFm, specJ, specG, strip, Int.reduceBEq, bne_self_eq_false]
      rw [hn]
      ((repeat' apply And.intro) <;> first | omega | with_reducible assumption | exact got_ok1 | exact got_ok2 | exact got_no | exact Weak.refl _ | exact List.Pairwise.nil | (refine pw_of ?_; (repeat' (first | exact trivial | apply And.intro)); all_goals (first | exact .inr rfl | exact .inr trivial | exact .inl (by kernel_rfl))) | ((with_reducible (show drawOk _ = true)); kernel_rfl) | (repeat (first | exact Hp.Le.refl _ | refine Hp.le_upd ?_ (fN _ _ _ _))))
  · have e1 : (kAt l p != 1) = true := by simpa using h1
    simp (config := {contextual := true, maxSteps := 5000000}) only [go_sem, false_and, Nat.reduceAdd, Nat.reduceLT, Nat.reduceBEq, Nat.reduceSub, Nat.reduceMul, Nat.reduceLeDiff, Int.reduceToNat, Nat.reduceEqDiff, Nat.reduceMod, ht, hl, e1, specFm, specJ, specG]
    rw [if_neg h1]
    ((repeat' apply And.intro) <;> first | omega | with_reducible assumption | exact got_ok1 | exact got_ok2 | exact got_no | exact Weak.refl _ | exact List.Pairwise.nil | (refine pw_of ?_; (repeat' (first | exact trivial | apply And.intro)); all_goals (first | exact .inr rfl | exact .inr trivial | exact .inl (by kernel_rfl))) | ((with_reducible (show drawOk _ = true)); kernel_rfl) | (repeat (first | exact Hp.Le.refl _ | refine Hp.le_upd ?_ (fN _ _ _ _))))
theorem pair_step (m : Nat) (hS : SpecOk Tryz.prog w0 (specFm m)) (l : List Tk) (hl8 : l.length ≤ 8000) (p : Nat) (hp : l.length < p + m) (hp2 : p ≤ l.length) : CallAt Tryz.prog w0 k 131 [.list .none (l.map cTk.enc), .int .i64 p] H H (.agg (fP l (fmF l m) p).cells) := by
  refine callAt tabOk hS mixed Tryz.func131 rfl rfl Tryz.results131 Tryz.ntmps131 (by simp) [] ?_
  intro hfr t hl ht
  simp only [At, Nat.reduceAdd, List.cons_append, List.nil_append] at ht
  have fN : ∀ (a b : Nat) z ty, H ⟨z, a :: b :: k, ty⟩ = none := fun a b z ty => hfr _ (sfx2 _ _ _)
  have hb := fmF_le l m p hp2
  unfold fP
  cases hF : fmF l m p with
  | no q =>
    simp (config := {contextual := true, maxSteps := 5000000}) only [go_sem, false_and, Nat.reduceAdd, Nat.reduceLT, Nat.reduceBEq, Nat.reduceSub, Nat.reduceMul, Nat.reduceLeDiff, Int.reduceToNat, Nat.reduceEqDiff, Nat.reduceMod, ht, hl, hF, specFm, specJ, specG]
    ((repeat' apply And.intro) <;> first | omega | with_reducible assumption | exact got_ok1 | exact got_ok2 | exact got_no | exact Weak.refl _ | exact List.Pairwise.nil | (refine pw_of ?_; (repeat' (first | exact trivial | apply And.intro)); all_goals (first | exact .inr rfl | exact .inr trivial | exact .inl (by kernel_rfl))) | ((with_reducible (show drawOk _ = true)); kernel_rfl) | (repeat (first | exact Hp.Le.refl _ | refine Hp.le_upd ?_ (fN _ _ _ _))))
  | ok a q =>
    rw [hF] at hb
    simp only [Got.pos] at hb
    have hw : IntKind.i64.wrap ((q : Int) + 1) = ((q + 1 : Nat) : Int) := by rw [wrap_i64] <;> omega
    by_cases hj : jnt l q = 0
    · simp (config := {contextual := true, maxSteps := 5000000}) only [go_sem, false_and, Nat.reduceAdd, Nat.reduceLT, Nat.reduceBEq, Nat.reduceSub, Nat.reduceMul, Nat.reduceLeDiff, Int.reduceToNat, Nat.reduceEqDiff, Nat.reduceMod, ht, hl, hF, hj, specFm, specJ, specG, Int.reduceBEq]
      ((repeat' apply And.intro) <;> first | omega | with_reducible assumption | exact got_ok1 | exact got_ok2 | exact got_no | exact Weak.refl _ | exact List.Pairwise.nil | (refine pw_of ?_; (repeat' (first | exact trivial | apply And.intro)); all_goals (first | exact .inr rfl | exact .inr trivial | exact .inl (by kernel_rfl))) | ((with_reducible (show drawOk _ = true)); kernel_rfl) | (repeat (first | exact Hp.Le.refl _ | refine Hp.le_upd ?_ (fN _ _ _ _))))
    · have hj' : (jnt l q == 0) = false := by simpa using hj
      have hjl := jnt_lt hj
      have hb2 := fmF_le l m (q + 1) (by omega)
      cases hF2 : fmF l m (q + 1) with
      | no r =>
        simp (config := {contextual := true, maxSteps := 5000000}) only [go_sem, false_and, Nat.reduceAdd, Nat.reduceLT, Nat.reduceBEq, Nat.reduceSub, Nat.reduceMul, Nat.reduceLeDiff, Int.reduceToNat, Nat.reduceEqDiff, Nat.reduceMod, ht, hl, hF, hF2, hj', hw, specFm, specJ, specG]
        rw [if_neg hj]
        ((repeat' apply And.intro) <;> first | omega | with_reducible assumption | exact got_ok1 | exact got_ok2 | exact got_no | exact Weak.refl _ | exact List.Pairwise.nil | (refine pw_of ?_; (repeat' (first | exact trivial | apply And.intro)); all_goals (first | exact .inr rfl | exact .inr trivial | exact .inl (by kernel_rfl))) | ((with_reducible (show drawOk _ = true)); kernel_rfl) | (repeat (first | exact Hp.Le.refl _ | refine Hp.le_upd ?_ (fN _ _ _ _))))
      | ok b r =>
        rw [hF2] at hb2
        simp only [Got.pos] at hb2
        have hwr : IntKind.i64.wrap ((r : Int) + 1) = ((r + 1 : Nat) : Int) := by rw [wrap_i64] <;> omega
        by_cases hs : sgn l r 41 = true
        · simp (config := {contextual := true, maxSteps := 5000000}) only [go_sem, false_and, Nat.reduceAdd, Nat.reduceLT, Nat.reduceBEq, Nat.reduceSub, Nat.reduceMul, Nat.reduceLeDiff, Int.reduceToNat, Nat.reduceEqDiff, Nat.reduceMod, ht, hl, hF, hF2, hj', hw, hwr, hs, specFm, specJ, specG, strip]
          rw [if_neg hj]
          ((repeat' apply And.intro) <;> first | omega | with_reducible assumption | exact got_ok1 | exact got_ok2 | exact got_no | exact Weak.refl _ | exact List.Pairwise.nil | (refine pw_of ?_; (repeat' (first | exact trivial | apply And.intro)); all_goals (first | exact .inr rfl | exact .inr trivial | exact .inl (by kernel_rfl))) | ((with_reducible (show drawOk _ = true)); kernel_rfl) | (repeat (first | exact Hp.Le.refl _ | refine Hp.le_upd ?_ (fN _ _ _ _))))
        · simp only [Bool.not_eq_true] at hs
          simp (config := {contextual := true, maxSteps := 5000000}) only [go_sem, false_and, Nat.reduceAdd, Nat.reduceLT, Nat.reduceBEq, Nat.reduceSub, Nat.reduceMul, Nat.reduceLeDiff, Int.reduceToNat, Nat.reduceEqDiff, Nat.reduceMod, ht, hl, hF, hF2, hj', hw, hwr, hs, specFm, specJ, specG]
          rw [if_neg hj]
          ((repeat' apply And.intro) <;> first | omega | with_reducible assumption | exact got_ok1 | exact got_ok2 | exact got_no | exact Weak.refl _ | exact List.Pairwise.nil | (refine pw_of ?_; (repeat' (first | exact trivial | apply And.intro)); all_goals (first | exact .inr rfl | exact .inr trivial | exact .inl (by kernel_rfl))) | ((with_reducible (show drawOk _ = true)); kernel_rfl) | (repeat (first | exact Hp.Le.refl _ | refine Hp.le_upd ?_ (fN _ _ _ _))))
theorem formula_step (m : Nat) (hS : SpecOk Tryz.prog w0 (specFm m)) (l : List Tk) (hl8 : l.length ≤ 8000) (p : Nat) (hp : l.length < p + (m + 1)) (hp2 : p ≤ l.length) : CallAt Tryz.prog w0 k 86 [.list .none (l.map cTk.enc), .int .i64 p] H H (.agg (fmF l (m + 1) p).cells) := by
  refine callAt tabOk hS mixed Tryz.func86 rfl rfl Tryz.results86 Tryz.ntmps86 (by simp) [] ?_
  intro hfr t hl ht
  simp only [At, Nat.reduceAdd, List.cons_append, List.nil_append] at ht
  have fN : ∀ (a b : Nat) z ty, H ⟨z, a :: b :: k, ty⟩ = none := fun a b z ty => hfr _ (sfx2 _ _ _)
  have hw : IntKind.i64.wrap ((p : Int) + 1) = ((p + 1 : Nat) : Int) := by rw [wrap_i64] <;> omega
  rw [fmF]
  by_cases h1 : sgn l p 33 = true
  · have hlt := sgn_lt h1
    cases hF : fmF l m (p + 1) with
    | no q =>
      simp (config := {contextual := true, maxSteps := 5000000}) only [go_sem, false_and, Nat.reduceAdd, Nat.reduceLT, Nat.reduceBEq, Nat.reduceSub, Nat.reduceMul, Nat.reduceLeDiff, Int.reduceToNat, Nat.reduceEqDiff, Nat.reduceMod, ht, hl, h1, hF, hw, specFm, specJ, specG]
      ((repeat' apply And.intro) <;> first | omega | with_reducible assumption | exact got_ok1 | exact got_ok2 | exact got_no | exact Weak.refl _ | exact List.Pairwise.nil | (refine pw_of ?_; (repeat' (first | exact trivial | apply And.intro)); all_goals (first | exact .inr rfl | exact .inr trivial | exact .inl (by kernel_rfl))) | ((with_reducible (show drawOk _ = true)); kernel_rfl) | (repeat (first | exact Hp.Le.refl _ | refine Hp.le_upd ?_ (fN _ _ _ _))))
    | ok a q =>
      simp (config := {contextual := true, maxSteps := 5000000}) only [go_sem, false_and, Nat.reduceAdd, Nat.reduceLT, Nat.reduceBEq, Nat.reduceSub, Nat.reduceMul, Nat.reduceLeDiff, Int.reduceToNat, Nat.reduceEqDiff, Nat.reduceMod, ht, hl, h1, hF, hw, specFm, specJ, specG, strip]
      ((repeat' apply And.intro) <;> first | omega | with_reducible assumption | exact got_ok1 | exact got_ok2 | exact got_no | exact Weak.refl _ | exact List.Pairwise.nil | (refine pw_of ?_; (repeat' (first | exact trivial | apply And.intro)); all_goals (first | exact .inr rfl | exact .inr trivial | exact .inl (by kernel_rfl))) | ((with_reducible (show drawOk _ = true)); kernel_rfl) | (repeat (first | exact Hp.Le.refl _ | refine Hp.le_upd ?_ (fN _ _ _ _))))
  · have e1 : sgn l p 33 = false := by simpa using h1
    by_cases h2 : sgn l p 64 = true
    · have hlt := sgn_lt h2
      simp (config := {contextual := true, maxSteps := 5000000}) only [go_sem, false_and, Nat.reduceAdd, Nat.reduceLT, Nat.reduceBEq, Nat.reduceSub, Nat.reduceMul, Nat.reduceLeDiff, Int.reduceToNat, Nat.reduceEqDiff, Nat.reduceMod, ht, hl, e1, h2, hw, specFm, specJ, specG]
      refine ⟨⟨by omega, by omega, by omega⟩, ⟨by omega, by omega, by omega⟩, callK_intro (quantified_step m hS l hl8 7 (p + 1) (by omega) (by omega)) ?_⟩
      simp (config := {contextual := true, maxSteps := 5000000}) only [go_sem, false_and, Nat.reduceAdd, Nat.reduceLT, Nat.reduceBEq, Nat.reduceSub, Nat.reduceMul, Nat.reduceLeDiff, Int.reduceToNat, Nat.reduceEqDiff, Nat.reduceMod, ht, hl]
      ((repeat' apply And.intro) <;> first | omega | with_reducible assumption | exact got_ok1 | exact got_ok2 | exact got_no | exact Weak.refl _ | exact List.Pairwise.nil | (refine pw_of ?_; (repeat' (first | exact trivial | apply And.intro)); all_goals (first | exact .inr rfl | exact .inr trivial | exact .inl (by kernel_rfl))) | ((with_reducible (show drawOk _ = true)); kernel_rfl) | (repeat (first | exact Hp.Le.refl _ | refine Hp.le_upd ?_ (fN _ _ _ _))))
    · have e2 : sgn l p 64 = false := by simpa using h2
      by_cases h3 : sgn l p 63 = true
      · have hlt := sgn_lt h3
        simp (config := {contextual := true, maxSteps := 5000000}) only [go_sem, false_and, Nat.reduceAdd, Nat.reduceLT, Nat.reduceBEq, Nat.reduceSub, Nat.reduceMul, Nat.reduceLeDiff, Int.reduceToNat, Nat.reduceEqDiff, Nat.reduceMod, ht, hl, e1, e2, h3, hw, specFm, specJ, specG]
        refine ⟨⟨by omega, by omega, by omega⟩, ⟨by omega, by omega, by omega⟩, ⟨by omega, by omega, by omega⟩, callK_intro (quantified_step m hS l hl8 10 (p + 1) (by omega) (by omega)) ?_⟩
        simp (config := {contextual := true, maxSteps := 5000000}) only [go_sem, false_and, Nat.reduceAdd, Nat.reduceLT, Nat.reduceBEq, Nat.reduceSub, Nat.reduceMul, Nat.reduceLeDiff, Int.reduceToNat, Nat.reduceEqDiff, Nat.reduceMod, ht, hl]
        ((repeat' apply And.intro) <;> first | omega | with_reducible assumption | exact got_ok1 | exact got_ok2 | exact got_no | exact Weak.refl _ | exact List.Pairwise.nil | (refine pw_of ?_; (repeat' (first | exact trivial | apply And.intro)); all_goals (first | exact .inr rfl | exact .inr trivial | exact .inl (by kernel_rfl))) | ((with_reducible (show drawOk _ = true)); kernel_rfl) | (repeat (first | exact Hp.Le.refl _ | refine Hp.le_upd ?_ (fN _ _ _ _))))
      · have e3 : sgn l p 63 = false := by simpa using h3
        by_cases h4 : sgn l p 40 = true
        · have hlt := sgn_lt h4
          simp (config := {contextual := true, maxSteps := 5000000}) only [go_sem, false_and, Nat.reduceAdd, Nat.reduceLT, Nat.reduceBEq, Nat.reduceSub, Nat.reduceMul, Nat.reduceLeDiff, Int.reduceToNat, Nat.reduceEqDiff, Nat.reduceMod, ht, hl, e1, e2, e3, h4, hw, specFm, specJ, specG]
          refine ⟨⟨by omega, by omega, by omega⟩, ⟨by omega, by omega, by omega⟩, ⟨by omega, by omega, by omega⟩, ⟨by omega, by omega, by omega⟩, callK_intro (pair_step m hS l hl8 (p + 1) (by omega) (by omega)) ?_⟩
          simp (config := {contextual := true, maxSteps := 5000000}) only [go_sem, false_and, Nat.reduceAdd, Nat.reduceLT, Nat.reduceBEq, Nat.reduceSub, Nat.reduceMul, Nat.reduceLeDiff, Int.reduceToNat, Nat.reduceEqDiff, Nat.reduceMod, ht, hl]
          ((repeat' apply And.intro) <;> first | omega | with_reducible assumption | exact got_ok1 | exact got_ok2 | exact got_no | exact Weak.refl _ | exact List.Pairwise.nil | (refine pw_of ?_; (repeat' (first | exact trivial | apply And.intro)); all_goals (first | exact .inr rfl | exact .inr trivial | exact .inl (by kernel_rfl))) | ((with_reducible (show drawOk _ = true)); kernel_rfl) | (repeat (first | exact Hp.Le.refl _ | refine Hp.le_upd ?_ (fN _ _ _ _))))
        · have e4 : sgn l p 40 = false := by simpa using h4
          by_cases h5 : kAt l p = 3
          · obtain ⟨x, hx, he⟩ := tk_get l (kAt_lt (l := l) (p := p) (by omega))
            have hn : nAt l p = x.n := by rw [nAt, hx]
            have hlt := kAt_lt (l := l) (p := p) (by omega)
            simp (config := {contextual := true, maxSteps := 5000000}) only [go_sem, false_and, Nat.reduceAdd, Nat.reduceLT, Nat.reduceBEq, Nat.reduceSub, Nat.reduceMul, Nat.reduceLeDiff, Int.reduceToNat, Nat.reduceEqDiff, Nat.reduceMod, ht, hl, e1, e2, e3, e4, h5, hw, he, Tk.cells, specFm, specJ, specG, Int.reduceBEq]
            rw [hn]
            refine ⟨⟨by omega, by omega, by omega⟩, ⟨by omega, by omega, by omega⟩, ⟨by omega, by omega, by omega⟩, ⟨by omega, by omega, by omega⟩, by omega, ⟨by omega, by omega⟩, callK_intro (args_step (l.length + 1) (specTm_ok _) l hl8 (p + 1) (by omega) (by omega) 3 x.n) ?_⟩
            simp (config := {contextual := true, maxSteps := 5000000}) only [go_sem, false_and, Nat.reduceAdd, Nat.reduceLT, Nat.reduceBEq, Nat.reduceSub, Nat.reduceMul, Nat.reduceLeDiff, Int.reduceToNat, Nat.reduceEqDiff, Nat.reduceMod, ht, hl]
            ((repeat' apply And.intro) <;> first | omega | with_reducible assumption | exact got_ok1 | exact got_ok2 | exact got_no | exact Weak.refl _ | exact List.Pairwise.nil | (refine pw_of ?_; (repeat' (first | exact trivial | apply And.intro)); all_goals (first | exact .inr rfl | exact .inr trivial | exact .inl (by kernel_rfl))) | ((with_reducible (show drawOk _ = true)); kernel_rfl) | (repeat (first | exact Hp.Le.refl _ | refine Hp.le_upd ?_ (fN _ _ _ _))))
          · have e5 : (kAt l p == 3) = false := by simpa using h5
            simp (config := {contextual := true, maxSteps := 5000000}) only [go_sem, false_and, Nat.reduceAdd, Nat.reduceLT, Nat.reduceBEq, Nat.reduceSub, Nat.reduceMul, Nat.reduceLeDiff, Int.reduceToNat, Nat.reduceEqDiff, Nat.reduceMod, ht, hl, e1, e2, e3, e4, e5, hw, specFm, specJ, specG]
            rw [if_neg h5]
            refine ⟨⟨by omega, by omega, by omega⟩, ⟨by omega, by omega, by omega⟩, ⟨by omega, by omega, by omega⟩, ⟨by omega, by omega, by omega⟩, by omega, callK_intro (equality_call l hl8 p hp2) ?_⟩
            simp (config := {contextual := true, maxSteps := 5000000}) only [go_sem, false_and, Nat.reduceAdd, Nat.reduceLT, Nat.reduceBEq, Nat.reduceSub, Nat.reduceMul, Nat.reduceLeDiff, Int.reduceToNat, Nat.reduceEqDiff, Nat.reduceMod, ht, hl]
            ((repeat' apply And.intro) <;> first | omega | with_reducible assumption | exact got_ok1 | exact got_ok2 | exact got_no | exact Weak.refl _ | exact List.Pairwise.nil | (refine pw_of ?_; (repeat' (first | exact trivial | apply And.intro)); all_goals (first | exact .inr rfl | exact .inr trivial | exact .inl (by kernel_rfl))) | ((with_reducible (show drawOk _ = true)); kernel_rfl) | (repeat (first | exact Hp.Le.refl _ | refine Hp.le_upd ?_ (fN _ _ _ _))))
theorem specFm_ok : ∀ m, SpecOk Tryz.prog w0 (specFm m)
  | 0 => specJ_ok.add (sp2_ok fun l p h k H => by
    obtain ⟨h1, h2, h3, h4⟩ := h
    omega)
  | m + 1 => specJ_ok.add (sp2_ok fun l p h k H => by
    obtain ⟨q, rfl⟩ : ∃ q : Nat, p = q := ⟨p.toNat, by omega⟩
    obtain ⟨h1, h2, h3, h4⟩ := h
    exact formula_step m (specFm_ok m) l h1 q (by omega) (by omega))
end Go.Proofs.YtkdendaohlnlcaaGreatDoor.Av

/- What organonref03.Formula answers. No condition. -/
namespace Go.Proofs.YtkdendaohlnlcaaGreatDoor.Av
set_option linter.unusedVariables false
set_option linter.unusedSimpArgs false
set_option maxRecDepth 4000
set_option maxHeartbeats 1000000
variable {w0 : Base} {k : List Nat} {H : Hp}
def Got.fine : Got → Prop
  | .ok x _ => x.ok
  | .no _ => True
theorem okL_of : ∀ {l : List E}, (∀ x ∈ l, x.ok) → E.okL l
  | [], _ => trivial
  | e :: es, h => ⟨h e (by simp), okL_of fun x hx => h x (by simp [hx])⟩
theorem ok_mk {kd id : Int} {ks : List E} (h : ks.length ≤ 8) (hk : ∀ x ∈ ks, x.ok) : (E.mk kd id ks).ok := ⟨by omega, okL_of hk⟩
theorem fine_mk {kd id : Int} {ks : List E} {p : Nat} (h : ks.length ≤ 8) (hk : ∀ x ∈ ks, x.ok) : (Got.ok (.mk kd id ks) p).fine := ⟨by omega, okL_of hk⟩
theorem argL_fine {l : List Tk} {T : Nat → Got} {kd id : Int} (hT : ∀ p, (T p).fine) : ∀ c ks p, ks.length + c ≤ 7 → (∀ x ∈ ks, x.ok) → (argL l T kd id c ks p).fine
  | 0, ks, p, _, _ => trivial
  | c + 1, ks, p, hl, hk => by
    have h1 := hT p
    unfold argL
    cases hg : T p with
    | no q => exact trivial
    | ok x q =>
      rw [hg] at h1
      have hk2 : ∀ y ∈ ks ++ [x], y.ok := fun y hy => by
        rcases List.mem_append.1 hy with h | h
        · exact hk y h
        · rw [List.mem_singleton.1 h]; exact h1
      simp only
      by_cases hs : sgn l q 41 = true
      · rw [if_pos hs]
        exact fine_mk (by simp; omega) hk2
      · rw [if_neg hs]
        by_cases hs2 : c = 0 ∨ sgn l q 44 = false
        · rw [if_pos hs2]
          exact trivial
        · rw [if_neg hs2]
          exact argL_fine hT c _ _ (by simp; omega) hk2
theorem argG_fine {l : List Tk} {T : Nat → Got} {kd id : Int} (hT : ∀ p, (T p).fine) (p : Nat) : (argG l T kd id p).fine := by
  unfold argG
  split
  · exact argL_fine hT 4 [] _ (by simp) (by simp)
  · exact fine_mk (by simp) (by simp)
theorem tmF_fine (l : List Tk) : ∀ m p, (tmF l m p).fine
  | 0, p => trivial
  | m + 1, p => by
    unfold tmF
    split
    · exact fine_mk (by simp) (by simp)
    · split
      · exact argG_fine (tmF_fine l m) _
      · exact trivial
theorem fmF_fine (l : List Tk) : ∀ m p, (fmF l m p).fine
  | 0, p => trivial
  | m + 1, p => by
    have ih := fmF_fine l m
    have one : ∀ {x : E} {kd id : Int} {p : Nat}, x.ok → (Got.ok (.mk kd id [x]) p).fine := fun h => fine_mk (by simp) (by simpa using h)
    have two : ∀ {x y : E} {kd id : Int} {p : Nat}, x.ok → y.ok → (Got.ok (.mk kd id [x, y]) p).fine := fun h g => fine_mk (by simp) (by simp; exact ⟨h, g⟩)
    have hq : ∀ kd p, (fQ l (fmF l m) kd p).fine := fun kd p => by
      have h1 := ih (p + 1)
      unfold fQ
      split
      · cases hg : fmF l m (p + 1) with
        | no q => exact trivial
        | ok x q => rw [hg] at h1; exact one h1
      · exact trivial
    unfold fmF
    split
    · have h1 := ih (p + 1)
      cases hg : fmF l m (p + 1) with
      | no q => exact trivial
      | ok x q => rw [hg] at h1; exact one h1
    · split
      · exact hq _ _
      · split
        · exact hq _ _
        · split
          · unfold fP
            have h1 := ih (p + 1)
            cases hg : fmF l m (p + 1) with
            | no q => exact trivial
            | ok a q =>
              rw [hg] at h1
              simp only
              by_cases hj : jnt l q = 0
              · rw [if_pos hj]; exact trivial
              · rw [if_neg hj]
                have h2 := ih (q + 1)
                cases hg2 : fmF l m (q + 1) with
                | no r => exact trivial
                | ok b r =>
                  rw [hg2] at h2
                  simp only
                  split
                  · exact two h1 h2
                  · exact trivial
          · split
            · exact argG_fine (tmF_fine l _) _
            · unfold fE
              have h1 := tmF_fine l (l.length + 1) p
              have h2 := fun q => tmF_fine l (l.length + 1) q
              unfold tmL
              cases hg : tmF l (l.length + 1) p with
              | no q => exact trivial
              | ok a q =>
                rw [hg] at h1
                simp only
                split
                · have h3 := h2 (q + 1)
                  cases hg2 : tmF l (l.length + 1) (q + 1) with
                  | no r => exact trivial
                  | ok b r => rw [hg2] at h3; exact two h1 h3
                · exact trivial
theorem tkGo_len (s : ByteArray) : ∀ m p l l', s.size - p ≤ m → p ≤ s.size → l.length ≤ p → tkGo s p l = .ok l' → l'.length ≤ s.size
  | 0, p, l, l', hm, hp, hl, h => by
    rw [tkGo_end (by omega)] at h
    cases h
    omega
  | m + 1, p, l, l', hm, hp, hl, h => by
    by_cases hi : p < s.size
    · rw [tkGo, if_pos hi] at h
      split at h
      · exact tkGo_len s m (p + 1) l l' (by omega) (by omega) (by omega) h
      · rename_i t w ht
        have hw : p + 1 + w ≤ s.size := by
          unfold tokOne at ht
          (repeat' split at ht) <;> cases ht
          · omega
          · rename_i h1 h2 h3 h4
            have hm : most (byteAt s p) = 63 ∨ most (byteAt s p) = 99 := by
              unfold most at h3 ⊢
              split
              · exact .inl rfl
              · rename_i h5
                rw [if_neg h5] at h3
                split
                · exact .inr rfl
                · rename_i h6
                  rw [if_neg h6] at h3
                  omega
            have := (num_agree (s := s) (p := p) hm hi).2 h4
            have := digs_le s (p + 1)
            omega
        exact tkGo_len s m (p + 1 + w) (l ++ [t]) l' (by omega) (by omega) (by simp; omega) h
      · cases h
    · rw [tkGo_end hi] at h
      cases h
      omega
theorem toks_len {s : ByteArray} {l : List Tk} (h : toks s = .ok l) : l.length ≤ 8000 := by
  unfold toks at h
  split at h
  · cases h
  · have := tkGo_len s _ 0 [] l (Nat.le_refl _) (by omega) (by simp) h
    omega
def posOf (l : List Tk) (end_ q : Nat) : Int := match l[q]? with
  | some t => t.at_
  | none => end_
inductive FR where
  | ok (x : E)
  | err (e at_ : Int)
def FR.av : FR → AV
  | .ok x => .tup [x.av, .int .i64 0, .int .i64 0]
  | .err e a => .tup [.agg [.int .i64 0, .int .i64 0, .list .nil []], .int .i64 e, .int .i64 a]
def wholeR (s : ByteArray) (l : List Tk) (g : Got) : FR := match g with
  | .no q => .err 32 (posOf l s.size q)
  | .ok x q => if q < l.length then .err 32 (posOf l s.size q) else if x.right = 0 then .ok x else .err x.right 0
def fmRes (s : ByteArray) : FR := match toks s with
  | .err e a => .err e a
  | .ok l => wholeR s l (fmF l (l.length + 1) 0)
def specWh : Spec := Spec.no.add 62 (sp1 dE (fun e => e.ok) fun e => .int .i64 e.right)
theorem specWh_ok : SpecOk Tryz.prog w0 specWh := Spec.no_ok.add (sp1_ok fun e h k H => right02_call e h)
theorem fr_ok {x : E} : Weak (.tup [.agg [.int .i64 x.kind, .int .i64 x.id, .list .none (x.kids.map E.cells)], .int .i64 0, .int .i64 0]) (FR.ok x).av := by
  have e : (FR.ok x).av = .tup [.agg [.int .i64 x.kind, .int .i64 x.id, .list .none (x.kids.map E.cells)], .int .i64 0, .int .i64 0] := by cases x; simp [FR.av, E.av, E.cells_eq]
  rw [e]
  exact Weak.refl _
theorem whole_call (s : ByteArray) (l : List Tk) (g : Got) (hg : g.fine) : CallAt Tryz.prog w0 k 85 [.str s, .list .none (l.map cTk.enc), .agg g.cells] H H (wholeR s l g).av := by
  refine callAt tabOk specWh_ok mixed Tryz.func85 rfl rfl Tryz.results85 Tryz.ntmps85 (by simp) [] ?_
  intro hfr t hl ht
  simp only [At, Nat.reduceAdd, List.cons_append, List.nil_append] at ht
  have fN : ∀ (a b : Nat) z ty, H ⟨z, a :: b :: k, ty⟩ = none := fun a b z ty => hfr _ (sfx2 _ _ _)
  have pos_lt : ∀ {q : Nat}, q < l.length → ∃ x : Tk, (l.map cTk.enc).getD q [] = x.cells ∧ posOf l s.size q = x.at_ := fun {q} hq => by
    obtain ⟨x, hx, he⟩ := tk_get l hq
    exact ⟨x, he, by rw [posOf, hx]⟩
  have pos_ge : ∀ {q : Nat}, ¬ q < l.length → posOf l s.size q = s.size := fun {q} hq => by rw [posOf, List.getElem?_eq_none (by omega)]
  cases g with
  | no q =>
    have hr : wholeR s l (.no q) = .err 32 (posOf l s.size q) := rfl
    rw [hr]
    by_cases hq : q < l.length
    · have hd : decide ((q : Int) < (l.length : Int)) = true := by simp [hq]
      obtain ⟨x, he, hp⟩ := pos_lt hq
      simp (config := {contextual := true, maxSteps := 5000000}) only [go_sem, false_and, Nat.reduceAdd, Nat.reduceLT, Nat.reduceBEq, Nat.reduceSub, Nat.reduceMul, Nat.reduceLeDiff, Int.reduceToNat, Nat.reduceEqDiff, Nat.reduceMod, ht, hl, hd, he, Tk.cells, specWh, got_cells_no]
      rw [hp]
      ((repeat' apply And.intro) <;> first | omega | with_reducible assumption | exact fr_ok | exact Weak.refl _ | exact List.Pairwise.nil | rfl | (refine pw_of ?_; (repeat' (first | exact trivial | apply And.intro)); all_goals (first | exact .inr rfl | exact .inr trivial | exact .inl (by kernel_rfl))) | ((with_reducible (show drawOk _ = true)); kernel_rfl) | (repeat (first | exact Hp.Le.refl _ | refine Hp.le_upd ?_ (fN _ _ _ _))))
    · have hd : decide ((q : Int) < (l.length : Int)) = false := by simp; omega
      simp (config := {contextual := true, maxSteps := 5000000}) only [go_sem, false_and, Nat.reduceAdd, Nat.reduceLT, Nat.reduceBEq, Nat.reduceSub, Nat.reduceMul, Nat.reduceLeDiff, Int.reduceToNat, Nat.reduceEqDiff, Nat.reduceMod, ht, hl, hd, specWh, got_cells_no]
      rw [pos_ge hq]
      ((repeat' apply And.intro) <;> first | omega | with_reducible assumption | exact fr_ok | exact Weak.refl _ | exact List.Pairwise.nil | rfl | (refine pw_of ?_; (repeat' (first | exact trivial | apply And.intro)); all_goals (first | exact .inr rfl | exact .inr trivial | exact .inl (by kernel_rfl))) | ((with_reducible (show drawOk _ = true)); kernel_rfl) | (repeat (first | exact Hp.Le.refl _ | refine Hp.le_upd ?_ (fN _ _ _ _))))
  | ok x q =>
    have hok : x.ok := hg
    by_cases hq : q < l.length
    · have hd : decide ((q : Int) < (l.length : Int)) = true := by simp [hq]
      obtain ⟨y, he, hp⟩ := pos_lt hq
      have hr : wholeR s l (.ok x q) = .err 32 (posOf l s.size q) := by rw [wholeR, if_pos hq]
      rw [hr]
      simp (config := {contextual := true, maxSteps := 5000000}) only [go_sem, false_and, Nat.reduceAdd, Nat.reduceLT, Nat.reduceBEq, Nat.reduceSub, Nat.reduceMul, Nat.reduceLeDiff, Int.reduceToNat, Nat.reduceEqDiff, Nat.reduceMod, ht, hl, hd, he, Tk.cells, specWh, got_cells_ok]
      rw [hp]
      ((repeat' apply And.intro) <;> first | omega | with_reducible assumption | exact fr_ok | exact Weak.refl _ | exact List.Pairwise.nil | rfl | (refine pw_of ?_; (repeat' (first | exact trivial | apply And.intro)); all_goals (first | exact .inr rfl | exact .inr trivial | exact .inl (by kernel_rfl))) | ((with_reducible (show drawOk _ = true)); kernel_rfl) | (repeat (first | exact Hp.Le.refl _ | refine Hp.le_upd ?_ (fN _ _ _ _))))
    · have hd : decide ((q : Int) < (l.length : Int)) = false := by simp; omega
      by_cases hz : x.right = 0
      · have hr : wholeR s l (.ok x q) = .ok x := by rw [wholeR, if_neg hq, if_pos hz]
        rw [hr]
        simp (config := {contextual := true, maxSteps := 5000000}) only [go_sem, false_and, Nat.reduceAdd, Nat.reduceLT, Nat.reduceBEq, Nat.reduceSub, Nat.reduceMul, Nat.reduceLeDiff, Int.reduceToNat, Nat.reduceEqDiff, Nat.reduceMod, ht, hl, hd, hz, specWh, got_cells_ok, bne_self_eq_false]
        ((repeat' apply And.intro) <;> first | omega | with_reducible assumption | exact fr_ok | exact Weak.refl _ | exact List.Pairwise.nil | rfl | (refine pw_of ?_; (repeat' (first | exact trivial | apply And.intro)); all_goals (first | exact .inr rfl | exact .inr trivial | exact .inl (by kernel_rfl))) | ((with_reducible (show drawOk _ = true)); kernel_rfl) | (repeat (first | exact Hp.Le.refl _ | refine Hp.le_upd ?_ (fN _ _ _ _))))
      · have hr : wholeR s l (.ok x q) = .err x.right 0 := by rw [wholeR, if_neg hq, if_neg hz]
        have hz' : (x.right != 0) = true := by simpa using hz
        rw [hr]
        simp (config := {contextual := true, maxSteps := 5000000}) only [go_sem, false_and, Nat.reduceAdd, Nat.reduceLT, Nat.reduceBEq, Nat.reduceSub, Nat.reduceMul, Nat.reduceLeDiff, Int.reduceToNat, Nat.reduceEqDiff, Nat.reduceMod, ht, hl, hd, hz', specWh, got_cells_ok]
        ((repeat' apply And.intro) <;> first | omega | with_reducible assumption | exact fr_ok | exact Weak.refl _ | exact List.Pairwise.nil | rfl | (refine pw_of ?_; (repeat' (first | exact trivial | apply And.intro)); all_goals (first | exact .inr rfl | exact .inr trivial | exact .inl (by kernel_rfl))) | ((with_reducible (show drawOk _ = true)); kernel_rfl) | (repeat (first | exact Hp.Le.refl _ | refine Hp.le_upd ?_ (fN _ _ _ _))))
def specFo : Spec := Spec.no.add 84 (sp1 dS (fun _ => True) fun s => (toks s).av)
theorem specFo_ok : SpecOk Tryz.prog w0 specFo := Spec.no_ok.add (sp1_ok fun s _ k H => tokens03_call s)
theorem tkGo_ne (s : ByteArray) : ∀ m p l e a, s.size - p ≤ m → tkGo s p l = .err e a → e = 30 ∨ e = 31
  | 0, p, l, e, a, hm, h => by
    rw [tkGo_end (by omega)] at h
    cases h
  | m + 1, p, l, e, a, hm, h => by
    by_cases hi : p < s.size
    · rw [tkGo, if_pos hi] at h
      split at h
      · exact tkGo_ne s m _ l e a (by omega) h
      · exact tkGo_ne s m _ _ e a (by omega) h
      · rename_i c hc
        cases h
        unfold tokOne at hc
        (repeat' split at hc) <;> cases hc
        · exact .inl rfl
        · exact .inr rfl
    · rw [tkGo_end hi] at h
      cases h
theorem toks_ne {s : ByteArray} {e a : Int} (h : toks s = .err e a) : e ≠ 0 := by
  unfold toks at h
  split at h
  · cases h
    decide
  · have := tkGo_ne s _ 0 [] e a (Nat.le_refl _) h
    omega
theorem formula03_call (s : ByteArray) : CallAt Tryz.prog w0 k 55 [.str s] H H (fmRes s).av := by
  refine callAt tabOk specFo_ok mixed Tryz.func55 rfl rfl Tryz.results55 Tryz.ntmps55 (by simp) [] ?_
  intro hfr t hl ht
  simp only [At, Nat.reduceAdd, List.cons_append, List.nil_append] at ht
  have fN : ∀ (a b : Nat) z ty, H ⟨z, a :: b :: k, ty⟩ = none := fun a b z ty => hfr _ (sfx2 _ _ _)
  unfold fmRes
  cases hT : toks s with
  | err e a =>
    have he : e ≠ 0 := toks_ne hT
    have he' : (e != 0) = true := by simpa using he
    have hav : (TR.err e a).av = .tup [.list .nil [], .int .i64 e, .int .i64 a] := rfl
    simp (config := {contextual := true, maxSteps := 5000000}) only [go_sem, false_and, Nat.reduceAdd, Nat.reduceLT, Nat.reduceBEq, Nat.reduceSub, Nat.reduceMul, Nat.reduceLeDiff, Int.reduceToNat, Nat.reduceEqDiff, Nat.reduceMod, ht, hl, specFo, hT, hav, he']
    exact ⟨Weak.refl _, Hp.le_upd (Hp.Le.refl _) (fN _ _ _ _)⟩
  | ok l =>
    have hl8 := toks_len hT
    have hav : (TR.ok l).av = .tup [.list .none (l.map cTk.enc), .int .i64 0, .int .i64 0] := rfl
    simp (config := {contextual := true, maxSteps := 5000000}) only [go_sem, false_and, Nat.reduceAdd, Nat.reduceLT, Nat.reduceBEq, Nat.reduceSub, Nat.reduceMul, Nat.reduceLeDiff, Int.reduceToNat, Nat.reduceEqDiff, Nat.reduceMod, ht, hl, specFo, hT, hav, bne_self_eq_false]
    refine callK_intro (formula_step l.length (specFm_ok _) l hl8 0 (by omega) (by omega)) ?_
    simp (config := {contextual := true, maxSteps := 5000000}) only [go_sem, false_and, Nat.reduceAdd, Nat.reduceLT, Nat.reduceBEq, Nat.reduceSub, Nat.reduceMul, Nat.reduceLeDiff, Int.reduceToNat, Nat.reduceEqDiff, Nat.reduceMod, hl]
    have hW := whole_call (w0 := w0) (k := 4 :: 3 :: k) (H := H.upd ⟨3, 0 :: 0 :: k, 25⟩ (some (.cells [.raw (.int .i64 0), .raw (.int .i64 0), .list .nil []]))) s l (fmF l (l.length + 1) 0) (fmF_fine l _ _)
    cases hR : wholeR s l (fmF l (l.length + 1) 0) with
    | ok x =>
      rw [hR] at hW
      refine callK_intro hW ?_
      have hav : (FR.ok x).av = .tup [.agg [.int .i64 x.kind, .int .i64 x.id, .list .none (x.kids.map E.cells)], .int .i64 0, .int .i64 0] := rfl
      simp (config := {contextual := true, maxSteps := 5000000}) only [go_sem, false_and, Nat.reduceAdd, Nat.reduceLT, Nat.reduceBEq, Nat.reduceSub, Nat.reduceMul, Nat.reduceLeDiff, Int.reduceToNat, Nat.reduceEqDiff, Nat.reduceMod, hl, hav]
      exact Hp.le_upd (Hp.Le.refl _) (fN _ _ _ _)
    | err e a =>
      rw [hR] at hW
      refine callK_intro hW ?_
      have hav : (FR.err e a).av = .tup [.agg [.int .i64 0, .int .i64 0, .list .nil []], .int .i64 e, .int .i64 a] := rfl
      simp (config := {contextual := true, maxSteps := 5000000}) only [go_sem, false_and, Nat.reduceAdd, Nat.reduceLT, Nat.reduceBEq, Nat.reduceSub, Nat.reduceMul, Nat.reduceLeDiff, Int.reduceToNat, Nat.reduceEqDiff, Nat.reduceMod, hl, hav]
      exact Hp.le_upd (Hp.Le.refl _) (fN _ _ _ _)
end Go.Proofs.YtkdendaohlnlcaaGreatDoor.Av

/- What the program's reader does, step by step. No condition. -/
namespace Go.Proofs.YtkdendaohlnlcaaGreatDoor.Av
set_option linter.unusedVariables false
set_option linter.unusedSimpArgs false
set_option maxRecDepth 4000
set_option maxHeartbeats 1000000
variable {w0 : Base} {k : List Nat} {H : Hp}
/-- A reader's cells. -/
def rd (l : List Tk) (en : Nat) (i : Nat) : List AV := [.list .none (l.map cTk.enc), .int .i64 i, .int .i64 en]
def stopV (l : List Tk) (en : Nat) (q : Nat) : AV := .iface 133 (.agg [.int .i64 (posOf l en q)])
theorem rd_len {l : List Tk} {en : Nat} {i : Nat} : (rd l en i).length = 3 := rfl
theorem is_call (id : Id) (l : List Tk) (en : Nat) (i : Nat) (kd : Int) (hk : kd ≠ 0) (hH : H id = some (.cells (rd l en i))) : CallAt Tryz.prog w0 k 119 [.ptr id 0, .int .i64 kd] H H (.bool (kAt l i == kd)) := by
  refine callAt tabOk Spec.no_ok mixed Tryz.func119 rfl rfl Tryz.results119 Tryz.ntmps119 (by simp) [] ?_
  intro hfr t hl ht
  simp only [At, Nat.reduceAdd, List.cons_append, List.nil_append] at ht
  simp only [rd] at hH
  by_cases hi : i < l.length
  · obtain ⟨x, hx, he⟩ := tk_get l hi
    have hd : decide ((i : Int) < (l.length : Int)) = true := by simp [hi]
    have hkn : kAt l i = x.kind := by rw [kAt, hx]
    simp (config := {contextual := true, maxSteps := 5000000}) only [go_sem, false_and, Nat.reduceAdd, Nat.reduceLT, Nat.reduceBEq, Nat.reduceSub, Nat.reduceMul, Nat.reduceLeDiff, Int.reduceToNat, Nat.reduceEqDiff, Nat.reduceMod, ht, hl, hH, hd, he, Tk.cells]
    rw [hkn]
    ((repeat' apply And.intro) <;> first | omega | with_reducible assumption | exact Weak.refl _ | rfl | exact List.Pairwise.nil | (refine pw_of ?_; (repeat' (first | exact trivial | apply And.intro)); all_goals (first | exact .inr rfl | exact .inr trivial | exact .inl (by kernel_rfl))) | ((with_reducible (show drawOk _ = true)); kernel_rfl) | ((with_reducible (show panOk _ _ _ = true)); kernel_rfl) | (repeat (first | exact Hp.Le.refl _ | refine Hp.le_upd ?_ (fN _ _ _ _))))
  · have hd : decide ((i : Int) < (l.length : Int)) = false := by simp; omega
    have hkn : kAt l i = 0 := by rw [kAt, List.getElem?_eq_none (by omega)]
    simp (config := {contextual := true, maxSteps := 5000000}) only [go_sem, false_and, Nat.reduceAdd, Nat.reduceLT, Nat.reduceBEq, Nat.reduceSub, Nat.reduceMul, Nat.reduceLeDiff, Int.reduceToNat, Nat.reduceEqDiff, Nat.reduceMod, ht, hl, hH, hd]
    rw [hkn]
    have : false = (0 == kd) := by symm; simp; exact fun h => hk h.symm
    ((repeat' apply And.intro) <;> first | omega | with_reducible assumption | exact Weak.refl _ | rfl | exact List.Pairwise.nil | (refine pw_of ?_; (repeat' (first | exact trivial | apply And.intro)); all_goals (first | exact .inr rfl | exact .inr trivial | exact .inl (by kernel_rfl))) | ((with_reducible (show drawOk _ = true)); kernel_rfl) | ((with_reducible (show panOk _ _ _ = true)); kernel_rfl) | (repeat (first | exact Hp.Le.refl _ | refine Hp.le_upd ?_ (fN _ _ _ _))))
theorem fail_call (id : Id) (l : List Tk) (en : Nat) (i : Nat) (hH : H id = some (.cells (rd l en i))) : CallO Tryz.prog w0 k 114 [.ptr id 0] H H (.pan (stopV l en i)) := by
  refine callO tabOk Spec.no_ok mixed Tryz.func114 rfl rfl Tryz.results114 Tryz.ntmps114 (by simp) [] ?_
  intro hfr t hl ht
  simp only [At, Nat.reduceAdd, List.cons_append, List.nil_append] at ht
  simp only [rd] at hH
  by_cases hi : i < l.length
  · obtain ⟨x, hx, he⟩ := tk_get l hi
    have hd : decide ((i : Int) < (l.length : Int)) = true := by simp [hi]
    have hp : posOf l en i = x.at_ := by rw [posOf, hx]
    simp (config := {contextual := true, maxSteps := 5000000}) only [go_sem, false_and, Nat.reduceAdd, Nat.reduceLT, Nat.reduceBEq, Nat.reduceSub, Nat.reduceMul, Nat.reduceLeDiff, Int.reduceToNat, Nat.reduceEqDiff, Nat.reduceMod, ht, hl, hH, hd, he, Tk.cells]
    rw [stopV, hp]
    refine ⟨by kernel_rfl, by (refine pw_of ?_; (repeat' (first | exact trivial | apply And.intro)); all_goals (first | exact .inr rfl | exact .inr trivial | exact .inl (by kernel_rfl))), by kernel_rfl, ⟨by omega, by omega⟩, by kernel_rfl, by (refine pw_of ?_; (repeat' (first | exact trivial | apply And.intro)); all_goals (first | exact .inr rfl | exact .inr trivial | exact .inl (by kernel_rfl))), _, rfl, Weak.refl _⟩
  · have hd : decide ((i : Int) < (l.length : Int)) = false := by simp; omega
    have hp : posOf l en i = en := by rw [posOf, List.getElem?_eq_none (by omega)]
    simp (config := {contextual := true, maxSteps := 5000000}) only [go_sem, false_and, Nat.reduceAdd, Nat.reduceLT, Nat.reduceBEq, Nat.reduceSub, Nat.reduceMul, Nat.reduceLeDiff, Int.reduceToNat, Nat.reduceEqDiff, Nat.reduceMod, ht, hl, hH, hd]
    rw [stopV, hp]
    exact ⟨by kernel_rfl, by (refine pw_of ?_; (repeat' (first | exact trivial | apply And.intro)); all_goals (first | exact .inr rfl | exact .inr trivial | exact .inl (by kernel_rfl))), _, rfl, Weak.refl _⟩
def nx (l : List Tk) (i : Nat) (c : Int) : Nat := if sgn l i c = true then i + 1 else i
theorem upd_self {id : Id} {e : Ent} (h : H id = some e) : H.upd id (some e) = H := by
  funext j
  unfold Hp.upd
  split
  · rename_i hj; rw [hj, h]
  · rfl
theorem take_call (id : Id) (hz : id.sz = 3) (l : List Tk) (hl8 : l.length ≤ 8000) (en : Nat) (i : Nat) (hi8 : i ≤ l.length) (c : Int) (hc : 0 ≤ c ∧ c < 256) (hH : H id = some (.cells (rd l en i))) : CallAt Tryz.prog w0 k 115 [.ptr id 0, .int .i32 c] H (H.upd id (some (.cells (rd l en (nx l i c))))) (.bool (sgn l i c)) := by
  refine callAt tabOk Spec.no_ok mixed Tryz.func115 rfl rfl Tryz.results115 Tryz.ntmps115 (by simp) [] ?_
  intro hfr t hl ht
  simp only [At, Nat.reduceAdd, List.cons_append, List.nil_append] at ht
  have hw : IntKind.i64.wrap c = c := wrap_i64 (by omega) (by omega)
  have hw1 : IntKind.i64.wrap ((i : Int) + 1) = ((i + 1 : Nat) : Int) := by rw [wrap_i64] <;> omega
  have hH0 := hH
  simp only [rd] at hH
  simp (config := {contextual := true, maxSteps := 5000000}) only [go_sem, false_and, Nat.reduceAdd, Nat.reduceLT, Nat.reduceBEq, Nat.reduceSub, Nat.reduceMul, Nat.reduceLeDiff, Int.reduceToNat, Nat.reduceEqDiff, Nat.reduceMod, ht, hl, hw]
  refine ⟨by kernel_rfl, callK_intro (is_call id l en i 4 (by decide) hH0) ?_⟩
  by_cases hk4 : kAt l i = 4
  · have hi := kAt_lt (l := l) (p := i) (by omega)
    obtain ⟨x, hx, he⟩ := tk_get l hi
    have hkn : kAt l i = x.kind := by rw [kAt, hx]
    have hs : sgn l i c = (x.n == c) := by rw [sgn, hx]; simp only; rw [← hkn, hk4]; rfl
    simp (config := {contextual := true, maxSteps := 5000000}) only [go_sem, false_and, Nat.reduceAdd, Nat.reduceLT, Nat.reduceBEq, Nat.reduceSub, Nat.reduceMul, Nat.reduceLeDiff, Int.reduceToNat, Nat.reduceEqDiff, Nat.reduceMod, ht, hl, hH, he, Tk.cells, hw, hw1, hk4, Int.reduceBEq, hz]
    rw [hs]
    refine ⟨⟨by omega, by omega⟩, by (refine pw_of ?_; (repeat' (first | exact trivial | apply And.intro)); all_goals (first | exact .inr rfl | exact .inr trivial | exact .inl (by kernel_rfl))), fun a => ⟨a.symm, ?_⟩, fun a => ⟨a.symm, ?_⟩⟩
    · rw [nx, if_pos (by rw [hs]; exact a)]
      exact Hp.Le.refl _
    · rw [nx, if_neg (by rw [hs, a]; simp), upd_self hH0]
      exact Hp.Le.refl _
  · have hk : (kAt l i == 4) = false := by simpa using hk4
    have hs : sgn l i c = false := by
      unfold sgn
      split
      · rename_i x hx
        have : kAt l i = x.kind := by rw [kAt, hx]
        rw [this] at hk
        rw [hk]
        rfl
      · rfl
    simp (config := {contextual := true, maxSteps := 5000000}) only [go_sem, false_and, Nat.reduceAdd, Nat.reduceLT, Nat.reduceBEq, Nat.reduceSub, Nat.reduceMul, Nat.reduceLeDiff, Int.reduceToNat, Nat.reduceEqDiff, Nat.reduceMod, ht, hl, hH, hw, hk]
    rw [nx, hs, if_neg (by simp), upd_self hH0]
    exact ⟨by (refine pw_of ?_; (repeat' (first | exact trivial | apply And.intro)); all_goals (first | exact .inr rfl | exact .inr trivial | exact .inl (by kernel_rfl))), rfl, Hp.Le.refl _⟩
theorem must_call (id : Id) (hz : id.sz = 3) (l : List Tk) (hl8 : l.length ≤ 8000) (en : Nat) (i : Nat) (hi8 : i ≤ l.length) (c : Int) (hc : 0 ≤ c ∧ c < 256) (hH : H id = some (.cells (rd l en i))) : CallO Tryz.prog w0 k 118 [.ptr id 0, .int .i32 c] H (H.upd id (some (.cells (rd l en (nx l i c))))) (if sgn l i c = true then .ret (.tup []) else .pan (stopV l en i)) := by
  refine callO tabOk Spec.no_ok mixed Tryz.func118 rfl rfl Tryz.results118 Tryz.ntmps118 (by simp) [] ?_
  intro hfr t hl ht
  simp only [At, Nat.reduceAdd, List.cons_append, List.nil_append] at ht
  simp (config := {contextual := true, maxSteps := 5000000}) only [go_sem, false_and, Nat.reduceAdd, Nat.reduceLT, Nat.reduceBEq, Nat.reduceSub, Nat.reduceMul, Nat.reduceLeDiff, Int.reduceToNat, Nat.reduceEqDiff, Nat.reduceMod, ht, hl]
  refine callK_intro (take_call id hz l hl8 en i hi8 c hc hH) ?_
  by_cases hs : sgn l i c = true
  · simp (config := {contextual := true, maxSteps := 5000000}) only [go_sem, false_and, Nat.reduceAdd, Nat.reduceLT, Nat.reduceBEq, Nat.reduceSub, Nat.reduceMul, Nat.reduceLeDiff, Int.reduceToNat, Nat.reduceEqDiff, Nat.reduceMod, hl, hs]
    exact ⟨_, rfl, Weak.refl _⟩
  · simp only [Bool.not_eq_true] at hs
    have hnx : nx l i c = i := by rw [nx, hs]; rfl
    rw [hnx]
    simp (config := {contextual := true, maxSteps := 5000000}) only [go_sem, false_and, Nat.reduceAdd, Nat.reduceLT, Nat.reduceBEq, Nat.reduceSub, Nat.reduceMul, Nat.reduceLeDiff, Int.reduceToNat, Nat.reduceEqDiff, Nat.reduceMod, ht, hl, hs]
    refine callK_out (fail_call id l en i (Hp.upd_same _ _ _)) ?_
    simp (config := {contextual := true, maxSteps := 5000000}) only [go_sem, false_and, Nat.reduceAdd, Nat.reduceLT, Nat.reduceBEq, Nat.reduceSub, Nat.reduceMul, Nat.reduceLeDiff, Int.reduceToNat, Nat.reduceEqDiff, Nat.reduceMod, hl]
    exact ⟨_, rfl, Weak.refl _⟩
theorem numberR_call (id : Id) (hz : id.sz = 3) (l : List Tk) (hl8 : l.length ≤ 8000) (en : Nat) (i : Nat) (hi8 : i ≤ l.length) (kd : Int) (hk : kd ≠ 0) (hH : H id = some (.cells (rd l en i))) : CallO Tryz.prog w0 k 120 [.ptr id 0, .int .i64 kd] H (H.upd id (some (.cells (rd l en (if kAt l i = kd then i + 1 else i))))) (if kAt l i = kd then .ret (.int .i64 (nAt l i)) else .pan (stopV l en i)) := by
  refine callO tabOk Spec.no_ok mixed Tryz.func120 rfl rfl Tryz.results120 Tryz.ntmps120 (by simp) [] ?_
  intro hfr t hl ht
  simp only [At, Nat.reduceAdd, List.cons_append, List.nil_append] at ht
  have hH0 := hH
  simp (config := {contextual := true, maxSteps := 5000000}) only [go_sem, false_and, Nat.reduceAdd, Nat.reduceLT, Nat.reduceBEq, Nat.reduceSub, Nat.reduceMul, Nat.reduceLeDiff, Int.reduceToNat, Nat.reduceEqDiff, Nat.reduceMod, ht, hl]
  refine callK_intro (is_call id l en i kd hk hH0) ?_
  simp only [rd] at hH
  by_cases h1 : kAt l i = kd
  · have hi := kAt_lt (l := l) (p := i) (by omega)
    obtain ⟨x, hx, he⟩ := tk_get l hi
    have hn : nAt l i = x.n := by rw [nAt, hx]
    have hk1 : (kAt l i == kd) = true := by simpa using h1
    have hw1 : IntKind.i64.wrap ((i : Int) + 1) = ((i + 1 : Nat) : Int) := by rw [wrap_i64] <;> omega
    have hw2 : IntKind.i64.wrap (((i + 1 : Nat) : Int) - 1) = (i : Int) := by rw [wrap_i64] <;> omega
    simp (config := {contextual := true, maxSteps := 5000000}) only [go_sem, false_and, Nat.reduceAdd, Nat.reduceLT, Nat.reduceBEq, Nat.reduceSub, Nat.reduceMul, Nat.reduceLeDiff, Int.reduceToNat, Nat.reduceEqDiff, Nat.reduceMod, hl, ht, hk1, hw1, hw2, hH, he, Tk.cells, hz]
    rw [if_pos h1, if_pos h1, hn]
    exact ⟨by kernel_rfl, ⟨by omega, by omega⟩, by (refine pw_of ?_; (repeat' (first | exact trivial | apply And.intro)); all_goals (first | exact .inr rfl | exact .inr trivial | exact .inl (by kernel_rfl))), _, rfl, Weak.refl _, Hp.Le.refl _⟩
  · have hk1 : (kAt l i == kd) = false := by simpa using h1
    simp (config := {contextual := true, maxSteps := 5000000}) only [go_sem, false_and, Nat.reduceAdd, Nat.reduceLT, Nat.reduceBEq, Nat.reduceSub, Nat.reduceMul, Nat.reduceLeDiff, Int.reduceToNat, Nat.reduceEqDiff, Nat.reduceMod, ht, hl, hk1]
    rw [if_neg h1, if_neg h1, upd_self hH0]
    refine callK_out (fail_call id l en i hH0) ?_
    simp (config := {contextual := true, maxSteps := 5000000}) only [go_sem, false_and, Nat.reduceAdd, Nat.reduceLT, Nat.reduceBEq, Nat.reduceSub, Nat.reduceMul, Nat.reduceLeDiff, Int.reduceToNat, Nat.reduceEqDiff, Nat.reduceMod, hl]
    exact ⟨_, rfl, Weak.refl _⟩
end Go.Proofs.YtkdendaohlnlcaaGreatDoor.Av

/- What the program's reader does with terms. No condition. -/
namespace Go.Proofs.YtkdendaohlnlcaaGreatDoor.Av
set_option linter.unusedVariables false
set_option linter.unusedSimpArgs false
set_option maxRecDepth 4000
set_option maxHeartbeats 1000000
variable {w0 : Base} {k : List Nat} {H : Hp}
def Got.out (l : List Tk) (en : Nat) : Got → Out
  | .ok x _ => .ret x.av
  | .no q => .pan (stopV l en q)
def kidsOut (l : List Tk) (en : Nat) : Got → Out
  | .ok x _ => .ret (.list .none (x.kids.map E.cells))
  | .no q => .pan (stopV l en q)
/-- What is known of term, at places with so few tokens behind them. -/
def TermP (w0 : Base) (l : List Tk) (en : Nat) (m : Nat) : Prop := ∀ (i : Nat) (id : Id) (k : List Nat) (H : Hp), l.length < i + m → i ≤ l.length → id.sz = 3 → H id = some (.cells (rd l en i)) →
  CallO Tryz.prog w0 k 122 [.ptr id 0] H (H.upd id (some (.cells (rd l en (tmF l m i).pos)))) ((tmF l m i).out l en)
theorem LstAt.reader {H0 Hx : Hp} {sz : Nat} {ty : TypeId} {tk : Tok} {id : Id} {e e' : Ent} (h : LstAt H0 sz ty tk Hx) (hi : H0 id = some e) : LstAt (H0.upd id (some e')) sz ty tk (Hx.upd id (some e')) := by
  refine ⟨fun j x hj => ?_, ?_⟩
  · by_cases hji : j = id
    · subst hji
      rw [Hp.upd_same] at hj ⊢
      exact hj
    · rw [Hp.upd_ne _ _ hji] at hj ⊢
      exact h.1 j x hj
  · rcases h.2 with h2 | ⟨t, h1, h2, h3, h4, h5⟩
    · exact .inl h2
    · have ht : t ≠ id := fun he => by rw [he, hi] at h3; cases h3
      exact .inr ⟨t, h1, by rw [Hp.upd_ne _ _ ht]; exact h2, by rw [Hp.upd_ne _ _ ht]; exact h3, h4, h5⟩
/-- What is left of the arguments behind a term. -/
def argT (l : List Tk) (T : Nat → Got) (c : Nat) (ks : List E) (q : Nat) : Got := if sgn l q 41 = true then .ok (.mk 0 0 ks) (q + 1) else if c = 0 ∨ sgn l q 44 = false then .no q else argL l T 0 0 c ks (q + 1)
theorem argL_T {l : List Tk} {T : Nat → Got} {c : Nat} {ks : List E} {p : Nat} : argL l T 0 0 (c + 1) ks p = match T p with
    | .no q => .no q
    | .ok x q => argT l T c (ks ++ [x]) q := by
  rw [argL]
  cases T p <;> rfl
theorem sgn_one {l : List Tk} {q : Nat} {a b : Int} (h : sgn l q a = true) (hab : a ≠ b) : sgn l q b = false := by
  unfold sgn at h ⊢
  split at h
  · rename_i t ht
    simp only [Bool.and_eq_true, beq_iff_eq] at h
    simp only [h.1, h.2, Bool.and_eq_false_iff, beq_eq_false_iff_ne]
    exact .inr hab
  · cases h
theorem argsP_step (l : List Tk) (hl8 : l.length ≤ 8000) (en m : Nat) (hT : TermP w0 l en m) (i : Nat) (id : Id) (hi : l.length < i + m) (hi2 : i ≤ l.length) (hz : id.sz = 3) (hH : H id = some (.cells (rd l en i))) :
    CallO Tryz.prog w0 k 121 [.ptr id 0] H (H.upd id (some (.cells (rd l en (argG l (tmF l m) 0 0 i).pos)))) (kidsOut l en (argG l (tmF l m) 0 0 i)) := by
  refine callO tabOk Spec.no_ok mixed Tryz.func121 rfl rfl Tryz.results121 Tryz.ntmps121 (by simp) [] ?_
  intro hfr t hl ht
  simp only [At, Nat.reduceAdd, List.cons_append, List.nil_append] at ht
  have hidn : ∀ (a b : Nat) z ty, (⟨z, a :: b :: k, ty⟩ : Id) ≠ id := fun a b z ty he => by have := hfr ⟨z, a :: b :: k, ty⟩ (sfx2 _ _ _); rw [he, hH] at this; cases this
  simp (config := {contextual := true, maxSteps := 5000000}) only [go_sem, false_and, Nat.reduceAdd, Nat.reduceLT, Nat.reduceBEq, Nat.reduceSub, Nat.reduceMul, Nat.reduceLeDiff, Int.reduceToNat, Nat.reduceEqDiff, Nat.reduceMod, ht, hl]
  refine callK_intro (take_call id hz l hl8 en i hi2 40 (by decide) hH) ?_
  by_cases hs : sgn l i 40 = true
  · have hlt := sgn_lt hs
    have hnx : nx l i 40 = i + 1 := by rw [nx, if_pos hs]
    have hG : argG l (tmF l m) 0 0 i = argL l (tmF l m) 0 0 4 [] (i + 1) := by rw [argG, if_pos hs]
    rw [hnx, hG, argL_T]
    simp (config := {contextual := true, maxSteps := 5000000}) only [go_sem, false_and, Nat.reduceAdd, Nat.reduceLT, Nat.reduceBEq, Nat.reduceSub, Nat.reduceMul, Nat.reduceLeDiff, Int.reduceToNat, Nat.reduceEqDiff, Nat.reduceMod, ht, hl, hs]
    refine callK_out (hT (i + 1) id _ _ (by omega) (by omega) hz (Hp.upd_same _ _ _)) ?_
    have hb := tmF_le l m (i + 1) (by omega)
    cases hg : tmF l m (i + 1) with
    | no q =>
      simp only [Got.out, Got.pos, kidsOut]
      simp (config := {contextual := true, maxSteps := 5000000}) only [go_sem, false_and, Nat.reduceAdd, Nat.reduceLT, Nat.reduceBEq, Nat.reduceSub, Nat.reduceMul, Nat.reduceLeDiff, Int.reduceToNat, Nat.reduceEqDiff, Nat.reduceMod, hl]
      exact ⟨_, rfl, Weak.refl _⟩
    | ok x q =>
      have hposx : (Got.ok x q).pos = q := rfl
      rw [hg] at hb
      rw [hposx] at hb ⊢
      simp only [Got.out, List.nil_append]
      obtain ⟨RR, hRR⟩ : ∃ RR : Got, RR = argT l (tmF l m) 3 [x] q := ⟨_, rfl⟩
      rw [← hRR]
      simp (config := {contextual := true, maxSteps := 5000000}) only [go_sem, false_and, Nat.reduceAdd, Nat.reduceLT, Nat.reduceBEq, Nat.reduceSub, Nat.reduceMul, Nat.reduceLeDiff, Int.reduceToNat, Nat.reduceEqDiff, Nat.reduceMod, ht, hl, strip]
      refine loop_inv tabOk Spec.no_ok mixed [] (fun c x => ∃ (ks : List E) (q : Nat) (tk : Tok), x.tmps.length = 25 ∧ x.tmps.getD 0 AV.undef = .ptr id 0 ∧ x.tmps.getD 3 AV.undef = .list tk (ks.map E.cells) ∧ ks.length + c = 4 ∧ q ≤ l.length ∧ i + 1 ≤ q ∧ LstAt (H.upd id (some (.cells (rd l en q)))) 3 25 tk x.H ∧ argT l (tmF l m) c ks q = RR) 3 ⟨[x], q, .full, ?_⟩ ?_
      · simp (config := {contextual := true, maxSteps := 5000000}) only [go_sem, false_and, Nat.reduceAdd, Nat.reduceLT, Nat.reduceBEq, Nat.reduceSub, Nat.reduceMul, Nat.reduceLeDiff, Int.reduceToNat, Nat.reduceEqDiff, Nat.reduceMod, ht, hl]
        exact ⟨by simp [E.cells_eq], hb.2, by omega, ⟨Hp.Le.refl _, .inl (.inr rfl)⟩, hRR.symm⟩
      · rintro c ⟨t, n, H2⟩ ⟨ks, q, tk, hl, h0, h3, hkc, hq, hiq, hL, hgo⟩
        simp only at hl h0 h3 hL
        have hH2 : H2 id = some (.cells (rd l en q)) := hL.1 _ _ (Hp.upd_same _ _ _)
        have hLe : ∀ e : Ent, (H.upd id (some e)).Le (H2.upd id (some e)) := fun e => by
          have := (hL.reader (e' := e) (Hp.upd_same _ _ _)).1
          rwa [upd_upd] at this
        have hfin41 : sgn l q 41 = true → (c = 0 ∨ sgn l q 44 = false) → RR = .ok (.mk 0 0 ks) (q + 1) := fun a _ => by rw [← hgo, argT, if_pos a]
        have hfinno : sgn l q 41 = false → (c = 0 ∨ sgn l q 44 = false) → RR = .no q := fun a b => by rw [← hgo, argT, if_neg (by simp [a]), if_pos b]
        cases c with
        | zero =>
          have hd : decide ((ks.length : Int) < 4) = false := by simp; omega
          simp (config := {contextual := true, maxSteps := 5000000}) only [go_sem, false_and, Nat.reduceAdd, Nat.reduceLT, Nat.reduceBEq, Nat.reduceSub, Nat.reduceMul, Nat.reduceLeDiff, Int.reduceToNat, Nat.reduceEqDiff, Nat.reduceMod, h0, h3, hl, hd]
          refine callK_out (must_call id hz l hl8 en q hq 41 (by decide) hH2) ?_
          cases h41 : sgn l q 41 with
          | true =>
            rw [hfin41 h41 (.inl rfl), if_pos rfl]
            have hnx : nx l q 41 = q + 1 := by rw [nx, if_pos h41]
            rw [hnx]
            simp (config := {contextual := true, maxSteps := 5000000}) only [go_sem, false_and, Nat.reduceAdd, Nat.reduceLT, Nat.reduceBEq, Nat.reduceSub, Nat.reduceMul, Nat.reduceLeDiff, Int.reduceToNat, Nat.reduceEqDiff, Nat.reduceMod, h0, h3, hl]
            exact ⟨_, rfl, list_weak, hLe _⟩
          | false =>
            rw [hfinno h41 (.inl rfl), if_neg (by simp)]
            have hnx : nx l q 41 = q := by rw [nx, if_neg (by simp [h41])]
            rw [hnx]
            simp (config := {contextual := true, maxSteps := 5000000}) only [go_sem, false_and, Nat.reduceAdd, Nat.reduceLT, Nat.reduceBEq, Nat.reduceSub, Nat.reduceMul, Nat.reduceLeDiff, Int.reduceToNat, Nat.reduceEqDiff, Nat.reduceMod, h0, h3, hl]
            exact ⟨_, rfl, Weak.refl _, hLe _⟩
        | succ c =>
          have hd : decide ((ks.length : Int) < 4) = true := by simp; omega
          simp (config := {contextual := true, maxSteps := 5000000}) only [go_sem, false_and, Nat.reduceAdd, Nat.reduceLT, Nat.reduceBEq, Nat.reduceSub, Nat.reduceMul, Nat.reduceLeDiff, Int.reduceToNat, Nat.reduceEqDiff, Nat.reduceMod, h0, h3, hl, hd]
          refine callK_intro (take_call id hz l hl8 en q hq 44 (by decide) hH2) ?_
          cases h44 : sgn l q 44 with
          | true =>
            have hlt := sgn_lt h44
            have h41 := sgn_one (b := 41) h44 (by decide)
            have hnx : nx l q 44 = q + 1 := by rw [nx, if_pos h44]
            have hgo2 : argL l (tmF l m) 0 0 (c + 1) ks (q + 1) = RR := by rw [← hgo, argT, if_neg (by simp [h41]), if_neg (by simp [h44])]
            rw [argL_T] at hgo2
            rw [hnx]
            simp (config := {contextual := true, maxSteps := 5000000}) only [go_sem, false_and, Nat.reduceAdd, Nat.reduceLT, Nat.reduceBEq, Nat.reduceSub, Nat.reduceMul, Nat.reduceLeDiff, Int.reduceToNat, Nat.reduceEqDiff, Nat.reduceMod, h0, h3, hl]
            refine callK_out (hT (q + 1) id _ _ (by omega) (by omega) hz (Hp.upd_same _ _ _)) ?_
            have hb := tmF_le l m (q + 1) (by omega)
            cases hg : tmF l m (q + 1) with
            | no r =>
              rw [hg] at hgo2
              simp only at hgo2
              rw [← hgo2]
              simp only [Got.out, Got.pos, kidsOut]
              simp (config := {contextual := true, maxSteps := 5000000}) only [go_sem, false_and, Nat.reduceAdd, Nat.reduceLT, Nat.reduceBEq, Nat.reduceSub, Nat.reduceMul, Nat.reduceLeDiff, Int.reduceToNat, Nat.reduceEqDiff, Nat.reduceMod, hl]
              exact ⟨_, rfl, Weak.refl _, hLe _⟩
            | ok y r =>
              rw [hg] at hgo2 hb
              simp only [Got.pos] at hgo2 hb
              simp only [Got.out, Got.pos]
              have hLr : LstAt (H.upd id (some (.cells (rd l en r)))) 3 25 tk (H2.upd id (some (.cells (rd l en r)))) := by
                have := hL.reader (e' := .cells (rd l en r)) (Hp.upd_same _ _ _)
                rwa [upd_upd] at this
              have hfN : ∀ (a b : Nat) z ty, (H.upd id (some (.cells (rd l en r)))) ⟨z, a :: b :: k, ty⟩ = none := fun a b z ty => by
                rw [Hp.upd_ne _ _ (hidn a b z ty)]
                exact hfr _ (sfx2 _ _ _)
              simp (config := {contextual := true, maxSteps := 5000000}) only [go_sem, false_and, Nat.reduceAdd, Nat.reduceLT, Nat.reduceBEq, Nat.reduceSub, Nat.reduceMul, Nat.reduceLeDiff, Int.reduceToNat, Nat.reduceEqDiff, Nat.reduceMod, h0, h3, hl, strip]
              refine ⟨fun z h => by rcases h with rfl | h; rfl; exact h.elim, fun z h => by obtain ⟨e, _, rfl⟩ := List.mem_map.1 h; exact E.cells_length e, rfl, by omega, by omega, hLr.live, c, rfl, ks ++ [y], r, _, by rw [List.map_append, List.map_cons, E.cells_eq y]; rfl, by simp; omega, hb.2, by omega, hLr.push (hfN _ _ _ _), hgo2⟩
          | false =>
            have hnx : nx l q 44 = q := by rw [nx, if_neg (by simp [h44])]
            rw [hnx, upd_self hH2]
            simp (config := {contextual := true, maxSteps := 5000000}) only [go_sem, false_and, Nat.reduceAdd, Nat.reduceLT, Nat.reduceBEq, Nat.reduceSub, Nat.reduceMul, Nat.reduceLeDiff, Int.reduceToNat, Nat.reduceEqDiff, Nat.reduceMod, h0, h3, hl]
            refine callK_out (must_call id hz l hl8 en q hq 41 (by decide) hH2) ?_
            cases h41 : sgn l q 41 with
            | true =>
              rw [hfin41 h41 (.inr h44), if_pos rfl]
              have hnx : nx l q 41 = q + 1 := by rw [nx, if_pos h41]
              rw [hnx]
              simp (config := {contextual := true, maxSteps := 5000000}) only [go_sem, false_and, Nat.reduceAdd, Nat.reduceLT, Nat.reduceBEq, Nat.reduceSub, Nat.reduceMul, Nat.reduceLeDiff, Int.reduceToNat, Nat.reduceEqDiff, Nat.reduceMod, h0, h3, hl]
              exact ⟨_, rfl, list_weak, hLe _⟩
            | false =>
              rw [hfinno h41 (.inr h44), if_neg (by simp)]
              have hnx : nx l q 41 = q := by rw [nx, if_neg (by simp [h41])]
              rw [hnx]
              simp (config := {contextual := true, maxSteps := 5000000}) only [go_sem, false_and, Nat.reduceAdd, Nat.reduceLT, Nat.reduceBEq, Nat.reduceSub, Nat.reduceMul, Nat.reduceLeDiff, Int.reduceToNat, Nat.reduceEqDiff, Nat.reduceMod, h0, h3, hl]
              exact ⟨_, rfl, Weak.refl _, hLe _⟩
  · simp only [Bool.not_eq_true] at hs
    have hnx : nx l i 40 = i := by rw [nx, hs]; rfl
    have hG : argG l (tmF l m) 0 0 i = .ok (.mk 0 0 []) i := by rw [argG, hs]; rfl
    rw [hnx, hG]
    simp (config := {contextual := true, maxSteps := 5000000}) only [go_sem, false_and, Nat.reduceAdd, Nat.reduceLT, Nat.reduceBEq, Nat.reduceSub, Nat.reduceMul, Nat.reduceLeDiff, Int.reduceToNat, Nat.reduceEqDiff, Nat.reduceMod, ht, hl, hs]
    exact ⟨_, rfl, list_weak (xs := []), Hp.Le.refl _⟩
end Go.Proofs.YtkdendaohlnlcaaGreatDoor.Av

/- What the program's reader does with terms, whole. No condition. -/
namespace Go.Proofs.YtkdendaohlnlcaaGreatDoor.Av
set_option linter.unusedVariables false
set_option linter.unusedSimpArgs false
set_option maxRecDepth 4000
set_option maxHeartbeats 1000000
variable {w0 : Base} {k : List Nat} {H : Hp}
def Got.as (kd id : Int) : Got → Got
  | .ok x q => .ok (.mk kd id x.kids) q
  | .no q => .no q
theorem argL_as {l : List Tk} {T : Nat → Got} {kd id : Int} : ∀ c ks p, argL l T kd id c ks p = (argL l T 0 0 c ks p).as kd id
  | 0, ks, p => rfl
  | c + 1, ks, p => by
    rw [argL, argL]
    cases T p with
    | no q => rfl
    | ok x q =>
      simp only
      split
      · rfl
      · split
        · rfl
        · exact argL_as c _ _
theorem argG_as {l : List Tk} {T : Nat → Got} {kd id : Int} {p : Nat} : argG l T kd id p = (argG l T 0 0 p).as kd id := by
  unfold argG
  split
  · exact argL_as _ _ _
  · rfl
theorem as_pos {kd id : Int} {g : Got} : (g.as kd id).pos = g.pos := by cases g <;> rfl
theorem mk_weak {kd id : Int} : Weak (.agg [.int .i64 kd, .int .i64 id, .list .nil []]) (E.mk kd id []).av := WeakL.agg ⟨_, _, rfl, Weak.refl _, _, _, rfl, Weak.refl _, _, _, rfl, list_weak (xs := []), rfl⟩
theorem termP_step (l : List Tk) (hl8 : l.length ≤ 8000) (en m : Nat) (hT : TermP w0 l en m) : TermP w0 l en (m + 1) := by
  intro i id k H hi hi2 hz hH
  refine callO tabOk Spec.no_ok mixed Tryz.func122 rfl rfl Tryz.results122 Tryz.ntmps122 (by simp) [] ?_
  intro hfr t hl ht
  simp only [At, Nat.reduceAdd, List.cons_append, List.nil_append] at ht
  have fN : ∀ (a b : Nat) z ty, H ⟨z, a :: b :: k, ty⟩ = none := fun a b z ty => hfr _ (sfx2 _ _ _)
  have hidn : ∀ (a b : Nat) z ty, (⟨z, a :: b :: k, ty⟩ : Id) ≠ id := fun a b z ty he => by have := fN a b z ty; rw [he, hH] at this; cases this
  have hid1 : (id = ⟨3, 0 :: 0 :: k, 25⟩) = False := by simp; exact fun h => hidn 0 0 3 _ h.symm
  have hid2 : ((⟨3, 0 :: 0 :: k, 25⟩ : Id) = id) = False := by simp; exact fun h => hidn 0 0 3 _ h
  have hLe : ∀ (X : Id) (e e2 e3 : Option Ent), H X = none → X ≠ id → (H.upd id e).Le (((H.upd X e2).upd id e).upd X e3) := fun X e e2 e3 hX hne j y hj => by
    by_cases h1 : j = id
    · subst h1
      rw [Hp.upd_ne _ _ (Ne.symm hne), Hp.upd_same]
      rw [Hp.upd_same] at hj
      exact hj
    · rw [Hp.upd_ne _ _ h1] at hj
      have h2 : j ≠ X := fun h => by rw [h, hX] at hj; cases hj
      rw [Hp.upd_ne _ _ h2, Hp.upd_ne _ _ h1, Hp.upd_ne _ _ h2]
      exact hj
  have hLe2 : ∀ (X : Id) (e e2 : Option Ent), H X = none → X ≠ id → (H.upd id e).Le ((H.upd X e2).upd id e) := fun X e e2 hX hne j y hj => by
    by_cases h1 : j = id
    · subst h1
      rw [Hp.upd_same] at hj ⊢
      exact hj
    · rw [Hp.upd_ne _ _ h1] at hj ⊢
      have h2 : j ≠ X := fun h => by rw [h, hX] at hj; cases hj
      rw [Hp.upd_ne _ _ h2]
      exact hj
  have hH1 : ∀ e, (H.upd ⟨3, 0 :: 0 :: k, 25⟩ e) id = some (.cells (rd l en i)) := fun e => by rw [Hp.upd_ne _ _ (Ne.symm (hidn 0 0 3 _))]; exact hH
  rw [tmF]
  simp (config := {contextual := true, maxSteps := 5000000}) only [go_sem, false_and, Nat.reduceAdd, Nat.reduceLT, Nat.reduceBEq, Nat.reduceSub, Nat.reduceMul, Nat.reduceLeDiff, Int.reduceToNat, Nat.reduceEqDiff, Nat.reduceMod, ht, hl]
  refine callK_intro (is_call id l en i 1 (by decide) (hH1 _)) ?_
  by_cases h1 : kAt l i = 1
  · have e1 : (kAt l i == 1) = true := by simpa using h1
    rw [if_pos h1]
    simp (config := {contextual := true, maxSteps := 5000000}) only [go_sem, false_and, Nat.reduceAdd, Nat.reduceLT, Nat.reduceBEq, Nat.reduceSub, Nat.reduceMul, Nat.reduceLeDiff, Int.reduceToNat, Nat.reduceEqDiff, Nat.reduceMod, ht, hl, e1]
    refine callK_out (numberR_call id hz l hl8 en i hi2 1 (by decide) (hH1 _)) ?_
    rw [if_pos h1, if_pos h1]
    simp (config := {contextual := true, maxSteps := 5000000}) only [go_sem, false_and, Nat.reduceAdd, Nat.reduceLT, Nat.reduceBEq, Nat.reduceSub, Nat.reduceMul, Nat.reduceLeDiff, Int.reduceToNat, Nat.reduceEqDiff, Nat.reduceMod, ht, hl, hid1, hid2]
    exact ⟨_, rfl, mk_weak, hLe _ _ _ _ (fN _ _ _ _) (hidn _ _ _ _)⟩
  · have e1 : (kAt l i == 1) = false := by simpa using h1
    rw [if_neg h1]
    simp (config := {contextual := true, maxSteps := 5000000}) only [go_sem, false_and, Nat.reduceAdd, Nat.reduceLT, Nat.reduceBEq, Nat.reduceSub, Nat.reduceMul, Nat.reduceLeDiff, Int.reduceToNat, Nat.reduceEqDiff, Nat.reduceMod, ht, hl, e1]
    refine callK_out (numberR_call id hz l hl8 en i hi2 2 (by decide) (hH1 _)) ?_
    by_cases h2 : kAt l i = 2
    · have hlt := kAt_lt (l := l) (p := i) (by omega)
      rw [if_pos h2, if_pos h2, if_pos h2]
      simp (config := {contextual := true, maxSteps := 5000000}) only [go_sem, false_and, Nat.reduceAdd, Nat.reduceLT, Nat.reduceBEq, Nat.reduceSub, Nat.reduceMul, Nat.reduceLeDiff, Int.reduceToNat, Nat.reduceEqDiff, Nat.reduceMod, ht, hl]
      refine callK_out (argsP_step l hl8 en m hT (i + 1) id (by omega) (by omega) hz (Hp.upd_same _ _ _)) ?_
      rw [argG_as (kd := 2), as_pos]
      cases hg : argG l (tmF l m) 0 0 (i + 1) with
      | no q =>
        simp only [kidsOut, Got.as, Got.out, Got.pos]
        simp (config := {contextual := true, maxSteps := 5000000}) only [go_sem, false_and, Nat.reduceAdd, Nat.reduceLT, Nat.reduceBEq, Nat.reduceSub, Nat.reduceMul, Nat.reduceLeDiff, Int.reduceToNat, Nat.reduceEqDiff, Nat.reduceMod, hl]
        exact ⟨_, rfl, Weak.refl _, hLe2 _ _ _ (fN _ _ _ _) (hidn _ _ _ _)⟩
      | ok x q =>
        simp only [kidsOut, Got.as, Got.out, Got.pos]
        simp (config := {contextual := true, maxSteps := 5000000}) only [go_sem, false_and, Nat.reduceAdd, Nat.reduceLT, Nat.reduceBEq, Nat.reduceSub, Nat.reduceMul, Nat.reduceLeDiff, Int.reduceToNat, Nat.reduceEqDiff, Nat.reduceMod, ht, hl, hid1, hid2]
        exact ⟨_, rfl, Weak.refl _, hLe _ _ _ _ (fN _ _ _ _) (hidn _ _ _ _)⟩
    · rw [if_neg h2, if_neg h2, if_neg h2]
      simp (config := {contextual := true, maxSteps := 5000000}) only [go_sem, false_and, Nat.reduceAdd, Nat.reduceLT, Nat.reduceBEq, Nat.reduceSub, Nat.reduceMul, Nat.reduceLeDiff, Int.reduceToNat, Nat.reduceEqDiff, Nat.reduceMod, ht, hl]
      exact ⟨_, rfl, Weak.refl _, hLe2 _ _ _ (fN _ _ _ _) (hidn _ _ _ _)⟩
theorem termP (l : List Tk) (hl8 : l.length ≤ 8000) (en : Nat) : ∀ m, TermP w0 l en m
  | 0 => fun i id k H h1 h2 _ _ => by omega
  | m + 1 => termP_step l hl8 en m (termP l hl8 en m)
end Go.Proofs.YtkdendaohlnlcaaGreatDoor.Av

/- What the program's reader does with formulas. No condition. -/
namespace Go.Proofs.YtkdendaohlnlcaaGreatDoor.Av
set_option linter.unusedVariables false
set_option linter.unusedSimpArgs false
set_option maxRecDepth 4000
set_option maxHeartbeats 1000000
variable {w0 : Base} {k : List Nat} {H : Hp}
/-- The same cells apart from one variable. -/
def LeX (id : Id) (A B : Hp) : Prop := ∀ j y, j ≠ id → A j = some y → B j = some y
theorem LeX.refl {id : Id} {A : Hp} : LeX id A A := fun _ _ _ h => h
theorem LeX.same {id : Id} {A B : Hp} {e : Option Ent} (h : LeX id A B) : LeX id A (B.upd id e) := fun j y hj ha => by rw [Hp.upd_ne _ _ hj]; exact h j y hj ha
theorem LeX.new {id X : Id} {A B : Hp} {e : Option Ent} (h : LeX id A B) (hX : A X = none) : LeX id A (B.upd X e) := fun j y hj ha => by
  rw [Hp.upd_ne _ _ (fun he => by rw [he, hX] at ha; cases ha)]
  exact h j y hj ha
theorem le_of {id : Id} {A B : Hp} {e : Ent} (h1 : B id = some e) (h2 : LeX id A B) : (A.upd id (some e)).Le B := fun j y hj => by
  by_cases h : j = id
  · subst h
    rw [Hp.upd_same] at hj
    rw [← hj]; exact h1
  · rw [Hp.upd_ne _ _ h] at hj
    exact h2 j y h hj
theorem jointR_call (id : Id) (hz : id.sz = 3) (l : List Tk) (hl8 : l.length ≤ 8000) (en : Nat) (i : Nat) (hi8 : i ≤ l.length) (hH : H id = some (.cells (rd l en i))) : CallO Tryz.prog w0 k 117 [.ptr id 0] H (H.upd id (some (.cells (rd l en (if jnt l i = 0 then i else i + 1))))) (if jnt l i = 0 then .pan (stopV l en i) else .ret (.int .i64 (jnt l i))) := by
  refine callO tabOk Spec.no_ok mixed Tryz.func117 rfl rfl Tryz.results117 Tryz.ntmps117 (by simp) [] ?_
  intro hfr t hl ht
  simp only [At, Nat.reduceAdd, List.cons_append, List.nil_append] at ht
  simp (config := {contextual := true, maxSteps := 5000000}) only [go_sem, false_and, Nat.reduceAdd, Nat.reduceLT, Nat.reduceBEq, Nat.reduceSub, Nat.reduceMul, Nat.reduceLeDiff, Int.reduceToNat, Nat.reduceEqDiff, Nat.reduceMod, ht, hl]
  refine callK_intro (take_call id hz l hl8 en i hi8 62 (by decide) hH) ?_
  cases h6 : sgn l i 62 with
  | true =>
    have hj : jnt l i = 6 := by rw [jnt, if_pos h6]
    have hnx : nx l i 62 = i + 1 := by rw [nx, if_pos h6]
    rw [hj, hnx]
    simp (config := {contextual := true, maxSteps := 5000000}) only [go_sem, false_and, Nat.reduceAdd, Nat.reduceLT, Nat.reduceBEq, Nat.reduceSub, Nat.reduceMul, Nat.reduceLeDiff, Int.reduceToNat, Nat.reduceEqDiff, Nat.reduceMod, ht, hl]
    exact ⟨_, rfl, Weak.refl _, Hp.Le.refl _⟩
  | false =>
    have hnx : nx l i 62 = i := by rw [nx, if_neg (by simp [h6])]
    rw [hnx, upd_self hH]
    simp (config := {contextual := true, maxSteps := 5000000}) only [go_sem, false_and, Nat.reduceAdd, Nat.reduceLT, Nat.reduceBEq, Nat.reduceSub, Nat.reduceMul, Nat.reduceLeDiff, Int.reduceToNat, Nat.reduceEqDiff, Nat.reduceMod, ht, hl]
    refine callK_intro (take_call id hz l hl8 en i hi8 38 (by decide) hH) ?_
    cases h8 : sgn l i 38 with
    | true =>
      have hj : jnt l i = 8 := by rw [jnt, if_neg (by simp [h6]), if_pos h8]
      have hnx : nx l i 38 = i + 1 := by rw [nx, if_pos h8]
      rw [hj, hnx]
      simp (config := {contextual := true, maxSteps := 5000000}) only [go_sem, false_and, Nat.reduceAdd, Nat.reduceLT, Nat.reduceBEq, Nat.reduceSub, Nat.reduceMul, Nat.reduceLeDiff, Int.reduceToNat, Nat.reduceEqDiff, Nat.reduceMod, ht, hl]
      exact ⟨_, rfl, Weak.refl _, Hp.Le.refl _⟩
    | false =>
      have hnx : nx l i 38 = i := by rw [nx, if_neg (by simp [h8])]
      rw [hnx, upd_self hH]
      simp (config := {contextual := true, maxSteps := 5000000}) only [go_sem, false_and, Nat.reduceAdd, Nat.reduceLT, Nat.reduceBEq, Nat.reduceSub, Nat.reduceMul, Nat.reduceLeDiff, Int.reduceToNat, Nat.reduceEqDiff, Nat.reduceMod, ht, hl]
      refine callK_out (must_call id hz l hl8 en i hi8 124 (by decide) hH) ?_
      cases h9 : sgn l i 124 with
      | true =>
        have hj : jnt l i = 9 := by rw [jnt, if_neg (by simp [h6]), if_neg (by simp [h8]), if_pos h9]
        have hnx : nx l i 124 = i + 1 := by rw [nx, if_pos h9]
        rw [hj, hnx]
        simp (config := {contextual := true, maxSteps := 5000000}) only [go_sem, false_and, Nat.reduceAdd, Nat.reduceLT, Nat.reduceBEq, Nat.reduceSub, Nat.reduceMul, Nat.reduceLeDiff, Int.reduceToNat, Nat.reduceEqDiff, Nat.reduceMod, ht, hl]
        exact ⟨_, rfl, Weak.refl _, Hp.Le.refl _⟩
      | false =>
        have hj : jnt l i = 0 := by rw [jnt, if_neg (by simp [h6]), if_neg (by simp [h8]), if_neg (by simp [h9])]
        have hnx : nx l i 124 = i := by rw [nx, if_neg (by simp [h9])]
        rw [hj, hnx]
        simp (config := {contextual := true, maxSteps := 5000000}) only [go_sem, false_and, Nat.reduceAdd, Nat.reduceLT, Nat.reduceBEq, Nat.reduceSub, Nat.reduceMul, Nat.reduceLeDiff, Int.reduceToNat, Nat.reduceEqDiff, Nat.reduceMod, ht, hl]
        exact ⟨_, rfl, Weak.refl _⟩
/-- What is known of formula, at places with so few tokens behind them. -/
def FormP (w0 : Base) (l : List Tk) (en : Nat) (m : Nat) : Prop := ∀ (i : Nat) (id : Id) (k : List Nat) (H : Hp), l.length < i + m → i ≤ l.length → id.sz = 3 → H id = some (.cells (rd l en i)) →
  CallO Tryz.prog w0 k 81 [.ptr id 0] H (H.upd id (some (.cells (rd l en (fmF l m i).pos)))) ((fmF l m i).out l en)
theorem bound_step (l : List Tk) (hl8 : l.length ≤ 8000) (en m : Nat) (hF : FormP w0 l en m) (kd : Int) (i : Nat) (id : Id) (hi : l.length < i + m) (hi2 : i ≤ l.length) (hz : id.sz = 3) (hH : H id = some (.cells (rd l en i))) :
    CallO Tryz.prog w0 k 116 [.ptr id 0, .int .i64 kd] H (H.upd id (some (.cells (rd l en (fQ l (fmF l m) kd i).pos)))) ((fQ l (fmF l m) kd i).out l en) := by
  refine callO tabOk Spec.no_ok mixed Tryz.func116 rfl rfl Tryz.results116 Tryz.ntmps116 (by simp) [] ?_
  intro hfr t hl ht
  simp only [At, Nat.reduceAdd, List.cons_append, List.nil_append] at ht
  have fN : ∀ (a b : Nat) z ty, H ⟨z, a :: b :: k, ty⟩ = none := fun a b z ty => hfr _ (sfx2 _ _ _)
  have hidn : ∀ (a b : Nat) z ty, (⟨z, a :: b :: k, ty⟩ : Id) ≠ id := fun a b z ty he => by have := fN a b z ty; rw [he, hH] at this; cases this
  have hA : ∀ (a b : Nat) z ty, ((⟨z, a :: b :: k, ty⟩ : Id) = id) = False := fun a b z ty => by simp only [hidn]
  have hB : ∀ (a b : Nat) z ty, (id = (⟨z, a :: b :: k, ty⟩ : Id)) = False := fun a b z ty => by simp only [(hidn a b z ty).symm]
  unfold fQ
  simp (config := {contextual := true, maxSteps := 5000000}) only [go_sem, false_and, Nat.reduceAdd, Nat.reduceLT, Nat.reduceBEq, Nat.reduceSub, Nat.reduceMul, Nat.reduceLeDiff, Int.reduceToNat, Nat.reduceEqDiff, Nat.reduceMod, ht, hl, hA, hB]
  refine callK_out (numberR_call id hz l hl8 en i hi2 1 (by decide) (by simp (config := {contextual := true, maxSteps := 5000000}) only [go_sem, false_and, Nat.reduceAdd, Nat.reduceLT, Nat.reduceBEq, Nat.reduceSub, Nat.reduceMul, Nat.reduceLeDiff, Int.reduceToNat, Nat.reduceEqDiff, Nat.reduceMod, hA, hB, hH])) ?_
  by_cases h1 : kAt l i = 1
  · have hlt := kAt_lt (l := l) (p := i) (by omega)
    rw [if_pos h1, if_pos h1, if_pos h1]
    simp (config := {contextual := true, maxSteps := 5000000}) only [go_sem, false_and, Nat.reduceAdd, Nat.reduceLT, Nat.reduceBEq, Nat.reduceSub, Nat.reduceMul, Nat.reduceLeDiff, Int.reduceToNat, Nat.reduceEqDiff, Nat.reduceMod, ht, hl, hA, hB]
    refine callK_out (hF (i + 1) id _ _ (by omega) (by omega) hz (by simp (config := {contextual := true, maxSteps := 5000000}) only [go_sem, false_and, Nat.reduceAdd, Nat.reduceLT, Nat.reduceBEq, Nat.reduceSub, Nat.reduceMul, Nat.reduceLeDiff, Int.reduceToNat, Nat.reduceEqDiff, Nat.reduceMod, hA, hB])) ?_
    cases hg : fmF l m (i + 1) with
    | no q =>
      simp only [Got.out, Got.pos]
      simp (config := {contextual := true, maxSteps := 5000000}) only [go_sem, false_and, Nat.reduceAdd, Nat.reduceLT, Nat.reduceBEq, Nat.reduceSub, Nat.reduceMul, Nat.reduceLeDiff, Int.reduceToNat, Nat.reduceEqDiff, Nat.reduceMod, ht, hl, hA, hB]
      exact ⟨_, rfl, Weak.refl _, (le_of (by (first | rfl | exact hH | (simp (config := {contextual := true, maxSteps := 5000000}) only [go_sem, false_and, Nat.reduceAdd, Nat.reduceLT, Nat.reduceBEq, Nat.reduceSub, Nat.reduceMul, Nat.reduceLeDiff, Int.reduceToNat, Nat.reduceEqDiff, Nat.reduceMod, hA, hB]; done) | (simp (config := {contextual := true, maxSteps := 5000000}) only [go_sem, false_and, Nat.reduceAdd, Nat.reduceLT, Nat.reduceBEq, Nat.reduceSub, Nat.reduceMul, Nat.reduceLeDiff, Int.reduceToNat, Nat.reduceEqDiff, Nat.reduceMod, hA, hB]; exact hH) | (simp (config := {contextual := true, maxSteps := 5000000}) only [go_sem, false_and, Nat.reduceAdd, Nat.reduceLT, Nat.reduceBEq, Nat.reduceSub, Nat.reduceMul, Nat.reduceLeDiff, Int.reduceToNat, Nat.reduceEqDiff, Nat.reduceMod, hA, hB]; rfl))) (by repeat (first | exact LeX.refl | refine LeX.same ?_ | refine LeX.new ?_ (fN _ _ _ _))))⟩
    | ok x q =>
      simp only [Got.out, Got.pos]
      simp (config := {contextual := true, maxSteps := 5000000}) only [go_sem, false_and, Nat.reduceAdd, Nat.reduceLT, Nat.reduceBEq, Nat.reduceSub, Nat.reduceMul, Nat.reduceLeDiff, Int.reduceToNat, Nat.reduceEqDiff, Nat.reduceMod, ht, hl, hA, hB, strip]
      exact ⟨_, rfl, mk1_weak, (le_of (by (first | rfl | exact hH | (simp (config := {contextual := true, maxSteps := 5000000}) only [go_sem, false_and, Nat.reduceAdd, Nat.reduceLT, Nat.reduceBEq, Nat.reduceSub, Nat.reduceMul, Nat.reduceLeDiff, Int.reduceToNat, Nat.reduceEqDiff, Nat.reduceMod, hA, hB]; done) | (simp (config := {contextual := true, maxSteps := 5000000}) only [go_sem, false_and, Nat.reduceAdd, Nat.reduceLT, Nat.reduceBEq, Nat.reduceSub, Nat.reduceMul, Nat.reduceLeDiff, Int.reduceToNat, Nat.reduceEqDiff, Nat.reduceMod, hA, hB]; exact hH) | (simp (config := {contextual := true, maxSteps := 5000000}) only [go_sem, false_and, Nat.reduceAdd, Nat.reduceLT, Nat.reduceBEq, Nat.reduceSub, Nat.reduceMul, Nat.reduceLeDiff, Int.reduceToNat, Nat.reduceEqDiff, Nat.reduceMod, hA, hB]; rfl))) (by repeat (first | exact LeX.refl | refine LeX.same ?_ | refine LeX.new ?_ (fN _ _ _ _))))⟩
  · rw [if_neg h1, if_neg h1, if_neg h1]
    simp (config := {contextual := true, maxSteps := 5000000}) only [go_sem, false_and, Nat.reduceAdd, Nat.reduceLT, Nat.reduceBEq, Nat.reduceSub, Nat.reduceMul, Nat.reduceLeDiff, Int.reduceToNat, Nat.reduceEqDiff, Nat.reduceMod, ht, hl, hA, hB]
    exact ⟨_, rfl, Weak.refl _, (le_of (by (first | rfl | exact hH | (simp (config := {contextual := true, maxSteps := 5000000}) only [go_sem, false_and, Nat.reduceAdd, Nat.reduceLT, Nat.reduceBEq, Nat.reduceSub, Nat.reduceMul, Nat.reduceLeDiff, Int.reduceToNat, Nat.reduceEqDiff, Nat.reduceMod, hA, hB]; done) | (simp (config := {contextual := true, maxSteps := 5000000}) only [go_sem, false_and, Nat.reduceAdd, Nat.reduceLT, Nat.reduceBEq, Nat.reduceSub, Nat.reduceMul, Nat.reduceLeDiff, Int.reduceToNat, Nat.reduceEqDiff, Nat.reduceMod, hA, hB]; exact hH) | (simp (config := {contextual := true, maxSteps := 5000000}) only [go_sem, false_and, Nat.reduceAdd, Nat.reduceLT, Nat.reduceBEq, Nat.reduceSub, Nat.reduceMul, Nat.reduceLeDiff, Int.reduceToNat, Nat.reduceEqDiff, Nat.reduceMod, hA, hB]; rfl))) (by repeat (first | exact LeX.refl | refine LeX.same ?_ | refine LeX.new ?_ (fN _ _ _ _))))⟩
end Go.Proofs.YtkdendaohlnlcaaGreatDoor.Av

/- What the program's reader does with formulas, whole. No condition. -/
namespace Go.Proofs.YtkdendaohlnlcaaGreatDoor.Av
set_option linter.unusedVariables false
set_option linter.unusedSimpArgs false
set_option maxRecDepth 4000
set_option maxHeartbeats 1000000
variable {w0 : Base} {k : List Nat} {H : Hp}
theorem nxT {l : List Tk} {i : Nat} {c : Int} (h : sgn l i c = true) : nx l i c = i + 1 := by rw [nx, if_pos h]
theorem nxF {l : List Tk} {i : Nat} {c : Int} (h : sgn l i c = false) : nx l i c = i := by rw [nx, if_neg (by simp [h])]
theorem formP_step (l : List Tk) (hl8 : l.length ≤ 8000) (en m : Nat) (hF : FormP w0 l en m) : FormP w0 l en (m + 1) := by
  intro i id k H hi hi2 hz hH
  refine callO tabOk Spec.no_ok mixed Tryz.func81 rfl rfl Tryz.results81 Tryz.ntmps81 (by simp) [] ?_
  intro hfr t hl ht
  simp only [At, Nat.reduceAdd, List.cons_append, List.nil_append] at ht
  have fN : ∀ (a b : Nat) z ty, H ⟨z, a :: b :: k, ty⟩ = none := fun a b z ty => hfr _ (sfx2 _ _ _)
  have hidn : ∀ (a b : Nat) z ty, (⟨z, a :: b :: k, ty⟩ : Id) ≠ id := fun a b z ty he => by have := fN a b z ty; rw [he, hH] at this; cases this
  have hA : ∀ (a b : Nat) z ty, ((⟨z, a :: b :: k, ty⟩ : Id) = id) = False := fun a b z ty => by simp only [hidn]
  have hB : ∀ (a b : Nat) z ty, (id = (⟨z, a :: b :: k, ty⟩ : Id)) = False := fun a b z ty => by simp only [(hidn a b z ty).symm]
  have hT : TermP w0 l en (l.length + 1) := termP l hl8 en _
  rw [fmF]
  simp (config := {contextual := true, maxSteps := 5000000}) only [go_sem, false_and, Nat.reduceAdd, Nat.reduceLT, Nat.reduceBEq, Nat.reduceSub, Nat.reduceMul, Nat.reduceLeDiff, Int.reduceToNat, Nat.reduceEqDiff, Nat.reduceMod, ht, hl, hA, hB]
  refine callK_intro (take_call id hz l hl8 en i hi2 33 (by decide) (by simp (config := {contextual := true, maxSteps := 5000000}) only [go_sem, false_and, Nat.reduceAdd, Nat.reduceLT, Nat.reduceBEq, Nat.reduceSub, Nat.reduceMul, Nat.reduceLeDiff, Int.reduceToNat, Nat.reduceEqDiff, Nat.reduceMod, hA, hB, hH])) ?_
  cases h1 : sgn l i 33 with
  | true =>
    have hlt := sgn_lt h1
    rw [nxT h1, if_pos rfl]
    simp (config := {contextual := true, maxSteps := 5000000}) only [go_sem, false_and, Nat.reduceAdd, Nat.reduceLT, Nat.reduceBEq, Nat.reduceSub, Nat.reduceMul, Nat.reduceLeDiff, Int.reduceToNat, Nat.reduceEqDiff, Nat.reduceMod, ht, hl, hA, hB]
    refine callK_out (hF (i + 1) id _ _ (by omega) (by omega) hz (by simp (config := {contextual := true, maxSteps := 5000000}) only [go_sem, false_and, Nat.reduceAdd, Nat.reduceLT, Nat.reduceBEq, Nat.reduceSub, Nat.reduceMul, Nat.reduceLeDiff, Int.reduceToNat, Nat.reduceEqDiff, Nat.reduceMod, hA, hB])) ?_
    cases hg : fmF l m (i + 1) with
    | no q =>
      simp only [Got.out, Got.pos]
      simp (config := {contextual := true, maxSteps := 5000000}) only [go_sem, false_and, Nat.reduceAdd, Nat.reduceLT, Nat.reduceBEq, Nat.reduceSub, Nat.reduceMul, Nat.reduceLeDiff, Int.reduceToNat, Nat.reduceEqDiff, Nat.reduceMod, ht, hl, hA, hB]
      exact ⟨_, rfl, Weak.refl _, (le_of (by (first | rfl | exact hH | (simp (config := {contextual := true, maxSteps := 5000000}) only [go_sem, false_and, Nat.reduceAdd, Nat.reduceLT, Nat.reduceBEq, Nat.reduceSub, Nat.reduceMul, Nat.reduceLeDiff, Int.reduceToNat, Nat.reduceEqDiff, Nat.reduceMod, hA, hB]; done) | (simp (config := {contextual := true, maxSteps := 5000000}) only [go_sem, false_and, Nat.reduceAdd, Nat.reduceLT, Nat.reduceBEq, Nat.reduceSub, Nat.reduceMul, Nat.reduceLeDiff, Int.reduceToNat, Nat.reduceEqDiff, Nat.reduceMod, hA, hB]; exact hH) | (simp (config := {contextual := true, maxSteps := 5000000}) only [go_sem, false_and, Nat.reduceAdd, Nat.reduceLT, Nat.reduceBEq, Nat.reduceSub, Nat.reduceMul, Nat.reduceLeDiff, Int.reduceToNat, Nat.reduceEqDiff, Nat.reduceMod, hA, hB]; rfl))) (by repeat (first | exact LeX.refl | refine LeX.same ?_ | refine LeX.new ?_ (fN _ _ _ _))))⟩
    | ok x q =>
      simp only [Got.out, Got.pos]
      simp (config := {contextual := true, maxSteps := 5000000}) only [go_sem, false_and, Nat.reduceAdd, Nat.reduceLT, Nat.reduceBEq, Nat.reduceSub, Nat.reduceMul, Nat.reduceLeDiff, Int.reduceToNat, Nat.reduceEqDiff, Nat.reduceMod, ht, hl, hA, hB, strip]
      exact ⟨_, rfl, mk1_weak, (le_of (by (first | rfl | exact hH | (simp (config := {contextual := true, maxSteps := 5000000}) only [go_sem, false_and, Nat.reduceAdd, Nat.reduceLT, Nat.reduceBEq, Nat.reduceSub, Nat.reduceMul, Nat.reduceLeDiff, Int.reduceToNat, Nat.reduceEqDiff, Nat.reduceMod, hA, hB]; done) | (simp (config := {contextual := true, maxSteps := 5000000}) only [go_sem, false_and, Nat.reduceAdd, Nat.reduceLT, Nat.reduceBEq, Nat.reduceSub, Nat.reduceMul, Nat.reduceLeDiff, Int.reduceToNat, Nat.reduceEqDiff, Nat.reduceMod, hA, hB]; exact hH) | (simp (config := {contextual := true, maxSteps := 5000000}) only [go_sem, false_and, Nat.reduceAdd, Nat.reduceLT, Nat.reduceBEq, Nat.reduceSub, Nat.reduceMul, Nat.reduceLeDiff, Int.reduceToNat, Nat.reduceEqDiff, Nat.reduceMod, hA, hB]; rfl))) (by repeat (first | exact LeX.refl | refine LeX.same ?_ | refine LeX.new ?_ (fN _ _ _ _))))⟩
  | false =>
  rw [nxF h1, if_neg (by simp)]
  simp (config := {contextual := true, maxSteps := 5000000}) only [go_sem, false_and, Nat.reduceAdd, Nat.reduceLT, Nat.reduceBEq, Nat.reduceSub, Nat.reduceMul, Nat.reduceLeDiff, Int.reduceToNat, Nat.reduceEqDiff, Nat.reduceMod, ht, hl, hA, hB]
  refine callK_intro (take_call id hz l hl8 en i hi2 64 (by decide) (by simp (config := {contextual := true, maxSteps := 5000000}) only [go_sem, false_and, Nat.reduceAdd, Nat.reduceLT, Nat.reduceBEq, Nat.reduceSub, Nat.reduceMul, Nat.reduceLeDiff, Int.reduceToNat, Nat.reduceEqDiff, Nat.reduceMod, hA, hB, hH])) ?_
  cases h2 : sgn l i 64 with
  | true =>
    have hlt := sgn_lt h2
    rw [nxT h2, if_pos rfl]
    simp (config := {contextual := true, maxSteps := 5000000}) only [go_sem, false_and, Nat.reduceAdd, Nat.reduceLT, Nat.reduceBEq, Nat.reduceSub, Nat.reduceMul, Nat.reduceLeDiff, Int.reduceToNat, Nat.reduceEqDiff, Nat.reduceMod, ht, hl, hA, hB]
    refine callK_out (bound_step l hl8 en m hF 7 (i + 1) id (by omega) (by omega) hz (by simp (config := {contextual := true, maxSteps := 5000000}) only [go_sem, false_and, Nat.reduceAdd, Nat.reduceLT, Nat.reduceBEq, Nat.reduceSub, Nat.reduceMul, Nat.reduceLeDiff, Int.reduceToNat, Nat.reduceEqDiff, Nat.reduceMod, hA, hB])) ?_
    cases hg : fQ l (fmF l m) 7 (i + 1) with
    | no q =>
      simp only [Got.out, Got.pos]
      simp (config := {contextual := true, maxSteps := 5000000}) only [go_sem, false_and, Nat.reduceAdd, Nat.reduceLT, Nat.reduceBEq, Nat.reduceSub, Nat.reduceMul, Nat.reduceLeDiff, Int.reduceToNat, Nat.reduceEqDiff, Nat.reduceMod, ht, hl, hA, hB]
      exact ⟨_, rfl, Weak.refl _, (le_of (by (first | rfl | exact hH | (simp (config := {contextual := true, maxSteps := 5000000}) only [go_sem, false_and, Nat.reduceAdd, Nat.reduceLT, Nat.reduceBEq, Nat.reduceSub, Nat.reduceMul, Nat.reduceLeDiff, Int.reduceToNat, Nat.reduceEqDiff, Nat.reduceMod, hA, hB]; done) | (simp (config := {contextual := true, maxSteps := 5000000}) only [go_sem, false_and, Nat.reduceAdd, Nat.reduceLT, Nat.reduceBEq, Nat.reduceSub, Nat.reduceMul, Nat.reduceLeDiff, Int.reduceToNat, Nat.reduceEqDiff, Nat.reduceMod, hA, hB]; exact hH) | (simp (config := {contextual := true, maxSteps := 5000000}) only [go_sem, false_and, Nat.reduceAdd, Nat.reduceLT, Nat.reduceBEq, Nat.reduceSub, Nat.reduceMul, Nat.reduceLeDiff, Int.reduceToNat, Nat.reduceEqDiff, Nat.reduceMod, hA, hB]; rfl))) (by repeat (first | exact LeX.refl | refine LeX.same ?_ | refine LeX.new ?_ (fN _ _ _ _))))⟩
    | ok x q =>
      simp only [Got.out, Got.pos]
      simp (config := {contextual := true, maxSteps := 5000000}) only [go_sem, false_and, Nat.reduceAdd, Nat.reduceLT, Nat.reduceBEq, Nat.reduceSub, Nat.reduceMul, Nat.reduceLeDiff, Int.reduceToNat, Nat.reduceEqDiff, Nat.reduceMod, ht, hl, hA, hB, strip]
      exact ⟨_, rfl, Weak.refl _, (le_of (by (first | rfl | exact hH | (simp (config := {contextual := true, maxSteps := 5000000}) only [go_sem, false_and, Nat.reduceAdd, Nat.reduceLT, Nat.reduceBEq, Nat.reduceSub, Nat.reduceMul, Nat.reduceLeDiff, Int.reduceToNat, Nat.reduceEqDiff, Nat.reduceMod, hA, hB]; done) | (simp (config := {contextual := true, maxSteps := 5000000}) only [go_sem, false_and, Nat.reduceAdd, Nat.reduceLT, Nat.reduceBEq, Nat.reduceSub, Nat.reduceMul, Nat.reduceLeDiff, Int.reduceToNat, Nat.reduceEqDiff, Nat.reduceMod, hA, hB]; exact hH) | (simp (config := {contextual := true, maxSteps := 5000000}) only [go_sem, false_and, Nat.reduceAdd, Nat.reduceLT, Nat.reduceBEq, Nat.reduceSub, Nat.reduceMul, Nat.reduceLeDiff, Int.reduceToNat, Nat.reduceEqDiff, Nat.reduceMod, hA, hB]; rfl))) (by repeat (first | exact LeX.refl | refine LeX.same ?_ | refine LeX.new ?_ (fN _ _ _ _))))⟩
  | false =>
  rw [nxF h2, if_neg (by simp)]
  simp (config := {contextual := true, maxSteps := 5000000}) only [go_sem, false_and, Nat.reduceAdd, Nat.reduceLT, Nat.reduceBEq, Nat.reduceSub, Nat.reduceMul, Nat.reduceLeDiff, Int.reduceToNat, Nat.reduceEqDiff, Nat.reduceMod, ht, hl, hA, hB]
  refine callK_intro (take_call id hz l hl8 en i hi2 63 (by decide) (by simp (config := {contextual := true, maxSteps := 5000000}) only [go_sem, false_and, Nat.reduceAdd, Nat.reduceLT, Nat.reduceBEq, Nat.reduceSub, Nat.reduceMul, Nat.reduceLeDiff, Int.reduceToNat, Nat.reduceEqDiff, Nat.reduceMod, hA, hB, hH])) ?_
  cases h3 : sgn l i 63 with
  | true =>
    have hlt := sgn_lt h3
    rw [nxT h3, if_pos rfl]
    simp (config := {contextual := true, maxSteps := 5000000}) only [go_sem, false_and, Nat.reduceAdd, Nat.reduceLT, Nat.reduceBEq, Nat.reduceSub, Nat.reduceMul, Nat.reduceLeDiff, Int.reduceToNat, Nat.reduceEqDiff, Nat.reduceMod, ht, hl, hA, hB]
    refine callK_out (bound_step l hl8 en m hF 10 (i + 1) id (by omega) (by omega) hz (by simp (config := {contextual := true, maxSteps := 5000000}) only [go_sem, false_and, Nat.reduceAdd, Nat.reduceLT, Nat.reduceBEq, Nat.reduceSub, Nat.reduceMul, Nat.reduceLeDiff, Int.reduceToNat, Nat.reduceEqDiff, Nat.reduceMod, hA, hB])) ?_
    cases hg : fQ l (fmF l m) 10 (i + 1) with
    | no q =>
      simp only [Got.out, Got.pos]
      simp (config := {contextual := true, maxSteps := 5000000}) only [go_sem, false_and, Nat.reduceAdd, Nat.reduceLT, Nat.reduceBEq, Nat.reduceSub, Nat.reduceMul, Nat.reduceLeDiff, Int.reduceToNat, Nat.reduceEqDiff, Nat.reduceMod, ht, hl, hA, hB]
      exact ⟨_, rfl, Weak.refl _, (le_of (by (first | rfl | exact hH | (simp (config := {contextual := true, maxSteps := 5000000}) only [go_sem, false_and, Nat.reduceAdd, Nat.reduceLT, Nat.reduceBEq, Nat.reduceSub, Nat.reduceMul, Nat.reduceLeDiff, Int.reduceToNat, Nat.reduceEqDiff, Nat.reduceMod, hA, hB]; done) | (simp (config := {contextual := true, maxSteps := 5000000}) only [go_sem, false_and, Nat.reduceAdd, Nat.reduceLT, Nat.reduceBEq, Nat.reduceSub, Nat.reduceMul, Nat.reduceLeDiff, Int.reduceToNat, Nat.reduceEqDiff, Nat.reduceMod, hA, hB]; exact hH) | (simp (config := {contextual := true, maxSteps := 5000000}) only [go_sem, false_and, Nat.reduceAdd, Nat.reduceLT, Nat.reduceBEq, Nat.reduceSub, Nat.reduceMul, Nat.reduceLeDiff, Int.reduceToNat, Nat.reduceEqDiff, Nat.reduceMod, hA, hB]; rfl))) (by repeat (first | exact LeX.refl | refine LeX.same ?_ | refine LeX.new ?_ (fN _ _ _ _))))⟩
    | ok x q =>
      simp only [Got.out, Got.pos]
      simp (config := {contextual := true, maxSteps := 5000000}) only [go_sem, false_and, Nat.reduceAdd, Nat.reduceLT, Nat.reduceBEq, Nat.reduceSub, Nat.reduceMul, Nat.reduceLeDiff, Int.reduceToNat, Nat.reduceEqDiff, Nat.reduceMod, ht, hl, hA, hB, strip]
      exact ⟨_, rfl, Weak.refl _, (le_of (by (first | rfl | exact hH | (simp (config := {contextual := true, maxSteps := 5000000}) only [go_sem, false_and, Nat.reduceAdd, Nat.reduceLT, Nat.reduceBEq, Nat.reduceSub, Nat.reduceMul, Nat.reduceLeDiff, Int.reduceToNat, Nat.reduceEqDiff, Nat.reduceMod, hA, hB]; done) | (simp (config := {contextual := true, maxSteps := 5000000}) only [go_sem, false_and, Nat.reduceAdd, Nat.reduceLT, Nat.reduceBEq, Nat.reduceSub, Nat.reduceMul, Nat.reduceLeDiff, Int.reduceToNat, Nat.reduceEqDiff, Nat.reduceMod, hA, hB]; exact hH) | (simp (config := {contextual := true, maxSteps := 5000000}) only [go_sem, false_and, Nat.reduceAdd, Nat.reduceLT, Nat.reduceBEq, Nat.reduceSub, Nat.reduceMul, Nat.reduceLeDiff, Int.reduceToNat, Nat.reduceEqDiff, Nat.reduceMod, hA, hB]; rfl))) (by repeat (first | exact LeX.refl | refine LeX.same ?_ | refine LeX.new ?_ (fN _ _ _ _))))⟩
  | false =>
  rw [nxF h3, if_neg (by simp)]
  simp (config := {contextual := true, maxSteps := 5000000}) only [go_sem, false_and, Nat.reduceAdd, Nat.reduceLT, Nat.reduceBEq, Nat.reduceSub, Nat.reduceMul, Nat.reduceLeDiff, Int.reduceToNat, Nat.reduceEqDiff, Nat.reduceMod, ht, hl, hA, hB]
  refine callK_intro (take_call id hz l hl8 en i hi2 40 (by decide) (by simp (config := {contextual := true, maxSteps := 5000000}) only [go_sem, false_and, Nat.reduceAdd, Nat.reduceLT, Nat.reduceBEq, Nat.reduceSub, Nat.reduceMul, Nat.reduceLeDiff, Int.reduceToNat, Nat.reduceEqDiff, Nat.reduceMod, hA, hB, hH])) ?_
  cases h4 : sgn l i 40 with
  | true =>
    have hlt := sgn_lt h4
    rw [nxT h4, if_pos rfl]
    simp (config := {contextual := true, maxSteps := 5000000}) only [go_sem, false_and, Nat.reduceAdd, Nat.reduceLT, Nat.reduceBEq, Nat.reduceSub, Nat.reduceMul, Nat.reduceLeDiff, Int.reduceToNat, Nat.reduceEqDiff, Nat.reduceMod, ht, hl, hA, hB]
    refine callK_out (hF (i + 1) id _ _ (by omega) (by omega) hz (by simp (config := {contextual := true, maxSteps := 5000000}) only [go_sem, false_and, Nat.reduceAdd, Nat.reduceLT, Nat.reduceBEq, Nat.reduceSub, Nat.reduceMul, Nat.reduceLeDiff, Int.reduceToNat, Nat.reduceEqDiff, Nat.reduceMod, hA, hB])) ?_
    have hb := fmF_le l m (i + 1) (by omega)
    unfold fP
    cases hg : fmF l m (i + 1) with
    | no q =>
      simp only [Got.out, Got.pos]
      simp (config := {contextual := true, maxSteps := 5000000}) only [go_sem, false_and, Nat.reduceAdd, Nat.reduceLT, Nat.reduceBEq, Nat.reduceSub, Nat.reduceMul, Nat.reduceLeDiff, Int.reduceToNat, Nat.reduceEqDiff, Nat.reduceMod, ht, hl, hA, hB]
      exact ⟨_, rfl, Weak.refl _, (le_of (by (first | rfl | exact hH | (simp (config := {contextual := true, maxSteps := 5000000}) only [go_sem, false_and, Nat.reduceAdd, Nat.reduceLT, Nat.reduceBEq, Nat.reduceSub, Nat.reduceMul, Nat.reduceLeDiff, Int.reduceToNat, Nat.reduceEqDiff, Nat.reduceMod, hA, hB]; done) | (simp (config := {contextual := true, maxSteps := 5000000}) only [go_sem, false_and, Nat.reduceAdd, Nat.reduceLT, Nat.reduceBEq, Nat.reduceSub, Nat.reduceMul, Nat.reduceLeDiff, Int.reduceToNat, Nat.reduceEqDiff, Nat.reduceMod, hA, hB]; exact hH) | (simp (config := {contextual := true, maxSteps := 5000000}) only [go_sem, false_and, Nat.reduceAdd, Nat.reduceLT, Nat.reduceBEq, Nat.reduceSub, Nat.reduceMul, Nat.reduceLeDiff, Int.reduceToNat, Nat.reduceEqDiff, Nat.reduceMod, hA, hB]; rfl))) (by repeat (first | exact LeX.refl | refine LeX.same ?_ | refine LeX.new ?_ (fN _ _ _ _))))⟩
    | ok x q =>
      rw [hg] at hb
      simp only [Got.pos] at hb
      simp only [Got.out, Got.pos]
      simp (config := {contextual := true, maxSteps := 5000000}) only [go_sem, false_and, Nat.reduceAdd, Nat.reduceLT, Nat.reduceBEq, Nat.reduceSub, Nat.reduceMul, Nat.reduceLeDiff, Int.reduceToNat, Nat.reduceEqDiff, Nat.reduceMod, ht, hl, hA, hB, strip]
      refine callK_out (jointR_call id hz l hl8 en q hb.2 (by simp (config := {contextual := true, maxSteps := 5000000}) only [go_sem, false_and, Nat.reduceAdd, Nat.reduceLT, Nat.reduceBEq, Nat.reduceSub, Nat.reduceMul, Nat.reduceLeDiff, Int.reduceToNat, Nat.reduceEqDiff, Nat.reduceMod, hA, hB])) ?_
      by_cases hj : jnt l q = 0
      · rw [if_pos hj, if_pos hj, if_pos hj]
        simp (config := {contextual := true, maxSteps := 5000000}) only [go_sem, false_and, Nat.reduceAdd, Nat.reduceLT, Nat.reduceBEq, Nat.reduceSub, Nat.reduceMul, Nat.reduceLeDiff, Int.reduceToNat, Nat.reduceEqDiff, Nat.reduceMod, ht, hl, hA, hB]
        exact ⟨_, rfl, Weak.refl _, (le_of (by (first | rfl | exact hH | (simp (config := {contextual := true, maxSteps := 5000000}) only [go_sem, false_and, Nat.reduceAdd, Nat.reduceLT, Nat.reduceBEq, Nat.reduceSub, Nat.reduceMul, Nat.reduceLeDiff, Int.reduceToNat, Nat.reduceEqDiff, Nat.reduceMod, hA, hB]; done) | (simp (config := {contextual := true, maxSteps := 5000000}) only [go_sem, false_and, Nat.reduceAdd, Nat.reduceLT, Nat.reduceBEq, Nat.reduceSub, Nat.reduceMul, Nat.reduceLeDiff, Int.reduceToNat, Nat.reduceEqDiff, Nat.reduceMod, hA, hB]; exact hH) | (simp (config := {contextual := true, maxSteps := 5000000}) only [go_sem, false_and, Nat.reduceAdd, Nat.reduceLT, Nat.reduceBEq, Nat.reduceSub, Nat.reduceMul, Nat.reduceLeDiff, Int.reduceToNat, Nat.reduceEqDiff, Nat.reduceMod, hA, hB]; rfl))) (by repeat (first | exact LeX.refl | refine LeX.same ?_ | refine LeX.new ?_ (fN _ _ _ _))))⟩
      · have hlt2 := jnt_lt hj
        rw [if_neg hj, if_neg hj, if_neg hj]
        simp (config := {contextual := true, maxSteps := 5000000}) only [go_sem, false_and, Nat.reduceAdd, Nat.reduceLT, Nat.reduceBEq, Nat.reduceSub, Nat.reduceMul, Nat.reduceLeDiff, Int.reduceToNat, Nat.reduceEqDiff, Nat.reduceMod, ht, hl, hA, hB]
        refine callK_out (hF (q + 1) id _ _ (by omega) (by omega) hz (by simp (config := {contextual := true, maxSteps := 5000000}) only [go_sem, false_and, Nat.reduceAdd, Nat.reduceLT, Nat.reduceBEq, Nat.reduceSub, Nat.reduceMul, Nat.reduceLeDiff, Int.reduceToNat, Nat.reduceEqDiff, Nat.reduceMod, hA, hB])) ?_
        have hb2 := fmF_le l m (q + 1) (by omega)
        cases hg2 : fmF l m (q + 1) with
        | no r =>
          simp only [Got.out, Got.pos]
          simp (config := {contextual := true, maxSteps := 5000000}) only [go_sem, false_and, Nat.reduceAdd, Nat.reduceLT, Nat.reduceBEq, Nat.reduceSub, Nat.reduceMul, Nat.reduceLeDiff, Int.reduceToNat, Nat.reduceEqDiff, Nat.reduceMod, ht, hl, hA, hB]
          exact ⟨_, rfl, Weak.refl _, (le_of (by (first | rfl | exact hH | (simp (config := {contextual := true, maxSteps := 5000000}) only [go_sem, false_and, Nat.reduceAdd, Nat.reduceLT, Nat.reduceBEq, Nat.reduceSub, Nat.reduceMul, Nat.reduceLeDiff, Int.reduceToNat, Nat.reduceEqDiff, Nat.reduceMod, hA, hB]; done) | (simp (config := {contextual := true, maxSteps := 5000000}) only [go_sem, false_and, Nat.reduceAdd, Nat.reduceLT, Nat.reduceBEq, Nat.reduceSub, Nat.reduceMul, Nat.reduceLeDiff, Int.reduceToNat, Nat.reduceEqDiff, Nat.reduceMod, hA, hB]; exact hH) | (simp (config := {contextual := true, maxSteps := 5000000}) only [go_sem, false_and, Nat.reduceAdd, Nat.reduceLT, Nat.reduceBEq, Nat.reduceSub, Nat.reduceMul, Nat.reduceLeDiff, Int.reduceToNat, Nat.reduceEqDiff, Nat.reduceMod, hA, hB]; rfl))) (by repeat (first | exact LeX.refl | refine LeX.same ?_ | refine LeX.new ?_ (fN _ _ _ _))))⟩
        | ok y r =>
          rw [hg2] at hb2
          simp only [Got.pos] at hb2
          simp only [Got.out, Got.pos]
          simp (config := {contextual := true, maxSteps := 5000000}) only [go_sem, false_and, Nat.reduceAdd, Nat.reduceLT, Nat.reduceBEq, Nat.reduceSub, Nat.reduceMul, Nat.reduceLeDiff, Int.reduceToNat, Nat.reduceEqDiff, Nat.reduceMod, ht, hl, hA, hB, strip]
          refine callK_out (must_call id hz l hl8 en r hb2.2 41 (by decide) (by simp (config := {contextual := true, maxSteps := 5000000}) only [go_sem, false_and, Nat.reduceAdd, Nat.reduceLT, Nat.reduceBEq, Nat.reduceSub, Nat.reduceMul, Nat.reduceLeDiff, Int.reduceToNat, Nat.reduceEqDiff, Nat.reduceMod, hA, hB])) ?_
          cases h5 : sgn l r 41 with
          | true =>
            rw [nxT h5, if_pos rfl, if_pos rfl]
            simp (config := {contextual := true, maxSteps := 5000000}) only [go_sem, false_and, Nat.reduceAdd, Nat.reduceLT, Nat.reduceBEq, Nat.reduceSub, Nat.reduceMul, Nat.reduceLeDiff, Int.reduceToNat, Nat.reduceEqDiff, Nat.reduceMod, ht, hl, hA, hB, strip]
            exact ⟨_, rfl, mk2_weak, (le_of (by (first | rfl | exact hH | (simp (config := {contextual := true, maxSteps := 5000000}) only [go_sem, false_and, Nat.reduceAdd, Nat.reduceLT, Nat.reduceBEq, Nat.reduceSub, Nat.reduceMul, Nat.reduceLeDiff, Int.reduceToNat, Nat.reduceEqDiff, Nat.reduceMod, hA, hB]; done) | (simp (config := {contextual := true, maxSteps := 5000000}) only [go_sem, false_and, Nat.reduceAdd, Nat.reduceLT, Nat.reduceBEq, Nat.reduceSub, Nat.reduceMul, Nat.reduceLeDiff, Int.reduceToNat, Nat.reduceEqDiff, Nat.reduceMod, hA, hB]; exact hH) | (simp (config := {contextual := true, maxSteps := 5000000}) only [go_sem, false_and, Nat.reduceAdd, Nat.reduceLT, Nat.reduceBEq, Nat.reduceSub, Nat.reduceMul, Nat.reduceLeDiff, Int.reduceToNat, Nat.reduceEqDiff, Nat.reduceMod, hA, hB]; rfl))) (by repeat (first | exact LeX.refl | refine LeX.same ?_ | refine LeX.new ?_ (fN _ _ _ _))))⟩
          | false =>
            rw [nxF h5, if_neg (by simp), if_neg (by simp)]
            simp (config := {contextual := true, maxSteps := 5000000}) only [go_sem, false_and, Nat.reduceAdd, Nat.reduceLT, Nat.reduceBEq, Nat.reduceSub, Nat.reduceMul, Nat.reduceLeDiff, Int.reduceToNat, Nat.reduceEqDiff, Nat.reduceMod, ht, hl, hA, hB]
            exact ⟨_, rfl, Weak.refl _, (le_of (by (first | rfl | exact hH | (simp (config := {contextual := true, maxSteps := 5000000}) only [go_sem, false_and, Nat.reduceAdd, Nat.reduceLT, Nat.reduceBEq, Nat.reduceSub, Nat.reduceMul, Nat.reduceLeDiff, Int.reduceToNat, Nat.reduceEqDiff, Nat.reduceMod, hA, hB]; done) | (simp (config := {contextual := true, maxSteps := 5000000}) only [go_sem, false_and, Nat.reduceAdd, Nat.reduceLT, Nat.reduceBEq, Nat.reduceSub, Nat.reduceMul, Nat.reduceLeDiff, Int.reduceToNat, Nat.reduceEqDiff, Nat.reduceMod, hA, hB]; exact hH) | (simp (config := {contextual := true, maxSteps := 5000000}) only [go_sem, false_and, Nat.reduceAdd, Nat.reduceLT, Nat.reduceBEq, Nat.reduceSub, Nat.reduceMul, Nat.reduceLeDiff, Int.reduceToNat, Nat.reduceEqDiff, Nat.reduceMod, hA, hB]; rfl))) (by repeat (first | exact LeX.refl | refine LeX.same ?_ | refine LeX.new ?_ (fN _ _ _ _))))⟩
  | false =>
  rw [nxF h4, if_neg (by simp)]
  simp (config := {contextual := true, maxSteps := 5000000}) only [go_sem, false_and, Nat.reduceAdd, Nat.reduceLT, Nat.reduceBEq, Nat.reduceSub, Nat.reduceMul, Nat.reduceLeDiff, Int.reduceToNat, Nat.reduceEqDiff, Nat.reduceMod, ht, hl, hA, hB]
  refine callK_intro (is_call id l en i 3 (by decide) (by simp (config := {contextual := true, maxSteps := 5000000}) only [go_sem, false_and, Nat.reduceAdd, Nat.reduceLT, Nat.reduceBEq, Nat.reduceSub, Nat.reduceMul, Nat.reduceLeDiff, Int.reduceToNat, Nat.reduceEqDiff, Nat.reduceMod, hA, hB, hH])) ?_
  by_cases h5 : kAt l i = 3
  · have e1 : (kAt l i == 3) = true := by simpa using h5
    have hlt := kAt_lt (l := l) (p := i) (by omega)
    rw [if_pos h5]
    simp (config := {contextual := true, maxSteps := 5000000}) only [go_sem, false_and, Nat.reduceAdd, Nat.reduceLT, Nat.reduceBEq, Nat.reduceSub, Nat.reduceMul, Nat.reduceLeDiff, Int.reduceToNat, Nat.reduceEqDiff, Nat.reduceMod, ht, hl, hA, hB, e1]
    refine callK_out (numberR_call id hz l hl8 en i hi2 3 (by decide) (by simp (config := {contextual := true, maxSteps := 5000000}) only [go_sem, false_and, Nat.reduceAdd, Nat.reduceLT, Nat.reduceBEq, Nat.reduceSub, Nat.reduceMul, Nat.reduceLeDiff, Int.reduceToNat, Nat.reduceEqDiff, Nat.reduceMod, hA, hB, hH])) ?_
    rw [if_pos h5, if_pos h5]
    simp (config := {contextual := true, maxSteps := 5000000}) only [go_sem, false_and, Nat.reduceAdd, Nat.reduceLT, Nat.reduceBEq, Nat.reduceSub, Nat.reduceMul, Nat.reduceLeDiff, Int.reduceToNat, Nat.reduceEqDiff, Nat.reduceMod, ht, hl, hA, hB]
    refine callK_out (argsP_step l hl8 en _ hT (i + 1) id (by omega) (by omega) hz (by simp (config := {contextual := true, maxSteps := 5000000}) only [go_sem, false_and, Nat.reduceAdd, Nat.reduceLT, Nat.reduceBEq, Nat.reduceSub, Nat.reduceMul, Nat.reduceLeDiff, Int.reduceToNat, Nat.reduceEqDiff, Nat.reduceMod, hA, hB])) ?_
    rw [argG_as (kd := 3), as_pos]
    show _
    cases hg : argG l (tmL l) 0 0 (i + 1) with
    | no q =>
      have hg' : argG l (tmF l (l.length + 1)) 0 0 (i + 1) = .no q := hg
      rw [hg']
      simp only [kidsOut, Got.as, Got.out, Got.pos]
      simp (config := {contextual := true, maxSteps := 5000000}) only [go_sem, false_and, Nat.reduceAdd, Nat.reduceLT, Nat.reduceBEq, Nat.reduceSub, Nat.reduceMul, Nat.reduceLeDiff, Int.reduceToNat, Nat.reduceEqDiff, Nat.reduceMod, ht, hl, hA, hB]
      exact ⟨_, rfl, Weak.refl _, (le_of (by (first | rfl | exact hH | (simp (config := {contextual := true, maxSteps := 5000000}) only [go_sem, false_and, Nat.reduceAdd, Nat.reduceLT, Nat.reduceBEq, Nat.reduceSub, Nat.reduceMul, Nat.reduceLeDiff, Int.reduceToNat, Nat.reduceEqDiff, Nat.reduceMod, hA, hB]; done) | (simp (config := {contextual := true, maxSteps := 5000000}) only [go_sem, false_and, Nat.reduceAdd, Nat.reduceLT, Nat.reduceBEq, Nat.reduceSub, Nat.reduceMul, Nat.reduceLeDiff, Int.reduceToNat, Nat.reduceEqDiff, Nat.reduceMod, hA, hB]; exact hH) | (simp (config := {contextual := true, maxSteps := 5000000}) only [go_sem, false_and, Nat.reduceAdd, Nat.reduceLT, Nat.reduceBEq, Nat.reduceSub, Nat.reduceMul, Nat.reduceLeDiff, Int.reduceToNat, Nat.reduceEqDiff, Nat.reduceMod, hA, hB]; rfl))) (by repeat (first | exact LeX.refl | refine LeX.same ?_ | refine LeX.new ?_ (fN _ _ _ _))))⟩
    | ok x q =>
      have hg' : argG l (tmF l (l.length + 1)) 0 0 (i + 1) = .ok x q := hg
      rw [hg']
      simp only [kidsOut, Got.as, Got.out, Got.pos]
      simp (config := {contextual := true, maxSteps := 5000000}) only [go_sem, false_and, Nat.reduceAdd, Nat.reduceLT, Nat.reduceBEq, Nat.reduceSub, Nat.reduceMul, Nat.reduceLeDiff, Int.reduceToNat, Nat.reduceEqDiff, Nat.reduceMod, ht, hl, hA, hB]
      exact ⟨_, rfl, Weak.refl _, (le_of (by (first | rfl | exact hH | (simp (config := {contextual := true, maxSteps := 5000000}) only [go_sem, false_and, Nat.reduceAdd, Nat.reduceLT, Nat.reduceBEq, Nat.reduceSub, Nat.reduceMul, Nat.reduceLeDiff, Int.reduceToNat, Nat.reduceEqDiff, Nat.reduceMod, hA, hB]; done) | (simp (config := {contextual := true, maxSteps := 5000000}) only [go_sem, false_and, Nat.reduceAdd, Nat.reduceLT, Nat.reduceBEq, Nat.reduceSub, Nat.reduceMul, Nat.reduceLeDiff, Int.reduceToNat, Nat.reduceEqDiff, Nat.reduceMod, hA, hB]; exact hH) | (simp (config := {contextual := true, maxSteps := 5000000}) only [go_sem, false_and, Nat.reduceAdd, Nat.reduceLT, Nat.reduceBEq, Nat.reduceSub, Nat.reduceMul, Nat.reduceLeDiff, Int.reduceToNat, Nat.reduceEqDiff, Nat.reduceMod, hA, hB]; rfl))) (by repeat (first | exact LeX.refl | refine LeX.same ?_ | refine LeX.new ?_ (fN _ _ _ _))))⟩
  · have e1 : (kAt l i == 3) = false := by simpa using h5
    rw [if_neg h5]
    simp (config := {contextual := true, maxSteps := 5000000}) only [go_sem, false_and, Nat.reduceAdd, Nat.reduceLT, Nat.reduceBEq, Nat.reduceSub, Nat.reduceMul, Nat.reduceLeDiff, Int.reduceToNat, Nat.reduceEqDiff, Nat.reduceMod, ht, hl, hA, hB, e1]
    refine callK_out (hT i id _ _ (by omega) (by omega) hz (by simp (config := {contextual := true, maxSteps := 5000000}) only [go_sem, false_and, Nat.reduceAdd, Nat.reduceLT, Nat.reduceBEq, Nat.reduceSub, Nat.reduceMul, Nat.reduceLeDiff, Int.reduceToNat, Nat.reduceEqDiff, Nat.reduceMod, hA, hB, hH])) ?_
    have hb := tmF_le l (l.length + 1) i (by omega)
    unfold fE tmL
    cases hg : tmF l (l.length + 1) i with
    | no q =>
      simp only [Got.out, Got.pos]
      simp (config := {contextual := true, maxSteps := 5000000}) only [go_sem, false_and, Nat.reduceAdd, Nat.reduceLT, Nat.reduceBEq, Nat.reduceSub, Nat.reduceMul, Nat.reduceLeDiff, Int.reduceToNat, Nat.reduceEqDiff, Nat.reduceMod, ht, hl, hA, hB]
      exact ⟨_, rfl, Weak.refl _, (le_of (by (first | rfl | exact hH | (simp (config := {contextual := true, maxSteps := 5000000}) only [go_sem, false_and, Nat.reduceAdd, Nat.reduceLT, Nat.reduceBEq, Nat.reduceSub, Nat.reduceMul, Nat.reduceLeDiff, Int.reduceToNat, Nat.reduceEqDiff, Nat.reduceMod, hA, hB]; done) | (simp (config := {contextual := true, maxSteps := 5000000}) only [go_sem, false_and, Nat.reduceAdd, Nat.reduceLT, Nat.reduceBEq, Nat.reduceSub, Nat.reduceMul, Nat.reduceLeDiff, Int.reduceToNat, Nat.reduceEqDiff, Nat.reduceMod, hA, hB]; exact hH) | (simp (config := {contextual := true, maxSteps := 5000000}) only [go_sem, false_and, Nat.reduceAdd, Nat.reduceLT, Nat.reduceBEq, Nat.reduceSub, Nat.reduceMul, Nat.reduceLeDiff, Int.reduceToNat, Nat.reduceEqDiff, Nat.reduceMod, hA, hB]; rfl))) (by repeat (first | exact LeX.refl | refine LeX.same ?_ | refine LeX.new ?_ (fN _ _ _ _))))⟩
    | ok x q =>
      rw [hg] at hb
      simp only [Got.pos] at hb
      simp only [Got.out, Got.pos]
      simp (config := {contextual := true, maxSteps := 5000000}) only [go_sem, false_and, Nat.reduceAdd, Nat.reduceLT, Nat.reduceBEq, Nat.reduceSub, Nat.reduceMul, Nat.reduceLeDiff, Int.reduceToNat, Nat.reduceEqDiff, Nat.reduceMod, ht, hl, hA, hB, strip]
      refine callK_out (must_call id hz l hl8 en q hb.2 61 (by decide) (by simp (config := {contextual := true, maxSteps := 5000000}) only [go_sem, false_and, Nat.reduceAdd, Nat.reduceLT, Nat.reduceBEq, Nat.reduceSub, Nat.reduceMul, Nat.reduceLeDiff, Int.reduceToNat, Nat.reduceEqDiff, Nat.reduceMod, hA, hB])) ?_
      cases h6 : sgn l q 61 with
      | true =>
        have hlt := sgn_lt h6
        rw [nxT h6, if_pos rfl, if_pos rfl]
        simp (config := {contextual := true, maxSteps := 5000000}) only [go_sem, false_and, Nat.reduceAdd, Nat.reduceLT, Nat.reduceBEq, Nat.reduceSub, Nat.reduceMul, Nat.reduceLeDiff, Int.reduceToNat, Nat.reduceEqDiff, Nat.reduceMod, ht, hl, hA, hB, strip]
        refine ⟨by kernel_rfl, callK_out (hT (q + 1) id _ _ (by omega) (by omega) hz (by simp (config := {contextual := true, maxSteps := 5000000}) only [go_sem, false_and, Nat.reduceAdd, Nat.reduceLT, Nat.reduceBEq, Nat.reduceSub, Nat.reduceMul, Nat.reduceLeDiff, Int.reduceToNat, Nat.reduceEqDiff, Nat.reduceMod, hA, hB])) ?_⟩
        cases hg2 : tmF l (l.length + 1) (q + 1) with
        | no r =>
          simp only [Got.out, Got.pos]
          simp (config := {contextual := true, maxSteps := 5000000}) only [go_sem, false_and, Nat.reduceAdd, Nat.reduceLT, Nat.reduceBEq, Nat.reduceSub, Nat.reduceMul, Nat.reduceLeDiff, Int.reduceToNat, Nat.reduceEqDiff, Nat.reduceMod, ht, hl, hA, hB]
          exact ⟨by kernel_rfl, by (refine pw_of ?_; (repeat' (first | exact trivial | apply And.intro)); all_goals (first | exact .inr rfl | exact .inr trivial | exact .inr (by show _ = _; simp (config := {contextual := true, maxSteps := 5000000}) only [go_sem, false_and, Nat.reduceAdd, Nat.reduceLT, Nat.reduceBEq, Nat.reduceSub, Nat.reduceMul, Nat.reduceLeDiff, Int.reduceToNat, Nat.reduceEqDiff, Nat.reduceMod, hA, hB]) | exact .inl (by kernel_rfl))), _, rfl, Weak.refl _, (le_of (by (first | rfl | exact hH | (simp (config := {contextual := true, maxSteps := 5000000}) only [go_sem, false_and, Nat.reduceAdd, Nat.reduceLT, Nat.reduceBEq, Nat.reduceSub, Nat.reduceMul, Nat.reduceLeDiff, Int.reduceToNat, Nat.reduceEqDiff, Nat.reduceMod, hA, hB]; done) | (simp (config := {contextual := true, maxSteps := 5000000}) only [go_sem, false_and, Nat.reduceAdd, Nat.reduceLT, Nat.reduceBEq, Nat.reduceSub, Nat.reduceMul, Nat.reduceLeDiff, Int.reduceToNat, Nat.reduceEqDiff, Nat.reduceMod, hA, hB]; exact hH) | (simp (config := {contextual := true, maxSteps := 5000000}) only [go_sem, false_and, Nat.reduceAdd, Nat.reduceLT, Nat.reduceBEq, Nat.reduceSub, Nat.reduceMul, Nat.reduceLeDiff, Int.reduceToNat, Nat.reduceEqDiff, Nat.reduceMod, hA, hB]; rfl))) (by repeat (first | exact LeX.refl | refine LeX.same ?_ | refine LeX.new ?_ (fN _ _ _ _))))⟩
        | ok y r =>
          simp only [Got.out, Got.pos]
          simp (config := {contextual := true, maxSteps := 5000000}) only [go_sem, false_and, Nat.reduceAdd, Nat.reduceLT, Nat.reduceBEq, Nat.reduceSub, Nat.reduceMul, Nat.reduceLeDiff, Int.reduceToNat, Nat.reduceEqDiff, Nat.reduceMod, ht, hl, hA, hB, strip]
          exact ⟨by (refine pw_of ?_; (repeat' (first | exact trivial | apply And.intro)); all_goals (first | exact .inr rfl | exact .inr trivial | exact .inr (by show _ = _; simp (config := {contextual := true, maxSteps := 5000000}) only [go_sem, false_and, Nat.reduceAdd, Nat.reduceLT, Nat.reduceBEq, Nat.reduceSub, Nat.reduceMul, Nat.reduceLeDiff, Int.reduceToNat, Nat.reduceEqDiff, Nat.reduceMod, hA, hB]) | exact .inl (by kernel_rfl))), _, rfl, mk2_weak, (le_of (by (first | rfl | exact hH | (simp (config := {contextual := true, maxSteps := 5000000}) only [go_sem, false_and, Nat.reduceAdd, Nat.reduceLT, Nat.reduceBEq, Nat.reduceSub, Nat.reduceMul, Nat.reduceLeDiff, Int.reduceToNat, Nat.reduceEqDiff, Nat.reduceMod, hA, hB]; done) | (simp (config := {contextual := true, maxSteps := 5000000}) only [go_sem, false_and, Nat.reduceAdd, Nat.reduceLT, Nat.reduceBEq, Nat.reduceSub, Nat.reduceMul, Nat.reduceLeDiff, Int.reduceToNat, Nat.reduceEqDiff, Nat.reduceMod, hA, hB]; exact hH) | (simp (config := {contextual := true, maxSteps := 5000000}) only [go_sem, false_and, Nat.reduceAdd, Nat.reduceLT, Nat.reduceBEq, Nat.reduceSub, Nat.reduceMul, Nat.reduceLeDiff, Int.reduceToNat, Nat.reduceEqDiff, Nat.reduceMod, hA, hB]; rfl))) (by repeat (first | exact LeX.refl | refine LeX.same ?_ | refine LeX.new ?_ (fN _ _ _ _))))⟩
      | false =>
        rw [nxF h6, if_neg (by simp), if_neg (by simp)]
        simp (config := {contextual := true, maxSteps := 5000000}) only [go_sem, false_and, Nat.reduceAdd, Nat.reduceLT, Nat.reduceBEq, Nat.reduceSub, Nat.reduceMul, Nat.reduceLeDiff, Int.reduceToNat, Nat.reduceEqDiff, Nat.reduceMod, ht, hl, hA, hB]
        exact ⟨_, rfl, Weak.refl _, (le_of (by (first | rfl | exact hH | (simp (config := {contextual := true, maxSteps := 5000000}) only [go_sem, false_and, Nat.reduceAdd, Nat.reduceLT, Nat.reduceBEq, Nat.reduceSub, Nat.reduceMul, Nat.reduceLeDiff, Int.reduceToNat, Nat.reduceEqDiff, Nat.reduceMod, hA, hB]; done) | (simp (config := {contextual := true, maxSteps := 5000000}) only [go_sem, false_and, Nat.reduceAdd, Nat.reduceLT, Nat.reduceBEq, Nat.reduceSub, Nat.reduceMul, Nat.reduceLeDiff, Int.reduceToNat, Nat.reduceEqDiff, Nat.reduceMod, hA, hB]; exact hH) | (simp (config := {contextual := true, maxSteps := 5000000}) only [go_sem, false_and, Nat.reduceAdd, Nat.reduceLT, Nat.reduceBEq, Nat.reduceSub, Nat.reduceMul, Nat.reduceLeDiff, Int.reduceToNat, Nat.reduceEqDiff, Nat.reduceMod, hA, hB]; rfl))) (by repeat (first | exact LeX.refl | refine LeX.same ?_ | refine LeX.new ?_ (fN _ _ _ _))))⟩
theorem formP (l : List Tk) (hl8 : l.length ≤ 8000) (en : Nat) : ∀ m, FormP w0 l en m
  | 0 => fun i id k H h1 h2 _ _ => by omega
  | m + 1 => formP_step l hl8 en m (formP l hl8 en m)
end Go.Proofs.YtkdendaohlnlcaaGreatDoor.Av

/- Deferred calls that recover. No condition. -/
namespace Go.Proofs.YtkdendaohlnlcaaGreatDoor.Av
set_option linter.unusedVariables false
set_option linter.unusedSimpArgs false
open Go.RowKit
variable {P : Program} {tab : Tab} {Sp : Spec} {w0 : Base} {k : List Nat}
/-- A frame on its way out takes its marks over. -/
theorem takes {F : Fence} {n : Nat} {cs : List Frame} {Hx : Hp} {G1 : Gh} : ∀ (Ds : List Nat) (w : World) (fr : Frame), fr.mode = .returning → fr.defers = Ds.map mkMark → Ds.Nodup → Sim w0 G1 Hx w → (∀ D ∈ Ds, w0.heap.size ≤ D ∧ w.heap[D]? = some (.deferred (some []))) → (∀ D ∈ Ds, G1.ρ D = none) → F.fn fr.fn → F.room (cs.length + 1 + n) →
    ∃ w', StepsIn (Machine.fenced P F) P (lone fr cs w) (lone { fr with defers := [] } cs w') ∧ Sim w0 G1 Hx w'
  | [], w, fr, hm, hd, _, hs, _, _, hF, hr => ⟨w, by
      have : ({ fr with defers := [] } : Frame) = fr := by cases fr; simp only at hd; subst hd; rfl
      rw [this]
      exact .refl _, hs⟩
  | D :: Ds, w, fr, hm, hd, hnd, hs, hb, hρ, hF, hr => by
    obtain ⟨h1, h2⟩ := List.nodup_cons.1 hnd
    obtain ⟨hD1, hD2⟩ := hb D (by simp)
    have hne : fr.mode ≠ .run := by rw [hm]; simp
    have st := step_collected (P := P) (cs := cs) (d := mkMark D) (ds := Ds.map mkMark) hne (by rw [hd]; rfl) rfl (run_takeDeferred hD2)
    have i1 : (lone fr cs w).fenced P F := fenced_out (d := mkMark D) (ds := Ds.map mkMark) hF hr hne (by rw [hd]; rfl) (fun g hg => by simp [mkMark, Target.leads] at hg)
    obtain ⟨w', st2, hs2⟩ := takes Ds (w.putObj D (.deferred none)) { fr with defers := [] ++ Ds.map mkMark } hm rfl h2 (hs.putObj hD2 (by simp) hD1 (by simp) fun L e => by rw [hρ D (by simp)] at e; cases e) (fun E hE => by
      obtain ⟨g1, g2⟩ := hb E (by simp [hE])
      exact ⟨g1, by rw [World.putObj_heap_other (fun he => h1 (by rw [← he]; exact hE))]; exact g2⟩) (fun E hE => hρ E (by simp [hE])) hF hr
    exact ⟨w', StepsIn.trans (.one i1 st) st2, hs2⟩
def modeOf : Option Value → FrameMode
  | none => .returning
  | some V => .panicking [{ v := V, recovered := false }]
def modeTo : Option Value → FrameMode
  | none => .returning
  | some V => .panicking [{ v := V, recovered := true }]
def RepO (G : Gh) : Option AV → Option Value → Prop
  | none, none => True
  | some v, some V => Rep G v V
  | _, _ => False
/-- A call that is made while its caller leaves, with a panic or without one: it recovers. -/
def DefAt (P : Program) (w0 : Base) (k : List Nat) (f : FuncId) (args : List AV) (H H' : Hp) (ov : Option AV) : Prop :=
  ∀ (G : Gh) (w : World) (cargs : Array Value) (oV : Option Value), Sim w0 G H w → Fresh G k → RepL G args cargs.toList → RepO G ov oV → ∀ R : Ending → FrameMode → World → Prop,
    (∀ G' w' V, G.Le G' → New k G G' → Sim w0 G' H' w' → R (.returned V) (modeTo oV) w') → CallsDIn Fence.wide 0 P f cargs (modeOf oV) w R
def ovA : Option AV → AV
  | none => .raw .nilIface
  | some v => v
/-- How the closure's text ends. -/
def endD (H' : Hp) : AEx → FS → Prop
  | .normal, s' => H'.Le s'.H
  | .ret, s' => H'.Le s'.H
  | _, _ => False
@[go_sem] theorem endD_normal {H' : Hp} {s : FS} : endD H' .normal s = H'.Le s.H := rfl
@[go_sem] theorem endD_ret {H' : Hp} {s : FS} : endD H' .ret s = H'.Le s.H := rfl
@[go_sem] theorem endD_exit {H' : Hp} {s : FS} {i : Nat} : endD H' (.exit i) s = False := rfl
@[go_sem] theorem endD_panic {H' : Hp} {s : FS} {v : AV} : endD H' (.panic v) s = False := rfl
theorem ops_rec {F : Fence} {n : Nat} {ops : Array Oper} {Q : Exit → Act → List Frame → World → Prop} {i : Nat} {rest : List Nat} {a : Act} {cs : List Frame} {w w' : World} {o : Oper} (ho : ops[i]? = some o) (hw : Region.wanted o (yielded ops a.tmps) = true) (hr : (execOp a.eval o).run P w = .ok .recover w')
    (hab : ∀ f, o.about P w a.eval = some f → F.fn f) (h : match recoverD cs with
      | some (v, cs') => wpOpsSIn F n P ops Q rest (a.put o.dst v) cs' w'
      | none => wpOpsSIn F n P ops Q rest (a.put o.dst .nilIface) cs w') : wpOpsSIn F n P ops Q (i :: rest) a cs w := by
  simp only [wpOpsSIn, ho]
  refine ⟨hab, ?_⟩
  rw [if_pos hw, hr]
  exact h
theorem ops_val {F : Fence} {n : Nat} {ops : Array Oper} {Q : Exit → Act → List Frame → World → Prop} {i : Nat} {rest : List Nat} {a : Act} {cs : List Frame} {w w' : World} {o : Oper} {v : Value} (ho : ops[i]? = some o) (hw : Region.wanted o (yielded ops a.tmps) = true) (hr : (execOp a.eval o).run P w = .ok (.value v) w')
    (hab : ∀ f, o.about P w a.eval = some f → F.fn f) (h : wpOpsSIn F n P ops Q rest (a.put o.dst v) cs w') : wpOpsSIn F n P ops Q (i :: rest) a cs w := by
  simp only [wpOpsSIn, ho]
  refine ⟨hab, ?_⟩
  rw [if_pos hw, hr]
  exact h
theorem defAt_of_code {f : FuncId} {fn : Func} {id : Nat} {o1 o2 : Oper} {d1 d2 : Nat} {rest : Code} {args : List AV} {H H' : Hp} {ov : Option AV} {nt : Nat} (hf : P.funcs[f]? = some fn) (hb : fn.body = some (.seq (.region id #[o1, o2] false) rest))
    (hrs : fn.results = #[]) (hnt : fn.ntmps = nt) (ho1 : o1.op = .call ⟨.builtin .recover, #[], #[]⟩) (hd1 : o1.dst = some d1) (hg1 : o1.guard = none) (ho2 : o2.op = .assign (.tmp d1)) (hd2 : o2.dst = some d2) (hg2 : o2.guard = none) (hl1 : d1 < nt) (hl2 : d2 < nt) (ha : args.length ≤ nt)
    (h : (∀ i : Id, k <:+ i.key → H i = none) → ∀ t, t.length = nt → At t 0 args → CodeOk P w0 none k rest ⟨(t.set d1 (ovA ov)).set d2 (ovA ov), 0, H⟩ (endD H')) (ha1 : args.length ≤ d1) (ha2 : args.length ≤ d2) : DefAt P w0 k f args H H' ov := by
  subst hnt
  intro G w cargs oV hs hfr hr ho R hR
  have hfresh : ∀ i : Id, k <:+ i.key → H i = none := fun i hi => by
    cases hh : H i with
    | none => rfl
    | some e =>
      have hk := hfr i hi
      cases e with
      | cells avs => obtain ⟨b, hb⟩ := hs.d _ _ hh; rw [hk.1] at hb; cases hb
      | tok =>
        rcases hs.t _ hh with g | ⟨b, m, c, T, cs, g, _⟩
        · rw [hk.2] at g; cases g
        · rw [hk.2] at g; cases g
  have hl : args.length = cargs.size := hr.size
  have hpre := h hfresh (args ++ List.replicate (fn.ntmps - args.length) AV.undef) (by simp; omega) (at_prefix _ [] args)
  obtain ⟨V, hV, hmode⟩ : ∃ V, Rep G (ovA ov) V ∧ ∀ (c₀ : Frame) cs, c₀.mode = modeOf oV → (match recoverD (c₀ :: cs) with
      | some (v, cs') => v = V ∧ cs' = { c₀ with mode := modeTo oV } :: cs
      | none => V = .nilIface ∧ { c₀ with mode := modeTo oV } = c₀) := by
    cases ov with
    | none =>
      cases oV with
      | none => exact ⟨.nilIface, by simp [ovA, Rep], fun c₀ cs hc => by cases c₀; simp only [modeOf] at hc; subst hc; simp [recoverD, modeTo]⟩
      | some _ => exact ho.elim
    | some v =>
      cases oV with
      | none => exact ho.elim
      | some V => exact ⟨V, ho, fun c₀ cs hc => by cases c₀; simp only [modeOf] at hc; subst hc; simp [recoverD, modeTo]⟩
  have body : ∀ (c₀ : Frame) (cs : List Frame), c₀.mode = modeOf oV → (Code.seq (.region id #[o1, o2] false) rest).wpSIn Fence.wide 0 P (fun e a' cs' w' => (e = .normal ∨ e = .ret) ∧ cs' = { c₀ with mode := modeTo oV } :: cs ∧ ∃ (G' : Gh) (s' : FS), G.Le G' ∧ New k G G' ∧ Sim w0 G' s'.H w' ∧ DefOk ⟨G, []⟩ G' a'.defers ∧ H'.Le s'.H)
      { tmps := cargs ++ Array.replicate (fn.ntmps - cargs.size) undef, defers := [] } (c₀ :: cs) w := by
    intro c₀ cs hc
    obtain ⟨a0, ha0⟩ : ∃ a0 : Act, a0 = { tmps := cargs ++ Array.replicate (fn.ntmps - cargs.size) undef, defers := [] } := ⟨_, rfl⟩
    rw [← ha0]
    have hr0 : RepL G (args ++ List.replicate (fn.ntmps - args.length) AV.undef) a0.tmps.toList := by
      rw [ha0]
      simp only [Array.toList_append, Array.toList_replicate]
      rw [hl]
      exact RepL.append hr (RepL.replicate G _)
    have hd0 : a0.defers = [] := by rw [ha0]
    have hsz : a0.tmps.size = fn.ntmps := by have := hr0.size; simp at this; omega
    have e1 : (execOp a0.eval o1).run P w = .ok .recover w := by simp [execOp, ho1, resolve, invoke]; rfl
    have e2 : ∀ a : Act, (execOp a.eval o2).run P w = .ok (.value (a.eval (.tmp d1))) w := fun a => by simp [execOp, ho2]
    have w1 : Region.wanted o1 (yielded #[o1, o2] a0.tmps) = true := by simp [Region.wanted, hg1]
    have w2 : ∀ a : Act, Region.wanted o2 (yielded #[o1, o2] a.tmps) = true := fun a => by simp [Region.wanted, hg2]
    have hev : (a0.put o1.dst V).eval (.tmp d1) = V := by simp [hd1, Act.put, Act.eval, show d1 < a0.tmps.size by omega]
    have hr2 : RepL G (((args ++ List.replicate (fn.ntmps - args.length) AV.undef).set d1 (ovA ov)).set d2 (ovA ov)) ((a0.put o1.dst V).put o2.dst V).tmps.toList := by
      have := rep_put (rep_put hr0 hV o1.dst) hV o2.dst
      simpa only [hd1, hd2, putA] using this
    have hd2' : ((a0.put o1.dst V).put o2.dst V).defers = [] := by simp [hd1, hd2, Act.put, hd0]
    have fin : Code.wpSIn Fence.wide 0 P rest (fun e a' cs' w' => (e = .normal ∨ e = .ret) ∧ cs' = { c₀ with mode := modeTo oV } :: cs ∧ ∃ (G' : Gh) (s' : FS), G.Le G' ∧ New k G G' ∧ Sim w0 G' s'.H w' ∧ DefOk ⟨G, []⟩ G' a'.defers ∧ H'.Le s'.H) ((a0.put o1.dst V).put o2.dst V) ({ c₀ with mode := modeTo oV } :: cs) w := by
      refine wpSIn_of_wpIn rfl ?_
      refine hpre ⟨G, []⟩ G w _ hs hr2 (fun m _ i hi => hfr i ((List.suffix_cons m k).trans hi)) (by rw [hd2']; exact DefOk.nil G []) _ ?_
      intro x s' G' w' a' hx hle hnw hs' hr' hd' _ _ X hX
      cases x with
      | normal => cases hX; exact ⟨.inl rfl, rfl, G', s', hle, hnw.up, hs', hd', hx⟩
      | ret => cases hX; exact ⟨.inr rfl, rfl, G', s', hle, hnw.up, hs', hd', hx⟩
      | exit _ => exact hx.elim
      | panic _ => exact hx.elim
    refine wpSIn_seq (wpSIn_region ?_)
    show wpOpsSIn Fence.wide 0 P #[o1, o2] _ [0, 1] a0 (c₀ :: cs) w
    have hm := hmode c₀ cs hc
    refine ops_rec (o := o1) rfl w1 e1 (fun _ _ => trivial) ?_
    cases hrec : recoverD (c₀ :: cs) with
    | some x =>
      obtain ⟨v, cs'⟩ := x
      rw [hrec] at hm
      obtain ⟨rfl, rfl⟩ := hm
      exact ops_val (o := o2) rfl (w2 _) ((e2 _).trans (by rw [hev])) (fun _ _ => trivial) fin
    | none =>
      rw [hrec] at hm
      obtain ⟨rfl, hc2⟩ := hm
      rw [hc2] at fin ⊢
      exact ops_val (o := o2) rfl (w2 _) ((e2 _).trans (by rw [hev])) (fun _ _ => trivial) fin
  refine ⟨trivial, fun c₀ cs hu hroom => ?_⟩
  obtain ⟨b, hbd⟩ : ∃ b : Frame, b = { (default : Frame) with fn := f, kind := .deferred, roundOf := none } := ⟨_, rfl⟩
  have hbf : b.fn = f := by rw [hbd]
  have hbk : b.kind = .deferred := by rw [hbd]
  have hbr : b.roundOf = none := by rw [hbd]
  have henter : Frame.enter P f cargs .deferred = b.atR { tmps := cargs ++ Array.replicate (fn.ntmps - cargs.size) undef, defers := [] } [.code (.seq (.region id #[o1, o2] false) rest)] := by
    simp [Frame.enter, Frame.atR, hf, hb, hbd]
  obtain ⟨e, a', cs', w', hlen, ⟨he, rfl, G', s', hle, hnw, hs', hd', hH⟩, harr⟩ := body c₀ cs hu b [] hbk hbr trivial hroom
  rw [← henter] at harr
  obtain ⟨hle0, Ds, hds, hnd, hDs⟩ := hd'
  rw [List.append_nil] at hds
  have base : Sim w0 { G' with ρ := G.ρ } s'.H w' := end_base (w := w) hle hs.g hs'
  have reach : ∃ todo, StepsIn (Machine.fenced P Fence.wide) P (lone (Frame.enter P f cargs .deferred) (c₀ :: cs) w) (lone { b.atR a' todo with mode := .returning } ({ c₀ with mode := modeTo oV } :: cs) w') := by
    rcases he with rfl | rfl
    · exact ⟨[], StepsIn.trans harr (.one (fenced_calm (fr := b.atR a' []) (n := 0) trivial hroom rfl) (stepR_end hbr))⟩
    · exact harr.1 hbr
  obtain ⟨todo, hst⟩ := reach
  obtain ⟨w2, st2, hs2⟩ := takes (P := P) (F := Fence.wide) (n := 0) (cs := { c₀ with mode := modeTo oV } :: cs) Ds w' { b.atR a' todo with mode := .returning } rfl hds hnd base (end_marks (G := G) (G0 := ⟨G, []⟩) hs' hDs) (fun D hD => (hDs D hD).2) trivial hroom
  obtain ⟨v, hv⟩ : ∃ v, (results fn a'.tmps).run P w2 = .ok v w2 := ⟨_, by simp [results, hrs]; rfl⟩
  exact ⟨.returned v, modeTo oV, w2, _, hR { G' with ρ := G.ρ } w2 v ⟨hle.C, hle.σ, hle.τ, fun _ _ h => h⟩ hnw (hs2.forget hH), StepsIn.trans hst st2, hbk, hbf, rfl, rfl, fn, by rw [← hbf] at hf; exact hf, hv⟩
end Go.Proofs.YtkdendaohlnlcaaGreatDoor.Av

/- A function that defers a closure that recovers. No condition. -/
namespace Go.Proofs.YtkdendaohlnlcaaGreatDoor.Av
set_option linter.unusedVariables false
set_option linter.unusedSimpArgs false
open Go.RowKit
variable {P : Program} {tab : Tab} {Sp : Spec} {w0 : Base} {k p : List Nat}
def dfr (g : FuncId) (cc : Array Value) : Deferred := { target := .fn (.func g) cc, args := #[] }
/-- A text in which a closure of g is deferred; behind that place the ends are Rd's. -/
def CodeD (P : Program) (w0 : Base) (p : List Nat) (g : FuncId) (c : Code) (s : FS) (R : AEx → FS → Prop) (Rd : List AV → AEx → FS → Prop) : Prop :=
  ∀ (G0 : D0) (G : Gh) (w : World) (a : Act), Sim w0 G s.H w → RepL G s.tmps a.tmps.toList → FreshFrom G p s.n → DefOk G0 G a.defers → ∀ Qc, Bears P w0 p s R G0 G Qc →
    (∀ G1 s1 caps cc ds, G.Le G1 → NewF p s.n G G1 → s.n ≤ s1.n → RepL G1 caps cc.toList → DefOk G0 G1 ds → Bears P w0 p s1 (Rd caps) ⟨G1, dfr g cc :: ds⟩ G1 Qc) → c.wpIn (fz none) 0 P Qc a w
theorem CodeD.seq {g : FuncId} {a b : Code} {s : FS} {R : AEx → FS → Prop} {Rd : List AV → AEx → FS → Prop} (h : CodeOk P w0 none p a s (thenR (fun s' => CodeD P w0 p g b s' R Rd) R)) : CodeD P w0 p g (.seq a b) s R Rd := fun G0 G w act hs hr hf hd Qc hB hD => by
  refine wpIn_seq (h G0 G w act hs hr hf hd _ fun x s' G' w' a' hx hl hn hs' hr' hd' hf' hle X hX => ?_)
  have other : R x s' → Qc X a' w' := fun hx => hB x s' G' w' a' hx hl hn hs' hr' hd' hf' hle X hX
  cases x with
  | normal =>
    cases hX
    exact hx G0 G' w' a' hs' hr' hf' hd' Qc (hB.later hl hn hle fun _ _ h => h) fun G1 s1 caps cc ds h1 h2 h3 h4 h5 => hD G1 s1 caps cc ds (hl.trans h1) (hn.trans h2 hle) (by omega) h4 h5
  | ret => cases hX; exact other hx
  | exit id => cases hX; exact other hx
  | panic v => obtain ⟨V, rfl, hV⟩ := hX; exact other hx
theorem wpIn_dfr {ops : Array Oper} {Q : Exit → Act → World → Prop} {o : Oper} {i : Nat} {rest : List Nat} {a : Act} {w w' : World} {d : Deferred} (hi : ops[i]? = some o) (hg : o.guard = none) (hr : (execOp a.eval o).run P w = .ok (.defer d) w')
    (h : wpOpsIn (fz none) 0 P ops Q rest ({ a with defers := d :: a.defers }.put o.dst undef) w') : wpOpsIn (fz none) 0 P ops Q (i :: rest) a w := by
  simp only [wpOpsIn, hi]
  have hw : Region.wanted o (yielded ops a.tmps) = true := by simp [Region.wanted, hg]
  rw [if_pos hw]
  refine ⟨fun _ _ => trivial, ?_⟩
  simp only [Oper.semAt_none, fz, hr, Oper.uponIn]
  exact h
theorem CodeD.here {g : FuncId} {id : Nat} {o1 o2 : Oper} {d1 : Nat} {rest : Code} {s : FS} {R : AEx → FS → Prop} {Rd : List AV → AEx → FS → Prop} {l : List Operand} (ho1 : o1.op = .makeFunc (.func g) #[] l.toArray) (hd1 : o1.dst = some d1) (hg1 : o1.guard = none) (ho2 : o2.op = .defer ⟨.value (.tmp d1), #[], #[]⟩) (hd2 : o2.dst = none) (hg2 : o2.guard = none) (hl : d1 < s.tmps.length)
    (h : CodeOk P w0 none p rest ⟨s.tmps.set d1 (.clo (.func g) [] (l.map (evA s.tmps))), s.n, s.H⟩ (Rd (l.map (evA s.tmps)))) : CodeD P w0 p g (.seq (.region id #[o1, o2] false) rest) s R Rd := by
  intro G0 G w a hs hr hf hd Qc hB hD
  refine wpIn_seq (wpIn_region ?_)
  have hsz := hr.size
  show wpOpsIn (fz none) 0 P #[o1, o2] _ [0, 1] a w
  have hcc : RepL G (l.map (evA s.tmps)) (l.map a.eval) := RepL_map _ fun x _ => rep_eval hr x
  have hrep : Rep G (.clo (.func g) [] (l.map (evA s.tmps))) (.func (.func g) #[] (l.map a.eval).toArray) := by
    simp only [Rep]
    exact ⟨[], l.map a.eval, rfl, by simp [RepL], hcc⟩
  refine wpIn_one (o := o1) rfl hg1 (fun c hc => by rw [ho1] at hc; cases hc) (V := .func (.func g) #[] (l.map a.eval).toArray) (w' := w) (by simp [execOp, ho1, Instr.makeFunc]) ?_
  have hev : (a.put o1.dst (.func (.func g) #[] (l.map a.eval).toArray)).eval (.tmp d1) = .func (.func g) #[] (l.map a.eval).toArray := by simp [hd1, Act.put, Act.eval, show d1 < a.tmps.size by omega]
  refine wpIn_dfr (o := o2) rfl hg2 (d := dfr g (l.map a.eval).toArray) (w' := w) (by
    generalize (a.put o1.dst (.func (.func g) #[] (l.map a.eval).toArray)).eval = ev at hev ⊢
    simp [execOp, ho2, resolve, hev, dfr, Deferred.ofValue]) ?_
  have hdf : (a.put o1.dst (.func (.func g) #[] (l.map a.eval).toArray)).defers = a.defers := by simp [hd1, Act.put]
  obtain ⟨b, hb⟩ : ∃ b : Act, b = ({ a.put o1.dst (.func (.func g) #[] (l.map a.eval).toArray) with defers := dfr g (l.map a.eval).toArray :: (a.put o1.dst (.func (.func g) #[] (l.map a.eval).toArray)).defers }.put o2.dst undef) := ⟨_, rfl⟩
  rw [← hb]
  have hr2 : RepL G (s.tmps.set d1 (.clo (.func g) [] (l.map (evA s.tmps)))) b.tmps.toList := by
    rw [hb, hd1, hd2]
    have := rep_put hr hrep (some d1)
    exact this
  have hb2 : b.defers = dfr g (l.map a.eval).toArray :: a.defers := by rw [hb, hd2, hdf]; rfl
  exact h ⟨G, dfr g (l.map a.eval).toArray :: a.defers⟩ G w b hs hr2 hf (by rw [hb2]; exact DefOk.nil G _) Qc (hD G _ _ _ a.defers (Gh.Le.refl G) (NewF.refl _ _ _) (Nat.le_refl _) hcc hd)
/-- Behind a text's normal end one in which a closure is deferred. -/
def dcutL (P : Program) (w0 : Base) (p : List Nat) (g : FuncId) (b : Code) (R : AEx → FS → Prop) (Rd : List AV → AEx → FS → Prop) : AEx → FS → Prop := thenR (fun s' => CodeD P w0 p g b s' R Rd) R
section
variable {g : FuncId} {b : Code} {R : AEx → FS → Prop} {Rd : List AV → AEx → FS → Prop} {s : FS}
@[go_sem] theorem dcutL_normal : dcutL P w0 p g b R Rd .normal s = CodeD P w0 p g b s R Rd := rfl
@[go_sem] theorem dcutL_ret : dcutL P w0 p g b R Rd .ret s = R .ret s := rfl
@[go_sem] theorem dcutL_exit {i : Nat} : dcutL P w0 p g b R Rd (.exit i) s = R (.exit i) s := rfl
@[go_sem] theorem dcutL_panic {v : AV} : dcutL P w0 p g b R Rd (.panic v) s = R (.panic v) s := rfl
theorem CodeD.cut (hT : TabOk P tab) (hS : SpecOk P w0 Sp) (hm : P.follows .mixedOrders = true) (mb : List Tmp) {a : Code} (h : vc P tab Sp w0 none mb p a s (dcutL P w0 p g b R Rd)) : CodeD P w0 p g (.seq a b) s R Rd := CodeD.seq (vc_sound hT hS hm a s _ h)
end
/-- How a text ends behind which the closure runs. -/
def endDx (P : Program) (w0 : Base) (k : List Nat) (tab : Tab) (rs : List ResultVar) (g : FuncId) (o : Out) (H' : Hp) (caps : List AV) : AEx → FS → Prop
  | .exit _, _ => False
  | x, s' => s'.tmps ≠ [] ∧ ∃ H2, DefAt P w0 (s'.n :: k) g caps s'.H H2 (match x with
      | .panic u => some u
      | _ => none) ∧ ∃ v, o = .ret v ∧ ∃ u, resA tab rs ⟨s'.tmps, s'.n, H2⟩ = some u ∧ Weak u v ∧ H'.Le H2
section
variable {rs : List ResultVar} {g : FuncId} {o : Out} {H' H : Hp} {caps : List AV} {t : List AV} {n : Nat} {v : AV}
/-- What is asked behind the closure. -/
def dfrK (P : Program) (w0 : Base) (k : List Nat) (tab : Tab) (rs : List ResultVar) (g : FuncId) (o : Out) (H' : Hp) (caps : List AV) (t : List AV) (n : Nat) (H : Hp) (ov : Option AV) : Prop := t ≠ [] ∧ ∃ H2, DefAt P w0 (n :: k) g caps H H2 ov ∧ ∃ v, o = .ret v ∧ ∃ u, resA tab rs ⟨t, n, H2⟩ = some u ∧ Weak u v ∧ H'.Le H2
@[go_sem] theorem endDx_normal : endDx P w0 k tab rs g o H' caps .normal ⟨t, n, H⟩ = dfrK P w0 k tab rs g o H' caps t n H none := rfl
@[go_sem] theorem endDx_ret : endDx P w0 k tab rs g o H' caps .ret ⟨t, n, H⟩ = dfrK P w0 k tab rs g o H' caps t n H none := rfl
@[go_sem] theorem endDx_exit {i : Nat} : endDx P w0 k tab rs g o H' caps (.exit i) ⟨t, n, H⟩ = False := rfl
@[go_sem] theorem endDx_panic : endDx P w0 k tab rs g o H' caps (.panic v) ⟨t, n, H⟩ = dfrK P w0 k tab rs g o H' caps t n H (some v) := rfl
end
theorem dfrK_of {rs : List ResultVar} {g : FuncId} {o : Out} {H' H H2 : Hp} {caps : List AV} {t : List AV} {n : Nat} {ov : Option AV} (ht : 0 < t.length) (hd : DefAt P w0 (n :: k) g caps H H2 ov) (h : retO o H' H2 (resA tab rs ⟨t, n, H2⟩)) : dfrK P w0 k tab rs g o H' caps t n H ov := by
  obtain ⟨x, hx, v, ho, hw, hl⟩ := h
  exact ⟨(by rintro rfl; cases ht), H2, hd, v, ho, x, hx, hw, hl⟩
theorem callO_of_codeD (hT : TabOk P tab) {f g : FuncId} {fn : Func} {c : Code} {args : List AV} {H H' : Hp} {v : AV} (hf : P.funcs[f]? = some fn) (hb : fn.body = some c) (hn : (fn.name == "runtime.NumGoroutine") = false)
    {fg : Func} {cg : Code} (hgf : P.funcs[g]? = some fg) (hgb : fg.body = some cg) (hgn : (fg.name == "runtime.NumGoroutine") = false) {rs : List ResultVar} {nt : Nat} (hrs : fn.results = rs.toArray) (hnt : fn.ntmps = nt)
    (h : (∀ i : Id, k <:+ i.key → H i = none) → CodeD P w0 k g c ⟨args ++ List.replicate (nt - args.length) AV.undef, 0, H⟩ (endOx tab rs (.ret v) H') (endDx P w0 k tab rs g (.ret v) H')) : BodyAt P w0 k f args H H' v := by
  subst hnt
  refine ⟨⟨fn, c, hf, hb, hn⟩, fun G w cargs hs hfr hr R hR => ?_⟩
  have hfresh : ∀ i : Id, k <:+ i.key → H i = none := fun i hi => by
    cases hh : H i with
    | none => rfl
    | some e =>
      have hk := hfr i hi
      cases e with
      | cells avs => obtain ⟨b, hb⟩ := hs.d _ _ hh; rw [hk.1] at hb; cases hb
      | tok =>
        rcases hs.t _ hh with g | ⟨b, m, c, T, cs, g, _⟩
        · rw [hk.2] at g; cases g
        · rw [hk.2] at g; cases g
  have hl : args.length = cargs.size := hr.size
  refine (callsIn_wide (n := 0)).1 (callsIn_of_wp_marks hf hb trivial ?_)
  refine h hfresh ⟨G, []⟩ G w _ hs ?_ (fun m _ i hi => hfr i ((List.suffix_cons m k).trans hi)) (DefOk.nil G []) _ ?_ ?_
  · simp only [Array.toList_append, Array.toList_replicate]
    rw [hl]
    exact RepL.append hr (RepL.replicate G _)
  · intro x s' G' w' a' hx hle hnw hs' hr' hd' _ _ X hX
    obtain ⟨hle0, Ds, hds, hnd, hDs⟩ := hd'
    rw [List.append_nil] at hds
    have base : Sim w0 { G' with ρ := G.ρ } s'.H w' := end_base (w := w) hle hs.g hs'
    have done : (∃ v', Out.ret v = .ret v' ∧ ∃ u, resA tab rs s' = some u ∧ Weak u v' ∧ H'.Le s'.H) → RepL G' s'.tmps a'.tmps.toList → LeavesInM Fence.wide 0 P fn a'.tmps R a'.defers .returning w' := fun ⟨v', ho, u, hu, hw, hH⟩ hr' => by
      cases ho
      rw [hds]
      have := leaves_marks (P := P) (fn := fn) (tmps := a'.tmps) (R := R) (ds0 := []) (u := .returning) (by simp) (fun w2 hs2 => by
        obtain ⟨V, hV, hRep⟩ := resA_ok (fn := fn) (s := s') (by exact hT) (by rw [hrs]; exact hu) hs2 (rep_noρ hr')
        exact ⟨V, hV, hR { G' with ρ := G.ρ } w2 V ⟨hle.C, hle.σ, hle.τ, fun _ _ h => h⟩ hnw.up (hs2.forget hH) (hw _ V hRep)⟩) Ds hnd w' base (end_marks (G := G) (G0 := ⟨G, []⟩) hs' hDs) fun D hD => (hDs D hD).2
      simpa using this
    cases x with
    | normal => cases hX; exact done hx hr'
    | ret => cases hX; exact done hx hr'
    | exit id => exact hx.elim
    | panic u => obtain ⟨v', ho, _⟩ := hx; cases ho
  · intro G1 s1 caps cc ds hle1 hnw1 hn1 hcc hd1 x s' G' w' a' hx hle hnw hs' hr' hd' hff hn' X hX
    obtain ⟨hle0, Ds1, hds1, hnd1, hDs1⟩ := hd1
    rw [List.append_nil] at hds1
    obtain ⟨hle2, Ds2, hds2, hnd2, hDs2⟩ := hd'
    have base1 : Sim w0 { G' with ρ := G1.ρ } s'.H w' := end_base (w := w) hle (hs.g.trans hle1) hs'
    have leA : G1.Le { G' with ρ := G1.ρ } := ⟨hle.C, hle.σ, hle.τ, fun _ _ h => h⟩
    have done : ∀ (ov : Option AV) (oV : Option Value), RepO G' ov oV → (∃ H2, DefAt P w0 (s'.n :: k) g caps s'.H H2 ov ∧ ∃ v', Out.ret v = .ret v' ∧ ∃ u, resA tab rs ⟨s'.tmps, s'.n, H2⟩ = some u ∧ Weak u v' ∧ H'.Le H2) → RepL G' s'.tmps a'.tmps.toList → LeavesInM Fence.wide 0 P fn a'.tmps R a'.defers (modeOf oV) w' := fun ov oV ho ⟨H2, hdef, v', hov, u, hu, hw, hH⟩ hr' => by
      cases hov
      rw [hds2]
      refine leaves_marks (P := P) (fn := fn) (tmps := a'.tmps) (R := R) (ds0 := dfr g cc :: ds) (u := modeOf oV) (by cases oV <;> simp [modeOf]) (fun w2 hs2 => ?_) Ds2 hnd2 w' base1 (end_marks (G := G1) (G0 := ⟨G1, dfr g cc :: ds⟩) hs' hDs2) fun D hD => (hDs2 D hD).2
      refine ⟨by cases oV <;> simp [modeOf], .inr ⟨by simp [Fence.wide], .func g, cc, g, cc, rfl, by simp [dfr, invoke, callFunc, program, Sem.run, hgf, hgb, by simpa using hgn], fun _ _ => trivial, hdef { G' with ρ := G1.ρ } w2 cc oV hs2 (hff s'.n (Nat.le_refl _)) (RepL.mono leA _ _ hcc) (by cases ov <;> cases oV <;> first | exact trivial | exact rep_noρ1 _ _ ho | exact ho.elim) _ ?_⟩⟩
      intro G3 w3 V3 hle3 hnw3 hs3
      have hset : settle (modeTo oV) = .returning := by cases oV <;> rfl
      show LeavesInM Fence.wide 0 P fn a'.tmps R ds (settle (modeTo oV)) w3
      rw [hset, hds1]
      have leB : G.Le G3 := hle1.trans (leA.trans hle3)
      have base3 : Sim w0 { G3 with ρ := G.ρ } H2 w3 := end_base (w := w) leB hs.g hs3
      have := leaves_marks (P := P) (fn := fn) (tmps := a'.tmps) (R := R) (ds0 := []) (u := .returning) (by simp) (fun w4 hs4 => by
        obtain ⟨V, hV, hRep⟩ := resA_ok (fn := fn) (s := ⟨s'.tmps, s'.n, H2⟩) (by exact hT) (by rw [hrs]; exact hu) hs4 (rep_noρ (RepL.mono hle3 _ _ (rep_noρ (ρ := G1.ρ) hr')))
        exact ⟨V, hV, hR { G3 with ρ := G.ρ } w4 V ⟨leB.C, leB.σ, leB.τ, fun _ _ h => h⟩ (NewF.up (NewF.trans (NewF.trans hnw1 hnw (by omega)) (C := { G3 with ρ := G.ρ }) (New.f hnw3) (by omega))) (hs4.forget hH) (hw _ V hRep)⟩) Ds1 hnd1 w3 base3 (end_marks (G := G) (G0 := ⟨G, []⟩) hs3 fun D hD => ⟨hle3.ρ _ _ ((hDs1 D hD).1), (hDs1 D hD).2⟩) fun D hD => (hDs1 D hD).2
      simpa using this
    cases x with
    | normal => cases hX; exact done none none trivial hx.2 hr'
    | ret => cases hX; exact done none none trivial hx.2 hr'
    | exit id => exact hx.elim
    | panic u =>
      obtain ⟨V, rfl, hV⟩ := hX
      rcases hr' with h0 | hr'
      · exact absurd h0 hx.1
      · exact done (some u) (some V) hV hx.2 hr'
end Go.Proofs.YtkdendaohlnlcaaGreatDoor.Av

/- What the closure that recovers does. No condition. -/
namespace Go.Proofs.YtkdendaohlnlcaaGreatDoor.Av
set_option linter.unusedVariables false
set_option linter.unusedSimpArgs false
set_option maxRecDepth 4000
set_option maxHeartbeats 1000000
variable {w0 : Base} {k : List Nat} {H : Hp}
theorem Hp.Le.both {A B : Hp} {i : Id} {e : Option Ent} (h : A.Le B) : (A.upd i e).Le (B.upd i e) := by
  intro j x hj
  by_cases hji : j = i
  · subst hji
    rw [Hp.upd_same] at hj ⊢
    exact hj
  · rw [Hp.upd_ne _ _ hji] at hj ⊢
    exact h j x hj
theorem read1_none (i4 i5 i6 : Id) : DefAt Tryz.prog w0 k 113 [.ptr i4 0, .ptr i5 0, .ptr i6 0] H H none := by
  refine defAt_of_code Tryz.func113 rfl rfl (nt := 20) rfl rfl rfl rfl rfl rfl rfl (by decide) (by decide) (by simp) ?_ (by simp) (by simp)
  intro hfr t hl ht
  simp only [At, Nat.reduceAdd, List.cons_append, List.nil_append] at ht
  refine CodeOk.vc tabOk Spec.no_ok mixed [] ?_
  simp (config := {contextual := true, maxSteps := 5000000}) only [go_sem, false_and, Nat.reduceAdd, Nat.reduceLT, Nat.reduceBEq, Nat.reduceSub, Nat.reduceMul, Nat.reduceLeDiff, Int.reduceToNat, Nat.reduceEqDiff, Nat.reduceMod, ht, hl, ovA]
theorem read1_some (i4 i5 i6 : Id) (h4 : i4.sz = 3) (h5 : i5.sz = 1) (h6 : i6.sz = 1) (l : List Tk) (en q : Nat) {e4 e5 e6 : Ent} (g4 : H i4 = some e4) (g5 : H i5 = some e5) (g6 : H i6 = some e6) : DefAt Tryz.prog w0 k 113 [.ptr i4 0, .ptr i5 0, .ptr i6 0] H
    (((H.upd i4 (some (.cells [.int .i64 0, .int .i64 0, .list .nil []]))).upd i5 (some (.cells [.int .i64 32]))).upd i6 (some (.cells [.int .i64 (posOf l en q)]))) (some (stopV l en q)) := by
  refine defAt_of_code Tryz.func113 rfl rfl (nt := 20) rfl rfl rfl rfl rfl rfl rfl (by decide) (by decide) (by simp) ?_ (by simp) (by simp)
  intro hfr t hl ht
  simp only [At, Nat.reduceAdd, List.cons_append, List.nil_append] at ht
  refine CodeOk.vc tabOk Spec.no_ok mixed [] ?_
  have hn : H ⟨1, 5 :: 1 :: k, 133⟩ = none := hfr _ (sfx2 _ _ _)
  have hA : ((⟨1, 5 :: 1 :: k, 133⟩ : Id) = i4) = False := by simp only [eq_iff_iff, iff_false]; intro he; rw [he, g4] at hn; cases hn
  have hB : ((⟨1, 5 :: 1 :: k, 133⟩ : Id) = i5) = False := by simp only [eq_iff_iff, iff_false]; intro he; rw [he, g5] at hn; cases hn
  have hC : ((⟨1, 5 :: 1 :: k, 133⟩ : Id) = i6) = False := by simp only [eq_iff_iff, iff_false]; intro he; rw [he, g6] at hn; cases hn
  have hB := And.intro hB hC
  simp (config := {contextual := true, maxSteps := 5000000}) only [go_sem, false_and, Nat.reduceAdd, Nat.reduceLT, Nat.reduceBEq, Nat.reduceSub, Nat.reduceMul, Nat.reduceLeDiff, Int.reduceToNat, Nat.reduceEqDiff, Nat.reduceMod, ht, hl, ovA, stopV, h4, h5, h6]
  exact ⟨by kernel_rfl, by (refine pw_of ?_; (repeat' (first | exact trivial | apply And.intro)); all_goals (first | exact .inr rfl | exact .inr trivial | exact .inr (by show _ = _; simp (config := {contextual := true, maxSteps := 5000000}) only [go_sem, false_and, Nat.reduceAdd, Nat.reduceLT, Nat.reduceBEq, Nat.reduceSub, Nat.reduceMul, Nat.reduceLeDiff, Int.reduceToNat, Nat.reduceEqDiff, Nat.reduceMod, hA, hB]) | exact .inl (by kernel_rfl))), (((Hp.le_upd (Hp.Le.refl _) hn).both).both).both⟩
end Go.Proofs.YtkdendaohlnlcaaGreatDoor.Av

/- What the functions of package expr answer. No condition. -/
namespace Go.Proofs.YtkdendaohlnlcaaGreatDoor.Av
set_option linter.unusedVariables false
set_option linter.unusedSimpArgs false
set_option maxRecDepth 4000
set_option maxHeartbeats 1000000
variable {w0 : Base} {k : List Nat} {H : Hp}

mutual
def E.nd (d : Int) : E → List (Int × E)
  | .mk k i ks => (d, .mk k i ks) :: E.ndL (IntKind.i64.wrap (d + 1)) ks
def E.ndL (d : Int) : List E → List (Int × E)
  | [] => []
  | e :: es => E.nd d e ++ E.ndL d es
end
theorem E.nd_eq (d : Int) (e : E) : e.nd d = (d, e) :: E.ndL (IntKind.i64.wrap (d + 1)) e.kids := by cases e; simp [E.nd, E.kids]

def allT (b : Nat → Bool) : Nat → Nat → Bool
  | _, 0 => true
  | j, n + 1 => b j && allT b (j + 1) n
theorem allT_iff (b : Nat → Bool) : ∀ (n j : Nat), allT b j n = true ↔ ∀ i, i < n → b (j + i) = true
  | 0, j => by simp [allT]
  | n + 1, j => by
    rw [allT, Bool.and_eq_true, allT_iff b n (j + 1)]
    constructor
    · rintro ⟨h1, h2⟩ i hi
      cases i with
      | zero => exact h1
      | succ i =>
        have := h2 i (by omega)
        rwa [show j + 1 + i = j + (i + 1) by omega] at this
    · intro h
      refine ⟨h 0 (by omega), fun i hi => ?_⟩
      rw [show j + 1 + i = j + (i + 1) by omega]
      exact h (i + 1) (by omega)
theorem allT_add (b : Nat → Bool) : ∀ (n m j : Nat), allT b j (n + m) = (allT b j n && allT b (j + n) m)
  | 0, m, j => by simp [allT]
  | n + 1, m, j => by
    rw [show n + 1 + m = (n + m) + 1 by omega, allT, allT, allT_add b n m (j + 1), show j + 1 + n = j + (n + 1) by omega, Bool.and_assoc]
theorem stops_add (b : Nat → Bool) : ∀ (n m j : Nat), stops b j (n + m) = if allT b j n then stops b (j + n) m else stops b j n
  | 0, m, j => by simp [allT]
  | n + 1, m, j => by
    rw [show n + 1 + m = (n + m) + 1 by omega, stops, allT, stops, stops_add b n m (j + 1), show j + 1 + n = j + (n + 1) by omega]
    cases b j <;> simp
theorem stops_of_allT (b : Nat → Bool) (n j : Nat) (h : allT b j n = true) : stops b j n = j + n := stops_all b n j fun i h1 h2 => by
  have := (allT_iff b n j).1 h (i - j) (by omega)
  rwa [show j + (i - j) = i by omega] at this

def Tells (P : Program) (w0 : Base) (k : List Nat) (l : Nat) (Hs : Nat → Hp) (b : Nat → Bool) (n0 : Nat) (xs : List (Int × E)) : Prop :=
  ∀ j x, xs[j]? = some x → (∀ i, i < j → b (n0 + i) = true) → ∀ key, k <:+ key → YieldIn P w0 key l [.int .i64 x.1, x.2.av] (Hs (n0 + j)) (Hs (n0 + j + 1)) (.bool (b (n0 + j)))

theorem E.ndL_take (d : Int) : ∀ (l : List E) (i : Nat) (x : E), l[i]? = some x → E.ndL d (l.take (i + 1)) = E.ndL d (l.take i) ++ E.nd d x
  | [], i, x, h => by simp at h
  | y :: l, 0, x, h => by simp at h; subst h; simp [E.ndL]
  | y :: l, i + 1, x, h => by
    simp only [List.getElem?_cons_succ] at h
    simp only [List.take_succ_cons, E.ndL, E.ndL_take d l i x h, List.append_assoc]
theorem E.ndL_split (d : Int) : ∀ (l : List E) (i : Nat) (x : E), l[i]? = some x → ∃ rest, E.ndL d l = E.ndL d (l.take i) ++ (E.nd d x ++ rest)
  | [], i, x, h => by simp at h
  | y :: l, 0, x, h => by simp at h; subst h; exact ⟨E.ndL d l, by simp [E.ndL]⟩
  | y :: l, i + 1, x, h => by
    simp only [List.getElem?_cons_succ] at h
    obtain ⟨rest, hr⟩ := E.ndL_split d l i x h
    exact ⟨rest, by simp only [List.take_succ_cons, E.ndL, hr, List.append_assoc]⟩
theorem tell_step (N : Nat) (ih : ∀ (e : E), e.sz < N → e.ok → ∀ (w0 : Base) (k : List Nat) (l : Nat) (d : Int) (Hs : Nat → Hp) (b : Nat → Bool) (n0 : Nat), Tells Tryz.prog w0 k l Hs b n0 (e.nd d) → (∀ j i, k <:+ i.key → Hs j i = none) →
      CallAt Tryz.prog w0 k 145 [e.av, .int .i64 d, .clo (.yield l) [] []] (Hs n0) (Hs (stops b n0 (e.nd d).length)) (.bool (allT b n0 (e.nd d).length)))
    (e : E) (he : e.sz < N + 1) (hok : e.ok) (w0 : Base) (k : List Nat) (l : Nat) (d : Int) (Hs : Nat → Hp) (b : Nat → Bool) (n0 : Nat) (hT : Tells Tryz.prog w0 k l Hs b n0 (e.nd d)) (hfree : ∀ j i, k <:+ i.key → Hs j i = none) :
    CallAt Tryz.prog w0 k 145 [e.av, .int .i64 d, .clo (.yield l) [] []] (Hs n0) (Hs (stops b n0 (e.nd d).length)) (.bool (allT b n0 (e.nd d).length)) := by
  refine callAt tabOk Spec.no_ok mixed Tryz.func145 rfl rfl Tryz.results145 Tryz.ntmps145 (by simp) [] ?_
  intro hfr t hl ht
  simp only [At, Nat.reduceAdd, List.cons_append, List.nil_append] at ht
  simp (config := {contextual := true, maxSteps := 5000000}) only [go_sem, false_and, Nat.reduceAdd, Nat.reduceLT, Nat.reduceBEq, Nat.reduceSub, Nat.reduceMul, Nat.reduceLeDiff, Int.reduceToNat, Nat.reduceEqDiff, Nat.reduceMod, ht, hl, Spec.no]
  have hnd := e.nd_eq d
  refine yieldK_intro (hT 0 (d, e) (by rw [hnd]; rfl) (fun i hi => by omega) _ (sfx2 _ _ _)) (Hp.Le.refl _) ?_
  simp (config := {contextual := true, maxSteps := 5000000}) only [go_sem, false_and, Nat.reduceAdd, Nat.reduceLT, Nat.reduceBEq, Nat.reduceSub, Nat.reduceMul, Nat.reduceLeDiff, Int.reduceToNat, Nat.reduceEqDiff, Nat.reduceMod, ht, hl, Spec.no, Nat.add_zero]
  have hlen : (e.nd d).length = 1 + (E.ndL (IntKind.i64.wrap (d + 1)) e.kids).length := by rw [hnd]; simp; omega
  refine ⟨fun a => ?_, fun a => ?_⟩
  · have ha : b n0 = false := by simpa using a
    rw [hlen, Nat.add_comm, allT, stops, ha]
    simp [Hp.Le.refl]
  · have ha : b n0 = true := by simpa using a
    refine loop_inv tabOk Spec.no_ok mixed [] (fun j x => ∃ i : Nat, x.tmps.length = 28 ∧ x.tmps.getD 1 AV.undef = .int .i64 d ∧ x.tmps.getD 2 AV.undef = .clo (.yield l) [] [] ∧ x.tmps.getD 15 AV.undef = .list .none (e.kids.map E.cells) ∧
      x.tmps.getD 16 AV.undef = .int .i64 e.kids.length ∧ x.tmps.getD 17 AV.undef = .int .i64 i ∧ i + j = e.kids.length ∧ allT b n0 (1 + (E.ndL (IntKind.i64.wrap (d + 1)) (e.kids.take i)).length) = true ∧
      (Hs (n0 + (1 + (E.ndL (IntKind.i64.wrap (d + 1)) (e.kids.take i)).length))).Le x.H) e.kids.length ⟨0, ?_⟩ ?_
    · simp (config := {contextual := true, maxSteps := 5000000}) only [go_sem, false_and, Nat.reduceAdd, Nat.reduceLT, Nat.reduceBEq, Nat.reduceSub, Nat.reduceMul, Nat.reduceLeDiff, Int.reduceToNat, Nat.reduceEqDiff, Nat.reduceMod, ht, hl]
      simp [E.ndL, allT, ha, Hp.Le.refl]
    · rintro j ⟨t, n, H'⟩ ⟨i, hl, h1, h2, h15, h16, h17, hij, hall, hH⟩
      simp only at hl h1 h2 h15 h16 h17 hH
      by_cases hi : i < e.kids.length
      · have hd : decide ((i : Int) < (e.kids.length : Int)) = true := by simp [hi]
        have hw2 : IntKind.i64.wrap ((i : Int) + 1) = ((i + 1 : Nat) : Int) := by
          have := E.ok_len hok
          rw [wrap_i64] <;> omega
        obtain ⟨x, hx, hex⟩ := E.kid e hi
        obtain ⟨rest, hrest⟩ := E.ndL_split (IntKind.i64.wrap (d + 1)) e.kids i x hx
        have htk := E.ndL_take (IntKind.i64.wrap (d + 1)) e.kids i x hx
        simp (config := {contextual := true, maxSteps := 5000000}) only [go_sem, false_and, Nat.reduceAdd, Nat.reduceLT, Nat.reduceBEq, Nat.reduceSub, Nat.reduceMul, Nat.reduceLeDiff, Int.reduceToNat, Nat.reduceEqDiff, Nat.reduceMod, hex, Spec.no, h1, h2, h15, h16, h17, hl, hd]
        refine ⟨⟨by omega, by omega⟩, ?_⟩
        refine callK_pre (ih x (by have := E.kid_sz hx; omega) (E.ok_kid hok hx) w0 _ l (IntKind.i64.wrap (d + 1)) Hs b (n0 + (1 + (E.ndL (IntKind.i64.wrap (d + 1)) (e.kids.take i)).length)) (fun q y hy hb key hkey => ?_) (fun q z hz => hfree q z ((sfx2 _ _ _).trans hz))) (Hp.le_upd hH (hfree _ _ (sfx2 _ _ _))) ?_
        · have hidx : (e.nd d)[1 + (E.ndL (IntKind.i64.wrap (d + 1)) (e.kids.take i)).length + q]? = some y := by
            rw [hnd, hrest, show 1 + (E.ndL (IntKind.i64.wrap (d + 1)) (e.kids.take i)).length + q = ((E.ndL (IntKind.i64.wrap (d + 1)) (e.kids.take i)).length + q) + 1 by omega, List.getElem?_cons_succ, List.getElem?_append_right (by omega), Nat.add_sub_cancel_left]
            rw [List.getElem?_append_left (List.getElem?_eq_some_iff.1 hy).1]
            exact hy
          have := hT _ y hidx (fun i' hi' => by
            by_cases h : i' < 1 + (E.ndL (IntKind.i64.wrap (d + 1)) (e.kids.take i)).length
            · exact (allT_iff b _ _).1 hall i' h
            · have := hb (i' - (1 + (E.ndL (IntKind.i64.wrap (d + 1)) (e.kids.take i)).length)) (by omega)
              rwa [show n0 + (1 + (E.ndL (IntKind.i64.wrap (d + 1)) (e.kids.take i)).length) + (i' - (1 + (E.ndL (IntKind.i64.wrap (d + 1)) (e.kids.take i)).length)) = n0 + i' by omega] at this) key ((sfx2 _ _ _).trans hkey)
          rwa [← Nat.add_assoc] at this
        · simp (config := {contextual := true, maxSteps := 5000000}) only [go_sem, false_and, Nat.reduceAdd, Nat.reduceLT, Nat.reduceBEq, Nat.reduceSub, Nat.reduceMul, Nat.reduceLeDiff, Int.reduceToNat, Nat.reduceEqDiff, Nat.reduceMod, hex, Spec.no, h1, h2, h15, h16, h17, hl, hd, hw2]
          have htot : (e.nd d).length = (1 + (E.ndL (IntKind.i64.wrap (d + 1)) (e.kids.take i)).length) + ((E.nd (IntKind.i64.wrap (d + 1)) x).length + rest.length) := by
            rw [hlen, hrest]
            simp only [List.length_append]
            omega
          refine ⟨fun a => ?_, fun a => ⟨j - 1, by omega, i + 1, rfl, by omega, ?_, ?_⟩⟩
          · have ha' : allT b (n0 + (1 + (E.ndL (IntKind.i64.wrap (d + 1)) (e.kids.take i)).length)) (E.nd (IntKind.i64.wrap (d + 1)) x).length = false := by simpa using a
            rw [htot, allT_add, stops_add, hall, allT_add, stops_add, ha']
            simp [Hp.Le.refl]
          · have ha' : allT b (n0 + (1 + (E.ndL (IntKind.i64.wrap (d + 1)) (e.kids.take i)).length)) (E.nd (IntKind.i64.wrap (d + 1)) x).length = true := by simpa using a
            rw [htk, List.length_append, ← Nat.add_assoc, allT_add, hall, ha']
            rfl
          · have ha' : allT b (n0 + (1 + (E.ndL (IntKind.i64.wrap (d + 1)) (e.kids.take i)).length)) (E.nd (IntKind.i64.wrap (d + 1)) x).length = true := by simpa using a
            rw [htk, List.length_append, stops_of_allT b _ _ ha', show n0 + (1 + (E.ndL (IntKind.i64.wrap (d + 1)) (e.kids.take i)).length) + (E.nd (IntKind.i64.wrap (d + 1)) x).length = n0 + (1 + ((E.ndL (IntKind.i64.wrap (d + 1)) (e.kids.take i)).length + (E.nd (IntKind.i64.wrap (d + 1)) x).length)) by omega]
            exact Hp.Le.refl _
      · have hd : decide ((i : Int) < (e.kids.length : Int)) = false := by simp; omega
        simp (config := {contextual := true, maxSteps := 5000000}) only [go_sem, false_and, Nat.reduceAdd, Nat.reduceLT, Nat.reduceBEq, Nat.reduceSub, Nat.reduceMul, Nat.reduceLeDiff, Int.reduceToNat, Nat.reduceEqDiff, Nat.reduceMod, h1, h2, h15, h16, h17, hl, hd]
        rw [List.take_of_length_le (by omega), ← hlen] at hall hH
        rw [stops_of_allT b _ _ hall]
        exact ⟨hall.symm, hH⟩
theorem tell_ok : ∀ (N : Nat) (e : E), e.sz < N → e.ok → ∀ (w0 : Base) (k : List Nat) (l : Nat) (d : Int) (Hs : Nat → Hp) (b : Nat → Bool) (n0 : Nat), Tells Tryz.prog w0 k l Hs b n0 (e.nd d) → (∀ j i, k <:+ i.key → Hs j i = none) →
      CallAt Tryz.prog w0 k 145 [e.av, .int .i64 d, .clo (.yield l) [] []] (Hs n0) (Hs (stops b n0 (e.nd d).length)) (.bool (allT b n0 (e.nd d).length))
  | 0, e, h => by omega
  | N + 1, e, h => fun hok w0 k l d Hs b n0 hT hfree => tell_step N (tell_ok N) e h hok w0 k l d Hs b n0 hT hfree
/-- The elements that a range over an expression's nodes tells. -/
def E.told (e : E) : List (List AV) := (e.nd 1).map fun x => [.int .i64 x.1, x.2.av]
theorem nodes_iter (e : E) (hok : e.ok) : Iter Tryz.prog 144 [.sptr e.cells] e.told := by
  intro w0 l k Hs b hY hfree
  refine ⟨.tup [], ?_⟩
  have hlen : e.told.length = (e.nd 1).length := by simp [E.told]
  rw [hlen]
  refine bodyAt tabOk Spec.no_ok mixed Tryz.func144 rfl rfl Tryz.results144 Tryz.ntmps144 (by simp) [] ?_
  intro hfr t hl ht
  simp only [At, Nat.reduceAdd, List.cons_append, List.nil_append] at ht
  simp (config := {contextual := true, maxSteps := 5000000}) only [go_sem, false_and, Nat.reduceAdd, Nat.reduceLT, Nat.reduceBEq, Nat.reduceSub, Nat.reduceMul, Nat.reduceLeDiff, Int.reduceToNat, Nat.reduceEqDiff, Nat.reduceMod, ht, hl, Spec.no, E.cells_eq]
  refine callK_pre (tell_ok (e.sz + 1) e (Nat.lt_succ_self _) hok w0 _ l 1 Hs b 0 (fun j x hx hb key hkey => ?_) (fun q z hz => hfree q z ((sfx2 _ _ _).trans hz))) (Hp.Le.refl _) ?_
  · have := hY j [.int .i64 x.1, x.2.av] (by simp only [E.told, List.getElem?_map, hx]; rfl) (fun i hi => by simpa using hb i hi) key ((sfx2 _ _ _).trans hkey)
    simpa using this
  · simp (config := {contextual := true, maxSteps := 5000000}) only [go_sem, false_and, Nat.reduceAdd, Nat.reduceLT, Nat.reduceBEq, Nat.reduceSub, Nat.reduceMul, Nat.reduceLeDiff, Int.reduceToNat, Nat.reduceEqDiff, Nat.reduceMod, ht, hl]

mutual
theorem E.nd_len : ∀ (e : E) (d : Int), (e.nd d).length = e.sz
  | .mk k i ks, d => by simp only [E.nd, E.sz, List.length_cons, E.ndL_len ks]; omega
theorem E.ndL_len : ∀ (l : List E) (d : Int), (E.ndL d l).length = E.szL l
  | [], d => rfl
  | e :: es, d => by simp only [E.ndL, E.szL, List.length_append, E.nd_len e d, E.ndL_len es d]
end
theorem E.told_length (e : E) : e.told.length = e.sz := by simp [E.told, E.nd_len]
theorem notKey {a n m : Nat} {k : List Nat} {i : Id} (h : (n :: k) <:+ i.key) (hm : n ≠ m) {sz : Nat} {ty : TypeId} : i ≠ ⟨sz, a :: m :: k, ty⟩ := by
  rintro rfl
  have := (List.suffix_of_suffix_length_le h (List.suffix_cons a (m :: k)) (by simp)).eq_of_length (by simp)
  simp at this
  exact hm this

theorem nodes_call (e : E) : CallAt Tryz.prog w0 k 104 [e.av] H H (.clo (.func 144) [] [.sptr [.int .i64 e.kind, .int .i64 e.id, .list .none (e.kids.map E.cells)]]) := by
  refine callAt tabOk Spec.no_ok mixed Tryz.func104 rfl rfl Tryz.results104 Tryz.ntmps104 (by simp) [] ?_
  intro hfr t hl ht
  simp only [At, Nat.reduceAdd, List.cons_append, List.nil_append] at ht
  simp (config := {contextual := true, maxSteps := 5000000}) only [go_sem, false_and, Nat.reduceAdd, Nat.reduceLT, Nat.reduceBEq, Nat.reduceSub, Nat.reduceMul, Nat.reduceLeDiff, Int.reduceToNat, Nat.reduceEqDiff, Nat.reduceMod, ht, hl]
def specX0 : Spec := Spec.no.add 104 (sp1 dE (fun _ => True) fun e => .clo (.func 144) [] [.sptr [.int .i64 e.kind, .int .i64 e.id, .list .none (e.kids.map E.cells)]])
theorem specX0_ok : SpecOk Tryz.prog w0 specX0 := Spec.no_ok.add (sp1_ok fun e _ k H => nodes_call e)
theorem told_len (e : E) : ∀ x ∈ e.told, x.length = 2 := fun x hx => by
  obtain ⟨y, _, rfl⟩ := List.mem_map.1 hx
  rfl
theorem sizeX_call (e : E) (hok : e.ok) : CallAt Tryz.prog w0 k 74 [e.av] H H (.int .i64 (min (e.sz : Int) 1001)) := by
  refine callAt tabOk specX0_ok mixed Tryz.func74 rfl rfl Tryz.results74 Tryz.ntmps74 (by simp) [] ?_
  intro hfr t hl ht
  simp only [At, Nat.reduceAdd, List.cons_append, List.nil_append] at ht
  simp (config := {contextual := true, maxSteps := 5000000}) only [go_sem, false_and, Nat.reduceAdd, Nat.reduceLT, Nat.reduceBEq, Nat.reduceSub, Nat.reduceMul, Nat.reduceLeDiff, Int.reduceToNat, Nat.reduceEqDiff, Nat.reduceMod, ht, hl, specX0]
  have hid : H ⟨1, 0 :: 1 :: k, 3⟩ = none := hfr _ (sfx2 _ _ _)
  refine rangeDet (gf := 144) (caps := [.sptr e.cells]) (xs := e.told) (by simp (config := {contextual := true, maxSteps := 5000000}) only [go_sem, false_and, Nat.reduceAdd, Nat.reduceLT, Nat.reduceBEq, Nat.reduceSub, Nat.reduceMul, Nat.reduceLeDiff, Int.reduceToNat, Nat.reduceEqDiff, Nat.reduceMod, ht, hl, E.cells_eq]) (nodes_iter e hok) (told_len e)
    (fun j => H.upd ⟨1, 0 :: 1 :: k, 3⟩ (some (.cells [.int .i64 (j : Nat)]))) (fun j => if 1000 ≤ j then some (.exit 0) else none) (fun j => by split <;> simp) (fun j v => by split <;> simp) rfl
    (fun j i hi => by rw [Hp.upd_ne _ _ (notKey hi (by decide))]; exact hfr i ((List.suffix_cons _ _).trans hi)) ?_ (fun ha => ?_) (fun j c hj hp hc => ?_)
  · intro j x hx hp l key w0' hw0 hkey
    refine vc_sound (tab := tab) (Sp := Spec.no) (mb := []) tabOk Spec.no_ok mixed _ _ _ ?_
    obtain ⟨y, hy, rfl⟩ : ∃ y : Int × E, (e.nd 1)[j]? = some y ∧ x = [.int .i64 y.1, y.2.av] := by
      simp only [E.told, List.getElem?_map, Option.map_eq_some_iff] at hx
      obtain ⟨y, h1, h2⟩ := hx
      exact ⟨y, h1, h2.symm⟩
    simp (config := {contextual := true, maxSteps := 5000000}) only [go_sem, false_and, Nat.reduceAdd, Nat.reduceLT, Nat.reduceBEq, Nat.reduceSub, Nat.reduceMul, Nat.reduceLeDiff, Int.reduceToNat, Nat.reduceEqDiff, Nat.reduceMod, ht, hl, setPs]
    intro w0'' hw0'
    refine vc_sound (tab := tab) (Sp := Spec.no) (mb := []) tabOk Spec.no_ok mixed _ _ _ ?_
    have hj : j < 1001 := by
      rcases Nat.lt_or_ge j 1001 with h | h
      · exact h
      · have := hp 1000 (by omega)
        simp at this
    have hw : IntKind.i64.wrap ((j : Int) + 1) = ((j + 1 : Nat) : Int) := by rw [wrap_i64] <;> omega
    simp (config := {contextual := true, maxSteps := 5000000}) only [go_sem, false_and, Nat.reduceAdd, Nat.reduceLT, Nat.reduceBEq, Nat.reduceSub, Nat.reduceMul, Nat.reduceLeDiff, Int.reduceToNat, Nat.reduceEqDiff, Nat.reduceMod, ht, hl, hw]
    refine ⟨fun a => ?_, fun a => ?_⟩ <;> simp only [decide_eq_true_eq, decide_eq_false_iff_not] at a
    · rw [if_pos (by omega)]
      rfl
    · rw [if_neg (by omega)]
      rfl
  · simp (config := {contextual := true, maxSteps := 5000000}) only [go_sem, false_and, Nat.reduceAdd, Nat.reduceLT, Nat.reduceBEq, Nat.reduceSub, Nat.reduceMul, Nat.reduceLeDiff, Int.reduceToNat, Nat.reduceEqDiff, Nat.reduceMod, ht, hl]
    refine ⟨?_, Hp.le_upd (Hp.Le.refl _) hid⟩
    rw [E.told_length] at ha ⊢
    have : e.sz ≤ 1000 := by
      rcases Nat.lt_or_ge 1000 e.sz with h | h
      · have := ha 1000 h
        simp at this
      · exact h
    omega
  · have hj0 : j = 1000 := by
      split at hc
      · rcases Nat.lt_or_ge 1000 j with h | h
        · have := hp 1000 h
          simp at this
        · omega
      · cases hc
    subst hj0
    simp only [Nat.le_refl, if_true, Option.some.injEq] at hc
    subst hc
    simp (config := {contextual := true, maxSteps := 5000000}) only [go_sem, false_and, Nat.reduceAdd, Nat.reduceLT, Nat.reduceBEq, Nat.reduceSub, Nat.reduceMul, Nat.reduceLeDiff, Int.reduceToNat, Nat.reduceEqDiff, Nat.reduceMod, ht, hl]
    refine ⟨?_, Hp.le_upd (Hp.Le.refl _) hid⟩
    rw [E.told_length] at hj
    omega
def specX1 : Spec := specX0.add 74 (sp1 dE (fun e => e.ok) fun e => .int .i64 (min (e.sz : Int) 1001))
theorem specX1_ok : SpecOk Tryz.prog w0 specX1 := specX0_ok.add (sp1_ok fun e h k H => sizeX_call e h)

/-! depths -/
mutual
def E.tn (d : Nat) : E → List Nat
  | .mk _ _ ks => d :: E.tnL (d + 1) ks
def E.tnL (d : Nat) : List E → List Nat
  | [] => []
  | e :: es => E.tn d e ++ E.tnL d es
end
theorem wrap_wrap (n : Int) : IntKind.i64.wrap (IntKind.i64.wrap n + 1) = IntKind.i64.wrap (n + 1) := by
  rw [IntKind.wrap_i64, IntKind.wrap_i64, IntKind.wrap_i64]
  omega
mutual
theorem E.nd_tn : ∀ (e : E) (d : Nat), (e.nd (IntKind.i64.wrap d)).map (·.1) = (e.tn d).map fun n : Nat => IntKind.i64.wrap n
  | .mk k i ks, d => by
    simp only [E.nd, E.tn, List.map_cons, wrap_wrap]
    have := E.ndL_tnL ks (d + 1)
    simp only [Int.natCast_add, Int.natCast_one] at this
    rw [this]
theorem E.ndL_tnL : ∀ (l : List E) (d : Nat), (E.ndL (IntKind.i64.wrap d) l).map (·.1) = (E.tnL d l).map fun n : Nat => IntKind.i64.wrap n
  | [], d => rfl
  | e :: es, d => by simp only [E.ndL, E.tnL, List.map_append, E.nd_tn e d, E.ndL_tnL es d]
end
def maxL : List Nat → Nat
  | [] => 0
  | x :: l => max x (maxL l)
theorem maxL_append : ∀ l m : List Nat, maxL (l ++ m) = max (maxL l) (maxL m)
  | [], m => by simp [maxL]
  | x :: l, m => by simp only [List.cons_append, maxL, maxL_append l m]; omega
mutual
theorem E.tn_max : ∀ (e : E) (d : Nat), maxL (e.tn d) + 1 = d + e.dp
  | .mk k i ks, d => by
    simp only [E.tn, E.dp, maxL]
    have := E.tnL_max ks (d + 1)
    split at this <;> omega
theorem E.tnL_max : ∀ (l : List E) (d : Nat), if l = [] then maxL (E.tnL d l) = 0 ∧ E.dpL l = 0 else maxL (E.tnL d l) + 1 = d + E.dpL l
  | [], d => by simp [E.tnL, maxL, E.dpL]
  | e :: es, d => by
    have h1 := E.tn_max e d
    have h2 := E.tnL_max es d
    have h3 := e.dp_pos
    simp only [E.tnL, maxL_append, E.dpL]
    rw [if_neg (by simp)]
    split at h2 <;> omega
end
mutual
theorem E.tn_step : ∀ (e : E) (d j v : Nat), (e.tn d)[j]? = some v → (j = 0 ∧ v = d) ∨ ∃ i u, i < j ∧ (e.tn d)[i]? = some u ∧ v = u + 1
  | .mk k i ks, d, 0, v, h => by simp [E.tn] at h; exact .inl ⟨rfl, h.symm⟩
  | .mk k i ks, d, j + 1, v, h => by
    simp only [E.tn, List.getElem?_cons_succ] at h
    rcases E.tnL_step ks (d + 1) j v h with h1 | ⟨q, u, h1, h2, h3⟩
    · exact .inr ⟨0, d, by omega, by simp [E.tn], h1⟩
    · exact .inr ⟨q + 1, u, by omega, by simpa [E.tn] using h2, h3⟩
theorem E.tnL_step : ∀ (l : List E) (d j v : Nat), (E.tnL d l)[j]? = some v → v = d ∨ ∃ i u, i < j ∧ (E.tnL d l)[i]? = some u ∧ v = u + 1
  | [], d, j, v, h => by simp [E.tnL] at h
  | e :: es, d, j, v, h => by
    simp only [E.tnL] at h ⊢
    by_cases hj : j < (E.tn d e).length
    · rw [List.getElem?_append_left hj] at h
      rcases E.tn_step e d j v h with h1 | ⟨q, u, h1, h2, h3⟩
      · exact .inl h1.2
      · exact .inr ⟨q, u, h1, by rw [List.getElem?_append_left (by omega)]; exact h2, h3⟩
    · rw [List.getElem?_append_right (by omega)] at h
      rcases E.tnL_step es d _ v h with h1 | ⟨q, u, h1, h2, h3⟩
      · exact .inl h1
      · exact .inr ⟨q + (E.tn d e).length, u, by omega, by rw [List.getElem?_append_right (by omega), Nat.add_sub_cancel]; exact h2, h3⟩
end
theorem maxL_take (l : List Nat) {j v : Nat} (h : l[j]? = some v) : maxL (l.take (j + 1)) = max (maxL (l.take j)) v := by
  rw [List.take_add_one, h, maxL_append]
  simp [maxL]
theorem maxL_mem : ∀ {l : List Nat} {v : Nat}, v ∈ l → v ≤ maxL l
  | x :: l, v, h => by
    rcases List.mem_cons.1 h with rfl | h
    · simp only [maxL]; omega
    · have := maxL_mem h
      simp only [maxL]; omega
theorem maxL_take_le (l : List Nat) (j : Nat) : maxL (l.take j) ≤ maxL l := by
  have := maxL_append (l.take j) (l.drop j)
  rw [List.take_append_drop] at this
  omega
theorem told_at (e : E) {j : Nat} {x : List AV} (hx : e.told[j]? = some x) : ∃ y : Int × E, (e.nd 1)[j]? = some y ∧ x = [.int .i64 y.1, y.2.av] := by
  simp only [E.told, List.getElem?_map, Option.map_eq_some_iff] at hx
  obtain ⟨y, h1, h2⟩ := hx
  exact ⟨y, h1, h2.symm⟩
theorem nd_depth (e : E) {j : Nat} {y : Int × E} (h : (e.nd 1)[j]? = some y) : ∃ v, (e.tn 1)[j]? = some v ∧ y.1 = IntKind.i64.wrap (v : Int) := by
  have h1 := E.nd_tn e 1
  have h2 : ((e.nd (IntKind.i64.wrap (1 : Nat))).map (·.1))[j]? = some y.1 := by
    rw [List.getElem?_map, show IntKind.i64.wrap ((1 : Nat) : Int) = 1 from by rw [wrap_i64] <;> omega, h]
    rfl
  rw [h1, List.getElem?_map, Option.map_eq_some_iff] at h2
  obtain ⟨v, h3, h4⟩ := h2
  exact ⟨v, h3, h4.symm⟩
theorem tn_len (e : E) : (e.tn 1).length = e.sz := by
  have := congrArg List.length (E.nd_tn e 1)
  simpa [E.nd_len] using this.symm
theorem depthX_call (e : E) (hok : e.ok) : CallAt Tryz.prog w0 k 75 [e.av] H H (.int .i64 (min (e.dp : Int) 101)) := by
  refine callAt tabOk specX1_ok mixed Tryz.func75 rfl rfl Tryz.results75 Tryz.ntmps75 (by simp) [] ?_
  intro hfr t hl ht
  simp only [At, Nat.reduceAdd, List.cons_append, List.nil_append] at ht
  simp (config := {contextual := true, maxSteps := 5000000}) only [go_sem, false_and, Nat.reduceAdd, Nat.reduceLT, Nat.reduceBEq, Nat.reduceSub, Nat.reduceMul, Nat.reduceLeDiff, Int.reduceToNat, Nat.reduceEqDiff, Nat.reduceMod, ht, hl, specX1, specX0]
  have hid : H ⟨1, 0 :: 1 :: k, 3⟩ = none := hfr _ (sfx2 _ _ _)
  have hmax : maxL (e.tn 1) = e.dp := by have := E.tn_max e 1; omega
  have hprev : ∀ j, (∀ i, i < j → (if 100 < maxL ((e.tn 1).take (i + 1)) then some (AEx.exit 0) else none) = none) → maxL ((e.tn 1).take j) ≤ 100 := fun j hp => by
    cases j with
    | zero => simp [maxL]
    | succ j =>
      have := hp j (by omega)
      rcases Nat.lt_or_ge 100 (maxL ((e.tn 1).take (j + 1))) with h | h
      · rw [if_pos h] at this; cases this
      · exact h
  have hnext : ∀ j v, maxL ((e.tn 1).take j) ≤ 100 → (e.tn 1)[j]? = some v → v ≤ 101 := fun j v hm hv => by
    rcases E.tn_step e 1 j v hv with ⟨_, h⟩ | ⟨i, u, h1, h2, h3⟩
    · omega
    · have : u ≤ maxL ((e.tn 1).take j) := maxL_mem (List.mem_of_getElem? (by rw [List.getElem?_take_of_lt h1]; exact h2))
      omega
  refine rangeDet (gf := 144) (caps := [.sptr e.cells]) (xs := e.told) (by simp (config := {contextual := true, maxSteps := 5000000}) only [go_sem, false_and, Nat.reduceAdd, Nat.reduceLT, Nat.reduceBEq, Nat.reduceSub, Nat.reduceMul, Nat.reduceLeDiff, Int.reduceToNat, Nat.reduceEqDiff, Nat.reduceMod, ht, hl, E.cells_eq]) (nodes_iter e hok) (told_len e)
    (fun j => H.upd ⟨1, 0 :: 1 :: k, 3⟩ (some (.cells [.int .i64 (maxL ((e.tn 1).take j) : Nat)]))) (fun j => if 100 < maxL ((e.tn 1).take (j + 1)) then some (.exit 0) else none) (fun j => by split <;> simp) (fun j v => by split <;> simp) rfl
    (fun j i hi => by rw [Hp.upd_ne _ _ (notKey hi (by decide))]; exact hfr i ((List.suffix_cons _ _).trans hi)) ?_ (fun ha => ?_) (fun j c hj hp hc => ?_)
  · intro j x hx hp l key w0' hw0 hkey
    refine vc_sound (tab := tab) (Sp := Spec.no) (mb := []) tabOk Spec.no_ok mixed _ _ _ ?_
    obtain ⟨y, hy, rfl⟩ := told_at e hx
    obtain ⟨v, hv, hyv⟩ := nd_depth e hy
    have hm := hprev j hp
    have hv1 := hnext j v hm hv
    have hw : y.1 = (v : Int) := by rw [hyv, wrap_i64] <;> omega
    have hmt := maxL_take _ hv
    simp (config := {contextual := true, maxSteps := 5000000}) only [go_sem, false_and, Nat.reduceAdd, Nat.reduceLT, Nat.reduceBEq, Nat.reduceSub, Nat.reduceMul, Nat.reduceLeDiff, Int.reduceToNat, Nat.reduceEqDiff, Nat.reduceMod, ht, hl, setPs, hw]
    intro w0'' hw0'
    refine vc_sound (tab := tab) (Sp := Spec.no) (mb := []) tabOk Spec.no_ok mixed _ _ _ ?_
    simp (config := {contextual := true, maxSteps := 5000000}) only [go_sem, false_and, Nat.reduceAdd, Nat.reduceLT, Nat.reduceBEq, Nat.reduceSub, Nat.reduceMul, Nat.reduceLeDiff, Int.reduceToNat, Nat.reduceEqDiff, Nat.reduceMod, ht, hl, hw]
    have hif : (if (maxL ((e.tn 1).take j) : Int) < (v : Int) then (v : Int) else (maxL ((e.tn 1).take j) : Int)) = ((max (maxL ((e.tn 1).take j)) v : Nat) : Int) := by split <;> omega
    rw [hif, hmt]
    refine ⟨fun a => ⟨?_, Hp.Le.refl _⟩, fun a => ⟨?_, Hp.Le.refl _⟩⟩ <;> simp only [decide_eq_true_eq, decide_eq_false_iff_not] at a
    · rw [if_pos (by omega)]
      rfl
    · rw [if_neg (by omega)]
      rfl
  · simp (config := {contextual := true, maxSteps := 5000000}) only [go_sem, false_and, Nat.reduceAdd, Nat.reduceLT, Nat.reduceBEq, Nat.reduceSub, Nat.reduceMul, Nat.reduceLeDiff, Int.reduceToNat, Nat.reduceEqDiff, Nat.reduceMod, ht, hl]
    refine ⟨?_, Hp.le_upd (Hp.Le.refl _) hid⟩
    rw [E.told_length] at ha ⊢
    have := hprev _ ha
    rw [List.take_of_length_le (by rw [tn_len]; omega)] at this ⊢
    omega
  · have hm := hprev j hp
    rw [E.told_length, ← tn_len] at hj
    have hv : (e.tn 1)[j]? = some (e.tn 1)[j] := by simp [hj]
    have hv1 := hnext j _ hm hv
    have hmt := maxL_take _ hv
    have hle := maxL_take_le (e.tn 1) (j + 1)
    split at hc
    · cases hc
      simp (config := {contextual := true, maxSteps := 5000000}) only [go_sem, false_and, Nat.reduceAdd, Nat.reduceLT, Nat.reduceBEq, Nat.reduceSub, Nat.reduceMul, Nat.reduceLeDiff, Int.reduceToNat, Nat.reduceEqDiff, Nat.reduceMod, ht, hl]
      refine ⟨?_, Hp.le_upd (Hp.Le.refl _) hid⟩
      omega
    · cases hc
def specX2 : Spec := specX1.add 75 (sp1 dE (fun e => e.ok) fun e => .int .i64 (min (e.dp : Int) 101))
theorem specX2_ok : SpecOk Tryz.prog w0 specX2 := specX1_ok.add (sp1_ok fun e h k H => depthX_call e h)
theorem isTerm_call (e : E) : CallAt Tryz.prog w0 k 107 [e.av] H H (.bool e.term) := by
  refine callAt tabOk Spec.no_ok mixed Tryz.func107 rfl rfl Tryz.results107 Tryz.ntmps107 (by simp) [] ?_
  intro hfr t hl ht
  simp only [At, Nat.reduceAdd, List.cons_append, List.nil_append] at ht
  simp (config := {contextual := true, maxSteps := 5000000}) only [go_sem, false_and, Nat.reduceAdd, Nat.reduceLT, Nat.reduceBEq, Nat.reduceSub, Nat.reduceMul, Nat.reduceLeDiff, Int.reduceToNat, Nat.reduceEqDiff, Nat.reduceMod, ht, hl]
  simp +contextual [E.term] <;> grind
def specKA : Spec := Spec.no.add 107 (sp1 dE (fun _ => True) fun e => .bool e.term)
theorem specKA_ok : SpecOk Tryz.prog w0 specKA := Spec.no_ok.add (sp1_ok fun e _ k H => isTerm_call e)
theorem kidsAre_call (e : E) (l m : Int) (ts : Bool) (h1 : m ≤ 99) :
    CallAt Tryz.prog w0 k 146 [e.av, .int .i64 l, .int .i64 m, .bool ts] H H (.bool (decide (l ≤ e.kids.length) && decide (e.kids.length ≤ m) && e.kids.all fun x => x.term == ts)) := by
  refine callAt tabOk specKA_ok mixed Tryz.func146 rfl rfl Tryz.results146 Tryz.ntmps146 (by simp) [] ?_
  intro hfr t hl ht
  simp only [At, Nat.reduceAdd, List.cons_append, List.nil_append] at ht
  simp (config := {contextual := true, maxSteps := 5000000}) only [go_sem, false_and, Nat.reduceAdd, Nat.reduceLT, Nat.reduceBEq, Nat.reduceSub, Nat.reduceMul, Nat.reduceLeDiff, Int.reduceToNat, Nat.reduceEqDiff, Nat.reduceMod, ht, hl]
  refine ⟨fun a => ⟨fun b => ?_, fun b => ?_⟩, fun a => ?_⟩ <;> simp only [decide_eq_true_eq, decide_eq_false_iff_not] at a
  · simp only [decide_eq_true_eq] at b
    have : decide ((e.kids.length : Int) ≤ m) = false := by simp; omega
    simp [this]
  · simp only [decide_eq_false_iff_not] at b
    have d1 : decide (l ≤ (e.kids.length : Int)) = true := by simp; omega
    have d2 : decide ((e.kids.length : Int) ≤ m) = true := by simp; omega
    simp only [d1, d2, Bool.true_and]
    refine loop_inv tabOk specKA_ok mixed [] (fun j x => ∃ i : Nat, x.tmps.length = 35 ∧ x.tmps.getD 3 AV.undef = .bool ts ∧ (∀ i' x, i' < i → e.kids[i']? = some x → (x.term == ts) = true) ∧
      x.tmps.getD 24 AV.undef = .list .none (e.kids.map E.cells) ∧ x.tmps.getD 25 AV.undef = .int .i64 e.kids.length ∧ x.tmps.getD 26 AV.undef = .int .i64 i ∧ H.Le x.H ∧ i + j = e.kids.length) e.kids.length ⟨0, ?_⟩ ?_
    · simp (config := {contextual := true, maxSteps := 5000000}) only [go_sem, false_and, Nat.reduceAdd, Nat.reduceLT, Nat.reduceBEq, Nat.reduceSub, Nat.reduceMul, Nat.reduceLeDiff, Int.reduceToNat, Nat.reduceEqDiff, Nat.reduceMod, ht, hl]
      simp
    · rintro j ⟨t, n, H'⟩ ⟨i, hl, h3', hall, h24, h25, h26, hH, hij⟩
      simp only at hl h3' h24 h25 h26 hH
      by_cases hi : i < e.kids.length
      · have hd : decide ((i : Int) < (e.kids.length : Int)) = true := by simp [hi]
        have hw2 : IntKind.i64.wrap ((i : Int) + 1) = ((i + 1 : Nat) : Int) := by rw [wrap_i64] <;> omega
        obtain ⟨x, hx, he⟩ := E.kid e hi
        simp (config := {contextual := true, maxSteps := 5000000}) only [go_sem, false_and, Nat.reduceAdd, Nat.reduceLT, Nat.reduceBEq, Nat.reduceSub, Nat.reduceMul, Nat.reduceLeDiff, Int.reduceToNat, Nat.reduceEqDiff, Nat.reduceMod, he, specKA, h3', h24, h25, h26, hl, hd, hw2]
        have hn : H ⟨3, 2 :: (n + 1) :: k, 25⟩ = none := hfr _ (sfx2 _ _ _)
        have hle : ∀ a, H.Le (H'.upd ⟨3, 2 :: (n + 1) :: k, 25⟩ a) := fun a => Hp.le_upd hH hn
        have bad : (x.term == ts) = false → (false = e.kids.all fun x => x.term == ts) := fun h => by
          symm
          rw [List.all_eq_false]
          exact ⟨x, List.mem_of_getElem? hx, by simp [h]⟩
        refine ⟨⟨by omega, by omega⟩, fun a => ⟨bad (by simp_all), hle _⟩, fun a => ⟨j - 1, by omega, i + 1, fun i' y hi' hy => ?_, rfl, hle _, by omega⟩⟩
        by_cases e : i' = i
        · subst e
          rw [hx] at hy
          cases hy
          simp_all
        · exact hall i' y (by omega) hy
      · have hd : decide ((i : Int) < (e.kids.length : Int)) = false := by simp; omega
        simp (config := {contextual := true, maxSteps := 5000000}) only [go_sem, false_and, Nat.reduceAdd, Nat.reduceLT, Nat.reduceBEq, Nat.reduceSub, Nat.reduceMul, Nat.reduceLeDiff, Int.reduceToNat, Nat.reduceEqDiff, Nat.reduceMod, h3', h24, h25, h26, hl, hd]
        refine ⟨?_, hH⟩
        symm
        rw [List.all_eq_true]
        intro x hx
        obtain ⟨i', hi', hx'⟩ := List.getElem_of_mem hx
        exact hall i' x (by omega) (by rw [← hx']; simp)
  · have : decide (l ≤ (e.kids.length : Int)) = false := by simp; omega
    simp [this]
def specKB : Spec := Spec.no.add 146 (sp4 dE dI dI dB (fun _ _ m _ => m ≤ 99) fun e l m t => .bool (decide (l ≤ e.kids.length) && decide (e.kids.length ≤ m) && e.kids.all fun x => x.term == t))
theorem specKB_ok : SpecOk Tryz.prog w0 specKB := Spec.no_ok.add (sp4_ok fun e l m t h k H => kidsAre_call e l m t h)
theorem E.loc_all (e : E) : e.loc = match E.want e.kind with
    | some (mx, l, m, t) => decide (0 ≤ e.id) && decide (e.id ≤ mx) && (decide ((l : Int) ≤ e.kids.length) && decide ((e.kids.length : Int) ≤ m) && e.kids.all fun x => x.term == t)
    | none => false := by
  unfold E.loc
  cases h : E.want e.kind with
  | none => rfl
  | some v =>
    obtain ⟨mx, l, m, t⟩ := v
    simp only [Int.ofNat_le, Bool.and_assoc]
theorem shapedX_call (e : E) : CallAt Tryz.prog w0 k 105 [e.av] H H (.bool e.loc) := by
  refine callAt tabOk specKB_ok mixed Tryz.func105 rfl rfl Tryz.results105 Tryz.ntmps105 (by simp) [] ?_
  intro hfr t hl ht
  simp only [At, Nat.reduceAdd, List.cons_append, List.nil_append] at ht
  rw [E.loc_all]
  have hc : (e.kind = 1 ∨ e.kind = 2 ∨ e.kind = 3 ∨ e.kind = 4 ∨ e.kind = 5 ∨ e.kind = 6 ∨ e.kind = 7 ∨ e.kind = 8 ∨ e.kind = 9 ∨ e.kind = 10) ∨ (e.kind == 1) = false ∧ (e.kind == 2) = false ∧ (e.kind == 3) = false ∧ (e.kind == 4) = false ∧ (e.kind == 5) = false ∧ (e.kind == 6) = false ∧ (e.kind == 7) = false ∧ (e.kind == 8) = false ∧ (e.kind == 9) = false ∧ (e.kind == 10) = false := by
    simp only [beq_eq_false_iff_ne]
    omega
  rcases hc with (hk | hk | hk | hk | hk | hk | hk | hk | hk | hk) | ⟨b1, b2, b3, b4, b5, b6, b7, b8, b9, b10⟩
  · have b1 : (e.kind == 1) = true := by simp [hk]
    have b2 : (e.kind == 2) = false := by simp [hk]
    have b3 : (e.kind == 3) = false := by simp [hk]
    have b4 : (e.kind == 4) = false := by simp [hk]
    have b5 : (e.kind == 5) = false := by simp [hk]
    have b6 : (e.kind == 6) = false := by simp [hk]
    have b7 : (e.kind == 7) = false := by simp [hk]
    have b8 : (e.kind == 8) = false := by simp [hk]
    have b9 : (e.kind == 9) = false := by simp [hk]
    have b10 : (e.kind == 10) = false := by simp [hk]
    simp (config := {contextual := true, maxSteps := 5000000}) only [go_sem, false_and, Nat.reduceAdd, Nat.reduceLT, Nat.reduceBEq, Nat.reduceSub, Nat.reduceMul, Nat.reduceLeDiff, Int.reduceToNat, Nat.reduceEqDiff, Nat.reduceMod, ht, hl, specKB, b1, b2, b3, b4, b5, b6, b7, b8, b9, b10]
    simp only [E.want, hk]
    (repeat' (first | apply And.intro | intro _)) <;> by_cases h0 : e.kids = [] <;> simp_all <;> first | omega | grind
  · have b1 : (e.kind == 1) = false := by simp [hk]
    have b2 : (e.kind == 2) = true := by simp [hk]
    have b3 : (e.kind == 3) = false := by simp [hk]
    have b4 : (e.kind == 4) = false := by simp [hk]
    have b5 : (e.kind == 5) = false := by simp [hk]
    have b6 : (e.kind == 6) = false := by simp [hk]
    have b7 : (e.kind == 7) = false := by simp [hk]
    have b8 : (e.kind == 8) = false := by simp [hk]
    have b9 : (e.kind == 9) = false := by simp [hk]
    have b10 : (e.kind == 10) = false := by simp [hk]
    simp (config := {contextual := true, maxSteps := 5000000}) only [go_sem, false_and, Nat.reduceAdd, Nat.reduceLT, Nat.reduceBEq, Nat.reduceSub, Nat.reduceMul, Nat.reduceLeDiff, Int.reduceToNat, Nat.reduceEqDiff, Nat.reduceMod, ht, hl, specKB, b1, b2, b3, b4, b5, b6, b7, b8, b9, b10]
    simp only [E.want, hk]
    (repeat' (first | apply And.intro | intro _)) <;> simp_all <;> omega
  · have b1 : (e.kind == 1) = false := by simp [hk]
    have b2 : (e.kind == 2) = false := by simp [hk]
    have b3 : (e.kind == 3) = true := by simp [hk]
    have b4 : (e.kind == 4) = false := by simp [hk]
    have b5 : (e.kind == 5) = false := by simp [hk]
    have b6 : (e.kind == 6) = false := by simp [hk]
    have b7 : (e.kind == 7) = false := by simp [hk]
    have b8 : (e.kind == 8) = false := by simp [hk]
    have b9 : (e.kind == 9) = false := by simp [hk]
    have b10 : (e.kind == 10) = false := by simp [hk]
    simp (config := {contextual := true, maxSteps := 5000000}) only [go_sem, false_and, Nat.reduceAdd, Nat.reduceLT, Nat.reduceBEq, Nat.reduceSub, Nat.reduceMul, Nat.reduceLeDiff, Int.reduceToNat, Nat.reduceEqDiff, Nat.reduceMod, ht, hl, specKB, b1, b2, b3, b4, b5, b6, b7, b8, b9, b10]
    simp only [E.want, hk]
    (repeat' (first | apply And.intro | intro _)) <;> simp_all <;> omega
  · have b1 : (e.kind == 1) = false := by simp [hk]
    have b2 : (e.kind == 2) = false := by simp [hk]
    have b3 : (e.kind == 3) = false := by simp [hk]
    have b4 : (e.kind == 4) = true := by simp [hk]
    have b5 : (e.kind == 5) = false := by simp [hk]
    have b6 : (e.kind == 6) = false := by simp [hk]
    have b7 : (e.kind == 7) = false := by simp [hk]
    have b8 : (e.kind == 8) = false := by simp [hk]
    have b9 : (e.kind == 9) = false := by simp [hk]
    have b10 : (e.kind == 10) = false := by simp [hk]
    simp (config := {contextual := true, maxSteps := 5000000}) only [go_sem, false_and, Nat.reduceAdd, Nat.reduceLT, Nat.reduceBEq, Nat.reduceSub, Nat.reduceMul, Nat.reduceLeDiff, Int.reduceToNat, Nat.reduceEqDiff, Nat.reduceMod, ht, hl, specKB, b1, b2, b3, b4, b5, b6, b7, b8, b9, b10]
    simp only [E.want, hk]
    (repeat' (first | apply And.intro | intro _)) <;> simp_all <;> omega
  · have b1 : (e.kind == 1) = false := by simp [hk]
    have b2 : (e.kind == 2) = false := by simp [hk]
    have b3 : (e.kind == 3) = false := by simp [hk]
    have b4 : (e.kind == 4) = false := by simp [hk]
    have b5 : (e.kind == 5) = true := by simp [hk]
    have b6 : (e.kind == 6) = false := by simp [hk]
    have b7 : (e.kind == 7) = false := by simp [hk]
    have b8 : (e.kind == 8) = false := by simp [hk]
    have b9 : (e.kind == 9) = false := by simp [hk]
    have b10 : (e.kind == 10) = false := by simp [hk]
    simp (config := {contextual := true, maxSteps := 5000000}) only [go_sem, false_and, Nat.reduceAdd, Nat.reduceLT, Nat.reduceBEq, Nat.reduceSub, Nat.reduceMul, Nat.reduceLeDiff, Int.reduceToNat, Nat.reduceEqDiff, Nat.reduceMod, ht, hl, specKB, b1, b2, b3, b4, b5, b6, b7, b8, b9, b10]
    simp only [E.want, hk]
    (repeat' (first | apply And.intro | intro _)) <;> simp_all <;> omega
  · have b1 : (e.kind == 1) = false := by simp [hk]
    have b2 : (e.kind == 2) = false := by simp [hk]
    have b3 : (e.kind == 3) = false := by simp [hk]
    have b4 : (e.kind == 4) = false := by simp [hk]
    have b5 : (e.kind == 5) = false := by simp [hk]
    have b6 : (e.kind == 6) = true := by simp [hk]
    have b7 : (e.kind == 7) = false := by simp [hk]
    have b8 : (e.kind == 8) = false := by simp [hk]
    have b9 : (e.kind == 9) = false := by simp [hk]
    have b10 : (e.kind == 10) = false := by simp [hk]
    simp (config := {contextual := true, maxSteps := 5000000}) only [go_sem, false_and, Nat.reduceAdd, Nat.reduceLT, Nat.reduceBEq, Nat.reduceSub, Nat.reduceMul, Nat.reduceLeDiff, Int.reduceToNat, Nat.reduceEqDiff, Nat.reduceMod, ht, hl, specKB, b1, b2, b3, b4, b5, b6, b7, b8, b9, b10]
    simp only [E.want, hk]
    (repeat' (first | apply And.intro | intro _)) <;> simp_all <;> omega
  · have b1 : (e.kind == 1) = false := by simp [hk]
    have b2 : (e.kind == 2) = false := by simp [hk]
    have b3 : (e.kind == 3) = false := by simp [hk]
    have b4 : (e.kind == 4) = false := by simp [hk]
    have b5 : (e.kind == 5) = false := by simp [hk]
    have b6 : (e.kind == 6) = false := by simp [hk]
    have b7 : (e.kind == 7) = true := by simp [hk]
    have b8 : (e.kind == 8) = false := by simp [hk]
    have b9 : (e.kind == 9) = false := by simp [hk]
    have b10 : (e.kind == 10) = false := by simp [hk]
    simp (config := {contextual := true, maxSteps := 5000000}) only [go_sem, false_and, Nat.reduceAdd, Nat.reduceLT, Nat.reduceBEq, Nat.reduceSub, Nat.reduceMul, Nat.reduceLeDiff, Int.reduceToNat, Nat.reduceEqDiff, Nat.reduceMod, ht, hl, specKB, b1, b2, b3, b4, b5, b6, b7, b8, b9, b10]
    simp only [E.want, hk]
    (repeat' (first | apply And.intro | intro _)) <;> simp_all <;> omega
  · have b1 : (e.kind == 1) = false := by simp [hk]
    have b2 : (e.kind == 2) = false := by simp [hk]
    have b3 : (e.kind == 3) = false := by simp [hk]
    have b4 : (e.kind == 4) = false := by simp [hk]
    have b5 : (e.kind == 5) = false := by simp [hk]
    have b6 : (e.kind == 6) = false := by simp [hk]
    have b7 : (e.kind == 7) = false := by simp [hk]
    have b8 : (e.kind == 8) = true := by simp [hk]
    have b9 : (e.kind == 9) = false := by simp [hk]
    have b10 : (e.kind == 10) = false := by simp [hk]
    simp (config := {contextual := true, maxSteps := 5000000}) only [go_sem, false_and, Nat.reduceAdd, Nat.reduceLT, Nat.reduceBEq, Nat.reduceSub, Nat.reduceMul, Nat.reduceLeDiff, Int.reduceToNat, Nat.reduceEqDiff, Nat.reduceMod, ht, hl, specKB, b1, b2, b3, b4, b5, b6, b7, b8, b9, b10]
    simp only [E.want, hk]
    (repeat' (first | apply And.intro | intro _)) <;> simp_all <;> omega
  · have b1 : (e.kind == 1) = false := by simp [hk]
    have b2 : (e.kind == 2) = false := by simp [hk]
    have b3 : (e.kind == 3) = false := by simp [hk]
    have b4 : (e.kind == 4) = false := by simp [hk]
    have b5 : (e.kind == 5) = false := by simp [hk]
    have b6 : (e.kind == 6) = false := by simp [hk]
    have b7 : (e.kind == 7) = false := by simp [hk]
    have b8 : (e.kind == 8) = false := by simp [hk]
    have b9 : (e.kind == 9) = true := by simp [hk]
    have b10 : (e.kind == 10) = false := by simp [hk]
    simp (config := {contextual := true, maxSteps := 5000000}) only [go_sem, false_and, Nat.reduceAdd, Nat.reduceLT, Nat.reduceBEq, Nat.reduceSub, Nat.reduceMul, Nat.reduceLeDiff, Int.reduceToNat, Nat.reduceEqDiff, Nat.reduceMod, ht, hl, specKB, b1, b2, b3, b4, b5, b6, b7, b8, b9, b10]
    simp only [E.want, hk]
    (repeat' (first | apply And.intro | intro _)) <;> simp_all <;> omega
  · have b1 : (e.kind == 1) = false := by simp [hk]
    have b2 : (e.kind == 2) = false := by simp [hk]
    have b3 : (e.kind == 3) = false := by simp [hk]
    have b4 : (e.kind == 4) = false := by simp [hk]
    have b5 : (e.kind == 5) = false := by simp [hk]
    have b6 : (e.kind == 6) = false := by simp [hk]
    have b7 : (e.kind == 7) = false := by simp [hk]
    have b8 : (e.kind == 8) = false := by simp [hk]
    have b9 : (e.kind == 9) = false := by simp [hk]
    have b10 : (e.kind == 10) = true := by simp [hk]
    simp (config := {contextual := true, maxSteps := 5000000}) only [go_sem, false_and, Nat.reduceAdd, Nat.reduceLT, Nat.reduceBEq, Nat.reduceSub, Nat.reduceMul, Nat.reduceLeDiff, Int.reduceToNat, Nat.reduceEqDiff, Nat.reduceMod, ht, hl, specKB, b1, b2, b3, b4, b5, b6, b7, b8, b9, b10]
    simp only [E.want, hk]
    (repeat' (first | apply And.intro | intro _)) <;> simp_all <;> omega
  · simp (config := {contextual := true, maxSteps := 5000000}) only [go_sem, false_and, Nat.reduceAdd, Nat.reduceLT, Nat.reduceBEq, Nat.reduceSub, Nat.reduceMul, Nat.reduceLeDiff, Int.reduceToNat, Nat.reduceEqDiff, Nat.reduceMod, ht, hl, specKB, b1, b2, b3, b4, b5, b6, b7, b8, b9, b10]
    simp only [beq_eq_false_iff_ne] at b1 b2 b3 b4 b5 b6 b7 b8 b9 b10
    simp [E.want, b1, b2, b3, b4, b5, b6, b7, b8, b9, b10]
end Go.Proofs.YtkdendaohlnlcaaGreatDoor.Av

/- What expr.Right and expr.IsTerm answer. No condition. -/
namespace Go.Proofs.YtkdendaohlnlcaaGreatDoor.Av
set_option linter.unusedVariables false
set_option linter.unusedSimpArgs false
set_option maxRecDepth 4000
set_option maxHeartbeats 1000000
variable {w0 : Base} {k : List Nat} {H : Hp}

mutual
theorem E.sh_nd : ∀ (e : E) (d : Int), e.sh = (e.nd d).all fun x => x.2.loc
  | .mk k i ks, d => by
    simp only [E.sh, E.nd, List.all_cons, E.shL_nd ks (IntKind.i64.wrap (d + 1))]
theorem E.shL_nd : ∀ (l : List E) (d : Int), E.shL l = (E.ndL d l).all fun x => x.2.loc
  | [], d => rfl
  | e :: es, d => by simp only [E.shL, E.ndL, List.all_append, E.sh_nd e d, E.shL_nd es d]
end
def specX3 : Spec := specX2.add 105 (sp1 dE (fun _ => True) fun e => .bool e.loc)
theorem specX3_ok : SpecOk Tryz.prog w0 specX3 := specX2_ok.add (sp1_ok fun e _ k H => shapedX_call e)
theorem Hp.upd_le {A B : Hp} {i : Id} {x : Option Ent} (h : A.Le B) : (A.upd i x).Le (B.upd i x) := by
  intro j e hj
  by_cases hji : j = i
  · subst hji
    rw [Hp.upd_same] at hj ⊢
    exact hj
  · rw [Hp.upd_ne _ _ hji] at hj ⊢
    exact h j e hj
theorem rightX_call (e : E) (hok : e.ok) : CallAt Tryz.prog w0 k 70 [e.av] H H (.int .i64 e.right) := by
  refine callAt tabOk specX3_ok mixed Tryz.func70 rfl rfl Tryz.results70 Tryz.ntmps70 (by simp) [] ?_
  intro hfr t hl ht
  simp only [At, Nat.reduceAdd, List.cons_append, List.nil_append] at ht
  simp (config := {contextual := true, maxSteps := 5000000}) only [go_sem, false_and, Nat.reduceAdd, Nat.reduceLT, Nat.reduceBEq, Nat.reduceSub, Nat.reduceMul, Nat.reduceLeDiff, Int.reduceToNat, Nat.reduceEqDiff, Nat.reduceMod, ht, hl, specX3, specX2, specX1, specX0, resOne]
  have hid : H ⟨1, 1 :: 0 :: k, 29⟩ = none := hfr _ (sfx2 _ _ _)
  have hle : ∀ a, H.Le (H.upd ⟨1, 1 :: 0 :: k, 29⟩ a) := fun a => Hp.le_upd (Hp.Le.refl _) hid
  refine ⟨hok, fun a => ⟨?_, hle _⟩, fun a => ⟨hok, fun b => ⟨?_, hle _⟩, fun b => ?_⟩⟩ <;> simp only [decide_eq_true_eq, decide_eq_false_iff_not] at a
  · rw [E.right, if_pos (by omega)]
  · simp only [decide_eq_true_eq] at b
    rw [E.right, if_neg (by omega), if_pos (by omega)]
  simp only [decide_eq_false_iff_not] at b
  have hright : e.right = if e.sh then 0 else 22 := by rw [E.right, if_neg (by omega), if_neg (by omega)]
  have hsh := E.sh_nd e 1
  have htk : ∀ j x, (e.nd 1)[j]? = some x → ((e.nd 1).take (j + 1)).all (fun x => x.2.loc) = (((e.nd 1).take j).all (fun x => x.2.loc) && x.2.loc) := fun j x hx => by
    rw [List.take_add_one, hx]
    simp [List.all_append]
  have hprev : ∀ j, (∀ i, i < j → (if ((e.nd 1).take (i + 1)).all (fun x => x.2.loc) then none else some AEx.ret) = none) → ((e.nd 1).take j).all (fun x => x.2.loc) = true := fun j hp => by
    cases j with
    | zero => simp
    | succ j =>
      have := hp j (by omega)
      cases h : ((e.nd 1).take (j + 1)).all (fun x => x.2.loc) with
      | true => rfl
      | false => rw [h] at this; simp at this
  refine rangeDet (gf := 144) (caps := [.sptr e.cells]) (xs := e.told) (by simp (config := {contextual := true, maxSteps := 5000000}) only [go_sem, false_and, Nat.reduceAdd, Nat.reduceLT, Nat.reduceBEq, Nat.reduceSub, Nat.reduceMul, Nat.reduceLeDiff, Int.reduceToNat, Nat.reduceEqDiff, Nat.reduceMod, ht, hl, E.cells_eq]) (nodes_iter e hok) (told_len e)
    (fun j => H.upd ⟨1, 1 :: 0 :: k, 29⟩ (some (.cells [.int .i64 (if ((e.nd 1).take j).all (fun x => x.2.loc) then 0 else 22)]))) (fun j => if ((e.nd 1).take (j + 1)).all (fun x => x.2.loc) then none else some .ret) (fun j => by split <;> simp) (fun j v => by split <;> simp) (by simp)
    (fun j i hi => by rw [Hp.upd_ne _ _ (notKey hi (by decide))]; exact hfr i ((List.suffix_cons _ _).trans hi)) ?_ (fun ha => ?_) (fun j c hj hp hc => ?_)
  · intro j x hx hp l key w0' hw0 hkey
    refine vc_sound (tab := tab) (Sp := Spec.no) (mb := []) tabOk Spec.no_ok mixed _ _ _ ?_
    obtain ⟨y, hy, rfl⟩ := told_at e hx
    have hm := hprev j hp
    have ht1 := htk j y hy
    rw [hm, Bool.true_and] at ht1
    simp (config := {contextual := true, maxSteps := 5000000}) only [go_sem, false_and, Nat.reduceAdd, Nat.reduceLT, Nat.reduceBEq, Nat.reduceSub, Nat.reduceMul, Nat.reduceLeDiff, Int.reduceToNat, Nat.reduceEqDiff, Nat.reduceMod, ht, hl, setPs, hm]
    intro w0'' hw0'
    refine vc_sound (tab := tab) (Sp := specX3) (mb := []) tabOk specX3_ok mixed _ _ _ ?_
    have hkn : k <:+ key := (List.suffix_cons _ _).trans hkey
    have hne : (⟨3, 0 :: 0 :: key, 25⟩ : Id) ≠ ⟨1, 1 :: 0 :: k, 29⟩ := fun h => by cases h
    have hnn : ∀ a, (H.upd ⟨1, 1 :: 0 :: k, 29⟩ a) ⟨3, 0 :: 0 :: key, 25⟩ = none := fun a => by
      rw [Hp.upd_ne _ _ hne]
      exact hfr _ (hkn.trans (sfx2 _ _ _))
    simp (config := {contextual := true, maxSteps := 5000000}) only [go_sem, false_and, Nat.reduceAdd, Nat.reduceLT, Nat.reduceBEq, Nat.reduceSub, Nat.reduceMul, Nat.reduceLeDiff, Int.reduceToNat, Nat.reduceEqDiff, Nat.reduceMod, ht, hl, hm, ht1, specX3, specX2, specX1, specX0]
    refine ⟨fun a => ?_, fun a => ?_⟩ <;> simp only [Bool.not_eq_true', Bool.not_eq_false'] at a <;> simp only [a, Bool.false_eq_true, if_false, if_true]
    · exact ⟨rfl, Hp.upd_le (Hp.le_upd (hle _) (hfr _ (hkn.trans (sfx2 _ _ _))))⟩
    · exact ⟨rfl, Hp.le_upd (Hp.Le.refl _) (hnn _)⟩
  · simp (config := {contextual := true, maxSteps := 5000000}) only [go_sem, false_and, Nat.reduceAdd, Nat.reduceLT, Nat.reduceBEq, Nat.reduceSub, Nat.reduceMul, Nat.reduceLeDiff, Int.reduceToNat, Nat.reduceEqDiff, Nat.reduceMod, ht, hl, resOne]
    refine ⟨?_, hle _⟩
    have := hprev _ ha
    rw [E.told_length, List.take_of_length_le (by rw [E.nd_len]; omega), ← hsh] at this
    rw [hright, this]
    rfl
  · split at hc
    · cases hc
    · rename_i hb
      cases hc
      simp (config := {contextual := true, maxSteps := 5000000}) only [go_sem, false_and, Nat.reduceAdd, Nat.reduceLT, Nat.reduceBEq, Nat.reduceSub, Nat.reduceMul, Nat.reduceLeDiff, Int.reduceToNat, Nat.reduceEqDiff, Nat.reduceMod, ht, hl, resOne]
      refine ⟨?_, hle _⟩
      rw [hright, if_neg hb, if_neg]
      rw [hsh]
      intro hall
      apply hb
      rw [List.all_eq_true] at hall ⊢
      exact fun x hx => hall x (List.mem_of_mem_take hx)
def specX4 : Spec := (Spec.no.add 70 (sp1 dE (fun e => e.ok) fun e => .int .i64 e.right)).add 107 (sp1 dE (fun _ => True) fun e => .bool e.term)
theorem specX4_ok : SpecOk Tryz.prog w0 specX4 := (Spec.no_ok.add (sp1_ok fun e h k H => rightX_call e h)).add (sp1_ok fun e _ k H => isTerm_call e)
theorem isTermX_call (e : E) (hok : e.ok) : CallAt Tryz.prog w0 k 73 [e.av] H H (.bool (e.right == 0 && e.term)) := by
  refine callAt tabOk specX4_ok mixed Tryz.func73 rfl rfl Tryz.results73 Tryz.ntmps73 (by simp) [] ?_
  intro hfr t hl ht
  simp only [At, Nat.reduceAdd, List.cons_append, List.nil_append] at ht
  simp (config := {contextual := true, maxSteps := 5000000}) only [go_sem, false_and, Nat.reduceAdd, Nat.reduceLT, Nat.reduceBEq, Nat.reduceSub, Nat.reduceMul, Nat.reduceLeDiff, Int.reduceToNat, Nat.reduceEqDiff, Nat.reduceMod, ht, hl, specX4]
  simp [hok]
def specX5 : Spec := (((Spec.no.add 70 (sp1 dE (fun e => e.ok) fun e => .int .i64 e.right)).add 73 (sp1 dE (fun e => e.ok) fun e => .bool (e.right == 0 && e.term))).add
  74 (sp1 dE (fun e => e.ok) fun e => .int .i64 (min (e.sz : Int) 1001))).add 75 (sp1 dE (fun e => e.ok) fun e => .int .i64 (min (e.dp : Int) 101))
theorem specX5_ok : SpecOk Tryz.prog w0 specX5 := (((Spec.no_ok.add (sp1_ok fun e h k H => rightX_call e h)).add (sp1_ok fun e h k H => isTermX_call e h)).add (sp1_ok fun e h k H => sizeX_call e h)).add (sp1_ok fun e h k H => depthX_call e h)
end Go.Proofs.YtkdendaohlnlcaaGreatDoor.Av
