/- strings.Builder: a text that grows. No condition. -/
import Derived.Test.YtkdendaohlnlcaaDoorR02
import Derived.Test.YtkdendaohlnlcaaDoorAv16
namespace Go.Proofs.YtkdendaohlnlcaaDoor.Av
set_option linter.unusedVariables false
set_option linter.unusedSimpArgs false
set_option maxRecDepth 4000
set_option maxHeartbeats 1000000
variable {w0 : Base} {k : List Nat} {H : Hp}
theorem noEscape_call (v : AV) : CallAt Tryd.prog w0 k 34 [v] H H v := by
  refine .inr ⟨_, Extern.AbiNoEscape.same, Tryd.func34, rfl, by kernel_rfl, by kernel_rfl, by kernel_rfl, fun G w ca hs hf hr => ?_⟩
  obtain ⟨V, hV, h1⟩ : ∃ V, ca.toList = [V] ∧ Rep G v V := by
    simp only [RepL] at hr
    obtain ⟨u, us, e, h1, rfl⟩ := hr
    exact ⟨u, e, h1⟩
  obtain rfl : ca = #[V] := by apply Array.ext'; simpa using hV
  exact ⟨G, w, V, Gh.Le.refl G, New.refl k G, hs, h1, rfl⟩
theorem Hp.upd_self {H : Hp} {i : Id} {e : Option Ent} (h : H i = e) : (H.upd i e).Le H := fun j x hj => by
  by_cases hji : j = i
  · subst hji; rw [Hp.upd_same] at hj; rw [h, hj]
  · rwa [Hp.upd_ne _ _ hji] at hj
theorem builder_lies : liesAt Tryd.prog Tryd.prog.depth 37 (2 / Tryd.prog.cellsOf 37) 0 37 1 = true := by kernel_rfl
theorem copyCheck_call (id : Id) (p X : AV) (hp : p = .raw (.pointer none) ∨ p = .ptr id 0) (hH : H id = some (.cells [p, X])) (hz : id.sz = 2) (hy : id.ty = 37) :
    CallAt Tryd.prog w0 k 20 [.ptr id 0] H (H.upd id (some (.cells [.ptr id 0, X]))) (.tup []) := by
  refine callAt tabOk Spec.no_ok mixed Tryd.func20 rfl rfl Tryd.results20 Tryd.ntmps20 (by simp) [] ?_
  intro hfr t hl ht
  simp only [At, Nat.reduceAdd, List.cons_append, List.nil_append] at ht
  rcases hp with rfl | rfl
  · simp (config := {contextual := true, maxSteps := 5000000}) only [go_sem, Nat.reduceAdd, Nat.reduceLT, Nat.reduceBEq, Nat.reduceSub, Nat.reduceMul, Nat.reduceLeDiff, Int.reduceToNat, Nat.reduceEqDiff, Nat.reduceMod, ht, hl, hH, hz, hy, Spec.no]
    refine callK_intro (noEscape_call _) ?_
    simp (config := {contextual := true, maxSteps := 5000000}) only [go_sem, Nat.reduceAdd, Nat.reduceLT, Nat.reduceBEq, Nat.reduceSub, Nat.reduceMul, Nat.reduceLeDiff, Int.reduceToNat, Nat.reduceEqDiff, Nat.reduceMod, ht, hl, hH, hz, hy, Spec.no, builder_lies]
  · simp (config := {contextual := true, maxSteps := 5000000}) only [go_sem, Nat.reduceAdd, Nat.reduceLT, Nat.reduceBEq, Nat.reduceSub, Nat.reduceMul, Nat.reduceLeDiff, Int.reduceToNat, Nat.reduceEqDiff, Nat.reduceMod, ht, hl, hH, hz, hy, Spec.no]
    exact Hp.upd_self hH
/-- What may be at the end of a text that grows. -/
def tokB (H : Hp) : Tok → ByteArray → Prop
  | .nil, s => s = .empty
  | .tok t, _ => t.sz = 1 ∧ t.ty = 5 ∧ H t = none
  | _, _ => False
def tokUp (H : Hp) : Tok → Hp
  | .tok t => H.upd t (some .tok)
  | _ => H
/-- The heap H0 with a builder besides, that holds s. -/
def bdH (H : Hp) (id : Id) (p : AV) (tk : Tok) (s : ByteArray) : Hp := (tokUp H tk).upd id (some (.cells [p, .list tk (bytesA s)]))
def BdAt (H0 : Hp) (id : Id) (s : ByteArray) (H : Hp) : Prop := (id.sz = 2 ∧ id.ty = 37) ∧ ∃ p tk, (p = .raw (.pointer none) ∨ p = .ptr id 0) ∧ tokB H0 tk s ∧ (bdH H0 id p tk s).Le H
theorem bytesA_append (s t : ByteArray) : bytesA s ++ (bytesA t).map (·.map strip) = bytesA (s ++ t) := by
  simp only [bytesA, List.map_map, ByteArray.data_append, Array.toList_append, List.map_append]
  rfl
theorem BdAt.mono {H0 H H' : Hp} {id : Id} {s : ByteArray} (h : BdAt H0 id s H) (hl : H.Le H') : BdAt H0 id s H' := by
  obtain ⟨h0, p, tk, h1, h2, h3⟩ := h
  exact ⟨h0, p, tk, h1, h2, h3.trans hl⟩
theorem bytes_one (s : ByteArray) : (bytesA s).flatten.all oneA = true := by
  rw [List.all_eq_true]
  intro x hx
  obtain ⟨l, hl, hx⟩ := List.mem_flatten.1 hx
  obtain ⟨b, _, rfl⟩ := List.mem_map.1 hl
  simp only [List.mem_cons, List.not_mem_nil, or_false] at hx
  subst hx
  rfl
/-- A call that writes a text to the builder. -/
def Wrote (f : FuncId) (args : List AV) (id : Id) (txt : ByteArray) (v : AV) : Prop := ∀ w0 k H0 H s, BdAt H0 id s H → s.size + txt.size ≤ 140737488355328 → (∀ i : Id, k <:+ i.key → H0 i = none) → ∃ H' u, (BdAt H0 id (s ++ txt) H' ∧ u = v) ∧ CallAt Tryd.prog w0 k f args H H' u
theorem tokB_live {H0 H : Hp} {id : Id} {p : AV} {tk : Tok} {s : ByteArray} (hid : id.sz = 2) (h : tokB H0 tk s) (hl : (bdH H0 id p tk s).Le H) : tokLive H 1 5 tk := by
  cases tk with
  | none => exact h
  | nil => trivial
  | full => exact h.elim
  | tok t =>
    refine ⟨hl t .tok ?_, h.1, h.2.1⟩
    have hne : t ≠ id := fun e => by have := h.1; rw [e, hid] at this; omega
    rw [bdH, Hp.upd_ne _ _ hne, tokUp, Hp.upd_same]
theorem bdH_at {H0 : Hp} {id j : Id} {p : AV} {tk : Tok} {s : ByteArray} {e : Ent} (hji : j ≠ id) (htk : tokB H0 tk s) (h : H0 j = some e) : bdH H0 id p tk s j = some e := by
  rw [bdH, Hp.upd_ne _ _ hji]
  cases tk with
  | tok t0 =>
    have hjt : j ≠ t0 := fun e => by have := htk.2.2; rw [← e, h] at this; cases this
    rw [tokUp, Hp.upd_ne _ _ hjt, h]
  | _ => exact h
theorem ws_call (id : Id) (t : ByteArray) (ht : (t.size : Int) ≤ 9223372036854775807) : Wrote 7 [.ptr id 0, .str t] id t (.tup [.int .i64 t.size, .raw .nilIface]) := by
  intro w0 k H0 H s ⟨⟨hz, hy⟩, p, tk, hp, htk, hle⟩ hsz hfr0
  have hH : H id = some (.cells [p, .list tk (bytesA s)]) := hle _ _ (Hp.upd_same _ _ _)
  have hlive := tokB_live hz htk hle
  have hno : H0 ⟨1, 6 :: 2 :: k, 5⟩ = none := hfr0 _ (sfx2 _ _ _)
  refine ⟨bdH H0 id (.ptr id 0) (tokBy tk (bytesA t) ⟨1, 6 :: 2 :: k, 5⟩) (s ++ t), _, ⟨⟨⟨hz, hy⟩, _, _, .inr rfl, ?_, Hp.Le.refl _⟩, rfl⟩, ?_⟩
  · cases tk with
    | none => exact htk.elim
    | full => exact htk.elim
    | nil =>
      cases htb : bytesA t with
      | nil =>
        have h0 : t = .empty := by
          have : (bytesA t).length = 0 := by rw [htb]; rfl
          rw [bytesA_length] at this
          exact ByteArray.size_eq_zero_iff.1 this
        rw [show s = .empty from htk, h0]
        rfl
      | cons b l => exact ⟨rfl, rfl, hno⟩
    | tok t0 => exact ⟨rfl, rfl, hno⟩
  refine callAt tabOk Spec.no_ok mixed Tryd.func7 rfl rfl Tryd.results7 Tryd.ntmps7 (by simp) [] ?_
  intro hfr u hl ht'
  simp only [At, Nat.reduceAdd] at ht'
  simp (config := {contextual := true, maxSteps := 5000000}) only [go_sem, Nat.reduceAdd, Nat.reduceLT, Nat.reduceBEq, Nat.reduceSub, Nat.reduceMul, Nat.reduceLeDiff, Int.reduceToNat, Nat.reduceEqDiff, Nat.reduceMod, ht', hl, hH, hz, hy, Spec.no]
  refine callK_intro (copyCheck_call id p _ hp hH hz hy) ?_
  simp (config := {contextual := true, maxSteps := 5000000}) only [go_sem, Nat.reduceAdd, Nat.reduceLT, Nat.reduceBEq, Nat.reduceSub, Nat.reduceMul, Nat.reduceLeDiff, Int.reduceToNat, Nat.reduceEqDiff, Nat.reduceMod, ht', hl, hH, hz, hy, Spec.no]
  have hne : id ≠ ⟨1, 6 :: 2 :: k, 5⟩ := fun e => by rw [e] at hz; cases hz
  have htn : ∀ t0, tk = .tok t0 → t0 ≠ id := fun t0 e hh => by
    subst e
    have := htk.1
    rw [hh, hz] at this
    omega
  have hk2 : killTok (H.upd id (some (.cells [.ptr id 0, .list tk (bytesA s)]))) tk id = some (.cells [.ptr id 0, .list tk (bytesA s)]) := by
    cases tk with
    | tok t0 => rw [killTok, Hp.upd_ne _ _ (htn t0 rfl).symm, Hp.upd_same]
    | _ => exact Hp.upd_same _ _ _
  refine ⟨bytesA_each s, bytes_one t, by rw [bytesA_length, bytesA_length]; omega, by rw [bytesA_length, bytesA_length]; omega, ?_, ?_⟩
  · cases tk with
    | tok t0 => exact ⟨by rw [Hp.upd_ne _ _ (htn t0 rfl)]; exact hlive.1, hlive.2⟩
    | _ => exact hlive
  simp (config := {contextual := true, maxSteps := 5000000}) only [go_sem, Nat.reduceAdd, Nat.reduceLT, Nat.reduceBEq, Nat.reduceSub, Nat.reduceMul, Nat.reduceLeDiff, Int.reduceToNat, Nat.reduceEqDiff, Nat.reduceMod, ht', hl, hz, hy, Spec.no, bytesA_append, hne, hk2]
  intro j e hj
  by_cases hji : j = id
  · subst hji
    rw [bdH, Hp.upd_same] at hj
    rw [Hp.upd_same, hj]
  · rw [bdH, Hp.upd_ne _ _ hji] at hj
    rw [Hp.upd_ne _ _ hji]
    by_cases hjx : j = ⟨1, 6 :: 2 :: k, 5⟩
    · subst hjx
      rw [Hp.upd_same]
      have : ∀ tk', tk' = .nil ∨ tk' = .tok ⟨1, 6 :: 2 :: k, 5⟩ → tokUp H0 tk' ⟨1, 6 :: 2 :: k, 5⟩ = some e → some Ent.tok = some e := fun tk' h h2 => by
        rcases h with rfl | rfl
        · have h3 : H0 ⟨1, 6 :: 2 :: k, 5⟩ = some e := h2
          rw [hno] at h3; cases h3
        · rw [tokUp, Hp.upd_same] at h2; exact h2
      refine this _ ?_ hj
      cases tk with
      | none => exact htk.elim
      | full => exact htk.elim
      | nil => cases bytesA t with
        | nil => exact .inl rfl
        | cons b l => exact .inr rfl
      | tok t0 => exact .inr rfl
    · rw [Hp.upd_ne _ _ hjx]
      have hj0 : H0 j = some e := by
        have : ∀ tk', tk' = .nil ∨ tk' = .tok ⟨1, 6 :: 2 :: k, 5⟩ → tokUp H0 tk' j = some e → H0 j = some e := fun tk' h h2 => by
          rcases h with rfl | rfl
          · exact h2
          · rwa [tokUp, Hp.upd_ne _ _ hjx] at h2
        refine this _ ?_ hj
        cases tk with
        | none => exact htk.elim
        | full => exact htk.elim
        | nil => cases bytesA t with
          | nil => exact .inl rfl
          | cons b l => exact .inr rfl
        | tok t0 => exact .inr rfl
      have h2 := hle _ _ (bdH_at hji htk hj0)
      cases tk with
      | none => exact htk.elim
      | full => exact htk.elim
      | nil => exact (Hp.upd_ne _ _ hji).trans h2
      | tok t0 =>
        have hjt : j ≠ t0 := fun e => by have := htk.2.2; rw [← e, hj0] at this; cases this
        rw [killTok, Hp.upd_ne _ _ hjt, Hp.upd_ne _ _ hji]
        exact h2
theorem BdAt.upd {H0 H : Hp} {id X : Id} {s : ByteArray} {e : Option Ent} (h : BdAt H0 id s H) (h1 : X.sz ≠ 1) (h2 : X.sz ≠ 2) (h0 : H0 X = none) : BdAt H0 id s (H.upd X e) := by
  obtain ⟨⟨hz, hy⟩, p, tk, hp, htk, hle⟩ := h
  refine ⟨⟨hz, hy⟩, p, tk, hp, htk, Hp.le_upd hle ?_⟩
  have hX : X ≠ id := fun e => h2 (by rw [e, hz])
  rw [bdH, Hp.upd_ne _ _ hX]
  cases tk with
  | tok t0 =>
    have hXt : X ≠ t0 := fun e => h1 (by rw [e]; exact htk.1)
    rw [tokUp, Hp.upd_ne _ _ hXt, h0]
  | _ => exact h0
theorem BdAt.ex {H0 : Hp} {id : Id} (hz : id.sz = 2) (hy : id.ty = 37) {k : List Nat} (h0 : ∀ i : Id, k <:+ i.key → H0 i = none) (s : ByteArray) : ∃ H', BdAt H0 id s H' :=
  ⟨bdH H0 id (.ptr id 0) (.tok ⟨1, k, 5⟩) s, ⟨hz, hy⟩, .ptr id 0, .tok ⟨1, k, 5⟩, .inr rfl, ⟨rfl, rfl, h0 _ (List.suffix_refl _)⟩, Hp.Le.refl _⟩
/-- A new builder. -/
theorem BdAt.new {H0 : Hp} {id : Id} (hz : id.sz = 2) (hy : id.ty = 37) (h0 : H0 id = none) : BdAt H0 id .empty (H0.upd id (some (.cells [.raw (.pointer none), .list .nil []]))) :=
  ⟨⟨hz, hy⟩, _, .nil, .inl rfl, rfl, Hp.Le.refl _⟩
theorem BdAt.le {H0 H : Hp} {id : Id} {s : ByteArray} (h : BdAt H0 id s H) (h0 : H0 id = Option.none) : H0.Le H := by
  obtain ⟨_, p, tk, _, htk, hle⟩ := h
  intro j e hj
  exact hle _ _ (bdH_at (fun e => by rw [e, h0] at hj; cases hj) htk hj)
theorem len_call (id : Id) {H0 : Hp} {s : ByteArray} (hb : BdAt H0 id s H) : CallAt Tryd.prog w0 k 12 [.ptr id 0] H H (.int .i64 s.size) := by
  obtain ⟨⟨hz, hy⟩, p, tk, hp, htk, hle⟩ := hb
  have hH : H id = some (.cells [p, .list tk (bytesA s)]) := hle _ _ (Hp.upd_same _ _ _)
  refine callAt tabOk Spec.no_ok mixed Tryd.func12 rfl rfl Tryd.results12 Tryd.ntmps12 (by simp) [] ?_
  intro hfr u hl ht
  simp only [At, Nat.reduceAdd] at ht
  simp (config := {contextual := true, maxSteps := 5000000}) only [go_sem, Nat.reduceAdd, Nat.reduceLT, Nat.reduceBEq, Nat.reduceSub, Nat.reduceMul, Nat.reduceLeDiff, Int.reduceToNat, Nat.reduceEqDiff, Nat.reduceMod, ht, hl, hH, hz, hy, Spec.no, bytesA_length]
theorem string_call (id : Id) {H0 : Hp} {s : ByteArray} (hb : BdAt H0 id s H) (h0 : H0 id = none) (hs : (s.size : Int) ≤ 9223372036854775807) : CallAt Tryd.prog w0 k 13 [.ptr id 0] H H0 (.str s) := by
  obtain ⟨⟨hz, hy⟩, p, tk, hp, htk, hle⟩ := hb
  have hH : H id = some (.cells [p, .list tk (bytesA s)]) := hle _ _ (Hp.upd_same _ _ _)
  have hlive := tokB_live hz htk hle
  refine callAt tabOk Spec.no_ok mixed Tryd.func13 rfl rfl Tryd.results13 Tryd.ntmps13 (by simp) [] ?_
  intro hfr u hl ht
  simp only [At, Nat.reduceAdd] at ht
  have hne0 : ∀ t0, tk = .tok t0 → H0 t0 = none := fun t0 e => by subst e; exact htk.2.2
  simp (config := {contextual := true, maxSteps := 5000000}) only [go_sem, Nat.reduceAdd, Nat.reduceLT, Nat.reduceBEq, Nat.reduceSub, Nat.reduceMul, Nat.reduceLeDiff, Int.reduceToNat, Nat.reduceEqDiff, Nat.reduceMod, ht, hl, hH, hz, hy, Spec.no, bytesA_length]
  refine ⟨by kernel_rfl, ?_, hs, ?_, by (refine pw_of ?_; (repeat' (first | exact trivial | apply And.intro)); all_goals (first | exact .inr rfl | exact .inr trivial | exact .inl (by kernel_rfl))), fun j e hj => ?_⟩
  · cases tk with
    | nil => exact .inl rfl
    | tok t0 => exact .inr (.inr ⟨t0, rfl, hlive.1⟩)
    | none => exact htk.elim
    | full => exact htk.elim
  · cases tk with
    | nil => exact .inl (by rw [show s = .empty from htk]; rfl)
    | tok t0 => exact .inr ⟨by kernel_rfl, t0, rfl, hlive.1, htk.2.1, htk.1⟩
    | none => exact htk.elim
    | full => exact htk.elim
  · have hji : j ≠ id := fun e => by rw [e, h0] at hj; cases hj
    have h2 := hle _ _ (bdH_at hji htk hj)
    cases tk with
    | tok t0 =>
      have hjt : j ≠ t0 := fun e => by rw [e, hne0 t0 rfl] at hj; cases hj
      rw [killTok, Hp.upd_ne _ _ hjt]
      exact h2
    | _ => exact h2
end Go.Proofs.YtkdendaohlnlcaaDoor.Av
