/- A unit's text, in plain words. No condition. -/
import Derived.Test.YtkdendaohlnlcaaDoorP03b
import Derived.Test.YtkdendaohlnlcaaDoorP09b
namespace Go.Proofs.YtkdendaohlnlcaaDoor.Av
set_option linter.unusedVariables false
set_option linter.unusedSimpArgs false
set_option maxRecDepth 4000
set_option maxHeartbeats 1000000
/-- What stands for some things up to the number i, one behind the other. -/
def upTo {α : Type} (f : Nat → α → List UInt8) (l : List α) : Nat → List UInt8
  | 0 => []
  | i + 1 => upTo f l i ++ (match l[i]? with | some x => f i x | none => [])
theorem upTo_succ {α : Type} {f : Nat → α → List UInt8} {l : List α} {i : Nat} {x : α} (h : l[i]? = some x) : upTo f l (i + 1) = upTo f l i ++ f i x := by rw [upTo, h]
theorem upTo_mono {α : Type} (f : Nat → α → List UInt8) (l : List α) : ∀ (n i : Nat), (upTo f l i).length ≤ (upTo f l (i + n)).length
  | 0, i => Nat.le_refl _
  | n + 1, i => by
    have := upTo_mono f l n i
    rw [show i + (n + 1) = (i + n) + 1 by omega, upTo, List.length_append]
    omega
theorem upTo_le {α : Type} (f : Nat → α → List UInt8) (l : List α) (i : Nat) (h : i ≤ l.length) : (upTo f l i).length ≤ (upTo f l l.length).length := by
  have := upTo_mono f l (l.length - i) i
  rwa [show i + (l.length - i) = l.length by omega] at this
theorem upTo_len {α : Type} (f : Nat → α → List UInt8) (l : List α) (b : Nat) (h : ∀ i x, l[i]? = some x → (f i x).length ≤ b) : ∀ i, (upTo f l i).length ≤ i * b
  | 0 => by simp [upTo]
  | i + 1 => by
    have := upTo_len f l b h i
    rw [upTo, List.length_append, Nat.succ_mul]
    split
    · rename_i x hx
      have := h i x hx
      omega
    · simp; omega
theorem upTo_flat {α : Type} (g : α → List UInt8) (l : List α) : ∀ i, upTo (fun _ x => g x) l i = ((l.take i).map g).flatten
  | 0 => by simp [upTo]
  | i + 1 => by
    rw [upTo, upTo_flat g l i, List.take_add_one]
    cases l[i]? <;> simp
def Step.txt (s : Step) : List UInt8 :=
  if s.by_ = 1 then [97, 120, 105, 111, 109, 32] ++ Lib.itoa s.a
  else if s.by_ = 2 then [100, 101, 116, 97, 99, 104, 32] ++ Lib.itoa s.a ++ [32] ++ Lib.itoa s.b
  else if s.by_ = 3 then [103, 101, 110, 32] ++ Lib.itoa s.a ++ [32, 120] ++ Lib.itoa s.b
  else [99, 105, 116, 101, 32] ++ L s.cite
def Step.line (i : Nat) (s : Step) : List UInt8 := Lib.itoa (i + 1 : Nat) ++ [32] ++ s.says.txt ++ [32, 58, 32] ++ s.txt ++ [10]
def U.names (u : U) (i : Nat) : List UInt8 := [99, 105, 116, 101, 115] ++ upTo (fun _ n => [32] ++ L n) u.cites i
def U.head (u : U) : List UInt8 := u.names u.cites.length ++ [10, 115, 116, 97, 116, 101, 115, 32] ++ u.states.txt ++ [10]
def U.part (u : U) (i : Nat) : List UInt8 := u.head ++ upTo Step.line u.steps i
def U.txt (u : U) : List UInt8 := u.part u.steps.length
def U.printE (u : U) : Int := if u.right = 0 then (if 20000 < u.txt.length then 2 else 0) else u.right
def U.printT (u : U) : List UInt8 := if u.printE = 0 then u.txt else []
/-- What holds of a right step, a right unit. -/
def Step.good (s : Step) : Prop := s.fine = true ∧ s.cite.size ≤ 12 ∧ s.says.right = 0 ∧ s.says.sz ≤ 300
theorem written_zero {e : E} (h : e.written = 0) : e.right = 0 ∧ e.sz ≤ 300 ∧ e.dp ≤ 30 ∧ e.term = false := by
  unfold E.written at h
  split at h
  · rename_i hw
    split at h
    · cases h
    · split at h
      · cases h
      · unfold E.wantF at hw
        split at hw
        · rename_i hr
          split at hw
          · cases hw
          · rename_i ht
            exact ⟨hr, by omega, by omega, by simpa using ht⟩
        · exact absurd hw (by assumption)
  · rename_i hw
    exact absurd h hw
theorem why_zero {s : Step} (h : s.why = 0) : s.fine = true ∧ (s.by_ = 4 → isName s.cite = true) := by
  unfold Step.why at h
  split at h
  · rename_i hf
    refine ⟨hf, fun h4 => ?_⟩
    split at h
    · cases h
    · rename_i hn
      cases hh : isName s.cite with
      | true => rfl
      | false => exact absurd ⟨h4, hh⟩ hn
  · cases h
theorem name_len {s : ByteArray} (h : isName s = true) : s.size ≤ 12 := by
  simp only [isName, decide_eq_true_eq] at h
  exact h.2.1
theorem e0_size {s : ByteArray} (h : e0 s = true) : s.size = 0 := by
  obtain ⟨⟨l⟩⟩ := s
  simp [e0] at h
  simp [ByteArray.size, h]
theorem cite_len {s : Step} (h : s.fine = true) (h4 : s.by_ = 4 → s.cite.size ≤ 12) : s.cite.size ≤ 12 := by
  unfold Step.fine at h
  (repeat' split at h)
  · simp only [Bool.and_eq_true] at h
    have := e0_size h.2.2
    omega
  · simp only [Bool.and_eq_true] at h
    have := e0_size h.2.2
    omega
  · simp only [Bool.and_eq_true] at h
    have := e0_size h.2.2.2
    omega
  · rename_i hb
    exact h4 hb
  · cases h
theorem stepsGo_zero : ∀ (l : List Step) (i : Nat), stepsGo i l = 0 → (l = [] ∨ i + l.length ≤ 60) ∧ ∀ s ∈ l, s.why = 0 ∧ s.says.written = 0
  | [], i, _ => ⟨.inl rfl, fun s hs => by cases hs⟩
  | s :: l, i, h => by
    unfold stepsGo at h
    split at h
    · cases h
    · split at h
      · rename_i h6 hw
        split at h
        · rename_i hs
          obtain ⟨h1, h2⟩ := stepsGo_zero l (i + 1) h
          refine ⟨.inr ?_, fun x hx => ?_⟩
          · rcases h1 with rfl | h1
            · simp; omega
            · simp only [List.length_cons]; omega
          · rcases List.mem_cons.1 hx with rfl | hx
            · exact ⟨hw, hs⟩
            · exact h2 x hx
        · rename_i hs
          exact absurd h hs
      · rename_i hw
        exact absurd h hw
theorem namesGo_zero : ∀ (l had : List ByteArray), namesGo had l = 0 → (l = [] ∨ had.length + l.length ≤ 8) ∧ ∀ s ∈ l, isName s = true
  | [], had, _ => ⟨.inl rfl, fun s hs => by cases hs⟩
  | s :: l, had, h => by
    unfold namesGo at h
    split at h
    · rename_i hn
      split at h
      · cases h
      · split at h
        · cases h
        · obtain ⟨h1, h2⟩ := namesGo_zero l _ h
          simp only [List.length_append, List.length_cons, List.length_nil] at h1
          refine ⟨.inr ?_, fun x hx => ?_⟩
          · rcases h1 with rfl | h1
            · simp; omega
            · simp only [List.length_cons]; omega
          · rcases List.mem_cons.1 hx with rfl | hx
            · exact hn
            · exact h2 x hx
    · cases h
structure U.good (u : U) : Prop where
  c8 : u.cites.length ≤ 8
  names : ∀ s ∈ u.cites, isName s = true
  states : u.states.right = 0 ∧ u.states.sz ≤ 300
  s60 : u.steps.length ≤ 60
  s1 : 1 ≤ u.steps.length
  steps : ∀ s ∈ u.steps, s.good
theorem U.good_of {u : U} (h : u.right = 0) : u.good := by
  unfold U.right at h
  split at h
  · rename_i hn
    split at h
    · rename_i hs
      split at h
      · cases h
      · rename_i hl
        obtain ⟨h1, h2⟩ := namesGo_zero _ _ hn
        obtain ⟨h3, h4⟩ := stepsGo_zero _ _ h
        obtain ⟨a, b, _⟩ := written_zero hs
        refine ⟨?_, h2, ⟨a, b⟩, ?_, by omega, fun s hs => ?_⟩
        · rcases h1 with h1 | h1
          · rw [h1]; simp
          · simpa using h1
        · rcases h3 with h3 | h3
          · rw [h3]; simp
          · simpa using h3
        · obtain ⟨hw, hr⟩ := h4 s hs
          obtain ⟨h5, h6⟩ := why_zero hw
          obtain ⟨a, b, _⟩ := written_zero hr
          exact ⟨h5, cite_len h5 fun h => name_len (h6 h), a, b⟩
    · rename_i hs
      exact absurd h hs
  · rename_i hn
    exact absurd h hn
theorem fine_nums {s : Step} (h : s.fine = true) : (s.by_ = 1 ∨ s.by_ = 2 ∨ s.by_ = 3 ∨ s.by_ = 4) ∧ 0 ≤ s.a ∧ s.a ≤ 999999999 ∧ 0 ≤ s.b ∧ s.b ≤ 999999999 := by
  unfold Step.fine number at h
  (repeat' split at h) <;> simp only [Bool.and_eq_true, decide_eq_true_eq, beq_iff_eq, Bool.false_eq_true] at h <;> omega
theorem Step.txt_len {s : Step} (h : s.good) : s.txt.length ≤ 60 := by
  obtain ⟨h1, h2, _⟩ := h
  obtain ⟨h3, h4⟩ := fine_nums h1
  have ha := Lib.itoa_length_le s.a (by omega) (by omega)
  have hb := Lib.itoa_length_le s.b (by omega) (by omega)
  have hc := L_length s.cite
  unfold Step.txt
  (repeat' split) <;> simp only [List.length_append, List.length_cons, List.length_nil] <;> omega
theorem Step.line_len {s : Step} (h : s.good) (i : Nat) (hi : i < 60) : (s.line i).length ≤ 20000 := by
  have h1 := s.txt_len h
  have h2 := E.txt_len s.says (right_zero h.2.2.1).2.2
  have h3 := h.2.2.2
  have h4 := Lib.itoa_length_le ((i + 1 : Nat) : Int) (by omega) (by omega)
  simp only [Step.line, List.length_append, List.length_cons, List.length_nil]
  omega
theorem U.names_len {u : U} (h : u.good) (i : Nat) (hi : i ≤ u.cites.length) : (u.names i).length ≤ 200 := by
  have h8 := h.c8
  have := upTo_len (fun _ n => [32] ++ L n) u.cites 13 (fun j x hx => by
    have := name_len (h.names x (List.mem_of_getElem? hx))
    have := L_length x
    simp only [List.length_append, List.length_cons, List.length_nil]
    omega) i
  simp only [U.names, List.length_append, List.length_cons, List.length_nil]
  omega
theorem U.head_len {u : U} (h : u.good) : u.head.length ≤ 20000 := by
  have h1 := u.names_len h _ (Nat.le_refl _)
  have h2 := E.txt_len u.states (right_zero h.states.1).2.2
  have := h.states.2
  simp only [U.head, List.length_append, List.length_cons, List.length_nil]
  omega
theorem U.part_len {u : U} (h : u.good) (i : Nat) (hi : i ≤ 60) : (u.part i).length ≤ 2000000 := by
  have h1 := u.head_len h
  have h2 := upTo_len Step.line u.steps 20000 (fun j x hx => Step.line_len (h.steps x (List.mem_of_getElem? hx)) j (by
    have := (List.getElem?_eq_some_iff.1 hx).1
    have := h.s60
    omega)) i
  simp only [U.part, List.length_append]
  omega
theorem U.part_le {u : U} (i : Nat) (hi : i ≤ u.steps.length) : (u.part i).length ≤ u.txt.length := by
  have := upTo_le Step.line u.steps i hi
  simp only [U.txt, U.part, List.length_append]
  omega
end Go.Proofs.YtkdendaohlnlcaaDoor.Av
