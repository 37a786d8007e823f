/- What is known of functions, kept as a list; arguments are read as plain data. No condition. -/
import Derived.Test.YtkdendaohlnlcaaDoorAv14
namespace Go.Proofs.YtkdendaohlnlcaaDoor.Av
set_option linter.unusedVariables false
set_option linter.unusedSimpArgs false
set_option maxRecDepth 4000
set_option maxHeartbeats 1000000

/-- Pairs, one by one. -/
def allR {α : Type} (R : α → α → Prop) (x : α) : List α → Prop
  | [] => True
  | y :: l => R x y ∧ allR R x l
def pwAll {α : Type} (R : α → α → Prop) : List α → Prop
  | [] => True
  | x :: l => allR R x l ∧ pwAll R l
theorem allR_mem {α : Type} {R : α → α → Prop} {x : α} : ∀ {l : List α}, allR R x l → ∀ y ∈ l, R x y
  | [], _, y, hy => by cases hy
  | z :: l, h, y, hy => by
    rcases List.mem_cons.1 hy with rfl | hy
    · exact h.1
    · exact allR_mem h.2 y hy
theorem pw_of {α : Type} {R : α → α → Prop} : ∀ {l : List α}, pwAll R l → l.Pairwise R
  | [], _ => List.Pairwise.nil
  | x :: l, h => List.Pairwise.cons (allR_mem h.1) (pw_of h.2)
theorem CallAt.weakL {P : Program} {w0 : Base} {k : List Nat} {f : FuncId} {args args' : List AV} {H H' : Hp} {v : AV} (h : CallAt P w0 k f args' H H' v) (hw : WeakL args args') : CallAt P w0 k f args H H' v := h.weak fun G V hr => hw.rep hr

/-- How plain data lie in values, and how they are read off. -/
structure Dec (α : Type) where
  dec : AV → Option α
  enc : α → AV
  ok : ∀ a x, dec a = some x → Weak a (enc x)

abbrev Ans := List AV → Option (Prop × AV)
def Spec.no : Spec := fun _ _ => none
def Spec.add (S : Spec) (f : FuncId) (d : Ans) : Spec := fun g as_ => bif g == f then d as_ else S g as_
@[go_sem] theorem Spec.add_at {S : Spec} {f g : FuncId} {d : Ans} {l : List AV} : S.add f d g l = bif g == f then d l else S g l := rfl

def AnsOk (P : Program) (w0 : Base) (f : FuncId) (d : Ans) : Prop := ∀ l φ v, d l = some (φ, v) → φ → ∀ k H, CallAt P w0 k f l H H v
section
variable {P : Program} {w0 : Base}
theorem Spec.no_ok : SpecOk P w0 Spec.no := fun _ _ _ _ h => by cases h
theorem SpecOk.add {S : Spec} (h : SpecOk P w0 S) {f : FuncId} {d : Ans} (hd : AnsOk P w0 f d) : SpecOk P w0 (S.add f d) := by
  intro g l φ v e hφ k H
  unfold Spec.add at e
  cases hg : g == f with
  | true =>
    rw [hg] at e
    obtain rfl : g = f := by simpa using hg
    exact hd l φ v e hφ k H
  | false =>
    rw [hg] at e
    exact h g l φ v e hφ k H
end
section
variable {α β γ δ : Type}
def sp1 (A : Dec α) (φ : α → Prop) (v : α → AV) : Ans
  | [a] => (A.dec a).bind fun x => some (φ x, v x)
  | _ => none
def sp2 (A : Dec α) (B : Dec β) (φ : α → β → Prop) (v : α → β → AV) : Ans
  | [a, b] => (A.dec a).bind fun x => (B.dec b).bind fun y => some (φ x y, v x y)
  | _ => none
def sp3 (A : Dec α) (B : Dec β) (C : Dec γ) (φ : α → β → γ → Prop) (v : α → β → γ → AV) : Ans
  | [a, b, c] => (A.dec a).bind fun x => (B.dec b).bind fun y => (C.dec c).bind fun z => some (φ x y z, v x y z)
  | _ => none
def sp4 (A : Dec α) (B : Dec β) (C : Dec γ) (D : Dec δ) (φ : α → β → γ → δ → Prop) (v : α → β → γ → δ → AV) : Ans
  | [a, b, c, d] => (A.dec a).bind fun x => (B.dec b).bind fun y => (C.dec c).bind fun z => (D.dec d).bind fun u => some (φ x y z u, v x y z u)
  | _ => none
variable {A : Dec α} {B : Dec β} {C : Dec γ} {D : Dec δ}
@[go_sem] theorem sp1_at {φ : α → Prop} {v : α → AV} {a : AV} : sp1 A φ v [a] = (A.dec a).bind fun x => some (φ x, v x) := rfl
@[go_sem] theorem sp2_at {φ : α → β → Prop} {v : α → β → AV} {a b : AV} : sp2 A B φ v [a, b] = (A.dec a).bind fun x => (B.dec b).bind fun y => some (φ x y, v x y) := rfl
@[go_sem] theorem sp3_at {φ : α → β → γ → Prop} {v : α → β → γ → AV} {a b c : AV} : sp3 A B C φ v [a, b, c] = (A.dec a).bind fun x => (B.dec b).bind fun y => (C.dec c).bind fun z => some (φ x y z, v x y z) := rfl
@[go_sem] theorem sp4_at {φ : α → β → γ → δ → Prop} {v : α → β → γ → δ → AV} {a b c d : AV} : sp4 A B C D φ v [a, b, c, d] = (A.dec a).bind fun x => (B.dec b).bind fun y => (C.dec c).bind fun z => (D.dec d).bind fun u => some (φ x y z u, v x y z u) := rfl
variable {P : Program} {w0 : Base} {f : FuncId}
theorem sp1_ok {φ : α → Prop} {v : α → AV} (h : ∀ x, φ x → ∀ k H, CallAt P w0 k f [A.enc x] H H (v x)) : AnsOk P w0 f (sp1 A φ v) := by
  intro l ψ u e hψ k H
  unfold sp1 at e
  split at e
  · simp only [Option.bind_eq_some_iff] at e
    obtain ⟨x, hx, e⟩ := e
    cases e
    exact (h x hψ k H).weakL ⟨_, _, rfl, A.ok _ _ hx, rfl⟩
  · cases e
theorem sp2_ok {φ : α → β → Prop} {v : α → β → AV} (h : ∀ x y, φ x y → ∀ k H, CallAt P w0 k f [A.enc x, B.enc y] H H (v x y)) : AnsOk P w0 f (sp2 A B φ v) := by
  intro l ψ u e hψ k H
  unfold sp2 at e
  split at e
  · simp only [Option.bind_eq_some_iff] at e
    obtain ⟨x, hx, y, hy, e⟩ := e
    cases e
    exact (h x y hψ k H).weakL ⟨_, _, rfl, A.ok _ _ hx, _, _, rfl, B.ok _ _ hy, rfl⟩
  · cases e
theorem sp3_ok {φ : α → β → γ → Prop} {v : α → β → γ → AV} (h : ∀ x y z, φ x y z → ∀ k H, CallAt P w0 k f [A.enc x, B.enc y, C.enc z] H H (v x y z)) : AnsOk P w0 f (sp3 A B C φ v) := by
  intro l ψ u e hψ k H
  unfold sp3 at e
  split at e
  · simp only [Option.bind_eq_some_iff] at e
    obtain ⟨x, hx, y, hy, z, hz, e⟩ := e
    cases e
    exact (h x y z hψ k H).weakL ⟨_, _, rfl, A.ok _ _ hx, _, _, rfl, B.ok _ _ hy, _, _, rfl, C.ok _ _ hz, rfl⟩
  · cases e
theorem sp4_ok {φ : α → β → γ → δ → Prop} {v : α → β → γ → δ → AV} (h : ∀ x y z o, φ x y z o → ∀ k H, CallAt P w0 k f [A.enc x, B.enc y, C.enc z, D.enc o] H H (v x y z o)) : AnsOk P w0 f (sp4 A B C D φ v) := by
  intro l ψ u e hψ k H
  unfold sp4 at e
  split at e
  · simp only [Option.bind_eq_some_iff] at e
    obtain ⟨x, hx, y, hy, z, hz, o, ho, e⟩ := e
    cases e
    exact (h x y z o hψ k H).weakL ⟨_, _, rfl, A.ok _ _ hx, _, _, rfl, B.ok _ _ hy, _, _, rfl, C.ok _ _ hz, _, _, rfl, D.ok _ _ ho, rfl⟩
  · cases e
end

def dI : Dec Int where
  dec := fun a => match a with
    | .raw (.int .i64 n) => some n
    | _ => none
  enc := .int .i64
  ok := fun a x h => by
    split at h
    · cases h
      exact Weak.refl _
    · cases h
def dC : Dec Int where
  dec := fun a => match a with
    | .raw (.int .u8 n) => some n
    | _ => none
  enc := .int .u8
  ok := fun a x h => by
    split at h
    · cases h
      exact Weak.refl _
    · cases h
def dB : Dec Bool where
  dec := fun a => match a with
    | .raw (.bool n) => some n
    | _ => none
  enc := .bool
  ok := fun a x h => by
    split at h
    · cases h
      exact Weak.refl _
    · cases h
def dS : Dec ByteArray where
  dec := fun a => match a with
    | .raw (.string n) => some n
    | _ => none
  enc := .str
  ok := fun a x h => by
    split at h
    · cases h
      exact Weak.refl _
    · cases h
@[go_sem] theorem dI_at {n : Int} : dI.dec (.raw (.int .i64 n)) = some n := rfl
@[go_sem] theorem dC_at {n : Int} : dC.dec (.raw (.int .u8 n)) = some n := rfl
@[go_sem] theorem dB_at {n : Bool} : dB.dec (.raw (.bool n)) = some n := rfl
@[go_sem] theorem dS_at {n : ByteArray} : dS.dec (.raw (.string n)) = some n := rfl
end Go.Proofs.YtkdendaohlnlcaaDoor.Av
