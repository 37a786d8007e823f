/- Regions: what a list of operations does in the text's order it does in every order that its edges allow. No condition. -/
import Derived.Test.YtkdendaohlnlcaaDoorAvS
import Derived.OrdersIn
import Derived.RangeFuncCalls
namespace Go.Proofs.YtkdendaohlnlcaaDoor.Av
set_option linter.unusedVariables false
set_option linter.unusedSimpArgs false
open Go.RowKit

/-- What an operation did: it answered; it read a variable; it made one heap of another. -/
inductive Ev where
  | val (v : AV)
  | rd (id : Id) (c : List AV) (v : AV)
  | eff (H H' : Hp) (v : AV)

def Ev.out : Ev → AV
  | .val v => v
  | .rd _ _ v => v
  | .eff _ _ v => v
def Ev.pre (H : Hp) : Ev → Prop
  | .val _ => True
  | .rd id c _ => H id = some (.cells c)
  | .eff H1 _ _ => H = H1
def Ev.post (H : Hp) : Ev → Hp
  | .eff _ H2 _ => H2
  | _ => H

/-- The wide fence, in a round or not. -/
def fz (ro : Option Nat) : Fence := { Fence.wide with round := ro }
theorem calls_fz {P : Program} {ro : Option Nat} {n : Nat} {f : FuncId} {args : Array Value} {w : World} {R : Ending → World → Prop} (h : Calls P f args w R) : CallsIn (fz ro) n P f args w R := by
  cases ro with
  | none => exact callsIn_wide.2 h
  | some l => exact CallsIn.inRound l (callsIn_wide.2 h)
theorem rows_fz {P : Program} {ro : Option Nat} {n : Nat} {row : String} {args : Array Value} {w : World} {R : Value → World → Prop} (h : Rows P row args w R) : RowsIn (fz ro) n P row args w R :=
  fun c cs _ => let ⟨v, w', r, s⟩ := h c cs; ⟨v, w', r, stepsIn_wide.2 s⟩
theorem wpIn_of_wp {P : Program} {ro : Option Nat} {o : Oper} {a : Act} {w : World} {K : Act → World → Prop} {Q : Exit → Act → World → Prop} (hd : ∀ c, o.op ≠ .defer c) (h : o.wp P a w K Q) : o.wpIn (fz ro) 0 P a w K Q := by
  refine ⟨fun _ _ => trivial, ?_⟩
  rw [Oper.semAt_eq _ _ _ hd]
  unfold Oper.wp at h
  generalize (execOp a.eval o).run P w = r at h
  cases r with
  | ok x w' =>
    cases x <;> simp only [Oper.upon, Oper.uponIn] at h ⊢ <;>
      first
        | exact h
        | exact ⟨(fun hh => by cases hh), (calls_fz h).mono fun e w'' he => by cases e <;> exact he⟩
        | exact ⟨(fun hh => by cases hh), rows_fz h⟩
  | halt x w' => cases x <;> simp only [Oper.upon, Oper.uponIn] at h ⊢ <;> exact h

/-- 'OpOk', in a round or not. -/
def OpIn (P : Program) (w0 : Base) (k : List Nat) (o : Oper) (ρ : Operand → AV) (H H' : Hp) (v : AV) : Prop :=
  ∀ (G : Gh) (w : World) (a : Act), Sim w0 G H w → Fresh G k → (∀ x ∈ o.op.operands.toList, Rep G (ρ x) (a.eval x)) →
    ∀ (K : Act → World → Prop) (Q : Exit → Act → World → Prop), (∀ G' w' V, G.Le G' → New k G G' → Sim w0 G' H' w' → Rep G' v V → K (a.put o.dst V) w') → ∀ ro, o.wpIn (fz ro) 0 P a w K Q
theorem OpOk.in_ {P : Program} {w0 : Base} {k : List Nat} {o : Oper} {ρ : Operand → AV} {H H' : Hp} {v : AV} (h : OpOk P w0 k o ρ H H' v) (hd : ∀ c, o.op ≠ .defer c) : OpIn P w0 k o ρ H H' v :=
  fun G w a hs hf hr K Q hK ro => wpIn_of_wp hd (h G w a hs hf hr K Q hK)

structure S where
  tmps : List AV
  H : Hp

def putA (tmps : List AV) (dst : Option Tmp) (v : AV) : List AV :=
  match dst with
  | some d => tmps.set d v
  | none => tmps

structure TE where
  i : Nat
  o : Oper
  ev : Ev

section
variable (P : Program) (w0 : Base)

def EvOk (k : List Nat) (o : Oper) (ρ : Operand → AV) : Ev → Prop
  | .val v => ∀ H, OpIn P w0 k o ρ H H v
  | .rd id c v => ∀ H, H id = some (.cells c) → OpIn P w0 k o ρ H H v
  | .eff H H' v => OpIn P w0 k o ρ H H' v

/-- Is the operation wanted, by its guard? -/
def wantA (ops : Array Oper) (tmps : List AV) (o : Oper) (g : Bool) : Prop :=
  match o.guard with
  | none => g = true
  | some (j, want) => ∃ d, ((ops[j]?).bind (·.dst)) = some d ∧ d < tmps.length ∧ ((∃ t, tmps.getD d AV.undef = .raw (.bool t) ∧ g = (t == want)) ∨ (tmps.getD d AV.undef = AV.undef ∧ g = false))

def StepOk (ops : Array Oper) (kp : List Nat) (x : TE) (s s' : S) : Prop :=
  ∃ g, wantA ops s.tmps x.o g ∧ (g = true → EvOk P w0 (x.i :: kp) x.o (evA s.tmps) x.ev) ∧ (g = false → x.ev = .val AV.undef) ∧ x.ev.pre s.H ∧ s' = ⟨putA s.tmps x.o.dst x.ev.out, x.ev.post s.H⟩

def Run (ops : Array Oper) (kp : List Nat) : List TE → S → S → Prop
  | [], s, s' => s' = s
  | x :: rest, s, s' => ∃ s1, StepOk P w0 ops kp x s s1 ∧ Run ops kp rest s1 s'
end

section
variable {P : Program} {w0 : Base} {ops : Array Oper} {kp : List Nat}

theorem wanted_of {G : Gh} {tmps : List AV} {a : Act} {o : Oper} {g : Bool} (hr : RepL G tmps a.tmps.toList) (h : wantA ops tmps o g) : Region.wanted o (yielded ops a.tmps) = g := by
  unfold wantA at h
  unfold Region.wanted
  split at h
  · rename_i hg
    rw [hg]
    exact h.symm
  · rename_i j want hg
    obtain ⟨d, h1, h2, h3⟩ := h
    rw [hg]
    have h4 := hr.get_lt d Go.undef h2
    have hl := hr.size
    have hd : d < a.tmps.size := by rw [← hl]; exact h2
    rcases h3 with ⟨t, h3, rfl⟩ | ⟨h3, rfl⟩
    · rw [h3] at h4
      simp only [Rep] at h4
      have h5 : a.tmps[d]? = some (.bool t) := by
        rw [List.getD_eq_getElem?_getD] at h4
        simpa [hd] using h4
      simp only [yielded, h1, Option.bind_some, h5]
      cases t <;> cases want <;> rfl
    · rw [h3] at h4
      simp only [Rep] at h4
      have h5 : a.tmps[d]? = some Go.undef := by
        rw [List.getD_eq_getElem?_getD] at h4
        simpa [hd] using h4
      simp only [yielded, h1, Option.bind_some, h5]
      cases want <;> rfl

theorem putA_length (tmps : List AV) (dst : Option Tmp) (v : AV) : (putA tmps dst v).length = tmps.length := by
  cases dst <;> simp [putA]

theorem rep_put {G : Gh} {tmps : List AV} {a : Act} {v : AV} {V : Value} (hr : RepL G tmps a.tmps.toList) (hv : Rep G v V) (dst : Option Tmp) : RepL G (putA tmps dst v) (a.put dst V).tmps.toList := by
  cases dst with
  | none => exact hr
  | some d => simpa [putA, Act.put] using hr.set hv d

theorem put_defers' (a : Act) (dst : Option Tmp) (V : Value) : (a.put dst V).defers = a.defers := by cases dst <;> rfl

/-- One operation, in the model. -/
theorem step_ok {x : TE} {s s1 : S} (h : StepOk P w0 ops kp x s s1) (hi : ops[x.i]? = some x.o) {G : Gh} {w : World} {a : Act} (hs : Sim w0 G s.H w) (hr : RepL G s.tmps a.tmps.toList) (hf : Fresh G (x.i :: kp))
    {K : Act → World → Prop} {Q : Exit → Act → World → Prop}
    (hK : ∀ G' a' w', G.Le G' → New (x.i :: kp) G G' → Sim w0 G' s1.H w' → RepL G' s1.tmps a'.tmps.toList → a'.defers = a.defers → K a' w') (ro : Option Nat) : wpOpIn (fz ro) 0 P ops Q x.i K a w := by
  obtain ⟨g, hg, h1, h2, hpre, rfl⟩ := h
  have hw := wanted_of hr hg
  unfold wpOpIn
  simp only [hi, hw]
  cases g with
  | true =>
    simp only [if_true]
    have hops : ∀ y ∈ x.o.op.operands.toList, Rep G (evA s.tmps y) (a.eval y) := fun y _ => rep_eval hr y
    have go : ∀ v H', OpIn P w0 (x.i :: kp) x.o (evA s.tmps) s.H H' v → (∀ G' w' V, G.Le G' → New (x.i :: kp) G G' → Sim w0 G' H' w' → Rep G' v V → K (a.put x.o.dst V) w') → x.o.wpIn (fz ro) 0 P a w K Q :=
      fun v H' hop hk => hop G w a hs hf hops K Q hk ro
    have h1 := h1 rfl
    generalize hev : x.ev = ev at h1 hpre hK
    cases ev with
    | val v => exact go v s.H (h1 s.H) fun G' w' V hl hn hs' hv => hK G' _ w' hl hn hs' (rep_put (RepL.mono hl _ _ hr) hv _) (put_defers' _ _ _)
    | rd id c v => exact go v s.H (h1 s.H hpre) fun G' w' V hl hn hs' hv => hK G' _ w' hl hn hs' (rep_put (RepL.mono hl _ _ hr) hv _) (put_defers' _ _ _)
    | eff H1 H2 v =>
      obtain rfl : s.H = H1 := hpre
      exact go v H2 h1 fun G' w' V hl hn hs' hv => hK G' _ w' hl hn hs' (rep_put (RepL.mono hl _ _ hr) hv _) (put_defers' _ _ _)
  | false =>
    simp only [Bool.false_eq_true, if_false]
    have h2 := h2 rfl
    rw [h2] at hK
    exact ⟨fun _ _ => trivial, hK G _ w (Gh.Le.refl G) (New.refl _ G) hs (rep_put hr (by simp [Rep, Ev.out]) _) (put_defers' _ _ _)⟩

/-! ### two operations that do not touch each other -/
def compat : Ev → Ev → Prop
  | .rd id _ _, .eff H H' _ => H' id = H id
  | .eff H H' _, .rd id _ _ => H' id = H id
  | .eff _ _ _, .eff _ _ _ => False
  | _, _ => True

theorem evA_put {tmps : List AV} {dst : Option Tmp} {v : AV} {x : Operand} (h : ∀ d, dst = some d → x ≠ .tmp d) : evA (putA tmps dst v) x = evA tmps x := by
  cases dst with
  | none => rfl
  | some d =>
    cases x with
    | tmp t =>
      have hne : d ≠ t := fun e => h d rfl (e ▸ rfl)
      simp [evA, putA, List.getD_eq_getElem?_getD, List.getElem?_set_ne hne]
    | _ => rfl

theorem OpIn.congr {k : List Nat} {o : Oper} {ρ ρ' : Operand → AV} {H H' : Hp} {v : AV} (h : OpIn P w0 k o ρ H H' v) (e : ∀ x ∈ o.op.operands.toList, ρ' x = ρ x) : OpIn P w0 k o ρ' H H' v :=
  fun G w a hs hf hr K Q hK => h G w a hs hf (fun x hx => by rw [← e x hx]; exact hr x hx) K Q hK
theorem EvOk.congr {k : List Nat} {o : Oper} {ρ ρ' : Operand → AV} {ev : Ev} (h : EvOk P w0 k o ρ ev) (e : ∀ x ∈ o.op.operands.toList, ρ' x = ρ x) : EvOk P w0 k o ρ' ev := by
  cases ev with
  | val v => exact fun H => (h H).congr e
  | rd id c v => exact fun H hH => (h H hH).congr e
  | eff H H' v => exact OpIn.congr h e

theorem operand_looks {o : Oper} {d : Tmp} (h : d ∉ o.looksAt ops) : ∀ x ∈ o.op.operands.toList, x ≠ .tmp d := fun x hx e => by
  subst e
  exact h (List.mem_append_left _ (List.mem_filterMap.2 ⟨.tmp d, hx, rfl⟩))

theorem wantA_put {tmps : List AV} {o : Oper} {dst : Option Tmp} {v : AV} {g : Bool} (hd : ∀ d, dst = some d → d ∉ o.looksAt ops) : wantA ops (putA tmps dst v) o g ↔ wantA ops tmps o g := by
  unfold wantA
  split
  · exact Iff.rfl
  · rename_i j want hg
    constructor
    all_goals
      rintro ⟨d, h1, h2, h3⟩
      have hne : ∀ e, dst = some e → e ≠ d := fun e he hed => hd e he (by subst hed; simp [Oper.looksAt, hg, h1])
      have e1 : (putA tmps dst v).getD d AV.undef = tmps.getD d AV.undef := by
        cases dst with
        | none => rfl
        | some e => simp [putA, List.getD_eq_getElem?_getD, List.getElem?_set_ne (hne e rfl)]
      rw [putA_length] at *
      first
        | exact ⟨d, h1, h2, by rw [← e1]; exact h3⟩
        | exact ⟨d, h1, h2, by rw [e1]; exact h3⟩

theorem putA_comm (tmps : List AV) {x y : Option Tmp} (v u : AV) (h : ∀ d, x = some d → y ≠ some d) : putA (putA tmps x v) y u = putA (putA tmps y u) x v := by
  cases x with
  | none => rfl
  | some d =>
    cases y with
    | none => rfl
    | some e =>
      have hne : d ≠ e := fun he => h d rfl (he ▸ rfl)
      simp [putA, List.set_comm _ _ hne]

theorem StepOk.swap {x y : TE} {s s1 s2 : S} (hap : x.o.apart ops y.o = true) (hc : compat x.ev y.ev) (h1 : StepOk P w0 ops kp x s s1) (h2 : StepOk P w0 ops kp y s1 s2) :
    ∃ s1', StepOk P w0 ops kp y s s1' ∧ StepOk P w0 ops kp x s1' s2 := by
  obtain ⟨a1, a2, a3⟩ := Oper.apart_spec hap
  obtain ⟨g, g1, g2, g3, g4, rfl⟩ := h1
  obtain ⟨f, f1, f2, f3, f4, rfl⟩ := h2
  have hyρ : ∀ z ∈ y.o.op.operands.toList, evA s.tmps z = evA (putA s.tmps x.o.dst x.ev.out) z := fun z hz => (evA_put fun d hd => operand_looks (a1 d hd) z hz).symm
  have hxρ : ∀ z ∈ x.o.op.operands.toList, evA (putA s.tmps y.o.dst y.ev.out) z = evA s.tmps z := fun z hz => evA_put fun d hd => operand_looks (a3 d hd) z hz
  refine ⟨⟨putA s.tmps y.o.dst y.ev.out, y.ev.post s.H⟩, ⟨f, (wantA_put fun d hd => a1 d hd).1 f1, fun hf => (f2 hf).congr hyρ, f3, ?_, rfl⟩, ⟨g, (wantA_put fun d hd => a3 d hd).2 g1, fun hg => (g2 hg).congr hxρ, g3, ?_, ?_⟩⟩
  · -- y's heap
    generalize hxe : x.ev = ex at hc f4
    generalize hye : y.ev = ey at hc f4
    cases ex <;> cases ey <;> simp only [Ev.pre, Ev.post, compat] at f4 hc ⊢ <;> try exact f4
    rename_i H1 H2 v id c u
    rw [hxe] at g4
    simp only [Ev.pre] at g4
    subst g4
    rw [← hc]
    exact f4
  · generalize hxe : x.ev = ex at hc f4 g4
    generalize hye : y.ev = ey at hc f4
    cases ex <;> cases ey <;> simp only [Ev.pre, Ev.post, compat] at f4 hc g4 ⊢ <;> try exact g4
    rename_i id c v H1 H2 u
    subst f4
    rw [hc]
    exact g4
  · simp only [S.mk.injEq]
    refine ⟨putA_comm _ _ _ a2, ?_⟩
    generalize x.ev = ex at hc
    generalize y.ev = ey at hc
    cases ex <;> cases ey <;> simp only [Ev.post, compat] at hc ⊢

/-- One that touches none of those ahead of it may come first. -/
theorem Run.front {x : TE} : ∀ (t1 : List TE) {t2 : List TE} {s s' : S}, (∀ y ∈ t1, y.o.apart ops x.o = true ∧ compat y.ev x.ev) → Run P w0 ops kp (t1 ++ x :: t2) s s' → Run P w0 ops kp (x :: (t1 ++ t2)) s s'
  | [], t2, s, s', _, h => h
  | y :: t1, t2, s, s', hc, h => by
    obtain ⟨s1, h1, h2⟩ := h
    obtain ⟨s2, h3, h4⟩ := Run.front t1 (fun z hz => hc z (by simp [hz])) h2
    obtain ⟨s1', h5, h6⟩ := StepOk.swap (hc y (by simp)).1 (hc y (by simp)).2 h1 h3
    exact ⟨s1', h5, s2, h6, h4⟩

end
end Go.Proofs.YtkdendaohlnlcaaDoor.Av
