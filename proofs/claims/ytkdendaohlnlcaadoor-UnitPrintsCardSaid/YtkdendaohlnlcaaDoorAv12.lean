/- What is to be shown of a function's text, computed from the text; and that this is enough. No condition. -/
import Derived.Test.YtkdendaohlnlcaaDoorAv11
import Derived.RangeFuncSeq
import Derived.LoopN
import Derived.Scope
import Derived.Tactics
namespace Go.Proofs.YtkdendaohlnlcaaDoor.Av
set_option linter.unusedVariables false
set_option linter.unusedSimpArgs false
open Go.RowKit

/-- A call of f with these values, made at the place k where the heap is H: it answers v, the heap is H' then. -/
def BodyAt (P : Program) (w0 : Base) (k : List Nat) (f : FuncId) (args : List AV) (H H' : Hp) (v : AV) : Prop :=
  (∃ fn c, P.funcs[f]? = some fn ∧ fn.body = some c ∧ (fn.name == "runtime.NumGoroutine") = false) ∧
  ∀ (G : Gh) (w : World) (cargs : Array Value), Sim w0 G H w → Fresh G k → RepL G args cargs.toList →
    ∀ R : Ending → World → Prop, (∀ G' w' V, G.Le G' → New k G G' → Sim w0 G' H' w' → Rep G' v V → R (.returned V) w') → Calls P f cargs w R

/-- The same of a function without a body. -/
def ExtAt (P : Program) (w0 : Base) (k : List Nat) (f : FuncId) (args : List AV) (H H' : Hp) (v : AV) : Prop :=
  ∃ fn e, P.funcs[f]? = some fn ∧ fn.body = none ∧ (fn.name == "runtime.NumGoroutine") = false ∧ (Extern.findNext fn).isNone = true ∧ Extern.find fn = some e ∧
    ∀ (G : Gh) (w : World) (cargs : Array Value), Sim w0 G H w → Fresh G k → RepL G args cargs.toList → ∃ G' w' V, G.Le G' ∧ New k G G' ∧ Sim w0 G' H' w' ∧ Rep G' v V ∧ (e cargs).run P w = .ok V w'
def CallAt (P : Program) (w0 : Base) (k : List Nat) (f : FuncId) (args : List AV) (H H' : Hp) (v : AV) : Prop := BodyAt P w0 k f args H H' v ∨ ExtAt P w0 k f args H H' v

section
variable {P : Program} {tab : Tab} {w0 : Base} {k : List Nat}

theorem CallAt.body {f : FuncId} {args : List AV} {H H' : Hp} {v : AV} (h : CallAt P w0 k f args H H' v) {fn : Func} {c : Code} (hf : P.funcs[f]? = some fn) (hb : fn.body = some c) : BodyAt P w0 k f args H H' v := by
  rcases h with h | ⟨fn', e, h1, h2, _⟩
  · exact h
  · rw [hf] at h1
    cases h1
    rw [hb] at h2
    cases h2

theorem CallAt.weak {f : FuncId} {args args' : List AV} {H H' : Hp} {v : AV} (h : CallAt P w0 k f args' H H' v) (hw : ∀ G V, RepL G args V → RepL G args' V) : CallAt P w0 k f args H H' v := by
  rcases h with h | ⟨fn, e, h1, h2, h3, h4, h5, h6⟩
  · exact .inl ⟨h.1, fun G w ca hs hf hr R hR => h.2 G w ca hs hf (hw G _ hr) R hR⟩
  · exact .inr ⟨fn, e, h1, h2, h3, h4, h5, fun G w ca hs hf hr => h6 G w ca hs hf (hw G _ hr)⟩

theorem OpOk.call {o : Oper} {ρ : Operand → AV} {fo : Operand} {as : Array Operand} {ts : Array TypeId} {f : FuncId} {first caps : List AV} {H H' : Hp} {v : AV}
    (ho : o.op = .call { callee := .value fo, args := as, argTypes := ts }) (hf : ρ fo = .clo (.func f) first caps) (hc : CallAt P w0 k f (first ++ as.toList.map ρ ++ caps) H H' v) : OpOk P w0 k o ρ H H' v := by
  intro G w a hs hfr hr K Q hK
  have hF := hr fo (by simp [ho, Op.operands, Call.operands])
  rw [hf] at hF
  simp only [Rep] at hF
  obtain ⟨fi, ca, hF, r1, r2⟩ := hF
  have hargs : RepL G (as.toList.map ρ) (as.toList.map a.eval) := RepL_map _ fun x hx => hr x (by simp [ho, Op.operands, Call.operands]; exact .inr (by simpa using hx))
  have hall : RepL G (first ++ as.toList.map ρ ++ caps) (fi.toArray ++ as.map a.eval ++ ca.toArray).toList := by
    have := RepL.append (RepL.append r1 hargs) r2
    simpa using this
  rcases hc with ⟨⟨fn, c, h1, h2, h3⟩, h4⟩ | ⟨fn, e, h1, h2, h3, h4, h5, h6⟩
  rotate_left
  · obtain ⟨G', w', V, g1, g2, g3, g4, g5⟩ := h6 G w _ hs hfr hall
    have h4' : Extern.findNext fn = none := by simpa using h4
    have g5' := g5
    rw [Array.append_assoc] at g5'
    have hrun : (execOp a.eval o).run P w = .ok (.value V) w' := by
      simp [execOp, ho, resolve, hF, Deferred.ofValue, invoke, callFunc, program, Sem.run, h1, h2, by simpa using h3, h4', h5, g5', mark]
    unfold Oper.wp
    rw [hrun]
    exact hK G' w' V g1 g2 g3 g4
  have hrun : (execOp a.eval o).run P w = .ok (.enter f (fi.toArray ++ as.map a.eval ++ ca.toArray)) w := by
    simp [execOp, ho, resolve, hF, Deferred.ofValue, invoke, callFunc, program, Sem.run, h1, h2, by simpa using h3]
  unfold Oper.wp
  rw [hrun]
  exact h4 G w _ hs hfr hall _ fun G' w' V hl hn hs' hv => hK G' w' V hl hn hs' hv

end

/-- A call of the yield of the loop whose record is the block l: as 'CallAt'. -/
def YieldIn (P : Program) (w0 : Base) (k : List Nat) (l : Nat) (args : List AV) (H H' : Hp) (v : AV) : Prop :=
  ∀ (G : Gh) (w : World) (cargs : Array Value), Sim w0 G H w → Fresh G k → RepL G args cargs.toList →
    ∀ R : Ending → World → Prop, (∀ G' w' V, G.Le G' → New k G G' → Sim w0 G' H' w' → Rep G' v V → R (.returned V) w') → YieldAt Fence.wide 0 P l cargs w R
theorem OpIn.yield {P : Program} {w0 : Base} {k : List Nat} {o : Oper} {ρ : Operand → AV} {fo : Operand} {as : Array Operand} {ts : Array TypeId} {l : Nat} {H H' : Hp} {v : AV}
    (ho : o.op = .call { callee := .value fo, args := as, argTypes := ts }) (hf : ρ fo = .clo (.yield l) [] []) (hc : YieldIn P w0 k l (as.toList.map ρ) H H' v) : OpIn P w0 k o ρ H H' v := by
  intro G w a hs hfr hr K Q hK ro
  have hF := hr fo (by simp [ho, Op.operands, Call.operands])
  rw [hf] at hF
  simp only [Rep, RepL] at hF
  obtain ⟨fi, ca, hF, rfl, rfl⟩ := hF
  have hargs : RepL G (as.toList.map ρ) (as.map a.eval).toList := by
    have : RepL G (as.toList.map ρ) (as.toList.map a.eval) := RepL_map _ fun x hx => hr x (by simp [ho, Op.operands, Call.operands]; exact .inr (by simpa using hx))
    simpa using this
  obtain ⟨fn, tm, asg, body, hy, hR⟩ := hc G w _ hs hfr hargs (fun e w' => match e, w' with
    | .returned v, w'' => K (a.put o.dst v) w''
    | .panicked chain, w'' => Q (.panic chain) a w''
    | .outgrown, _ => LetsOut Q) fun G' w' V hl hn hs' hv => hK G' w' V hl hn hs' hv
  refine ⟨fun _ _ => trivial, ?_⟩
  have hrun : (execOp a.eval o).run P w = .ok (.round l fn tm asg body) w := by
    rw [← hy]
    simp [execOp, ho, resolve, hF, Deferred.ofValue, invoke]
  rw [Oper.semAt_eq _ _ _ (by simp [ho]), hrun]
  exact ⟨fun hh => (by cases hh), trivial, hR.2⟩

/-- What is known of functions whose calls leave the heap as it is: what they ask of their arguments, and answer. -/
abbrev Spec := FuncId → List AV → Option (Prop × AV)
def SpecOk (P : Program) (w0 : Base) (Sp : Spec) : Prop := ∀ f args φ v, Sp f args = some (φ, v) → φ → ∀ k H, CallAt P w0 k f args H H v

/-- What an operation asks, and what it tells then. -/
def vcOp (P : Program) (tab : Tab) (Sp : Spec) (w0 : Base) (mb : List Tmp) (draw : Bool) (key : List Nat) (o : Oper) (tmps : List AV) (H : Hp) (K : Ev → Prop) : Prop :=
  match o.op with
  | .box et x => match o.dst with
    | some d => if mb.contains d then K (.eff H (H.upd ⟨(evA tmps x).cells.length, key, et⟩ (some (.cells (evA tmps x).cells))) (.ptr ⟨(evA tmps x).cells.length, key, et⟩ 0)) else K (.val (.sptr (evA tmps x).cells))
    | none => False
  | .buildSlice t len parts => match sliceLitA tab t len (parts.toList.map fun p => (p.1, evA tmps p.2)) with
    | some v => K (.val v)
    | none => False
  | .alloc et => match tab et with
    | some te => (absC te.zero).cells.length = te.size ∧ if draw then K (.val (.ptr ⟨te.size, key, et⟩ 0)) else K (.eff H (H.upd ⟨te.size, key, et⟩ (some (.cells (absC te.zero).cells))) (.ptr ⟨te.size, key, et⟩ 0))
    | none => False
  | .load t x => match evA tmps x with
    | .ptr id off => match tab t with
      | some ti => ∃ c, H id = some (.cells c) ∧ (off + ti.size ≤ c.length ∧ 0 < ti.size) ∧ K (.rd id c (readA ti c off))
      | none => False
    | v => match loadA tab t v with
      | some (φ, u) => φ ∧ K (.val u)
      | none => False
  | .store t x y => match evA tmps x with
    | .ptr id off => match tab t with
      | some ti => (evA tmps y).cells.length = ti.size ∧ (evA tmps y).cells.all oneA = true ∧
          if off = 0 ∧ ti.size = id.sz then K (.eff H (H.upd id (some (.cells (evA tmps y).cells))) AV.undef)
          else off + ti.size ≤ id.sz ∧ ∃ c, H id = some (.cells c) ∧ K (.eff H (H.upd id (some (.cells (layAt c off (evA tmps y).cells)))) AV.undef)
      | none => False
    | _ => False
  | .convert sT dT x => match evA tmps x with
    | .ptr id off => match convP P tab sT dT id off with
      | some φ => φ ∧ K (.val (.ptr id off))
      | none => False
    | v => match convA tab sT dT v with
      | some (φ, u) => φ ∧ K (.val u)
      | none => False
  | .call { callee := .builtin .append, args := as, argTypes := ts } => match as.toList, ts.toList with
    | [s, x], [t, t'] => match tab t with
      | some ⟨.slice e, _, _, _⟩ => match tab e with
        | some te => match evA tmps s with
          | .list tk xs => match srcA tab te.size t' (evA tmps x) with
            | some (ψ, ys) => ψ ∧ (∀ y ∈ xs, y.length = te.size) ∧ 0 < te.size ∧ (absC te.zero).cells.length = te.size ∧ ys.flatten.all oneA = true ∧
              (xs.length + ys.length) * te.bytes ≤ 140737488355328 ∧ xs.length + ys.length ≤ 4611686018427387904 ∧ tokLive H te.size e tk ∧
              K (.eff H ((killTok H tk).upd ⟨te.size, key, e⟩ (some .tok)) (.list (tokBy tk ys ⟨te.size, key, e⟩) (xs ++ ys.map (·.map strip))))
            | none => False
          | _ => False
        | none => False
      | _ => False
    | _, _ => False
  | .call { callee := .builtin .unsafeSliceData, args := as, .. } => match as.toList with
    | [x] => match evA tmps x, tab o.type with
      | .list tk xs, some ⟨.pointer _, _, _, _⟩ => dataOk H tk xs ∧ K (.eff H H (.rowp tk xs))
      | _, _ => False
    | _ => False
  | .call { callee := .builtin .unsafeString, args := as, argTypes := ts } => match as.toList, ts.toList with
    | [x, y], [pt, _] => match tab pt with
      | some ⟨.pointer e, _, _, _⟩ => match evA tmps x with
        | .rowp tk xs => match strOf xs with
          | some s => evA tmps y = .int .i64 s.size ∧ (s.size : Int) ≤ 9223372036854775807 ∧ strOk P H e tk s ∧ K (.eff H (killTok H tk) (.str s))
          | none => False
        | _ => False
      | _ => False
    | _, _ => False
  | .call { callee := .value fo, args := as, .. } => match evA tmps fo with
    | .clo (.func f) first caps => match Sp f (first ++ as.toList.map (evA tmps) ++ caps) with
      | some (φ, v) => φ ∧ K (.val v)
      | none => ∃ H' v, CallAt P w0 key f (first ++ as.toList.map (evA tmps) ++ caps) H H' v ∧ K (.eff H H' v)
    | .clo (.yield l) [] [] => ∃ H' v, YieldIn P w0 key l (as.toList.map (evA tmps)) H H' v ∧ K (.eff H H' v)
    | _ => False
  | _ => match opN tab o (evA tmps) with
    | some (φ, v) => φ ∧ K (.val v)
    | none => False

section
variable {P : Program} {tab : Tab} {Sp : Spec} {w0 : Base}

theorem layAt_whole {c vs : List AV} (h : c.length = vs.length) : layAt c 0 vs = vs := by
  rw [layAt_eq vs c 0 (by omega)]
  simp [List.drop_of_length_le (show c.length ≤ vs.length by omega)]

theorem vcOp_sound (hT : TabOk P tab) (hS : SpecOk P w0 Sp) {mb : List Tmp} {draw : Bool} {key : List Nat} {o : Oper} {tmps : List AV} {H : Hp} {K : Ev → Prop} (h : vcOp P tab Sp w0 mb draw key o tmps H K) :
    ∃ ev, EvOk P w0 key o (evA tmps) ev ∧ ev.pre H ∧ K ev := by
  have nd : ∀ c, o.op ≠ .defer c := fun c ho => by
    simp [vcOp, ho, opN] at h
  have mkV : ∀ {v : AV}, (∀ H', OpOk P w0 key o (evA tmps) H' H' v) → K (.val v) → ∃ ev, EvOk P w0 key o (evA tmps) ev ∧ ev.pre H ∧ K ev := fun {v} h hk => ⟨.val v, fun H => (h H).in_ nd, trivial, hk⟩
  have mkE : ∀ {H2 : Hp} {v : AV}, OpOk P w0 key o (evA tmps) H H2 v → K (.eff H H2 v) → ∃ ev, EvOk P w0 key o (evA tmps) ev ∧ ev.pre H ∧ K ev := fun {H2 v} h hk => ⟨.eff H H2 v, h.in_ nd, rfl, hk⟩
  have mkR : ∀ {id : Id} {c : List AV} {v : AV}, (∀ H', H' id = some (.cells c) → OpOk P w0 key o (evA tmps) H' H' v) → H id = some (.cells c) → K (.rd id c v) → ∃ ev, EvOk P w0 key o (evA tmps) ev ∧ ev.pre H ∧ K ev :=
    fun {id c v} h hH hk => ⟨.rd id c v, fun H hH => (h H hH).in_ nd, hH, hk⟩
  have hN : ∀ {φ : Prop} {v : AV}, opN tab o (evA tmps) = some (φ, v) → φ → K (.val v) → ∃ ev, EvOk P w0 key o (evA tmps) ev ∧ ev.pre H ∧ K ev :=
    fun e hφ hk => mkV (fun H' => OpOk.quiet (opN_quiet hT e hφ) H') hk
  unfold vcOp at h
  split at h
  · rename_i et x ho
    split at h
    · rename_i d hd
      split at h
      · exact mkE (OpOk.boxVar ho H) h
      · exact mkV (fun H' => OpOk.boxConst ho H') h
    · exact h.elim
  · rename_i t len parts ho
    split at h
    · rename_i v hv
      exact mkV (fun H' => OpOk.sliceLit hT ho hv H') h
    · exact h.elim
  · rename_i et ho
    split at h
    · rename_i te hte
      obtain ⟨hz, h⟩ := h
      split at h
      · refine mkV (fun H' => ?_) h
        -- the variable is made, but nothing is said of what it holds
        intro G w a hs hf hr K' Q hK
        have hn : H' ⟨te.size, key, et⟩ = none := by
          cases hh : H' ⟨te.size, key, et⟩ with
          | none => rfl
          | some e =>
            have hfr := hf ⟨te.size, key, et⟩ (List.suffix_refl _)
            cases e with
            | cells avs => obtain ⟨b, hb⟩ := hs.d _ _ hh; rw [hfr.1] at hb; cases hb
            | tok =>
              rcases hs.t _ hh with g | ⟨b, m, c, T, cs, g, _⟩
              · rw [hfr.2] at g; cases g
              · rw [hfr.2] at g; cases g
        exact OpOk.alloc hT ho hte H' H' hz (fun _ _ => rfl) (.inl hn) G w a hs hf hr K' Q hK
      · exact mkE (OpOk.alloc hT ho hte H _ hz (fun i hi => Hp.upd_ne _ _ hi) (.inr (Hp.upd_same _ _ _))) h
    · exact h.elim
  · rename_i t x ho
    split at h
    · rename_i id off hx
      split at h
      · rename_i ti hti
        obtain ⟨c, hc, ⟨h1, h2⟩, hk⟩ := h
        exact mkR (fun H' hH' => OpOk.load hT ho hx hti h1 h2 H' hH') hc hk
      · exact h.elim
    · split at h
      · rename_i φ u hu
        exact hN (by simp only [opN, ho]; exact hu) h.1 h.2
      · exact h.elim
  · rename_i t x y ho
    split at h
    · rename_i id off hx
      split at h
      · rename_i ti hti
        obtain ⟨h1, h2, h⟩ := h
        split at h
        · rename_i hoff
          obtain ⟨rfl, hsz⟩ := hoff
          refine mkE ?_ h
          have hop := OpOk.store (P := P) (w0 := w0) (k := key) hT (c := (evA tmps y).cells) ho hx hti (by omega) h1 h2 H (.inr ⟨by omega, rfl, hsz⟩)
          rw [layAt_whole rfl] at hop
          exact hop
        · obtain ⟨h3, c, hc, hk⟩ := h
          exact mkE (OpOk.store hT ho hx hti h3 h1 h2 H (.inl hc)) hk
      · exact h.elim
    · exact h.elim
  · rename_i sT dT x ho
    split at h
    · rename_i id off hx
      split at h
      · rename_i φ hφ
        exact mkV (fun H' => OpOk.convP hT ho hx hφ h.1 H') h.2
      · exact h.elim
    · split at h
      · rename_i φ u hu
        exact hN (by simp only [opN, ho]; exact hu) h.1 h.2
      · exact h.elim
  · rename_i as ts ho
    split at h
    · rename_i s x t t' has hts
      split at h
      · rename_i e a1 a2 z ht
        split at h
        · rename_i te hte
          split at h
          · rename_i tk xs hs
            split at h
            · rename_i ψ ys hx
              obtain ⟨h0, h1, h3, h4, h5, h6, h7, h8, hk⟩ := h
              have has' : as = #[s, x] := by apply Array.ext'; simpa using has
              have hts' : ts = #[t, t'] := by apply Array.ext'; simpa using hts
              subst has' hts'
              exact mkE (OpOk.append hT ho ht hte hs hx h0 h1 h3 h4 h5 h6 h7 H h8) hk
            · exact h.elim
          · exact h.elim
        · exact h.elim
      · exact h.elim
    · exact h.elim
  · rename_i as ts ho
    split at h
    · rename_i x has
      have has' : as = #[x] := by apply Array.ext'; simpa using has
      subst has'
      split at h
      · rename_i tk xs e a1 a2 z hx ht
        exact mkE (OpOk.sliceData hT ho hx ht H h.1) h.2
      · exact h.elim
    · exact h.elim
  · rename_i as ts ho
    split at h
    · rename_i x y pt it has hts
      have has' : as = #[x, y] := by apply Array.ext'; simpa using has
      have hts' : ts = #[pt, it] := by apply Array.ext'; simpa using hts
      subst has' hts'
      split at h
      · rename_i e a1 a2 z ht
        split at h
        · rename_i tk xs hx
          split at h
          · rename_i s hs
            obtain ⟨h1, h2, h3, hk⟩ := h
            exact mkE (OpOk.unsafeString hT ho hx h1 hs ht h2 H h3) hk
          · exact h.elim
        · exact h.elim
      · exact h.elim
    · exact h.elim
  · rename_i fo as ts ho
    split at h
    · rename_i f first caps hf
      split at h
      · rename_i φ v hsp
        exact mkV (fun H' => OpOk.call ho hf (hS _ _ _ _ hsp h.1 key H')) h.2
      · obtain ⟨H', v, hc, hk⟩ := h
        exact mkE (OpOk.call ho hf hc) hk
    · rename_i l hf
      obtain ⟨H', v, hc, hk⟩ := h
      exact ⟨.eff H H' v, OpIn.yield ho hf hc, rfl, hk⟩
    · exact h.elim
  · split at h
    · rename_i φ v hv
      exact hN hv h.1 h.2
    · exact h.elim

end

/-- An operation with its guard. -/
def vcG (P : Program) (tab : Tab) (Sp : Spec) (w0 : Base) (mb : List Tmp) (draw : Bool) (ops : Array Oper) (key : List Nat) (o : Oper) (s : S) (K : Ev → Prop) : Prop :=
  match o.guard with
  | none => vcOp P tab Sp w0 mb draw key o s.tmps s.H K
  | some (j, want) => match (ops[j]?).bind (·.dst) with
    | some d => match s.tmps.getD d AV.undef with
      | .raw (.bool t) => d < s.tmps.length ∧ ((t == want) = true → vcOp P tab Sp w0 mb draw key o s.tmps s.H K) ∧ ((t == want) = false → K (.val AV.undef))
      | .raw (.tuple ⟨[]⟩) => d < s.tmps.length ∧ K (.val AV.undef)
      | _ => False
    | none => False

def vcSeq (P : Program) (tab : Tab) (Sp : Spec) (w0 : Base) (mb : List Tmp) (ops : Array Oper) (kp : List Nat) : List (Oper × Nat) → S → (S → Prop) → Prop
  | [], s, K => K s
  | (o, i) :: rest, s, K => vcG P tab Sp w0 mb false ops (i :: kp) o s fun ev => vcSeq P tab Sp w0 mb ops kp rest ⟨putA s.tmps o.dst ev.out, ev.post s.H⟩ K

def Ev.loud : Ev → Bool
  | .val _ => false
  | _ => true

def vcDraw (P : Program) (tab : Tab) (Sp : Spec) (w0 : Base) (mb : List Tmp) (ops : Array Oper) (kp : List Nat) : List (Oper × Nat) → S → (List (Nat × Ev) → S → Prop) → Prop
  | [], s, K => K [] s
  | (o, i) :: rest, s, K => vcG P tab Sp w0 mb true ops (i :: kp) o s fun ev => vcDraw P tab Sp w0 mb ops kp rest ⟨putA s.tmps o.dst ev.out, ev.post s.H⟩ fun evs s' => K (if ev.loud then (i, ev) :: evs else evs) s'

section
variable {P : Program} {tab : Tab} {Sp : Spec} {w0 : Base} {mb : List Tmp} {ops : Array Oper} {kp : List Nat}

theorem vcG_sound (hT : TabOk P tab) (hS : SpecOk P w0 Sp) {draw : Bool} {o : Oper} {i : Nat} {s : S} {K : Ev → Prop} (h : vcG P tab Sp w0 mb draw ops (i :: kp) o s K) :
    ∃ ev, StepOk P w0 ops kp ⟨i, o, ev⟩ s ⟨putA s.tmps o.dst ev.out, ev.post s.H⟩ ∧ K ev := by
  unfold vcG at h
  split at h
  · rename_i hg
    obtain ⟨ev, h1, h2, h3⟩ := vcOp_sound hT hS h
    exact ⟨ev, ⟨true, by simp [wantA, hg], fun _ => h1, fun e => (by cases e), h2, rfl⟩, h3⟩
  · rename_i j want hg
    split at h
    · rename_i d hd
      split at h
      · rename_i t ht
        obtain ⟨hl, h1, h2⟩ := h
        cases htw : (t == want) with
        | true =>
          obtain ⟨ev, g1, g2, g3⟩ := vcOp_sound hT hS (h1 htw)
          exact ⟨ev, ⟨true, by simp only [wantA, hg]; exact ⟨d, hd, hl, .inl ⟨t, ht, htw.symm⟩⟩, fun _ => g1, fun e => (by cases e), g2, rfl⟩, g3⟩
        | false =>
          exact ⟨.val AV.undef, ⟨false, by simp only [wantA, hg]; exact ⟨d, hd, hl, .inl ⟨t, ht, htw.symm⟩⟩, fun e => (by cases e), fun _ => rfl, trivial, rfl⟩, h2 htw⟩
      · rename_i ht
        exact ⟨.val AV.undef, ⟨false, by simp only [wantA, hg]; exact ⟨d, hd, h.1, .inr ⟨ht, trivial⟩⟩, fun e => (by cases e), fun _ => rfl, trivial, rfl⟩, h.2⟩
      · exact h.elim
    · exact h.elim

theorem vcSeq_sound (hT : TabOk P tab) (hS : SpecOk P w0 Sp) : ∀ (l : List (Oper × Nat)) (s : S) (K : S → Prop), vcSeq P tab Sp w0 mb ops kp l s K → ∃ tr s', Run P w0 ops kp tr s s' ∧ tr.map (fun x => (x.i, x.o)) = l.map (fun x => (x.2, x.1)) ∧ K s'
  | [], s, K, h => ⟨[], s, rfl, rfl, h⟩
  | (o, i) :: rest, s, K, h => by
    obtain ⟨ev, h1, h2⟩ := vcG_sound hT hS h
    obtain ⟨tr, s', h3, h4, h5⟩ := vcSeq_sound hT hS rest _ K h2
    exact ⟨⟨i, o, ev⟩ :: tr, s', ⟨_, h1, h3⟩, by simp [h4], h5⟩

def louds : List TE → List (Nat × Ev)
  | [] => []
  | x :: tr => if x.ev.loud then (x.i, x.ev) :: louds tr else louds tr

theorem vcDraw_sound (hT : TabOk P tab) (hS : SpecOk P w0 Sp) : ∀ (l : List (Oper × Nat)) (s : S) (K : List (Nat × Ev) → S → Prop), vcDraw P tab Sp w0 mb ops kp l s K → ∃ tr s', Run P w0 ops kp tr s s' ∧ tr.map (fun x => (x.i, x.o)) = l.map (fun x => (x.2, x.1)) ∧ K (louds tr) s'
  | [], s, K, h => ⟨[], s, rfl, rfl, h⟩
  | (o, i) :: rest, s, K, h => by
    obtain ⟨ev, h1, h2⟩ := vcG_sound hT hS h
    obtain ⟨tr, s', h3, h4, h5⟩ := vcDraw_sound hT hS rest _ _ h2
    exact ⟨⟨i, o, ev⟩ :: tr, s', ⟨_, h1, h3⟩, by simp [h4], by simpa [louds] using h5⟩

theorem louds_mem : ∀ (tr : List TE) (x : TE), x ∈ tr → x.ev.loud = true → (x.i, x.ev) ∈ louds tr
  | [], x, hx, _ => by simp at hx
  | y :: tr, x, hx, hl => by
    simp only [List.mem_cons] at hx
    simp only [louds]
    rcases hx with rfl | hx
    · simp [hl]
    · have := louds_mem tr x hx hl
      split <;> simp [this]

theorem louds_pairs {R : Nat → Nat → Prop} : ∀ (tr : List TE), (louds tr).Pairwise (fun x y => R x.1 y.1 ∨ compat x.2 y.2) → tr.Pairwise fun x y => R x.i y.i ∨ compat x.ev y.ev
  | [], _ => List.Pairwise.nil
  | x :: tr, h => by
    have hquiet : ∀ e f : Ev, e.loud = false ∨ f.loud = false → compat e f := fun e f h => by cases e <;> cases f <;> simp_all [Ev.loud, compat]
    cases hx : x.ev.loud with
    | false =>
      simp only [louds, hx, Bool.false_eq_true, if_false] at h
      exact List.pairwise_cons.2 ⟨fun y _ => .inr (hquiet _ _ (.inl hx)), louds_pairs tr h⟩
    | true =>
      simp only [louds, hx, if_true] at h
      have h2 := List.pairwise_cons.1 h
      refine List.pairwise_cons.2 ⟨fun y hy => ?_, louds_pairs tr h2.2⟩
      cases hyl : y.ev.loud with
      | false => exact .inr (hquiet _ _ (.inr hyl))
      | true => exact h2.1 _ (louds_mem tr y hy hyl)

end
end Go.Proofs.YtkdendaohlnlcaaDoor.Av
