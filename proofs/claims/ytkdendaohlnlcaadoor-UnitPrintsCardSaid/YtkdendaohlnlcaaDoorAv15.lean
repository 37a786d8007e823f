/- Loops over functions: what the loop does, out of what its body does of each element and of a function that tells the elements. No condition. -/
import Derived.Test.YtkdendaohlnlcaaDoorAv14
namespace Go.Proofs.YtkdendaohlnlcaaDoor.Av
set_option linter.unusedVariables false
set_option linter.unusedSimpArgs false
open Go.RowKit

def setPs (t : List AV) : List Tmp → List AV → List AV
  | p :: ps, x :: xs => setPs (t.set p x) ps xs
  | _, _ => t
theorem rep_setPs {G : Gh} : ∀ (ps : List Tmp) (xs : List AV) (vs : List Value) (t : List AV) (tc : Array Value), RepL G xs vs → RepL G t tc.toList → RepL G (setPs t ps xs) ((ps.zip vs).foldl (fun (t : Array Value) (p, v) => t.setIfInBounds p v) tc).toList
  | [], xs, vs, t, tc, _, h => by simpa [setPs] using h
  | p :: ps, [], vs, t, tc, hx, h => by simp only [RepL] at hx; subst hx; simpa [setPs] using h
  | p :: ps, x :: xs, vs, t, tc, hx, h => by
    simp only [RepL] at hx
    obtain ⟨u, us, rfl, h1, h2⟩ := hx
    simp only [List.zip_cons_cons, List.foldl_cons, setPs]
    refine rep_setPs ps xs us _ _ h2 ?_
    simpa using h.set h1 p

/-- How many elements are told until a round says no. -/
def stops (b : Nat → Bool) : Nat → Nat → Nat
  | j, 0 => j
  | j, n + 1 => if b j then stops b (j + 1) n else j + 1
theorem stops_all (b : Nat → Bool) : ∀ (n j : Nat), (∀ i, j ≤ i → i < j + n → b i = true) → stops b j n = j + n
  | 0, j, _ => rfl
  | n + 1, j, h => by
    rw [stops, if_pos (h j (Nat.le_refl _) (by omega)), stops_all b n (j + 1) fun i h1 h2 => h i (by omega) (by omega)]
    omega
theorem stops_at (b : Nat → Bool) (m : Nat) (hm : b m = false) : ∀ (n j : Nat), j ≤ m → m < j + n → (∀ i, j ≤ i → i < m → b i = true) → stops b j n = m + 1
  | 0, j, h1, h2, _ => by omega
  | n + 1, j, h1, h2, h => by
    by_cases e : j = m
    · subst e
      rw [stops, if_neg (by simp [hm])]
    · rw [stops, if_pos (h j (Nat.le_refl _) (by omega)), stops_at b m hm n (j + 1) (by omega) (by omega) fun i a c => h i (by omega) c]

/-- A function that tells these elements, one by one, until it is told no. -/
def Iter (P : Program) (gf : FuncId) (caps : List AV) (xs : List (List AV)) : Prop :=
  ∀ (w0 : Base) (l : Nat) (k : List Nat) (Hs : Nat → Hp) (b : Nat → Bool),
    (∀ j x, xs[j]? = some x → (∀ i, i < j → b i = true) → ∀ key, k <:+ key → YieldIn P w0 key l x (Hs j) (Hs (j + 1)) (.bool (b j))) →
    (∀ j i, k <:+ i.key → Hs j i = none) →
    ∃ v, BodyAt P w0 k gf ([.clo (.yield l) [] []] ++ caps) (Hs 0) (Hs (stops b 0 xs.length)) v

def roundR (o : Option AEx) (H' : Hp) : AEx → FS → Prop := fun x s => x = o.getD .normal ∧ H'.Le s.H
@[go_sem] theorem roundR_at {o : Option AEx} {H' : Hp} {x : AEx} {s : FS} : roundR o H' x s = (x = o.getD .normal ∧ H'.Le s.H) := rfl

def AEx.code : AEx → Code
  | .normal => .skip
  | .exit id => .exit id
  | .ret => .ret

section
variable {P : Program} {w0 : Base}

/-- What is known of one more block that is no cells. -/
theorem Sim.pin {G : Gh} {H : Hp} {w : World} (h : Sim w0 G H w) {D : Nat} {o : Obj} {L : List (Option Id × Obj)} (hD : w.heap[D]? = some o) (hn : ∀ cs T f, o ≠ .cells cs T f) (hb : w0.heap.size ≤ D) (hρ : w0.G.ρ D = none ∨ w0.G.ρ D = some L) (hL : ∀ x ∈ L, pinned G H D o x) :
    Sim w0 { G with ρ := fun b => if b = D then some L else G.ρ b } H w := by
  refine ⟨h.c, fun i b e => ?_, h.d, h.t, h.inj, h.tinj, h.vt, h.below, ⟨h.g.C, h.g.σ, h.g.τ, fun b o e => ?_⟩, fun b L' e => ?_⟩
  · obtain ⟨h1, cs, T, h2, h3, h4, h5⟩ := h.v i b e
    exact ⟨h1, cs, T, h2, h3, h4, fun avs ha => rep_noρ (h5 avs ha)⟩
  · simp only
    split
    · rename_i hbd
      subst hbd
      rcases hρ with hρ | hρ
      · rw [hρ] at e; cases e
      · rw [hρ] at e; exact e
    · exact h.g.ρ b o e
  · simp only at e
    split at e
    · rename_i hbd
      subst hbd
      cases e
      exact ⟨hb, o, hD, hn, hL⟩
    · exact h.r b L' e

/-- A token that stands for a block's state. -/
theorem Sim.flag {G : Gh} {H : Hp} {w : World} (h : Sim w0 G H w) {i : Id} (hτ : G.τ i = some none) (hH : H i = none) (hL : ∀ L, G.ρ i.sz = some L → ∃ o, w.heap[i.sz]? = some o ∧ ∀ x ∈ L, pinned G (H.upd i (some .tok)) i.sz o x) : Sim w0 G (H.upd i (some .tok)) w := by
  have hcells : ∀ j avs, (H.upd i (some .tok)) j = some (.cells avs) → H j = some (.cells avs) := fun j avs e => by
    by_cases hji : j = i
    · subst hji; rw [Hp.upd_same] at e; cases e
    · rwa [Hp.upd_ne _ _ hji] at e
  have htok : ∀ j, j ≠ i → (H.upd i (some .tok)) j = some .tok → H j = some .tok := fun j hji e => by rwa [Hp.upd_ne _ _ hji] at e
  refine ⟨h.c, fun j b e => ?_, fun j avs e => h.d j avs (hcells j avs e), fun j e => ?_, h.inj, fun j q b x y hj hq hxj hyq => ?_, fun j q b x hj hq e => ?_, h.below, h.g, fun b L e => ?_⟩
  · obtain ⟨h1, cs, T, h2, h3, h4, h5⟩ := h.v j b e
    exact ⟨h1, cs, T, h2, h3, h4, fun avs ha => h5 avs (hcells j avs ha)⟩
  · by_cases hji : j = i
    · subst hji; exact .inl hτ
    · exact h.t j (htok j hji e)
  · by_cases hji : j = i
    · subst hji; rw [hτ] at hxj; cases hxj
    · by_cases hqi : q = i
      · subst hqi; rw [hτ] at hyq; cases hyq
      · exact h.tinj j q b x y (htok j hji hj) (htok q hqi hq) hxj hyq
  · by_cases hqi : q = i
    · subst hqi; rw [hτ] at e; cases e
    · exact h.vt j q b x hj (htok q hqi hq) e
  · obtain ⟨r1, o, r2, r3, r4⟩ := h.r b L e
    by_cases hb : b = i.sz
    · subst hb
      obtain ⟨o', g1, g2⟩ := hL L e
      rw [r2] at g1
      cases g1
      exact ⟨r1, o, r2, r3, g2⟩
    · refine ⟨r1, o, r2, r3, fun x hx => ?_⟩
      have := r4 x hx
      unfold pinned at this ⊢
      split at this
      · exact this
      · rename_i q hq
        have hne : q ≠ i := fun hqi => hb (by rw [← hqi]; exact this.1.1.symm)
        exact ⟨this.1, fun ht => this.2 (htok q hne ht)⟩

/-- The same facts, seen from a later base. -/
theorem Sim.rebase {G : Gh} {H : Hp} {w : World} (h : Sim w0 G H w) : Sim ⟨w0.w, G⟩ G H w := ⟨h.c, h.v, h.d, h.t, h.inj, h.tinj, h.vt, h.below, Gh.Le.refl G, h.r⟩
theorem Sim.base_of {G1 G : Gh} {H : Hp} {w : World} (h : Sim ⟨w0.w, G1⟩ G H w) (hg : w0.G.Le G) : Sim w0 G H w := ⟨h.c, h.v, h.d, h.t, h.inj, h.tinj, h.vt, h.below, hg, h.r⟩

/-- A loop's record. -/
def mkRec (fn : FuncId) (tmps : Array Value) (ps : Array Tmp) (assign body : Code) (dn : Nat) (st : LoopState) (pe : Option Code) : Loop := { state := st, pending := pe, fn := fn, tmps := tmps, params := ps, assign := assign, body := body, defers := dn }

theorem yield_ok {base : Base} {l : Nat} {key : List Nat} {fn : FuncId} {tmps : Array Value} {ps : Array Tmp} {assign body : Code} {dn : Nat} {t x : List AV} {Hj Hj1 : Hp} {oc : Option AEx} {cst : AEx} {idr idd : Id}
    (hρ : base.G.ρ l = some [(some idr, .loop (mkRec fn tmps ps assign body dn .ready none)), (some idd, .loop (mkRec fn tmps ps assign body dn .done (some cst.code)))])
    (hτr : base.G.τ idr = some none) (hτd : base.G.τ idd = some none) (hszr : idr.sz = l) (hszd : idd.sz = l) (hne : idr ≠ idd) (htm : RepL base.G t tmps.toList) (hx : x.length = ps.size)
    (f1 : Hj idr = none) (f3 : Hj1 idr = none) (f4 : Hj1 idd = none) (hoc : oc = none ∨ oc = some cst ∧ cst ≠ .normal)
    (hbody : ∀ w0' : Base, w0'.w = base.w → CodeOk P w0' (some l) key assign ⟨setPs t ps.toList x, 0, Hj⟩ (thenR (fun s1 => ∀ w0'' : Base, w0''.w = base.w → CodeOk P w0'' (some l) key body s1 (roundR oc Hj1)) fun _ _ => False)) :
    YieldIn P base key l x (Hj.upd idr (some .tok)) (if oc = none then Hj1.upd idr (some .tok) else Hj1.upd idd (some .tok)) (.bool oc.isNone) := by
  intro G w cargs hs hfr hr Rr hRr
  have hρG := hs.g.ρ _ _ hρ
  obtain ⟨hbl, o, hl, _, hpin⟩ := hs.r l _ hρG
  have hrdy : w.heap[l]? = some (.loop (mkRec fn tmps ps assign body dn .ready none)) := by
    have := (hpin (some idr, .loop (mkRec fn tmps ps assign body dn .ready none)) (by simp)).2 (Hp.upd_same _ _ _)
    rw [hl, this]
  have hcs : cargs.size = ps.size := by rw [← hr.size]; exact hx
  have hy := run_yield (P := P) (args := cargs) hrdy (by simpa [mkRec] using hcs)
  refine ⟨_, _, _, _, hy, ?_⟩
  refine roundIn_of_wpIn (F := Fence.wide) (n := 0) trivial ?_
  -- the assignments, the record being ready
  have s0 : Sim base G Hj w := hs.forget (Hp.le_upd (Hp.Le.refl _) f1)
  have hnc : ∀ r : Loop, ∀ cs T f, Obj.loop r ≠ .cells cs T f := fun r cs T f e => by cases e
  have s1 : Sim ⟨base.w, { G with ρ := fun b => if b = l then some [(none, .loop (mkRec fn tmps ps assign body dn .ready none))] else G.ρ b }⟩ { G with ρ := fun b => if b = l then some [(none, .loop (mkRec fn tmps ps assign body dn .ready none))] else G.ρ b } Hj w := by
    have s0' : Sim ⟨base.w, { base.G with ρ := fun _ => none }⟩ G Hj w := ⟨s0.c, s0.v, s0.d, s0.t, s0.inj, s0.tinj, s0.vt, s0.below, ⟨s0.g.C, s0.g.σ, s0.g.τ, fun _ _ e => (by cases e)⟩, s0.r⟩
    exact (s0'.pin hrdy (hnc _) hbl (.inl rfl) (by simp [pinned])).rebase
  have htmG : RepL G t tmps.toList := RepL.mono hs.g _ _ htm
  refine hbody _ ?hw { G with ρ := fun b => if b = l then none else G.ρ b } _ w _ s1 ?_ ?_ ?_ _ ?_
  case hw => rfl
  · have := rep_setPs ps.toList x cargs.toList t tmps hr htmG
    have e : ((mkRec fn tmps ps assign body dn .ready none).params.zip cargs).foldl (fun tmps (t, a) => tmps.setIfInBounds t a) (mkRec fn tmps ps assign body dn .ready none).tmps = (ps.toList.zip cargs.toList).foldl (fun (t : Array Value) (p, v) => t.setIfInBounds p v) tmps := by
      rw [← Array.foldl_toList, Array.toList_zip]
      rfl
    rw [e]
    exact rep_noρ this
  · intro m _ i hi
    exact hfr i ((List.suffix_cons m key).trans hi)
  · refine ⟨⟨fun _ _ h => h, fun _ _ h => h, fun _ _ h => h, fun b o e => ?_⟩, [], rfl, List.nodup_nil, by simp⟩
    simp only at e ⊢
    split at e
    · cases e
    · rename_i hb
      rw [if_neg hb]
      exact e
  · -- behind the assignments
    intro y s1' G3 w3 a3 hy1 hl3 hn3 hs3 hr3 hd3 hf3 hle3
    cases y with
    | exit id => exact hy1.elim
    | ret => exact hy1.elim
    | normal =>
      have hρ3 : G3.ρ l = some [(none, .loop (mkRec fn tmps ps assign body dn .ready none))] := hl3.ρ l _ (by simp)
      obtain ⟨_, o3, hl3', _, hpin3⟩ := hs3.r l _ hρ3
      have hrdy3 : w3.heap[l]? = some (.loop (mkRec fn tmps ps assign body dn .ready none)) := by
        have := hpin3 _ (List.mem_singleton.2 rfl)
        simp only [pinned] at this
        rw [hl3', this]
      refine ⟨_, run_beginRound hrdy3 rfl, ?_⟩
      have hlt3 := (Array.getElem?_eq_some_iff.1 hrdy3).1
      have hbusy : (w3.putObj l (.loop (mkRec fn tmps ps assign body dn .busy none))).heap[l]? = some (.loop (mkRec fn tmps ps assign body dn .busy none)) := World.putObj_heap_same hlt3
      -- the body, the record being busy
      have s3 : Sim ⟨base.w, { G3 with ρ := fun b => if b = l then some [(none, .loop (mkRec fn tmps ps assign body dn .busy none))] else G3.ρ b }⟩ { G3 with ρ := fun b => if b = l then some [(none, .loop (mkRec fn tmps ps assign body dn .busy none))] else G3.ρ b } s1'.H (w3.putObj l (.loop (mkRec fn tmps ps assign body dn .busy none))) := by
        have q1 : Sim ⟨base.w, { G3 with ρ := fun _ => none }⟩ { G3 with ρ := fun b => if b = l then none else G3.ρ b } s1'.H w3 := by
          refine ⟨hs3.c, fun i b e => ?_, hs3.d, hs3.t, hs3.inj, hs3.tinj, hs3.vt, hs3.below, ⟨fun _ _ h => h, fun _ _ h => h, fun _ _ h => h, fun _ _ e => (by cases e)⟩, fun b L e => ?_⟩
          · obtain ⟨h1, cs, T, h2, h3, h4, h5⟩ := hs3.v i b e
            exact ⟨h1, cs, T, h2, h3, h4, fun avs ha => rep_noρ (h5 avs ha)⟩
          · simp only at e
            split at e
            · cases e
            · exact hs3.r b L e
        have q2 := q1.putObj (o' := .loop (mkRec fn tmps ps assign body dn .busy none)) hrdy3 (hnc _) hbl (hnc _) (fun L e => by simp at e)
        have q3 := (q2.pin hbusy (hnc _) hbl (.inl rfl) (L := [(none, .loop (mkRec fn tmps ps assign body dn .busy none))]) (by simp [pinned])).rebase
        have e : (fun b => if b = l then some [((none : Option Id), Obj.loop (mkRec fn tmps ps assign body dn .busy none))] else if b = l then none else G3.ρ b) = fun b => if b = l then some [(none, .loop (mkRec fn tmps ps assign body dn .busy none))] else G3.ρ b := by
          funext b
          split <;> rfl
        simp only [e] at q3
        exact q3
      obtain ⟨hd31, Ds, hd32, hd33, hd34⟩ := hd3
      have hG0 : Gh.Le { G with ρ := fun b => if b = l then none else G.ρ b } { G3 with ρ := fun b => if b = l then some [(none, .loop (mkRec fn tmps ps assign body dn .busy none))] else G3.ρ b } := by
        refine ⟨hd31.C, hd31.σ, hd31.τ, fun b o e => ?_⟩
        have := hd31.ρ b o e
        simp only at e ⊢
        split at e
        · cases e
        · rename_i hb
          rw [if_neg hb]
          exact this
      refine hy1 _ ?hw { G with ρ := fun b => if b = l then none else G.ρ b } _ _ a3 s3 (rep_noρ hr3) hf3 ⟨hG0, Ds, hd32, hd33, fun D hD => ⟨?_, (hd34 D hD).2⟩⟩ _ ?_
      case hw => rfl
      · have hDl : D ≠ l := fun e => by
          have := (hd34 D hD).1
          rw [e, hρ3] at this
          simp at this
        simp only [if_neg hDl]
        exact (hd34 D hD).1
      · intro y2 s2 G4 w4 a4 hy2 hl4 hn4 hs4 hr4 _ _ _
        obtain ⟨hy2, hH2⟩ := hy2
        have hρ4 : G4.ρ l = some [(none, .loop (mkRec fn tmps ps assign body dn .busy none))] := hl4.ρ l _ (by simp)
        obtain ⟨_, o4, hl4', _, hpin4⟩ := hs4.r l _ hρ4
        have hbusy4 : w4.heap[l]? = some (.loop (mkRec fn tmps ps assign body dn .busy none)) := by
          have := hpin4 _ (List.mem_singleton.2 rfl)
          simp only [pinned] at this
          rw [hl4', this]
        have hlt4 := (Array.getElem?_eq_some_iff.1 hbusy4).1
        -- what is known behind the round
        have hC : Gh.Le G { G4 with ρ := fun b => if b = l then some [(some idr, .loop (mkRec fn tmps ps assign body dn .ready none)), (some idd, .loop (mkRec fn tmps ps assign body dn .done (some cst.code)))] else G4.ρ b } := by
          refine ⟨fun a v e => hl4.C a v (hl3.C a v e), fun i b e => hl4.σ i b (hl3.σ i b e), fun i b e => hl4.τ i b (hl3.τ i b e), fun b L e => ?_⟩
          simp only
          by_cases hb : b = l
          · rw [if_pos hb, ← hρG, ← hb]
            exact e
          · rw [if_neg hb]
            refine hl4.ρ b L ?_
            simp only [if_neg hb]
            refine hl3.ρ b L ?_
            simp only [if_neg hb]
            exact e
        have hNew : New key G { G4 with ρ := fun b => if b = l then some [(some idr, .loop (mkRec fn tmps ps assign body dn .ready none)), (some idd, .loop (mkRec fn tmps ps assign body dn .done (some cst.code)))] else G4.ρ b } := fun i hi => by
          have g3 := hn3.up i hi
          have g4 := hn4.up i hi
          exact ⟨g4.1.trans g3.1, g4.2.trans g3.2⟩
        have fin : ∀ (o' : Obj) (idf : Id), (idf = idr ∧ o' = .loop (mkRec fn tmps ps assign body dn .ready none) ∨ idf = idd ∧ o' = .loop (mkRec fn tmps ps assign body dn .done (some cst.code))) →
            Sim base { G4 with ρ := fun b => if b = l then some [(some idr, .loop (mkRec fn tmps ps assign body dn .ready none)), (some idd, .loop (mkRec fn tmps ps assign body dn .done (some cst.code)))] else G4.ρ b } (Hj1.upd idf (some .tok)) (w4.putObj l o') := by
          intro o' idf hof
          have hτ4r : G4.τ idr = some none := (hs.g.trans hC).τ _ _ hτr
          have hτ4d : G4.τ idd = some none := (hs.g.trans hC).τ _ _ hτd
          have hno' : ∀ cs T f, o' ≠ .cells cs T f := by rcases hof with ⟨_, rfl⟩ | ⟨_, rfl⟩ <;> exact hnc _
          have q1 : Sim ⟨base.w, { G4 with ρ := fun _ => none }⟩ { G4 with ρ := fun b => if b = l then none else G4.ρ b } Hj1 w4 := by
            have hs4' := hs4.forget hH2
            refine ⟨hs4'.c, fun i b e => ?_, hs4'.d, hs4'.t, hs4'.inj, hs4'.tinj, hs4'.vt, hs4'.below, ⟨fun _ _ h => h, fun _ _ h => h, fun _ _ h => h, fun _ _ e => (by cases e)⟩, fun b L e => ?_⟩
            · obtain ⟨h1, cs, T, h2, h3, h4, h5⟩ := hs4'.v i b e
              exact ⟨h1, cs, T, h2, h3, h4, fun avs ha => rep_noρ (h5 avs ha)⟩
            · simp only at e
              split at e
              · cases e
              · exact hs4'.r b L e
          have q2 := q1.putObj (o' := o') hbusy4 (hnc _) hbl hno' (fun L e => by simp at e)
          have q3 := q2.pin (L := [(some idr, .loop (mkRec fn tmps ps assign body dn .ready none)), (some idd, .loop (mkRec fn tmps ps assign body dn .done (some cst.code)))]) (World.putObj_heap_same hlt4) hno' hbl (.inl rfl) (by
            intro x hx
            simp only [List.mem_cons, List.not_mem_nil, or_false] at hx
            rcases hx with rfl | rfl
            · exact ⟨⟨hszr, by rw [show ({ G4 with ρ := fun b => if b = l then none else G4.ρ b } : Gh).τ idr = G4.τ idr from rfl, hτ4r]; simp⟩, fun e => by rw [f3] at e; cases e⟩
            · exact ⟨⟨hszd, by rw [show ({ G4 with ρ := fun b => if b = l then none else G4.ρ b } : Gh).τ idd = G4.τ idd from rfl, hτ4d]; simp⟩, fun e => by rw [f4] at e; cases e⟩)
          have e : (fun b => if b = l then some [(some idr, Obj.loop (mkRec fn tmps ps assign body dn .ready none)), (some idd, Obj.loop (mkRec fn tmps ps assign body dn .done (some cst.code)))] else if b = l then none else G4.ρ b) = fun b => if b = l then some [(some idr, Obj.loop (mkRec fn tmps ps assign body dn .ready none)), (some idd, Obj.loop (mkRec fn tmps ps assign body dn .done (some cst.code)))] else G4.ρ b := by
            funext b
            split <;> rfl
          simp only [e] at q3
          have q4 := Sim.base_of (w0 := base) (G1 := { G4 with ρ := fun _ => none }) q3 (hs.g.trans hC)
          have hfl : idf.sz = l := by rcases hof with ⟨rfl, _⟩ | ⟨rfl, _⟩ <;> assumption
          refine q4.flag (i := idf) (by rcases hof with ⟨rfl, _⟩ | ⟨rfl, _⟩ <;> assumption) (by rcases hof with ⟨rfl, _⟩ | ⟨rfl, _⟩ <;> assumption) fun L eL => ?_
          rw [hfl] at eL ⊢
          simp only [if_true, Option.some.injEq] at eL
          subst eL
          refine ⟨o', World.putObj_heap_same hlt4, fun x hx => ?_⟩
          simp only [List.mem_cons, List.not_mem_nil, or_false] at hx
          rcases hx with rfl | rfl
          · refine ⟨⟨hszr, by simp [hτ4r]⟩, fun eT => ?_⟩
            rcases hof with ⟨rfl, rfl⟩ | ⟨rfl, rfl⟩
            · rfl
            · rw [Hp.upd_ne _ _ hne, f3] at eT; cases eT
          · refine ⟨⟨hszd, by simp [hτ4d]⟩, fun eT => ?_⟩
            rcases hof with ⟨rfl, rfl⟩ | ⟨rfl, rfl⟩
            · rw [Hp.upd_ne _ _ (Ne.symm hne), f4] at eT; cases eT
            · rfl
        rcases hoc with rfl | ⟨rfl, hcn⟩
        · simp only [Option.getD_none] at hy2
          subst hy2
          exact ⟨_, _, run_endRound none hbusy4, hRr _ _ _ hC hNew (by rw [if_pos rfl]; exact fin (.loop (mkRec fn tmps ps assign body dn .ready none)) idr (.inl ⟨rfl, rfl⟩)) (by simp [Rep])⟩
        · simp only [Option.getD_some] at hy2
          subst hy2
          cases y2 with
          | normal => exact absurd rfl hcn
          | ret => exact ⟨_, _, run_endRound (some .ret) hbusy4, hRr _ _ _ hC hNew (by rw [if_neg (by simp)]; exact fin (.loop (mkRec fn tmps ps assign body dn .done (some .ret))) idd (.inr ⟨rfl, rfl⟩)) (by simp [Rep])⟩
          | exit id => exact ⟨_, _, run_endRound (some (.exit id)) hbusy4, hRr _ _ _ hC hNew (by rw [if_neg (by simp)]; exact fin (.loop (mkRec fn tmps ps assign body dn .done (some (.exit id)))) idd (.inr ⟨rfl, rfl⟩)) (by simp [Rep])⟩

theorem first_stop (br : Nat → Option AEx) : ∀ m : Nat, (∀ i, i < m → br i = none) ∨ ∃ j c, j < m ∧ (∀ i, i < j → br i = none) ∧ br j = some c
  | 0 => .inl fun i h => by omega
  | m + 1 => by
    rcases first_stop br m with h | ⟨j, c, h1, h2, h3⟩
    · cases hm : br m with
      | none =>
        refine .inl fun i hi => ?_
        by_cases e : i = m
        · rw [e]; exact hm
        · exact h i (by omega)
      | some c => exact .inr ⟨m, c, by omega, h, hm⟩
    · exact .inr ⟨j, c, by omega, h2, h3⟩

open Classical in
theorem rangeOk {p : List Nat} {g : Operand} {ps : Array Tmp} {assign body : Code} {t : List AV} {n : Nat} {H : Hp} {R : AEx → FS → Prop} {gf : FuncId} {caps : List AV} {xs : List (List AV)} (hg : evA t g = .clo (.func gf) [] caps) (hit : Iter P gf caps xs)
    (hlen : ∀ x ∈ xs, x.length = ps.size) (Hb : Nat → Hp) (br : Nat → Option AEx) (hbr : ∀ j, br j ≠ some .normal) (h0 : Hb 0 = H) (hfree : ∀ j i, (n :: p) <:+ i.key → Hb j i = none)
    (hbody : ∀ j x, xs[j]? = some x → (∀ i, i < j → br i = none) → ∀ l key (w0' : Base), w0'.w = w0.w → (n :: p) <:+ key → CodeOk P w0' (some l) key assign ⟨setPs t ps.toList x, 0, Hb j⟩ (thenR (fun s1 => ∀ w0'' : Base, w0''.w = w0.w → CodeOk P w0'' (some l) key body s1 (roundR (br j) (Hb (j + 1)))) fun _ _ => False))
    (hall : (∀ i, i < xs.length → br i = none) → R .normal ⟨t, n + 1, Hb xs.length⟩) (hstop : ∀ j c, j < xs.length → (∀ i, i < j → br i = none) → br j = some c → R c ⟨t, n + 1, Hb (j + 1)⟩) :
    CodeOk P w0 none p (.rangeFunc g ps assign body) ⟨t, n, H⟩ R := by
  intro G0 G w a hs hr hf hd Qc hB
  simp only at hs hr hf
  have hgv := rep_eval hr g
  rw [hg] at hgv
  simp only [Rep, RepL] at hgv
  obtain ⟨fi, ca, hev, rfl, hca⟩ := hgv
  refine wpIn_rangeFunc (F := fz none) (n := 0) fun fn _ => ?_
  -- the two blocks
  obtain ⟨rec, hrec⟩ : ∃ rec, rec = mkRec fn a.tmps ps assign body w.heap.size := ⟨_, rfl⟩
  obtain ⟨w1, hw1⟩ : ∃ w1, w1 = (w.alloc (.deferred (some []))).alloc (.loop (rec .ready none)) := ⟨_, rfl⟩
  have hsz1 : (w.alloc (.deferred (some []))).heap.size = w.heap.size + 1 := World.size_alloc _ _
  have hL1 : w1.heap[w.heap.size + 1]? = some (.loop (rec .ready none)) := by
    rw [hw1, ← hsz1]
    exact World.alloc_heap_new _ _
  have hD1 : w1.heap[w.heap.size]? = some (.deferred (some [])) := by
    rw [hw1]
    exact (Below.heap_alloc _ _ _ (by rw [hsz1]; omega)).trans (World.alloc_heap_new w _)
  have hsA : Sim w0 G H w1 := by rw [hw1]; exact (hs.alloc _).alloc _
  have hbase := hs.base
  have hρG : ∀ b, w.heap.size ≤ b → G.ρ b = none := fun b hb => by
    cases e : G.ρ b with
    | none => rfl
    | some L =>
      obtain ⟨_, o, h2, _⟩ := hs.r b L e
      have := (Array.getElem?_eq_some_iff.1 h2).1
      omega
  have hρ0 : ∀ b, w.heap.size ≤ b → w0.G.ρ b = none := fun b hb => by
    cases e : w0.G.ρ b with
    | none => rfl
    | some L =>
      have := hs.g.ρ _ _ e
      rw [hρG b hb] at this
      cases this
  obtain ⟨idr, hidr⟩ : ∃ idr : Id, idr = ⟨w.heap.size + 1, 0 :: n :: p, 0⟩ := ⟨_, rfl⟩
  obtain ⟨idd, hidd⟩ : ∃ idd : Id, idd = ⟨w.heap.size + 1, 0 :: 0 :: n :: p, 0⟩ := ⟨_, rfl⟩
  have hsr : (n :: p) <:+ idr.key := by rw [hidr]; exact List.suffix_cons _ _
  have hsd : (n :: p) <:+ idd.key := by rw [hidd]; exact (List.suffix_cons _ _).trans (List.suffix_cons _ _)
  have hne : idr ≠ idd := by
    rw [hidr, hidd]
    intro e
    have := congrArg (fun i : Id => i.key.length) e
    simp at this
  have hfr0 := hf n (Nat.le_refl _)
  obtain ⟨cst, hcst⟩ : ∃ cst : AEx, ∀ j c, j < xs.length → (∀ i, i < j → br i = none) → br j = some c → c = cst := by
    rcases first_stop br xs.length with hA | ⟨j0, c0, h1, h2, h3⟩
    · exact ⟨.ret, fun j c hj _ e => by rw [hA j hj] at e; cases e⟩
    · refine ⟨c0, fun j c hj hp e => ?_⟩
      have : j = j0 := by
        rcases Nat.lt_trichotomy j j0 with h | h | h
        · rw [h2 j h] at e; cases e
        · exact h
        · rw [hp j0 h] at h3; cases h3
      rw [this, h3] at e
      cases e
      rfl
  obtain ⟨L, hL⟩ : ∃ L : List (Option Id × Obj), L = [(some idr, .loop (rec .ready none)), (some idd, .loop (rec .done (some cst.code)))] := ⟨_, rfl⟩
  have hHd : H idd = none := by rw [← h0]; exact hfree 0 _ hsd
  have q1 : Sim w0 (G.withτ idd none) H w1 := hsA.newTok idd (hfr0 idd hsd).2 none (fun _ _ h => h) (fun _ _ h => h) (fun b m c T e => by cases e)
  have hτr1 : (G.withτ idd none).τ idr = none := by simp [Gh.withτ, hne, (hfr0 idr hsr).2]
  have q2 : Sim w0 ((G.withτ idd none).withτ idr none) (H.upd idr (some .tok)) w1 := q1.newTok idr hτr1 none (fun i avs e => by
      by_cases hi : i = idr
      · subst hi; rw [Hp.upd_same] at e; cases e
      · rwa [Hp.upd_ne _ _ hi] at e) (fun i hi e => by rwa [Hp.upd_ne _ _ hi] at e) (fun b m c T e => by cases e)
  have hnl : ∀ (r : Loop) cs T f, Obj.loop r ≠ .cells cs T f := fun r cs T f e => by cases e
  have q3 := q2.pin (D := w.heap.size + 1) (L := L) hL1 (hnl _) (by omega) (.inl (hρ0 _ (by omega))) (by
    subst hL
    intro x hx
    simp only [List.mem_cons, List.not_mem_nil, or_false] at hx
    rcases hx with rfl | rfl
    · exact ⟨⟨by rw [hidr], by simp [Gh.withτ]⟩, fun _ => rfl⟩
    · exact ⟨⟨by rw [hidd], by simp [Gh.withτ, Ne.symm hne]⟩, fun e => by rw [Hp.upd_ne _ _ (Ne.symm hne), hHd] at e; cases e⟩)
  have q4 := (q3.pin (D := w.heap.size) (L := [(none, .deferred (some []))]) hD1 (by simp) (by omega) (.inl (hρ0 _ (by omega))) (by simp [pinned])).rebase
  have hle1 : G.Le { ({ ((G.withτ idd none).withτ idr none) with ρ := fun b => if b = w.heap.size + 1 then some L else ((G.withτ idd none).withτ idr none).ρ b } : Gh) with ρ := fun b => if b = w.heap.size then some [(none, .deferred (some []))] else (if b = w.heap.size + 1 then some L else ((G.withτ idd none).withτ idr none).ρ b) } := by
    refine ⟨fun _ _ h => h, fun _ _ h => h, ((Gh.le_withτ (x := none) (hfr0 idd hsd).2).trans (Gh.le_withτ (x := none) hτr1)).τ, fun b o e => ?_⟩
    have hb : b < w.heap.size := by
      rcases Nat.lt_or_ge b w.heap.size with h | h
      · exact h
      · rw [hρG b h] at e; cases e
    simp only [if_neg (show b ≠ w.heap.size by omega), if_neg (show b ≠ w.heap.size + 1 by omega)]
    exact e
  obtain ⟨G1, hG1⟩ : ∃ G1 : Gh, G1 = { ({ ((G.withτ idd none).withτ idr none) with ρ := fun b => if b = w.heap.size + 1 then some L else ((G.withτ idd none).withτ idr none).ρ b } : Gh) with ρ := fun b => if b = w.heap.size then some [(none, .deferred (some []))] else (if b = w.heap.size + 1 then some L else ((G.withτ idd none).withτ idr none).ρ b) } := ⟨_, rfl⟩
  rw [← hG1] at q4 hle1
  have hρl : G1.ρ (w.heap.size + 1) = some L := by rw [hG1]; simp
  have hρD : G1.ρ w.heap.size = some [(none, .deferred (some []))] := by rw [hG1]; simp
  have hτr : G1.τ idr = some none := by rw [hG1]; simp [Gh.withτ]
  have hτd : G1.τ idd = some none := by rw [hG1]; simp [Gh.withτ, Ne.symm hne]
  have hnew1 : ∀ i : Id, ¬ (n :: p) <:+ i.key → G1.σ i = G.σ i ∧ G1.τ i = G.τ i := fun i hi => by
    have h1 : i ≠ idr := fun e => hi (by rw [e]; exact hsr)
    have h2 : i ≠ idd := fun e => hi (by rw [e]; exact hsd)
    rw [hG1]
    simp [Gh.withτ, h1, h2]
  have hk : ∀ i : Id, (1 :: n :: p) <:+ i.key → i ≠ idr ∧ i ≠ idd := fun i hi => by
    constructor
    · rintro rfl
      rw [hidr] at hi
      have := hi.eq_of_length (by simp)
      simp at this
    · rintro rfl
      rw [hidd] at hi
      have h3 : (0 :: n :: p) <:+ (0 :: 0 :: n :: p) := List.suffix_cons _ _
      have := (List.suffix_of_suffix_length_le hi h3 (by simp)).eq_of_length (by simp)
      simp at this
  have hfr1 : Fresh G1 (1 :: n :: p) := fun i hi => by
    obtain ⟨h1, h2⟩ := hk i hi
    have := hfr0 i ((List.suffix_cons _ _).trans hi)
    rw [hG1]
    simpa [Gh.withτ, h1, h2] using this
  -- the heaps between the rounds
  obtain ⟨Hs, hHs⟩ : ∃ Hs : Nat → Hp, Hs = fun j => if (∀ i, i < j → br i = none) then (Hb j).upd idr (some .tok) else (Hb j).upd idd (some .tok) := ⟨_, rfl⟩
  obtain ⟨v, hcall⟩ := hit ⟨w0.w, G1⟩ (w.heap.size + 1) (1 :: n :: p) Hs (fun j => (br j).isNone) (fun j x hx hprev key hkey => by
    have hp : ∀ i, i < j → br i = none := fun i hi => by simpa using hprev i hi
    have hy := yield_ok (base := ⟨w0.w, G1⟩) (key := key) (P := P) (l := w.heap.size + 1) (fn := fn) (tmps := a.tmps) (ps := ps) (assign := assign) (body := body) (dn := w.heap.size) (t := t) (x := x) (Hj := Hb j) (Hj1 := Hb (j + 1)) (oc := br j) (cst := cst) (idr := idr) (idd := idd)
      (by rw [← hrec, ← hL]; exact hρl) hτr hτd (by rw [hidr]) (by rw [hidd]) hne (RepL.mono hle1 _ _ hr) (hlen x (List.mem_of_getElem? hx)) (hfree j _ hsr) (hfree (j + 1) _ hsr) (hfree (j + 1) _ hsd)
      (by
        cases e : br j with
        | none => exact .inl rfl
        | some c =>
          have hjl : j < xs.length := (List.getElem?_eq_some_iff.1 hx).1
          have := hcst j c hjl hp e
          subst this
          exact .inr ⟨rfl, fun h => hbr j (by rw [e, h])⟩)
      (fun w0' hw => hbody j x hx hp _ key w0' hw ((List.suffix_cons _ _).trans hkey))
    have e1 : Hs j = (Hb j).upd idr (some .tok) := by rw [hHs]; simp only; rw [if_pos hp]
    have e2 : Hs (j + 1) = if br j = none then (Hb (j + 1)).upd idr (some .tok) else (Hb (j + 1)).upd idd (some .tok) := by
      rw [hHs]
      simp only
      by_cases hj : br j = none
      · rw [if_pos hj, if_pos]
        intro i hi
        by_cases e : i = j
        · rw [e]; exact hj
        · exact hp i (by omega)
      · rw [if_neg hj, if_neg]
        exact fun h => hj (h j (by omega))
    rw [e1, e2]
    exact hy) (fun j i hi => by
    obtain ⟨h1, h2⟩ := hk i hi
    rw [hHs]
    simp only
    split
    · rw [Hp.upd_ne _ _ h1]; exact hfree j i ((List.suffix_cons _ _).trans hi)
    · rw [Hp.upd_ne _ _ h2]; exact hfree j i ((List.suffix_cons _ _).trans hi))
  have hHs0 : Hs 0 = H.upd idr (some .tok) := by
    rw [hHs]
    simp only
    rw [if_pos (fun i hi => by omega), h0]
  have hargs : RepL G1 ([.clo (.yield (w.heap.size + 1)) [] []] ++ caps) (#[Value.func (.yield (w.heap.size + 1)) #[] #[]] ++ ca.toArray).toList := by
    have h1 : RepL G1 [.clo (.yield (w.heap.size + 1)) [] []] [.func (.yield (w.heap.size + 1)) #[] #[]] := repL_one (by simp only [Rep]; exact ⟨[], [], rfl, by simp [RepL], by simp [RepL]⟩)
    have := RepL.append h1 (RepL.mono hle1 _ _ hca)
    simpa using this
  obtain ⟨⟨fnn, cc, k1, k2, k3⟩, hcall⟩ := hcall
  refine ⟨w.heap.size + 1, [mkMark w.heap.size], w1, { target := .fn (.func gf) ca.toArray, args := #[Value.func (.yield (w.heap.size + 1)) #[] #[]] }, w1, gf, #[Value.func (.yield (w.heap.size + 1)) #[] #[]] ++ ca.toArray, w1, ?_, ?_, fun _ _ => trivial, ?_, fun hh => (by cases hh), ?_⟩
  · rw [hw1, hrec]
    exact run_enterLoop_outer _ _ _ _ _
  · simp only [resolve, hev]
    simp [go_sem]
  · simp [invoke, callFunc, program, Sem.run, k1, k2, by simpa using k3]
  · refine calls_fz (hcall G1 w1 _ (by rw [hHs0]; exact q4) hfr1 hargs _ fun G' w' V hl' hn' hs' hv' => ?_)
    -- behind the loop
    have hle : G.Le G' := hle1.trans hl'
    have hg : w0.G.Le G' := hs.g.trans hle
    have hNF : NewF p n G G' := fun i hi => by
      have hi1 : ¬ (n :: p) <:+ i.key := fun h => hi ⟨n, Nat.le_refl _, h⟩
      have hi2 : ¬ (1 :: n :: p) <:+ i.key := fun h => hi1 ((List.suffix_cons _ _).trans h)
      have g1 := hnew1 i hi1
      have g2 := hn' i hi2
      exact ⟨g2.1.trans g1.1, g2.2.trans g1.2⟩
    have hFF : FreshFrom G' p (n + 1) := fun m hm i hi => by
      have hno : ¬ (n :: p) <:+ i.key := fun h => by
        have := (List.suffix_of_suffix_length_le h hi (by simp)).eq_of_length (by simp)
        simp at this
        omega
      have g1 := hnew1 i hno
      have g2 := hn' i fun h => hno ((List.suffix_cons _ _).trans h)
      rw [g2.1, g2.2, g1.1, g1.2]
      exact hf m (by omega) i hi
    have hDef : DefOk G0 G' ([mkMark w.heap.size] ++ a.defers) := by
      obtain ⟨d1, Ds, d2, d3, d4⟩ := hd
      refine ⟨d1.trans hle, w.heap.size :: Ds, by rw [d2]; rfl, List.nodup_cons.2 ⟨fun hm => ?_, d3⟩, fun D hD => ?_⟩
      · have := (d4 _ hm).1
        rw [hρG _ (Nat.le_refl _)] at this
        cases this
      · rcases List.mem_cons.1 hD with rfl | hD
        · refine ⟨hl'.ρ _ _ hρD, ?_⟩
          cases e : G0.ρ w.heap.size with
          | none => rfl
          | some L' =>
            have := d1.ρ _ _ e
            rw [hρG _ (Nat.le_refl _)] at this
            cases this
        · exact ⟨hle.ρ _ _ (d4 D hD).1, (d4 D hD).2⟩
    have hρ' := hl'.ρ _ _ hρl
    obtain ⟨r1, o, r2, _, r4⟩ := hs'.r _ _ hρ'
    have endS : ∀ (Hx : Hp) (rr : Loop) (idf : Id), (idf = idr ∨ idf = idd) → Hx idr = none → Hx idd = none → Sim ⟨w0.w, G1⟩ G' (Hx.upd idf (some .tok)) w' → w'.heap[w.heap.size + 1]? = some (.loop rr) → ∀ o', (∀ cs T f, o' ≠ .cells cs T f) → Sim w0 G' Hx (w'.putObj (w.heap.size + 1) o') := by
      intro Hx rr idf hidf n1 n2 hsx hrr o' ho'
      have hlex : Hx.Le (Hx.upd idf (some .tok)) := Hp.le_upd (Hp.Le.refl _) (by rcases hidf with rfl | rfl <;> assumption)
      have h1 := (hsx.forget hlex).putObj (o' := o') hrr (hnl _) (show (⟨w0.w, G1⟩ : Base).heap.size ≤ w.heap.size + 1 by show w0.heap.size ≤ _; omega) ho' (fun L' e x hx => by
        rw [hρ'] at e
        cases e
        have := r4 x hx
        subst hL
        simp only [List.mem_cons, List.not_mem_nil, or_false] at hx
        rcases hx with rfl | rfl
        · exact ⟨this.1, fun e => by rw [n1] at e; cases e⟩
        · exact ⟨this.1, fun e => by rw [n2] at e; cases e⟩)
      exact h1.base_of hg
    rcases first_stop br xs.length with hA | ⟨j, c, hj, hp, hc⟩
    · have hst : stops (fun j => (br j).isNone) 0 xs.length = xs.length := by
        have := stops_all (fun j => (br j).isNone) xs.length 0 fun i _ h2 => by simp [hA i (by omega)]
        simpa using this
      have hHm : Hs xs.length = (Hb xs.length).upd idr (some .tok) := by rw [hHs]; simp only; rw [if_pos hA]
      rw [hst, hHm] at hs'
      rw [hst, hHm] at r4
      have hrdy : w'.heap[w.heap.size + 1]? = some (.loop (rec .ready none)) := by
        have := (r4 (some idr, .loop (rec .ready none)) (by rw [hL]; simp)).2 (Hp.upd_same _ _ _)
        rw [r2, this]
      refine ⟨none, _, by have := run_endLoop (P := P) hrdy (by rw [hrec]; simp [mkRec]); rw [this, hrec]; rfl, ?_⟩
      exact hB .normal ⟨t, n + 1, Hb xs.length⟩ G' _ _ (hall hA) hle hNF (endS _ _ idr (.inl rfl) (hfree _ _ hsr) (hfree _ _ hsd) hs' hrdy _ (hnl _)) (RepL.mono hle _ _ hr) hDef hFF (Nat.le_succ _)
    · have hst : stops (fun j => (br j).isNone) 0 xs.length = j + 1 := stops_at _ j (by simp [hc]) xs.length 0 (by omega) (by omega) fun i _ h2 => by simp [hp i h2]
      have hHm : Hs (j + 1) = (Hb (j + 1)).upd idd (some .tok) := by
        rw [hHs]
        simp only
        rw [if_neg]
        intro h
        rw [h j (by omega)] at hc
        cases hc
      rw [hst, hHm] at hs'
      rw [hst, hHm] at r4
      have hdone : w'.heap[w.heap.size + 1]? = some (.loop (rec .done (some cst.code))) := by
        have := (r4 (some idd, .loop (rec .done (some cst.code))) (by rw [hL]; simp)).2 (Hp.upd_same _ _ _)
        rw [r2, this]
      have hcc := hcst j c hj hp hc
      subst hcc
      refine ⟨some c.code, _, by have := run_endLoop (P := P) hdone (by rw [hrec]; simp [mkRec]); rw [this, hrec]; rfl, ?_⟩
      have hend := hB c ⟨t, n + 1, Hb (j + 1)⟩ G' _ { a with defers := [mkMark w.heap.size] ++ a.defers } (hstop j c hj hp hc) hle hNF (endS _ _ idd (.inr rfl) (hfree _ _ hsr) (hfree _ _ hsd) hs' hdone (.loop { rec .done (some c.code) with state := .exhausted }) (hnl _)) (RepL.mono hle _ _ hr) hDef hFF (Nat.le_succ _)
      subst hrec
      cases c with
      | normal => exact absurd hc (hbr j)
      | ret => exact wpIn_ret hend
      | exit id => exact wpIn_exit hend
/-- The same, of which the end is told. -/
theorem rangeDet {p : List Nat} {g : Operand} {ps : Array Tmp} {assign body : Code} {t : List AV} {n : Nat} {H : Hp} {R : AEx → FS → Prop} {gf : FuncId} {caps : List AV} {xs : List (List AV)} (hg : evA t g = .clo (.func gf) [] caps) (hit : Iter P gf caps xs)
    (hlen : ∀ x ∈ xs, x.length = ps.size) (Hb : Nat → Hp) (br : Nat → Option AEx) (hbr : ∀ j, br j ≠ some .normal) (h0 : Hb 0 = H) (hfree : ∀ j i, (n :: p) <:+ i.key → Hb j i = none)
    (hbody : ∀ j x, xs[j]? = some x → (∀ i, i < j → br i = none) → ∀ l key (w0' : Base), w0'.w = w0.w → (n :: p) <:+ key → CodeOk P w0' (some l) key assign ⟨setPs t ps.toList x, 0, Hb j⟩ (thenR (fun s1 => ∀ w0'' : Base, w0''.w = w0.w → CodeOk P w0'' (some l) key body s1 (roundR (br j) (Hb (j + 1)))) fun _ _ => False))
    (hall : (∀ i, i < xs.length → br i = none) → R .normal ⟨t, n + 1, Hb xs.length⟩) (hstop : ∀ j c, j < xs.length → (∀ i, i < j → br i = none) → br j = some c → R c ⟨t, n + 1, Hb (j + 1)⟩) :
    DetOk P w0 none p (.rangeFunc g ps assign body) ⟨t, n, H⟩ R := by
  rcases first_stop br xs.length with hA | ⟨j, c, h1, h2, h3⟩
  · refine ⟨_, _, hall hA, rangeOk hg hit hlen Hb br hbr h0 hfree hbody (fun _ => ⟨rfl, rfl⟩) fun j c hj _ hc => ?_⟩
    rw [hA j hj] at hc
    cases hc
  · refine ⟨_, _, hstop j c h1 h2 h3, rangeOk hg hit hlen Hb br hbr h0 hfree hbody (fun hA => ?_) fun i d hi hp hd => ?_⟩
    · rw [hA j h1] at h3
      cases h3
    · have hij : i = j := by
        rcases Nat.lt_trichotomy i j with h | h | h
        · rw [h2 i h] at hd; cases hd
        · exact h
        · rw [hp j h] at h3; cases h3
      subst hij
      rw [h3] at hd
      cases hd
      exact ⟨rfl, rfl⟩
end
end Go.Proofs.YtkdendaohlnlcaaDoor.Av
