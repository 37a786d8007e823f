/- Regions, in the model: the text's order, and every order that may be drawn. No condition. -/
import Derived.Test.YtkdendaohlnlcaaDoorAv10
namespace Go.Proofs.YtkdendaohlnlcaaDoor.Av
set_option linter.unusedVariables false
set_option linter.unusedSimpArgs false
open Go.RowKit

section
variable {P : Program} {w0 : Base} {ops : Array Oper} {kp : List Nat}

theorem New.up {i : Nat} {k : List Nat} {G G' : Gh} (h : New (i :: k) G G') : New k G G' := fun j hj => h j fun hs => hj ((List.suffix_cons i k).trans hs)
theorem New.trans {k : List Nat} {A B C : Gh} (h : New k A B) (g : New k B C) : New k A C := fun j hj => ⟨((g j hj).1).trans (h j hj).1, ((g j hj).2).trans (h j hj).2⟩
theorem Fresh.other {i j : Nat} {k : List Nat} {G G' : Gh} (h : Fresh G (j :: k)) (hn : New (i :: k) G G') (hij : i ≠ j) : Fresh G' (j :: k) := fun d hd => by
  have hno : ¬ (i :: k) <:+ d.key := fun hi => by
    have := List.suffix_of_suffix_length_le hi hd (by simp)
    have := this.eq_of_length (by simp)
    simp at this
    exact hij this
  rw [(hn d hno).1, (hn d hno).2]
  exact h d hd

theorem run_list {Q : Exit → Act → World → Prop} : ∀ (tr : List TE) (s s' : S), Run P w0 ops kp tr s s' → (∀ x ∈ tr, ops[x.i]? = some x.o) → (tr.map (·.i)).Nodup →
    ∀ (G : Gh) (a : Act) (w : World), Sim w0 G s.H w → RepL G s.tmps a.tmps.toList → (∀ x ∈ tr, Fresh G (x.i :: kp)) →
      (∀ G' a' w', G.Le G' → New kp G G' → Sim w0 G' s'.H w' → RepL G' s'.tmps a'.tmps.toList → a'.defers = a.defers → Q .normal a' w') → ∀ ro, wpOpsIn (fz ro) 0 P ops Q (tr.map (·.i)) a w
  | [], s, s', h, _, _, G, a, w, hs, hr, _, hQ => by
    intro ro
    simp only [Run] at h
    subst h
    exact hQ G a w (Gh.Le.refl G) (New.refl _ G) hs hr rfl
  | x :: tr, s, s', h, hi, hn, G, a, w, hs, hr, hf, hQ => by
    intro ro
    obtain ⟨s1, h1, h2⟩ := h
    simp only [List.map_cons, List.nodup_cons] at hn
    rw [List.map_cons, wpOpsIn_cons]
    refine step_ok h1 (hi x (by simp)) hs hr (hf x (by simp)) (fun G' a' w' hl hnw hs' hr' hd => ?_) ro
    refine run_list tr s1 s' h2 (fun y hy => hi y (by simp [hy])) hn.2 G' a' w' hs' hr' (fun y hy => (hf y (by simp [hy])).other hnw fun he => hn.1 (by rw [he]; exact List.mem_map_of_mem hy)) (fun G2 a2 w2 hl2 hn2 hs2 hr2 hd2 => ?_) ro
    exact hQ G2 a2 w2 (hl.trans hl2) (hnw.up.trans hn2) hs2 hr2 (hd2.trans hd)

/-! ### orders -/
def edgesBack (ops : Array Oper) : Prop := ∀ (k : Nat) o, ops[k]? = some o → ∀ e ∈ o.after, Region.binds .any e = true → e.on < k
def closure (ops : Array Oper) (B : Nat → Nat) : Prop := ∀ (k : Nat) o, ops[k]? = some o → ∀ y, (B k).testBit y = true → ∃ e ∈ o.after, Region.binds .any e = true ∧ (e.on = y ∨ (B e.on).testBit y = true)
def closed (ops : Array Oper) (listed : Array Bool) : Prop := ∀ (k : Nat) o, ops[k]? = some o → listed.getD k false = true → ∀ e ∈ o.after, Region.binds .any e = true → listed.getD e.on false = true

theorem closed_bit {B : Nat → Nat} (hb : edgesBack ops) (hc : closure ops B) {listed : Array Bool} (hcl : closed ops listed) : ∀ (k : Nat) o, ops[k]? = some o → listed.getD k false = true → ∀ y, (B k).testBit y = true → listed.getD y false = true := by
  intro k
  induction k using Nat.strongRecOn with
  | _ k ih =>
    intro o ho hk y hy
    obtain ⟨e, he, hbe, h1⟩ := hc k o ho y hy
    have hl := hcl k o ho hk e he hbe
    rcases h1 with rfl | h1
    · exact hl
    · have hlt := hb k o ho e he hbe
      have hlt2 : k < ops.size := (Array.getElem?_eq_some_iff.1 ho).1
      exact ih e.on hlt ops[e.on] (by simp [show e.on < ops.size by omega]) hl y h1

theorem ready_bit {B : Nat → Nat} (hb : edgesBack ops) (hc : closure ops B) {listed : Array Bool} (hcl : closed ops listed) {i : Nat} (hi : i ∈ Region.ready .any ops listed) {y : Nat} (hy : (B i).testBit y = true) : listed.getD y false = true := by
  obtain ⟨h0, o, ho, hall⟩ := mem_ready.1 hi
  obtain ⟨e, he, hbe, h1⟩ := hc i o ho y hy
  have hl := hall e he hbe
  rcases h1 with rfl | h1
  · exact hl
  · have hlt := hb i o ho e he hbe
    have hlt2 : i < ops.size := (Array.getElem?_eq_some_iff.1 ho).1
    exact closed_bit hb hc hcl e.on ops[e.on] (by simp [show e.on < ops.size by omega]) hl y h1

def pairsOk (ops : Array Oper) (B : Nat → Nat) (x y : TE) : Prop := (B y.i).testBit x.i = true ∨ (x.o.apart ops y.o = true ∧ compat x.ev y.ev)

theorem run_any {Q : Exit → Act → World → Prop} {B : Nat → Nat} (hb : edgesBack ops) (hc : closure ops B) : ∀ (fuel : Nat) (tr : List TE) (listed : Array Bool) (s s' : S), tr.length = fuel → Run P w0 ops kp tr s s' → (∀ x ∈ tr, ops[x.i]? = some x.o) →
    (tr.map (·.i)).Pairwise (· < ·) → listed.size = ops.size → (∀ i, i < ops.size → (listed.getD i true = false ↔ i ∈ tr.map (·.i))) → closed ops listed → tr.Pairwise (pairsOk ops B) →
    ∀ (G : Gh) (a : Act) (w : World), Sim w0 G s.H w → RepL G s.tmps a.tmps.toList → (∀ x ∈ tr, Fresh G (x.i :: kp)) →
      (∀ G' a' w', G.Le G' → New kp G G' → Sim w0 G' s'.H w' → RepL G' s'.tmps a'.tmps.toList → a'.defers = a.defers → Q .normal a' w') → ∀ ro, wpAnyIn (fz ro) 0 P .any ops Q fuel listed a w
  | 0, tr, listed, s, s', hlen, h, hi, _, _, hli, _, _, G, a, w, hs, hr, _, hQ => by
    intro ro
    obtain rfl := List.eq_nil_of_length_eq_zero hlen
    simp only [Run] at h
    subst h
    refine ⟨?_, hQ G a w (Gh.Le.refl G) (New.refl _ G) hs hr rfl⟩
    cases hrd : Region.ready .any ops listed with
    | nil => rfl
    | cons i l =>
      have : i ∈ Region.ready .any ops listed := by rw [hrd]; simp
      obtain ⟨h0, o, ho, _⟩ := mem_ready.1 this
      have := (hli i (Array.getElem?_eq_some_iff.1 ho).1).1 h0
      simp at this
  | fuel + 1, tr, listed, s, s', hlen, h, hi, hsort, hsz, hli, hcl, hp, G, a, w, hs, hr, hf, hQ => by
    intro ro
    refine ⟨fun hnil => ?_, fun i hri => ?_⟩
    · -- the first that is left is ready
      exfalso
      cases tr with
      | nil => simp at hlen
      | cons x tr =>
        have hx := hi x (by simp)
        have hxl : x.i < ops.size := (Array.getElem?_eq_some_iff.1 hx).1
        have : x.i ∈ Region.ready .any ops listed := by
          refine mem_ready.2 ⟨(hli x.i hxl).2 (by simp), x.o, hx, fun e he hbe => ?_⟩
          have hlt := hb x.i x.o hx e he hbe
          have hel : e.on < ops.size := by omega
          by_cases hle : listed.getD e.on true = false
          · have hm := (hli e.on hel).1 hle
            simp only [List.map_cons, List.mem_cons] at hm
            rcases hm with hm | hm
            · omega
            · simp only [List.map_cons, List.pairwise_cons] at hsort
              have := hsort.1 _ hm
              omega
          · have hel2 : e.on < listed.size := by omega
            simp only [Array.getD_eq_getD_getElem?, hel2, getElem?_pos, Option.getD_some] at hle ⊢
            simpa using hle
        rw [hnil] at this
        simp at this
    · obtain ⟨h0, o, ho, hall⟩ := mem_ready.1 hri
      have hil : i < ops.size := (Array.getElem?_eq_some_iff.1 ho).1
      have hm := (hli i hil).1 h0
      obtain ⟨x, hx, rfl⟩ := List.mem_map.1 hm
      obtain ⟨t1, t2, rfl⟩ := List.append_of_mem hx
      have hfront := Run.front t1 (x := x) (fun y hy => by
        have hpy : pairsOk ops B y x := (List.pairwise_append.1 hp).2.2 y hy x (by simp)
        rcases hpy with hpy | hpy
        · have hyl := hi y (by simp [hy])
          have := ready_bit hb hc hcl hri hpy
          have h2 := (hli y.i (Array.getElem?_eq_some_iff.1 hyl).1).2 (by simp only [List.map_append, List.mem_append]; exact .inl (List.mem_map_of_mem hy))
          have hel2 : y.i < listed.size := by have := (Array.getElem?_eq_some_iff.1 hyl).1; omega
          simp only [Array.getD_eq_getD_getElem?, hel2, getElem?_pos, Option.getD_some] at this h2
          rw [this] at h2
          cases h2
        · exact hpy) h
      obtain ⟨s1, h1, h2⟩ := hfront
      have hsub : (t1 ++ t2).Sublist (t1 ++ x :: t2) := List.Sublist.append (List.Sublist.refl _) (List.sublist_cons_self _ _)
      have hnd : x.i ∉ (t1 ++ t2).map (·.i) := by
        intro hmem
        rw [List.map_append, List.map_cons] at hsort
        rw [List.map_append, List.mem_append] at hmem
        have hs2 := List.pairwise_append.1 hsort
        rcases hmem with hmem | hmem
        · have := hs2.2.2 _ hmem x.i (by simp)
          omega
        · have := (List.pairwise_cons.1 hs2.2.1).1 _ hmem
          omega
      refine step_ok h1 (hi x hx) hs hr (hf x hx) (fun G' a' w' hl hnw hs' hr' hd => ?_) ro
      refine run_any hb hc fuel (t1 ++ t2) _ s1 s' (by simp at hlen ⊢; omega) h2 (fun y hy => hi y (hsub.subset hy)) (hsort.sublist (hsub.map _)) (by simpa using hsz) ?_ ?_ (hp.sublist hsub) G' a' w' hs' hr' ?_ ?_ ro
      · intro j hj
        by_cases hji : j = x.i
        · subst hji
          constructor
          · intro he
            rw [Array.getD_eq_getD_getElem?] at he
            simp [hsz, hj] at he
          · intro he
            exact absurd he hnd
        · rw [getD_set_ne true (Ne.symm hji), hli j hj]
          simp only [List.map_append, List.map_cons, List.mem_append, List.mem_cons]
          constructor
          · rintro (h | h | h)
            · exact .inl h
            · exact absurd h hji
            · exact .inr h
          · rintro (h | h)
            · exact .inl h
            · exact .inr (.inr h)
      · intro j oj hoj hlj e he hbe
        by_cases hji : j = x.i
        · subst hji
          rw [ho] at hoj
          cases hoj
          exact getD_set_true (hall e he hbe)
        · rw [getD_set_ne false (Ne.symm hji)] at hlj
          exact getD_set_true (hcl j oj hoj hlj e he hbe)
      · intro y hy
        exact (hf y (hsub.subset hy)).other hnw fun he => hnd (by rw [he]; exact List.mem_map_of_mem hy)
      · intro G2 a2 w2 hl2 hn2 hs2 hr2 hd2
        exact hQ G2 a2 w2 (hl.trans hl2) (hnw.up.trans hn2) hs2 hr2 (hd2.trans hd)

/-! ### what is asked of a region's text -/
def accB (B : Nat → Nat) (l : List Edge) : Nat := l.foldl (fun s e => if Region.binds .any e then s ||| (2 ^ e.on ||| B e.on) else s) 0
def beforeB (ops : Array Oper) : Nat → Nat := fun k => (Region.before ops).getD k 0

theorem accB_bit (B : Nat → Nat) (y : Nat) : ∀ (l : List Edge) (s : Nat), (l.foldl (fun s e => if Region.binds .any e then s ||| (2 ^ e.on ||| B e.on) else s) s).testBit y = true →
    s.testBit y = true ∨ ∃ e ∈ l, Region.binds .any e = true ∧ (e.on = y ∨ (B e.on).testBit y = true)
  | [], s, h => .inl h
  | e :: l, s, h => by
    simp only [List.foldl_cons] at h
    rcases accB_bit B y l _ h with h1 | ⟨e', he', h2⟩
    · by_cases hbe : Region.binds .any e = true
      · simp only [hbe, if_true, Nat.testBit_or, Bool.or_eq_true] at h1
        rcases h1 with h1 | h1 | h1
        · exact .inl h1
        · rw [Nat.testBit_two_pow] at h1
          exact .inr ⟨e, by simp, hbe, .inl (by simpa using h1)⟩
        · exact .inr ⟨e, by simp, hbe, .inr h1⟩
      · simp only [hbe, Bool.false_eq_true, if_false] at h1
        exact .inl h1
    · exact .inr ⟨e', by simp [he'], h2⟩

/-- The region's text is such that every order will do, as long as what reads variables keeps out of the way of what writes them. -/
def drawOk (ops : Array Oper) : Bool :=
  (List.range ops.size).all fun k => match ops[k]? with
    | none => true
    | some o => (o.after.toList.all fun e => !Region.binds .any e || decide (e.on < k)) && (beforeB ops k == accB (beforeB ops) o.after.toList) &&
      ((List.range k).all fun j => (beforeB ops k).testBit j || match ops[j]? with
        | none => true
        | some oj => oj.apart ops o)

theorem drawOk_spec (h : drawOk ops = true) : edgesBack ops ∧ closure ops (beforeB ops) ∧ ∀ (j k : Nat) oj o, j < k → ops[j]? = some oj → ops[k]? = some o → (beforeB ops k).testBit j = true ∨ oj.apart ops o = true := by
  have hall : ∀ k o, ops[k]? = some o → (∀ e ∈ o.after, Region.binds .any e = true → e.on < k) ∧ beforeB ops k = accB (beforeB ops) o.after.toList ∧ ∀ j oj, j < k → ops[j]? = some oj → (beforeB ops k).testBit j = true ∨ oj.apart ops o = true := by
    intro k o ho
    have hk : k < ops.size := (Array.getElem?_eq_some_iff.1 ho).1
    simp only [drawOk, List.all_eq_true, List.mem_range] at h
    have h1 := h k hk
    simp only [ho, Bool.and_eq_true, List.all_eq_true, List.mem_range, Bool.or_eq_true, Bool.not_eq_true', decide_eq_true_eq, beq_iff_eq] at h1
    obtain ⟨⟨h2, h3⟩, h4⟩ := h1
    refine ⟨fun e he hb => ?_, h3, fun j oj hj hoj => ?_⟩
    · rcases h2 e (by simpa using he) with h5 | h5
      · rw [hb] at h5; cases h5
      · exact h5
    · have := h4 j hj
      simp only [hoj] at this
      exact this
  refine ⟨fun k o ho => (hall k o ho).1, fun k o ho y hy => ?_, fun j k oj o hjk hj hk => (hall k o hk).2.2 j oj hjk hj⟩
  rw [(hall k o ho).2.1] at hy
  rcases accB_bit _ y _ 0 hy with h1 | ⟨e, he, h1⟩
  · simp at h1
  · exact ⟨e, by simpa using he, h1⟩

/-- A region whose order is drawn. -/
theorem wp_drawn {id : Nat} {Q : Exit → Act → World → Prop} (hm : P.follows .mixedOrders = true) (hd : drawOk ops = true) {tr : List TE} {s s' : S} (h : Run P w0 ops kp tr s s') (htr : tr.map (fun x => (x.i, x.o)) = ops.toList.zipIdx.map (fun x => (x.2, x.1)))
    (hp : tr.Pairwise fun x y => (beforeB ops y.i).testBit x.i = true ∨ compat x.ev y.ev)
    {G : Gh} {a : Act} {w : World} (hs : Sim w0 G s.H w) (hr : RepL G s.tmps a.tmps.toList) (hf : ∀ i, Fresh G (i :: kp))
    (hQ : ∀ G' a' w', G.Le G' → New kp G G' → Sim w0 G' s'.H w' → RepL G' s'.tmps a'.tmps.toList → a'.defers = a.defers → Q .normal a' w') : ∀ ro, (Code.region id ops true).wpIn (fz ro) 0 P Q a w := by
  intro ro
  obtain ⟨hb, hc, hap⟩ := drawOk_spec hd
  have hget : ∀ x ∈ tr, ops[x.i]? = some x.o := fun x hx => by
    have : (x.i, x.o) ∈ ops.toList.zipIdx.map (fun x => (x.2, x.1)) := by rw [← htr]; exact List.mem_map_of_mem (f := fun x => (x.i, x.o)) hx
    obtain ⟨y, hy, he⟩ := List.mem_map.1 this
    simp only [Prod.mk.injEq] at he
    have := List.mem_zipIdx_iff_getElem?.1 hy
    rw [← he.1, ← he.2]
    simpa using this
  have hidx : tr.map (·.i) = List.range ops.size := by
    have h1 := congrArg (List.map Prod.fst) htr
    rw [List.map_map, List.map_map] at h1
    have e1 : (Prod.fst ∘ fun x : TE => (x.i, x.o)) = fun x : TE => x.i := rfl
    have e2 : (Prod.fst ∘ fun x : Oper × Nat => (x.2, x.1)) = Prod.snd := rfl
    rw [e1, e2, List.zipIdx_map_snd] at h1
    rw [h1, List.range_eq_range']
    simp
  have hsort : (tr.map (·.i)).Pairwise (· < ·) := by rw [hidx]; exact List.pairwise_lt_range
  refine wpIn_region_any hm ?_
  refine run_any hb hc ops.size tr (Array.replicate ops.size false) s s' ?_ h hget hsort (by simp) ?_ ?_ ?_ G a _ hs.drew hr (fun x _ => hf x.i) hQ ro
  · have := congrArg List.length hidx
    simpa using this
  · intro i hi
    rw [hidx]
    simp [hi]
  · intro k o _ hk
    rw [Array.getD_eq_getD_getElem?] at hk
    have hfalse : (Array.replicate ops.size false)[k]?.getD false = false := by
      rw [Array.getElem?_replicate]
      split <;> rfl
    rw [hfalse] at hk
    cases hk
  · have hs2 : tr.Pairwise (fun x y => x.i < y.i) := List.pairwise_map.1 hsort
    refine List.Pairwise.imp_of_mem (fun {x y} hx hy hxy => ?_) (List.pairwise_and_iff.2 ⟨hp, hs2⟩)
    rcases hxy.1 with h1 | h1
    · exact .inl h1
    · rcases hap x.i y.i x.o y.o hxy.2 (hget x hx) (hget y hy) with h2 | h2
      · exact .inl h2
      · exact .inr ⟨h2, h1⟩

end
end Go.Proofs.YtkdendaohlnlcaaDoor.Av
