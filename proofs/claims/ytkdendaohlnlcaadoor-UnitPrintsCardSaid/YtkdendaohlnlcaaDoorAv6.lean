/- Structs and arrays that are built; all operations without memory of their own in one. No condition. -/
import Derived.Test.YtkdendaohlnlcaaDoorAv5
import Derived.Laws.Tables
namespace Go.Proofs.YtkdendaohlnlcaaDoor.Av
set_option linter.unusedVariables false
set_option linter.unusedSimpArgs false
open Go.RowKit

section
variable {P : Program} {tab : Tab}

theorem lay_ok {G : Gh} : ∀ (as : List AV) (us : List Value) (cells : List AV) (vs : Array Value) (off k : Nat), RepL G as us → RepL G cells vs.toList →
    RepL G (layAt cells (off + k) as) ((us.zipIdx k).foldl (fun cs (c : Value × Nat) => cs.setIfInBounds (off + c.2) c.1) vs).toList
  | [], us, cells, vs, off, k, h, hc => by
    simp only [RepL] at h
    subst h
    simpa [layAt] using hc
  | a :: as, us, cells, vs, off, k, h, hc => by
    simp only [RepL] at h
    obtain ⟨u, us', rfl, h1, h2⟩ := h
    simp only [layAt, List.zipIdx_cons, List.foldl_cons]
    have := lay_ok as us' (cells.set (off + k) a) (vs.setIfInBounds (off + k) u) off (k + 1) h2 (by rw [Array.toList_setIfInBounds]; exact hc.set h1 _)
    simpa [Nat.add_assoc] using this

theorem layAt_length : ∀ (vs : List AV) (cs : List AV) (off : Nat), (layAt cs off vs).length = cs.length
  | [], cs, off => rfl
  | v :: vs, cs, off => by simp [layAt, layAt_length vs]

def RepP (G : Gh) : List (Nat × AV) → List (Nat × Value) → Prop
  | [], ys => ys = []
  | x :: xs, ys => ∃ V us, ys = (x.1, V) :: us ∧ Rep G x.2 V ∧ RepP G xs us

theorem fill_ok {G : Gh} {pa pc : Nat → Option (Nat × Nat)} (hp : ∀ i q, pa i = some q → pc i = some q) : ∀ (parts : List (Nat × AV)) (qs : List (Nat × Value)) (cells cs' : List AV) (vs : Array Value),
    RepP G parts qs → RepL G cells vs.toList → fillA pa cells parts = some cs' → ∃ vs', Instr.fill pc vs qs = some vs' ∧ RepL G cs' vs'.toList
  | [], qs, cells, cs', vs, h, hc, e => by
    simp only [RepP] at h
    subst h
    simp only [fillA, Option.some.injEq] at e
    subst e
    exact ⟨vs, rfl, hc⟩
  | (i, v) :: parts, qs, cells, cs', vs, h, hc, e => by
    simp only [RepP] at h
    obtain ⟨V, us, rfl, h1, h2⟩ := h
    simp only [fillA] at e
    split at e <;> try cases e
    rename_i off size hpl
    split at e <;> try cases e
    rename_i hcond
    have hl1 := h1.cells.length
    have hl2 := hc.length
    obtain ⟨c1, c2⟩ := hcond
    have hlay := lay_ok v.cells V.cells.toList cells vs off 0 h1.cells hc
    obtain ⟨vs', h3, h4⟩ := fill_ok hp parts us (layAt cells off v.cells) cs' (V.cells.zipIdx.foldl (fun cs (c : Value × Nat) => cs.setIfInBounds (off + c.2) c.1) vs) h2 (by
      rw [← Array.foldl_toList, Array.toList_zipIdx]
      simpa using hlay) e
    refine ⟨vs', ?_, h4⟩
    simp only [Instr.fill, hp _ _ hpl]
    rw [if_neg]
    · exact h3
    · simp only [Array.length_toList] at hl1 hl2
      simp
      omega

theorem RepP_of {G : Gh} {ρ : Operand → AV} {e : Operand → Value} : ∀ (parts : List (Nat × Operand)), (∀ p ∈ parts, Rep G (ρ p.2) (e p.2)) → RepP G (parts.map fun p => (p.1, ρ p.2)) (parts.map fun p => (p.1, e p.2))
  | [], _ => by simp [RepP]
  | p :: ps, h => by
    simp only [List.map_cons, RepP]
    exact ⟨_, _, rfl, h p (by simp), RepP_of ps fun q hq => h q (by simp [hq])⟩

theorem places_ok (h : TabOk P tab) : ∀ (F : List Field) (fs : List (Nat × TypeId)), F.map (fun f => (f.offset, f.type)) = fs → (fs.all fun f => (tab f.2).isSome) = true →
    ∃ pl : List (Nat × Nat), F.mapM (fun f => (P.info? f.type).map fun i => (f.offset, i.size)) = some pl ∧ ∀ i q, placeOf tab fs i = some q → pl[i]? = some q
  | [], fs, e, _ => by
    simp only [List.map_nil] at e
    subst e
    exact ⟨[], by simp, by simp [placeOf]⟩
  | f :: F, fs, e, ha => by
    subst e
    simp only [List.map_cons, List.all_cons, Bool.and_eq_true] at ha
    obtain ⟨ti, hti⟩ := Option.isSome_iff_exists.1 ha.1
    obtain ⟨i, d, h1, h2, h3, h4, _⟩ := h _ _ hti
    obtain ⟨pl, e1, e2⟩ := places_ok h F _ rfl ha.2
    refine ⟨(f.offset, i.size) :: pl, by simp [h1, e1], fun j q hj => ?_⟩
    cases j with
    | zero =>
      simp [placeOf, hti] at hj
      simp [h4, hj]
    | succ j =>
      have := e2 j q (by simpa [placeOf] using hj)
      simpa using this

theorem buildA_ok (h : TabOk P tab) {t : TypeId} {parts : List (Nat × AV)} {qs : Array (Nat × Value)} {v : AV} {φ : Prop} (e : buildA tab t parts = some (φ, v)) (G : Gh) (w : World) (hr : RepP G parts qs.toList) :
    ∃ V, (Instr.build t qs).run P w = .ok V w ∧ Rep G v V := by
  unfold buildA at e
  split at e <;> try cases e
  rename_i ti hti
  obtain ⟨i, d, h1, h2, h3, h4, h5, h6⟩ := h _ _ hti
  split at e
  · rename_i fs htd
    split at e <;> try cases e
    rename_i hall
    split at e <;> cases e
    rename_i cs hcs
    obtain ⟨ti_td, a1, a2, z⟩ := ti
    simp only at htd
    subst htd
    obtain ⟨F, hu, hF⟩ := h.struct hti
    obtain ⟨pl, p1, p2⟩ := places_ok h F.toList fs hF hall
    obtain ⟨vs', f1, f2⟩ := fill_ok (pc := (pl.toArray[·]?)) (fun j q hj => by simpa using p2 j q hj) parts qs.toList _ cs z.cells hr (rep_absC G z).cells hcs
    refine ⟨.agg vs', run_build w t qs vs' ?_, by simp only [Rep]; exact ⟨vs'.toList, by simp, f2⟩⟩
    unfold Program.built
    simp only [h1, hu, h6, p1]
    simpa using f1
  · rename_i n el htd
    split at e <;> try cases e
    rename_i te hte
    split at e <;> cases e
    rename_i cs hcs
    obtain ⟨ti_td, a1, a2, z⟩ := ti
    simp only at htd
    subst htd
    have hu := h.array hti
    obtain ⟨ie, de, k1, k2, k3, k4, _⟩ := h _ _ hte
    obtain ⟨vs', f1, f2⟩ := fill_ok (pc := fun i => some (i * te.size, te.size)) (fun j q hj => hj) parts qs.toList _ cs z.cells hr (rep_absC G z).cells hcs
    refine ⟨.agg vs', run_build w t qs vs' ?_, by simp only [Rep]; exact ⟨vs'.toList, by simp, f2⟩⟩
    unfold Program.built
    simp only [h1, hu, h6, k1, k4]
    exact f1
  · cases e

theorem assertA_ok (h : TabOk P tab) {xt a : TypeId} {ok : Bool} {x v : AV} {φ : Prop} (e : assertA tab a ok x = some (φ, v)) (G : Gh) (w : World) {X : Value} (hr : Rep G x X) :
    ∃ V, (Instr.typeAssert X xt a ok).run P w = .ok V w ∧ Rep G v V := by
  unfold assertA at e
  split at e <;> try cases e
  rename_i ti hti
  obtain ⟨i, d, h1, h2, h3, h4, h5, h6⟩ := h _ _ hti
  have hz := h.zeroValue hti w
  split at e
  · cases e
  rename_i hni
  have hnd : ∀ ms, d ≠ .interface ms := by
    rintro ms rfl
    exact hni _ h3.symm
  split at e
  · rename_i t u
    simp only [Rep] at hr
    obtain ⟨U, rfl, hU⟩ := hr
    split at e
    · rename_i hta
      subst hta
      cases e
      refine ⟨if ok then .tuple #[U, .bool true] else U, ?_, ?_⟩
      · unfold Instr.typeAssert
        cases d <;> first | exact absurd rfl (hnd _) | (simp [run_underlying h2])
      · cases ok with
        | true => simp only [if_true, Rep]; exact ⟨[U, .bool true], rfl, by simp only [RepL]; exact ⟨_, _, rfl, hU, _, _, rfl, by simp [Rep], rfl⟩⟩
        | false => simpa using hU
    · rename_i hta
      split at e <;> cases e
      rename_i hok
      subst hok
      refine ⟨.tuple #[ti.zero, .bool false], ?_, ?_⟩
      · unfold Instr.typeAssert
        cases d <;> first | exact absurd rfl (hnd _) | (simp [run_underlying h2, hta, hz])
      · simp only [Rep]
        exact ⟨[ti.zero, .bool false], rfl, by simp only [RepL]; exact ⟨_, _, rfl, rep_absC G _, _, _, rfl, by simp [Rep], rfl⟩⟩
  · simp only [Rep] at hr
    subst hr
    split at e <;> cases e
    rename_i hok
    subst hok
    refine ⟨.tuple #[ti.zero, .bool false], ?_, ?_⟩
    · unfold Instr.typeAssert
      cases d <;> first | exact absurd rfl (hnd _) | (simp [run_underlying h2, hz])
    · simp only [Rep]
      exact ⟨[ti.zero, .bool false], rfl, by simp only [RepL]; exact ⟨_, _, rfl, rep_absC G _, _, _, rfl, by simp [Rep], rfl⟩⟩
  · cases e

theorem minmaxA_ok {mx : Bool} {xs : List AV} {Xs : List Value} {v : AV} {φ : Prop} (e : minmaxA mx xs = some (φ, v)) (G : Gh) (w : World) (ts : Array TypeId) (ty : TypeId) (hr : RepL G xs Xs) :
    ∃ V, (if mx then Builtin.max_ ts ty Xs.toArray else Builtin.min_ ts ty Xs.toArray).run P w = .ok V w ∧ Rep G v V := by
  unfold minmaxA at e
  split at e <;> cases e
  all_goals
    simp only [RepL, Rep] at hr
  · obtain ⟨_, _, rfl, rfl, rfl⟩ := hr
    cases mx <;> exact ⟨_, by simp [Builtin.max_, Builtin.min_]; rfl, by simp [Rep]⟩
  · obtain ⟨_, _, rfl, rfl, _, _, rfl, rfl, rfl⟩ := hr
    cases mx <;> exact ⟨_, by simp [Builtin.max_, Builtin.min_, Builtin.max2, Builtin.min2]; rfl, by simp [Rep]⟩
  · obtain ⟨_, _, rfl, rfl, _, _, rfl, rfl, _, _, rfl, rfl, rfl⟩ := hr
    cases mx <;> exact ⟨_, by simp [Builtin.max_, Builtin.min_, Builtin.max2, Builtin.min2]; rfl, by simp [Rep]⟩

theorem nilCheckA_ok {x v : AV} {φ : Prop} (o : Oper) (xo : Operand) (ho : o.op = .nilCheck xo) (e : nilCheckA x = some (φ, v)) (G : Gh) (w : World) {ev : Operand → Value} (hr : Rep G x (ev xo)) :
    ∃ V, (execOp ev o).run P w = .ok (.value V) w ∧ Rep G v V := by
  unfold nilCheckA at e
  unfold execOp
  simp only [ho]
  generalize ev xo = X at hr
  split at e <;> cases e
  · have hr' := hr
    simp only [Rep] at hr
    obtain ⟨b, _, rfl⟩ := hr
    exact ⟨_, rfl, hr'⟩
  · have hr' := hr
    simp only [Rep] at hr
    obtain ⟨b, rfl, _⟩ := hr
    exact ⟨_, rfl, hr'⟩
  · have hr' := hr
    simp only [Rep] at hr
    obtain ⟨b, rfl, _⟩ := hr
    exact ⟨_, rfl, hr'⟩
  · have hr' := hr
    simp only [Rep] at hr
    obtain ⟨_, _, rfl, _⟩ := hr
    exact ⟨_, rfl, hr'⟩

theorem RepL_map {G : Gh} {ρ : Operand → AV} {e : Operand → Value} : ∀ (xs : List Operand), (∀ x ∈ xs, Rep G (ρ x) (e x)) → RepL G (xs.map ρ) (xs.map e)
  | [], _ => by simp [RepL]
  | x :: xs, h => by
    simp only [List.map_cons, RepL]
    exact ⟨_, _, rfl, h x (by simp), RepL_map xs fun y hy => h y (by simp [hy])⟩

theorem opN_quiet (h : TabOk P tab) {o : Oper} {ρ : Operand → AV} {v : AV} {φ : Prop} (e : opN tab o ρ = some (φ, v)) (hφ : φ) : Quiet P o ρ v := by
  intro G w ev hs hr
  obtain ⟨dst, op, type, pos, after, guard⟩ := o
  cases op
  case move x =>
    simp only [opN, Option.some.injEq, Prod.mk.injEq] at e
    obtain ⟨_, rfl⟩ := e
    exact ⟨_, rfl, hr x (by simp [Op.operands])⟩
  case assign x =>
    simp only [opN, Option.some.injEq, Prod.mk.injEq] at e
    obtain ⟨_, rfl⟩ := e
    exact ⟨_, rfl, hr x (by simp [Op.operands])⟩
  case pick c a b =>
    simp only [opN] at e
    split at e <;> cases e
    rename_i t ht
    have hc := hr c (by simp [Op.operands])
    rw [ht] at hc
    simp only [Rep] at hc
    refine ⟨if t then ev a else ev b, by simp [execOp, hc, asBool], ?_⟩
    cases t
    · exact hr b (by simp [Op.operands])
    · exact hr a (by simp [Op.operands])
  case makeFunc fn first caps =>
    simp only [opN, Option.some.injEq, Prod.mk.injEq] at e
    obtain ⟨_, rfl⟩ := e
    refine ⟨.func fn (first.map ev) (caps.map ev), by simp [execOp, Instr.makeFunc], ?_⟩
    simp only [Rep]
    exact ⟨first.toList.map ev, caps.toList.map ev, by rw [← Array.toList_map, ← Array.toList_map], RepL_map _ fun x hx => hr x (by simp only [Op.operands, Array.toList_append, List.mem_append]; exact .inl hx), RepL_map _ fun x hx => hr x (by simp only [Op.operands, Array.toList_append, List.mem_append]; exact .inr hx)⟩
  case makeInterface t x =>
    simp only [opN] at e
    split at e <;> cases e
    rename_i ti hni hti
    obtain ⟨i, d, h1, h2, h3, h4, h5, h6⟩ := h _ _ hti
    refine ⟨.iface t (ev x), ?_, by simp only [Rep]; exact ⟨_, rfl, hr x (by simp [Op.operands])⟩⟩
    have hnd : ∀ ms, d ≠ .interface ms := by
      rintro ms rfl
      obtain ⟨td, a1, a2, z⟩ := ti
      simp only [tdOf] at h3
      subst h3
      exact hni _ _ _ _ rfl
    cases d <;> first | exact absurd rfl (hnd _) | (simp [execOp, Instr.makeInterface, run_underlying h2])
  case extract x i =>
    simp only [opN] at e
    obtain ⟨V, hV, hR⟩ := extractA_ok (P := P) e G w (hr x (by simp [Op.operands]))
    exact ⟨V, by simp [execOp, hV], hR⟩
  case field t x f =>
    simp only [opN] at e
    obtain ⟨V, hV, hR⟩ := fieldA_ok h e hφ G w (hr x (by simp [Op.operands]))
    exact ⟨V, by simp [execOp, hV], hR⟩
  case fieldAddr t x f =>
    simp only [opN] at e
    obtain ⟨V, hV, hR⟩ := fieldAddrA_ok h e hφ G w (hr x (by simp [Op.operands]))
    exact ⟨V, by simp [execOp, hV], hR⟩
  case indexAddr t x i =>
    simp only [opN] at e
    obtain ⟨V, hV, hR⟩ := indexAddrA_ok h e hφ G w (hr x (by simp [Op.operands])) (hr i (by simp [Op.operands]))
    exact ⟨V, by simp [execOp, hV], hR⟩
  case index t x i =>
    simp only [opN] at e
    obtain ⟨V, hV, hR⟩ := indexA_ok h e hφ G w (hr x (by simp [Op.operands])) (hr i (by simp [Op.operands]))
    exact ⟨V, by simp [execOp, hV], hR⟩
  case load t x =>
    simp only [opN] at e
    obtain ⟨V, hV, hR⟩ := loadA_ok h e hφ G w hs (hr x (by simp [Op.operands]))
    exact ⟨V, by simp [execOp, hV], hR⟩
  case nilCheck x =>
    simp only [opN] at e
    exact nilCheckA_ok _ x rfl e G w (hr x (by simp [Op.operands]))
  case binOp op t x y yt =>
    simp only [opN] at e
    obtain ⟨V, hV, hR⟩ := binA_ok h e hφ G w x y (hr x (by simp [Op.operands])) (hr y (by simp [Op.operands]))
    exact ⟨V, by simp only [execOp, Sem.run_bind, hV, Result.andThen_ok, Sem.run_pure], hR⟩
  case unOp op t x =>
    simp only [opN] at e
    obtain ⟨V, hV, hR⟩ := unA_ok (P := P) e hφ G w (hr x (by simp [Op.operands]))
    exact ⟨V, by simp [execOp, hV], hR⟩
  case convert s d x =>
    simp only [opN] at e
    obtain ⟨V, hV, hR⟩ := convA_ok h e G w (hr x (by simp [Op.operands]))
    exact ⟨V, by simp [execOp, hV], hR⟩
  case typeAssert x xt a ok =>
    simp only [opN] at e
    obtain ⟨V, hV, hR⟩ := assertA_ok (xt := xt) h e G w (hr x (by simp [Op.operands]))
    exact ⟨V, by simp [execOp, hV], hR⟩
  case slice t x lo hi mx =>
    cases mx with
    | some m => simp [opN] at e
    | none =>
      simp only [opN] at e
      obtain ⟨V, hV, hR⟩ := sliceA_ok (LO := lo.map ev) (HI := hi.map ev) h e hφ G w (hr x (by simp [Op.operands]))
        (fun a ha => by cases lo with
          | none => simp at ha
          | some l => simp at ha; subst ha; exact ⟨_, rfl, hr l (by simp [Op.operands])⟩)
        (fun ha => by cases lo with
          | none => rfl
          | some l => simp at ha)
        (fun a ha => by cases hi with
          | none => simp at ha
          | some l => simp at ha; subst ha; exact ⟨_, rfl, hr l (by simp [Op.operands])⟩)
        (fun ha => by cases hi with
          | none => rfl
          | some l => simp at ha)
      exact ⟨V, by simp [execOp, hV], hR⟩
  case build t parts =>
    simp only [opN] at e
    obtain ⟨V, hV, hR⟩ := buildA_ok (qs := parts.map fun p => (p.1, ev p.2)) h e G w (by
      simpa using RepP_of parts.toList fun p hp => hr p.2 (by simp [Op.operands]; exact ⟨p.1, by simpa using hp⟩))
    exact ⟨V, by simp only [execOp, Sem.run_bind]; rw [show (parts.map fun (x : Nat × Operand) => match x with | (i, x) => (i, ev x)) = parts.map fun p => (p.1, ev p.2) from rfl, hV]; rfl, hR⟩
  case call c =>
    obtain ⟨callee, args, ats⟩ := c
    cases callee with
    | value f => simp [opN] at e
    | invoke r m => simp [opN] at e
    | builtin b =>
      have hargs : ∀ x ∈ args.toList, Rep G (ρ x) (ev x) := fun x hx => hr x (by simpa [Op.operands, Call.operands] using hx)
      cases b <;> try (simp [opN] at e; done)
      case len =>
        simp only [opN] at e
        split at e <;> try cases e
        rename_i x t ha ht
        have ha' : args = #[x] := by apply Array.ext'; simpa using ha
        have ht' : ats = #[t] := by apply Array.ext'; simpa using ht
        subst ha' ht'
        obtain ⟨V, hV, hR⟩ := lenA_ok (ty := type) h e G w (hargs x (by simp))
        exact ⟨V, by simp [execOp, resolve, invoke, builtin, hV], hR⟩
      case max =>
        simp only [opN] at e
        obtain ⟨V, hV, hR⟩ := minmaxA_ok (P := P) e G w ats type (RepL_map _ hargs)
        simp only [if_true] at hV
        refine ⟨V, ?_, hR⟩
        simp only [execOp, resolve, invoke, builtin, Sem.run_bind, Sem.run_pure, Result.andThen_ok]
        rw [show args.map ev = (args.toList.map ev).toArray by rw [← Array.toList_map], hV]
        rfl
      case min =>
        simp only [opN] at e
        obtain ⟨V, hV, hR⟩ := minmaxA_ok (P := P) e G w ats type (RepL_map _ hargs)
        simp only [Bool.false_eq_true, if_false] at hV
        refine ⟨V, ?_, hR⟩
        simp only [execOp, resolve, invoke, builtin, Sem.run_bind, Sem.run_pure, Result.andThen_ok]
        rw [show args.map ev = (args.toList.map ev).toArray by rw [← Array.toList_map], hV]
        rfl
  all_goals (simp [opN] at e)

end
end Go.Proofs.YtkdendaohlnlcaaDoor.Av
