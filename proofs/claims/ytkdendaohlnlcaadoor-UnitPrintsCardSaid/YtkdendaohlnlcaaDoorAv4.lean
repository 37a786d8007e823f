/- The model's operations answer what is said of them in the text before. No condition. -/
import Derived.Test.YtkdendaohlnlcaaDoorAv3
namespace Go.Proofs.YtkdendaohlnlcaaDoor.Av
set_option linter.unusedVariables false
set_option linter.unusedSimpArgs false
open Go.RowKit

section
variable {P : Program} {tab : Tab}

def Seen (G : Gh) (w : World) : Prop := ∀ a u, G.C a = some u → w.cell? a = some u

theorem TabOk.slice (h : TabOk P tab) {t : TypeId} {e : TypeId} {a b : Nat} {z : Value} (k : tab t = some ⟨.slice e, a, b, z⟩) : P.underlying t = some (.slice e) := by
  obtain ⟨i, d, _, h2, h3, _⟩ := h t _ k
  rw [h2]
  cases d <;> simp_all [tdOf]
theorem TabOk.array (h : TabOk P tab) {t : TypeId} {n e : Nat} {a b : Nat} {z : Value} (k : tab t = some ⟨.array n e, a, b, z⟩) : P.underlying t = some (.array n e) := by
  obtain ⟨i, d, _, h2, h3, _⟩ := h t _ k
  rw [h2]
  cases d <;> simp_all [tdOf]
theorem TabOk.str (h : TabOk P tab) {t : TypeId} {a b : Nat} {z : Value} (k : tab t = some ⟨.string, a, b, z⟩) : P.underlying t = some .string := by
  obtain ⟨i, d, _, h2, h3, _⟩ := h t _ k
  rw [h2]
  cases d <;> simp_all [tdOf]
theorem TabOk.bl (h : TabOk P tab) {t : TypeId} {a b : Nat} {z : Value} (k : tab t = some ⟨.bool, a, b, z⟩) : P.underlying t = some .bool := by
  obtain ⟨i, d, _, h2, h3, _⟩ := h t _ k
  rw [h2]
  cases d <;> simp_all [tdOf]
theorem TabOk.int (h : TabOk P tab) {t : TypeId} {ik : IntKind} {a b : Nat} {z : Value} (k : tab t = some ⟨.int ik, a, b, z⟩) : P.underlying t = some (.int ik) := by
  obtain ⟨i, d, _, h2, h3, _⟩ := h t _ k
  rw [h2]
  cases d <;> simp_all [tdOf]
theorem TabOk.struct (h : TabOk P tab) {t : TypeId} {fs : List (Nat × TypeId)} {a b : Nat} {z : Value} (k : tab t = some ⟨.struct fs, a, b, z⟩) :
    ∃ F : Array Field, P.underlying t = some (.struct F) ∧ F.toList.map (fun f => (f.offset, f.type)) = fs := by
  obtain ⟨i, d, _, h2, h3, _⟩ := h t _ k
  rw [h2]
  cases d <;> simp [tdOf] at h3 ⊢
  exact h3
theorem field_get {F : Array Field} {fs : List (Nat × TypeId)} (hF : F.toList.map (fun f => (f.offset, f.type)) = fs) {f : Nat} {off ft : Nat} (e : fs[f]? = some (off, ft)) :
    ∃ x : Field, F[f]? = some x ∧ x.offset = off ∧ x.type = ft := by
  subst hF
  simp only [List.getElem?_map, Option.map_eq_some_iff, Array.getElem?_toList] at e
  obtain ⟨x, h1, h2⟩ := e
  simp only [Prod.mk.injEq] at h2
  exact ⟨x, h1, h2.1, h2.2⟩

theorem run_part (h : TabOk P tab) {t : TypeId} {ti : TI} (e : tab t = some ti) (G : Gh) (w : World) {cs : List AV} {vs : List Value} (hr : RepL G cs vs) (off : Nat) (hl : off + ti.size ≤ cs.length) (hp : 0 < ti.size) :
    ∃ V, (Go.part t vs.toArray off).run P w = .ok V w ∧ Rep G (partA ti cs off) V := by
  have hlen := hr.length
  unfold Go.part partA
  simp only [Sem.run_bind, h.isAgg e w, Result.andThen_ok]
  cases hA : ti.isAgg with
  | true =>
    refine ⟨.agg (vs.toArray.extract off (off + ti.size)), by simp [h.sizeOf e w], ?_⟩
    simp only [if_true, Rep]
    refine ⟨(vs.drop off).take ti.size, ?_, (hr.drop off).take _⟩
    congr 1
    apply Array.ext'
    simp [List.extract_eq_take_drop]
  | false =>
    have ho : off < vs.length := by omega
    refine ⟨vs[off], by simp [ho], ?_⟩
    have := hr.get off
    simpa [List.getD_eq_getElem?_getD, List.getElem?_eq_getElem ho] using this

theorem fieldA_ok (h : TabOk P tab) {t : TypeId} {f : Nat} {x v : AV} {φ : Prop} (e : fieldA tab t f x = some (φ, v)) (hφ : φ) (G : Gh) (w : World) {X : Value} (hr : Rep G x X) :
    ∃ V, (Instr.field t X f).run P w = .ok V w ∧ Rep G v V := by
  unfold fieldA at e
  split at e <;> try cases e
  rename_i cs
  split at e <;> try cases e
  rename_i fs sz by_ z ht
  split at e <;> try cases e
  rename_i off ft hf
  split at e <;> try cases e
  rename_i ti hti
  obtain ⟨F, hu, hF⟩ := h.struct ht
  obtain ⟨fd, h1, h2, h3⟩ := field_get hF hf
  simp only [Rep] at hr
  obtain ⟨vs, rfl, hr⟩ := hr
  obtain ⟨V, hV, hR⟩ := run_part h (t := fd.type) (by rw [h3]; exact hti) G w hr fd.offset (by rw [h2]; exact hφ.1) hφ.2
  refine ⟨V, ?_, by rw [← h2]; exact hR⟩
  unfold Instr.field
  simp only [Sem.run_bind, run_underlying hu, Result.andThen_ok, h1, asAgg]
  simpa using hV

theorem run_fieldPlace (h : TabOk P tab) {fd : Field} {ti : TI} (e : tab fd.type = some ti) (hp : 0 < ti.size) (w : World) (ad : Addr) : (fieldPlace ad fd).run P w = .ok (ad.add fd.offset) w := by
  unfold fieldPlace
  simp [h.sizeOf e w, show ¬ ti.size = 0 by omega]

theorem RepC.drop {G : Gh} {ad : Addr} {cells : List AV} (off : Nat) (h : RepC G ad 0 cells) : RepC G (ad.add off) 0 (cells.drop off) := by
  rw [RepC.shift off _ 0, Nat.add_zero]
  by_cases hl : off ≤ cells.length
  · have := (RepC.split (cells.take off) (cells.drop off) 0).1 (by rw [List.take_append_drop]; exact h)
    simpa [Nat.min_eq_left hl] using this.2
  · rw [List.drop_eq_nil_of_le (by omega)]
    simp [RepC]

theorem fieldAddrA_ok (h : TabOk P tab) {t : TypeId} {f : Nat} {x v : AV} {φ : Prop} (e : fieldAddrA tab t f x = some (φ, v)) (hφ : φ) (G : Gh) (w : World) {X : Value} (hr : Rep G x X) :
    ∃ V, (Instr.fieldAt t X f).run P w = .ok V w ∧ Rep G v V := by
  unfold fieldAddrA at e
  split at e <;> try cases e
  rename_i fs sz by_ z ht
  split at e <;> try cases e
  rename_i off ft hf
  split at e <;> try cases e
  rename_i ti hti
  obtain ⟨F, hu, hF⟩ := h.struct ht
  obtain ⟨fd, h1, h2, h3⟩ := field_get hF hf
  split at e <;> try cases e
  · rename_i cells
    simp only [Rep] at hr
    obtain ⟨ad, rfl, hc⟩ := hr
    refine ⟨.pointer (some (ad.add off)), ?_, by simp only [Rep]; exact ⟨_, rfl, hc.drop off⟩⟩
    unfold Instr.fieldAt
    simp only [Sem.run_bind, run_underlying hu, Result.andThen_ok, h1, Instr.sureAddr, Sem.run_pure, run_fieldPlace h (by rw [h3]; exact hti) hφ w, h2]
  · rename_i id o
    simp only [Rep] at hr
    obtain ⟨b, hb, rfl⟩ := hr
    refine ⟨.pointer (some ⟨b, o + off, none⟩), ?_, by simp only [Rep]; exact ⟨_, hb, rfl⟩⟩
    unfold Instr.fieldAt
    simp only [Sem.run_bind, run_underlying hu, Result.andThen_ok, h1, Instr.sureAddr, Sem.run_pure, run_fieldPlace h (by rw [h3]; exact hti) hφ w, h2]
    congr 3
    unfold Addr.add
    split
    · rename_i h0; simp [h0]
    · rfl

/-- Element i of what is read row by row. -/
theorem RepE.at_ {G : Gh} {ad : Addr} {sz : Nat} : ∀ (xs : List (List AV)) (k : Nat), (∀ x ∈ xs, x.length = sz) → RepE G ad k xs → ∀ i, i < xs.length → RepC G ad (k + i * sz) (xs.getD i [])
  | [], _, _, _, i, hi => by simp at hi
  | x :: xs, k, hu, h, 0, _ => by
    simp only [RepE] at h
    simpa using h.1
  | x :: xs, k, hu, h, i + 1, hi => by
    simp only [RepE] at h
    have := RepE.at_ xs (k + x.length) (fun y hy => hu y (by simp [hy])) h.2 i (by simpa using hi)
    rw [hu x (by simp)] at this
    simpa [Nat.add_assoc, Nat.succ_mul, Nat.add_comm sz] using this

theorem indexAddrA_ok (h : TabOk P tab) {t : TypeId} {x i v : AV} {φ : Prop} (e : indexAddrA tab t x i = some (φ, v)) (hφ : φ) (G : Gh) (w : World) {X I : Value} (hr : Rep G x X) (hi : Rep G i I) :
    ∃ V, (Instr.indexAt t X I).run P w = .ok V w ∧ Rep G v V := by
  unfold indexAddrA at e
  split at e <;> try cases e
  rename_i ik n
  simp only [Rep] at hi
  subst hi
  split at e <;> try cases e
  · rename_i el a1 a2 z ht
    split at e <;> try cases e
    rename_i ti hti
    have hu := h.slice ht
    have hel : P.elem t = el := by simp [Program.elem, hu]
    split at e <;> try cases e
    · rename_i tk xs
      simp only [Rep] at hr
      obtain ⟨A, m, c, rfl, rfl, hc, _, hun, ad, ha, hre⟩ := hr
      obtain ⟨h0, h1, h2⟩ := hφ
      have hne : xs ≠ [] := by rintro rfl; simp at h1; omega
      obtain rfl := ha hne
      obtain ⟨sz, hsz⟩ := hun
      have hlt : n.toNat < xs.length := by omega
      have hmem : xs.getD n.toNat [] ∈ xs := by
        rw [List.getD_eq_getElem?_getD, List.getElem?_eq_getElem hlt]
        simp
      have hsz' : sz = ti.size := by rw [← hsz _ hmem]; exact h2
      subst hsz'
      refine ⟨.pointer (some (ad.add (n.toNat * ti.size))), ?_, ?_⟩
      · rw [run_indexAt_slice w t ad xs.length c ik n (by rw [hel]; exact hu), if_pos ⟨h0, h1⟩, hel, h.sizeOf hti w]
        rfl
      · simp only [Rep]
        refine ⟨_, rfl, ?_⟩
        rw [RepC.shift, Nat.add_zero]
        simpa using hre.at_ xs 0 hsz n.toNat hlt
    · rename_i id off len
      simp only [Rep] at hr
      obtain ⟨b, hb, rfl⟩ := hr
      refine ⟨.pointer (some ⟨b, off + n.toNat * ti.size, none⟩), ?_, by simp only [Rep]; exact ⟨_, hb, rfl⟩⟩
      rw [run_indexAt_slice w t _ len len ik n (by rw [hel]; exact hu), if_pos hφ, hel, h.sizeOf hti w]
      simp only [Result.andThen_ok]
      congr 3
      unfold Addr.add
      split
      · rename_i h0; simp [h0]
      · rfl
  · rename_i m el a1 a2 z ht
    split at e <;> try cases e
    rename_i ti hti
    have hu := h.array ht
    have hel : P.elem t = el := by simp [Program.elem, hu]
    have hal : P.arrayLen t = m := by simp [Program.arrayLen, hu]
    split at e <;> try cases e
    · rename_i id off
      simp only [Rep] at hr
      obtain ⟨b, hb, rfl⟩ := hr
      refine ⟨.pointer (some ⟨b, off + n.toNat * ti.size, none⟩), ?_, by simp only [Rep]; exact ⟨_, hb, rfl⟩⟩
      rw [run_indexAt_array w t _ ik n (by rw [hel, hal]; exact hu), if_pos (by rw [hal]; exact hφ), hel, h.sizeOf hti w]
      simp only [Result.andThen_ok]
      congr 3
      unfold Addr.add
      split
      · rename_i h0; simp [h0]
      · rfl
    · rename_i cells
      simp only [Rep] at hr
      obtain ⟨ad, rfl, hc⟩ := hr
      refine ⟨.pointer (some (ad.add (n.toNat * ti.size))), ?_, by simp only [Rep]; exact ⟨_, rfl, hc.drop _⟩⟩
      rw [run_indexAt_array w t _ ik n (by rw [hel, hal]; exact hu), if_pos (by rw [hal]; exact hφ), hel, h.sizeOf hti w]
      rfl

theorem indexA_ok (h : TabOk P tab) {t : TypeId} {x i v : AV} {φ : Prop} (e : indexA tab t x i = some (φ, v)) (hφ : φ) (G : Gh) (w : World) {X I : Value} (hr : Rep G x X) (hi : Rep G i I) :
    ∃ V, (Instr.index t X I).run P w = .ok V w ∧ Rep G v V := by
  unfold indexA at e
  split at e <;> try cases e
  rename_i ik n
  simp only [Rep] at hi
  subst hi
  split at e <;> try cases e
  · rename_i a1 a2 z ht
    split at e <;> try cases e
    rename_i s
    simp only [Rep] at hr
    subst hr
    obtain ⟨h0, h1⟩ := hφ
    have hlt : n.toNat < s.size := by omega
    refine ⟨.int .u8 (byteAt s n), ?_, by simp [Rep]⟩
    unfold Instr.index
    simp only [Sem.run_bind, asIntOf, Sem.run_pure, Result.andThen_ok, run_underlying (h.str ht), h0, if_true]
    simp [byteAt, hlt]
  · rename_i m el a1 a2 z ht
    split at e <;> try cases e
    rename_i ti hti
    split at e <;> try cases e
    rename_i cs
    simp only [Rep] at hr
    obtain ⟨vs, rfl, hr⟩ := hr
    obtain ⟨V, hV, hR⟩ := run_part h hti G w hr (n.toNat * ti.size) hφ.2.2.1 hφ.2.2.2
    refine ⟨V, ?_, hR⟩
    unfold Instr.index
    simp only [Sem.run_bind, asIntOf, Sem.run_pure, Result.andThen_ok, run_underlying (h.array ht), hφ.1, hφ.2.1, and_self, if_true, h.sizeOf hti w]
    exact hV

theorem run_loadVar_rep (h : TabOk P tab) {t : TypeId} {ti : TI} (e : tab t = some ti) {G : Gh} {w : World} (hs : Seen G w) {ad : Addr} {cells : List AV} (hc : RepC G ad 0 cells) (hl : ti.size ≤ cells.length) (hp : 0 < ti.size) :
    ∃ V, (loadVar t ad).run P w = .ok V w ∧ Rep G (partA ti cells 0) V := by
  obtain ⟨vs, hv, hcell⟩ := hc.values
  have hlen := hv.length
  unfold loadVar partA
  simp only [Sem.run_bind, h.isAgg e w, Result.andThen_ok]
  cases hA : ti.isAgg with
  | true =>
    have hload := run_loadCells_list (P := P) w ad (vs.take ti.size) (fun j v hj => hs _ _ (by
      have : vs[j]? = some v := by
        rw [List.getElem?_take] at hj
        split at hj
        · exact hj
        · cases hj
      simpa using hcell j v this))
    rw [List.length_take, Nat.min_eq_left (by omega)] at hload
    refine ⟨.agg (vs.take ti.size).toArray, by simp [h.sizeOf e w, hload], ?_⟩
    simp only [if_true, Rep, List.drop_zero]
    exact ⟨_, rfl, hv.take _⟩
  | false =>
    cases cells with
    | nil => simp at hl; omega
    | cons a as =>
      simp only [RepL] at hv
      obtain ⟨u, us, rfl, h1, h2⟩ := hv
      have hu := hs _ _ (by simpa using hcell 0 u rfl)
      refine ⟨u, ?_, by simpa using h1⟩
      have h0 : ad.add 0 = ad := rfl
      rw [h0] at hu
      simp [hu]

theorem loadA_ok (h : TabOk P tab) {t : TypeId} {x v : AV} {φ : Prop} (e : loadA tab t x = some (φ, v)) (hφ : φ) (G : Gh) (w : World) (hs : Seen G w) {X : Value} (hr : Rep G x X) :
    ∃ V, (Instr.loadAt t X).run P w = .ok V w ∧ Rep G v V := by
  unfold loadA at e
  split at e <;> try cases e
  rename_i cells
  split at e <;> try cases e
  rename_i ti hti
  simp only [Rep] at hr
  obtain ⟨ad, rfl, hc⟩ := hr
  obtain ⟨V, hV, hR⟩ := run_loadVar_rep h hti hs hc hφ.1 hφ.2
  exact ⟨V, by simpa [Instr.loadAt, Instr.sureAddr] using hV, hR⟩

end
end Go.Proofs.YtkdendaohlnlcaaDoor.Av
