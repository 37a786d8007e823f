/- A part of the theory and of the contracts: Tk3, Av19, Av20, Av21, Un, Lc, Tk4, Tk5, R09, R09b, U1, G3, G4, G5, G6, G7, G8, G9, G10, G11. No condition. -/
import Derived.Test.YtkdendaohlnlcaaGreatDoorMb
import Derived.Below
import Derived.Lib.Strings
import Derived.RecoverIn
import Derived.Lib.SplitLaws
/- Does a rune stand among the signs? No condition. -/
namespace Go.Proofs.YtkdendaohlnlcaaGreatDoor.Av
set_option linter.unusedVariables false
set_option linter.unusedSimpArgs false
set_option maxRecDepth 4000
set_option maxHeartbeats 1000000
variable {w0 : Base} {k : List Nat} {H : Hp}
def dR : Dec Int where
  dec := fun a => match a with
    | .raw (.int .i32 n) => some n
    | _ => none
  enc := .int .i32
  ok := fun a x h => by
    split at h
    · cases h
      exact Weak.refl _
    · cases h
@[go_sem] theorem dR_at {n : Int} : dR.dec (.raw (.int .i32 n)) = some n := rfl
def signsB : ByteArray := ⟨#[40, 41, 44, 61, 33, 62, 38, 124, 64, 63]⟩
theorem rep2 {G : Gh} {a b : Value} {ca : Array Value} (h : RepL G [.raw a, .raw b] ca.toList) : ca = #[a, b] := by
  simp only [RepL, Rep] at h
  obtain ⟨u, us, e, rfl, v, vs, rfl, rfl, rfl⟩ := h
  apply Array.ext'
  simpa using e
theorem rep1 {G : Gh} {a : Value} {ca : Array Value} (h : RepL G [.raw a] ca.toList) : ca = #[a] := by
  simp only [RepL, Rep] at h
  obtain ⟨u, us, e, rfl, rfl⟩ := h
  apply Array.ext'
  simpa using e
theorem indexByte_call (s : ByteArray) (c : Int) : CallAt Tryz.prog w0 k 172 [.str s, .int .u8 c] H H (.int .i64 (Lib.indexByte s.data.toList c.toNat.toUInt8)) := by
  refine callAt_of_law Tryz.func172 rfl (by kernel_rfl) fun G w ca hs hr => ?_
  obtain rfl := rep2 hr
  refine (Tryz.strings_IndexByte s c w).mono fun e w' he => ?_
  obtain ⟨rfl, rfl⟩ := he
  exact ⟨rfl, Go.RowKit.Below.refl _ _⟩
theorem validRune_call (c : Int) : CallAt Tryz.prog w0 k 173 [.int .i32 c] H H (.bool (Lib.validRune c)) := by
  refine callAt_of_law Tryz.func173 rfl (by kernel_rfl) fun G w ca hs hr => ?_
  obtain rfl := rep1 hr
  refine (Tryz.utf8_ValidRune c w).mono fun e w' he => ?_
  obtain ⟨rfl, rfl⟩ := he
  exact ⟨rfl, Go.RowKit.Below.refl _ _⟩
theorem indexByte_none : ∀ (l : List UInt8) (c : UInt8), (∀ b ∈ l, b ≠ c) → Lib.indexByte l c = -1
  | [], c, _ => rfl
  | b :: l, c, h => by
    have h1 := h b (by simp)
    have h2 := indexByte_none l c fun x hx => h x (by simp [hx])
    unfold Lib.indexByte
    rw [if_neg (by simpa using h1), h2]
    simp
def specRn : Spec := (Spec.no.add 172 (sp2 dS dC (fun _ _ => True) fun s c => .int .i64 (Lib.indexByte s.data.toList c.toNat.toUInt8))).add 173 (sp1 dR (fun _ => True) fun c => .bool (Lib.validRune c))
theorem specRn_ok : SpecOk Tryz.prog w0 specRn := (Spec.no_ok.add (sp2_ok fun s c _ k H => indexByte_call s c)).add (sp1_ok fun c _ k H => validRune_call c)
theorem encode_big {c : Int} (h : 128 ≤ c) : 2 ≤ (Utf8.encode c).size ∧ (Utf8.encode c).size ≤ 4 ∧ 128 ≤ byteAt (Utf8.encode c) (((Utf8.encode c).size : Int) - 1) := by
  have hx : ∀ x : Nat, x < 256 → (UInt8.ofNat x).toNat = x := fun x hx => by simp [Nat.mod_eq_of_lt hx]
  unfold Utf8.encode
  generalize hc : (if Utf8.valid c = true then c.toNat else Utf8.runeError) = d
  have hd : 128 ≤ d ∧ d ≤ 1114111 := by
    subst hc
    split
    · rename_i hv
      simp only [Utf8.valid, Bool.or_eq_true, Bool.and_eq_true, decide_eq_true_eq] at hv
      omega
    · simp only [Utf8.runeError]
      omega
  simp only
  rw [if_neg (by omega)]
  split
  · refine ⟨by simp [ByteArray.size], by simp [ByteArray.size], ?_⟩
    show (128 : Int) ≤ ((UInt8.ofNat (0x80 + d % 64)).toNat : Int)
    rw [hx _ (by omega)]
    omega
  · split
    · refine ⟨by simp [ByteArray.size], by simp [ByteArray.size], ?_⟩
      show (128 : Int) ≤ ((UInt8.ofNat (0x80 + d % 64)).toNat : Int)
      rw [hx _ (by omega)]
      omega
    · refine ⟨by simp [ByteArray.size], by simp [ByteArray.size], ?_⟩
      show (128 : Int) ≤ ((UInt8.ofNat (0x80 + d % 64)).toNat : Int)
      rw [hx _ (by omega)]
      omega
theorem signsB_at {i : Nat} (h : i < 10) : byteAt signsB i < 128 := by
  rcases (show i = 0 ∨ i = 1 ∨ i = 2 ∨ i = 3 ∨ i = 4 ∨ i = 5 ∨ i = 6 ∨ i = 7 ∨ i = 8 ∨ i = 9 by omega) with rfl | rfl | rfl | rfl | rfl | rfl | rfl | rfl | rfl | rfl <;> decide
theorem signsB_ext {n : Nat} (h : n ≤ 10) : ∀ b ∈ (signsB.extract n 10).data.toList, b.toNat < 128 := by
  rcases (show n = 0 ∨ n = 1 ∨ n = 2 ∨ n = 3 ∨ n = 4 ∨ n = 5 ∨ n = 6 ∨ n = 7 ∨ n = 8 ∨ n = 9 ∨ n = 10 by omega) with rfl | rfl | rfl | rfl | rfl | rfl | rfl | rfl | rfl | rfl | rfl <;> decide
theorem indexRune_big (c : Int) (h : 128 ≤ c) : CallAt Tryz.prog w0 k 167 [.str signsB, .int .i32 c] H H (.int .i64 (-1)) := by
  refine callAt tabOk specRn_ok mixed Tryz.func167 rfl rfl Tryz.results167 Tryz.ntmps167 (by simp) [] ?_
  intro hfr t hl ht
  simp only [At, Nat.reduceAdd, List.cons_append, List.nil_append] at ht
  have h0 : decide ((0 : Int) ≤ c) = true := by simp; omega
  have h1 : decide (c < (128 : Int)) = false := by simp; omega
  by_cases he : c = 65533
  · subst he
    simp (config := {contextual := true, maxSteps := 5000000}) only [go_sem, false_and, Nat.reduceAdd, Nat.reduceLT, Nat.reduceBEq, Nat.reduceSub, Nat.reduceMul, Nat.reduceLeDiff, Int.reduceToNat, Nat.reduceEqDiff, Nat.reduceMod, ht, hl, h0, h1, specRn, Int.reduceBEq, Int.reduceLE, Int.reduceLT, decide_true, decide_false]
    refine strRange (s := signsB) (mb := []) tabOk specRn_ok mixed rfl rfl rfl rfl rfl rfl tab_9 rfl rfl rfl rfl rfl rfl (by simp (config := {contextual := true, maxSteps := 5000000}) only [go_sem, false_and, Nat.reduceAdd, Nat.reduceLT, Nat.reduceBEq, Nat.reduceSub, Nat.reduceMul, Nat.reduceLeDiff, Int.reduceToNat, Nat.reduceEqDiff, Nat.reduceMod, ht, hl]) (by simp [hl])
      (fun pos x => x.tmps.length = 187 ∧ x.tmps.getD 175 AV.undef = .iter ⟨0, 0 :: 3 :: k, 0⟩ ∧ x.H = H) ?_ ?_ ?_ ?_
    · simp (config := {contextual := true, maxSteps := 5000000}) only [go_sem, false_and, Nat.reduceAdd, Nat.reduceLT, Nat.reduceBEq, Nat.reduceSub, Nat.reduceMul, Nat.reduceLeDiff, Int.reduceToNat, Nat.reduceEqDiff, Nat.reduceMod, hl]
    · rintro pos ⟨t, n, H'⟩ ⟨hl, h175, rfl⟩
      simp only at hl h175
      exact ⟨h175, by simp [hl], by simp [hl]⟩
    · rintro pos ⟨t, n, H'⟩ hpos ⟨hl, h175, rfl⟩
      simp only at hl h175
      have hs10 : signsB.size = 10 := rfl
      obtain ⟨hd1, hd2⟩ := decode_small hpos (signsB_at (by omega))
      have hb := signsB_at (i := pos) (by omega)
      have hne : ((((Utf8.decode signsB pos).1 : Nat) : Int) == 65533) = false := by rw [hd1]; simp; omega
      simp (config := {contextual := true, maxSteps := 5000000}) only [go_sem, false_and, Nat.reduceAdd, Nat.reduceLT, Nat.reduceBEq, Nat.reduceSub, Nat.reduceMul, Nat.reduceLeDiff, Int.reduceToNat, Nat.reduceEqDiff, Nat.reduceMod, h175, hl, hne]
    · rintro pos ⟨t, n, H'⟩ hpos ⟨hl, h175, rfl⟩
      simp only at hl h175
      simp (config := {contextual := true, maxSteps := 5000000}) only [go_sem, false_and, Nat.reduceAdd, Nat.reduceLT, Nat.reduceBEq, Nat.reduceSub, Nat.reduceMul, Nat.reduceLeDiff, Int.reduceToNat, Nat.reduceEqDiff, Nat.reduceMod, h175, hl]
  · have h2 : (c == 65533) = false := by simpa using he
    cases hv : Lib.validRune c with
    | false =>
      simp (config := {contextual := true, maxSteps := 5000000}) only [go_sem, false_and, Nat.reduceAdd, Nat.reduceLT, Nat.reduceBEq, Nat.reduceSub, Nat.reduceMul, Nat.reduceLeDiff, Int.reduceToNat, Nat.reduceEqDiff, Nat.reduceMod, ht, hl, h0, h1, h2, hv, specRn]
    | true =>
      obtain ⟨e1, e2, e3⟩ := encode_big h
      have hw : IntKind.i64.wrap (((Utf8.encode c).size : Int) - 1) = ((Utf8.encode c).size : Int) - 1 := wrap_i64 (by omega) (by omega)
      simp (config := {contextual := true, maxSteps := 5000000}) only [go_sem, false_and, Nat.reduceAdd, Nat.reduceLT, Nat.reduceBEq, Nat.reduceSub, Nat.reduceMul, Nat.reduceLeDiff, Int.reduceToNat, Nat.reduceEqDiff, Nat.reduceMod, ht, hl, h0, h1, h2, hv, specRn]
      refine loop_inv tabOk specRn_ok mixed [] (fun j x => x.tmps.length = 187 ∧ x.tmps.getD 0 AV.undef = .str signsB ∧ x.tmps.getD 7 AV.undef = .str (Utf8.encode c) ∧ x.tmps.getD 8 AV.undef = .int .i64 (((Utf8.encode c).size : Int) - 1) ∧ x.tmps.getD 9 AV.undef = .int .i64 (((Utf8.encode c).size : Int) - 1) ∧ x.H = H) 0 ?_ ?_
      · simp (config := {contextual := true, maxSteps := 5000000}) only [go_sem, false_and, Nat.reduceAdd, Nat.reduceLT, Nat.reduceBEq, Nat.reduceSub, Nat.reduceMul, Nat.reduceLeDiff, Int.reduceToNat, Nat.reduceEqDiff, Nat.reduceMod, ht, hl, hw]
      · rintro j ⟨t, n, H'⟩ ⟨hl, g0, g7, g8, g9, rfl⟩
        simp only at hl g0 g7 g8 g9
        have hs10 : signsB.size = 10 := rfl
        have hd : decide (((Utf8.encode c).size : Int) - 1 < (signsB.size : Int)) = true := by rw [hs10]; simp; omega
        have hcast : ((Utf8.encode c).size : Int) - 1 = (((Utf8.encode c).size - 1 : Nat) : Int) := by omega
        have hsb := signsB_at (i := (Utf8.encode c).size - 1) (by omega)
        rw [← hcast] at hsb
        have hne : (byteAt signsB (((Utf8.encode c).size : Int) - 1) != byteAt (Utf8.encode c) (((Utf8.encode c).size : Int) - 1)) = true := by simp; omega
        have hw2 : IntKind.i64.wrap (((Utf8.encode c).size : Int) - 1 + 1) = ((Utf8.encode c).size : Int) := by rw [wrap_i64] <;> omega
        have hix : Lib.indexByte (signsB.extract (Utf8.encode c).size signsB.size).data.toList (byteAt (Utf8.encode c) (((Utf8.encode c).size : Int) - 1)).toNat.toUInt8 = -1 := by
          refine indexByte_none _ _ fun b hb hbe => ?_
          have h1 := signsB_ext (n := (Utf8.encode c).size) (by omega) b (by rw [hs10] at hb; exact hb)
          have h2 := (byteAt_lt (Utf8.encode c) (((Utf8.encode c).size : Int) - 1)).2
          rw [hbe] at h1
          simp only [Nat.toUInt8, UInt8.toNat_ofNat'] at h1
          omega
        have hlt : decide ((-1 : Int) < 0) = true := rfl
        simp (config := {contextual := true, maxSteps := 5000000}) only [go_sem, false_and, Nat.reduceAdd, Nat.reduceLT, Nat.reduceBEq, Nat.reduceSub, Nat.reduceMul, Nat.reduceLeDiff, Int.reduceToNat, Nat.reduceEqDiff, Nat.reduceMod, g0, g7, g8, g9, hl, hd, hne, specRn, hw2, hix, hlt]
        refine ⟨by kernel_rfl, ⟨by omega, by omega⟩, ⟨by omega, by omega⟩, List.Pairwise.nil, by kernel_rfl, ⟨by omega, by omega⟩, ⟨by omega, by omega⟩, List.Pairwise.nil⟩
theorem containsRune_call (c : Int) (h : 0 ≤ c) : CallAt Tryz.prog w0 k 151 [.str signsB, .int .i32 c] H H (.bool (isSign c)) := by
  by_cases hc : c < 128
  · refine callAt_of_law Tryz.func151 rfl (by kernel_rfl) fun G w ca hs hr => ?_
    obtain rfl := rep2 hr
    refine (Tryz.strings_ContainsRune_ascii signsB c w h hc).mono fun e w' he => ?_
    obtain ⟨rfl, rfl⟩ := he
    refine ⟨?_, Go.RowKit.Below.refl _ _⟩
    have : ∀ n : Nat, n < 128 → decide (0 ≤ Lib.indexByte signsB.data.toList ((n : Int).toNat.toUInt8)) = isSign (n : Int) := by decide
    have e := this c.toNat (by omega)
    rw [Int.toNat_of_nonneg h] at e
    rw [e]
  · refine callAt tabOk (Spec.no_ok.add (f := 167) (d := sp2 dS dR (fun s c => s = signsB ∧ 128 ≤ c) fun _ _ => .int .i64 (-1)) (sp2_ok fun s c h k H => by obtain ⟨rfl, h⟩ := h; exact indexRune_big c h)) mixed Tryz.func151 rfl rfl Tryz.results151 Tryz.ntmps151 (by simp) [] ?_
    intro hfr t hl ht
    simp only [At, Nat.reduceAdd, List.cons_append, List.nil_append] at ht
    simp (config := {contextual := true, maxSteps := 5000000}) only [go_sem, false_and, Nat.reduceAdd, Nat.reduceLT, Nat.reduceBEq, Nat.reduceSub, Nat.reduceMul, Nat.reduceLeDiff, Int.reduceToNat, Nat.reduceEqDiff, Nat.reduceMod, ht, hl]
    refine ⟨by omega, ?_⟩
    have : isSign c = false := by
      rw [isSign, List.any_eq_false]
      intro s hs
      simp only [signs, List.mem_cons, List.not_mem_nil, or_false] at hs
      simp only [beq_iff_eq]
      omega
    rw [this]
    rfl
end Go.Proofs.YtkdendaohlnlcaaGreatDoor.Av

/- Deferred calls that recover. No condition. -/
namespace Go.Proofs.YtkdendaohlnlcaaGreatDoor.Av
set_option linter.unusedVariables false
set_option linter.unusedSimpArgs false
open Go.RowKit
variable {P : Program} {tab : Tab} {Sp : Spec} {w0 : Base} {k : List Nat}
/-- A frame on its way out takes its marks over. -/
theorem takes {F : Fence} {n : Nat} {cs : List Frame} {Hx : Hp} {G1 : Gh} : ∀ (Ds : List Nat) (w : World) (fr : Frame), fr.mode = .returning → fr.defers = Ds.map mkMark → Ds.Nodup → Sim w0 G1 Hx w → (∀ D ∈ Ds, w0.heap.size ≤ D ∧ w.heap[D]? = some (.deferred (some []))) → (∀ D ∈ Ds, G1.ρ D = none) → F.fn fr.fn → F.room (cs.length + 1 + n) →
    ∃ w', StepsIn (Machine.fenced P F) P (lone fr cs w) (lone { fr with defers := [] } cs w') ∧ Sim w0 G1 Hx w'
  | [], w, fr, hm, hd, _, hs, _, _, hF, hr => ⟨w, by
      have : ({ fr with defers := [] } : Frame) = fr := by cases fr; simp only at hd; subst hd; rfl
      rw [this]
      exact .refl _, hs⟩
  | D :: Ds, w, fr, hm, hd, hnd, hs, hb, hρ, hF, hr => by
    obtain ⟨h1, h2⟩ := List.nodup_cons.1 hnd
    obtain ⟨hD1, hD2⟩ := hb D (by simp)
    have hne : fr.mode ≠ .run := by rw [hm]; simp
    have st := step_collected (P := P) (cs := cs) (d := mkMark D) (ds := Ds.map mkMark) hne (by rw [hd]; rfl) rfl (run_takeDeferred hD2)
    have i1 : (lone fr cs w).fenced P F := fenced_out (d := mkMark D) (ds := Ds.map mkMark) hF hr hne (by rw [hd]; rfl) (fun g hg => by simp [mkMark, Target.leads] at hg)
    obtain ⟨w', st2, hs2⟩ := takes Ds (w.putObj D (.deferred none)) { fr with defers := [] ++ Ds.map mkMark } hm rfl h2 (hs.putObj hD2 (by simp) hD1 (by simp) fun L e => by rw [hρ D (by simp)] at e; cases e) (fun E hE => by
      obtain ⟨g1, g2⟩ := hb E (by simp [hE])
      exact ⟨g1, by rw [World.putObj_heap_other (fun he => h1 (by rw [← he]; exact hE))]; exact g2⟩) (fun E hE => hρ E (by simp [hE])) hF hr
    exact ⟨w', StepsIn.trans (.one i1 st) st2, hs2⟩
def modeOf : Option Value → FrameMode
  | none => .returning
  | some V => .panicking [{ v := V, recovered := false }]
def modeTo : Option Value → FrameMode
  | none => .returning
  | some V => .panicking [{ v := V, recovered := true }]
def RepO (G : Gh) : Option AV → Option Value → Prop
  | none, none => True
  | some v, some V => Rep G v V
  | _, _ => False
/-- A call that is made while its caller leaves, with a panic or without one: it recovers. -/
def DefAt (P : Program) (w0 : Base) (k : List Nat) (f : FuncId) (args : List AV) (H H' : Hp) (ov : Option AV) : Prop :=
  ∀ (G : Gh) (w : World) (cargs : Array Value) (oV : Option Value), Sim w0 G H w → Fresh G k → RepL G args cargs.toList → RepO G ov oV → ∀ R : Ending → FrameMode → World → Prop,
    (∀ G' w' V, G.Le G' → New k G G' → Sim w0 G' H' w' → R (.returned V) (modeTo oV) w') → CallsDIn Fence.wide 0 P f cargs (modeOf oV) w R
def ovA : Option AV → AV
  | none => .raw .nilIface
  | some v => v
/-- How the closure's text ends. -/
def endD (H' : Hp) : AEx → FS → Prop
  | .normal, s' => H'.Le s'.H
  | .ret, s' => H'.Le s'.H
  | _, _ => False
@[go_sem] theorem endD_normal {H' : Hp} {s : FS} : endD H' .normal s = H'.Le s.H := rfl
@[go_sem] theorem endD_ret {H' : Hp} {s : FS} : endD H' .ret s = H'.Le s.H := rfl
@[go_sem] theorem endD_exit {H' : Hp} {s : FS} {i : Nat} : endD H' (.exit i) s = False := rfl
@[go_sem] theorem endD_panic {H' : Hp} {s : FS} {v : AV} : endD H' (.panic v) s = False := rfl
theorem ops_rec {F : Fence} {n : Nat} {ops : Array Oper} {Q : Exit → Act → List Frame → World → Prop} {i : Nat} {rest : List Nat} {a : Act} {cs : List Frame} {w w' : World} {o : Oper} (ho : ops[i]? = some o) (hw : Region.wanted o (yielded ops a.tmps) = true) (hr : (execOp a.eval o).run P w = .ok .recover w')
    (hab : ∀ f, o.about P w a.eval = some f → F.fn f) (h : match recoverD cs with
      | some (v, cs') => wpOpsSIn F n P ops Q rest (a.put o.dst v) cs' w'
      | none => wpOpsSIn F n P ops Q rest (a.put o.dst .nilIface) cs w') : wpOpsSIn F n P ops Q (i :: rest) a cs w := by
  simp only [wpOpsSIn, ho]
  refine ⟨hab, ?_⟩
  rw [if_pos hw, hr]
  exact h
theorem ops_val {F : Fence} {n : Nat} {ops : Array Oper} {Q : Exit → Act → List Frame → World → Prop} {i : Nat} {rest : List Nat} {a : Act} {cs : List Frame} {w w' : World} {o : Oper} {v : Value} (ho : ops[i]? = some o) (hw : Region.wanted o (yielded ops a.tmps) = true) (hr : (execOp a.eval o).run P w = .ok (.value v) w')
    (hab : ∀ f, o.about P w a.eval = some f → F.fn f) (h : wpOpsSIn F n P ops Q rest (a.put o.dst v) cs w') : wpOpsSIn F n P ops Q (i :: rest) a cs w := by
  simp only [wpOpsSIn, ho]
  refine ⟨hab, ?_⟩
  rw [if_pos hw, hr]
  exact h
theorem defAt_of_code {f : FuncId} {fn : Func} {id : Nat} {o1 o2 : Oper} {d1 d2 : Nat} {rest : Code} {args : List AV} {H H' : Hp} {ov : Option AV} {nt : Nat} (hf : P.funcs[f]? = some fn) (hb : fn.body = some (.seq (.region id #[o1, o2] false) rest))
    (hrs : fn.results = #[]) (hnt : fn.ntmps = nt) (ho1 : o1.op = .call ⟨.builtin .recover, #[], #[]⟩) (hd1 : o1.dst = some d1) (hg1 : o1.guard = none) (ho2 : o2.op = .assign (.tmp d1)) (hd2 : o2.dst = some d2) (hg2 : o2.guard = none) (hl1 : d1 < nt) (hl2 : d2 < nt) (ha : args.length ≤ nt)
    (h : (∀ i : Id, k <:+ i.key → H i = none) → ∀ t, t.length = nt → At t 0 args → CodeOk P w0 none k rest ⟨(t.set d1 (ovA ov)).set d2 (ovA ov), 0, H⟩ (endD H')) (ha1 : args.length ≤ d1) (ha2 : args.length ≤ d2) : DefAt P w0 k f args H H' ov := by
  subst hnt
  intro G w cargs oV hs hfr hr ho R hR
  have hfresh : ∀ i : Id, k <:+ i.key → H i = none := fun i hi => by
    cases hh : H i with
    | none => rfl
    | some e =>
      have hk := hfr i hi
      cases e with
      | cells avs => obtain ⟨b, hb⟩ := hs.d _ _ hh; rw [hk.1] at hb; cases hb
      | tok =>
        rcases hs.t _ hh with g | ⟨b, m, c, T, cs, g, _⟩
        · rw [hk.2] at g; cases g
        · rw [hk.2] at g; cases g
  have hl : args.length = cargs.size := hr.size
  have hpre := h hfresh (args ++ List.replicate (fn.ntmps - args.length) AV.undef) (by simp; omega) (at_prefix _ [] args)
  obtain ⟨V, hV, hmode⟩ : ∃ V, Rep G (ovA ov) V ∧ ∀ (c₀ : Frame) cs, c₀.mode = modeOf oV → (match recoverD (c₀ :: cs) with
      | some (v, cs') => v = V ∧ cs' = { c₀ with mode := modeTo oV } :: cs
      | none => V = .nilIface ∧ { c₀ with mode := modeTo oV } = c₀) := by
    cases ov with
    | none =>
      cases oV with
      | none => exact ⟨.nilIface, by simp [ovA, Rep], fun c₀ cs hc => by cases c₀; simp only [modeOf] at hc; subst hc; simp [recoverD, modeTo]⟩
      | some _ => exact ho.elim
    | some v =>
      cases oV with
      | none => exact ho.elim
      | some V => exact ⟨V, ho, fun c₀ cs hc => by cases c₀; simp only [modeOf] at hc; subst hc; simp [recoverD, modeTo]⟩
  have body : ∀ (c₀ : Frame) (cs : List Frame), c₀.mode = modeOf oV → (Code.seq (.region id #[o1, o2] false) rest).wpSIn Fence.wide 0 P (fun e a' cs' w' => (e = .normal ∨ e = .ret) ∧ cs' = { c₀ with mode := modeTo oV } :: cs ∧ ∃ (G' : Gh) (s' : FS), G.Le G' ∧ New k G G' ∧ Sim w0 G' s'.H w' ∧ DefOk ⟨G, []⟩ G' a'.defers ∧ H'.Le s'.H)
      { tmps := cargs ++ Array.replicate (fn.ntmps - cargs.size) undef, defers := [] } (c₀ :: cs) w := by
    intro c₀ cs hc
    obtain ⟨a0, ha0⟩ : ∃ a0 : Act, a0 = { tmps := cargs ++ Array.replicate (fn.ntmps - cargs.size) undef, defers := [] } := ⟨_, rfl⟩
    rw [← ha0]
    have hr0 : RepL G (args ++ List.replicate (fn.ntmps - args.length) AV.undef) a0.tmps.toList := by
      rw [ha0]
      simp only [Array.toList_append, Array.toList_replicate]
      rw [hl]
      exact RepL.append hr (RepL.replicate G _)
    have hd0 : a0.defers = [] := by rw [ha0]
    have hsz : a0.tmps.size = fn.ntmps := by have := hr0.size; simp at this; omega
    have e1 : (execOp a0.eval o1).run P w = .ok .recover w := by simp [execOp, ho1, resolve, invoke]; rfl
    have e2 : ∀ a : Act, (execOp a.eval o2).run P w = .ok (.value (a.eval (.tmp d1))) w := fun a => by simp [execOp, ho2]
    have w1 : Region.wanted o1 (yielded #[o1, o2] a0.tmps) = true := by simp [Region.wanted, hg1]
    have w2 : ∀ a : Act, Region.wanted o2 (yielded #[o1, o2] a.tmps) = true := fun a => by simp [Region.wanted, hg2]
    have hev : (a0.put o1.dst V).eval (.tmp d1) = V := by simp [hd1, Act.put, Act.eval, show d1 < a0.tmps.size by omega]
    have hr2 : RepL G (((args ++ List.replicate (fn.ntmps - args.length) AV.undef).set d1 (ovA ov)).set d2 (ovA ov)) ((a0.put o1.dst V).put o2.dst V).tmps.toList := by
      have := rep_put (rep_put hr0 hV o1.dst) hV o2.dst
      simpa only [hd1, hd2, putA] using this
    have hd2' : ((a0.put o1.dst V).put o2.dst V).defers = [] := by simp [hd1, hd2, Act.put, hd0]
    have fin : Code.wpSIn Fence.wide 0 P rest (fun e a' cs' w' => (e = .normal ∨ e = .ret) ∧ cs' = { c₀ with mode := modeTo oV } :: cs ∧ ∃ (G' : Gh) (s' : FS), G.Le G' ∧ New k G G' ∧ Sim w0 G' s'.H w' ∧ DefOk ⟨G, []⟩ G' a'.defers ∧ H'.Le s'.H) ((a0.put o1.dst V).put o2.dst V) ({ c₀ with mode := modeTo oV } :: cs) w := by
      refine wpSIn_of_wpIn rfl ?_
      refine hpre ⟨G, []⟩ G w _ hs hr2 (fun m _ i hi => hfr i ((List.suffix_cons m k).trans hi)) (by rw [hd2']; exact DefOk.nil G []) _ ?_
      intro x s' G' w' a' hx hle hnw hs' hr' hd' _ _ X hX
      cases x with
      | normal => cases hX; exact ⟨.inl rfl, rfl, G', s', hle, hnw.up, hs', hd', hx⟩
      | ret => cases hX; exact ⟨.inr rfl, rfl, G', s', hle, hnw.up, hs', hd', hx⟩
      | exit _ => exact hx.elim
      | panic _ => exact hx.elim
    refine wpSIn_seq (wpSIn_region ?_)
    show wpOpsSIn Fence.wide 0 P #[o1, o2] _ [0, 1] a0 (c₀ :: cs) w
    have hm := hmode c₀ cs hc
    refine ops_rec (o := o1) rfl w1 e1 (fun _ _ => trivial) ?_
    cases hrec : recoverD (c₀ :: cs) with
    | some x =>
      obtain ⟨v, cs'⟩ := x
      rw [hrec] at hm
      obtain ⟨rfl, rfl⟩ := hm
      exact ops_val (o := o2) rfl (w2 _) ((e2 _).trans (by rw [hev])) (fun _ _ => trivial) fin
    | none =>
      rw [hrec] at hm
      obtain ⟨rfl, hc2⟩ := hm
      rw [hc2] at fin ⊢
      exact ops_val (o := o2) rfl (w2 _) ((e2 _).trans (by rw [hev])) (fun _ _ => trivial) fin
  refine ⟨trivial, fun c₀ cs hu hroom => ?_⟩
  obtain ⟨b, hbd⟩ : ∃ b : Frame, b = { (default : Frame) with fn := f, kind := .deferred, roundOf := none } := ⟨_, rfl⟩
  have hbf : b.fn = f := by rw [hbd]
  have hbk : b.kind = .deferred := by rw [hbd]
  have hbr : b.roundOf = none := by rw [hbd]
  have henter : Frame.enter P f cargs .deferred = b.atR { tmps := cargs ++ Array.replicate (fn.ntmps - cargs.size) undef, defers := [] } [.code (.seq (.region id #[o1, o2] false) rest)] := by
    simp [Frame.enter, Frame.atR, hf, hb, hbd]
  obtain ⟨e, a', cs', w', hlen, ⟨he, rfl, G', s', hle, hnw, hs', hd', hH⟩, harr⟩ := body c₀ cs hu b [] hbk hbr trivial hroom
  rw [← henter] at harr
  obtain ⟨hle0, Ds, hds, hnd, hDs⟩ := hd'
  rw [List.append_nil] at hds
  have base : Sim w0 { G' with ρ := G.ρ } s'.H w' := end_base (w := w) hle hs.g hs'
  have reach : ∃ todo, StepsIn (Machine.fenced P Fence.wide) P (lone (Frame.enter P f cargs .deferred) (c₀ :: cs) w) (lone { b.atR a' todo with mode := .returning } ({ c₀ with mode := modeTo oV } :: cs) w') := by
    rcases he with rfl | rfl
    · exact ⟨[], StepsIn.trans harr (.one (fenced_calm (fr := b.atR a' []) (n := 0) trivial hroom rfl) (stepR_end hbr))⟩
    · exact harr.1 hbr
  obtain ⟨todo, hst⟩ := reach
  obtain ⟨w2, st2, hs2⟩ := takes (P := P) (F := Fence.wide) (n := 0) (cs := { c₀ with mode := modeTo oV } :: cs) Ds w' { b.atR a' todo with mode := .returning } rfl hds hnd base (end_marks (G := G) (G0 := ⟨G, []⟩) hs' hDs) (fun D hD => (hDs D hD).2) trivial hroom
  obtain ⟨v, hv⟩ : ∃ v, (results fn a'.tmps).run P w2 = .ok v w2 := ⟨_, by simp [results, hrs]; rfl⟩
  exact ⟨.returned v, modeTo oV, w2, _, hR { G' with ρ := G.ρ } w2 v ⟨hle.C, hle.σ, hle.τ, fun _ _ h => h⟩ hnw (hs2.forget hH), StepsIn.trans hst st2, hbk, hbf, rfl, rfl, fn, by rw [← hbf] at hf; exact hf, hv⟩
end Go.Proofs.YtkdendaohlnlcaaGreatDoor.Av

/- A function that defers a closure that recovers. No condition. -/
namespace Go.Proofs.YtkdendaohlnlcaaGreatDoor.Av
set_option linter.unusedVariables false
set_option linter.unusedSimpArgs false
open Go.RowKit
variable {P : Program} {tab : Tab} {Sp : Spec} {w0 : Base} {k p : List Nat}
def dfr (g : FuncId) (cc : Array Value) : Deferred := { target := .fn (.func g) cc, args := #[] }
/-- A text in which a closure of g is deferred; behind that place the ends are Rd's. -/
def CodeD (P : Program) (w0 : Base) (p : List Nat) (g : FuncId) (c : Code) (s : FS) (R : AEx → FS → Prop) (Rd : List AV → AEx → FS → Prop) : Prop :=
  ∀ (G0 : D0) (G : Gh) (w : World) (a : Act), Sim w0 G s.H w → RepL G s.tmps a.tmps.toList → FreshFrom G p s.n → DefOk G0 G a.defers → ∀ Qc, Bears P w0 p s R G0 G Qc →
    (∀ G1 s1 caps cc ds, G.Le G1 → NewF p s.n G G1 → s.n ≤ s1.n → RepL G1 caps cc.toList → DefOk G0 G1 ds → Bears P w0 p s1 (Rd caps) ⟨G1, dfr g cc :: ds⟩ G1 Qc) → c.wpIn (fz none) 0 P Qc a w
theorem CodeD.seq {g : FuncId} {a b : Code} {s : FS} {R : AEx → FS → Prop} {Rd : List AV → AEx → FS → Prop} (h : CodeOk P w0 none p a s (thenR (fun s' => CodeD P w0 p g b s' R Rd) R)) : CodeD P w0 p g (.seq a b) s R Rd := fun G0 G w act hs hr hf hd Qc hB hD => by
  refine wpIn_seq (h G0 G w act hs hr hf hd _ fun x s' G' w' a' hx hl hn hs' hr' hd' hf' hle X hX => ?_)
  have other : R x s' → Qc X a' w' := fun hx => hB x s' G' w' a' hx hl hn hs' hr' hd' hf' hle X hX
  cases x with
  | normal =>
    cases hX
    exact hx G0 G' w' a' hs' hr' hf' hd' Qc (hB.later hl hn hle fun _ _ h => h) fun G1 s1 caps cc ds h1 h2 h3 h4 h5 => hD G1 s1 caps cc ds (hl.trans h1) (hn.trans h2 hle) (by omega) h4 h5
  | ret => cases hX; exact other hx
  | exit id => cases hX; exact other hx
  | panic v => obtain ⟨V, rfl, hV⟩ := hX; exact other hx
theorem wpIn_dfr {ops : Array Oper} {Q : Exit → Act → World → Prop} {o : Oper} {i : Nat} {rest : List Nat} {a : Act} {w w' : World} {d : Deferred} (hi : ops[i]? = some o) (hg : o.guard = none) (hr : (execOp a.eval o).run P w = .ok (.defer d) w')
    (h : wpOpsIn (fz none) 0 P ops Q rest ({ a with defers := d :: a.defers }.put o.dst undef) w') : wpOpsIn (fz none) 0 P ops Q (i :: rest) a w := by
  simp only [wpOpsIn, hi]
  have hw : Region.wanted o (yielded ops a.tmps) = true := by simp [Region.wanted, hg]
  rw [if_pos hw]
  refine ⟨fun _ _ => trivial, ?_⟩
  simp only [Oper.semAt_none, fz, hr, Oper.uponIn]
  exact h
theorem CodeD.here {g : FuncId} {id : Nat} {o1 o2 : Oper} {d1 : Nat} {rest : Code} {s : FS} {R : AEx → FS → Prop} {Rd : List AV → AEx → FS → Prop} {l : List Operand} (ho1 : o1.op = .makeFunc (.func g) #[] l.toArray) (hd1 : o1.dst = some d1) (hg1 : o1.guard = none) (ho2 : o2.op = .defer ⟨.value (.tmp d1), #[], #[]⟩) (hd2 : o2.dst = none) (hg2 : o2.guard = none) (hl : d1 < s.tmps.length)
    (h : CodeOk P w0 none p rest ⟨s.tmps.set d1 (.clo (.func g) [] (l.map (evA s.tmps))), s.n, s.H⟩ (Rd (l.map (evA s.tmps)))) : CodeD P w0 p g (.seq (.region id #[o1, o2] false) rest) s R Rd := by
  intro G0 G w a hs hr hf hd Qc hB hD
  refine wpIn_seq (wpIn_region ?_)
  have hsz := hr.size
  show wpOpsIn (fz none) 0 P #[o1, o2] _ [0, 1] a w
  have hcc : RepL G (l.map (evA s.tmps)) (l.map a.eval) := RepL_map _ fun x _ => rep_eval hr x
  have hrep : Rep G (.clo (.func g) [] (l.map (evA s.tmps))) (.func (.func g) #[] (l.map a.eval).toArray) := by
    simp only [Rep]
    exact ⟨[], l.map a.eval, rfl, by simp [RepL], hcc⟩
  refine wpIn_one (o := o1) rfl hg1 (fun c hc => by rw [ho1] at hc; cases hc) (V := .func (.func g) #[] (l.map a.eval).toArray) (w' := w) (by simp [execOp, ho1, Instr.makeFunc]) ?_
  have hev : (a.put o1.dst (.func (.func g) #[] (l.map a.eval).toArray)).eval (.tmp d1) = .func (.func g) #[] (l.map a.eval).toArray := by simp [hd1, Act.put, Act.eval, show d1 < a.tmps.size by omega]
  refine wpIn_dfr (o := o2) rfl hg2 (d := dfr g (l.map a.eval).toArray) (w' := w) (by
    generalize (a.put o1.dst (.func (.func g) #[] (l.map a.eval).toArray)).eval = ev at hev ⊢
    simp [execOp, ho2, resolve, hev, dfr, Deferred.ofValue]) ?_
  have hdf : (a.put o1.dst (.func (.func g) #[] (l.map a.eval).toArray)).defers = a.defers := by simp [hd1, Act.put]
  obtain ⟨b, hb⟩ : ∃ b : Act, b = ({ a.put o1.dst (.func (.func g) #[] (l.map a.eval).toArray) with defers := dfr g (l.map a.eval).toArray :: (a.put o1.dst (.func (.func g) #[] (l.map a.eval).toArray)).defers }.put o2.dst undef) := ⟨_, rfl⟩
  rw [← hb]
  have hr2 : RepL G (s.tmps.set d1 (.clo (.func g) [] (l.map (evA s.tmps)))) b.tmps.toList := by
    rw [hb, hd1, hd2]
    have := rep_put hr hrep (some d1)
    exact this
  have hb2 : b.defers = dfr g (l.map a.eval).toArray :: a.defers := by rw [hb, hd2, hdf]; rfl
  exact h ⟨G, dfr g (l.map a.eval).toArray :: a.defers⟩ G w b hs hr2 hf (by rw [hb2]; exact DefOk.nil G _) Qc (hD G _ _ _ a.defers (Gh.Le.refl G) (NewF.refl _ _ _) (Nat.le_refl _) hcc hd)
/-- Behind a text's normal end one in which a closure is deferred. -/
def dcutL (P : Program) (w0 : Base) (p : List Nat) (g : FuncId) (b : Code) (R : AEx → FS → Prop) (Rd : List AV → AEx → FS → Prop) : AEx → FS → Prop := thenR (fun s' => CodeD P w0 p g b s' R Rd) R
section
variable {g : FuncId} {b : Code} {R : AEx → FS → Prop} {Rd : List AV → AEx → FS → Prop} {s : FS}
@[go_sem] theorem dcutL_normal : dcutL P w0 p g b R Rd .normal s = CodeD P w0 p g b s R Rd := rfl
@[go_sem] theorem dcutL_ret : dcutL P w0 p g b R Rd .ret s = R .ret s := rfl
@[go_sem] theorem dcutL_exit {i : Nat} : dcutL P w0 p g b R Rd (.exit i) s = R (.exit i) s := rfl
@[go_sem] theorem dcutL_panic {v : AV} : dcutL P w0 p g b R Rd (.panic v) s = R (.panic v) s := rfl
theorem CodeD.cut (hT : TabOk P tab) (hS : SpecOk P w0 Sp) (hm : P.follows .mixedOrders = true) (mb : List Tmp) {a : Code} (h : vc P tab Sp w0 none mb p a s (dcutL P w0 p g b R Rd)) : CodeD P w0 p g (.seq a b) s R Rd := CodeD.seq (vc_sound hT hS hm a s _ h)
end
/-- How a text ends behind which the closure runs. -/
def endDx (P : Program) (w0 : Base) (k : List Nat) (tab : Tab) (rs : List ResultVar) (g : FuncId) (o : Out) (H' : Hp) (caps : List AV) : AEx → FS → Prop
  | .exit _, _ => False
  | x, s' => s'.tmps ≠ [] ∧ ∃ H2, DefAt P w0 (s'.n :: k) g caps s'.H H2 (match x with
      | .panic u => some u
      | _ => none) ∧ ∃ v, o = .ret v ∧ ∃ u, resA tab rs ⟨s'.tmps, s'.n, H2⟩ = some u ∧ Weak u v ∧ H'.Le H2
section
variable {rs : List ResultVar} {g : FuncId} {o : Out} {H' H : Hp} {caps : List AV} {t : List AV} {n : Nat} {v : AV}
/-- What is asked behind the closure. -/
def dfrK (P : Program) (w0 : Base) (k : List Nat) (tab : Tab) (rs : List ResultVar) (g : FuncId) (o : Out) (H' : Hp) (caps : List AV) (t : List AV) (n : Nat) (H : Hp) (ov : Option AV) : Prop := t ≠ [] ∧ ∃ H2, DefAt P w0 (n :: k) g caps H H2 ov ∧ ∃ v, o = .ret v ∧ ∃ u, resA tab rs ⟨t, n, H2⟩ = some u ∧ Weak u v ∧ H'.Le H2
@[go_sem] theorem endDx_normal : endDx P w0 k tab rs g o H' caps .normal ⟨t, n, H⟩ = dfrK P w0 k tab rs g o H' caps t n H none := rfl
@[go_sem] theorem endDx_ret : endDx P w0 k tab rs g o H' caps .ret ⟨t, n, H⟩ = dfrK P w0 k tab rs g o H' caps t n H none := rfl
@[go_sem] theorem endDx_exit {i : Nat} : endDx P w0 k tab rs g o H' caps (.exit i) ⟨t, n, H⟩ = False := rfl
@[go_sem] theorem endDx_panic : endDx P w0 k tab rs g o H' caps (.panic v) ⟨t, n, H⟩ = dfrK P w0 k tab rs g o H' caps t n H (some v) := rfl
end
theorem dfrK_of {rs : List ResultVar} {g : FuncId} {o : Out} {H' H H2 : Hp} {caps : List AV} {t : List AV} {n : Nat} {ov : Option AV} (ht : 0 < t.length) (hd : DefAt P w0 (n :: k) g caps H H2 ov) (h : retO o H' H2 (resA tab rs ⟨t, n, H2⟩)) : dfrK P w0 k tab rs g o H' caps t n H ov := by
  obtain ⟨x, hx, v, ho, hw, hl⟩ := h
  exact ⟨(by rintro rfl; cases ht), H2, hd, v, ho, x, hx, hw, hl⟩
theorem callO_of_codeD (hT : TabOk P tab) {f g : FuncId} {fn : Func} {c : Code} {args : List AV} {H H' : Hp} {v : AV} (hf : P.funcs[f]? = some fn) (hb : fn.body = some c) (hn : (fn.name == "runtime.NumGoroutine") = false)
    {fg : Func} {cg : Code} (hgf : P.funcs[g]? = some fg) (hgb : fg.body = some cg) (hgn : (fg.name == "runtime.NumGoroutine") = false) {rs : List ResultVar} {nt : Nat} (hrs : fn.results = rs.toArray) (hnt : fn.ntmps = nt)
    (h : (∀ i : Id, k <:+ i.key → H i = none) → CodeD P w0 k g c ⟨args ++ List.replicate (nt - args.length) AV.undef, 0, H⟩ (endOx tab rs (.ret v) H') (endDx P w0 k tab rs g (.ret v) H')) : BodyAt P w0 k f args H H' v := by
  subst hnt
  refine ⟨⟨fn, c, hf, hb, hn⟩, fun G w cargs hs hfr hr R hR => ?_⟩
  have hfresh : ∀ i : Id, k <:+ i.key → H i = none := fun i hi => by
    cases hh : H i with
    | none => rfl
    | some e =>
      have hk := hfr i hi
      cases e with
      | cells avs => obtain ⟨b, hb⟩ := hs.d _ _ hh; rw [hk.1] at hb; cases hb
      | tok =>
        rcases hs.t _ hh with g | ⟨b, m, c, T, cs, g, _⟩
        · rw [hk.2] at g; cases g
        · rw [hk.2] at g; cases g
  have hl : args.length = cargs.size := hr.size
  refine (callsIn_wide (n := 0)).1 (callsIn_of_wp_marks hf hb trivial ?_)
  refine h hfresh ⟨G, []⟩ G w _ hs ?_ (fun m _ i hi => hfr i ((List.suffix_cons m k).trans hi)) (DefOk.nil G []) _ ?_ ?_
  · simp only [Array.toList_append, Array.toList_replicate]
    rw [hl]
    exact RepL.append hr (RepL.replicate G _)
  · intro x s' G' w' a' hx hle hnw hs' hr' hd' _ _ X hX
    obtain ⟨hle0, Ds, hds, hnd, hDs⟩ := hd'
    rw [List.append_nil] at hds
    have base : Sim w0 { G' with ρ := G.ρ } s'.H w' := end_base (w := w) hle hs.g hs'
    have done : (∃ v', Out.ret v = .ret v' ∧ ∃ u, resA tab rs s' = some u ∧ Weak u v' ∧ H'.Le s'.H) → RepL G' s'.tmps a'.tmps.toList → LeavesInM Fence.wide 0 P fn a'.tmps R a'.defers .returning w' := fun ⟨v', ho, u, hu, hw, hH⟩ hr' => by
      cases ho
      rw [hds]
      have := leaves_marks (P := P) (fn := fn) (tmps := a'.tmps) (R := R) (ds0 := []) (u := .returning) (by simp) (fun w2 hs2 => by
        obtain ⟨V, hV, hRep⟩ := resA_ok (fn := fn) (s := s') (by exact hT) (by rw [hrs]; exact hu) hs2 (rep_noρ hr')
        exact ⟨V, hV, hR { G' with ρ := G.ρ } w2 V ⟨hle.C, hle.σ, hle.τ, fun _ _ h => h⟩ hnw.up (hs2.forget hH) (hw _ V hRep)⟩) Ds hnd w' base (end_marks (G := G) (G0 := ⟨G, []⟩) hs' hDs) fun D hD => (hDs D hD).2
      simpa using this
    cases x with
    | normal => cases hX; exact done hx hr'
    | ret => cases hX; exact done hx hr'
    | exit id => exact hx.elim
    | panic u => obtain ⟨v', ho, _⟩ := hx; cases ho
  · intro G1 s1 caps cc ds hle1 hnw1 hn1 hcc hd1 x s' G' w' a' hx hle hnw hs' hr' hd' hff hn' X hX
    obtain ⟨hle0, Ds1, hds1, hnd1, hDs1⟩ := hd1
    rw [List.append_nil] at hds1
    obtain ⟨hle2, Ds2, hds2, hnd2, hDs2⟩ := hd'
    have base1 : Sim w0 { G' with ρ := G1.ρ } s'.H w' := end_base (w := w) hle (hs.g.trans hle1) hs'
    have leA : G1.Le { G' with ρ := G1.ρ } := ⟨hle.C, hle.σ, hle.τ, fun _ _ h => h⟩
    have done : ∀ (ov : Option AV) (oV : Option Value), RepO G' ov oV → (∃ H2, DefAt P w0 (s'.n :: k) g caps s'.H H2 ov ∧ ∃ v', Out.ret v = .ret v' ∧ ∃ u, resA tab rs ⟨s'.tmps, s'.n, H2⟩ = some u ∧ Weak u v' ∧ H'.Le H2) → RepL G' s'.tmps a'.tmps.toList → LeavesInM Fence.wide 0 P fn a'.tmps R a'.defers (modeOf oV) w' := fun ov oV ho ⟨H2, hdef, v', hov, u, hu, hw, hH⟩ hr' => by
      cases hov
      rw [hds2]
      refine leaves_marks (P := P) (fn := fn) (tmps := a'.tmps) (R := R) (ds0 := dfr g cc :: ds) (u := modeOf oV) (by cases oV <;> simp [modeOf]) (fun w2 hs2 => ?_) Ds2 hnd2 w' base1 (end_marks (G := G1) (G0 := ⟨G1, dfr g cc :: ds⟩) hs' hDs2) fun D hD => (hDs2 D hD).2
      refine ⟨by cases oV <;> simp [modeOf], .inr ⟨by simp [Fence.wide], .func g, cc, g, cc, rfl, by simp [dfr, invoke, callFunc, program, Sem.run, hgf, hgb, by simpa using hgn], fun _ _ => trivial, hdef { G' with ρ := G1.ρ } w2 cc oV hs2 (hff s'.n (Nat.le_refl _)) (RepL.mono leA _ _ hcc) (by cases ov <;> cases oV <;> first | exact trivial | exact rep_noρ1 _ _ ho | exact ho.elim) _ ?_⟩⟩
      intro G3 w3 V3 hle3 hnw3 hs3
      have hset : settle (modeTo oV) = .returning := by cases oV <;> rfl
      show LeavesInM Fence.wide 0 P fn a'.tmps R ds (settle (modeTo oV)) w3
      rw [hset, hds1]
      have leB : G.Le G3 := hle1.trans (leA.trans hle3)
      have base3 : Sim w0 { G3 with ρ := G.ρ } H2 w3 := end_base (w := w) leB hs.g hs3
      have := leaves_marks (P := P) (fn := fn) (tmps := a'.tmps) (R := R) (ds0 := []) (u := .returning) (by simp) (fun w4 hs4 => by
        obtain ⟨V, hV, hRep⟩ := resA_ok (fn := fn) (s := ⟨s'.tmps, s'.n, H2⟩) (by exact hT) (by rw [hrs]; exact hu) hs4 (rep_noρ (RepL.mono hle3 _ _ (rep_noρ (ρ := G1.ρ) hr')))
        exact ⟨V, hV, hR { G3 with ρ := G.ρ } w4 V ⟨leB.C, leB.σ, leB.τ, fun _ _ h => h⟩ (NewF.up (NewF.trans (NewF.trans hnw1 hnw (by omega)) (C := { G3 with ρ := G.ρ }) (New.f hnw3) (by omega))) (hs4.forget hH) (hw _ V hRep)⟩) Ds1 hnd1 w3 base3 (end_marks (G := G) (G0 := ⟨G, []⟩) hs3 fun D hD => ⟨hle3.ρ _ _ ((hDs1 D hD).1), (hDs1 D hD).2⟩) fun D hD => (hDs1 D hD).2
      simpa using this
    cases x with
    | normal => cases hX; exact done none none trivial hx.2 hr'
    | ret => cases hX; exact done none none trivial hx.2 hr'
    | exit id => exact hx.elim
    | panic u =>
      obtain ⟨V, rfl, hV⟩ := hX
      rcases hr' with h0 | hr'
      · exact absurd h0 hx.1
      · exact done (some u) (some V) hV hx.2 hr'
end Go.Proofs.YtkdendaohlnlcaaGreatDoor.Av

/- A call that answers a new row, which has a token then; a row's element that is written over by what it holds already. No condition. -/
namespace Go.Proofs.YtkdendaohlnlcaaGreatDoor.Av
set_option linter.unusedVariables false
set_option linter.unusedSimpArgs false
open Go.RowKit
section
variable {P : Program} {tab : Tab} {Sp : Spec} {w0 : Base} {ro : Option Nat} {p k : List Nat}
/-- A call whose answer is a new row. -/
theorem callAt_of_row {f : FuncId} {fn : Func} {c : Code} {H : Hp} (hf : P.funcs[f]? = some fn) (hb : fn.body = some c) (hn : (fn.name == "runtime.NumGoroutine") = false) {args : List AV} {xs : List (List AV)} {sz : Nat} {T : TypeId} (hsz : ∀ x ∈ xs, x.length = sz)
    (h : ∀ (G : Gh) (w : World) (cargs : Array Value), Sim w0 G H w → RepL G args cargs.toList → Calls P f cargs w fun e w' => ∃ vs : Array Value, e = .returned (.slice (some ⟨w.heap.size, 0, none⟩) xs.length xs.length) ∧ w' = w.alloc (.cells vs T) ∧ RepL G xs.flatten vs.toList) :
    CallAt P w0 k f args H (H.upd ⟨sz, k, T⟩ (some .tok)) (.list (.tok ⟨sz, k, T⟩) xs) :=
  .inl ⟨⟨fn, c, hf, hb, hn⟩, fun G w cargs hs hfr hr R hR => (h G w cargs hs hr).mono fun e w' he => by
    obtain ⟨vs, rfl, rfl, hv⟩ := he
    have hid := hfr ⟨sz, k, T⟩ (List.suffix_refl k)
    have hvl : vs.size = xs.length * sz := by rw [← hv.size, flatten_length xs hsz]
    have hnew : (w.alloc (.cells vs T)).heap[w.heap.size]? = some (.cells vs T (0, 0)) := new_block
    have hs1 := hs.newRow vs T
    have hs2 : Sim w0 ((G.withC (viewOf w.heap.size vs vs.size)).withτ ⟨sz, k, T⟩ (some (w.heap.size, xs.length, xs.length, T))) (H.upd ⟨sz, k, T⟩ (some .tok)) (w.alloc (.cells vs T)) := by
      refine hs1.newTok ⟨sz, k, T⟩ hid.2 _ (fun i avs e => ?_) (fun i hi e => ?_) ?_
      · by_cases hi : i = ⟨sz, k, T⟩
        · rw [hi, Hp.upd_same] at e; cases e
        · rwa [Hp.upd_ne _ _ hi] at e
      · rwa [Hp.upd_ne _ _ hi] at e
      · intro b m c' T' e
        simp only [Option.some.injEq, Prod.mk.injEq] at e
        obtain ⟨rfl, rfl, rfl, rfl⟩ := e
        refine ⟨hs.base, ⟨vs, hnew, Nat.le_of_eq hvl.symm⟩, ⟨Nat.le_refl _, rfl⟩, fun a ha ho => ?_, fun i hi => ?_, fun i hi hti y hy => ?_⟩
        · have h1 : G.C a = none := by
            cases hc : G.C a with
            | none => rfl
            | some u => have := hs.lt_of_C hc; omega
          simp only at ho
          simp only [Gh.withC, h1, viewOf, Option.none_or]
          rw [if_neg (fun hh => by rw [hvl] at hh; exact absurd hh.2.2 (Nat.not_lt.2 ho))]
        · have := hs.lt_of_σ (i := i) hi
          omega
        · rw [Hp.upd_ne _ _ hi] at hti
          rcases hs.t i hti with h1 | ⟨b', m', c', T', cs', h1, h2, h3, _⟩
          · have hy' : G.τ i = some (some (w.heap.size, y)) := hy
            rw [hy'] at h1; cases h1
          · have hy' : G.τ i = some (some (w.heap.size, y)) := hy
            rw [hy'] at h1
            simp only [Option.some.injEq, Prod.mk.injEq] at h1
            have := (Array.getElem?_eq_some_iff.1 h3).1
            omega
    refine hR _ _ _ ((G.le_withC _).trans (Gh.le_withτ hid.2)) (fun i hi => ?_) hs2 ?_
    · have := New.τ (G := G.withC (viewOf w.heap.size vs vs.size)) (x := some (w.heap.size, xs.length, xs.length, T)) (id := ⟨sz, k, T⟩) (k := k) (List.suffix_refl k) i hi
      exact this
    · have hrc : RepC (G.withC (viewOf w.heap.size vs vs.size)) ⟨w.heap.size, 0, none⟩ 0 xs.flatten := rep_newRow hs hv
      have hre := RepE.mono (Gh.le_withτ (G := G.withC (viewOf w.heap.size vs vs.size)) (x := some (w.heap.size, xs.length, xs.length, T)) hid.2) _ _ _ (RepE_of_list xs 0 hrc)
      simp only [Rep]
      exact ⟨_, _, _, rfl, rfl, Nat.le_refl _, ⟨w.heap.size, T, by simp [Gh.withτ], rfl⟩, ⟨sz, hsz⟩, _, fun _ => rfl, hre⟩⟩

theorem wpIn_skip1 {ops : Array Oper} {Q : Exit → Act → World → Prop} {o : Oper} {i : Nat} {rest : List Nat} {a : Act} {w w' : World} (hi : ops[i]? = some o) (hg : o.guard = none) (hd : ∀ c, o.op ≠ .defer c) (hr : (execOp a.eval o).run P w = .ok .skip w')
    (h : wpOpsIn (fz ro) 0 P ops Q rest (a.put o.dst undef) w') : wpOpsIn (fz ro) 0 P ops Q (i :: rest) a w := by
  rw [wpOpsIn_cons]
  unfold wpOpIn
  have hw : Region.wanted o (yielded ops a.tmps) = true := by simp [Region.wanted, hg]
  simp only [hi, hw, if_true]
  refine wpIn_of_wp hd ?_
  unfold Oper.wp
  rw [hr]
  exact h
theorem Run.length {ops : Array Oper} {kp : List Nat} : ∀ {tr : List TE} {s s' : S}, Run P w0 ops kp tr s s' → s'.tmps.length = s.tmps.length
  | [], s, s', h => by
    simp only [Run] at h
    rw [h]
  | x :: tr, s, s', ⟨s1, ⟨g, _, _, _, _, h1⟩, h2⟩ => by
    rw [Run.length h2, h1, putA_length]
/-- What is asked where a row's element is written over by what it holds. -/
def keepV (d : Tmp) (R : AEx → FS → Prop) (n : Nat) (t : List AV) (H : Hp) : AV → AV → AV → Prop
  | .list (.tok id) xs, .raw (.int _ m), .raw (.string s) => H id = some .tok ∧ id.sz = 1 ∧ (0 ≤ m ∧ m < xs.length) ∧ xs.getD m.toNat [] = [.str s] ∧ R .normal ⟨t.set d (.sptr [.str s]), n + 1, H⟩
  | _, _, _ => False
@[go_sem] theorem keepV_at {d : Tmp} {R : AEx → FS → Prop} {n : Nat} {t : List AV} {H : Hp} {id : Id} {xs : List (List AV)} {kk : IntKind} {m : Int} {s : ByteArray} :
    keepV d R n t H (.list (.tok id) xs) (.raw (.int kk m)) (.raw (.string s)) = (H id = some .tok ∧ id.sz = 1 ∧ (0 ≤ m ∧ m < xs.length) ∧ xs.getD m.toNat [] = [.str s] ∧ R .normal ⟨t.set d (.sptr [.str s]), n + 1, H⟩) := rfl
def keepL (x i y : Operand) (d : Tmp) (R : AEx → FS → Prop) (n : Nat) : S → Prop := fun s' => keepV d R n s'.tmps s'.H (evA s'.tmps x) (evA s'.tmps i) (evA s'.tmps y)
@[go_sem] theorem keepL_at {x i y : Operand} {d : Tmp} {R : AEx → FS → Prop} {n : Nat} {t : List AV} {H : Hp} : keepL x i y d R n ⟨t, H⟩ = keepV d R n t H (evA t x) (evA t i) (evA t y) := rfl
def noP : S → AV → Prop := fun _ _ => False
@[go_sem] theorem noP_at {s : S} {v : AV} : noP s v = False := rfl
theorem DetOk.keepL (hT : TabOk P tab) (hS : SpecOk P w0 Sp) {id : Nat} {l : List Oper} {o1 o2 : Oper} {x i y : Operand} {d : Tmp} {ty te : TypeId} {a1 a2 b1 : Nat} {z1 z2 : Value} {ts : List AV} {n : Nat} {H : Hp} {R : AEx → FS → Prop} {mb : List Tmp}
    (ho1 : o1.op = .indexAddr ty x i) (hd1 : o1.dst = some d) (hg1 : o1.guard = none) (ho2 : o2.op = .store te (.tmp d) y) (hg2 : o2.guard = none) (hd2 : o2.dst = none) (hty : tab ty = some ⟨.slice te, a1, a2, z1⟩) (hte : tab te = some ⟨.string, 1, b1, z2⟩) (hyd : y ≠ .tmp d) (hdl : d < ts.length)
    (h : vcSeq P tab Sp w0 mb (l ++ [o1, o2]).toArray (n :: p) noP l.zipIdx ⟨ts, H⟩ (Av.keepL x i y d R n)) : DetOk P w0 ro p (.region id (l ++ [o1, o2]).toArray false) ⟨ts, n, H⟩ R := by
  rcases vcSeq_sound hT hS _ _ _ h with ⟨tr, s', h1, h2, h3⟩ | ⟨_, _, _, _, _, _, _, _, _, _, h4⟩
  · obtain ⟨t, H'⟩ := s'
    simp only [Av.keepL] at h3
    have h3' := h3
    unfold keepV at h3'
    split at h3'
    · rename_i tk xs kk m s hX0 hI0 hY0
      obtain ⟨k1, k2, k3, k4, k5⟩ := h3'
      refine ⟨.normal, ⟨t.set d (.sptr [.str s]), n + 1, H'⟩, k5, ?_⟩
      intro G0 G w a hs hr hf hd Qc hB
      have hfr : ∀ i, Fresh G (i :: n :: p) := fun i j hj => hf n (Nat.le_refl _) j ((List.suffix_cons i _).trans hj)
      have hidx : tr.map (·.i) = List.range l.length := by
        have h5 := congrArg (List.map Prod.fst) h2
        rw [List.map_map, List.map_map] at h5
        have e1 : (Prod.fst ∘ fun x : TE => (x.i, x.o)) = fun x : TE => x.i := rfl
        have e2 : (Prod.fst ∘ fun x : Oper × Nat => (x.2, x.1)) = Prod.snd := rfl
        rw [e1, e2, List.zipIdx_map_snd] at h5
        rw [h5, List.range_eq_range']
      have hget : ∀ x ∈ tr, (l ++ [o1, o2]).toArray[x.i]? = some x.o := fun x hx => by
        have : (x.i, x.o) ∈ l.zipIdx.map (fun x => (x.2, x.1)) := by rw [← h2]; exact List.mem_map_of_mem (f := fun x => (x.i, x.o)) hx
        obtain ⟨y, hy, he⟩ := List.mem_map.1 this
        simp only [Prod.mk.injEq] at he
        have h6 := List.mem_zipIdx_iff_getElem?.1 hy
        rw [← he.1, ← he.2, List.getElem?_toArray, List.getElem?_append_left (List.getElem?_eq_some_iff.1 h6).1]
        exact h6
      refine wpIn_region ?_
      have hrange : List.range (l ++ [o1, o2]).toArray.size = tr.map (·.i) ++ [l.length, l.length + 1] := by
        rw [hidx]
        simp [List.range_succ]
      show wpOpsIn (fz ro) 0 P _ _ (List.range (l ++ [o1, o2]).toArray.size) a w
      rw [hrange]
      refine run_more (Q := Qc) tr _ _ h1 hget (by rw [hidx]; exact List.nodup_range) G a w hs hr (fun x _ => hfr x.i) ro fun G' a' w' hl hn hs' hr' hd' _ => ?_
      have hx := rep_eval hr' x
      have hi := rep_eval hr' i
      have hy := rep_eval hr' y
      rw [hX0] at hx
      rw [hI0] at hi
      rw [hY0] at hy
      have hel : P.elem ty = te := by simp [Program.elem, hT.slice hty]
      have hX := hx
      simp only [Rep] at hX hi hy
      obtain ⟨A, nn, cc, hA, hnn, hcc, ⟨b, T, hτ, rfl⟩, hun, ad, had, hre⟩ := hX
      rcases hs'.t tk k1 with g | ⟨b', m', c1, T', cs, g1, g2, g3, g4, g5, g6⟩
      · rw [hτ] at g; cases g
      rw [hτ] at g1
      simp only [Option.some.injEq, Prod.mk.injEq] at g1
      obtain ⟨rfl, rfl, rfl, rfl⟩ := g1
      have hne : xs ≠ [] := by rintro rfl; simp at k3; omega
      have had' := had hne
      simp only [Option.some.injEq] at had'
      subst had'
      have hlt : m.toNat < xs.length := by omega
      obtain ⟨sz, hsz⟩ := hun
      have hmem : xs.getD m.toNat [] ∈ xs := by
        rw [List.getD_eq_getElem?_getD, List.getElem?_eq_getElem hlt]
        simp
      have hsz' : sz = 1 := by rw [← hsz _ hmem, k4]; rfl
      subst hsz'
      have hcell := hre.at_ xs 0 hsz m.toNat hlt
      rw [k4] at hcell
      simp only [RepC, Rep, and_true, Nat.zero_add, Nat.mul_one, add_at] at hcell
      obtain ⟨v, hv, rfl⟩ := hcell
      have hcw := hs'.c _ _ hv
      have hcs : cs[m.toNat]? = some (.string s) := by
        unfold World.cell? at hcw
        simp only at hcw
        rw [g3] at hcw
        simpa using hcw
      have hcl : m.toNat < cs.size := (Array.getElem?_eq_some_iff.1 hcs).1
      have hrun1 : (execOp a'.eval o1).run P w' = .ok (.value (.pointer (some ⟨b, m.toNat, none⟩))) w' := by
        simp only [execOp, ho1, Sem.run_bind, hA, hi]
        rw [run_indexAt_slice w' ty _ nn cc kk m (by rw [hel]; exact hT.slice hty), if_pos ⟨k3.1, by omega⟩, hel, hT.sizeOf hte w']
        simp only [Result.andThen_ok, Sem.run_pure, Nat.mul_one, add_at]
      refine wpIn_one (o := o1) (i := l.length) (rest := [l.length + 1]) (by simp) hg1 (fun c hc => by rw [ho1] at hc; cases hc) hrun1 ?_
      have hl2 : d < a'.tmps.size := by
        have e1 := hr'.size
        have e2 : t.length = ts.length := by
          have := Run.length h1
          simpa using this
        simp only at e1
        rw [← e1, e2]
        exact hdl
      have hev : (a'.put o1.dst (.pointer (some ⟨b, m.toNat, none⟩))).eval (.tmp d) = .pointer (some ⟨b, m.toNat, none⟩) := by simp [hd1, Act.put, Act.eval, hl2]
      have hevy : (a'.put o1.dst (.pointer (some ⟨b, m.toNat, none⟩))).eval y = .string s := by
        rw [← hy]
        cases y with
        | tmp e =>
          have : e ≠ d := fun h => hyd (by rw [h])
          simp [hd1, Act.put, Act.eval, Array.getD_eq_getD_getElem?, Array.getElem?_setIfInBounds, Ne.symm this]
        | const v => rfl
        | global g => rfl
        | func f => rfl
      have hst := run_storeCells_at P b m.toNat T [.string s] 0 cs w' g3 (by simp; omega) (by simp [Value.oneCell'])
      have hrow : (cs.toList.take m.toNat ++ [Value.string s] ++ cs.toList.drop (m.toNat + 1)).toArray = cs := by
        apply Array.ext'
        simp only [List.append_assoc, List.singleton_append]
        have : cs.toList[m.toNat]? = some (.string s) := by simpa using hcs
        obtain ⟨q1, q2⟩ := List.getElem?_eq_some_iff.1 this
        have := List.drop_eq_getElem_cons q1
        rw [q2] at this
        rw [← this, List.take_append_drop]
      have hrun2 : (execOp (a'.put o1.dst (.pointer (some ⟨b, m.toNat, none⟩))).eval o2).run P w' = .ok .skip w' := by
        generalize (a'.put o1.dst (.pointer (some ⟨b, m.toNat, none⟩))).eval = ev at hev hevy ⊢
        simp only [execOp, ho2, Sem.run_bind, Instr.storeAt, hev, hevy, Instr.sureAddr, Sem.run_pure, Result.andThen_ok, storeVar, hT.sizeOf hte, Value.cells]
        rw [if_neg (by simp)]
        simp only [Nat.add_zero, List.length_cons, List.length_nil, Nat.zero_add] at hst
        rw [hrow, setRow_self w' b cs T (0, 0) g3] at hst
        simp only [hst, Result.andThen_ok, Sem.run_pure, Sem.run_bind]
      have hfin : Qc .normal (a'.put o1.dst (.pointer (some ⟨b, m.toNat, none⟩))) w' := by
        have hlen' := hr'.size
        refine hB .normal ⟨t.set d (.sptr [.str s]), n + 1, H'⟩ G' w' _ ⟨rfl, rfl⟩ hl hn.f hs' ?_ ?_ (hf.next hn) (Nat.le_succ _) _ rfl
        · have hsp : Rep G' (.sptr [.str s]) (.pointer (some ⟨b, m.toNat, none⟩)) := by
            simp only [Rep, RepC, and_true]
            exact ⟨_, rfl, _, by simpa [Addr.add] using hv, rfl⟩
          have := rep_put hr' hsp o1.dst
          rw [hd1] at this ⊢
          exact this
        · rw [put_defers', hd']
          exact hd.later hl
      have hg : wpOpsIn (fz ro) 0 P (l ++ [o1, o2]).toArray Qc [l.length + 1] (a'.put o1.dst (.pointer (some ⟨b, m.toNat, none⟩))) w' := by
        have hget2 : (l ++ [o1, o2]).toArray[l.length + 1]? = some o2 := by simp
        refine wpIn_skip1 (o := o2) hget2 hg2 (fun c hc => by rw [ho2] at hc; cases hc) hrun2 ?_
        rw [hd2]
        exact hfin
      exact hg
    · exact h3'.elim
  · exact h4.elim
theorem DetOk.keep (hT : TabOk P tab) (hS : SpecOk P w0 Sp) (mb : List Tmp) (m : Nat) {id : Nat} {ops : Array Oper} {o1 o2 : Oper} {x i y : Operand} {d : Tmp} {ty te : TypeId} {a1 a2 b1 : Nat} {z1 z2 : Value} {ts : List AV} {n : Nat} {H : Hp} {R : AEx → FS → Prop}
    (hm1 : ops[m]? = some o1) (hm2 : ops[m + 1]? = some o2) (hsz : ops.size = m + 2) (ho1 : o1.op = .indexAddr ty x i) (hd1 : o1.dst = some d) (hg1 : o1.guard = none) (ho2 : o2.op = .store te (.tmp d) y) (hg2 : o2.guard = none) (hd2 : o2.dst = none) (hty : tab ty = some ⟨.slice te, a1, a2, z1⟩) (hte : tab te = some ⟨.string, 1, b1, z2⟩) (hyd : y ≠ .tmp d) (hdl : d < ts.length)
    (h : seqL P tab Sp w0 mb ops (n :: p) (ops.toList.take m) 0 ts H (Av.keepL x i y d R n) noP) : DetOk P w0 ro p (.region id ops false) ⟨ts, n, H⟩ R := by
  have hops : ops = (ops.toList.take m ++ [o1, o2]).toArray := by
    apply Array.ext'
    simp only [List.toList_toArray]
    have e1 := (List.take_append_drop m ops.toList).symm
    have e2 : ops.toList.drop m = [o1, o2] := by
      have h1 : ops.toList[m]? = some o1 := by simpa using hm1
      have h2 : ops.toList[m + 1]? = some o2 := by simpa using hm2
      obtain ⟨q1, q2⟩ := List.getElem?_eq_some_iff.1 h1
      obtain ⟨q3, q4⟩ := List.getElem?_eq_some_iff.1 h2
      rw [List.drop_eq_getElem_cons q1, List.drop_eq_getElem_cons q3, q2, q4, List.drop_of_length_le (by simp [hsz])]
    rw [e2] at e1
    exact e1
  have h' : vcSeq P tab Sp w0 mb ops (n :: p) noP (ops.toList.take m).zipIdx ⟨ts, H⟩ (Av.keepL x i y d R n) := h
  generalize ops.toList.take m = l at hops h'
  subst hops
  exact DetOk.keepL hT hS ho1 hd1 hg1 ho2 hg2 hd2 hty hte hyd hdl h'
/-! ends of parts that are shown by hand -/
theorem DetOk.of_vc (hT : TabOk P tab) (hS : SpecOk P w0 Sp) (hm : P.follows .mixedOrders = true) (mb : List Tmp) {c : Code} {s : FS} {R : AEx → FS → Prop} (h : vc P tab Sp w0 ro mb p c s R) : DetOk P w0 ro p c s R := vc_det hT hS hm c s R h
def detL (P : Program) (w0 : Base) (ro : Option Nat) (p : List Nat) (b : Code) (R : AEx → FS → Prop) : AEx → FS → Prop := thenR (fun s' => DetOk P w0 ro p b s' R) R
section
variable {R : AEx → FS → Prop} {b : Code} {s : FS}
@[go_sem] theorem detL_normal : detL P w0 ro p b R .normal s = DetOk P w0 ro p b s R := rfl
@[go_sem] theorem detL_ret : detL P w0 ro p b R .ret s = R .ret s := rfl
@[go_sem] theorem detL_exit {i : Nat} : detL P w0 ro p b R (.exit i) s = R (.exit i) s := rfl
@[go_sem] theorem detL_panic {v : AV} : detL P w0 ro p b R (.panic v) s = R (.panic v) s := rfl
theorem DetOk.seq {a : Code} (h : DetOk P w0 ro p a s (detL P w0 ro p b R)) : DetOk P w0 ro p (.seq a b) s R := by
  obtain ⟨x, s1, h1, h2⟩ := h
  cases x with
  | normal =>
    obtain ⟨y, s2, h3, h4⟩ := h1
    refine ⟨y, s2, h3, CodeOk.seq (h2.mono fun z t hz => ?_)⟩
    obtain ⟨rfl, rfl⟩ := hz
    exact h4
  | exit id =>
    refine ⟨.exit id, s1, h1, CodeOk.seq (h2.mono fun z t hz => ?_)⟩
    obtain ⟨rfl, rfl⟩ := hz
    exact ⟨rfl, rfl⟩
  | ret =>
    refine ⟨.ret, s1, h1, CodeOk.seq (h2.mono fun z t hz => ?_)⟩
    obtain ⟨rfl, rfl⟩ := hz
    exact ⟨rfl, rfl⟩
  | panic v =>
    refine ⟨.panic v, s1, h1, CodeOk.seq (h2.mono fun z t hz => ?_)⟩
    obtain ⟨rfl, rfl⟩ := hz
    exact ⟨rfl, rfl⟩
theorem DetOk.cut (hT : TabOk P tab) (hS : SpecOk P w0 Sp) (hm : P.follows .mixedOrders = true) (mb : List Tmp) {a : Code} (h : vc P tab Sp w0 ro mb p a s (detL P w0 ro p b R)) : DetOk P w0 ro p (.seq a b) s R := DetOk.seq (vc_det hT hS hm a s _ h)
theorem DetOk.block {id : Nat} {c : Code} (h : DetOk P w0 ro p c s (blkL id R)) : DetOk P w0 ro p (.block id c) s R := by
  obtain ⟨x, s1, h1, h2⟩ := h
  cases x with
  | normal =>
    refine ⟨.normal, s1, h1, CodeOk.block (h2.mono fun z t hz => ?_)⟩
    obtain ⟨rfl, rfl⟩ := hz
    exact ⟨rfl, rfl⟩
  | ret =>
    refine ⟨.ret, s1, h1, CodeOk.block (h2.mono fun z t hz => ?_)⟩
    obtain ⟨rfl, rfl⟩ := hz
    exact ⟨rfl, rfl⟩
  | panic v =>
    refine ⟨.panic v, s1, h1, CodeOk.block (h2.mono fun z t hz => ?_)⟩
    obtain ⟨rfl, rfl⟩ := hz
    exact ⟨rfl, rfl⟩
  | exit id' =>
    have h1' : blockR id R (.exit id') s1 := h1
    simp only [blockR] at h1'
    split at h1'
    · rename_i he
      refine ⟨.normal, s1, h1', CodeOk.block (h2.mono fun z t hz => ?_)⟩
      obtain ⟨rfl, rfl⟩ := hz
      simp only [blockR, if_pos he]
      exact ⟨rfl, rfl⟩
    · rename_i he
      refine ⟨.exit id', s1, h1', CodeOk.block (h2.mono fun z t hz => ?_)⟩
      obtain ⟨rfl, rfl⟩ := hz
      simp only [blockR, if_neg he]
      exact ⟨rfl, rfl⟩
end
/-- A loop whose rounds are shown by hand. -/
theorem loop_invD {c : Code} {s : FS} {R : AEx → FS → Prop} (I : Nat → FS → Prop) (j0 : Nat) (h0 : I j0 s) (h : ∀ j s, I j s → DetOk P w0 ro p c s (loopL I j R)) : LoopOk P w0 ro p c s R := by
  have go : ∀ j s, I j s → ∃ x s', R x s' ∧ LoopN P w0 ro p (j + 1) c s (eqR x s') := by
    intro j
    induction j with
    | zero =>
      intro s hs
      obtain ⟨x, s', h1, h2⟩ := h 0 s hs
      cases x with
      | normal => obtain ⟨j', hj, _⟩ := h1; omega
      | exit i =>
        refine ⟨.exit i, s', h1, loop_step (h2.mono fun y t hy => ?_)⟩
        obtain ⟨rfl, rfl⟩ := hy
        exact ⟨rfl, rfl⟩
      | ret =>
        refine ⟨.ret, s', h1, loop_step (h2.mono fun y t hy => ?_)⟩
        obtain ⟨rfl, rfl⟩ := hy
        exact ⟨rfl, rfl⟩
      | panic v =>
        refine ⟨.panic v, s', h1, loop_step (h2.mono fun y t hy => ?_)⟩
        obtain ⟨rfl, rfl⟩ := hy
        exact ⟨rfl, rfl⟩
    | succ j ih =>
      intro s hs
      obtain ⟨x, s', h1, h2⟩ := h (j + 1) s hs
      cases x with
      | normal =>
        obtain ⟨j', hj, hI⟩ := h1
        obtain rfl : j' = j := by omega
        obtain ⟨y, s2, h3, h4⟩ := ih s' hI
        refine ⟨y, s2, h3, loop_step (h2.mono fun z t hz => ?_)⟩
        obtain ⟨rfl, rfl⟩ := hz
        exact h4
      | exit i =>
        refine ⟨.exit i, s', h1, loop_step (h2.mono fun y t hy => ?_)⟩
        obtain ⟨rfl, rfl⟩ := hy
        exact ⟨rfl, rfl⟩
      | ret =>
        refine ⟨.ret, s', h1, loop_step (h2.mono fun y t hy => ?_)⟩
        obtain ⟨rfl, rfl⟩ := hy
        exact ⟨rfl, rfl⟩
      | panic v =>
        refine ⟨.panic v, s', h1, loop_step (h2.mono fun y t hy => ?_)⟩
        obtain ⟨rfl, rfl⟩ := hy
        exact ⟨rfl, rfl⟩
  obtain ⟨x, s', h1, h2⟩ := go j0 s h0
  exact ⟨x, s', h1, _, h2⟩
end
end Go.Proofs.YtkdendaohlnlcaaGreatDoor.Av

/- Steps and units as plain data, and how they lie in memory. No condition. -/
namespace Go.Proofs.YtkdendaohlnlcaaGreatDoor.Av
set_option linter.unusedVariables false
set_option linter.unusedSimpArgs false
set_option maxRecDepth 4000
set_option maxHeartbeats 1000000

section
variable {α : Type}
def decL (d : List AV → Option α) : List (List AV) → Option (List α)
  | [] => some []
  | x :: xs => (d x).bind fun a => (decL d xs).bind fun l => some (a :: l)
/-- A row of parts, read part by part. -/
structure DecC (α : Type) where
  dec : List AV → Option α
  enc : α → List AV
  sz : Nat
  len : ∀ c x, dec c = some x → c.length = sz
  elen : ∀ x, (enc x).length = sz
  ok : ∀ c x, dec c = some x → ∀ G V, RepL G c V → RepL G (enc x) V
  self : ∀ x, dec (enc x) = some x
theorem decL_length (D : DecC α) : ∀ {xs : List (List AV)} {l : List α}, decL D.dec xs = some l → xs.length = l.length
  | [], l, h => by simp only [decL, Option.some.injEq] at h; subst h; rfl
  | x :: xs, l, h => by
    simp only [decL, Option.bind_eq_some_iff] at h
    obtain ⟨a, h1, l', h2, h3⟩ := h
    cases h3
    simp [decL_length D h2]
theorem decL_repE (D : DecC α) {G : Gh} : ∀ (xs : List (List AV)) (l : List α), decL D.dec xs = some l → ∀ ad k, RepE G ad k xs → RepE G ad k (l.map D.enc)
  | [], l, h, ad, k, hr => by
    simp only [decL, Option.some.injEq] at h
    subst h
    simp [RepE]
  | x :: xs, l, h, ad, k, hr => by
    simp only [decL, Option.bind_eq_some_iff] at h
    obtain ⟨a, h1, l', h2, h3⟩ := h
    cases h3
    simp only [List.map_cons, RepE] at hr ⊢
    obtain ⟨vs, r, g⟩ := hr.1.values
    refine ⟨RepC_of_list _ _ _ (D.ok x a h1 G vs r) g, ?_⟩
    rw [D.elen, ← D.len x a h1]
    exact decL_repE D xs l' h2 ad _ hr.2
theorem decL_weak (D : DecC α) {t : Tok} {xs : List (List AV)} {l : List α} (h : decL D.dec xs = some l) : Weak (.list t xs) (.list .none (l.map D.enc)) := fun G V hr => by
  simp only [Rep] at hr ⊢
  obtain ⟨A, n, cp, e1, e2, e3, e4, e5, ad, e6, e7⟩ := hr
  have hl := decL_length D h
  refine ⟨A, n, cp, e1, by simp; omega, e3, trivial, ⟨D.sz, ?_⟩, ad, fun hne => e6 ?_, decL_repE D xs l h ad 0 e7⟩
  · intro x hx
    obtain ⟨y, _, rfl⟩ := List.mem_map.1 hx
    exact D.elen y
  · intro hx
    subst hx
    cases l with
    | nil => exact hne rfl
    | cons _ _ => simp at hl
theorem decL_self (D : DecC α) : ∀ l : List α, decL D.dec (l.map D.enc) = some l
  | [] => rfl
  | x :: l => by simp [decL, D.self, decL_self D l]
def dL (D : DecC α) : Dec (List α) where
  dec := fun a => match a with
    | .list _ xs => decL D.dec xs
    | _ => none
  enc := fun l => .list .none (l.map D.enc)
  ok := fun a x h => by
    split at h
    · exact decL_weak D h
    · cases h
def dA (D : DecC α) : Dec α where
  dec := fun a => match a with
    | .agg c => D.dec c
    | _ => none
  enc := fun x => .agg (D.enc x)
  ok := fun a x h => by
    split at h
    · intro G V hr
      simp only [Rep] at hr ⊢
      obtain ⟨cs, h1, h2⟩ := hr
      exact ⟨cs, h1, D.ok _ _ h G _ h2⟩
    · cases h
@[go_sem] theorem dL_at {D : DecC α} {t : Tok} {l : List α} : (dL D).dec (.list t (l.map D.enc)) = some l := decL_self D l
@[go_sem] theorem dA_at {D : DecC α} {c : List AV} : (dA D).dec (.agg c) = D.dec c := rfl
end

def cE : DecC E where
  dec := toE
  enc := E.cells
  sz := 3
  len := fun c x h => toE_length h
  elen := E.cells_length
  ok := fun c x h G V hr => toE_rep x c h V hr
  self := toE_cells
def cS : DecC ByteArray where
  dec := fun c => match c with
    | [.raw (.string s)] => some s
    | _ => none
  enc := fun s => [.str s]
  sz := 1
  len := fun c x h => by
    split at h
    · rfl
    · cases h
  elen := fun x => rfl
  ok := fun c x h G V hr => by
    split at h
    · cases h
      exact hr
    · cases h
  self := fun x => rfl

@[go_sem] theorem cS_cons {t : Tok} {s : ByteArray} {l : List ByteArray} : (dL cS).dec (.list t ([.raw (.string s)] :: l.map cS.enc)) = some (s :: l) := by
  show decL cS.dec _ = _
  rw [decL, decL_self]
  rfl
@[go_sem] theorem cS_strip {l : List ByteArray} : List.map (fun x => List.map strip x) (l.map cS.enc) = l.map cS.enc := by
  rw [List.map_map]
  rfl
theorem cS_each (l : List ByteArray) : ∀ y ∈ l.map cS.enc, y.length = 1 := fun y hy => by
  obtain ⟨x, _, rfl⟩ := List.mem_map.1 hy
  rfl
theorem cS_one (l : List ByteArray) : (l.map cS.enc).flatten.all oneA = true := by
  rw [List.all_eq_true]
  intro x hx
  obtain ⟨y, hy, hx⟩ := List.mem_flatten.1 hx
  obtain ⟨z, _, rfl⟩ := List.mem_map.1 hy
  simp only [cS, List.mem_cons, List.not_mem_nil, or_false] at hx
  subst hx
  rfl
theorem RepL.parts {G : Gh} : ∀ {as_ bs : List AV} {V : List Value}, RepL G (as_ ++ bs) V → ∃ v1 v2, V = v1 ++ v2 ∧ RepL G as_ v1 ∧ RepL G bs v2
  | [], bs, V, h => ⟨[], V, rfl, by simp [RepL], h⟩
  | a :: l, bs, V, h => by
    simp only [List.cons_append, RepL] at h
    obtain ⟨u, us, rfl, h1, h2⟩ := h
    obtain ⟨v1, v2, rfl, h3, h4⟩ := RepL.parts h2
    exact ⟨u :: v1, v2, rfl, by simp only [RepL]; exact ⟨_, _, rfl, h1, h3⟩, h4⟩
structure Step where
  says : E
  by_ : Int
  a : Int
  b : Int
  cite : ByteArray
def Step.cells (s : Step) : List AV := [.int .i64 s.says.kind, .int .i64 s.says.id, .list .none (s.says.kids.map E.cells), .int .i64 s.by_, .int .i64 s.a, .int .i64 s.b, .str s.cite]
def cStep : DecC Step where
  dec := fun c => match c with
    | [x, y, z, .raw (.int .i64 n), .raw (.int .i64 a), .raw (.int .i64 b), .raw (.string s)] => (toE [x, y, z]).map fun e => ⟨e, n, a, b, s⟩
    | _ => none
  enc := Step.cells
  sz := 7
  len := fun c x h => by
    split at h
    · rfl
    · cases h
  elen := fun x => rfl
  ok := fun c x h G V hr => by
    split at h
    · rename_i p q r n a b s
      simp only [Option.map_eq_some_iff] at h
      obtain ⟨e, he, rfl⟩ := h
      have h1 : RepL G ([p, q, r] ++ [.raw (.int .i64 n), .raw (.int .i64 a), .raw (.int .i64 b), .raw (.string s)]) V := hr
      obtain ⟨v1, v2, rfl, h2, h3⟩ := RepL.parts h1
      have := toE_rep e _ he _ h2
      rw [E.cells_eq] at this
      exact RepL.append this h3
    · cases h
  self := fun x => by
    simp only [Step.cells]
    have := toE_cells x.says
    rw [E.cells_eq] at this
    simp [this]
structure U where
  cites : List ByteArray
  states : E
  steps : List Step
def U.cells (u : U) : List AV := [.list .none (u.cites.map cS.enc), .int .i64 u.states.kind, .int .i64 u.states.id, .list .none (u.states.kids.map E.cells), .list .none (u.steps.map cStep.enc)]
def cU : DecC U where
  dec := fun c => match c with
    | [.list _ l, x, y, z, .list _ m] => (decL cS.dec l).bind fun l => (toE [x, y, z]).bind fun e => (decL cStep.dec m).bind fun m => some ⟨l, e, m⟩
    | _ => none
  enc := U.cells
  sz := 5
  len := fun c x h => by
    split at h
    · rfl
    · cases h
  elen := fun x => rfl
  ok := fun c x h G V hr => by
    split at h
    · rename_i t l p q r t' m
      simp only [Option.bind_eq_some_iff] at h
      obtain ⟨l', hl, e, he, m', hm, h⟩ := h
      cases h
      have h1 : RepL G ([.list t l] ++ ([p, q, r] ++ [.list t' m])) V := hr
      obtain ⟨v1, v2, rfl, h2, h3⟩ := RepL.parts h1
      obtain ⟨v3, v4, rfl, h4, h5⟩ := RepL.parts h3
      have := toE_rep e _ he _ h4
      rw [E.cells_eq] at this
      have w1 : WeakL [.list t l] [.list .none (l'.map cS.enc)] := ⟨_, _, rfl, decL_weak cS hl, rfl⟩
      have w2 : WeakL [.list t' m] [.list .none (m'.map cStep.enc)] := ⟨_, _, rfl, decL_weak cStep hm, rfl⟩
      exact RepL.append (w1.rep h2) (RepL.append this (w2.rep h5))
    · cases h
  self := fun x => by
    simp only [U.cells]
    have := toE_cells x.states
    rw [E.cells_eq] at this
    simp [this, decL_self]
@[go_sem] theorem cE_dec : cE.dec = toE := rfl
@[go_sem] theorem cE_enc : cE.enc = E.cells := rfl
@[go_sem] theorem cStep_at (s : Step) (t : Tok) : cStep.dec [.raw (.int .i64 s.says.kind), .raw (.int .i64 s.says.id), .list t (s.says.kids.map E.cells), .raw (.int .i64 s.by_), .raw (.int .i64 s.a), .raw (.int .i64 s.b), .raw (.string s.cite)] = some s := by
  simp [cStep, toE_at]
@[go_sem] theorem cU_at (u : U) (t t' t'' : Tok) : cU.dec [.list t (u.cites.map cS.enc), .raw (.int .i64 u.states.kind), .raw (.int .i64 u.states.id), .list t' (u.states.kids.map E.cells), .list t'' (u.steps.map cStep.enc)] = some u := by
  simp [cU, toE_at, decL_self]
theorem str_get (l : List ByteArray) {i : Nat} (h : i < l.length) : ∃ s, l[i]? = some s ∧ (l.map cS.enc).getD i [] = [.str s] :=
  ⟨l[i], by simp [h], by simp [List.getD_eq_getElem?_getD, h, cS]⟩
theorem step_get (l : List Step) {i : Nat} (h : i < l.length) : ∃ s, l[i]? = some s ∧ (l.map cStep.enc).getD i [] = s.cells :=
  ⟨l[i], by simp [h], by simp [List.getD_eq_getElem?_getD, h, cStep]⟩
end Go.Proofs.YtkdendaohlnlcaaGreatDoor.Av

/- Functions of Go's library that cut texts; a text cut at a byte, in plain words. No condition. -/
namespace Go.Proofs.YtkdendaohlnlcaaGreatDoor.Av
set_option linter.unusedVariables false
set_option linter.unusedSimpArgs false
set_option maxRecDepth 4000
set_option maxHeartbeats 1000000
open Go.RowKit
variable {w0 : Base} {k : List Nat} {H : Hp}
/-- Does a text begin so? -/
def beg (s p : ByteArray) : Bool := decide (p.size ≤ s.size) && ((s.extract 0 p.size).toList == p.toList)
theorem cell_below {w w' : World} (h : Below w.heap.size w w') {a : Addr} {v : Value} (e : w.cell? a = some v) : w'.cell? a = some v := by
  rwa [World.cell?_of_block (w := w) (h.block a.block (World.block_lt_of_cell? w a e))]
/-- The variable that strings.Index reads holds a number. -/
def MaxW (w0 : Base) : Prop := ∃ m, w0.w.cell? ⟨0, 0, none⟩ = some (.int .i64 m)
theorem cutPrefix_call (s p : ByteArray) : CallAt Tryz.prog w0 k 23 [.str s, .str p] H H (.tup [.str (if beg s p then s.extract p.size s.size else s), .bool (beg s p)]) := by
  refine callAt_of_law' Tryz.func23 rfl (by kernel_rfl) fun G w ca hs hr => ?_
  obtain rfl := rep2 hr
  refine (Tryz.strings_CutPrefix s p w).mono fun e w' he => ?_
  obtain ⟨rfl, rfl⟩ := he
  refine ⟨_, fun _ => none, rfl, Below.refl _ _, (fun a u h => by cases h), ?_⟩
  have h1 : Lib.hasPrefix s.data.toList p.data.toList = beg s p := (Lib.hasPrefix_raw s p).symm
  have h2 : (⟨(Lib.trimPrefix s.data.toList p.data.toList).toArray⟩ : ByteArray) = if beg s p then s.extract p.size s.size else s := by
    cases hb : beg s p with
    | true =>
      simp only [beg, Bool.and_eq_true, decide_eq_true_eq] at hb
      rw [if_pos rfl]
      exact Lib.trimPrefix_hit s p hb.1 hb.2
    | false =>
      rw [if_neg (by simp)]
      exact Lib.trimPrefix_miss s p hb
  rw [h1, h2]
  simp [Rep, RepL]
theorem clone_inner (s : ByteArray) (h : s.size ≤ 281474976710656) : CallAt Tryz.prog w0 k 78 [.str s] H H (.str s) := by
  refine callAt_of_law Tryz.func78 rfl (by kernel_rfl) fun G w ca hs hr => ?_
  obtain rfl := rep1 hr
  exact Tryz.stringslite_Clone s w h
def specCl : Spec := Spec.no.add 78 (sp1 dS (fun s => s.size ≤ 281474976710656) fun s => .str s)
theorem specCl_ok : SpecOk Tryz.prog w0 specCl := Spec.no_ok.add (sp1_ok fun s h k H => clone_inner s h)
theorem clone_call (s : ByteArray) (h : s.size ≤ 281474976710656) : CallAt Tryz.prog w0 k 49 [.str s] H H (.str s) := by
  refine callAt tabOk specCl_ok mixed Tryz.func49 rfl rfl Tryz.results49 Tryz.ntmps49 (by simp) [] ?_
  intro hfr t hl ht
  simp only [At, Nat.reduceAdd, List.cons_append, List.nil_append] at ht
  simp (config := {contextual := true, maxSteps := 5000000}) only [go_sem, false_and, Nat.reduceAdd, Nat.reduceLT, Nat.reduceBEq, Nat.reduceSub, Nat.reduceMul, Nat.reduceLeDiff, Int.reduceToNat, Nat.reduceEqDiff, Nat.reduceMod, ht, hl, specCl]
  exact h
/-! a text cut at a byte -/
/-- What stands between the bytes c, from a place on. -/
def cutF (s : ByteArray) (c : Int) : Nat → Nat → Nat → List ByteArray
  | 0, from_, _ => [s.extract from_ s.size]
  | m + 1, from_, i => if byteAt s i = c then s.extract from_ i :: cutF s c m (i + 1) (i + 1) else cutF s c m from_ (i + 1)
def cutC (s : ByteArray) (c : Int) : List ByteArray := cutF s c s.size 0 0
/-- The same of lists. -/
def cutU (c : UInt8) : List UInt8 → List (List UInt8)
  | [] => [[]]
  | b :: l => if b = c then [] :: cutU c l else match cutU c l with
    | [] => [[b]]
    | x :: xs => (b :: x) :: xs
theorem cutU_ne (c : UInt8) : ∀ l, cutU c l ≠ []
  | [] => by simp [cutU]
  | b :: l => by
    unfold cutU
    split
    · simp
    · split <;> simp
theorem cutU_miss {c : UInt8} : ∀ {l : List UInt8}, (∀ b ∈ l, b ≠ c) → cutU c l = [l]
  | [], _ => rfl
  | b :: l, h => by
    rw [cutU, if_neg (h b (by simp)), cutU_miss fun x hx => h x (by simp [hx])]
theorem cutU_hit {c : UInt8} : ∀ {l : List UInt8} {r : List UInt8}, (∀ b ∈ l, b ≠ c) → cutU c (l ++ c :: r) = l :: cutU c r
  | [], r, _ => by rw [List.nil_append, cutU, if_pos rfl]
  | b :: l, r, h => by
    rw [List.cons_append, cutU, if_neg (h b (by simp)), cutU_hit fun x hx => h x (by simp [hx])]
theorem byteAt_list (s : ByteArray) (i : Nat) (h : i < s.size) : ∃ b, s.data.toList[i]? = some b ∧ byteAt s i = (b.toNat : Int) := by
  have hl : i < s.data.toList.length := by rw [Array.length_toList]; exact h
  refine ⟨s.data.toList[i], by simp, ?_⟩
  unfold byteAt
  rw [dif_pos (by simpa using h)]
  simp only [Int.toNat_natCast]
  rfl
theorem cutF_spec (s : ByteArray) (c : UInt8) : ∀ m from_ i, from_ ≤ i → i + m = s.size → (∀ j b, from_ ≤ j → j < i → s.data.toList[j]? = some b → b ≠ c) → (cutF s c.toNat m from_ i).map (·.data.toList) = cutU c (s.data.toList.drop from_)
  | 0, from_, i, h1, h2, h3 => by
    have hl : s.data.toList.length = s.size := by rw [Array.length_toList]; rfl
    rw [cutF, List.map_cons, List.map_nil, Lib.extract_data, List.take_of_length_le (by simp <;> omega), cutU_miss]
    intro b hb
    obtain ⟨j, hj, rfl⟩ := List.getElem_of_mem hb
    rw [List.length_drop] at hj
    refine h3 (from_ + j) _ (by omega) (by omega) ?_
    rw [List.getElem_drop, List.getElem?_eq_getElem]
  | m + 1, from_, i, h1, h2, h3 => by
    have hl : s.data.toList.length = s.size := by rw [Array.length_toList]; rfl
    obtain ⟨b, hb, he⟩ := byteAt_list s i (by omega)
    rw [cutF, he]
    by_cases hc : b = c
    · subst hc
      rw [if_pos rfl, List.map_cons, Lib.extract_data, cutF_spec s b m (i + 1) (i + 1) (Nat.le_refl _) (by omega) (fun j b h1 h2 => by omega)]
      have hsp : s.data.toList.drop from_ = (s.data.toList.drop from_).take (i - from_) ++ b :: s.data.toList.drop (i + 1) := by
        have h4 := (List.take_append_drop (i - from_) (s.data.toList.drop from_)).symm
        rw [List.drop_drop, show from_ + (i - from_) = i by omega] at h4
        obtain ⟨q1, q2⟩ := List.getElem?_eq_some_iff.1 hb
        rw [List.drop_eq_getElem_cons q1, q2] at h4
        exact h4
      rw [hsp, cutU_hit, ← hsp]
      intro x hx
      obtain ⟨j, hj, rfl⟩ := List.getElem_of_mem hx
      rw [List.length_take, List.length_drop] at hj
      refine h3 (from_ + j) _ (by omega) (by omega) ?_
      rw [List.getElem_take, List.getElem_drop, List.getElem?_eq_getElem]
    · rw [if_neg (fun h => hc (UInt8.toNat_inj.1 (by omega)))]
      refine cutF_spec s c m from_ (i + 1) (by omega) (by omega) fun j x hj1 hj2 hx => ?_
      by_cases e : j = i
      · subst e
        rw [hb] at hx
        cases hx
        exact hc
      · exact h3 j x hj1 (by omega) hx
theorem cutC_spec (s : ByteArray) (c : UInt8) : (cutC s c.toNat).map (·.data.toList) = cutU c s.data.toList := by
  have := cutF_spec s c s.size 0 0 (Nat.le_refl _) (by omega) (fun j b h1 h2 => by omega)
  simpa [cutC] using this
theorem index_miss {c : UInt8} : ∀ {l : List UInt8}, (∀ b ∈ l, b ≠ c) → Lib.index l [c] = -1
  | [], _ => rfl
  | b :: l, h => by
    have hb : (c == b) = false := by simpa using Ne.symm (h b (by simp))
    have ih := index_miss (l := l) fun x hx => h x (by simp [hx])
    unfold Lib.index
    simp [List.isPrefixOf, hb, ih]
theorem index_at {c : UInt8} : ∀ {l r : List UInt8}, (∀ b ∈ l, b ≠ c) → Lib.index (l ++ c :: r) [c] = l.length
  | [], r, _ => by simp [Lib.index, List.isPrefixOf]
  | b :: l, r, h => by
    have hb : (c == b) = false := by simpa using Ne.symm (h b (by simp))
    have ih := index_at (l := l) (r := r) fun x hx => h x (by simp [hx])
    have hn : ((l.length : Int) == -1) = false := by simp <;> omega
    rw [List.cons_append]
    unfold Lib.index
    simp [List.isPrefixOf, hb, ih, hn]
theorem byte_parts {c : UInt8} : ∀ (l : List UInt8), (∀ b ∈ l, b ≠ c) ∨ ∃ p r, l = p ++ c :: r ∧ ∀ b ∈ p, b ≠ c
  | [] => .inl (by simp)
  | b :: l => by
    by_cases hb : b = c
    · exact .inr ⟨[], l, by rw [hb]; rfl, by simp⟩
    · rcases byte_parts l with h | ⟨p, r, h1, h2⟩
      · exact .inl fun x hx => (List.mem_cons.1 hx).elim (fun e => by rw [e]; exact hb) (h x)
      · exact .inr ⟨b :: p, r, by rw [h1]; rfl, fun x hx => (List.mem_cons.1 hx).elim (fun e => by rw [e]; exact hb) (h2 x)⟩
theorem splitK_cut (c : UInt8) : ∀ (n : Nat) (l : List UInt8), l.count c = n → Lib.splitK [c] 0 n l = cutU c l
  | 0, l, h => by
    have hn : ∀ b ∈ l, b ≠ c := fun b hb e => by
      subst e
      exact absurd hb (List.count_eq_zero.1 h)
    rw [cutU_miss hn]
    rfl
  | n + 1, l, h => by
    rcases byte_parts (c := c) l with hn | ⟨p, r, rfl, hp⟩
    · have : l.count c = 0 := List.count_eq_zero.2 fun hc => hn c hc rfl
      omega
    · have hc0 : p.count c = 0 := List.count_eq_zero.2 fun hc => hp c hc rfl
      have hr : r.count c = n := by
        rw [List.count_append, List.count_cons_self] at h
        omega
      have hi := index_at (r := r) hp
      have hne : ((p.length : Int) == -1) = false := by simp <;> omega
      rw [Lib.splitK, hi, hne, cutU_hit hp]
      simp [splitK_cut c n r hr]
theorem map_data_inj : ∀ {l m : List ByteArray}, l.map (·.data.toList) = m.map (·.data.toList) → l = m
  | [], [], _ => rfl
  | [], y :: m, h => by simp at h
  | x :: l, [], h => by simp at h
  | x :: l, y :: m, h => by
    simp only [List.map_cons, List.cons.injEq] at h
    rw [map_data_inj h.2, ByteArray.ext (Array.ext' h.1)]
theorem splitB_cut (s : ByteArray) (c : UInt8) : Lib.splitB ⟨#[c]⟩ 0 (Lib.countB s ⟨#[c]⟩) s = cutC s c.toNat := by
  apply map_data_inj
  rw [Lib.splitB_data, cutC_spec]
  exact splitK_cut c _ _ (Lib.count_one c _).symm
theorem split_call (hm : MaxW w0) (s : ByteArray) (c : UInt8) (hs : s.size < 4294967281) : CallAt Tryz.prog w0 k 48 [.str s, .str ⟨#[c]⟩] H (H.upd ⟨1, k, 9⟩ (some .tok)) (.list (.tok ⟨1, k, 9⟩) ((cutC s c.toNat).map cS.enc)) := by
  refine callAt_of_row Tryz.func48 rfl (by kernel_rfl) (fun x hx => ?_) fun G w ca hsm hr => ?_
  · obtain ⟨y, _, rfl⟩ := List.mem_map.1 hx
    rfl
  obtain rfl := rep2 hr
  obtain ⟨m, hm⟩ := hm
  refine (Tryz.strings_Split s ⟨#[c]⟩ m w hs (cell_below hsm.below hm) (Nat.le_refl 1)).mono fun e w' he => ?_
  obtain ⟨rfl, rfl⟩ := he
  have hl := Lib.splitB_all ⟨#[c]⟩ (Nat.le_refl 1) 0 _ s rfl
  rw [splitB_cut] at hl ⊢
  refine ⟨_, by rw [List.length_map, hl], rfl, ?_⟩
  have : ∀ l : List ByteArray, RepL G (l.map cS.enc).flatten (l.map Value.string) := by
    intro l
    induction l with
    | nil => simp [RepL]
    | cons x l ih =>
      simp only [List.map_cons, List.flatten_cons, cS, List.cons_append, List.nil_append, RepL, Rep]
      exact ⟨_, _, rfl, rfl, ih⟩
  simpa using this _
/-- Where the first byte c stands; if there is none, the text's length. -/
def fstF (s : ByteArray) (c : Int) : Nat → Nat → Nat
  | 0, i => i
  | m + 1, i => if byteAt s i = c then i else fstF s c m (i + 1)
def fstC (s : ByteArray) (c : Int) : Nat := fstF s c s.size 0
theorem fstF_le (s : ByteArray) (c : Int) : ∀ m i, fstF s c m i ≤ i + m
  | 0, i => Nat.le_refl _
  | m + 1, i => by
    rw [fstF]
    split
    · omega
    · have := fstF_le s c m (i + 1)
      omega
theorem fstC_le (s : ByteArray) (c : Int) : fstC s c ≤ s.size := by
  have := fstF_le s c s.size 0
  unfold fstC
  omega
theorem fstF_at {s : ByteArray} {c : Int} : ∀ {m i j : Nat}, i ≤ j → j < i + m → byteAt s j = c → (∀ q : Nat, i ≤ q → q < j → byteAt s q ≠ c) → fstF s c m i = j
  | 0, i, j, h1, h2, _, _ => by omega
  | m + 1, i, j, h1, h2, h3, h4 => by
    rw [fstF]
    by_cases e : i = j
    · subst e
      rw [if_pos h3]
    · rw [if_neg (h4 i (Nat.le_refl _) (by omega)), fstF_at (by omega) (by omega) h3 fun q h5 h6 => h4 q (by omega) h6]
theorem fstF_no {s : ByteArray} {c : Int} : ∀ {m i : Nat}, (∀ q : Nat, i ≤ q → q < i + m → byteAt s q ≠ c) → fstF s c m i = i + m
  | 0, i, _ => rfl
  | m + 1, i, h => by
    rw [fstF, if_neg (h i (Nat.le_refl _) (by omega)), fstF_no fun q h1 h2 => h q (by omega) (by omega)]
    omega
theorem cut_fst (s : ByteArray) (c : UInt8) : Lib.cut s.data.toList [c] = (s.data.toList.take (fstC s c.toNat), s.data.toList.drop (fstC s c.toNat + 1), decide (fstC s c.toNat < s.size)) := by
  have hl : s.data.toList.length = s.size := by rw [Array.length_toList]; rfl
  have hbyte : ∀ (q : Nat) b, s.data.toList[q]? = some b → byteAt s q = (b.toNat : Int) := fun q b hb => by
    have hq : q < s.size := by rw [← hl]; exact (List.getElem?_eq_some_iff.1 hb).1
    obtain ⟨b', h1, h2⟩ := byteAt_list s q hq
    rw [hb] at h1
    cases h1
    exact h2
  rcases byte_parts (c := c) s.data.toList with hn | ⟨p, r, h, hp⟩
  · have hf : fstC s c.toNat = s.size := by
      have := fstF_no (s := s) (c := (c.toNat : Int)) (m := s.size) (i := 0) fun q _ hq e => by
        obtain ⟨b, h1, h2⟩ := byteAt_list s q (by omega)
        exact hn b (List.mem_of_getElem? h1) (UInt8.toNat_inj.1 (by omega))
      rw [fstC, this]
      omega
    rw [Lib.cut, index_miss hn, hf, if_neg (by omega), List.take_of_length_le (by omega), List.drop_of_length_le (by omega)]
    simp
  · have hpl : p.length < s.size := by rw [← hl, h]; simp
    have hf : fstC s c.toNat = p.length := by
      refine fstF_at (Nat.zero_le _) (by omega) (hbyte _ c (by rw [h]; simp)) fun q _ hq e => ?_
      have hq2 : s.data.toList[q]? = some p[q] := by rw [h, List.getElem?_append_left hq, List.getElem?_eq_getElem hq]
      exact hp p[q] (List.getElem_mem hq) (UInt8.toNat_inj.1 (by have := hbyte _ _ hq2; omega))
    have hi := index_at (r := r) hp
    rw [Lib.cut, h, hi, hf, if_pos (by omega)]
    simp [hpl]
theorem cut_call (hm : MaxW w0) (s : ByteArray) (c : UInt8) (hs : s.size < 4294967281) : CallAt Tryz.prog w0 k 52 [.str s, .str ⟨#[c]⟩] H H (.tup [.str (s.extract 0 (fstC s c.toNat)), .str (s.extract (fstC s c.toNat + 1) s.size), .bool (decide (fstC s c.toNat < s.size))]) := by
  refine callAt_of_law' Tryz.func52 rfl (by kernel_rfl) fun G w ca hsm hr => ?_
  obtain rfl := rep2 hr
  obtain ⟨m, hm⟩ := hm
  refine (Tryz.strings_Cut s ⟨#[c]⟩ m w hs (cell_below hsm.below hm)).mono fun e w' he => ?_
  obtain ⟨rfl, n, rfl⟩ := he
  refine ⟨_, fun _ => none, rfl, ?_, (fun a u h => by cases h), ?_⟩
  · have hd : ∀ (j : Nat) (w : World), Below w.heap.size w (w.drewN j) := fun j w => ⟨rfl, rfl, rfl, Nat.le_refl _, fun _ _ => rfl⟩
    exact hd n w
  · have h1 := cut_fst s c
    have e1 : (⟨(Lib.cut s.data.toList [c]).1.toArray⟩ : ByteArray) = s.extract 0 (fstC s c.toNat) := by rw [h1, Lib.extract_eq]; simp
    have e2 : (⟨(Lib.cut s.data.toList [c]).2.1.toArray⟩ : ByteArray) = s.extract (fstC s c.toNat + 1) s.size := by
      have hl : s.data.toList.length = s.size := by rw [Array.length_toList]; rfl
      rw [h1, Lib.extract_eq, List.take_of_length_le (l := s.data.toList.drop _) (by rw [List.length_drop]; omega)]
    have e3 : (Lib.cut s.data.toList [c]).2.2 = decide (fstC s c.toNat < s.size) := by rw [h1]
    show Rep _ _ (.tuple #[.string ⟨(Lib.cut s.data.toList [c]).1.toArray⟩, .string ⟨(Lib.cut s.data.toList [c]).2.1.toArray⟩, .bool (Lib.cut s.data.toList [c]).2.2])
    rw [e1, e2, e3]
    simp [Rep, RepL]
end Go.Proofs.YtkdendaohlnlcaaGreatDoor.Av

/- Tokens, in plain words; lists that grow. No condition. -/
namespace Go.Proofs.YtkdendaohlnlcaaGreatDoor.Av
set_option linter.unusedVariables false
set_option linter.unusedSimpArgs false
set_option maxRecDepth 4000
set_option maxHeartbeats 1000000
variable {w0 : Base} {k : List Nat} {H : Hp}
/-- A list that the call has made and alone appends to. -/
def LstAt (H0 : Hp) (sz : Nat) (ty : TypeId) (tk : Tok) (H : Hp) : Prop := H0.Le H ∧ ((tk = .nil ∨ tk = .full) ∨ ∃ id : Id, tk = .tok id ∧ H id = some .tok ∧ H0 id = none ∧ id.sz = sz ∧ id.ty = ty)
theorem LstAt.live {H0 H : Hp} {sz : Nat} {ty : TypeId} {tk : Tok} (h : LstAt H0 sz ty tk H) : tokLive H sz ty tk := by
  rcases h.2 with (rfl | rfl) | ⟨id, rfl, h1, _, h2, h3⟩
  · exact trivial
  · exact trivial
  · exact ⟨h1, h2, h3⟩
theorem LstAt.push {H0 H : Hp} {sz : Nat} {ty : TypeId} {tk : Tok} (h : LstAt H0 sz ty tk H) {y : List AV} {ys : List (List AV)} {key : List Nat} (hn : H0 ⟨sz, key, ty⟩ = none) :
    LstAt H0 sz ty (tokBy tk (y :: ys) ⟨sz, key, ty⟩) ((killTok H tk).upd ⟨sz, key, ty⟩ (some .tok)) := by
  have e : tokBy tk (y :: ys) ⟨sz, key, ty⟩ = .tok ⟨sz, key, ty⟩ := by cases tk <;> rfl
  rw [e]
  refine ⟨fun i x hi => ?_, .inr ⟨_, rfl, Hp.upd_same _ _ _, hn, rfl, rfl⟩⟩
  have hne : i ≠ ⟨sz, key, ty⟩ := fun he => by rw [he, hn] at hi; cases hi
  rw [Hp.upd_ne _ _ hne]
  have hH := h.1 i x hi
  rcases h.2 with (rfl | rfl) | ⟨id, rfl, _, h0, _⟩
  · exact hH
  · exact hH
  · have hne2 : i ≠ id := fun he => by rw [he, h0] at hi; cases hi
    show (H.upd id none) i = some x
    rw [Hp.upd_ne _ _ hne2]
    exact hH
theorem LstAt.le {H0 H : Hp} {sz : Nat} {ty : TypeId} {tk : Tok} (h : LstAt H0 sz ty tk H) : H0.Le H := h.1
theorem LstAt.frame {H0 H : Hp} {sz : Nat} {ty : TypeId} {tk : Tok} (h : LstAt H0 sz ty tk H) {X : Id} {e : Option Ent} (hX : H0 X = none) (hz : X.sz ≠ sz) : LstAt H0 sz ty tk (H.upd X e) := by
  refine ⟨fun i x hi => ?_, ?_⟩
  · have hne : i ≠ X := fun he => by rw [he, hX] at hi; cases hi
    rw [Hp.upd_ne _ _ hne]
    exact h.1 i x hi
  · rcases h.2 with h2 | ⟨id, h1, h2, h3, h4, h5⟩
    · exact .inl h2
    · exact .inr ⟨id, h1, by rw [Hp.upd_ne _ _ (fun he => hz (by rw [← he]; exact h4))]; exact h2, h3, h4, h5⟩

structure Tk where
  kind : Int
  n : Int
  at_ : Int
def Tk.cells (t : Tk) : List AV := [.int .i64 t.kind, .int .i64 t.n, .int .i64 t.at_]
theorem byteAt_extract {s : ByteArray} {a b j : Nat} (hb : b ≤ s.size) (h : a + j < b) : byteAt (s.extract a b) j = byteAt s ((a + j : Nat) : Int) := by
  have hs : (s.extract a b).size = b - a := by simp [ByteArray.size_extract]; omega
  have e1 := byteAt_get (s.extract a b) j (by omega)
  have e2 := byteAt_get s (a + j) (by omega)
  rw [e1, e2]
  congr 2
  have g1 : (s.extract a b).get! j = (s.extract a b)[j]'(by omega) := by
    show (s.extract a b).data[j]! = _
    rw [getElem!_pos _ j (by show j < (s.extract a b).size; omega)]
    rfl
  have g2 : s.get! (a + j) = s[a + j]'(by omega) := by
    show s.data[a + j]! = _
    rw [getElem!_pos _ (a + j) (by show a + j < s.size; omega)]
    rfl
  rw [g1, g2]
  simp [ByteArray.getElem_extract]
theorem digsF_ext {s : ByteArray} {a : Nat} : ∀ m p, a + p + m = s.size → digsF (s.extract a s.size) m p = digsF s m (a + p)
  | 0, p, _ => rfl
  | m + 1, p, h => by
    have hs : (s.extract a s.size).size = s.size - a := by simp [ByteArray.size_extract]
    have hb := byteAt_extract (s := s) (a := a) (b := s.size) (j := p) (Nat.le_refl _) (by omega)
    rw [digsF, digsF, hb]
    have := digsF_ext (s := s) (a := a) m (p + 1) (by omega)
    rw [this]
    rw [hs, show a + (p + 1) = a + p + 1 by omega]
    by_cases hc : a + p < s.size ∧ isDig (byteAt s ((a + p : Nat) : Int)) = true
    · rw [if_pos hc, if_pos ⟨by omega, hc.2⟩]
    · rw [if_neg hc, if_neg fun h => hc ⟨by omega, h.2⟩]
theorem digs_ext {s : ByteArray} {a : Nat} (h : a ≤ s.size) : digs (s.extract a s.size) 0 = digs s a := by
  have hs : (s.extract a s.size).size = s.size - a := by simp [ByteArray.size_extract]
  unfold digs
  rw [hs, digsF_ext (s := s) (a := a) _ 0 (by omega)]
  simp
/-- The number behind a letter. -/
def numB (s : ByteArray) (p : Nat) (mst : Int) : Int × Nat := numR (s.extract (p + 1) s.size) mst
theorem num_agree {s : ByteArray} {p : Nat} {mst : Int} (hm : mst = 63 ∨ mst = 99) (hp : p < s.size) :
    num03 (s.extract (p + 1) (p + 1 + digs s (p + 1))) mst = (if (numB s p mst).2 = 0 then -1 else (numB s p mst).1) ∧ ((numB s p mst).2 ≠ 0 → (numB s p mst).2 = digs s (p + 1) ∧ 0 ≤ (numB s p mst).1 ∧ (numB s p mst).1 ≤ 99) := by
  have hle := digs_le s (p + 1)
  have hsz : (s.extract (p + 1) (p + 1 + digs s (p + 1))).size = digs s (p + 1) := by simp [ByteArray.size_extract]; omega
  have hd := digs_ext (s := s) (a := p + 1) (by omega)
  have hb : ∀ j : Nat, j < digs s (p + 1) → byteAt (s.extract (p + 1) (p + 1 + digs s (p + 1))) j = byteAt (s.extract (p + 1) s.size) j := fun j hj => by
    rw [byteAt_extract (by omega) (by omega), byteAt_extract (Nat.le_refl _) (by omega)]
  have hdig : ∀ j : Nat, j < digs s (p + 1) → 48 ≤ byteAt (s.extract (p + 1) s.size) j ∧ byteAt (s.extract (p + 1) s.size) j ≤ 57 := fun j hj => by
    have := digs_all (s := s.extract (p + 1) s.size) (p := 0) (i := j) (by omega)
    rw [Nat.zero_add] at this
    simpa [isDig] using this
  suffices hh : ∃ v c, num03 (s.extract (p + 1) (p + 1 + digs s (p + 1))) mst = (if c = 0 then -1 else v) ∧ numB s p mst = (v, c) ∧ (c ≠ 0 → c = digs s (p + 1) ∧ 0 ≤ v ∧ v ≤ 99) by
    obtain ⟨v, c, h1, h2, h3⟩ := hh
    rw [h2]
    exact ⟨h1, h3⟩
  unfold numB numR
  rw [hd]
  unfold num03
  rw [hsz]
  generalize digs s (p + 1) = d at *
  have e0 : ∀ x : ByteArray, byteAt x ((0 : Nat) : Int) = byteAt x 0 := fun _ => rfl
  have e1 : ∀ x : ByteArray, byteAt x ((1 : Nat) : Int) = byteAt x 1 := fun _ => rfl
  by_cases h1 : d = 1
  · subst h1
    have b0 := hb 0 (by omega)
    have d0 := hdig 0 (by omega)
    rw [e0, e0] at b0
    rw [e0] at d0
    have v1 : valI (s.extract (p + 1) (p + 1 + 1)) 1 = byteAt (s.extract (p + 1) (p + 1 + 1)) 0 - 48 := rfl
    refine ⟨byteAt (s.extract (p + 1) s.size) 0 - 48, 1, ?_, by rw [if_pos rfl], fun _ => ⟨rfl, by omega, by omega⟩⟩
    rw [if_neg (by omega), v1, b0, if_neg (by omega), if_neg (by decide)]
  · by_cases h2 : d = 2
    · subst h2
      have b0 := hb 0 (by omega)
      have b1 := hb 1 (by omega)
      have d0 := hdig 0 (by omega)
      have d1 := hdig 1 (by omega)
      rw [e0, e0] at b0
      rw [e1, e1] at b1
      rw [e0] at d0
      rw [e1] at d1
      have v2 : valI (s.extract (p + 1) (p + 1 + 2)) 2 = 10 * (byteAt (s.extract (p + 1) (p + 1 + 2)) 0 - 48) + (byteAt (s.extract (p + 1) (p + 1 + 2)) 1 - 48) := rfl
      rw [v2, b0, b1, if_neg h1]
      by_cases hz : byteAt (s.extract (p + 1) s.size) 0 = 48
      · exact ⟨0, 0, by rw [if_pos (.inr (.inr ⟨rfl, hz⟩))]; rfl, by rw [if_neg (fun h => h.2.1 hz)], fun h => absurd rfl h⟩
      · by_cases hg : mst < 10 * (byteAt (s.extract (p + 1) s.size) 0 - 48) + (byteAt (s.extract (p + 1) s.size) 1 - 48)
        · exact ⟨0, 0, by rw [if_neg (by omega), if_pos hg]; rfl, by rw [if_neg (by omega)], fun h => absurd rfl h⟩
        · exact ⟨10 * (byteAt (s.extract (p + 1) s.size) 0 - 48) + (byteAt (s.extract (p + 1) s.size) 1 - 48), 2, by rw [if_neg (by omega), if_neg hg]; rfl, by rw [if_pos (by omega)], fun _ => ⟨rfl, by omega, by omega⟩⟩
    · exact ⟨0, 0, by rw [if_pos (by omega)]; rfl, by rw [if_neg h1, if_neg (by omega)], fun h => absurd rfl h⟩
/-- What stands at a place: nothing; a token, and how many digits it has; or an error. -/
inductive TOne where
  | skip
  | tok (t : Tk) (w : Nat)
  | err (e : Int)
def tokOne (s : ByteArray) (p : Nat) : TOne :=
  if byteAt s p = 32 ∨ byteAt s p = 9 then .skip
  else if isSign (byteAt s p) = true then .tok ⟨4, byteAt s p, p⟩ 0
  else if most (byteAt s p) < 0 then .err 30
  else if (numB s p (most (byteAt s p))).2 = 0 then .err 31
  else .tok ⟨kindOf (byteAt s p), (numB s p (most (byteAt s p))).1, p⟩ (numB s p (most (byteAt s p))).2
inductive TR where
  | ok (l : List Tk)
  | err (e at_ : Int)
def tkGo (s : ByteArray) (p : Nat) (l : List Tk) : TR :=
  if p < s.size then
    match tokOne s p with
    | .skip => tkGo s (p + 1) l
    | .tok t w => tkGo s (p + 1 + w) (l ++ [t])
    | .err e => .err e p
  else .ok l
termination_by s.size - p
def toks (s : ByteArray) : TR := if 8000 < s.size then .err 2 0 else tkGo s 0 []
def TR.av : TR → AV
  | .ok l => .tup [.list .none (l.map Tk.cells), .int .i64 0, .int .i64 0]
  | .err e a => .tup [.list .nil [], .int .i64 e, .int .i64 a]
theorem tkGo_end {s : ByteArray} {p : Nat} {l : List Tk} (h : ¬ p < s.size) : tkGo s p l = .ok l := by rw [tkGo, if_neg h]
theorem tkGo_skip {s : ByteArray} {p : Nat} {l : List Tk} (h : p < s.size) (e : tokOne s p = .skip) : tkGo s p l = tkGo s (p + 1) l := by rw [tkGo, if_pos h, e]
theorem tkGo_tok {s : ByteArray} {p w : Nat} {l : List Tk} {t : Tk} (h : p < s.size) (e : tokOne s p = .tok t w) : tkGo s p l = tkGo s (p + 1 + w) (l ++ [t]) := by rw [tkGo, if_pos h, e]
theorem tkGo_err {s : ByteArray} {p : Nat} {l : List Tk} {c : Int} (h : p < s.size) (e : tokOne s p = .err c) : tkGo s p l = .err c p := by rw [tkGo, if_pos h, e]
end Go.Proofs.YtkdendaohlnlcaaGreatDoor.Av

/- What organonref03.Tokens and parse.Tokens answer. No condition. -/
namespace Go.Proofs.YtkdendaohlnlcaaGreatDoor.Av
set_option linter.unusedVariables false
set_option linter.unusedSimpArgs false
set_option maxRecDepth 4000
set_option maxHeartbeats 1000000
variable {w0 : Base} {k : List Nat} {H : Hp}
def specT3 : Spec := (((((Spec.no.add 124 (sp1 dC (fun _ => True) fun c => .bool (isSign c))).add 125 (sp1 dC (fun _ => True) fun c => .int .i64 (most c))).add 128 (sp1 dC (fun _ => True) fun c => .int .i64 (kindOf c))).add
  126 (sp2 dS dI (fun s p => s.size ≤ 140737488355328 ∧ 0 ≤ p ∧ p ≤ s.size) fun s p => .int .i64 (digs s p.toNat)))).add 127 (sp2 dS dI (fun s _ => (∀ i : Nat, i < s.size → isDig (byteAt s i) = true) ∧ s.size ≤ 140737488355328) fun s l => .int .i64 (num03 s l))
theorem specT3_ok : SpecOk Tryz.prog w0 specT3 := ((((Spec.no_ok.add (sp1_ok fun c _ k H => isSign_call c)).add (sp1_ok fun c _ k H => most_call c)).add (sp1_ok fun c _ k H => kindOf_call c)).add
  (sp2_ok fun s p h k H => by
    obtain ⟨m, rfl⟩ : ∃ m : Nat, p = m := ⟨p.toNat, by omega⟩
    exact digits_call s m h.1 (by omega))).add (sp2_ok fun s l h k H => number03_call s l h.1 h.2)
theorem push_ok {H2 : Hp} {l : List Tk} {tk : Tok} (hL : LstAt H 3 141 tk H2) (hll : l.length ≤ 8000) (t : Tk) : (∀ y : List AV, y = t.cells ∨ False → y.length = 3) ∧ (∀ y : List AV, y ∈ l.map Tk.cells → y.length = 3) ∧ [t.cells].flatten.all oneA = true ∧ (l.length + 1) * 24 ≤ 140737488355328 ∧ l.length ≤ 4611686018427387903 ∧ tokLive H2 3 141 tk := by
  refine ⟨fun y h => ?_, fun y h => ?_, rfl, by omega, by omega, hL.live⟩
  · rcases h with rfl | h
    · rfl
    · exact h.elim
  · obtain ⟨t, _, rfl⟩ := List.mem_map.1 h
    rfl
theorem list_weak {tk : Tok} {xs : List (List AV)} : Weak (.list tk xs) (.list .none xs) := fun G V hr => by
  simp only [Rep] at hr ⊢
  obtain ⟨A, n, c, e, hn, hc, _, hu, ad, ha, hre⟩ := hr
  exact ⟨A, n, c, e, hn, hc, trivial, hu, ad, ha, hre⟩
theorem weak_list3 {tk : Tok} {xs : List (List AV)} {a b : AV} : Weak (.tup [.list tk xs, a, b]) (.tup [.list .none xs, a, b]) := WeakL.tup ⟨_, _, rfl, list_weak, _, _, rfl, Weak.refl _, _, _, rfl, Weak.refl _, rfl⟩
theorem tokens03_call (s : ByteArray) : CallAt Tryz.prog w0 k 84 [.str s] H H (toks s).av := by
  refine callAt tabOk specT3_ok mixed Tryz.func84 rfl rfl Tryz.results84 Tryz.ntmps84 (by simp) [] ?_
  intro hfr t hl ht
  simp only [At, Nat.reduceAdd, List.cons_append, List.nil_append] at ht
  simp (config := {contextual := true, maxSteps := 5000000}) only [go_sem, false_and, Nat.reduceAdd, Nat.reduceLT, Nat.reduceBEq, Nat.reduceSub, Nat.reduceMul, Nat.reduceLeDiff, Int.reduceToNat, Nat.reduceEqDiff, Nat.reduceMod, ht, hl]
  refine ⟨fun a => ?_, fun a => ?_⟩ <;> simp only [decide_eq_true_eq, decide_eq_false_iff_not] at a
  · rw [toks, if_pos (by omega)]
    exact Weak.refl _
  · have htk : toks s = tkGo s 0 [] := by rw [toks, if_neg (by omega)]
    refine loop_inv tabOk specT3_ok mixed [] (fun j x => ∃ (p : Nat) (l : List Tk) (tk : Tok), x.tmps.length = 75 ∧ x.tmps.getD 0 AV.undef = .str s ∧ x.tmps.getD 5 AV.undef = .list tk (l.map Tk.cells) ∧ x.tmps.getD 6 AV.undef = .int .i64 p ∧ LstAt H 3 141 tk x.H ∧ s.size - p ≤ j ∧ p ≤ s.size ∧ l.length ≤ p ∧ tkGo s p l = toks s) s.size ⟨0, [], .full, ?_⟩ ?_
    · simp (config := {contextual := true, maxSteps := 5000000}) only [go_sem, false_and, Nat.reduceAdd, Nat.reduceLT, Nat.reduceBEq, Nat.reduceSub, Nat.reduceMul, Nat.reduceLeDiff, Int.reduceToNat, Nat.reduceEqDiff, Nat.reduceMod, ht, hl]
      exact ⟨rfl, ⟨Hp.Le.refl _, .inl (.inr rfl)⟩, by omega, by omega, htk.symm⟩
    · rintro j ⟨t, n, H2⟩ ⟨p, l, tk, hl, h0, h5, h6, hL, hj, hp, hlp, hgo⟩
      simp only at hl h0 h5 h6 hL
      by_cases hi : p < s.size
      · have hd : decide ((p : Int) < (s.size : Int)) = true := by simp [hi]
        have hw : IntKind.i64.wrap ((p : Int) + 1) = ((p + 1 : Nat) : Int) := by rw [wrap_i64] <;> omega
        have hdl := digs_le s (p + 1)
        have hwd : IntKind.i64.wrap (((p + 1 : Nat) : Int) + ((digs s (p + 1) : Nat) : Int)) = ((p + 1 + digs s (p + 1) : Nat) : Int) := by rw [wrap_i64] <;> omega
        have hcb := byteAt_lt s p
        have hwc : IntKind.i64.wrap (byteAt s p) = byteAt s p := wrap_i64 (by omega) (by omega)
        simp (config := {contextual := true, maxSteps := 5000000}) only [go_sem, false_and, Nat.reduceAdd, Nat.reduceLT, Nat.reduceBEq, Nat.reduceSub, Nat.reduceMul, Nat.reduceLeDiff, Int.reduceToNat, Nat.reduceEqDiff, Nat.reduceMod, h0, h5, h6, hl, hd, hw, hwd, hwc, specT3]
        have ho : tokOne s p = if byteAt s p = 32 ∨ byteAt s p = 9 then .skip
          else if isSign (byteAt s p) = true then .tok ⟨4, byteAt s p, p⟩ 0
          else if most (byteAt s p) < 0 then .err 30
          else if (numB s p (most (byteAt s p))).2 = 0 then .err 31
          else .tok ⟨kindOf (byteAt s p), (numB s p (most (byteAt s p))).1, p⟩ (numB s p (most (byteAt s p))).2 := rfl
        have hl8 : l.length ≤ 8000 := by omega
        have hskip : byteAt s p = 32 ∨ byteAt s p = 9 → ∃ j', j = j' + 1 ∧ ∃ (p_1 : Nat) (l_1 : List Tk) (tk_1 : Tok), AV.list tk (List.map Tk.cells l) = AV.list tk_1 (List.map Tk.cells l_1) ∧ ((p + 1 : Nat) : Int) = (p_1 : Int) ∧ LstAt H 3 141 tk_1 H2 ∧ s.size - p_1 ≤ j' ∧ p_1 ≤ s.size ∧ l_1.length ≤ p_1 ∧ tkGo s p_1 l_1 = toks s := fun h =>
          ⟨j - 1, by omega, p + 1, l, tk, rfl, rfl, hL, by omega, by omega, by omega, by rw [← hgo, tkGo_skip hi (by rw [ho, if_pos h])]⟩
        refine ⟨⟨by omega, by omega⟩, fun a => ⟨fun b => hskip (.inr (by simpa using b)), fun b => ?_⟩, fun a => hskip (.inl (by simpa using a))⟩
        clear hskip
        have hn1 : ¬ (byteAt s p = 32 ∨ byteAt s p = 9) := by simp only [beq_eq_false_iff_ne, ne_eq] at a b; omega
        rw [if_neg hn1] at ho
        refine ⟨fun c => ?_, fun c => ?_⟩
        · rw [if_pos c] at ho
          obtain ⟨q1, q2, q3, q4, q5, q6⟩ := push_ok hL hl8 ⟨4, byteAt s p, p⟩
          exact ⟨q1, q2, q3, q4, q5, q6, j - 1, by omega, p + 1, l ++ [⟨4, byteAt s p, p⟩], _, by rw [List.map_append]; rfl, rfl, hL.push (hfr _ (sfx2 _ _ _)), by omega, by omega, by simp; omega, by rw [← hgo, tkGo_tok hi ho]⟩
        · have hns : ¬ isSign (byteAt s p) = true := by simp [c]
          rw [if_neg hns] at ho
          refine ⟨fun d => ?_, fun d => ?_⟩ <;> simp only [decide_eq_true_eq, decide_eq_false_iff_not] at d
          · rw [if_pos d] at ho
            rw [← hgo, tkGo_err hi ho]
            exact ⟨Weak.refl _, hL.le⟩
          · rw [if_neg d] at ho
            have hm : most (byteAt s p) = 63 ∨ most (byteAt s p) = 99 := by
              unfold most at d ⊢
              split
              · exact .inl rfl
              · rename_i h1
                rw [if_neg h1] at d
                split
                · exact .inr rfl
                · rename_i h2
                  rw [if_neg h2] at d
                  omega
            obtain ⟨g1, g2⟩ := num_agree (s := s) (p := p) hm hi
            have hes : (s.extract (p + 1) (p + 1 + digs s (p + 1))).size = digs s (p + 1) := by simp [ByteArray.size_extract]; omega
            refine ⟨⟨by omega, by omega, by omega⟩, by kernel_rfl, ⟨by omega, by omega, by omega⟩, ⟨fun i hi' => ?_, by omega⟩, List.Pairwise.nil, fun e => ?_, fun e => ?_⟩
            · rw [byteAt_extract (by omega) (by omega)]
              exact digs_all (by omega)
            · rw [g1] at e
              simp only [decide_eq_true_eq] at e
              have hz : (numB s p (most (byteAt s p))).2 = 0 := by
                rcases Nat.eq_zero_or_pos (numB s p (most (byteAt s p))).2 with h | h
                · exact h
                · rw [if_neg (by omega)] at e
                  have := (g2 (by omega)).2.1
                  omega
              rw [if_pos hz] at ho
              rw [← hgo, tkGo_err hi ho]
              exact ⟨Weak.refl _, hL.le⟩
            · rw [g1] at e ⊢
              simp only [decide_eq_false_iff_not] at e
              have hz : ¬ (numB s p (most (byteAt s p))).2 = 0 := fun h => by
                rw [if_pos h] at e
                omega
              rw [if_neg hz] at ho ⊢
              obtain ⟨g3, g4, g5⟩ := g2 hz
              obtain ⟨q1, q2, q3, q4, q5, q6⟩ := push_ok hL hl8 ⟨kindOf (byteAt s p), (numB s p (most (byteAt s p))).1, p⟩
              exact ⟨q1, q2, q3, q4, q5, q6, j - 1, by omega, p + 1 + digs s (p + 1), l ++ [⟨kindOf (byteAt s p), (numB s p (most (byteAt s p))).1, p⟩], _, by rw [List.map_append]; rfl, rfl, hL.push (hfr _ (sfx2 _ _ _)), by omega, by omega, by simp; omega, by rw [← hgo, tkGo_tok hi ho, g3]⟩
      · have hd : decide ((p : Int) < (s.size : Int)) = false := by simp; omega
        simp (config := {contextual := true, maxSteps := 5000000}) only [go_sem, false_and, Nat.reduceAdd, Nat.reduceLT, Nat.reduceBEq, Nat.reduceSub, Nat.reduceMul, Nat.reduceLeDiff, Int.reduceToNat, Nat.reduceEqDiff, Nat.reduceMod, h0, h5, h6, hl, hd, specT3]
        rw [← hgo, tkGo_end hi]
        exact ⟨weak_list3, hL.le⟩
end Go.Proofs.YtkdendaohlnlcaaGreatDoor.Av

/- What the functions of the reference of layer 9 answer. No condition. -/
namespace Go.Proofs.YtkdendaohlnlcaaGreatDoor.Av
set_option linter.unusedVariables false
set_option linter.unusedSimpArgs false
set_option maxRecDepth 4000
set_option maxHeartbeats 1000000
variable {w0 : Base} {k : List Nat} {H : Hp}
def small (c : Int) : Bool := decide (97 ≤ c) && decide (c ≤ 122)
def digit (c : Int) : Bool := decide (48 ≤ c) && decide (c ≤ 57)
def number (c : Int) : Bool := decide (0 ≤ c) && decide (c ≤ 999999999)
theorem small_call (c : Int) : CallAt Tryz.prog w0 k 91 [.int .u8 c] H H (.bool (small c)) := by
  refine callAt tabOk Spec.no_ok mixed Tryz.func91 rfl rfl Tryz.results91 Tryz.ntmps91 (by simp) [] ?_
  intro hfr t hl ht
  simp only [At, Nat.reduceAdd, List.cons_append, List.nil_append] at ht
  simp (config := {contextual := true, maxSteps := 5000000}) only [go_sem, false_and, Nat.reduceAdd, Nat.reduceLT, Nat.reduceBEq, Nat.reduceSub, Nat.reduceMul, Nat.reduceLeDiff, Int.reduceToNat, Nat.reduceEqDiff, Nat.reduceMod, ht, hl]
  simp +contextual [small] <;> omega
theorem digit_call (c : Int) : CallAt Tryz.prog w0 k 92 [.int .u8 c] H H (.bool (digit c)) := by
  refine callAt tabOk Spec.no_ok mixed Tryz.func92 rfl rfl Tryz.results92 Tryz.ntmps92 (by simp) [] ?_
  intro hfr t hl ht
  simp only [At, Nat.reduceAdd, List.cons_append, List.nil_append] at ht
  simp (config := {contextual := true, maxSteps := 5000000}) only [go_sem, false_and, Nat.reduceAdd, Nat.reduceLT, Nat.reduceBEq, Nat.reduceSub, Nat.reduceMul, Nat.reduceLeDiff, Int.reduceToNat, Nat.reduceEqDiff, Nat.reduceMod, ht, hl]
  simp +contextual [digit] <;> omega
theorem number09_call (c : Int) : CallAt Tryz.prog w0 k 100 [.int .i64 c] H H (.bool (number c)) := by
  refine callAt tabOk Spec.no_ok mixed Tryz.func100 rfl rfl Tryz.results100 Tryz.ntmps100 (by simp) [] ?_
  intro hfr t hl ht
  simp only [At, Nat.reduceAdd, List.cons_append, List.nil_append] at ht
  simp (config := {contextual := true, maxSteps := 5000000}) only [go_sem, false_and, Nat.reduceAdd, Nat.reduceLT, Nat.reduceBEq, Nat.reduceSub, Nat.reduceMul, Nat.reduceLeDiff, Int.reduceToNat, Nat.reduceEqDiff, Nat.reduceMod, ht, hl]
  simp +contextual [number] <;> omega
def specN : Spec := (Spec.no.add 91 (sp1 dC (fun _ => True) fun c => .bool (small c))).add 92 (sp1 dC (fun _ => True) fun c => .bool (digit c))
theorem specN_ok : SpecOk Tryz.prog w0 specN := (Spec.no_ok.add (sp1_ok fun c _ k H => small_call c)).add (sp1_ok fun c _ k H => digit_call c)
def okc (c : Int) : Bool := small c || digit c || c == 45
def isName (s : ByteArray) : Bool := decide (1 ≤ s.size ∧ s.size ≤ 12 ∧ small (byteAt s 0) = true ∧ ∀ i, i < s.size → okc (byteAt s i) = true)
theorem name09_call (s : ByteArray) : CallAt Tryz.prog w0 k 59 [.str s] H H (.bool (isName s)) := by
  refine callAt tabOk specN_ok mixed Tryz.func59 rfl rfl Tryz.results59 Tryz.ntmps59 (by simp) [] ?_
  intro hfr t hl ht
  simp only [At, Nat.reduceAdd, List.cons_append, List.nil_append] at ht
  simp (config := {contextual := true, maxSteps := 5000000}) only [go_sem, false_and, Nat.reduceAdd, Nat.reduceLT, Nat.reduceBEq, Nat.reduceSub, Nat.reduceMul, Nat.reduceLeDiff, Int.reduceToNat, Nat.reduceEqDiff, Nat.reduceMod, ht, hl, specN]
  refine ⟨fun h1 => ⟨fun h2 => ⟨by simp at h1; omega, fun h3 => ?_, fun h3 => ?_⟩, fun h2 => ?_⟩, fun h1 => ?_⟩
  · simp at h1 h2 h3
    simp [isName, h3]
  · simp at h1 h2 h3
    refine loop_inv tabOk specN_ok mixed [] (fun j x => ∃ i : Nat, x.tmps.length = 42 ∧ x.tmps.getD 0 AV.undef = .str s ∧ x.tmps.getD 3 AV.undef = .int .i64 i ∧ x.H = H ∧ i + j = s.size ∧ ∀ i', i' < i → okc (byteAt s i') = true) s.size ⟨0, ?_⟩ ?_
    · simp (config := {contextual := true, maxSteps := 5000000}) only [go_sem, false_and, Nat.reduceAdd, Nat.reduceLT, Nat.reduceBEq, Nat.reduceSub, Nat.reduceMul, Nat.reduceLeDiff, Int.reduceToNat, Nat.reduceEqDiff, Nat.reduceMod, ht, hl]
      simp
    · rintro j ⟨t, m, H'⟩ ⟨i, hl, h0, h3', rfl, hij, hall⟩
      simp only at hl h0 h3'
      by_cases hi : i < s.size
      · have hd : decide ((i : Int) < (s.size : Int)) = true := by simp [hi]
        have hw : IntKind.i64.wrap ((i : Int) + 1) = ((i + 1 : Nat) : Int) := by rw [wrap_i64] <;> omega
        simp (config := {contextual := true, maxSteps := 5000000}) only [go_sem, false_and, Nat.reduceAdd, Nat.reduceLT, Nat.reduceBEq, Nat.reduceSub, Nat.reduceMul, Nat.reduceLeDiff, Int.reduceToNat, Nat.reduceEqDiff, Nat.reduceMod, h0, h3', hl, hd, hw, specN]
        have nx : okc (byteAt s i) = true → ∃ j', j = j' + 1 ∧ ∃ i_1 : Nat, ((i + 1 : Nat) : Int) = (i_1 : Int) ∧ i_1 + j' = s.size ∧ ∀ i', i' < i_1 → okc (byteAt s i') = true :=
          fun h => ⟨j - 1, by omega, i + 1, rfl, by omega, fun i' h' => by
            by_cases e : i' = i
            · rw [e]; exact h
            · exact hall i' (by omega)⟩
        have no : okc (byteAt s i) = false → false = isName s := fun h => by
          symm
          simp only [isName, decide_eq_false_iff_not]
          intro hh
          rw [hh.2.2.2 i hi] at h
          cases h
        have b : 0 ≤ (i : Int) ∧ (i : Int) < s.size := by omega
        generalize (∃ j', j = j' + 1 ∧ ∃ i_1 : Nat, ((i + 1 : Nat) : Int) = (i_1 : Int) ∧ i_1 + j' = s.size ∧ ∀ i', i' < i_1 → okc (byteAt s i') = true) = NX at nx ⊢
        have ok : okc (byteAt s i) = (small (byteAt s i) || digit (byteAt s i) || byteAt s i == 45) := rfl
        rw [ok] at nx no
        revert nx no
        cases small (byteAt s i) <;> cases digit (byteAt s i) <;> cases hc : (byteAt s i == 45) <;> simp_all
      · have hd : decide ((i : Int) < (s.size : Int)) = false := by simp; omega
        simp (config := {contextual := true, maxSteps := 5000000}) only [go_sem, false_and, Nat.reduceAdd, Nat.reduceLT, Nat.reduceBEq, Nat.reduceSub, Nat.reduceMul, Nat.reduceLeDiff, Int.reduceToNat, Nat.reduceEqDiff, Nat.reduceMod, h0, h3', hl, hd]
        symm
        simp only [isName, decide_eq_true_eq]
        exact ⟨by omega, by omega, h3, fun i' h' => hall i' (by omega)⟩
  · simp at h2
    simp [isName]
    omega
  · simp at h1
    simp [isName]
    omega

theorem wantF_call (e : E) (hok : e.ok) : CallAt Tryz.prog w0 k 87 [e.av] H H (.int .i64 e.wantF) := by
  have hS : SpecOk Tryz.prog w0 (spec02b.add 62 (sp1 dE (fun e => e.ok) fun e => .int .i64 e.right)) := spec02b_ok.add (sp1_ok fun e h k H => right02_call e h)
  refine callAt tabOk hS mixed Tryz.func87 rfl rfl Tryz.results87 Tryz.ntmps87 (by simp) [] ?_
  intro hfr t hl ht
  simp only [At, Nat.reduceAdd, List.cons_append, List.nil_append] at ht
  simp (config := {contextual := true, maxSteps := 5000000}) only [go_sem, false_and, Nat.reduceAdd, Nat.reduceLT, Nat.reduceBEq, Nat.reduceSub, Nat.reduceMul, Nat.reduceLeDiff, Int.reduceToNat, Nat.reduceEqDiff, Nat.reduceMod, ht, hl, spec02b]
  unfold E.wantF
  (repeat' (first | apply And.intro | intro _)) <;> simp_all
def specW : Spec := spec02b.add 87 (sp1 dE (fun e => e.ok) fun e => .int .i64 e.wantF)
theorem specW_ok : SpecOk Tryz.prog w0 specW := spec02b_ok.add (sp1_ok fun e h k H => wantF_call e h)
theorem written09_call (e : E) (hok : e.ok) : CallAt Tryz.prog w0 k 56 [e.av] H H (.int .i64 e.written) := by
  refine callAt tabOk specW_ok mixed Tryz.func56 rfl rfl Tryz.results56 Tryz.ntmps56 (by simp) [] ?_
  intro hfr t hl ht
  simp only [At, Nat.reduceAdd, List.cons_append, List.nil_append] at ht
  simp (config := {contextual := true, maxSteps := 5000000}) only [go_sem, false_and, Nat.reduceAdd, Nat.reduceLT, Nat.reduceBEq, Nat.reduceSub, Nat.reduceMul, Nat.reduceLeDiff, Int.reduceToNat, Nat.reduceEqDiff, Nat.reduceMod, ht, hl, specW, spec02b]
  unfold E.written
  (repeat' (first | apply And.intro | intro _)) <;> simp_all <;> omega
end Go.Proofs.YtkdendaohlnlcaaGreatDoor.Av

/- What the functions of the reference of layer 9 answer: steps, names, units. No condition. -/
namespace Go.Proofs.YtkdendaohlnlcaaGreatDoor.Av
set_option linter.unusedVariables false
set_option linter.unusedSimpArgs false
set_option maxRecDepth 4000
set_option maxHeartbeats 1000000
variable {w0 : Base} {k : List Nat} {H : Hp}
def e0 (s : ByteArray) : Bool := s.toList == (⟨#[]⟩ : ByteArray).toList
def Step.fine (s : Step) : Bool :=
  if s.by_ = 1 then number s.a && (s.b == 0 && e0 s.cite) else if s.by_ = 2 then number s.a && (number s.b && e0 s.cite)
  else if s.by_ = 3 then number s.a && (decide (0 ≤ s.b) && (decide (s.b ≤ 63) && e0 s.cite)) else if s.by_ = 4 then s.a == 0 && s.b == 0 else false
def Step.why (s : Step) : Int := if s.fine then (if s.by_ = 4 ∧ isName s.cite = false then 91 else 0) else 90
def specR : Spec := (Spec.no.add 100 (sp1 dI (fun _ => True) fun c => .bool (number c))).add 59 (sp1 dS (fun _ => True) fun c => .bool (isName c))
theorem specR_ok : SpecOk Tryz.prog w0 specR := (Spec.no_ok.add (sp1_ok fun c _ k H => number09_call c)).add (sp1_ok fun c _ k H => name09_call c)
theorem reason09_call (s : Step) : CallAt Tryz.prog w0 k 65 [(dA cStep).enc s] H H (.int .i64 s.why) := by
  refine callAt tabOk specR_ok mixed Tryz.func65 rfl rfl Tryz.results65 Tryz.ntmps65 (by simp) [] ?_
  intro hfr t hl ht
  simp only [At, dA, cStep, Step.cells] at ht
  have hc : (s.by_ = 1 ∨ s.by_ = 2 ∨ s.by_ = 3 ∨ s.by_ = 4) ∨ (s.by_ == 1) = false ∧ (s.by_ == 2) = false ∧ (s.by_ == 3) = false ∧ (s.by_ == 4) = false := by
    simp only [beq_eq_false_iff_ne]
    omega
  unfold Step.why Step.fine
  rcases hc with (hb | hb | hb | hb) | ⟨b1, b2, b3, b4⟩
  · simp (config := {contextual := true, maxSteps := 5000000}) only [go_sem, false_and, Nat.reduceAdd, Nat.reduceLT, Nat.reduceBEq, Nat.reduceSub, Nat.reduceMul, Nat.reduceLeDiff, Int.reduceToNat, Nat.reduceEqDiff, Nat.reduceMod, ht, hl, hb, specR, Int.reduceBEq]
    (repeat' (first | apply And.intro | intro _)) <;> simp_all [e0]
  · simp (config := {contextual := true, maxSteps := 5000000}) only [go_sem, false_and, Nat.reduceAdd, Nat.reduceLT, Nat.reduceBEq, Nat.reduceSub, Nat.reduceMul, Nat.reduceLeDiff, Int.reduceToNat, Nat.reduceEqDiff, Nat.reduceMod, ht, hl, hb, specR, Int.reduceBEq]
    (repeat' (first | apply And.intro | intro _)) <;> simp_all [e0]
  · simp (config := {contextual := true, maxSteps := 5000000}) only [go_sem, false_and, Nat.reduceAdd, Nat.reduceLT, Nat.reduceBEq, Nat.reduceSub, Nat.reduceMul, Nat.reduceLeDiff, Int.reduceToNat, Nat.reduceEqDiff, Nat.reduceMod, ht, hl, hb, specR, Int.reduceBEq]
    (repeat' (first | apply And.intro | intro _)) <;> simp_all [e0]
  · simp (config := {contextual := true, maxSteps := 5000000}) only [go_sem, false_and, Nat.reduceAdd, Nat.reduceLT, Nat.reduceBEq, Nat.reduceSub, Nat.reduceMul, Nat.reduceLeDiff, Int.reduceToNat, Nat.reduceEqDiff, Nat.reduceMod, ht, hl, hb, specR, Int.reduceBEq]
    (repeat' (first | apply And.intro | intro _)) <;> simp_all [e0]
  · simp (config := {contextual := true, maxSteps := 5000000}) only [go_sem, false_and, Nat.reduceAdd, Nat.reduceLT, Nat.reduceBEq, Nat.reduceSub, Nat.reduceMul, Nat.reduceLeDiff, Int.reduceToNat, Nat.reduceEqDiff, Nat.reduceMod, ht, hl, b1, b2, b3, b4, specR, Int.reduceBEq]
    simp only [beq_eq_false_iff_ne] at b1 b2 b3 b4
    simp [b1, b2, b3, b4]

/-- What is wrong with names, behind those that are had. -/
def namesGo (had : List ByteArray) : List ByteArray → Int
  | [] => 0
  | s :: r => if isName s then (if had.any fun t => t.toList == s.toList then 92 else if 8 ≤ had.length then 2 else namesGo (had ++ [s]) r) else 91
theorem namesGo_at (l : List ByteArray) {i : Nat} {s : ByteArray} (h : l[i]? = some s) :
    namesGo (l.take i) (l.drop i) = if isName s then (if (l.take i).any fun t => t.toList == s.toList then 92 else if 8 ≤ i then 2 else namesGo (l.take (i + 1)) (l.drop (i + 1))) else 91 := by
  obtain ⟨hi, h'⟩ := List.getElem?_eq_some_iff.1 h
  rw [List.drop_eq_getElem_cons hi, h', namesGo, List.length_take, Nat.min_eq_left (by omega), List.take_add_one, h]
  rfl
theorem names09_call (l : List ByteArray) (hn : (l.length : Int) ≤ 9223372036854775807) : CallAt Tryz.prog w0 k 54 [(dL cS).enc l] H H (.int .i64 (namesGo [] l)) := by
  refine callAt tabOk specR_ok mixed Tryz.func54 rfl rfl Tryz.results54 Tryz.ntmps54 (by simp) [] ?_
  intro hfr t hl ht
  simp only [At, dL] at ht
  simp (config := {contextual := true, maxSteps := 5000000}) only [go_sem, false_and, Nat.reduceAdd, Nat.reduceLT, Nat.reduceBEq, Nat.reduceSub, Nat.reduceMul, Nat.reduceLeDiff, Int.reduceToNat, Nat.reduceEqDiff, Nat.reduceMod, ht, hl]
  refine loop_inv tabOk specR_ok mixed [] (fun j x => ∃ i : Nat, x.tmps.length = 30 ∧ x.tmps.getD 0 AV.undef = .list .none (l.map cS.enc) ∧ x.tmps.getD 6 AV.undef = .list .none (l.map cS.enc) ∧
    x.tmps.getD 7 AV.undef = .int .i64 l.length ∧ x.tmps.getD 8 AV.undef = .int .i64 i ∧ x.H = H ∧ i + j = l.length ∧ namesGo (l.take i) (l.drop i) = namesGo [] l) l.length ⟨0, ?_⟩ ?_
  · simp (config := {contextual := true, maxSteps := 5000000}) only [go_sem, false_and, Nat.reduceAdd, Nat.reduceLT, Nat.reduceBEq, Nat.reduceSub, Nat.reduceMul, Nat.reduceLeDiff, Int.reduceToNat, Nat.reduceEqDiff, Nat.reduceMod, ht, hl]
    simp
  · rintro j ⟨t, n, H'⟩ ⟨i, hl, h0, h6, h7, h8, rfl, hij, hgo⟩
    simp only at hl h0 h6 h7 h8
    by_cases hi : i < l.length
    · have hd : decide ((i : Int) < (l.length : Int)) = true := by simp [hi]
      have hw2 : IntKind.i64.wrap ((i : Int) + 1) = ((i + 1 : Nat) : Int) := by rw [wrap_i64] <;> omega
      obtain ⟨s, hs, he⟩ := str_get l hi
      have hat := namesGo_at l hs
      simp (config := {contextual := true, maxSteps := 5000000}) only [go_sem, false_and, Nat.reduceAdd, Nat.reduceLT, Nat.reduceBEq, Nat.reduceSub, Nat.reduceMul, Nat.reduceLeDiff, Int.reduceToNat, Nat.reduceEqDiff, Nat.reduceMod, he, specR, h0, h6, h7, h8, hl, hd, hw2]
      refine ⟨⟨by omega, by omega⟩, fun a => ?_, fun a => ?_⟩ <;> simp only [Bool.not_eq_true', Bool.not_eq_false'] at a <;> simp only [a, Bool.false_eq_true, if_false, if_true] at hat
      · rw [← hgo, hat]
      · refine loop_inv tabOk specR_ok mixed [] (fun q x => ∃ m : Nat, x.tmps.length = 30 ∧ x.tmps.getD 0 AV.undef = .list .none (l.map cS.enc) ∧ x.tmps.getD 3 AV.undef = .int .i64 i ∧ x.tmps.getD 4 AV.undef = .str s ∧ x.tmps.getD 5 AV.undef = .int .i64 m ∧ x.tmps.getD 6 AV.undef = .list .none (l.map cS.enc) ∧
          x.tmps.getD 7 AV.undef = .int .i64 l.length ∧ x.tmps.getD 8 AV.undef = .int .i64 i ∧ x.H = H' ∧ m + q = i ∧ ∀ m' y, m' < m → l[m']? = some y → (y.toList == s.toList) = false) i ⟨0, ?_⟩ ?_
        · simp (config := {contextual := true, maxSteps := 5000000}) only [go_sem, false_and, Nat.reduceAdd, Nat.reduceLT, Nat.reduceBEq, Nat.reduceSub, Nat.reduceMul, Nat.reduceLeDiff, Int.reduceToNat, Nat.reduceEqDiff, Nat.reduceMod, h0, h6, h7, h8, hl]
          simp
        · rintro q ⟨t, n, H''⟩ ⟨m, hl, h0, h3, h4, h5, h6, h7, h8, hH, hmq, hno⟩
          simp only at hl h0 h3 h4 h5 h6 h7 h8 hH
          subst hH
          by_cases hm : m < i
          · have hd : decide ((m : Int) < (i : Int)) = true := by simp [hm]
            have hw3 : IntKind.i64.wrap ((m : Int) + 1) = ((m + 1 : Nat) : Int) := by rw [wrap_i64] <;> omega
            obtain ⟨y, hy, hye⟩ := str_get l (show m < l.length by omega)
            simp (config := {contextual := true, maxSteps := 5000000}) only [go_sem, false_and, Nat.reduceAdd, Nat.reduceLT, Nat.reduceBEq, Nat.reduceSub, Nat.reduceMul, Nat.reduceLeDiff, Int.reduceToNat, Nat.reduceEqDiff, Nat.reduceMod, hye, h0, h3, h4, h5, h6, h7, h8, hl, hd, hw3]
            refine ⟨⟨by omega, by omega⟩, fun b => ?_, fun b => ⟨q - 1, by omega, m + 1, rfl, by omega, fun m' z hm' hz => ?_⟩⟩
            · have : ((l.take i).any fun t => t.toList == s.toList) = true := by
                rw [List.any_eq_true]
                exact ⟨y, List.mem_of_getElem? (by rw [List.getElem?_take_of_lt hm]; exact hy), b⟩
              rw [← hgo, hat, if_pos this]
            · by_cases e : m' = m
              · subst e
                rw [hy] at hz
                cases hz
                exact b
              · exact hno m' z (by omega) hz
          · have hd : decide ((m : Int) < (i : Int)) = false := by simp; omega
            simp (config := {contextual := true, maxSteps := 5000000}) only [go_sem, false_and, Nat.reduceAdd, Nat.reduceLT, Nat.reduceBEq, Nat.reduceSub, Nat.reduceMul, Nat.reduceLeDiff, Int.reduceToNat, Nat.reduceEqDiff, Nat.reduceMod, h0, h3, h4, h5, h6, h7, h8, hl, hd, hw2]
            have : ((l.take i).any fun t => t.toList == s.toList) = false := by
              rw [List.any_eq_false]
              intro y hy
              obtain ⟨m', hm', rfl⟩ := List.getElem_of_mem hy
              simp only [List.length_take] at hm'
              have := hno m' l[m'] (by omega) (by simp)
              simp [this]
            simp only [this, Bool.false_eq_true, if_false] at hat
            refine ⟨fun b => ?_, fun b => ⟨j - 1, by omega, i + 1, rfl, by omega, ?_⟩⟩ <;> simp only [decide_eq_true_eq, decide_eq_false_iff_not] at b
            · rw [← hgo, hat, if_pos (by omega)]
            · rw [← hgo, hat, if_neg (by omega)]
    · have hd : decide ((i : Int) < (l.length : Int)) = false := by simp; omega
      simp (config := {contextual := true, maxSteps := 5000000}) only [go_sem, false_and, Nat.reduceAdd, Nat.reduceLT, Nat.reduceBEq, Nat.reduceSub, Nat.reduceMul, Nat.reduceLeDiff, Int.reduceToNat, Nat.reduceEqDiff, Nat.reduceMod, h0, h6, h7, h8, hl, hd]
      rw [← hgo, List.drop_of_length_le (by omega)]
      rfl

def U.okS (u : U) : Prop := u.states.ok ∧ ∀ s, s ∈ u.steps → s.says.ok
/-- What is wrong with steps, behind so many. -/
def stepsGo (i : Nat) : List Step → Int
  | [] => 0
  | s :: r => if 60 ≤ i then 2 else if s.why = 0 then (if s.says.written = 0 then stepsGo (i + 1) r else s.says.written) else s.why
theorem stepsGo_at (l : List Step) {i : Nat} {s : Step} (h : l[i]? = some s) :
    stepsGo i (l.drop i) = if 60 ≤ i then 2 else if s.why = 0 then (if s.says.written = 0 then stepsGo (i + 1) (l.drop (i + 1)) else s.says.written) else s.why := by
  obtain ⟨hi, h'⟩ := List.getElem?_eq_some_iff.1 h
  rw [List.drop_eq_getElem_cons hi, h', stepsGo]
def U.right (u : U) : Int := if namesGo [] u.cites = 0 then (if u.states.written = 0 then (if u.steps.length = 0 then 90 else stepsGo 0 u.steps) else u.states.written) else namesGo [] u.cites
def U.ok (u : U) : Prop := (u.cites.length : Int) ≤ 9223372036854775807 ∧ (u.steps.length : Int) ≤ 9223372036854775807 ∧ u.okS
def specU : Spec := ((Spec.no.add 54 (sp1 (dL cS) (fun l => (l.length : Int) ≤ 9223372036854775807) fun l => .int .i64 (namesGo [] l))).add 56 (sp1 dE (fun e => e.ok) fun e => .int .i64 e.written)).add
  65 (sp1 (dA cStep) (fun _ => True) fun s => .int .i64 s.why)
theorem specU_ok : SpecOk Tryz.prog w0 specU := ((Spec.no_ok.add (sp1_ok fun l h k H => names09_call l h)).add (sp1_ok fun e h k H => written09_call e h)).add (sp1_ok fun s _ k H => reason09_call s)
theorem right09_call (u : U) (hok : u.ok) : CallAt Tryz.prog w0 k 35 [(dA cU).enc u] H H (.int .i64 u.right) := by
  refine callAt tabOk specU_ok mixed Tryz.func35 rfl rfl Tryz.results35 Tryz.ntmps35 (by simp) [] ?_
  intro hfr t hl ht
  simp only [At, dA, cU, U.cells] at ht
  simp (config := {contextual := true, maxSteps := 5000000}) only [go_sem, false_and, Nat.reduceAdd, Nat.reduceLT, Nat.reduceBEq, Nat.reduceSub, Nat.reduceMul, Nat.reduceLeDiff, Int.reduceToNat, Nat.reduceEqDiff, Nat.reduceMod, ht, hl, specU]
  obtain ⟨ok1, ok2, ok3, ok4⟩ := hok
  refine ⟨ok1, fun a => ?_, fun a => ⟨ok3, fun b => ?_, fun b => ⟨fun c => ?_, fun c => ?_⟩⟩⟩
  · simp only [bne_iff_ne, ne_eq] at a
    simp [U.right, a]
  · simp only [bne_eq_false_iff_eq, bne_iff_ne, ne_eq] at a b
    simp [U.right, a, b]
  · simp only [bne_eq_false_iff_eq, beq_iff_eq] at a b c
    have : u.steps.length = 0 := by omega
    simp [U.right, a, b, this]
  · simp only [bne_eq_false_iff_eq, beq_eq_false_iff_ne] at a b c
    have hr : u.right = stepsGo 0 u.steps := by
      have : u.steps.length ≠ 0 := by omega
      simp [U.right, a, b, this]
    refine loop_inv tabOk specU_ok mixed [] (fun j x => ∃ i : Nat, x.tmps.length = 44 ∧ x.tmps.getD 23 AV.undef = .list .none (u.steps.map cStep.enc) ∧
      x.tmps.getD 24 AV.undef = .int .i64 u.steps.length ∧ x.tmps.getD 25 AV.undef = .int .i64 i ∧ H.Le x.H ∧ i + j = u.steps.length ∧ stepsGo i (u.steps.drop i) = u.right) u.steps.length ⟨0, ?_⟩ ?_
    · simp (config := {contextual := true, maxSteps := 5000000}) only [go_sem, false_and, Nat.reduceAdd, Nat.reduceLT, Nat.reduceBEq, Nat.reduceSub, Nat.reduceMul, Nat.reduceLeDiff, Int.reduceToNat, Nat.reduceEqDiff, Nat.reduceMod, ht, hl]
      simp [hr]
    · rintro j ⟨t, n, H'⟩ ⟨i, hl, h23, h24, h25, hH, hij, hgo⟩
      simp only at hl h23 h24 h25 hH
      by_cases hi : i < u.steps.length
      · have hd : decide ((i : Int) < (u.steps.length : Int)) = true := by simp [hi]
        have hw2 : IntKind.i64.wrap ((i : Int) + 1) = ((i + 1 : Nat) : Int) := by rw [wrap_i64] <;> omega
        obtain ⟨s, hs, he⟩ := step_get u.steps hi
        have hat := stepsGo_at u.steps hs
        have hcs : s.cells = [.int .i64 s.says.kind, .int .i64 s.says.id, .list .none (s.says.kids.map E.cells), .int .i64 s.by_, .int .i64 s.a, .int .i64 s.b, .str s.cite] := rfl
        rw [hcs] at he
        simp (config := {contextual := true, maxSteps := 5000000}) only [go_sem, false_and, Nat.reduceAdd, Nat.reduceLT, Nat.reduceBEq, Nat.reduceSub, Nat.reduceMul, Nat.reduceLeDiff, Int.reduceToNat, Nat.reduceEqDiff, Nat.reduceMod, he, specU, h23, h24, h25, hl, hd, hw2]
        have hn : H ⟨7, 3 :: (n + 1) :: k, 50⟩ = none := hfr _ (sfx2 _ _ _)
        have hle : ∀ a, H.Le (H'.upd ⟨7, 3 :: (n + 1) :: k, 50⟩ a) := fun a => Hp.le_upd hH hn
        rw [← hgo, hat]
        refine ⟨⟨by omega, by omega⟩, fun a => ⟨?_, hle _⟩, fun a => ⟨fun b => ⟨?_, hle _⟩, fun b => ⟨ok4 s (List.mem_of_getElem? hs), fun c => ⟨?_, hle _⟩, fun c => ⟨j - 1, by omega, i + 1, rfl, hle _, by omega, ?_⟩⟩⟩⟩
        · simp only [decide_eq_true_eq] at a
          rw [if_pos (by omega)]
        · simp only [decide_eq_false_iff_not, bne_iff_ne, ne_eq] at a b
          rw [if_neg (by omega), if_neg b]
        · simp only [decide_eq_false_iff_not, bne_iff_ne, ne_eq, bne_eq_false_iff_eq] at a b c
          rw [if_neg (by omega), if_pos b, if_neg c]
        · simp only [decide_eq_false_iff_not, bne_eq_false_iff_eq] at a b c
          rw [if_neg (by omega), if_pos b, if_pos c]
      · have hd : decide ((i : Int) < (u.steps.length : Int)) = false := by simp; omega
        simp (config := {contextual := true, maxSteps := 5000000}) only [go_sem, false_and, Nat.reduceAdd, Nat.reduceLT, Nat.reduceBEq, Nat.reduceSub, Nat.reduceMul, Nat.reduceLeDiff, Int.reduceToNat, Nat.reduceEqDiff, Nat.reduceMod, h23, h24, h25, hl, hd]
        rw [← hgo, List.drop_of_length_le (by omega)]
        exact ⟨rfl, hH⟩
end Go.Proofs.YtkdendaohlnlcaaGreatDoor.Av

/- What the functions of the reference of layer 9 answer that cut texts. No condition. -/
namespace Go.Proofs.YtkdendaohlnlcaaGreatDoor.Av
set_option linter.unusedVariables false
set_option linter.unusedSimpArgs false
set_option maxRecDepth 4000
set_option maxHeartbeats 1000000
variable {w0 : Base} {k : List Nat} {H : Hp}
theorem cS_at (s : ByteArray) : cS.enc s = [.str s] := rfl
theorem pushS_ok {H2 : Hp} {l : List ByteArray} {tk : Tok} (hL : LstAt H 1 9 tk H2) (hll : l.length ≤ 4294967296) (x : ByteArray) : (∀ y : List AV, y = cS.enc x ∨ False → y.length = 1) ∧ (∀ y : List AV, y ∈ l.map cS.enc → y.length = 1) ∧ [cS.enc x].flatten.all oneA = true ∧ (l.length + 1) * 16 ≤ 140737488355328 ∧ l.length ≤ 4611686018427387903 ∧ tokLive H2 1 9 tk := by
  refine ⟨fun y h => ?_, fun y h => cS_each l y h, rfl, by omega, by omega, hL.live⟩
  rcases h with rfl | h
  · rfl
  · exact h.elim
theorem cutF_cons {s : ByteArray} {c : Int} {fr i : Nat} (h : i < s.size) : cutF s c (s.size - i) fr i = if byteAt s i = c then s.extract fr i :: cutF s c (s.size - (i + 1)) (i + 1) (i + 1) else cutF s c (s.size - (i + 1)) fr (i + 1) := by
  rw [show s.size - i = (s.size - (i + 1)) + 1 by omega, cutF]
theorem cut09_call (s : ByteArray) (c : Int) (hs : s.size ≤ 4000000000) : CallAt Tryz.prog w0 k 31 [.str s, .int .u8 c] H H (.list .none ((cutC s c).map cS.enc)) := by
  refine callAt tabOk Spec.no_ok mixed Tryz.func31 rfl rfl Tryz.results31 Tryz.ntmps31 (by simp) [] ?_
  intro hfr t hl ht
  simp only [At, Nat.reduceAdd, List.cons_append, List.nil_append] at ht
  simp (config := {contextual := true, maxSteps := 5000000}) only [go_sem, false_and, Nat.reduceAdd, Nat.reduceLT, Nat.reduceBEq, Nat.reduceSub, Nat.reduceMul, Nat.reduceLeDiff, Int.reduceToNat, Nat.reduceEqDiff, Nat.reduceMod, ht, hl]
  refine loop_inv tabOk Spec.no_ok mixed [] (fun j x => ∃ (i fr : Nat) (l : List ByteArray) (tk : Tok), x.tmps.length = 36 ∧ x.tmps.getD 0 AV.undef = .str s ∧ x.tmps.getD 1 AV.undef = .int .u8 c ∧ x.tmps.getD 5 AV.undef = .list tk (l.map cS.enc) ∧ x.tmps.getD 6 AV.undef = .int .i64 fr ∧ x.tmps.getD 7 AV.undef = .int .i64 i ∧
    LstAt H 1 9 tk x.H ∧ i + j = s.size ∧ fr ≤ i ∧ l.length ≤ i ∧ l ++ cutF s c (s.size - i) fr i = cutC s c) s.size ⟨0, 0, [], .full, ?_⟩ ?_
  · simp (config := {contextual := true, maxSteps := 5000000}) only [go_sem, false_and, Nat.reduceAdd, Nat.reduceLT, Nat.reduceBEq, Nat.reduceSub, Nat.reduceMul, Nat.reduceLeDiff, Int.reduceToNat, Nat.reduceEqDiff, Nat.reduceMod, ht, hl]
    exact ⟨rfl, rfl, ⟨Hp.Le.refl _, .inl (.inr rfl)⟩, by omega, rfl⟩
  · rintro j ⟨t, n, H2⟩ ⟨i, fr, l, tk, hl, h0, h1, h5, h6, h7, hL, hij, hfi, hll, hgo⟩
    simp only at hl h0 h1 h5 h6 h7 hL
    by_cases hi : i < s.size
    · have hd : decide ((i : Int) < (s.size : Int)) = true := by simp [hi]
      have hw : IntKind.i64.wrap ((i : Int) + 1) = ((i + 1 : Nat) : Int) := by rw [wrap_i64] <;> omega
      have hc := cutF_cons (c := c) (fr := fr) hi
      rw [hc] at hgo
      simp (config := {contextual := true, maxSteps := 5000000}) only [go_sem, false_and, Nat.reduceAdd, Nat.reduceLT, Nat.reduceBEq, Nat.reduceSub, Nat.reduceMul, Nat.reduceLeDiff, Int.reduceToNat, Nat.reduceEqDiff, Nat.reduceMod, h0, h1, h5, h6, h7, hl, hd, hw]
      refine ⟨⟨by omega, by omega⟩, fun a => ?_, fun a => ?_⟩ <;> simp only [beq_iff_eq, beq_eq_false_iff_ne, ne_eq] at a
      · rw [if_pos a] at hgo
        obtain ⟨q1, q2, q3, q4, q5, q6⟩ := pushS_ok (l := l) hL (by omega) (s.extract fr i)
        exact ⟨⟨by omega, by omega, by omega⟩, q1, q2, q3, q4, q5, q6, j - 1, by omega, i + 1, i + 1, l ++ [s.extract fr i], _, by rw [List.map_append]; rfl, rfl, rfl, hL.push (hfr _ (sfx2 _ _ _)), by omega, by omega, by simp; omega, by rw [← hgo]; simp⟩
      · rw [if_neg a] at hgo
        exact ⟨j - 1, by omega, i + 1, fr, l, tk, rfl, rfl, rfl, hL, by omega, by omega, by omega, hgo⟩
    · have hd : decide ((i : Int) < (s.size : Int)) = false := by simp; omega
      have hz : s.size - i = 0 := by omega
      rw [hz, cutF] at hgo
      obtain ⟨q1, q2, q3, q4, q5, q6⟩ := pushS_ok (l := l) hL (by omega) (s.extract fr s.size)
      simp (config := {contextual := true, maxSteps := 5000000}) only [go_sem, false_and, Nat.reduceAdd, Nat.reduceLT, Nat.reduceBEq, Nat.reduceSub, Nat.reduceMul, Nat.reduceLeDiff, Int.reduceToNat, Nat.reduceEqDiff, Nat.reduceMod, h0, h1, h5, h6, h7, hl, hd]
      refine ⟨⟨by omega, by omega⟩, q1, q2, q3, q4, q5, q6, ?_, (hL.push (y := cS.enc (s.extract fr s.size)) (ys := []) (hfr _ (sfx2 _ _ _))).le⟩
      rw [← hgo, List.map_append]
      exact list_weak
theorem cutF_len (s : ByteArray) (c : Int) : ∀ m fr i, 1 ≤ (cutF s c m fr i).length ∧ (cutF s c m fr i).length ≤ m + 1
  | 0, fr, i => by simp [cutF]
  | m + 1, fr, i => by
    rw [cutF]
    split
    · have := cutF_len s c m (i + 1) (i + 1)
      simp only [List.length_cons]
      omega
    · have := cutF_len s c m fr (i + 1)
      omega
theorem cutC_len (s : ByteArray) (c : Int) : 1 ≤ (cutC s c).length ∧ (cutC s c).length ≤ s.size + 1 := cutF_len s c _ _ _
/-- The lines of a text that was cut. -/
def lns (l : List ByteArray) : List ByteArray := match l[l.length - 1]? with
  | some x => if e0 x then l.take (l.length - 1) else l
  | none => l
def linesOf (s : ByteArray) : List ByteArray := lns (cutC s 10)
def specCut : Spec := Spec.no.add 31 (sp2 dS dC (fun s _ => s.size ≤ 4000000000) fun s c => .list .none ((cutC s c).map cS.enc))
theorem specCut_ok : SpecOk Tryz.prog w0 specCut := Spec.no_ok.add (sp2_ok fun s c h k H => cut09_call s c h)
theorem lines09_call (s : ByteArray) (hs : s.size ≤ 4000000000) : CallAt Tryz.prog w0 k 11 [.str s] H H (.list .none ((linesOf s).map cS.enc)) := by
  refine callAt tabOk specCut_ok mixed Tryz.func11 rfl rfl Tryz.results11 Tryz.ntmps11 (by simp) [] ?_
  intro hfr t hl ht
  simp only [At, Nat.reduceAdd, List.cons_append, List.nil_append] at ht
  have hn := cutC_len s 10
  obtain ⟨x, hx, hxe⟩ := str_get (cutC s 10) (i := (cutC s 10).length - 1) (by omega)
  have hw : IntKind.i64.wrap (((cutC s 10).length : Int) - 1) = (((cutC s 10).length - 1 : Nat) : Int) := by rw [wrap_i64] <;> omega
  unfold linesOf lns
  rw [hx]
  simp (config := {contextual := true, maxSteps := 5000000}) only [go_sem, false_and, Nat.reduceAdd, Nat.reduceLT, Nat.reduceBEq, Nat.reduceSub, Nat.reduceMul, Nat.reduceLeDiff, Int.reduceToNat, Nat.reduceEqDiff, Nat.reduceMod, ht, hl, specCut, hw, hxe]
  refine ⟨hs, ⟨by omega, by omega⟩, fun a => ⟨⟨by omega, by omega, cS_each _⟩, ?_⟩, fun a => ?_⟩
  · rw [show e0 x = true from a, if_pos rfl, List.map_take]
    exact Weak.refl _
  · rw [show e0 x = false from a, if_neg (by simp)]
    exact Weak.refl _
theorem begins_call (s p : ByteArray) : CallAt Tryz.prog w0 k 27 [.str s, .str p] H H (.tup [.str (if beg s p then s.extract p.size s.size else ⟨#[]⟩), .bool (beg s p)]) := by
  refine callAt tabOk specCut_ok mixed Tryz.func27 rfl rfl Tryz.results27 Tryz.ntmps27 (by simp) [] ?_
  intro hfr t hl ht
  simp only [At, Nat.reduceAdd, List.cons_append, List.nil_append] at ht
  simp (config := {contextual := true, maxSteps := 5000000}) only [go_sem, false_and, Nat.reduceAdd, Nat.reduceLT, Nat.reduceBEq, Nat.reduceSub, Nat.reduceMul, Nat.reduceLeDiff, Int.reduceToNat, Nat.reduceEqDiff, Nat.reduceMod, ht, hl]
  unfold beg
  refine ⟨fun a => ⟨by simp only [decide_eq_false_iff_not] at a; omega, fun b => ?_, fun b => ⟨by simp only [decide_eq_false_iff_not] at a; omega, ?_⟩⟩, fun a => ?_⟩
  · simp only [Bool.not_eq_true'] at b
    rw [b, Bool.and_false]
    exact Weak.refl _
  · simp only [Bool.not_eq_false', decide_eq_false_iff_not] at a b
    have ha : decide (p.size ≤ s.size) = true := by simp; omega
    rw [ha, b]
    exact Weak.refl _
  · simp only [decide_eq_true_eq] at a
    have ha : decide (p.size ≤ s.size) = false := by simp; omega
    rw [ha]
    exact Weak.refl _
/-! numbers of at most nine digits -/
def valN (s : ByteArray) : Nat → Int
  | 0 => 0
  | i + 1 => valN s i * 10 + (byteAt s i - 48)
def badLen (s : ByteArray) : Bool := decide (s.size < 1) || (decide (9 < s.size) || (decide (1 < s.size) && byteAt s 0 == 48))
theorem badLen_iff {s : ByteArray} : badLen s = true ↔ s.size < 1 ∨ 9 < s.size ∨ (1 < s.size ∧ byteAt s 0 = 48) := by simp only [badLen, Bool.or_eq_true, Bool.and_eq_true, decide_eq_true_eq, beq_iff_eq]
def decAll (s : ByteArray) : Bool := (List.range s.size).all fun i => digit (byteAt s i)
def decR (s : ByteArray) : Option Int := if badLen s = false ∧ decAll s = true then some (valN s s.size) else none
theorem valN_le {s : ByteArray} : ∀ i : Nat, (∀ j : Nat, j < i → digit (byteAt s j) = true) → 0 ≤ valN s i ∧ valN s i + 1 ≤ 10 ^ i
  | 0, _ => by simp [valN]
  | i + 1, h => by
    have ih := valN_le i fun j hj => h j (by omega)
    have hd := h i (by omega)
    simp only [digit, Bool.and_eq_true, decide_eq_true_eq] at hd
    rw [valN, Int.pow_succ]
    omega
theorem pow_small {i : Nat} (h : i ≤ 9) : (10 : Int) ^ i ≤ 1000000000 := by
  have : (10 : Nat) ^ i ≤ 10 ^ 9 := Nat.pow_le_pow_right (by omega) h
  have h2 : ((10 : Nat) ^ i : Int) ≤ ((10 ^ 9 : Nat) : Int) := by exact_mod_cast this
  simpa using h2
theorem decAll_iff {s : ByteArray} : decAll s = true ↔ ∀ j : Nat, j < s.size → digit (byteAt s j) = true := by
  simp [decAll, List.all_eq_true]
theorem decR_ge {s : ByteArray} {n : Int} (h : decR s = some n) : 0 ≤ n ∧ n ≤ 999999999 := by
  unfold decR at h
  split at h
  · rename_i hb
    cases h
    have h1 := valN_le s.size (decAll_iff.1 hb.2)
    have h2 : s.size ≤ 9 := by
      have := hb.1
      simp only [badLen, Bool.or_eq_false_iff, decide_eq_false_iff_not] at this
      omega
    have := pow_small h2
    omega
  · cases h
def decI (s : ByteArray) : Int := match decR s with
  | some n => n
  | none => -1
def specDi : Spec := Spec.no.add 92 (sp1 dC (fun _ => True) fun c => .bool (digit c))
theorem specDi_ok : SpecOk Tryz.prog w0 specDi := Spec.no_ok.add (sp1_ok fun c _ k H => digit_call c)
theorem decimal09_call (s : ByteArray) : CallAt Tryz.prog w0 k 90 [.str s] H H (.int .i64 (decI s)) := by
  refine callAt tabOk specDi_ok mixed Tryz.func90 rfl rfl Tryz.results90 Tryz.ntmps90 (by simp) [] ?_
  intro hfr t hl ht
  simp only [At, Nat.reduceAdd, List.cons_append, List.nil_append] at ht
  have hbad : badLen s = true → -1 = decI s := fun h => by simp [decI, decR, h]
  simp (config := {contextual := true, maxSteps := 5000000}) only [go_sem, false_and, Nat.reduceAdd, Nat.reduceLT, Nat.reduceBEq, Nat.reduceSub, Nat.reduceMul, Nat.reduceLeDiff, Int.reduceToNat, Nat.reduceEqDiff, Nat.reduceMod, ht, hl]
  refine ⟨fun a => ⟨fun b => ⟨fun c => ⟨by simp only [decide_eq_true_eq] at c; omega, fun d => hbad (badLen_iff.2 (by simp only [decide_eq_true_eq, beq_iff_eq] at c d; omega)), fun d => ?_⟩, fun c => ?_⟩, fun b => hbad (badLen_iff.2 (by simp only [decide_eq_true_eq] at b; omega))⟩, fun a => hbad (badLen_iff.2 (by simp only [decide_eq_true_eq] at a; omega))⟩
  all_goals
    have hb0 : badLen s = false := by
      rw [← Bool.not_eq_true, badLen_iff]
      simp only [decide_eq_true_eq, decide_eq_false_iff_not] at a b c
      first | omega | (simp only [beq_eq_false_iff_ne, ne_eq] at d; omega)
    simp only [decide_eq_false_iff_not] at b
    refine loop_inv tabOk specDi_ok mixed [] (fun j x => ∃ i : Nat, x.tmps.length = 43 ∧ x.tmps.getD 0 AV.undef = .str s ∧ x.tmps.getD 3 AV.undef = .int .i64 (valN s i) ∧ x.tmps.getD 4 AV.undef = .int .i64 i ∧ x.H = H ∧ i + j = s.size ∧ ∀ q : Nat, q < i → digit (byteAt s q) = true) s.size ⟨0, ?_⟩ ?_
    · simp (config := {contextual := true, maxSteps := 5000000}) only [go_sem, false_and, Nat.reduceAdd, Nat.reduceLT, Nat.reduceBEq, Nat.reduceSub, Nat.reduceMul, Nat.reduceLeDiff, Int.reduceToNat, Nat.reduceEqDiff, Nat.reduceMod, ht, hl]
      exact ⟨rfl, rfl, by omega, fun q hq => by omega⟩
    · rintro j ⟨t, n, H2⟩ ⟨i, hl, h0, h3, h4, rfl, hij, hall⟩
      simp only at hl h0 h3 h4
      have hv := valN_le i hall
      have hp := pow_small (show i ≤ 9 by omega)
      by_cases hi : i < s.size
      · have hd : decide ((i : Int) < (s.size : Int)) = true := by simp [hi]
        have hw : IntKind.i64.wrap ((i : Int) + 1) = ((i + 1 : Nat) : Int) := by rw [wrap_i64] <;> omega
        have hw2 : IntKind.i64.wrap (valN s i * 10) = valN s i * 10 := wrap_i64 (by omega) (by omega)
        cases hdg : digit (byteAt s i) with
        | true =>
          have hdb := hdg
          simp only [digit, Bool.and_eq_true, decide_eq_true_eq] at hdb
          have hw3 : IntKind.u8.wrap (byteAt s i - 48) = byteAt s i - 48 := num_u8 (by omega)
          have hw4 : IntKind.i64.wrap (byteAt s i - 48) = byteAt s i - 48 := wrap_i64 (by omega) (by omega)
          have hw5 : IntKind.i64.wrap (valN s i * 10 + (byteAt s i - 48)) = valN s (i + 1) := wrap_i64 (by omega) (by omega)
          simp (config := {contextual := true, maxSteps := 5000000}) only [go_sem, false_and, Nat.reduceAdd, Nat.reduceLT, Nat.reduceBEq, Nat.reduceSub, Nat.reduceMul, Nat.reduceLeDiff, Int.reduceToNat, Nat.reduceEqDiff, Nat.reduceMod, h0, h3, h4, hl, hd, hw, hw2, hw3, hw4, hw5, hdg, specDi]
          exact ⟨⟨by omega, by omega⟩, ⟨by omega, by omega⟩, j - 1, by omega, i + 1, rfl, rfl, by omega, fun q hq => by
            by_cases e : q = i
            · rw [e]; exact hdg
            · exact hall q (by omega)⟩
        | false =>
          simp (config := {contextual := true, maxSteps := 5000000}) only [go_sem, false_and, Nat.reduceAdd, Nat.reduceLT, Nat.reduceBEq, Nat.reduceSub, Nat.reduceMul, Nat.reduceLeDiff, Int.reduceToNat, Nat.reduceEqDiff, Nat.reduceMod, h0, h3, h4, hl, hd, hdg, specDi]
          have : decAll s = false := by
            cases ha : decAll s with
            | false => rfl
            | true => rw [decAll_iff.1 ha i hi] at hdg; cases hdg
          exact ⟨⟨by omega, by omega⟩, by simp [decI, decR, this]⟩
      · have hd : decide ((i : Int) < (s.size : Int)) = false := by simp; omega
        have hii : i = s.size := by omega
        have : decAll s = true := decAll_iff.2 fun q hq => hall q (by omega)
        simp (config := {contextual := true, maxSteps := 5000000}) only [go_sem, false_and, Nat.reduceAdd, Nat.reduceLT, Nat.reduceBEq, Nat.reduceSub, Nat.reduceMul, Nat.reduceLeDiff, Int.reduceToNat, Nat.reduceEqDiff, Nat.reduceMod, h0, h3, h4, hl, hd, specDi]
        rw [hii]
        simp [decI, decR, hb0, this]
theorem colon_call (s : ByteArray) (hs : s.size ≤ 4000000000) : CallAt Tryz.prog w0 k 57 [.str s] H H (.int .i64 (if fstC s 58 < s.size then (fstC s 58 : Int) else -1)) := by
  refine callAt tabOk Spec.no_ok mixed Tryz.func57 rfl rfl Tryz.results57 Tryz.ntmps57 (by simp) [] ?_
  intro hfr t hl ht
  simp only [At, Nat.reduceAdd, List.cons_append, List.nil_append] at ht
  simp (config := {contextual := true, maxSteps := 5000000}) only [go_sem, false_and, Nat.reduceAdd, Nat.reduceLT, Nat.reduceBEq, Nat.reduceSub, Nat.reduceMul, Nat.reduceLeDiff, Int.reduceToNat, Nat.reduceEqDiff, Nat.reduceMod, ht, hl]
  refine loop_inv tabOk Spec.no_ok mixed [] (fun j x => ∃ i : Nat, x.tmps.length = 15 ∧ x.tmps.getD 0 AV.undef = .str s ∧ x.tmps.getD 3 AV.undef = .int .i64 i ∧ x.H = H ∧ i + j = s.size ∧ ∀ q : Nat, q < i → byteAt s q ≠ 58) s.size ⟨0, ?_⟩ ?_
  · simp (config := {contextual := true, maxSteps := 5000000}) only [go_sem, false_and, Nat.reduceAdd, Nat.reduceLT, Nat.reduceBEq, Nat.reduceSub, Nat.reduceMul, Nat.reduceLeDiff, Int.reduceToNat, Nat.reduceEqDiff, Nat.reduceMod, ht, hl]
    exact ⟨rfl, by omega, fun q hq => by omega⟩
  · rintro j ⟨t, n, H2⟩ ⟨i, hl, h0, h3, rfl, hij, hall⟩
    simp only at hl h0 h3
    by_cases hi : i < s.size
    · have hd : decide ((i : Int) < (s.size : Int)) = true := by simp [hi]
      have hw : IntKind.i64.wrap ((i : Int) + 1) = ((i + 1 : Nat) : Int) := by rw [wrap_i64] <;> omega
      simp (config := {contextual := true, maxSteps := 5000000}) only [go_sem, false_and, Nat.reduceAdd, Nat.reduceLT, Nat.reduceBEq, Nat.reduceSub, Nat.reduceMul, Nat.reduceLeDiff, Int.reduceToNat, Nat.reduceEqDiff, Nat.reduceMod, h0, h3, hl, hd, hw]
      refine ⟨⟨by omega, by omega⟩, fun a => ?_, fun a => ⟨j - 1, by omega, i + 1, rfl, by omega, fun q hq => ?_⟩⟩ <;> simp only [beq_iff_eq, beq_eq_false_iff_ne, ne_eq] at a
      · have hf : fstC s 58 = i := fstF_at (Nat.zero_le _) (by omega) a fun q _ hq => hall q hq
        rw [hf, if_pos hi]
      · by_cases e : q = i
        · rw [e]; exact a
        · exact hall q (by omega)
    · have hd : decide ((i : Int) < (s.size : Int)) = false := by simp; omega
      have hf : fstC s 58 = s.size := by
        have := fstF_no (s := s) (c := 58) (m := s.size) (i := 0) fun q _ hq => hall q (by omega)
        rw [fstC, this]
        omega
      simp (config := {contextual := true, maxSteps := 5000000}) only [go_sem, false_and, Nat.reduceAdd, Nat.reduceLT, Nat.reduceBEq, Nat.reduceSub, Nat.reduceMul, Nat.reduceLeDiff, Int.reduceToNat, Nat.reduceEqDiff, Nat.reduceMod, h0, h3, hl, hd]
      rw [hf, if_neg (by omega)]
end Go.Proofs.YtkdendaohlnlcaaGreatDoor.Av

/- The grammar of formulas over tokens, in plain words; what the reference's small functions answer. No condition. -/
namespace Go.Proofs.YtkdendaohlnlcaaGreatDoor.Av
set_option linter.unusedVariables false
set_option linter.unusedSimpArgs false
set_option maxRecDepth 4000
set_option maxHeartbeats 1000000
variable {w0 : Base} {k : List Nat} {H : Hp}
def cTk : DecC Tk where
  dec := fun a => match a with
    | [.raw (.int .i64 x), .raw (.int .i64 y), .raw (.int .i64 z)] => some ⟨x, y, z⟩
    | _ => none
  enc := Tk.cells
  sz := 3
  len := fun c x h => by
    split at h
    · rfl
    · cases h
  elen := fun x => rfl
  ok := fun c x h G V hr => by
    split at h
    · cases h
      exact hr
    · cases h
  self := fun x => rfl
inductive Got where
  | ok (x : E) (p : Nat)
  | no (p : Nat)
def Got.cells : Got → List AV
  | .ok x p => [.bool true, .int .i64 x.kind, .int .i64 x.id, .list .none (x.kids.map E.cells), .int .i64 p]
  | .no p => [.bool false, .int .i64 0, .int .i64 0, .list .nil [], .int .i64 p]
@[go_sem] theorem got_cells_ok {x : E} {p : Nat} : (Got.ok x p).cells = [.bool true, .int .i64 x.kind, .int .i64 x.id, .list .none (x.kids.map E.cells), .int .i64 p] := rfl
@[go_sem] theorem got_cells_no {p : Nat} : (Got.no p).cells = [.bool false, .int .i64 0, .int .i64 0, .list .nil [], .int .i64 p] := rfl
@[go_sem] theorem got_len {g : Got} : g.cells.length = 5 := by cases g <;> rfl
@[go_sem] theorem got_one {g : Got} : g.cells.all oneA = true := by cases g <;> rfl
@[go_sem] theorem got_take {g : Got} : List.take 5 g.cells = g.cells := by cases g <;> rfl
def sgn (l : List Tk) (p : Nat) (c : Int) : Bool := match l[p]? with
  | some t => t.kind == 4 && t.n == c
  | none => false
def kAt (l : List Tk) (p : Nat) : Int := match l[p]? with
  | some t => t.kind
  | none => 0
def nAt (l : List Tk) (p : Nat) : Int := match l[p]? with
  | some t => t.n
  | none => 0
def argL (l : List Tk) (T : Nat → Got) (kd id : Int) : Nat → List E → Nat → Got
  | 0, _, p => .no p
  | c + 1, ks, p => match T p with
    | .no q => .no q
    | .ok x q => if sgn l q 41 = true then .ok (.mk kd id (ks ++ [x])) (q + 1) else if c = 0 ∨ sgn l q 44 = false then .no q else argL l T kd id c (ks ++ [x]) (q + 1)
def argG (l : List Tk) (T : Nat → Got) (kd id : Int) (p : Nat) : Got := if sgn l p 40 = true then argL l T kd id 4 [] (p + 1) else .ok (.mk kd id []) p
def tmF (l : List Tk) : Nat → Nat → Got
  | 0, p => .no p
  | m + 1, p => if kAt l p = 1 then .ok (.mk 1 (nAt l p) []) (p + 1) else if kAt l p = 2 then argG l (tmF l m) 2 (nAt l p) (p + 1) else .no p
theorem tk_get (l : List Tk) {p : Nat} (h : p < l.length) : ∃ t, l[p]? = some t ∧ (l.map cTk.enc).getD p [] = t.cells := ⟨l[p], by simp [h], by simp [List.getD_eq_getElem?_getD, h, cTk]⟩
theorem sign_call (l : List Tk) (p : Nat) (c : Int) (hc : 0 ≤ c ∧ c < 256) : CallAt Tryz.prog w0 k 129 [.list .none (l.map cTk.enc), .int .i64 p, .int .u8 c] H H (.bool (sgn l p c)) := by
  refine callAt tabOk Spec.no_ok mixed Tryz.func129 rfl rfl Tryz.results129 Tryz.ntmps129 (by simp) [] ?_
  intro hfr t hl ht
  simp only [At, Nat.reduceAdd, List.cons_append, List.nil_append] at ht
  have hw : IntKind.i64.wrap c = c := wrap_i64 (by omega) (by omega)
  by_cases hp : p < l.length
  · obtain ⟨x, hx, he⟩ := tk_get l hp
    have hd : decide ((p : Int) < (l.length : Int)) = true := by simp [hp]
    simp (config := {contextual := true, maxSteps := 5000000}) only [go_sem, false_and, Nat.reduceAdd, Nat.reduceLT, Nat.reduceBEq, Nat.reduceSub, Nat.reduceMul, Nat.reduceLeDiff, Int.reduceToNat, Nat.reduceEqDiff, Nat.reduceMod, ht, hl, hd, he, Tk.cells, hw]
    have hs : sgn l p c = (x.kind == 4 && x.n == c) := by rw [sgn, hx]
    rw [hs]
    refine ⟨⟨by omega, by omega⟩, fun a => ⟨⟨by omega, by omega⟩, ?_⟩, fun a => ?_⟩
    · rw [a]; simp
    · rw [a]; simp
  · have hd : decide ((p : Int) < (l.length : Int)) = false := by simp; omega
    simp (config := {contextual := true, maxSteps := 5000000}) only [go_sem, false_and, Nat.reduceAdd, Nat.reduceLT, Nat.reduceBEq, Nat.reduceSub, Nat.reduceMul, Nat.reduceLeDiff, Int.reduceToNat, Nat.reduceEqDiff, Nat.reduceMod, ht, hl, hd, hw]
    rw [sgn, List.getElem?_eq_none (by omega)]
theorem kindAt_call (l : List Tk) (p : Nat) : CallAt Tryz.prog w0 k 132 [.list .none (l.map cTk.enc), .int .i64 p] H H (.int .i64 (kAt l p)) := by
  refine callAt tabOk Spec.no_ok mixed Tryz.func132 rfl rfl Tryz.results132 Tryz.ntmps132 (by simp) [] ?_
  intro hfr t hl ht
  simp only [At, Nat.reduceAdd, List.cons_append, List.nil_append] at ht
  by_cases hp : p < l.length
  · obtain ⟨x, hx, he⟩ := tk_get l hp
    have hd : decide ((p : Int) < (l.length : Int)) = true := by simp [hp]
    simp (config := {contextual := true, maxSteps := 5000000}) only [go_sem, false_and, Nat.reduceAdd, Nat.reduceLT, Nat.reduceBEq, Nat.reduceSub, Nat.reduceMul, Nat.reduceLeDiff, Int.reduceToNat, Nat.reduceEqDiff, Nat.reduceMod, ht, hl, hd, he, Tk.cells]
    rw [kAt, hx]
    exact ⟨⟨by omega, by omega⟩, rfl⟩
  · have hd : decide ((p : Int) < (l.length : Int)) = false := by simp; omega
    simp (config := {contextual := true, maxSteps := 5000000}) only [go_sem, false_and, Nat.reduceAdd, Nat.reduceLT, Nat.reduceBEq, Nat.reduceSub, Nat.reduceMul, Nat.reduceLeDiff, Int.reduceToNat, Nat.reduceEqDiff, Nat.reduceMod, ht, hl, hd]
    rw [kAt, List.getElem?_eq_none (by omega)]
theorem got_no {p : Nat} : Weak (.agg [.bool false, .int .i64 0, .int .i64 0, .list .nil [], .int .i64 p]) (.agg (Got.no p).cells) := Weak.refl _
theorem got_ok {kd id : Int} {ks : List E} {p : Nat} {tk : Tok} : Weak (.agg [.bool true, .int .i64 kd, .int .i64 id, .list tk (ks.map E.cells), .int .i64 p]) (.agg (Got.ok (.mk kd id ks) p).cells) := by
  refine WeakL.agg ⟨_, _, rfl, Weak.refl _, _, _, rfl, Weak.refl _, _, _, rfl, Weak.refl _, _, _, rfl, list_weak, _, _, rfl, Weak.refl _, rfl⟩
theorem no_call (p : Nat) : CallAt Tryz.prog w0 k 158 [.int .i64 p] H H (.agg (Got.no p).cells) := by
  refine callAt tabOk Spec.no_ok mixed Tryz.func158 rfl rfl Tryz.results158 Tryz.ntmps158 (by simp) [] ?_
  intro hfr t hl ht
  simp only [At, Nat.reduceAdd, List.cons_append, List.nil_append] at ht
  simp (config := {contextual := true, maxSteps := 5000000}) only [go_sem, false_and, Nat.reduceAdd, Nat.reduceLT, Nat.reduceBEq, Nat.reduceSub, Nat.reduceMul, Nat.reduceLeDiff, Int.reduceToNat, Nat.reduceEqDiff, Nat.reduceMod, ht, hl]
  exact Hp.le_upd (Hp.Le.refl _) (hfr _ (sfx2 _ _ _))
def specG : Spec := ((Spec.no.add 129 (sp3 (dL cTk) dI dC (fun _ p c => 0 ≤ p ∧ 0 ≤ c ∧ c < 256) fun l p c => .bool (sgn l p.toNat c))).add 132 (sp2 (dL cTk) dI (fun _ p => 0 ≤ p) fun l p => .int .i64 (kAt l p.toNat))).add
  158 (sp1 dI (fun p => 0 ≤ p) fun p => .agg (Got.no p.toNat).cells)
theorem specG_ok : SpecOk Tryz.prog w0 specG := ((Spec.no_ok.add (sp3_ok fun l p c h k H => by
    obtain ⟨m, rfl⟩ : ∃ m : Nat, p = m := ⟨p.toNat, by omega⟩
    exact sign_call l m c h.2)).add (sp2_ok fun l p h k H => by
    obtain ⟨m, rfl⟩ : ∃ m : Nat, p = m := ⟨p.toNat, by omega⟩
    exact kindAt_call l m)).add (sp1_ok fun p h k H => by
    obtain ⟨m, rfl⟩ : ∃ m : Nat, p = m := ⟨p.toNat, by omega⟩
    exact no_call m)
/-- What is known of term, at places with so few tokens behind them. -/
def specTm (m : Nat) : Spec := specG.add 160 (sp2 (dL cTk) dI (fun l p => l.length ≤ 8000 ∧ 0 ≤ p ∧ (l.length : Int) < p + m) fun l p => .agg (tmF l m p.toNat).cells)
end Go.Proofs.YtkdendaohlnlcaaGreatDoor.Av

/- What the reference's args and term answer. No condition. -/
namespace Go.Proofs.YtkdendaohlnlcaaGreatDoor.Av
set_option linter.unusedVariables false
set_option linter.unusedSimpArgs false
set_option maxRecDepth 4000
set_option maxHeartbeats 1000000
variable {w0 : Base} {k : List Nat} {H : Hp}
/-- The kids so far, in a variable of the call's own. -/
def KidsAt (H : Hp) (X : Id) (kd id : Int) (ks : List E) (Hx : Hp) : Prop := H.Le Hx ∧ ∃ tk, Hx X = some (.cells [.int .i64 kd, .int .i64 id, .list tk (ks.map E.cells)]) ∧ (tk = .nil ∨ ∃ i : Id, tk = .tok i ∧ Hx i = some .tok ∧ H i = none ∧ i ≠ X ∧ i.sz = 3 ∧ i.ty = 25)
def Got.pos : Got → Nat
  | .ok _ p => p
  | .no p => p
theorem sgn_lt {l : List Tk} {p : Nat} {c : Int} (h : sgn l p c = true) : p < l.length := by
  unfold sgn at h
  split at h
  · rename_i t ht
    exact (List.getElem?_eq_some_iff.1 ht).1
  · cases h
theorem kAt_lt {l : List Tk} {p : Nat} (h : kAt l p ≠ 0) : p < l.length := by
  unfold kAt at h
  split at h
  · rename_i t ht
    exact (List.getElem?_eq_some_iff.1 ht).1
  · exact absurd rfl h
theorem argL_le {l : List Tk} {T : Nat → Got} {kd id : Int} (hT : ∀ p, p ≤ l.length → p ≤ (T p).pos ∧ (T p).pos ≤ l.length) : ∀ c ks p, p ≤ l.length → p ≤ (argL l T kd id c ks p).pos ∧ (argL l T kd id c ks p).pos ≤ l.length
  | 0, ks, p, hp => ⟨Nat.le_refl _, hp⟩
  | c + 1, ks, p, hp => by
    have h1 := hT p hp
    unfold argL
    cases hg : T p with
    | no q => rw [hg] at h1; exact h1
    | ok x q =>
      rw [hg] at h1
      simp only [Got.pos] at h1
      simp only
      by_cases hs : sgn l q 41 = true
      · have := sgn_lt hs
        rw [if_pos hs]
        simp only [Got.pos]
        omega
      · rw [if_neg hs]
        by_cases hs2 : c = 0 ∨ sgn l q 44 = false
        · rw [if_pos hs2]
          exact h1
        · rw [if_neg hs2]
          simp only [not_or, Bool.not_eq_false] at hs2
          have := sgn_lt hs2.2
          have := argL_le (kd := kd) (id := id) hT c (ks ++ [x]) (q + 1) (by omega)
          omega
theorem argG_le {l : List Tk} {T : Nat → Got} {kd id : Int} (hT : ∀ p, p ≤ l.length → p ≤ (T p).pos ∧ (T p).pos ≤ l.length) {p : Nat} (hp : p ≤ l.length) : p ≤ (argG l T kd id p).pos ∧ (argG l T kd id p).pos ≤ l.length := by
  unfold argG
  split
  · rename_i hs
    have := sgn_lt hs
    have := argL_le (kd := kd) (id := id) hT 4 [] (p + 1) (by omega)
    omega
  · exact ⟨Nat.le_refl _, hp⟩
theorem tmF_le (l : List Tk) : ∀ m p, p ≤ l.length → p ≤ (tmF l m p).pos ∧ (tmF l m p).pos ≤ l.length
  | 0, p, hp => ⟨Nat.le_refl _, hp⟩
  | m + 1, p, hp => by
    unfold tmF
    split
    · rename_i h
      have := kAt_lt (l := l) (p := p) (by omega)
      simp only [Got.pos]
      omega
    · split
      · rename_i h
        have := kAt_lt (l := l) (p := p) (by omega)
        have := argG_le (kd := 2) (id := nAt l p) (tmF_le l m) (p := p + 1) (by omega)
        omega
      · exact ⟨Nat.le_refl _, hp⟩
theorem KidsAt.push {X A N : Id} {kd id : Int} {ks : List E} {H2 : Hp} {tk : Tok} {x : E} {e : Option Ent} (hle : H.Le H2) (htk : tk = .nil ∨ ∃ i : Id, tk = .tok i ∧ H2 i = some .tok ∧ H i = none ∧ i ≠ X ∧ i.sz = 3 ∧ i.ty = 25)
    (hX : H X = none) (hA : H A = none) (hN : H N = none) (hNX : N ≠ X) (hz : N.sz = 3) (hy : N.ty = 25) {c : List AV} (hc : c = [.int .i64 kd, .int .i64 id, .list (.tok N) ((ks ++ [x]).map E.cells)]) :
    KidsAt H X kd id (ks ++ [x]) (((killTok (H2.upd A e) tk).upd N (some .tok)).upd X (some (.cells c))) := by
  subst hc
  refine ⟨fun j y hj => ?_, _, Hp.upd_same _ _ _, .inr ⟨N, rfl, by rw [Hp.upd_ne _ _ hNX, Hp.upd_same], hN, hNX, hz, hy⟩⟩
  have h1 : j ≠ X := fun h => by rw [h, hX] at hj; cases hj
  have h2 : j ≠ N := fun h => by rw [h, hN] at hj; cases hj
  have h3 : j ≠ A := fun h => by rw [h, hA] at hj; cases hj
  rw [Hp.upd_ne _ _ h1, Hp.upd_ne _ _ h2]
  have h4 : (H2.upd A e) j = some y := by rw [Hp.upd_ne _ _ h3]; exact hle j y hj
  rcases htk with rfl | ⟨i, rfl, _, hi, _⟩
  · exact h4
  · have h5 : j ≠ i := fun h => by rw [h, hi] at hj; cases hj
    show ((H2.upd A e).upd i none) j = some y
    rw [Hp.upd_ne _ _ h5]
    exact h4
theorem args_fin {l : List Tk} {kd id : Int} {ks : List E} {x : E} {r i c : Nat} {tk : Tok} {T : Nat → Got} {g : Got} (hic : i + c = 3)
    (hgo : (if sgn l r 41 = true then Got.ok (.mk kd id (ks ++ [x])) (r + 1) else if c = 0 ∨ sgn l r 44 = false then .no r else argL l T kd id c (ks ++ [x]) (r + 1)) = g) :
    (sgn l r 41 = true → Weak (.agg [.bool true, .int .i64 kd, .int .i64 id, .list tk ((ks ++ [x]).map E.cells), .int .i64 (r + 1 : Nat)]) (.agg g.cells)) ∧
    (sgn l r 41 = false → (((i : Int) == 3) = true ∨ sgn l r 44 = false) → Weak (.agg [.bool false, .int .i64 0, .int .i64 0, .list .nil [], .int .i64 r]) (.agg g.cells)) ∧
    (sgn l r 41 = false → ((i : Int) == 3) = false → sgn l r 44 = true → argL l T kd id c (ks ++ [x]) (r + 1) = g) := by
  refine ⟨fun a => ?_, fun a b => ?_, fun a b d => ?_⟩
  · rw [if_pos a] at hgo
    rw [← hgo]
    exact got_ok
  · rw [if_neg (by simp [a]), if_pos (by
      rcases b with b | b
      · left
        have := beq_iff_eq.1 b
        omega
      · exact .inr b)] at hgo
    rw [← hgo]
    exact got_no
  · have := beq_eq_false_iff_ne.1 b
    rw [if_neg (by simp [a]), if_neg (by simp [d]; omega)] at hgo
    exact hgo
theorem args_step (m : Nat) (hS : SpecOk Tryz.prog w0 (specTm m)) (l : List Tk) (hl8 : l.length ≤ 8000) (p : Nat) (hp : l.length < p + m) (hp2 : p ≤ l.length) (kd id : Int) : CallAt Tryz.prog w0 k 133 [.list .none (l.map cTk.enc), .int .i64 p, .agg [.int .i64 kd, .int .i64 id, .list .nil []]] H H (.agg (argG l (tmF l m) kd id p).cells) := by
  refine callAt tabOk hS mixed Tryz.func133 rfl rfl Tryz.results133 Tryz.ntmps133 (by simp) [5] ?_
  intro hfr t hl ht
  simp only [At, Nat.reduceAdd, List.cons_append, List.nil_append] at ht
  have hw : IntKind.i64.wrap ((p : Int) + 1) = ((p + 1 : Nat) : Int) := by rw [wrap_i64] <;> omega
  simp (config := {contextual := true, maxSteps := 5000000}) only [go_sem, false_and, Nat.reduceAdd, Nat.reduceLT, Nat.reduceBEq, Nat.reduceSub, Nat.reduceMul, Nat.reduceLeDiff, Int.reduceToNat, Nat.reduceEqDiff, Nat.reduceMod, ht, hl, hw, specTm, specG]
  refine ⟨⟨by omega, by omega, by omega⟩, fun a => ?_, fun a => ?_⟩
  · simp only [Bool.not_eq_true'] at a
    rw [argG, if_neg (by simp [a])]
    exact ⟨got_ok (ks := []), Hp.le_upd (Hp.le_upd (Hp.Le.refl _) (hfr _ (sfx2 _ _ _))) (hfr _ (sfx2 _ _ _))⟩
  · simp only [Bool.not_eq_false'] at a
    have hpl := sgn_lt a
    have hG : argG l (tmF l m) kd id p = argL l (tmF l m) kd id 4 [] (p + 1) := by rw [argG, if_pos a]
    refine loop_inv tabOk hS mixed [5] (fun c x => ∃ (i q : Nat) (ks : List E), x.tmps.length = 59 ∧ x.tmps.getD 0 AV.undef = .list .none (l.map cTk.enc) ∧ x.tmps.getD 1 AV.undef = .int .i64 q ∧ x.tmps.getD 5 AV.undef = .ptr ⟨3, 0 :: 0 :: k, 25⟩ 0 ∧ x.tmps.getD 6 AV.undef = .ptr ⟨5, 1 :: 0 :: k, 107⟩ 0 ∧ x.tmps.getD 7 AV.undef = .int .i64 i ∧
      i + c = 4 ∧ q ≤ l.length ∧ p + 1 ≤ q ∧ ks.length = i ∧ 4 ≤ x.n ∧ KidsAt H ⟨3, 0 :: 0 :: k, 25⟩ kd id ks x.H ∧ argL l (tmF l m) kd id c ks q = argG l (tmF l m) kd id p) 4 ⟨0, p + 1, [], ?_⟩ ?_
    · simp (config := {contextual := true, maxSteps := 5000000}) only [go_sem, false_and, Nat.reduceAdd, Nat.reduceLT, Nat.reduceBEq, Nat.reduceSub, Nat.reduceMul, Nat.reduceLeDiff, Int.reduceToNat, Nat.reduceEqDiff, Nat.reduceMod, ht, hl, hw]
      exact ⟨rfl, hpl, Nat.le_refl _, ⟨Hp.le_upd (Hp.le_upd (Hp.Le.refl _) (hfr _ (sfx2 _ _ _))) (hfr _ (sfx2 _ _ _)), .nil, by simp [Hp.upd], .inl rfl⟩, hG.symm⟩
    · rintro c ⟨t, n, H2⟩ ⟨i, q, ks, hl, h0, h1, h5, h6, h7, hic, hq, hpq, hks, hn, hK, hgo⟩
      simp only at hl h0 h1 h5 h6 h7 hK hn
      have hw : IntKind.i64.wrap ((i : Int) + 1) = ((i + 1 : Nat) : Int) := by rw [wrap_i64] <;> omega
      have fN : ∀ (a b : Nat) z ty, H ⟨z, a :: b :: k, ty⟩ = none := fun a b z ty => hfr _ (sfx2 _ _ _)
      cases c with
      | zero =>
        have hd : decide ((i : Int) < 4) = false := by simp; omega
        simp (config := {contextual := true, maxSteps := 5000000}) only [go_sem, false_and, Nat.reduceAdd, Nat.reduceLT, Nat.reduceBEq, Nat.reduceSub, Nat.reduceMul, Nat.reduceLeDiff, Int.reduceToNat, Nat.reduceEqDiff, Nat.reduceMod, h0, h1, h5, h6, h7, hl, hd, specTm, specG]
        rw [← hgo]
        exact ⟨by omega, got_no, Hp.le_upd hK.1 (fN _ _ _ _)⟩
      | succ c =>
        have hd : decide ((i : Int) < 4) = true := by simp; omega
        have hb := tmF_le l m q hq
        obtain ⟨hle, tk, hX, htk⟩ := hK
        rw [argL] at hgo
        cases hT : tmF l m q with
        | no r =>
          rw [hT] at hgo hb
          simp only at hgo
          simp (config := {contextual := true, maxSteps := 5000000}) only [go_sem, false_and, Nat.reduceAdd, Nat.reduceLT, Nat.reduceBEq, Nat.reduceSub, Nat.reduceMul, Nat.reduceLeDiff, Int.reduceToNat, Nat.reduceEqDiff, Nat.reduceMod, h0, h1, h5, h6, h7, hl, hd, specTm, specG, hT]
          rw [← hgo]
          exact ⟨⟨hl8, by omega, by omega⟩, got_no, Hp.le_upd (Hp.le_upd hle (fN _ _ _ _)) (fN _ _ _ _)⟩
        | ok x r =>
          rw [hT] at hgo hb
          simp only [Got.pos] at hgo hb
          have hwr : IntKind.i64.wrap ((r : Int) + 1) = ((r + 1 : Nat) : Int) := by rw [wrap_i64] <;> omega
          have hmap : (ks ++ [x]).map E.cells = ks.map E.cells ++ [[.int .i64 x.kind, .int .i64 x.id, .list .none (x.kids.map E.cells)]] := by simp [E.cells_eq]
          have hpush := fun e => KidsAt.push (x := x) (A := ⟨5, 3 :: (n + 1) :: k, 107⟩) (N := ⟨3, 5 :: (n + 1 + 1 + 1) :: k, 25⟩) (kd := kd) (id := id) (ks := ks) (e := e) hle htk (fN 0 0 _ _) (fN _ _ _ _) (fN _ _ _ _) (by simp) rfl rfl rfl
          rcases htk with rfl | ⟨i0, rfl, hi1, hi2, hi3, hi4, hi5⟩
          · simp (config := {contextual := true, maxSteps := 5000000}) only [go_sem, false_and, Nat.reduceAdd, Nat.reduceLT, Nat.reduceBEq, Nat.reduceSub, Nat.reduceMul, Nat.reduceLeDiff, Int.reduceToNat, Nat.reduceEqDiff, Nat.reduceMod, h0, h1, h5, h6, h7, hl, hd, hw, hwr, hX, specTm, specG, hT, strip, tokBy]
            rw [← hmap]
            simp only [killTok_nil] at hpush
            have hfin := fun tk => args_fin (tk := tk) (i := i) (c := c) (by omega) hgo
            refine ⟨⟨hl8, by omega, by omega⟩, fun y h => by rcases h with rfl | h; rfl; exact h.elim, fun y h => by obtain ⟨z, _, rfl⟩ := List.mem_map.1 h; exact E.cells_length z, rfl, by omega, by omega, trivial, ⟨by omega, by omega, by omega⟩, fun a => ⟨(hfin _).1 a, Hp.le_upd (hpush _).1 (fN _ _ _ _)⟩, fun a => ⟨fun b => ⟨⟨by omega, by omega, by omega⟩, fun d => ⟨by omega, (hfin .nil).2.1 a (.inr (by simpa using d)), Hp.le_upd (hpush _).1 (fN _ _ _ _)⟩, fun d => ⟨c, rfl, i + 1, r + 1, ks ++ [x], rfl, rfl, by omega, ?_, by omega, by simp [hks], hpush _, (hfin .nil).2.2 a b (by simpa using d)⟩⟩, fun b => ⟨by omega, (hfin .nil).2.1 a (.inl b), Hp.le_upd (hpush _).1 (fN _ _ _ _)⟩⟩⟩
            have := sgn_lt (l := l) (p := r) (c := 44) (by simpa using d)
            omega
          · have g1 : ∀ key ty, (i0 = ⟨5, key, ty⟩) = False := fun key ty => by simp; intro h; rw [h] at hi4; cases hi4
            have g3 : ∀ key ty, ((⟨5, key, ty⟩ : Id) = i0) = False := fun key ty => by simp; intro h; rw [← h] at hi4; cases hi4
            have g2 : ((⟨3, 0 :: 0 :: k, 25⟩ : Id) = i0) = False := by simp; exact fun h => hi3 h.symm
            simp (config := {contextual := true, maxSteps := 5000000}) only [go_sem, false_and, Nat.reduceAdd, Nat.reduceLT, Nat.reduceBEq, Nat.reduceSub, Nat.reduceMul, Nat.reduceLeDiff, Int.reduceToNat, Nat.reduceEqDiff, Nat.reduceMod, h0, h1, h5, h6, h7, hl, hd, hw, hwr, hX, specTm, specG, hT, strip, tokBy, g1, g2, g3, hi1]
            rw [← hmap]
            simp only [killTok_tok'] at hpush
            have hfin := fun tk => args_fin (tk := tk) (i := i) (c := c) (by omega) hgo
            refine ⟨⟨hl8, by omega, by omega⟩, fun y h => by rcases h with rfl | h; rfl; exact h.elim, fun y h => by obtain ⟨z, _, rfl⟩ := List.mem_map.1 h; exact E.cells_length z, rfl, by omega, by omega, ⟨by rw [Hp.upd_ne _ _ (by intro h; rw [h] at hi4; cases hi4)]; exact hi1, hi4, hi5⟩, ⟨by omega, by omega, by omega⟩, fun a => ⟨(hfin _).1 a, Hp.le_upd (hpush _).1 (fN _ _ _ _)⟩, fun a => ⟨fun b => ⟨⟨by omega, by omega, by omega⟩, fun d => ⟨by omega, (hfin .nil).2.1 a (.inr (by simpa using d)), Hp.le_upd (hpush _).1 (fN _ _ _ _)⟩, fun d => ⟨c, rfl, i + 1, r + 1, ks ++ [x], rfl, rfl, by omega, ?_, by omega, by simp [hks], hpush _, (hfin .nil).2.2 a b (by simpa using d)⟩⟩, fun b => ⟨by omega, (hfin .nil).2.1 a (.inl b), Hp.le_upd (hpush _).1 (fN _ _ _ _)⟩⟩⟩
            have := sgn_lt (l := l) (p := r) (c := 44) (by simpa using d)
            omega
end Go.Proofs.YtkdendaohlnlcaaGreatDoor.Av

/- What the reference's term and formula answer. No condition. -/
namespace Go.Proofs.YtkdendaohlnlcaaGreatDoor.Av
set_option linter.unusedVariables false
set_option linter.unusedSimpArgs false
set_option maxRecDepth 4000
set_option maxHeartbeats 1000000
variable {w0 : Base} {k : List Nat} {H : Hp}
def specAr (m : Nat) : Spec := (specTm m).add 133 (sp3 (dL cTk) dI (dA cE) (fun l p e => l.length ≤ 8000 ∧ 0 ≤ p ∧ (l.length : Int) < p + m ∧ p ≤ l.length ∧ e.kids = []) fun l p e => .agg (argG l (tmF l m) e.kind e.id p.toNat).cells)
theorem term_step (m : Nat) (hS : SpecOk Tryz.prog w0 (specTm m)) (l : List Tk) (hl8 : l.length ≤ 8000) (p : Nat) (hp : l.length < p + (m + 1)) : CallAt Tryz.prog w0 k 160 [.list .none (l.map cTk.enc), .int .i64 p] H H (.agg (tmF l (m + 1) p).cells) := by
  refine callAt tabOk hS mixed Tryz.func160 rfl rfl Tryz.results160 Tryz.ntmps160 (by simp) [] ?_
  intro hfr t hl ht
  simp only [At, Nat.reduceAdd, List.cons_append, List.nil_append] at ht
  rw [tmF]
  by_cases h1 : kAt l p = 1
  · obtain ⟨x, hx, he⟩ := tk_get l (kAt_lt (l := l) (p := p) (by omega))
    have hn : nAt l p = x.n := by rw [nAt, hx]
    have hlt := kAt_lt (l := l) (p := p) (by omega)
    have hw : IntKind.i64.wrap ((p : Int) + 1) = ((p + 1 : Nat) : Int) := by rw [wrap_i64] <;> omega
    simp (config := {contextual := true, maxSteps := 5000000}) only [go_sem, false_and, Nat.reduceAdd, Nat.reduceLT, Nat.reduceBEq, Nat.reduceSub, Nat.reduceMul, Nat.reduceLeDiff, Int.reduceToNat, Nat.reduceEqDiff, Nat.reduceMod, ht, hl, h1, hw, he, Tk.cells, specTm, specG, Int.reduceBEq]
    rw [hn]
    exact ⟨by omega, ⟨by omega, by omega⟩, got_ok (ks := []), Hp.le_upd (Hp.Le.refl _) (hfr _ (sfx2 _ _ _))⟩
  · by_cases h2 : kAt l p = 2
    · obtain ⟨x, hx, he⟩ := tk_get l (kAt_lt (l := l) (p := p) (by omega))
      have hn : nAt l p = x.n := by rw [nAt, hx]
      have hlt := kAt_lt (l := l) (p := p) (by omega)
      have hw : IntKind.i64.wrap ((p : Int) + 1) = ((p + 1 : Nat) : Int) := by rw [wrap_i64] <;> omega
      simp (config := {contextual := true, maxSteps := 5000000}) only [go_sem, false_and, Nat.reduceAdd, Nat.reduceLT, Nat.reduceBEq, Nat.reduceSub, Nat.reduceMul, Nat.reduceLeDiff, Int.reduceToNat, Nat.reduceEqDiff, Nat.reduceMod, ht, hl, h2, hw, he, Tk.cells, specTm, specG, Int.reduceBEq]
      rw [hn]
      refine ⟨by omega, by omega, ⟨by omega, by omega⟩, callK_intro (args_step m hS l hl8 (p + 1) (by omega) (by omega) 2 x.n) ?_⟩
      simp (config := {contextual := true, maxSteps := 5000000}) only [go_sem, false_and, Nat.reduceAdd, Nat.reduceLT, Nat.reduceBEq, Nat.reduceSub, Nat.reduceMul, Nat.reduceLeDiff, Int.reduceToNat, Nat.reduceEqDiff, Nat.reduceMod, ht, hl]
      exact ⟨Weak.refl _, Hp.le_upd (Hp.Le.refl _) (hfr _ (sfx2 _ _ _))⟩
    · have e1 : (kAt l p == 1) = false := by simpa using h1
      have e2 : (kAt l p == 2) = false := by simpa using h2
      simp (config := {contextual := true, maxSteps := 5000000}) only [go_sem, false_and, Nat.reduceAdd, Nat.reduceLT, Nat.reduceBEq, Nat.reduceSub, Nat.reduceMul, Nat.reduceLeDiff, Int.reduceToNat, Nat.reduceEqDiff, Nat.reduceMod, ht, hl, e1, e2, specTm, specG]
      rw [if_neg h1, if_neg h2]
      exact ⟨by omega, by omega, by omega, got_no, Hp.le_upd (Hp.Le.refl _) (hfr _ (sfx2 _ _ _))⟩
theorem term_step0 (l : List Tk) (p : Nat) (hp : l.length < p) : CallAt Tryz.prog w0 k 160 [.list .none (l.map cTk.enc), .int .i64 p] H H (.agg (tmF l 0 p).cells) := by
  refine callAt tabOk specG_ok mixed Tryz.func160 rfl rfl Tryz.results160 Tryz.ntmps160 (by simp) [] ?_
  intro hfr t hl ht
  simp only [At, Nat.reduceAdd, List.cons_append, List.nil_append] at ht
  have h0 : kAt l p = 0 := by rw [kAt, List.getElem?_eq_none (by omega)]
  simp (config := {contextual := true, maxSteps := 5000000}) only [go_sem, false_and, Nat.reduceAdd, Nat.reduceLT, Nat.reduceBEq, Nat.reduceSub, Nat.reduceMul, Nat.reduceLeDiff, Int.reduceToNat, Nat.reduceEqDiff, Nat.reduceMod, ht, hl, h0, specG, Int.reduceBEq]
  exact ⟨by omega, by omega, by omega, got_no, Hp.le_upd (Hp.Le.refl _) (hfr _ (sfx2 _ _ _))⟩
theorem specTm_ok : ∀ m, SpecOk Tryz.prog w0 (specTm m)
  | 0 => specG_ok.add (sp2_ok fun l p h k H => by
    obtain ⟨q, rfl⟩ : ∃ q : Nat, p = q := ⟨p.toNat, by omega⟩
    obtain ⟨h1, h2, h3⟩ := h
    exact term_step0 l q (by omega))
  | m + 1 => specG_ok.add (sp2_ok fun l p h k H => by
    obtain ⟨q, rfl⟩ : ∃ q : Nat, p = q := ⟨p.toNat, by omega⟩
    obtain ⟨h1, h2, h3⟩ := h
    exact term_step m (specTm_ok m) l h1 q (by omega))
end Go.Proofs.YtkdendaohlnlcaaGreatDoor.Av

/- What the reference's formula answers. No condition. -/
namespace Go.Proofs.YtkdendaohlnlcaaGreatDoor.Av
set_option linter.unusedVariables false
set_option linter.unusedSimpArgs false
set_option maxRecDepth 4000
set_option maxHeartbeats 1000000
variable {w0 : Base} {k : List Nat} {H : Hp}
def fQ (l : List Tk) (F : Nat → Got) (kd : Int) (p : Nat) : Got := if kAt l p = 1 then (match F (p + 1) with
  | .no q => .no q
  | .ok x q => .ok (.mk kd (nAt l p) [x]) q) else .no p
def jnt (l : List Tk) (p : Nat) : Int := if sgn l p 62 = true then 6 else if sgn l p 38 = true then 8 else if sgn l p 124 = true then 9 else 0
def fP (l : List Tk) (F : Nat → Got) (p : Nat) : Got := match F p with
  | .no q => .no q
  | .ok a q => if jnt l q = 0 then .no q else match F (q + 1) with
    | .no r => .no r
    | .ok b r => if sgn l r 41 = true then .ok (.mk (jnt l q) 0 [a, b]) (r + 1) else .no r
def fE (l : List Tk) (T : Nat → Got) (p : Nat) : Got := match T p with
  | .no q => .no q
  | .ok a q => if sgn l q 61 = true then (match T (q + 1) with
    | .no r => .no r
    | .ok b r => .ok (.mk 4 0 [a, b]) r) else .no q
def tmL (l : List Tk) : Nat → Got := tmF l (l.length + 1)
def fmF (l : List Tk) : Nat → Nat → Got
  | 0, p => .no p
  | m + 1, p => if sgn l p 33 = true then (match fmF l m (p + 1) with
      | .no q => .no q
      | .ok x q => .ok (.mk 5 0 [x]) q)
    else if sgn l p 64 = true then fQ l (fmF l m) 7 (p + 1) else if sgn l p 63 = true then fQ l (fmF l m) 10 (p + 1) else if sgn l p 40 = true then fP l (fmF l m) (p + 1)
    else if kAt l p = 3 then argG l (tmL l) 3 (nAt l p) (p + 1) else fE l (tmL l) p
theorem fQ_le {l : List Tk} {F : Nat → Got} {kd : Int} (hF : ∀ p, p ≤ l.length → p ≤ (F p).pos ∧ (F p).pos ≤ l.length) {p : Nat} (hp : p ≤ l.length) : p ≤ (fQ l F kd p).pos ∧ (fQ l F kd p).pos ≤ l.length := by
  unfold fQ
  split
  · rename_i h
    have h1 := kAt_lt (l := l) (p := p) (by omega)
    have h2 := hF (p + 1) (by omega)
    cases hg : F (p + 1) <;> rw [hg] at h2 <;> simp only [Got.pos] at h2 ⊢ <;> omega
  · exact ⟨Nat.le_refl _, hp⟩
theorem jnt_lt {l : List Tk} {p : Nat} (h : jnt l p ≠ 0) : p < l.length := by
  unfold jnt at h
  (repeat' split at h) <;> first | exact sgn_lt (by assumption) | exact absurd rfl h
theorem fP_le {l : List Tk} {F : Nat → Got} (hF : ∀ p, p ≤ l.length → p ≤ (F p).pos ∧ (F p).pos ≤ l.length) {p : Nat} (hp : p ≤ l.length) : p ≤ (fP l F p).pos ∧ (fP l F p).pos ≤ l.length := by
  have h1 := hF p hp
  unfold fP
  cases hg : F p with
  | no q => rw [hg] at h1; exact h1
  | ok a q =>
    rw [hg] at h1
    simp only [Got.pos] at h1
    simp only
    by_cases hj : jnt l q = 0
    · rw [if_pos hj]
      exact h1
    · have h2 := jnt_lt hj
      have h3 := hF (q + 1) (by omega)
      rw [if_neg hj]
      cases hg2 : F (q + 1) with
      | no r => rw [hg2] at h3; simp only [Got.pos] at h3 ⊢; omega
      | ok b r =>
        rw [hg2] at h3
        simp only [Got.pos] at h3
        simp only
        by_cases hs : sgn l r 41 = true
        · have := sgn_lt hs
          rw [if_pos hs]
          simp only [Got.pos]
          omega
        · rw [if_neg hs]
          simp only [Got.pos]
          omega
theorem fE_le {l : List Tk} {T : Nat → Got} (hF : ∀ p, p ≤ l.length → p ≤ (T p).pos ∧ (T p).pos ≤ l.length) {p : Nat} (hp : p ≤ l.length) : p ≤ (fE l T p).pos ∧ (fE l T p).pos ≤ l.length := by
  have h1 := hF p hp
  unfold fE
  cases hg : T p with
  | no q => rw [hg] at h1; exact h1
  | ok a q =>
    rw [hg] at h1
    simp only [Got.pos] at h1
    simp only
    by_cases hs : sgn l q 61 = true
    · have h2 := sgn_lt hs
      have h3 := hF (q + 1) (by omega)
      rw [if_pos hs]
      cases hg2 : T (q + 1) <;> rw [hg2] at h3 <;> simp only [Got.pos] at h3 ⊢ <;> omega
    · rw [if_neg hs]
      exact h1
theorem tmL_le (l : List Tk) : ∀ p, p ≤ l.length → p ≤ (tmL l p).pos ∧ (tmL l p).pos ≤ l.length := tmF_le l _
theorem fmF_le (l : List Tk) : ∀ m p, p ≤ l.length → p ≤ (fmF l m p).pos ∧ (fmF l m p).pos ≤ l.length
  | 0, p, hp => ⟨Nat.le_refl _, hp⟩
  | m + 1, p, hp => by
    have ih := fmF_le l m
    have step : ∀ {g : Got}, p < l.length → p + 1 ≤ g.pos ∧ g.pos ≤ l.length → p ≤ g.pos ∧ g.pos ≤ l.length := fun _ h => ⟨by omega, h.2⟩
    unfold fmF
    split
    · rename_i h
      have h1 := sgn_lt h
      have h2 := ih (p + 1) (by omega)
      cases hg : fmF l m (p + 1) <;> rw [hg] at h2 <;> simp only [Got.pos] at h2 ⊢ <;> omega
    · split
      · rename_i h
        have h1 := sgn_lt h
        exact step h1 (fQ_le ih (by omega))
      · split
        · rename_i h
          have h1 := sgn_lt h
          exact step h1 (fQ_le ih (by omega))
        · split
          · rename_i h
            have h1 := sgn_lt h
            exact step h1 (fP_le ih (by omega))
          · split
            · rename_i h
              have h1 := kAt_lt (l := l) (p := p) (by omega)
              exact step h1 (argG_le (tmL_le l) (by omega))
            · exact fE_le (tmL_le l) hp
/-! what the calls answer -/
theorem joint_call (l : List Tk) (p : Nat) : CallAt Tryz.prog w0 k 159 [.list .none (l.map cTk.enc), .int .i64 p] H H (.int .i64 (jnt l p)) := by
  refine callAt tabOk specG_ok mixed Tryz.func159 rfl rfl Tryz.results159 Tryz.ntmps159 (by simp) [] ?_
  intro hfr t hl ht
  simp only [At, Nat.reduceAdd, List.cons_append, List.nil_append] at ht
  simp (config := {contextual := true, maxSteps := 5000000}) only [go_sem, false_and, Nat.reduceAdd, Nat.reduceLT, Nat.reduceBEq, Nat.reduceSub, Nat.reduceMul, Nat.reduceLeDiff, Int.reduceToNat, Nat.reduceEqDiff, Nat.reduceMod, ht, hl, specG]
  unfold jnt
  refine ⟨⟨by omega, by omega, by omega⟩, fun a => ?_, fun a => ⟨⟨by omega, by omega, by omega⟩, fun b => ?_, fun b => ⟨⟨by omega, by omega, by omega⟩, fun c => ?_, fun c => ?_⟩⟩⟩ <;> simp_all
def specJ : Spec := (specG.add 159 (sp2 (dL cTk) dI (fun _ p => 0 ≤ p) fun l p => .int .i64 (jnt l p.toNat))).add 160 (sp2 (dL cTk) dI (fun l p => l.length ≤ 8000 ∧ 0 ≤ p) fun l p => .agg (tmL l p.toNat).cells)
theorem specJ_ok : SpecOk Tryz.prog w0 specJ := (specG_ok.add (sp2_ok fun l p h k H => by
    obtain ⟨q, rfl⟩ : ∃ q : Nat, p = q := ⟨p.toNat, by omega⟩
    exact joint_call l q)).add (sp2_ok fun l p h k H => by
    obtain ⟨q, rfl⟩ : ∃ q : Nat, p = q := ⟨p.toNat, by omega⟩
    exact term_step l.length (specTm_ok _) l h.1 q (by omega))
def specFm (m : Nat) : Spec := specJ.add 86 (sp2 (dL cTk) dI (fun l p => l.length ≤ 8000 ∧ 0 ≤ p ∧ (l.length : Int) < p + m ∧ p ≤ l.length) fun l p => .agg (fmF l m p.toNat).cells)
theorem got_ok1 {kd id : Int} {a : E} {p : Nat} {tk : Tok} : Weak (.agg [.bool true, .int .i64 kd, .int .i64 id, .list tk [[.int .i64 a.kind, .int .i64 a.id, .list .none (a.kids.map E.cells)]], .int .i64 p]) (.agg (Got.ok (.mk kd id [a]) p).cells) := by
  have := got_ok (kd := kd) (id := id) (ks := [a]) (p := p) (tk := tk)
  simpa only [List.map_cons, List.map_nil, E.cells_eq] using this
theorem got_ok2 {kd id : Int} {a b : E} {p : Nat} {tk : Tok} : Weak (.agg [.bool true, .int .i64 kd, .int .i64 id, .list tk [[.int .i64 a.kind, .int .i64 a.id, .list .none (a.kids.map E.cells)], [.int .i64 b.kind, .int .i64 b.id, .list .none (b.kids.map E.cells)]], .int .i64 p]) (.agg (Got.ok (.mk kd id [a, b]) p).cells) := by
  have := got_ok (kd := kd) (id := id) (ks := [a, b]) (p := p) (tk := tk)
  simpa only [List.map_cons, List.map_nil, E.cells_eq] using this
theorem equality_call (l : List Tk) (hl8 : l.length ≤ 8000) (p : Nat) (hp : p ≤ l.length) : CallAt Tryz.prog w0 k 134 [.list .none (l.map cTk.enc), .int .i64 p] H H (.agg (fE l (tmL l) p).cells) := by
  refine callAt tabOk specJ_ok mixed Tryz.func134 rfl rfl Tryz.results134 Tryz.ntmps134 (by simp) [] ?_
  intro hfr t hl ht
  simp only [At, Nat.reduceAdd, List.cons_append, List.nil_append] at ht
  have hb := tmL_le l p hp
  have fN : ∀ (a b : Nat) z ty, H ⟨z, a :: b :: k, ty⟩ = none := fun a b z ty => hfr _ (sfx2 _ _ _)
  unfold fE
  cases hT : tmL l p with
  | no q =>
    simp (config := {contextual := true, maxSteps := 5000000}) only [go_sem, false_and, Nat.reduceAdd, Nat.reduceLT, Nat.reduceBEq, Nat.reduceSub, Nat.reduceMul, Nat.reduceLeDiff, Int.reduceToNat, Nat.reduceEqDiff, Nat.reduceMod, ht, hl, hT, specJ, specG]
    ((repeat' apply And.intro) <;> first | omega | with_reducible assumption | exact got_ok1 | exact got_ok2 | exact got_no | exact Weak.refl _ | exact List.Pairwise.nil | (refine pw_of ?_; (repeat' (first | exact trivial | apply And.intro)); all_goals (first | exact .inr rfl | exact .inr trivial | exact .inl (by kernel_rfl))) | ((with_reducible (show drawOk _ = true)); kernel_rfl) | (repeat (first | exact Hp.Le.refl _ | refine Hp.le_upd ?_ (fN _ _ _ _))))
  | ok a q =>
    rw [hT] at hb
    simp only [Got.pos] at hb
    have hw : IntKind.i64.wrap ((q : Int) + 1) = ((q + 1 : Nat) : Int) := by rw [wrap_i64] <;> omega
    by_cases hs : sgn l q 61 = true
    · cases hT2 : tmL l (q + 1) with
      | no r =>
        simp (config := {contextual := true, maxSteps := 5000000}) only [go_sem, false_and, Nat.reduceAdd, Nat.reduceLT, Nat.reduceBEq, Nat.reduceSub, Nat.reduceMul, Nat.reduceLeDiff, Int.reduceToNat, Nat.reduceEqDiff, Nat.reduceMod, ht, hl, hT, hT2, hs, hw, specJ, specG]
        ((repeat' apply And.intro) <;> first | omega | with_reducible assumption | exact got_ok1 | exact got_ok2 | exact got_no | exact Weak.refl _ | exact List.Pairwise.nil | (refine pw_of ?_; (repeat' (first | exact trivial | apply And.intro)); all_goals (first | exact .inr rfl | exact .inr trivial | exact .inl (by kernel_rfl))) | ((with_reducible (show drawOk _ = true)); kernel_rfl) | (repeat (first | exact Hp.Le.refl _ | refine Hp.le_upd ?_ (fN _ _ _ _))))
      | ok b r =>
        simp (config := {contextual := true, maxSteps := 5000000}) only [go_sem, false_and, Nat.reduceAdd, Nat.reduceLT, Nat.reduceBEq, Nat.reduceSub, Nat.reduceMul, Nat.reduceLeDiff, Int.reduceToNat, Nat.reduceEqDiff, Nat.reduceMod, ht, hl, hT, hT2, hs, hw, specJ, specG, strip]
        ((repeat' apply And.intro) <;> first | omega | with_reducible assumption | exact got_ok1 | exact got_ok2 | exact got_no | exact Weak.refl _ | exact List.Pairwise.nil | (refine pw_of ?_; (repeat' (first | exact trivial | apply And.intro)); all_goals (first | exact .inr rfl | exact .inr trivial | exact .inl (by kernel_rfl))) | ((with_reducible (show drawOk _ = true)); kernel_rfl) | (repeat (first | exact Hp.Le.refl _ | refine Hp.le_upd ?_ (fN _ _ _ _))))
    · simp only [Bool.not_eq_true] at hs
      simp (config := {contextual := true, maxSteps := 5000000}) only [go_sem, false_and, Nat.reduceAdd, Nat.reduceLT, Nat.reduceBEq, Nat.reduceSub, Nat.reduceMul, Nat.reduceLeDiff, Int.reduceToNat, Nat.reduceEqDiff, Nat.reduceMod, ht, hl, hT, hs, hw, specJ, specG]
      ((repeat' apply And.intro) <;> first | omega | with_reducible assumption | exact got_ok1 | exact got_ok2 | exact got_no | exact Weak.refl _ | exact List.Pairwise.nil | (refine pw_of ?_; (repeat' (first | exact trivial | apply And.intro)); all_goals (first | exact .inr rfl | exact .inr trivial | exact .inl (by kernel_rfl))) | ((with_reducible (show drawOk _ = true)); kernel_rfl) | (repeat (first | exact Hp.Le.refl _ | refine Hp.le_upd ?_ (fN _ _ _ _))))
theorem quantified_step (m : Nat) (hS : SpecOk Tryz.prog w0 (specFm m)) (l : List Tk) (hl8 : l.length ≤ 8000) (kd : Int) (p : Nat) (hp : l.length < p + m) (hp2 : p ≤ l.length) : CallAt Tryz.prog w0 k 130 [.list .none (l.map cTk.enc), .int .i64 p, .int .i64 kd] H H (.agg (fQ l (fmF l m) kd p).cells) := by
  refine callAt tabOk hS mixed Tryz.func130 rfl rfl Tryz.results130 Tryz.ntmps130 (by simp) [] ?_
  intro hfr t hl ht
  simp only [At, Nat.reduceAdd, List.cons_append, List.nil_append] at ht
  have fN : ∀ (a b : Nat) z ty, H ⟨z, a :: b :: k, ty⟩ = none := fun a b z ty => hfr _ (sfx2 _ _ _)
  unfold fQ
  by_cases h1 : kAt l p = 1
  · obtain ⟨x, hx, he⟩ := tk_get l (kAt_lt (l := l) (p := p) (by omega))
    have hn : nAt l p = x.n := by rw [nAt, hx]
    have hlt := kAt_lt (l := l) (p := p) (by omega)
    have hw : IntKind.i64.wrap ((p : Int) + 1) = ((p + 1 : Nat) : Int) := by rw [wrap_i64] <;> omega
    cases hF : fmF l m (p + 1) with
    | no q =>
      simp (config := {contextual := true, maxSteps := 5000000}) only [go_sem, false_and, Nat.reduceAdd, Nat.reduceLT, Nat.reduceBEq, Nat.reduceSub, Nat.reduceMul, Nat.reduceLeDiff, Int.reduceToNat, Nat.reduceEqDiff, Nat.reduceMod, ht, hl, h1, hF, hw, specFm, specJ, specG, Int.reduceBEq, bne_self_eq_false]
      ((repeat' apply And.intro) <;> first | omega | with_reducible assumption | exact got_ok1 | exact got_ok2 | exact got_no | exact Weak.refl _ | exact List.Pairwise.nil | (refine pw_of ?_; (repeat' (first | exact trivial | apply And.intro)); all_goals (first | exact .inr rfl | exact .inr trivial | exact .inl (by kernel_rfl))) | ((with_reducible (show drawOk _ = true)); kernel_rfl) | (repeat (first | exact Hp.Le.refl _ | refine Hp.le_upd ?_ (fN _ _ _ _))))
    | ok a q =>
      simp (config := {contextual := true, maxSteps := 5000000}) only [go_sem, false_and, Nat.reduceAdd, Nat.reduceLT, Nat.reduceBEq, Nat.reduceSub, Nat.reduceMul, Nat.reduceLeDiff, Int.reduceToNat, Nat.reduceEqDiff, Nat.reduceMod, ht, hl, h1, hF, hw, he, Tk.cells, specFm, specJ, specG, strip, Int.reduceBEq, bne_self_eq_false]
      rw [hn]
      ((repeat' apply And.intro) <;> first | omega | with_reducible assumption | exact got_ok1 | exact got_ok2 | exact got_no | exact Weak.refl _ | exact List.Pairwise.nil | (refine pw_of ?_; (repeat' (first | exact trivial | apply And.intro)); all_goals (first | exact .inr rfl | exact .inr trivial | exact .inl (by kernel_rfl))) | ((with_reducible (show drawOk _ = true)); kernel_rfl) | (repeat (first | exact Hp.Le.refl _ | refine Hp.le_upd ?_ (fN _ _ _ _))))
  · have e1 : (kAt l p != 1) = true := by simpa using h1
    simp (config := {contextual := true, maxSteps := 5000000}) only [go_sem, false_and, Nat.reduceAdd, Nat.reduceLT, Nat.reduceBEq, Nat.reduceSub, Nat.reduceMul, Nat.reduceLeDiff, Int.reduceToNat, Nat.reduceEqDiff, Nat.reduceMod, ht, hl, e1, specFm, specJ, specG]
    rw [if_neg h1]
    ((repeat' apply And.intro) <;> first | omega | with_reducible assumption | exact got_ok1 | exact got_ok2 | exact got_no | exact Weak.refl _ | exact List.Pairwise.nil | (refine pw_of ?_; (repeat' (first | exact trivial | apply And.intro)); all_goals (first | exact .inr rfl | exact .inr trivial | exact .inl (by kernel_rfl))) | ((with_reducible (show drawOk _ = true)); kernel_rfl) | (repeat (first | exact Hp.Le.refl _ | refine Hp.le_upd ?_ (fN _ _ _ _))))
theorem pair_step (m : Nat) (hS : SpecOk Tryz.prog w0 (specFm m)) (l : List Tk) (hl8 : l.length ≤ 8000) (p : Nat) (hp : l.length < p + m) (hp2 : p ≤ l.length) : CallAt Tryz.prog w0 k 131 [.list .none (l.map cTk.enc), .int .i64 p] H H (.agg (fP l (fmF l m) p).cells) := by
  refine callAt tabOk hS mixed Tryz.func131 rfl rfl Tryz.results131 Tryz.ntmps131 (by simp) [] ?_
  intro hfr t hl ht
  simp only [At, Nat.reduceAdd, List.cons_append, List.nil_append] at ht
  have fN : ∀ (a b : Nat) z ty, H ⟨z, a :: b :: k, ty⟩ = none := fun a b z ty => hfr _ (sfx2 _ _ _)
  have hb := fmF_le l m p hp2
  unfold fP
  cases hF : fmF l m p with
  | no q =>
    simp (config := {contextual := true, maxSteps := 5000000}) only [go_sem, false_and, Nat.reduceAdd, Nat.reduceLT, Nat.reduceBEq, Nat.reduceSub, Nat.reduceMul, Nat.reduceLeDiff, Int.reduceToNat, Nat.reduceEqDiff, Nat.reduceMod, ht, hl, hF, specFm, specJ, specG]
    ((repeat' apply And.intro) <;> first | omega | with_reducible assumption | exact got_ok1 | exact got_ok2 | exact got_no | exact Weak.refl _ | exact List.Pairwise.nil | (refine pw_of ?_; (repeat' (first | exact trivial | apply And.intro)); all_goals (first | exact .inr rfl | exact .inr trivial | exact .inl (by kernel_rfl))) | ((with_reducible (show drawOk _ = true)); kernel_rfl) | (repeat (first | exact Hp.Le.refl _ | refine Hp.le_upd ?_ (fN _ _ _ _))))
  | ok a q =>
    rw [hF] at hb
    simp only [Got.pos] at hb
    have hw : IntKind.i64.wrap ((q : Int) + 1) = ((q + 1 : Nat) : Int) := by rw [wrap_i64] <;> omega
    by_cases hj : jnt l q = 0
    · simp (config := {contextual := true, maxSteps := 5000000}) only [go_sem, false_and, Nat.reduceAdd, Nat.reduceLT, Nat.reduceBEq, Nat.reduceSub, Nat.reduceMul, Nat.reduceLeDiff, Int.reduceToNat, Nat.reduceEqDiff, Nat.reduceMod, ht, hl, hF, hj, specFm, specJ, specG, Int.reduceBEq]
      ((repeat' apply And.intro) <;> first | omega | with_reducible assumption | exact got_ok1 | exact got_ok2 | exact got_no | exact Weak.refl _ | exact List.Pairwise.nil | (refine pw_of ?_; (repeat' (first | exact trivial | apply And.intro)); all_goals (first | exact .inr rfl | exact .inr trivial | exact .inl (by kernel_rfl))) | ((with_reducible (show drawOk _ = true)); kernel_rfl) | (repeat (first | exact Hp.Le.refl _ | refine Hp.le_upd ?_ (fN _ _ _ _))))
    · have hj' : (jnt l q == 0) = false := by simpa using hj
      have hjl := jnt_lt hj
      have hb2 := fmF_le l m (q + 1) (by omega)
      cases hF2 : fmF l m (q + 1) with
      | no r =>
        simp (config := {contextual := true, maxSteps := 5000000}) only [go_sem, false_and, Nat.reduceAdd, Nat.reduceLT, Nat.reduceBEq, Nat.reduceSub, Nat.reduceMul, Nat.reduceLeDiff, Int.reduceToNat, Nat.reduceEqDiff, Nat.reduceMod, ht, hl, hF, hF2, hj', hw, specFm, specJ, specG]
        rw [if_neg hj]
        ((repeat' apply And.intro) <;> first | omega | with_reducible assumption | exact got_ok1 | exact got_ok2 | exact got_no | exact Weak.refl _ | exact List.Pairwise.nil | (refine pw_of ?_; (repeat' (first | exact trivial | apply And.intro)); all_goals (first | exact .inr rfl | exact .inr trivial | exact .inl (by kernel_rfl))) | ((with_reducible (show drawOk _ = true)); kernel_rfl) | (repeat (first | exact Hp.Le.refl _ | refine Hp.le_upd ?_ (fN _ _ _ _))))
      | ok b r =>
        rw [hF2] at hb2
        simp only [Got.pos] at hb2
        have hwr : IntKind.i64.wrap ((r : Int) + 1) = ((r + 1 : Nat) : Int) := by rw [wrap_i64] <;> omega
        by_cases hs : sgn l r 41 = true
        · simp (config := {contextual := true, maxSteps := 5000000}) only [go_sem, false_and, Nat.reduceAdd, Nat.reduceLT, Nat.reduceBEq, Nat.reduceSub, Nat.reduceMul, Nat.reduceLeDiff, Int.reduceToNat, Nat.reduceEqDiff, Nat.reduceMod, ht, hl, hF, hF2, hj', hw, hwr, hs, specFm, specJ, specG, strip]
          rw [if_neg hj]
          ((repeat' apply And.intro) <;> first | omega | with_reducible assumption | exact got_ok1 | exact got_ok2 | exact got_no | exact Weak.refl _ | exact List.Pairwise.nil | (refine pw_of ?_; (repeat' (first | exact trivial | apply And.intro)); all_goals (first | exact .inr rfl | exact .inr trivial | exact .inl (by kernel_rfl))) | ((with_reducible (show drawOk _ = true)); kernel_rfl) | (repeat (first | exact Hp.Le.refl _ | refine Hp.le_upd ?_ (fN _ _ _ _))))
        · simp only [Bool.not_eq_true] at hs
          simp (config := {contextual := true, maxSteps := 5000000}) only [go_sem, false_and, Nat.reduceAdd, Nat.reduceLT, Nat.reduceBEq, Nat.reduceSub, Nat.reduceMul, Nat.reduceLeDiff, Int.reduceToNat, Nat.reduceEqDiff, Nat.reduceMod, ht, hl, hF, hF2, hj', hw, hwr, hs, specFm, specJ, specG]
          rw [if_neg hj]
          ((repeat' apply And.intro) <;> first | omega | with_reducible assumption | exact got_ok1 | exact got_ok2 | exact got_no | exact Weak.refl _ | exact List.Pairwise.nil | (refine pw_of ?_; (repeat' (first | exact trivial | apply And.intro)); all_goals (first | exact .inr rfl | exact .inr trivial | exact .inl (by kernel_rfl))) | ((with_reducible (show drawOk _ = true)); kernel_rfl) | (repeat (first | exact Hp.Le.refl _ | refine Hp.le_upd ?_ (fN _ _ _ _))))
theorem formula_step (m : Nat) (hS : SpecOk Tryz.prog w0 (specFm m)) (l : List Tk) (hl8 : l.length ≤ 8000) (p : Nat) (hp : l.length < p + (m + 1)) (hp2 : p ≤ l.length) : CallAt Tryz.prog w0 k 86 [.list .none (l.map cTk.enc), .int .i64 p] H H (.agg (fmF l (m + 1) p).cells) := by
  refine callAt tabOk hS mixed Tryz.func86 rfl rfl Tryz.results86 Tryz.ntmps86 (by simp) [] ?_
  intro hfr t hl ht
  simp only [At, Nat.reduceAdd, List.cons_append, List.nil_append] at ht
  have fN : ∀ (a b : Nat) z ty, H ⟨z, a :: b :: k, ty⟩ = none := fun a b z ty => hfr _ (sfx2 _ _ _)
  have hw : IntKind.i64.wrap ((p : Int) + 1) = ((p + 1 : Nat) : Int) := by rw [wrap_i64] <;> omega
  rw [fmF]
  by_cases h1 : sgn l p 33 = true
  · have hlt := sgn_lt h1
    cases hF : fmF l m (p + 1) with
    | no q =>
      simp (config := {contextual := true, maxSteps := 5000000}) only [go_sem, false_and, Nat.reduceAdd, Nat.reduceLT, Nat.reduceBEq, Nat.reduceSub, Nat.reduceMul, Nat.reduceLeDiff, Int.reduceToNat, Nat.reduceEqDiff, Nat.reduceMod, ht, hl, h1, hF, hw, specFm, specJ, specG]
      ((repeat' apply And.intro) <;> first | omega | with_reducible assumption | exact got_ok1 | exact got_ok2 | exact got_no | exact Weak.refl _ | exact List.Pairwise.nil | (refine pw_of ?_; (repeat' (first | exact trivial | apply And.intro)); all_goals (first | exact .inr rfl | exact .inr trivial | exact .inl (by kernel_rfl))) | ((with_reducible (show drawOk _ = true)); kernel_rfl) | (repeat (first | exact Hp.Le.refl _ | refine Hp.le_upd ?_ (fN _ _ _ _))))
    | ok a q =>
      simp (config := {contextual := true, maxSteps := 5000000}) only [go_sem, false_and, Nat.reduceAdd, Nat.reduceLT, Nat.reduceBEq, Nat.reduceSub, Nat.reduceMul, Nat.reduceLeDiff, Int.reduceToNat, Nat.reduceEqDiff, Nat.reduceMod, ht, hl, h1, hF, hw, specFm, specJ, specG, strip]
      ((repeat' apply And.intro) <;> first | omega | with_reducible assumption | exact got_ok1 | exact got_ok2 | exact got_no | exact Weak.refl _ | exact List.Pairwise.nil | (refine pw_of ?_; (repeat' (first | exact trivial | apply And.intro)); all_goals (first | exact .inr rfl | exact .inr trivial | exact .inl (by kernel_rfl))) | ((with_reducible (show drawOk _ = true)); kernel_rfl) | (repeat (first | exact Hp.Le.refl _ | refine Hp.le_upd ?_ (fN _ _ _ _))))
  · have e1 : sgn l p 33 = false := by simpa using h1
    by_cases h2 : sgn l p 64 = true
    · have hlt := sgn_lt h2
      simp (config := {contextual := true, maxSteps := 5000000}) only [go_sem, false_and, Nat.reduceAdd, Nat.reduceLT, Nat.reduceBEq, Nat.reduceSub, Nat.reduceMul, Nat.reduceLeDiff, Int.reduceToNat, Nat.reduceEqDiff, Nat.reduceMod, ht, hl, e1, h2, hw, specFm, specJ, specG]
      refine ⟨⟨by omega, by omega, by omega⟩, ⟨by omega, by omega, by omega⟩, callK_intro (quantified_step m hS l hl8 7 (p + 1) (by omega) (by omega)) ?_⟩
      simp (config := {contextual := true, maxSteps := 5000000}) only [go_sem, false_and, Nat.reduceAdd, Nat.reduceLT, Nat.reduceBEq, Nat.reduceSub, Nat.reduceMul, Nat.reduceLeDiff, Int.reduceToNat, Nat.reduceEqDiff, Nat.reduceMod, ht, hl]
      ((repeat' apply And.intro) <;> first | omega | with_reducible assumption | exact got_ok1 | exact got_ok2 | exact got_no | exact Weak.refl _ | exact List.Pairwise.nil | (refine pw_of ?_; (repeat' (first | exact trivial | apply And.intro)); all_goals (first | exact .inr rfl | exact .inr trivial | exact .inl (by kernel_rfl))) | ((with_reducible (show drawOk _ = true)); kernel_rfl) | (repeat (first | exact Hp.Le.refl _ | refine Hp.le_upd ?_ (fN _ _ _ _))))
    · have e2 : sgn l p 64 = false := by simpa using h2
      by_cases h3 : sgn l p 63 = true
      · have hlt := sgn_lt h3
        simp (config := {contextual := true, maxSteps := 5000000}) only [go_sem, false_and, Nat.reduceAdd, Nat.reduceLT, Nat.reduceBEq, Nat.reduceSub, Nat.reduceMul, Nat.reduceLeDiff, Int.reduceToNat, Nat.reduceEqDiff, Nat.reduceMod, ht, hl, e1, e2, h3, hw, specFm, specJ, specG]
        refine ⟨⟨by omega, by omega, by omega⟩, ⟨by omega, by omega, by omega⟩, ⟨by omega, by omega, by omega⟩, callK_intro (quantified_step m hS l hl8 10 (p + 1) (by omega) (by omega)) ?_⟩
        simp (config := {contextual := true, maxSteps := 5000000}) only [go_sem, false_and, Nat.reduceAdd, Nat.reduceLT, Nat.reduceBEq, Nat.reduceSub, Nat.reduceMul, Nat.reduceLeDiff, Int.reduceToNat, Nat.reduceEqDiff, Nat.reduceMod, ht, hl]
        ((repeat' apply And.intro) <;> first | omega | with_reducible assumption | exact got_ok1 | exact got_ok2 | exact got_no | exact Weak.refl _ | exact List.Pairwise.nil | (refine pw_of ?_; (repeat' (first | exact trivial | apply And.intro)); all_goals (first | exact .inr rfl | exact .inr trivial | exact .inl (by kernel_rfl))) | ((with_reducible (show drawOk _ = true)); kernel_rfl) | (repeat (first | exact Hp.Le.refl _ | refine Hp.le_upd ?_ (fN _ _ _ _))))
      · have e3 : sgn l p 63 = false := by simpa using h3
        by_cases h4 : sgn l p 40 = true
        · have hlt := sgn_lt h4
          simp (config := {contextual := true, maxSteps := 5000000}) only [go_sem, false_and, Nat.reduceAdd, Nat.reduceLT, Nat.reduceBEq, Nat.reduceSub, Nat.reduceMul, Nat.reduceLeDiff, Int.reduceToNat, Nat.reduceEqDiff, Nat.reduceMod, ht, hl, e1, e2, e3, h4, hw, specFm, specJ, specG]
          refine ⟨⟨by omega, by omega, by omega⟩, ⟨by omega, by omega, by omega⟩, ⟨by omega, by omega, by omega⟩, ⟨by omega, by omega, by omega⟩, callK_intro (pair_step m hS l hl8 (p + 1) (by omega) (by omega)) ?_⟩
          simp (config := {contextual := true, maxSteps := 5000000}) only [go_sem, false_and, Nat.reduceAdd, Nat.reduceLT, Nat.reduceBEq, Nat.reduceSub, Nat.reduceMul, Nat.reduceLeDiff, Int.reduceToNat, Nat.reduceEqDiff, Nat.reduceMod, ht, hl]
          ((repeat' apply And.intro) <;> first | omega | with_reducible assumption | exact got_ok1 | exact got_ok2 | exact got_no | exact Weak.refl _ | exact List.Pairwise.nil | (refine pw_of ?_; (repeat' (first | exact trivial | apply And.intro)); all_goals (first | exact .inr rfl | exact .inr trivial | exact .inl (by kernel_rfl))) | ((with_reducible (show drawOk _ = true)); kernel_rfl) | (repeat (first | exact Hp.Le.refl _ | refine Hp.le_upd ?_ (fN _ _ _ _))))
        · have e4 : sgn l p 40 = false := by simpa using h4
          by_cases h5 : kAt l p = 3
          · obtain ⟨x, hx, he⟩ := tk_get l (kAt_lt (l := l) (p := p) (by omega))
            have hn : nAt l p = x.n := by rw [nAt, hx]
            have hlt := kAt_lt (l := l) (p := p) (by omega)
            simp (config := {contextual := true, maxSteps := 5000000}) only [go_sem, false_and, Nat.reduceAdd, Nat.reduceLT, Nat.reduceBEq, Nat.reduceSub, Nat.reduceMul, Nat.reduceLeDiff, Int.reduceToNat, Nat.reduceEqDiff, Nat.reduceMod, ht, hl, e1, e2, e3, e4, h5, hw, he, Tk.cells, specFm, specJ, specG, Int.reduceBEq]
            rw [hn]
            refine ⟨⟨by omega, by omega, by omega⟩, ⟨by omega, by omega, by omega⟩, ⟨by omega, by omega, by omega⟩, ⟨by omega, by omega, by omega⟩, by omega, ⟨by omega, by omega⟩, callK_intro (args_step (l.length + 1) (specTm_ok _) l hl8 (p + 1) (by omega) (by omega) 3 x.n) ?_⟩
            simp (config := {contextual := true, maxSteps := 5000000}) only [go_sem, false_and, Nat.reduceAdd, Nat.reduceLT, Nat.reduceBEq, Nat.reduceSub, Nat.reduceMul, Nat.reduceLeDiff, Int.reduceToNat, Nat.reduceEqDiff, Nat.reduceMod, ht, hl]
            ((repeat' apply And.intro) <;> first | omega | with_reducible assumption | exact got_ok1 | exact got_ok2 | exact got_no | exact Weak.refl _ | exact List.Pairwise.nil | (refine pw_of ?_; (repeat' (first | exact trivial | apply And.intro)); all_goals (first | exact .inr rfl | exact .inr trivial | exact .inl (by kernel_rfl))) | ((with_reducible (show drawOk _ = true)); kernel_rfl) | (repeat (first | exact Hp.Le.refl _ | refine Hp.le_upd ?_ (fN _ _ _ _))))
          · have e5 : (kAt l p == 3) = false := by simpa using h5
            simp (config := {contextual := true, maxSteps := 5000000}) only [go_sem, false_and, Nat.reduceAdd, Nat.reduceLT, Nat.reduceBEq, Nat.reduceSub, Nat.reduceMul, Nat.reduceLeDiff, Int.reduceToNat, Nat.reduceEqDiff, Nat.reduceMod, ht, hl, e1, e2, e3, e4, e5, hw, specFm, specJ, specG]
            rw [if_neg h5]
            refine ⟨⟨by omega, by omega, by omega⟩, ⟨by omega, by omega, by omega⟩, ⟨by omega, by omega, by omega⟩, ⟨by omega, by omega, by omega⟩, by omega, callK_intro (equality_call l hl8 p hp2) ?_⟩
            simp (config := {contextual := true, maxSteps := 5000000}) only [go_sem, false_and, Nat.reduceAdd, Nat.reduceLT, Nat.reduceBEq, Nat.reduceSub, Nat.reduceMul, Nat.reduceLeDiff, Int.reduceToNat, Nat.reduceEqDiff, Nat.reduceMod, ht, hl]
            ((repeat' apply And.intro) <;> first | omega | with_reducible assumption | exact got_ok1 | exact got_ok2 | exact got_no | exact Weak.refl _ | exact List.Pairwise.nil | (refine pw_of ?_; (repeat' (first | exact trivial | apply And.intro)); all_goals (first | exact .inr rfl | exact .inr trivial | exact .inl (by kernel_rfl))) | ((with_reducible (show drawOk _ = true)); kernel_rfl) | (repeat (first | exact Hp.Le.refl _ | refine Hp.le_upd ?_ (fN _ _ _ _))))
theorem specFm_ok : ∀ m, SpecOk Tryz.prog w0 (specFm m)
  | 0 => specJ_ok.add (sp2_ok fun l p h k H => by
    obtain ⟨h1, h2, h3, h4⟩ := h
    omega)
  | m + 1 => specJ_ok.add (sp2_ok fun l p h k H => by
    obtain ⟨q, rfl⟩ : ∃ q : Nat, p = q := ⟨p.toNat, by omega⟩
    obtain ⟨h1, h2, h3, h4⟩ := h
    exact formula_step m (specFm_ok m) l h1 q (by omega) (by omega))
end Go.Proofs.YtkdendaohlnlcaaGreatDoor.Av

/- What organonref03.Formula answers. No condition. -/
namespace Go.Proofs.YtkdendaohlnlcaaGreatDoor.Av
set_option linter.unusedVariables false
set_option linter.unusedSimpArgs false
set_option maxRecDepth 4000
set_option maxHeartbeats 1000000
variable {w0 : Base} {k : List Nat} {H : Hp}
def Got.fine : Got → Prop
  | .ok x _ => x.ok
  | .no _ => True
theorem okL_of : ∀ {l : List E}, (∀ x ∈ l, x.ok) → E.okL l
  | [], _ => trivial
  | e :: es, h => ⟨h e (by simp), okL_of fun x hx => h x (by simp [hx])⟩
theorem ok_mk {kd id : Int} {ks : List E} (h : ks.length ≤ 8) (hk : ∀ x ∈ ks, x.ok) : (E.mk kd id ks).ok := ⟨by omega, okL_of hk⟩
theorem fine_mk {kd id : Int} {ks : List E} {p : Nat} (h : ks.length ≤ 8) (hk : ∀ x ∈ ks, x.ok) : (Got.ok (.mk kd id ks) p).fine := ⟨by omega, okL_of hk⟩
theorem argL_fine {l : List Tk} {T : Nat → Got} {kd id : Int} (hT : ∀ p, (T p).fine) : ∀ c ks p, ks.length + c ≤ 7 → (∀ x ∈ ks, x.ok) → (argL l T kd id c ks p).fine
  | 0, ks, p, _, _ => trivial
  | c + 1, ks, p, hl, hk => by
    have h1 := hT p
    unfold argL
    cases hg : T p with
    | no q => exact trivial
    | ok x q =>
      rw [hg] at h1
      have hk2 : ∀ y ∈ ks ++ [x], y.ok := fun y hy => by
        rcases List.mem_append.1 hy with h | h
        · exact hk y h
        · rw [List.mem_singleton.1 h]; exact h1
      simp only
      by_cases hs : sgn l q 41 = true
      · rw [if_pos hs]
        exact fine_mk (by simp; omega) hk2
      · rw [if_neg hs]
        by_cases hs2 : c = 0 ∨ sgn l q 44 = false
        · rw [if_pos hs2]
          exact trivial
        · rw [if_neg hs2]
          exact argL_fine hT c _ _ (by simp; omega) hk2
theorem argG_fine {l : List Tk} {T : Nat → Got} {kd id : Int} (hT : ∀ p, (T p).fine) (p : Nat) : (argG l T kd id p).fine := by
  unfold argG
  split
  · exact argL_fine hT 4 [] _ (by simp) (by simp)
  · exact fine_mk (by simp) (by simp)
theorem tmF_fine (l : List Tk) : ∀ m p, (tmF l m p).fine
  | 0, p => trivial
  | m + 1, p => by
    unfold tmF
    split
    · exact fine_mk (by simp) (by simp)
    · split
      · exact argG_fine (tmF_fine l m) _
      · exact trivial
theorem fmF_fine (l : List Tk) : ∀ m p, (fmF l m p).fine
  | 0, p => trivial
  | m + 1, p => by
    have ih := fmF_fine l m
    have one : ∀ {x : E} {kd id : Int} {p : Nat}, x.ok → (Got.ok (.mk kd id [x]) p).fine := fun h => fine_mk (by simp) (by simpa using h)
    have two : ∀ {x y : E} {kd id : Int} {p : Nat}, x.ok → y.ok → (Got.ok (.mk kd id [x, y]) p).fine := fun h g => fine_mk (by simp) (by simp; exact ⟨h, g⟩)
    have hq : ∀ kd p, (fQ l (fmF l m) kd p).fine := fun kd p => by
      have h1 := ih (p + 1)
      unfold fQ
      split
      · cases hg : fmF l m (p + 1) with
        | no q => exact trivial
        | ok x q => rw [hg] at h1; exact one h1
      · exact trivial
    unfold fmF
    split
    · have h1 := ih (p + 1)
      cases hg : fmF l m (p + 1) with
      | no q => exact trivial
      | ok x q => rw [hg] at h1; exact one h1
    · split
      · exact hq _ _
      · split
        · exact hq _ _
        · split
          · unfold fP
            have h1 := ih (p + 1)
            cases hg : fmF l m (p + 1) with
            | no q => exact trivial
            | ok a q =>
              rw [hg] at h1
              simp only
              by_cases hj : jnt l q = 0
              · rw [if_pos hj]; exact trivial
              · rw [if_neg hj]
                have h2 := ih (q + 1)
                cases hg2 : fmF l m (q + 1) with
                | no r => exact trivial
                | ok b r =>
                  rw [hg2] at h2
                  simp only
                  split
                  · exact two h1 h2
                  · exact trivial
          · split
            · exact argG_fine (tmF_fine l _) _
            · unfold fE
              have h1 := tmF_fine l (l.length + 1) p
              have h2 := fun q => tmF_fine l (l.length + 1) q
              unfold tmL
              cases hg : tmF l (l.length + 1) p with
              | no q => exact trivial
              | ok a q =>
                rw [hg] at h1
                simp only
                split
                · have h3 := h2 (q + 1)
                  cases hg2 : tmF l (l.length + 1) (q + 1) with
                  | no r => exact trivial
                  | ok b r => rw [hg2] at h3; exact two h1 h3
                · exact trivial
theorem tkGo_len (s : ByteArray) : ∀ m p l l', s.size - p ≤ m → p ≤ s.size → l.length ≤ p → tkGo s p l = .ok l' → l'.length ≤ s.size
  | 0, p, l, l', hm, hp, hl, h => by
    rw [tkGo_end (by omega)] at h
    cases h
    omega
  | m + 1, p, l, l', hm, hp, hl, h => by
    by_cases hi : p < s.size
    · rw [tkGo, if_pos hi] at h
      split at h
      · exact tkGo_len s m (p + 1) l l' (by omega) (by omega) (by omega) h
      · rename_i t w ht
        have hw : p + 1 + w ≤ s.size := by
          unfold tokOne at ht
          (repeat' split at ht) <;> cases ht
          · omega
          · rename_i h1 h2 h3 h4
            have hm : most (byteAt s p) = 63 ∨ most (byteAt s p) = 99 := by
              unfold most at h3 ⊢
              split
              · exact .inl rfl
              · rename_i h5
                rw [if_neg h5] at h3
                split
                · exact .inr rfl
                · rename_i h6
                  rw [if_neg h6] at h3
                  omega
            have := (num_agree (s := s) (p := p) hm hi).2 h4
            have := digs_le s (p + 1)
            omega
        exact tkGo_len s m (p + 1 + w) (l ++ [t]) l' (by omega) (by omega) (by simp; omega) h
      · cases h
    · rw [tkGo_end hi] at h
      cases h
      omega
theorem toks_len {s : ByteArray} {l : List Tk} (h : toks s = .ok l) : l.length ≤ 8000 := by
  unfold toks at h
  split at h
  · cases h
  · have := tkGo_len s _ 0 [] l (Nat.le_refl _) (by omega) (by simp) h
    omega
def posOf (l : List Tk) (end_ q : Nat) : Int := match l[q]? with
  | some t => t.at_
  | none => end_
inductive FR where
  | ok (x : E)
  | err (e at_ : Int)
def FR.av : FR → AV
  | .ok x => .tup [x.av, .int .i64 0, .int .i64 0]
  | .err e a => .tup [.agg [.int .i64 0, .int .i64 0, .list .nil []], .int .i64 e, .int .i64 a]
def wholeR (s : ByteArray) (l : List Tk) (g : Got) : FR := match g with
  | .no q => .err 32 (posOf l s.size q)
  | .ok x q => if q < l.length then .err 32 (posOf l s.size q) else if x.right = 0 then .ok x else .err x.right 0
def fmRes (s : ByteArray) : FR := match toks s with
  | .err e a => .err e a
  | .ok l => wholeR s l (fmF l (l.length + 1) 0)
def specWh : Spec := Spec.no.add 62 (sp1 dE (fun e => e.ok) fun e => .int .i64 e.right)
theorem specWh_ok : SpecOk Tryz.prog w0 specWh := Spec.no_ok.add (sp1_ok fun e h k H => right02_call e h)
theorem fr_ok {x : E} : Weak (.tup [.agg [.int .i64 x.kind, .int .i64 x.id, .list .none (x.kids.map E.cells)], .int .i64 0, .int .i64 0]) (FR.ok x).av := by
  have e : (FR.ok x).av = .tup [.agg [.int .i64 x.kind, .int .i64 x.id, .list .none (x.kids.map E.cells)], .int .i64 0, .int .i64 0] := by cases x; simp [FR.av, E.av, E.cells_eq]
  rw [e]
  exact Weak.refl _
theorem whole_call (s : ByteArray) (l : List Tk) (g : Got) (hg : g.fine) : CallAt Tryz.prog w0 k 85 [.str s, .list .none (l.map cTk.enc), .agg g.cells] H H (wholeR s l g).av := by
  refine callAt tabOk specWh_ok mixed Tryz.func85 rfl rfl Tryz.results85 Tryz.ntmps85 (by simp) [] ?_
  intro hfr t hl ht
  simp only [At, Nat.reduceAdd, List.cons_append, List.nil_append] at ht
  have fN : ∀ (a b : Nat) z ty, H ⟨z, a :: b :: k, ty⟩ = none := fun a b z ty => hfr _ (sfx2 _ _ _)
  have pos_lt : ∀ {q : Nat}, q < l.length → ∃ x : Tk, (l.map cTk.enc).getD q [] = x.cells ∧ posOf l s.size q = x.at_ := fun {q} hq => by
    obtain ⟨x, hx, he⟩ := tk_get l hq
    exact ⟨x, he, by rw [posOf, hx]⟩
  have pos_ge : ∀ {q : Nat}, ¬ q < l.length → posOf l s.size q = s.size := fun {q} hq => by rw [posOf, List.getElem?_eq_none (by omega)]
  cases g with
  | no q =>
    have hr : wholeR s l (.no q) = .err 32 (posOf l s.size q) := rfl
    rw [hr]
    by_cases hq : q < l.length
    · have hd : decide ((q : Int) < (l.length : Int)) = true := by simp [hq]
      obtain ⟨x, he, hp⟩ := pos_lt hq
      simp (config := {contextual := true, maxSteps := 5000000}) only [go_sem, false_and, Nat.reduceAdd, Nat.reduceLT, Nat.reduceBEq, Nat.reduceSub, Nat.reduceMul, Nat.reduceLeDiff, Int.reduceToNat, Nat.reduceEqDiff, Nat.reduceMod, ht, hl, hd, he, Tk.cells, specWh, got_cells_no]
      rw [hp]
      ((repeat' apply And.intro) <;> first | omega | with_reducible assumption | exact fr_ok | exact Weak.refl _ | exact List.Pairwise.nil | rfl | (refine pw_of ?_; (repeat' (first | exact trivial | apply And.intro)); all_goals (first | exact .inr rfl | exact .inr trivial | exact .inl (by kernel_rfl))) | ((with_reducible (show drawOk _ = true)); kernel_rfl) | (repeat (first | exact Hp.Le.refl _ | refine Hp.le_upd ?_ (fN _ _ _ _))))
    · have hd : decide ((q : Int) < (l.length : Int)) = false := by simp; omega
      simp (config := {contextual := true, maxSteps := 5000000}) only [go_sem, false_and, Nat.reduceAdd, Nat.reduceLT, Nat.reduceBEq, Nat.reduceSub, Nat.reduceMul, Nat.reduceLeDiff, Int.reduceToNat, Nat.reduceEqDiff, Nat.reduceMod, ht, hl, hd, specWh, got_cells_no]
      rw [pos_ge hq]
      ((repeat' apply And.intro) <;> first | omega | with_reducible assumption | exact fr_ok | exact Weak.refl _ | exact List.Pairwise.nil | rfl | (refine pw_of ?_; (repeat' (first | exact trivial | apply And.intro)); all_goals (first | exact .inr rfl | exact .inr trivial | exact .inl (by kernel_rfl))) | ((with_reducible (show drawOk _ = true)); kernel_rfl) | (repeat (first | exact Hp.Le.refl _ | refine Hp.le_upd ?_ (fN _ _ _ _))))
  | ok x q =>
    have hok : x.ok := hg
    by_cases hq : q < l.length
    · have hd : decide ((q : Int) < (l.length : Int)) = true := by simp [hq]
      obtain ⟨y, he, hp⟩ := pos_lt hq
      have hr : wholeR s l (.ok x q) = .err 32 (posOf l s.size q) := by rw [wholeR, if_pos hq]
      rw [hr]
      simp (config := {contextual := true, maxSteps := 5000000}) only [go_sem, false_and, Nat.reduceAdd, Nat.reduceLT, Nat.reduceBEq, Nat.reduceSub, Nat.reduceMul, Nat.reduceLeDiff, Int.reduceToNat, Nat.reduceEqDiff, Nat.reduceMod, ht, hl, hd, he, Tk.cells, specWh, got_cells_ok]
      rw [hp]
      ((repeat' apply And.intro) <;> first | omega | with_reducible assumption | exact fr_ok | exact Weak.refl _ | exact List.Pairwise.nil | rfl | (refine pw_of ?_; (repeat' (first | exact trivial | apply And.intro)); all_goals (first | exact .inr rfl | exact .inr trivial | exact .inl (by kernel_rfl))) | ((with_reducible (show drawOk _ = true)); kernel_rfl) | (repeat (first | exact Hp.Le.refl _ | refine Hp.le_upd ?_ (fN _ _ _ _))))
    · have hd : decide ((q : Int) < (l.length : Int)) = false := by simp; omega
      by_cases hz : x.right = 0
      · have hr : wholeR s l (.ok x q) = .ok x := by rw [wholeR, if_neg hq, if_pos hz]
        rw [hr]
        simp (config := {contextual := true, maxSteps := 5000000}) only [go_sem, false_and, Nat.reduceAdd, Nat.reduceLT, Nat.reduceBEq, Nat.reduceSub, Nat.reduceMul, Nat.reduceLeDiff, Int.reduceToNat, Nat.reduceEqDiff, Nat.reduceMod, ht, hl, hd, hz, specWh, got_cells_ok, bne_self_eq_false]
        ((repeat' apply And.intro) <;> first | omega | with_reducible assumption | exact fr_ok | exact Weak.refl _ | exact List.Pairwise.nil | rfl | (refine pw_of ?_; (repeat' (first | exact trivial | apply And.intro)); all_goals (first | exact .inr rfl | exact .inr trivial | exact .inl (by kernel_rfl))) | ((with_reducible (show drawOk _ = true)); kernel_rfl) | (repeat (first | exact Hp.Le.refl _ | refine Hp.le_upd ?_ (fN _ _ _ _))))
      · have hr : wholeR s l (.ok x q) = .err x.right 0 := by rw [wholeR, if_neg hq, if_neg hz]
        have hz' : (x.right != 0) = true := by simpa using hz
        rw [hr]
        simp (config := {contextual := true, maxSteps := 5000000}) only [go_sem, false_and, Nat.reduceAdd, Nat.reduceLT, Nat.reduceBEq, Nat.reduceSub, Nat.reduceMul, Nat.reduceLeDiff, Int.reduceToNat, Nat.reduceEqDiff, Nat.reduceMod, ht, hl, hd, hz', specWh, got_cells_ok]
        ((repeat' apply And.intro) <;> first | omega | with_reducible assumption | exact fr_ok | exact Weak.refl _ | exact List.Pairwise.nil | rfl | (refine pw_of ?_; (repeat' (first | exact trivial | apply And.intro)); all_goals (first | exact .inr rfl | exact .inr trivial | exact .inl (by kernel_rfl))) | ((with_reducible (show drawOk _ = true)); kernel_rfl) | (repeat (first | exact Hp.Le.refl _ | refine Hp.le_upd ?_ (fN _ _ _ _))))
def specFo : Spec := Spec.no.add 84 (sp1 dS (fun _ => True) fun s => (toks s).av)
theorem specFo_ok : SpecOk Tryz.prog w0 specFo := Spec.no_ok.add (sp1_ok fun s _ k H => tokens03_call s)
theorem tkGo_ne (s : ByteArray) : ∀ m p l e a, s.size - p ≤ m → tkGo s p l = .err e a → e = 30 ∨ e = 31
  | 0, p, l, e, a, hm, h => by
    rw [tkGo_end (by omega)] at h
    cases h
  | m + 1, p, l, e, a, hm, h => by
    by_cases hi : p < s.size
    · rw [tkGo, if_pos hi] at h
      split at h
      · exact tkGo_ne s m _ l e a (by omega) h
      · exact tkGo_ne s m _ _ e a (by omega) h
      · rename_i c hc
        cases h
        unfold tokOne at hc
        (repeat' split at hc) <;> cases hc
        · exact .inl rfl
        · exact .inr rfl
    · rw [tkGo_end hi] at h
      cases h
theorem toks_ne {s : ByteArray} {e a : Int} (h : toks s = .err e a) : e ≠ 0 := by
  unfold toks at h
  split at h
  · cases h
    decide
  · have := tkGo_ne s _ 0 [] e a (Nat.le_refl _) h
    omega
theorem formula03_call (s : ByteArray) : CallAt Tryz.prog w0 k 55 [.str s] H H (fmRes s).av := by
  refine callAt tabOk specFo_ok mixed Tryz.func55 rfl rfl Tryz.results55 Tryz.ntmps55 (by simp) [] ?_
  intro hfr t hl ht
  simp only [At, Nat.reduceAdd, List.cons_append, List.nil_append] at ht
  have fN : ∀ (a b : Nat) z ty, H ⟨z, a :: b :: k, ty⟩ = none := fun a b z ty => hfr _ (sfx2 _ _ _)
  unfold fmRes
  cases hT : toks s with
  | err e a =>
    have he : e ≠ 0 := toks_ne hT
    have he' : (e != 0) = true := by simpa using he
    have hav : (TR.err e a).av = .tup [.list .nil [], .int .i64 e, .int .i64 a] := rfl
    simp (config := {contextual := true, maxSteps := 5000000}) only [go_sem, false_and, Nat.reduceAdd, Nat.reduceLT, Nat.reduceBEq, Nat.reduceSub, Nat.reduceMul, Nat.reduceLeDiff, Int.reduceToNat, Nat.reduceEqDiff, Nat.reduceMod, ht, hl, specFo, hT, hav, he']
    exact ⟨Weak.refl _, Hp.le_upd (Hp.Le.refl _) (fN _ _ _ _)⟩
  | ok l =>
    have hl8 := toks_len hT
    have hav : (TR.ok l).av = .tup [.list .none (l.map cTk.enc), .int .i64 0, .int .i64 0] := rfl
    simp (config := {contextual := true, maxSteps := 5000000}) only [go_sem, false_and, Nat.reduceAdd, Nat.reduceLT, Nat.reduceBEq, Nat.reduceSub, Nat.reduceMul, Nat.reduceLeDiff, Int.reduceToNat, Nat.reduceEqDiff, Nat.reduceMod, ht, hl, specFo, hT, hav, bne_self_eq_false]
    refine callK_intro (formula_step l.length (specFm_ok _) l hl8 0 (by omega) (by omega)) ?_
    simp (config := {contextual := true, maxSteps := 5000000}) only [go_sem, false_and, Nat.reduceAdd, Nat.reduceLT, Nat.reduceBEq, Nat.reduceSub, Nat.reduceMul, Nat.reduceLeDiff, Int.reduceToNat, Nat.reduceEqDiff, Nat.reduceMod, hl]
    have hW := whole_call (w0 := w0) (k := 4 :: 3 :: k) (H := H.upd ⟨3, 0 :: 0 :: k, 25⟩ (some (.cells [.raw (.int .i64 0), .raw (.int .i64 0), .list .nil []]))) s l (fmF l (l.length + 1) 0) (fmF_fine l _ _)
    cases hR : wholeR s l (fmF l (l.length + 1) 0) with
    | ok x =>
      rw [hR] at hW
      refine callK_intro hW ?_
      have hav : (FR.ok x).av = .tup [.agg [.int .i64 x.kind, .int .i64 x.id, .list .none (x.kids.map E.cells)], .int .i64 0, .int .i64 0] := rfl
      simp (config := {contextual := true, maxSteps := 5000000}) only [go_sem, false_and, Nat.reduceAdd, Nat.reduceLT, Nat.reduceBEq, Nat.reduceSub, Nat.reduceMul, Nat.reduceLeDiff, Int.reduceToNat, Nat.reduceEqDiff, Nat.reduceMod, hl, hav]
      exact Hp.le_upd (Hp.Le.refl _) (fN _ _ _ _)
    | err e a =>
      rw [hR] at hW
      refine callK_intro hW ?_
      have hav : (FR.err e a).av = .tup [.agg [.int .i64 0, .int .i64 0, .list .nil []], .int .i64 e, .int .i64 a] := rfl
      simp (config := {contextual := true, maxSteps := 5000000}) only [go_sem, false_and, Nat.reduceAdd, Nat.reduceLT, Nat.reduceBEq, Nat.reduceSub, Nat.reduceMul, Nat.reduceLeDiff, Int.reduceToNat, Nat.reduceEqDiff, Nat.reduceMod, hl, hav]
      exact Hp.le_upd (Hp.Le.refl _) (fN _ _ _ _)
end Go.Proofs.YtkdendaohlnlcaaGreatDoor.Av

/- What the program's reader does, step by step. No condition. -/
namespace Go.Proofs.YtkdendaohlnlcaaGreatDoor.Av
set_option linter.unusedVariables false
set_option linter.unusedSimpArgs false
set_option maxRecDepth 4000
set_option maxHeartbeats 1000000
variable {w0 : Base} {k : List Nat} {H : Hp}
/-- A reader's cells. -/
def rd (l : List Tk) (en : Nat) (i : Nat) : List AV := [.list .none (l.map cTk.enc), .int .i64 i, .int .i64 en]
def stopV (l : List Tk) (en : Nat) (q : Nat) : AV := .iface 133 (.agg [.int .i64 (posOf l en q)])
theorem rd_len {l : List Tk} {en : Nat} {i : Nat} : (rd l en i).length = 3 := rfl
theorem is_call (id : Id) (l : List Tk) (en : Nat) (i : Nat) (kd : Int) (hk : kd ≠ 0) (hH : H id = some (.cells (rd l en i))) : CallAt Tryz.prog w0 k 119 [.ptr id 0, .int .i64 kd] H H (.bool (kAt l i == kd)) := by
  refine callAt tabOk Spec.no_ok mixed Tryz.func119 rfl rfl Tryz.results119 Tryz.ntmps119 (by simp) [] ?_
  intro hfr t hl ht
  simp only [At, Nat.reduceAdd, List.cons_append, List.nil_append] at ht
  simp only [rd] at hH
  by_cases hi : i < l.length
  · obtain ⟨x, hx, he⟩ := tk_get l hi
    have hd : decide ((i : Int) < (l.length : Int)) = true := by simp [hi]
    have hkn : kAt l i = x.kind := by rw [kAt, hx]
    simp (config := {contextual := true, maxSteps := 5000000}) only [go_sem, false_and, Nat.reduceAdd, Nat.reduceLT, Nat.reduceBEq, Nat.reduceSub, Nat.reduceMul, Nat.reduceLeDiff, Int.reduceToNat, Nat.reduceEqDiff, Nat.reduceMod, ht, hl, hH, hd, he, Tk.cells]
    rw [hkn]
    ((repeat' apply And.intro) <;> first | omega | with_reducible assumption | exact Weak.refl _ | rfl | exact List.Pairwise.nil | (refine pw_of ?_; (repeat' (first | exact trivial | apply And.intro)); all_goals (first | exact .inr rfl | exact .inr trivial | exact .inl (by kernel_rfl))) | ((with_reducible (show drawOk _ = true)); kernel_rfl) | ((with_reducible (show panOk _ _ _ = true)); kernel_rfl) | (repeat (first | exact Hp.Le.refl _ | refine Hp.le_upd ?_ (fN _ _ _ _))))
  · have hd : decide ((i : Int) < (l.length : Int)) = false := by simp; omega
    have hkn : kAt l i = 0 := by rw [kAt, List.getElem?_eq_none (by omega)]
    simp (config := {contextual := true, maxSteps := 5000000}) only [go_sem, false_and, Nat.reduceAdd, Nat.reduceLT, Nat.reduceBEq, Nat.reduceSub, Nat.reduceMul, Nat.reduceLeDiff, Int.reduceToNat, Nat.reduceEqDiff, Nat.reduceMod, ht, hl, hH, hd]
    rw [hkn]
    have : false = (0 == kd) := by symm; simp; exact fun h => hk h.symm
    ((repeat' apply And.intro) <;> first | omega | with_reducible assumption | exact Weak.refl _ | rfl | exact List.Pairwise.nil | (refine pw_of ?_; (repeat' (first | exact trivial | apply And.intro)); all_goals (first | exact .inr rfl | exact .inr trivial | exact .inl (by kernel_rfl))) | ((with_reducible (show drawOk _ = true)); kernel_rfl) | ((with_reducible (show panOk _ _ _ = true)); kernel_rfl) | (repeat (first | exact Hp.Le.refl _ | refine Hp.le_upd ?_ (fN _ _ _ _))))
theorem fail_call (id : Id) (l : List Tk) (en : Nat) (i : Nat) (hH : H id = some (.cells (rd l en i))) : CallO Tryz.prog w0 k 114 [.ptr id 0] H H (.pan (stopV l en i)) := by
  refine callO tabOk Spec.no_ok mixed Tryz.func114 rfl rfl Tryz.results114 Tryz.ntmps114 (by simp) [] ?_
  intro hfr t hl ht
  simp only [At, Nat.reduceAdd, List.cons_append, List.nil_append] at ht
  simp only [rd] at hH
  by_cases hi : i < l.length
  · obtain ⟨x, hx, he⟩ := tk_get l hi
    have hd : decide ((i : Int) < (l.length : Int)) = true := by simp [hi]
    have hp : posOf l en i = x.at_ := by rw [posOf, hx]
    simp (config := {contextual := true, maxSteps := 5000000}) only [go_sem, false_and, Nat.reduceAdd, Nat.reduceLT, Nat.reduceBEq, Nat.reduceSub, Nat.reduceMul, Nat.reduceLeDiff, Int.reduceToNat, Nat.reduceEqDiff, Nat.reduceMod, ht, hl, hH, hd, he, Tk.cells]
    rw [stopV, hp]
    refine ⟨by kernel_rfl, by (refine pw_of ?_; (repeat' (first | exact trivial | apply And.intro)); all_goals (first | exact .inr rfl | exact .inr trivial | exact .inl (by kernel_rfl))), by kernel_rfl, ⟨by omega, by omega⟩, by kernel_rfl, by (refine pw_of ?_; (repeat' (first | exact trivial | apply And.intro)); all_goals (first | exact .inr rfl | exact .inr trivial | exact .inl (by kernel_rfl))), _, rfl, Weak.refl _⟩
  · have hd : decide ((i : Int) < (l.length : Int)) = false := by simp; omega
    have hp : posOf l en i = en := by rw [posOf, List.getElem?_eq_none (by omega)]
    simp (config := {contextual := true, maxSteps := 5000000}) only [go_sem, false_and, Nat.reduceAdd, Nat.reduceLT, Nat.reduceBEq, Nat.reduceSub, Nat.reduceMul, Nat.reduceLeDiff, Int.reduceToNat, Nat.reduceEqDiff, Nat.reduceMod, ht, hl, hH, hd]
    rw [stopV, hp]
    exact ⟨by kernel_rfl, by (refine pw_of ?_; (repeat' (first | exact trivial | apply And.intro)); all_goals (first | exact .inr rfl | exact .inr trivial | exact .inl (by kernel_rfl))), _, rfl, Weak.refl _⟩
def nx (l : List Tk) (i : Nat) (c : Int) : Nat := if sgn l i c = true then i + 1 else i
theorem upd_self {id : Id} {e : Ent} (h : H id = some e) : H.upd id (some e) = H := by
  funext j
  unfold Hp.upd
  split
  · rename_i hj; rw [hj, h]
  · rfl
theorem take_call (id : Id) (hz : id.sz = 3) (l : List Tk) (hl8 : l.length ≤ 8000) (en : Nat) (i : Nat) (hi8 : i ≤ l.length) (c : Int) (hc : 0 ≤ c ∧ c < 256) (hH : H id = some (.cells (rd l en i))) : CallAt Tryz.prog w0 k 115 [.ptr id 0, .int .i32 c] H (H.upd id (some (.cells (rd l en (nx l i c))))) (.bool (sgn l i c)) := by
  refine callAt tabOk Spec.no_ok mixed Tryz.func115 rfl rfl Tryz.results115 Tryz.ntmps115 (by simp) [] ?_
  intro hfr t hl ht
  simp only [At, Nat.reduceAdd, List.cons_append, List.nil_append] at ht
  have hw : IntKind.i64.wrap c = c := wrap_i64 (by omega) (by omega)
  have hw1 : IntKind.i64.wrap ((i : Int) + 1) = ((i + 1 : Nat) : Int) := by rw [wrap_i64] <;> omega
  have hH0 := hH
  simp only [rd] at hH
  simp (config := {contextual := true, maxSteps := 5000000}) only [go_sem, false_and, Nat.reduceAdd, Nat.reduceLT, Nat.reduceBEq, Nat.reduceSub, Nat.reduceMul, Nat.reduceLeDiff, Int.reduceToNat, Nat.reduceEqDiff, Nat.reduceMod, ht, hl, hw]
  refine ⟨by kernel_rfl, callK_intro (is_call id l en i 4 (by decide) hH0) ?_⟩
  by_cases hk4 : kAt l i = 4
  · have hi := kAt_lt (l := l) (p := i) (by omega)
    obtain ⟨x, hx, he⟩ := tk_get l hi
    have hkn : kAt l i = x.kind := by rw [kAt, hx]
    have hs : sgn l i c = (x.n == c) := by rw [sgn, hx]; simp only; rw [← hkn, hk4]; rfl
    simp (config := {contextual := true, maxSteps := 5000000}) only [go_sem, false_and, Nat.reduceAdd, Nat.reduceLT, Nat.reduceBEq, Nat.reduceSub, Nat.reduceMul, Nat.reduceLeDiff, Int.reduceToNat, Nat.reduceEqDiff, Nat.reduceMod, ht, hl, hH, he, Tk.cells, hw, hw1, hk4, Int.reduceBEq, hz]
    rw [hs]
    refine ⟨⟨by omega, by omega⟩, by (refine pw_of ?_; (repeat' (first | exact trivial | apply And.intro)); all_goals (first | exact .inr rfl | exact .inr trivial | exact .inl (by kernel_rfl))), fun a => ⟨a.symm, ?_⟩, fun a => ⟨a.symm, ?_⟩⟩
    · rw [nx, if_pos (by rw [hs]; exact a)]
      exact Hp.Le.refl _
    · rw [nx, if_neg (by rw [hs, a]; simp), upd_self hH0]
      exact Hp.Le.refl _
  · have hk : (kAt l i == 4) = false := by simpa using hk4
    have hs : sgn l i c = false := by
      unfold sgn
      split
      · rename_i x hx
        have : kAt l i = x.kind := by rw [kAt, hx]
        rw [this] at hk
        rw [hk]
        rfl
      · rfl
    simp (config := {contextual := true, maxSteps := 5000000}) only [go_sem, false_and, Nat.reduceAdd, Nat.reduceLT, Nat.reduceBEq, Nat.reduceSub, Nat.reduceMul, Nat.reduceLeDiff, Int.reduceToNat, Nat.reduceEqDiff, Nat.reduceMod, ht, hl, hH, hw, hk]
    rw [nx, hs, if_neg (by simp), upd_self hH0]
    exact ⟨by (refine pw_of ?_; (repeat' (first | exact trivial | apply And.intro)); all_goals (first | exact .inr rfl | exact .inr trivial | exact .inl (by kernel_rfl))), rfl, Hp.Le.refl _⟩
theorem must_call (id : Id) (hz : id.sz = 3) (l : List Tk) (hl8 : l.length ≤ 8000) (en : Nat) (i : Nat) (hi8 : i ≤ l.length) (c : Int) (hc : 0 ≤ c ∧ c < 256) (hH : H id = some (.cells (rd l en i))) : CallO Tryz.prog w0 k 118 [.ptr id 0, .int .i32 c] H (H.upd id (some (.cells (rd l en (nx l i c))))) (if sgn l i c = true then .ret (.tup []) else .pan (stopV l en i)) := by
  refine callO tabOk Spec.no_ok mixed Tryz.func118 rfl rfl Tryz.results118 Tryz.ntmps118 (by simp) [] ?_
  intro hfr t hl ht
  simp only [At, Nat.reduceAdd, List.cons_append, List.nil_append] at ht
  simp (config := {contextual := true, maxSteps := 5000000}) only [go_sem, false_and, Nat.reduceAdd, Nat.reduceLT, Nat.reduceBEq, Nat.reduceSub, Nat.reduceMul, Nat.reduceLeDiff, Int.reduceToNat, Nat.reduceEqDiff, Nat.reduceMod, ht, hl]
  refine callK_intro (take_call id hz l hl8 en i hi8 c hc hH) ?_
  by_cases hs : sgn l i c = true
  · simp (config := {contextual := true, maxSteps := 5000000}) only [go_sem, false_and, Nat.reduceAdd, Nat.reduceLT, Nat.reduceBEq, Nat.reduceSub, Nat.reduceMul, Nat.reduceLeDiff, Int.reduceToNat, Nat.reduceEqDiff, Nat.reduceMod, hl, hs]
    exact ⟨_, rfl, Weak.refl _⟩
  · simp only [Bool.not_eq_true] at hs
    have hnx : nx l i c = i := by rw [nx, hs]; rfl
    rw [hnx]
    simp (config := {contextual := true, maxSteps := 5000000}) only [go_sem, false_and, Nat.reduceAdd, Nat.reduceLT, Nat.reduceBEq, Nat.reduceSub, Nat.reduceMul, Nat.reduceLeDiff, Int.reduceToNat, Nat.reduceEqDiff, Nat.reduceMod, ht, hl, hs]
    refine callK_out (fail_call id l en i (Hp.upd_same _ _ _)) ?_
    simp (config := {contextual := true, maxSteps := 5000000}) only [go_sem, false_and, Nat.reduceAdd, Nat.reduceLT, Nat.reduceBEq, Nat.reduceSub, Nat.reduceMul, Nat.reduceLeDiff, Int.reduceToNat, Nat.reduceEqDiff, Nat.reduceMod, hl]
    exact ⟨_, rfl, Weak.refl _⟩
theorem numberR_call (id : Id) (hz : id.sz = 3) (l : List Tk) (hl8 : l.length ≤ 8000) (en : Nat) (i : Nat) (hi8 : i ≤ l.length) (kd : Int) (hk : kd ≠ 0) (hH : H id = some (.cells (rd l en i))) : CallO Tryz.prog w0 k 120 [.ptr id 0, .int .i64 kd] H (H.upd id (some (.cells (rd l en (if kAt l i = kd then i + 1 else i))))) (if kAt l i = kd then .ret (.int .i64 (nAt l i)) else .pan (stopV l en i)) := by
  refine callO tabOk Spec.no_ok mixed Tryz.func120 rfl rfl Tryz.results120 Tryz.ntmps120 (by simp) [] ?_
  intro hfr t hl ht
  simp only [At, Nat.reduceAdd, List.cons_append, List.nil_append] at ht
  have hH0 := hH
  simp (config := {contextual := true, maxSteps := 5000000}) only [go_sem, false_and, Nat.reduceAdd, Nat.reduceLT, Nat.reduceBEq, Nat.reduceSub, Nat.reduceMul, Nat.reduceLeDiff, Int.reduceToNat, Nat.reduceEqDiff, Nat.reduceMod, ht, hl]
  refine callK_intro (is_call id l en i kd hk hH0) ?_
  simp only [rd] at hH
  by_cases h1 : kAt l i = kd
  · have hi := kAt_lt (l := l) (p := i) (by omega)
    obtain ⟨x, hx, he⟩ := tk_get l hi
    have hn : nAt l i = x.n := by rw [nAt, hx]
    have hk1 : (kAt l i == kd) = true := by simpa using h1
    have hw1 : IntKind.i64.wrap ((i : Int) + 1) = ((i + 1 : Nat) : Int) := by rw [wrap_i64] <;> omega
    have hw2 : IntKind.i64.wrap (((i + 1 : Nat) : Int) - 1) = (i : Int) := by rw [wrap_i64] <;> omega
    simp (config := {contextual := true, maxSteps := 5000000}) only [go_sem, false_and, Nat.reduceAdd, Nat.reduceLT, Nat.reduceBEq, Nat.reduceSub, Nat.reduceMul, Nat.reduceLeDiff, Int.reduceToNat, Nat.reduceEqDiff, Nat.reduceMod, hl, ht, hk1, hw1, hw2, hH, he, Tk.cells, hz]
    rw [if_pos h1, if_pos h1, hn]
    exact ⟨by kernel_rfl, ⟨by omega, by omega⟩, by (refine pw_of ?_; (repeat' (first | exact trivial | apply And.intro)); all_goals (first | exact .inr rfl | exact .inr trivial | exact .inl (by kernel_rfl))), _, rfl, Weak.refl _, Hp.Le.refl _⟩
  · have hk1 : (kAt l i == kd) = false := by simpa using h1
    simp (config := {contextual := true, maxSteps := 5000000}) only [go_sem, false_and, Nat.reduceAdd, Nat.reduceLT, Nat.reduceBEq, Nat.reduceSub, Nat.reduceMul, Nat.reduceLeDiff, Int.reduceToNat, Nat.reduceEqDiff, Nat.reduceMod, ht, hl, hk1]
    rw [if_neg h1, if_neg h1, upd_self hH0]
    refine callK_out (fail_call id l en i hH0) ?_
    simp (config := {contextual := true, maxSteps := 5000000}) only [go_sem, false_and, Nat.reduceAdd, Nat.reduceLT, Nat.reduceBEq, Nat.reduceSub, Nat.reduceMul, Nat.reduceLeDiff, Int.reduceToNat, Nat.reduceEqDiff, Nat.reduceMod, hl]
    exact ⟨_, rfl, Weak.refl _⟩
end Go.Proofs.YtkdendaohlnlcaaGreatDoor.Av

/- What the program's reader does with terms. No condition. -/
namespace Go.Proofs.YtkdendaohlnlcaaGreatDoor.Av
set_option linter.unusedVariables false
set_option linter.unusedSimpArgs false
set_option maxRecDepth 4000
set_option maxHeartbeats 1000000
variable {w0 : Base} {k : List Nat} {H : Hp}
def Got.out (l : List Tk) (en : Nat) : Got → Out
  | .ok x _ => .ret x.av
  | .no q => .pan (stopV l en q)
def kidsOut (l : List Tk) (en : Nat) : Got → Out
  | .ok x _ => .ret (.list .none (x.kids.map E.cells))
  | .no q => .pan (stopV l en q)
/-- What is known of term, at places with so few tokens behind them. -/
def TermP (w0 : Base) (l : List Tk) (en : Nat) (m : Nat) : Prop := ∀ (i : Nat) (id : Id) (k : List Nat) (H : Hp), l.length < i + m → i ≤ l.length → id.sz = 3 → H id = some (.cells (rd l en i)) →
  CallO Tryz.prog w0 k 122 [.ptr id 0] H (H.upd id (some (.cells (rd l en (tmF l m i).pos)))) ((tmF l m i).out l en)
theorem LstAt.reader {H0 Hx : Hp} {sz : Nat} {ty : TypeId} {tk : Tok} {id : Id} {e e' : Ent} (h : LstAt H0 sz ty tk Hx) (hi : H0 id = some e) : LstAt (H0.upd id (some e')) sz ty tk (Hx.upd id (some e')) := by
  refine ⟨fun j x hj => ?_, ?_⟩
  · by_cases hji : j = id
    · subst hji
      rw [Hp.upd_same] at hj ⊢
      exact hj
    · rw [Hp.upd_ne _ _ hji] at hj ⊢
      exact h.1 j x hj
  · rcases h.2 with h2 | ⟨t, h1, h2, h3, h4, h5⟩
    · exact .inl h2
    · have ht : t ≠ id := fun he => by rw [he, hi] at h3; cases h3
      exact .inr ⟨t, h1, by rw [Hp.upd_ne _ _ ht]; exact h2, by rw [Hp.upd_ne _ _ ht]; exact h3, h4, h5⟩
/-- What is left of the arguments behind a term. -/
def argT (l : List Tk) (T : Nat → Got) (c : Nat) (ks : List E) (q : Nat) : Got := if sgn l q 41 = true then .ok (.mk 0 0 ks) (q + 1) else if c = 0 ∨ sgn l q 44 = false then .no q else argL l T 0 0 c ks (q + 1)
theorem argL_T {l : List Tk} {T : Nat → Got} {c : Nat} {ks : List E} {p : Nat} : argL l T 0 0 (c + 1) ks p = match T p with
    | .no q => .no q
    | .ok x q => argT l T c (ks ++ [x]) q := by
  rw [argL]
  cases T p <;> rfl
theorem sgn_one {l : List Tk} {q : Nat} {a b : Int} (h : sgn l q a = true) (hab : a ≠ b) : sgn l q b = false := by
  unfold sgn at h ⊢
  split at h
  · rename_i t ht
    simp only [Bool.and_eq_true, beq_iff_eq] at h
    simp only [h.1, h.2, Bool.and_eq_false_iff, beq_eq_false_iff_ne]
    exact .inr hab
  · cases h
theorem argsP_step (l : List Tk) (hl8 : l.length ≤ 8000) (en m : Nat) (hT : TermP w0 l en m) (i : Nat) (id : Id) (hi : l.length < i + m) (hi2 : i ≤ l.length) (hz : id.sz = 3) (hH : H id = some (.cells (rd l en i))) :
    CallO Tryz.prog w0 k 121 [.ptr id 0] H (H.upd id (some (.cells (rd l en (argG l (tmF l m) 0 0 i).pos)))) (kidsOut l en (argG l (tmF l m) 0 0 i)) := by
  refine callO tabOk Spec.no_ok mixed Tryz.func121 rfl rfl Tryz.results121 Tryz.ntmps121 (by simp) [] ?_
  intro hfr t hl ht
  simp only [At, Nat.reduceAdd, List.cons_append, List.nil_append] at ht
  have hidn : ∀ (a b : Nat) z ty, (⟨z, a :: b :: k, ty⟩ : Id) ≠ id := fun a b z ty he => by have := hfr ⟨z, a :: b :: k, ty⟩ (sfx2 _ _ _); rw [he, hH] at this; cases this
  simp (config := {contextual := true, maxSteps := 5000000}) only [go_sem, false_and, Nat.reduceAdd, Nat.reduceLT, Nat.reduceBEq, Nat.reduceSub, Nat.reduceMul, Nat.reduceLeDiff, Int.reduceToNat, Nat.reduceEqDiff, Nat.reduceMod, ht, hl]
  refine callK_intro (take_call id hz l hl8 en i hi2 40 (by decide) hH) ?_
  by_cases hs : sgn l i 40 = true
  · have hlt := sgn_lt hs
    have hnx : nx l i 40 = i + 1 := by rw [nx, if_pos hs]
    have hG : argG l (tmF l m) 0 0 i = argL l (tmF l m) 0 0 4 [] (i + 1) := by rw [argG, if_pos hs]
    rw [hnx, hG, argL_T]
    simp (config := {contextual := true, maxSteps := 5000000}) only [go_sem, false_and, Nat.reduceAdd, Nat.reduceLT, Nat.reduceBEq, Nat.reduceSub, Nat.reduceMul, Nat.reduceLeDiff, Int.reduceToNat, Nat.reduceEqDiff, Nat.reduceMod, ht, hl, hs]
    refine callK_out (hT (i + 1) id _ _ (by omega) (by omega) hz (Hp.upd_same _ _ _)) ?_
    have hb := tmF_le l m (i + 1) (by omega)
    cases hg : tmF l m (i + 1) with
    | no q =>
      simp only [Got.out, Got.pos, kidsOut]
      simp (config := {contextual := true, maxSteps := 5000000}) only [go_sem, false_and, Nat.reduceAdd, Nat.reduceLT, Nat.reduceBEq, Nat.reduceSub, Nat.reduceMul, Nat.reduceLeDiff, Int.reduceToNat, Nat.reduceEqDiff, Nat.reduceMod, hl]
      exact ⟨_, rfl, Weak.refl _⟩
    | ok x q =>
      have hposx : (Got.ok x q).pos = q := rfl
      rw [hg] at hb
      rw [hposx] at hb ⊢
      simp only [Got.out, List.nil_append]
      obtain ⟨RR, hRR⟩ : ∃ RR : Got, RR = argT l (tmF l m) 3 [x] q := ⟨_, rfl⟩
      rw [← hRR]
      simp (config := {contextual := true, maxSteps := 5000000}) only [go_sem, false_and, Nat.reduceAdd, Nat.reduceLT, Nat.reduceBEq, Nat.reduceSub, Nat.reduceMul, Nat.reduceLeDiff, Int.reduceToNat, Nat.reduceEqDiff, Nat.reduceMod, ht, hl, strip]
      refine loop_inv tabOk Spec.no_ok mixed [] (fun c x => ∃ (ks : List E) (q : Nat) (tk : Tok), x.tmps.length = 25 ∧ x.tmps.getD 0 AV.undef = .ptr id 0 ∧ x.tmps.getD 3 AV.undef = .list tk (ks.map E.cells) ∧ ks.length + c = 4 ∧ q ≤ l.length ∧ i + 1 ≤ q ∧ LstAt (H.upd id (some (.cells (rd l en q)))) 3 25 tk x.H ∧ argT l (tmF l m) c ks q = RR) 3 ⟨[x], q, .full, ?_⟩ ?_
      · simp (config := {contextual := true, maxSteps := 5000000}) only [go_sem, false_and, Nat.reduceAdd, Nat.reduceLT, Nat.reduceBEq, Nat.reduceSub, Nat.reduceMul, Nat.reduceLeDiff, Int.reduceToNat, Nat.reduceEqDiff, Nat.reduceMod, ht, hl]
        exact ⟨by simp [E.cells_eq], hb.2, by omega, ⟨Hp.Le.refl _, .inl (.inr rfl)⟩, hRR.symm⟩
      · rintro c ⟨t, n, H2⟩ ⟨ks, q, tk, hl, h0, h3, hkc, hq, hiq, hL, hgo⟩
        simp only at hl h0 h3 hL
        have hH2 : H2 id = some (.cells (rd l en q)) := hL.1 _ _ (Hp.upd_same _ _ _)
        have hLe : ∀ e : Ent, (H.upd id (some e)).Le (H2.upd id (some e)) := fun e => by
          have := (hL.reader (e' := e) (Hp.upd_same _ _ _)).1
          rwa [upd_upd] at this
        have hfin41 : sgn l q 41 = true → (c = 0 ∨ sgn l q 44 = false) → RR = .ok (.mk 0 0 ks) (q + 1) := fun a _ => by rw [← hgo, argT, if_pos a]
        have hfinno : sgn l q 41 = false → (c = 0 ∨ sgn l q 44 = false) → RR = .no q := fun a b => by rw [← hgo, argT, if_neg (by simp [a]), if_pos b]
        cases c with
        | zero =>
          have hd : decide ((ks.length : Int) < 4) = false := by simp; omega
          simp (config := {contextual := true, maxSteps := 5000000}) only [go_sem, false_and, Nat.reduceAdd, Nat.reduceLT, Nat.reduceBEq, Nat.reduceSub, Nat.reduceMul, Nat.reduceLeDiff, Int.reduceToNat, Nat.reduceEqDiff, Nat.reduceMod, h0, h3, hl, hd]
          refine callK_out (must_call id hz l hl8 en q hq 41 (by decide) hH2) ?_
          cases h41 : sgn l q 41 with
          | true =>
            rw [hfin41 h41 (.inl rfl), if_pos rfl]
            have hnx : nx l q 41 = q + 1 := by rw [nx, if_pos h41]
            rw [hnx]
            simp (config := {contextual := true, maxSteps := 5000000}) only [go_sem, false_and, Nat.reduceAdd, Nat.reduceLT, Nat.reduceBEq, Nat.reduceSub, Nat.reduceMul, Nat.reduceLeDiff, Int.reduceToNat, Nat.reduceEqDiff, Nat.reduceMod, h0, h3, hl]
            exact ⟨_, rfl, list_weak, hLe _⟩
          | false =>
            rw [hfinno h41 (.inl rfl), if_neg (by simp)]
            have hnx : nx l q 41 = q := by rw [nx, if_neg (by simp [h41])]
            rw [hnx]
            simp (config := {contextual := true, maxSteps := 5000000}) only [go_sem, false_and, Nat.reduceAdd, Nat.reduceLT, Nat.reduceBEq, Nat.reduceSub, Nat.reduceMul, Nat.reduceLeDiff, Int.reduceToNat, Nat.reduceEqDiff, Nat.reduceMod, h0, h3, hl]
            exact ⟨_, rfl, Weak.refl _, hLe _⟩
        | succ c =>
          have hd : decide ((ks.length : Int) < 4) = true := by simp; omega
          simp (config := {contextual := true, maxSteps := 5000000}) only [go_sem, false_and, Nat.reduceAdd, Nat.reduceLT, Nat.reduceBEq, Nat.reduceSub, Nat.reduceMul, Nat.reduceLeDiff, Int.reduceToNat, Nat.reduceEqDiff, Nat.reduceMod, h0, h3, hl, hd]
          refine callK_intro (take_call id hz l hl8 en q hq 44 (by decide) hH2) ?_
          cases h44 : sgn l q 44 with
          | true =>
            have hlt := sgn_lt h44
            have h41 := sgn_one (b := 41) h44 (by decide)
            have hnx : nx l q 44 = q + 1 := by rw [nx, if_pos h44]
            have hgo2 : argL l (tmF l m) 0 0 (c + 1) ks (q + 1) = RR := by rw [← hgo, argT, if_neg (by simp [h41]), if_neg (by simp [h44])]
            rw [argL_T] at hgo2
            rw [hnx]
            simp (config := {contextual := true, maxSteps := 5000000}) only [go_sem, false_and, Nat.reduceAdd, Nat.reduceLT, Nat.reduceBEq, Nat.reduceSub, Nat.reduceMul, Nat.reduceLeDiff, Int.reduceToNat, Nat.reduceEqDiff, Nat.reduceMod, h0, h3, hl]
            refine callK_out (hT (q + 1) id _ _ (by omega) (by omega) hz (Hp.upd_same _ _ _)) ?_
            have hb := tmF_le l m (q + 1) (by omega)
            cases hg : tmF l m (q + 1) with
            | no r =>
              rw [hg] at hgo2
              simp only at hgo2
              rw [← hgo2]
              simp only [Got.out, Got.pos, kidsOut]
              simp (config := {contextual := true, maxSteps := 5000000}) only [go_sem, false_and, Nat.reduceAdd, Nat.reduceLT, Nat.reduceBEq, Nat.reduceSub, Nat.reduceMul, Nat.reduceLeDiff, Int.reduceToNat, Nat.reduceEqDiff, Nat.reduceMod, hl]
              exact ⟨_, rfl, Weak.refl _, hLe _⟩
            | ok y r =>
              rw [hg] at hgo2 hb
              simp only [Got.pos] at hgo2 hb
              simp only [Got.out, Got.pos]
              have hLr : LstAt (H.upd id (some (.cells (rd l en r)))) 3 25 tk (H2.upd id (some (.cells (rd l en r)))) := by
                have := hL.reader (e' := .cells (rd l en r)) (Hp.upd_same _ _ _)
                rwa [upd_upd] at this
              have hfN : ∀ (a b : Nat) z ty, (H.upd id (some (.cells (rd l en r)))) ⟨z, a :: b :: k, ty⟩ = none := fun a b z ty => by
                rw [Hp.upd_ne _ _ (hidn a b z ty)]
                exact hfr _ (sfx2 _ _ _)
              simp (config := {contextual := true, maxSteps := 5000000}) only [go_sem, false_and, Nat.reduceAdd, Nat.reduceLT, Nat.reduceBEq, Nat.reduceSub, Nat.reduceMul, Nat.reduceLeDiff, Int.reduceToNat, Nat.reduceEqDiff, Nat.reduceMod, h0, h3, hl, strip]
              refine ⟨fun z h => by rcases h with rfl | h; rfl; exact h.elim, fun z h => by obtain ⟨e, _, rfl⟩ := List.mem_map.1 h; exact E.cells_length e, rfl, by omega, by omega, hLr.live, c, rfl, ks ++ [y], r, _, by rw [List.map_append, List.map_cons, E.cells_eq y]; rfl, by simp; omega, hb.2, by omega, hLr.push (hfN _ _ _ _), hgo2⟩
          | false =>
            have hnx : nx l q 44 = q := by rw [nx, if_neg (by simp [h44])]
            rw [hnx, upd_self hH2]
            simp (config := {contextual := true, maxSteps := 5000000}) only [go_sem, false_and, Nat.reduceAdd, Nat.reduceLT, Nat.reduceBEq, Nat.reduceSub, Nat.reduceMul, Nat.reduceLeDiff, Int.reduceToNat, Nat.reduceEqDiff, Nat.reduceMod, h0, h3, hl]
            refine callK_out (must_call id hz l hl8 en q hq 41 (by decide) hH2) ?_
            cases h41 : sgn l q 41 with
            | true =>
              rw [hfin41 h41 (.inr h44), if_pos rfl]
              have hnx : nx l q 41 = q + 1 := by rw [nx, if_pos h41]
              rw [hnx]
              simp (config := {contextual := true, maxSteps := 5000000}) only [go_sem, false_and, Nat.reduceAdd, Nat.reduceLT, Nat.reduceBEq, Nat.reduceSub, Nat.reduceMul, Nat.reduceLeDiff, Int.reduceToNat, Nat.reduceEqDiff, Nat.reduceMod, h0, h3, hl]
              exact ⟨_, rfl, list_weak, hLe _⟩
            | false =>
              rw [hfinno h41 (.inr h44), if_neg (by simp)]
              have hnx : nx l q 41 = q := by rw [nx, if_neg (by simp [h41])]
              rw [hnx]
              simp (config := {contextual := true, maxSteps := 5000000}) only [go_sem, false_and, Nat.reduceAdd, Nat.reduceLT, Nat.reduceBEq, Nat.reduceSub, Nat.reduceMul, Nat.reduceLeDiff, Int.reduceToNat, Nat.reduceEqDiff, Nat.reduceMod, h0, h3, hl]
              exact ⟨_, rfl, Weak.refl _, hLe _⟩
  · simp only [Bool.not_eq_true] at hs
    have hnx : nx l i 40 = i := by rw [nx, hs]; rfl
    have hG : argG l (tmF l m) 0 0 i = .ok (.mk 0 0 []) i := by rw [argG, hs]; rfl
    rw [hnx, hG]
    simp (config := {contextual := true, maxSteps := 5000000}) only [go_sem, false_and, Nat.reduceAdd, Nat.reduceLT, Nat.reduceBEq, Nat.reduceSub, Nat.reduceMul, Nat.reduceLeDiff, Int.reduceToNat, Nat.reduceEqDiff, Nat.reduceMod, ht, hl, hs]
    exact ⟨_, rfl, list_weak (xs := []), Hp.Le.refl _⟩
end Go.Proofs.YtkdendaohlnlcaaGreatDoor.Av

/- What the program's reader does with terms, whole. No condition. -/
namespace Go.Proofs.YtkdendaohlnlcaaGreatDoor.Av
set_option linter.unusedVariables false
set_option linter.unusedSimpArgs false
set_option maxRecDepth 4000
set_option maxHeartbeats 1000000
variable {w0 : Base} {k : List Nat} {H : Hp}
def Got.as (kd id : Int) : Got → Got
  | .ok x q => .ok (.mk kd id x.kids) q
  | .no q => .no q
theorem argL_as {l : List Tk} {T : Nat → Got} {kd id : Int} : ∀ c ks p, argL l T kd id c ks p = (argL l T 0 0 c ks p).as kd id
  | 0, ks, p => rfl
  | c + 1, ks, p => by
    rw [argL, argL]
    cases T p with
    | no q => rfl
    | ok x q =>
      simp only
      split
      · rfl
      · split
        · rfl
        · exact argL_as c _ _
theorem argG_as {l : List Tk} {T : Nat → Got} {kd id : Int} {p : Nat} : argG l T kd id p = (argG l T 0 0 p).as kd id := by
  unfold argG
  split
  · exact argL_as _ _ _
  · rfl
theorem as_pos {kd id : Int} {g : Got} : (g.as kd id).pos = g.pos := by cases g <;> rfl
theorem mk_weak {kd id : Int} : Weak (.agg [.int .i64 kd, .int .i64 id, .list .nil []]) (E.mk kd id []).av := WeakL.agg ⟨_, _, rfl, Weak.refl _, _, _, rfl, Weak.refl _, _, _, rfl, list_weak (xs := []), rfl⟩
theorem termP_step (l : List Tk) (hl8 : l.length ≤ 8000) (en m : Nat) (hT : TermP w0 l en m) : TermP w0 l en (m + 1) := by
  intro i id k H hi hi2 hz hH
  refine callO tabOk Spec.no_ok mixed Tryz.func122 rfl rfl Tryz.results122 Tryz.ntmps122 (by simp) [] ?_
  intro hfr t hl ht
  simp only [At, Nat.reduceAdd, List.cons_append, List.nil_append] at ht
  have fN : ∀ (a b : Nat) z ty, H ⟨z, a :: b :: k, ty⟩ = none := fun a b z ty => hfr _ (sfx2 _ _ _)
  have hidn : ∀ (a b : Nat) z ty, (⟨z, a :: b :: k, ty⟩ : Id) ≠ id := fun a b z ty he => by have := fN a b z ty; rw [he, hH] at this; cases this
  have hid1 : (id = ⟨3, 0 :: 0 :: k, 25⟩) = False := by simp; exact fun h => hidn 0 0 3 _ h.symm
  have hid2 : ((⟨3, 0 :: 0 :: k, 25⟩ : Id) = id) = False := by simp; exact fun h => hidn 0 0 3 _ h
  have hLe : ∀ (X : Id) (e e2 e3 : Option Ent), H X = none → X ≠ id → (H.upd id e).Le (((H.upd X e2).upd id e).upd X e3) := fun X e e2 e3 hX hne j y hj => by
    by_cases h1 : j = id
    · subst h1
      rw [Hp.upd_ne _ _ (Ne.symm hne), Hp.upd_same]
      rw [Hp.upd_same] at hj
      exact hj
    · rw [Hp.upd_ne _ _ h1] at hj
      have h2 : j ≠ X := fun h => by rw [h, hX] at hj; cases hj
      rw [Hp.upd_ne _ _ h2, Hp.upd_ne _ _ h1, Hp.upd_ne _ _ h2]
      exact hj
  have hLe2 : ∀ (X : Id) (e e2 : Option Ent), H X = none → X ≠ id → (H.upd id e).Le ((H.upd X e2).upd id e) := fun X e e2 hX hne j y hj => by
    by_cases h1 : j = id
    · subst h1
      rw [Hp.upd_same] at hj ⊢
      exact hj
    · rw [Hp.upd_ne _ _ h1] at hj ⊢
      have h2 : j ≠ X := fun h => by rw [h, hX] at hj; cases hj
      rw [Hp.upd_ne _ _ h2]
      exact hj
  have hH1 : ∀ e, (H.upd ⟨3, 0 :: 0 :: k, 25⟩ e) id = some (.cells (rd l en i)) := fun e => by rw [Hp.upd_ne _ _ (Ne.symm (hidn 0 0 3 _))]; exact hH
  rw [tmF]
  simp (config := {contextual := true, maxSteps := 5000000}) only [go_sem, false_and, Nat.reduceAdd, Nat.reduceLT, Nat.reduceBEq, Nat.reduceSub, Nat.reduceMul, Nat.reduceLeDiff, Int.reduceToNat, Nat.reduceEqDiff, Nat.reduceMod, ht, hl]
  refine callK_intro (is_call id l en i 1 (by decide) (hH1 _)) ?_
  by_cases h1 : kAt l i = 1
  · have e1 : (kAt l i == 1) = true := by simpa using h1
    rw [if_pos h1]
    simp (config := {contextual := true, maxSteps := 5000000}) only [go_sem, false_and, Nat.reduceAdd, Nat.reduceLT, Nat.reduceBEq, Nat.reduceSub, Nat.reduceMul, Nat.reduceLeDiff, Int.reduceToNat, Nat.reduceEqDiff, Nat.reduceMod, ht, hl, e1]
    refine callK_out (numberR_call id hz l hl8 en i hi2 1 (by decide) (hH1 _)) ?_
    rw [if_pos h1, if_pos h1]
    simp (config := {contextual := true, maxSteps := 5000000}) only [go_sem, false_and, Nat.reduceAdd, Nat.reduceLT, Nat.reduceBEq, Nat.reduceSub, Nat.reduceMul, Nat.reduceLeDiff, Int.reduceToNat, Nat.reduceEqDiff, Nat.reduceMod, ht, hl, hid1, hid2]
    exact ⟨_, rfl, mk_weak, hLe _ _ _ _ (fN _ _ _ _) (hidn _ _ _ _)⟩
  · have e1 : (kAt l i == 1) = false := by simpa using h1
    rw [if_neg h1]
    simp (config := {contextual := true, maxSteps := 5000000}) only [go_sem, false_and, Nat.reduceAdd, Nat.reduceLT, Nat.reduceBEq, Nat.reduceSub, Nat.reduceMul, Nat.reduceLeDiff, Int.reduceToNat, Nat.reduceEqDiff, Nat.reduceMod, ht, hl, e1]
    refine callK_out (numberR_call id hz l hl8 en i hi2 2 (by decide) (hH1 _)) ?_
    by_cases h2 : kAt l i = 2
    · have hlt := kAt_lt (l := l) (p := i) (by omega)
      rw [if_pos h2, if_pos h2, if_pos h2]
      simp (config := {contextual := true, maxSteps := 5000000}) only [go_sem, false_and, Nat.reduceAdd, Nat.reduceLT, Nat.reduceBEq, Nat.reduceSub, Nat.reduceMul, Nat.reduceLeDiff, Int.reduceToNat, Nat.reduceEqDiff, Nat.reduceMod, ht, hl]
      refine callK_out (argsP_step l hl8 en m hT (i + 1) id (by omega) (by omega) hz (Hp.upd_same _ _ _)) ?_
      rw [argG_as (kd := 2), as_pos]
      cases hg : argG l (tmF l m) 0 0 (i + 1) with
      | no q =>
        simp only [kidsOut, Got.as, Got.out, Got.pos]
        simp (config := {contextual := true, maxSteps := 5000000}) only [go_sem, false_and, Nat.reduceAdd, Nat.reduceLT, Nat.reduceBEq, Nat.reduceSub, Nat.reduceMul, Nat.reduceLeDiff, Int.reduceToNat, Nat.reduceEqDiff, Nat.reduceMod, hl]
        exact ⟨_, rfl, Weak.refl _, hLe2 _ _ _ (fN _ _ _ _) (hidn _ _ _ _)⟩
      | ok x q =>
        simp only [kidsOut, Got.as, Got.out, Got.pos]
        simp (config := {contextual := true, maxSteps := 5000000}) only [go_sem, false_and, Nat.reduceAdd, Nat.reduceLT, Nat.reduceBEq, Nat.reduceSub, Nat.reduceMul, Nat.reduceLeDiff, Int.reduceToNat, Nat.reduceEqDiff, Nat.reduceMod, ht, hl, hid1, hid2]
        exact ⟨_, rfl, Weak.refl _, hLe _ _ _ _ (fN _ _ _ _) (hidn _ _ _ _)⟩
    · rw [if_neg h2, if_neg h2, if_neg h2]
      simp (config := {contextual := true, maxSteps := 5000000}) only [go_sem, false_and, Nat.reduceAdd, Nat.reduceLT, Nat.reduceBEq, Nat.reduceSub, Nat.reduceMul, Nat.reduceLeDiff, Int.reduceToNat, Nat.reduceEqDiff, Nat.reduceMod, ht, hl]
      exact ⟨_, rfl, Weak.refl _, hLe2 _ _ _ (fN _ _ _ _) (hidn _ _ _ _)⟩
theorem termP (l : List Tk) (hl8 : l.length ≤ 8000) (en : Nat) : ∀ m, TermP w0 l en m
  | 0 => fun i id k H h1 h2 _ _ => by omega
  | m + 1 => termP_step l hl8 en m (termP l hl8 en m)
end Go.Proofs.YtkdendaohlnlcaaGreatDoor.Av

/- What the program's reader does with formulas. No condition. -/
namespace Go.Proofs.YtkdendaohlnlcaaGreatDoor.Av
set_option linter.unusedVariables false
set_option linter.unusedSimpArgs false
set_option maxRecDepth 4000
set_option maxHeartbeats 1000000
variable {w0 : Base} {k : List Nat} {H : Hp}
/-- The same cells apart from one variable. -/
def LeX (id : Id) (A B : Hp) : Prop := ∀ j y, j ≠ id → A j = some y → B j = some y
theorem LeX.refl {id : Id} {A : Hp} : LeX id A A := fun _ _ _ h => h
theorem LeX.same {id : Id} {A B : Hp} {e : Option Ent} (h : LeX id A B) : LeX id A (B.upd id e) := fun j y hj ha => by rw [Hp.upd_ne _ _ hj]; exact h j y hj ha
theorem LeX.new {id X : Id} {A B : Hp} {e : Option Ent} (h : LeX id A B) (hX : A X = none) : LeX id A (B.upd X e) := fun j y hj ha => by
  rw [Hp.upd_ne _ _ (fun he => by rw [he, hX] at ha; cases ha)]
  exact h j y hj ha
theorem le_of {id : Id} {A B : Hp} {e : Ent} (h1 : B id = some e) (h2 : LeX id A B) : (A.upd id (some e)).Le B := fun j y hj => by
  by_cases h : j = id
  · subst h
    rw [Hp.upd_same] at hj
    rw [← hj]; exact h1
  · rw [Hp.upd_ne _ _ h] at hj
    exact h2 j y h hj
theorem mk1_weak {kd id : Int} {a : E} {tk : Tok} : Weak (.agg [.int .i64 kd, .int .i64 id, .list tk [[.int .i64 a.kind, .int .i64 a.id, .list .none (a.kids.map E.cells)]]]) (E.mk kd id [a]).av := by
  have h : [[AV.int .i64 a.kind, .int .i64 a.id, .list .none (a.kids.map E.cells)]] = [a].map E.cells := by simp only [List.map_cons, List.map_nil, E.cells_eq]
  rw [h]
  exact WeakL.agg ⟨_, _, rfl, Weak.refl _, _, _, rfl, Weak.refl _, _, _, rfl, list_weak, rfl⟩
theorem mk2_weak {kd id : Int} {a b : E} {tk : Tok} : Weak (.agg [.int .i64 kd, .int .i64 id, .list tk [[.int .i64 a.kind, .int .i64 a.id, .list .none (a.kids.map E.cells)], [.int .i64 b.kind, .int .i64 b.id, .list .none (b.kids.map E.cells)]]]) (E.mk kd id [a, b]).av := by
  have h : [[AV.int .i64 a.kind, .int .i64 a.id, .list .none (a.kids.map E.cells)], [AV.int .i64 b.kind, .int .i64 b.id, .list .none (b.kids.map E.cells)]] = [a, b].map E.cells := by simp only [List.map_cons, List.map_nil, E.cells_eq]
  rw [h]
  exact WeakL.agg ⟨_, _, rfl, Weak.refl _, _, _, rfl, Weak.refl _, _, _, rfl, list_weak, rfl⟩
theorem jointR_call (id : Id) (hz : id.sz = 3) (l : List Tk) (hl8 : l.length ≤ 8000) (en : Nat) (i : Nat) (hi8 : i ≤ l.length) (hH : H id = some (.cells (rd l en i))) : CallO Tryz.prog w0 k 117 [.ptr id 0] H (H.upd id (some (.cells (rd l en (if jnt l i = 0 then i else i + 1))))) (if jnt l i = 0 then .pan (stopV l en i) else .ret (.int .i64 (jnt l i))) := by
  refine callO tabOk Spec.no_ok mixed Tryz.func117 rfl rfl Tryz.results117 Tryz.ntmps117 (by simp) [] ?_
  intro hfr t hl ht
  simp only [At, Nat.reduceAdd, List.cons_append, List.nil_append] at ht
  simp (config := {contextual := true, maxSteps := 5000000}) only [go_sem, false_and, Nat.reduceAdd, Nat.reduceLT, Nat.reduceBEq, Nat.reduceSub, Nat.reduceMul, Nat.reduceLeDiff, Int.reduceToNat, Nat.reduceEqDiff, Nat.reduceMod, ht, hl]
  refine callK_intro (take_call id hz l hl8 en i hi8 62 (by decide) hH) ?_
  cases h6 : sgn l i 62 with
  | true =>
    have hj : jnt l i = 6 := by rw [jnt, if_pos h6]
    have hnx : nx l i 62 = i + 1 := by rw [nx, if_pos h6]
    rw [hj, hnx]
    simp (config := {contextual := true, maxSteps := 5000000}) only [go_sem, false_and, Nat.reduceAdd, Nat.reduceLT, Nat.reduceBEq, Nat.reduceSub, Nat.reduceMul, Nat.reduceLeDiff, Int.reduceToNat, Nat.reduceEqDiff, Nat.reduceMod, ht, hl]
    exact ⟨_, rfl, Weak.refl _, Hp.Le.refl _⟩
  | false =>
    have hnx : nx l i 62 = i := by rw [nx, if_neg (by simp [h6])]
    rw [hnx, upd_self hH]
    simp (config := {contextual := true, maxSteps := 5000000}) only [go_sem, false_and, Nat.reduceAdd, Nat.reduceLT, Nat.reduceBEq, Nat.reduceSub, Nat.reduceMul, Nat.reduceLeDiff, Int.reduceToNat, Nat.reduceEqDiff, Nat.reduceMod, ht, hl]
    refine callK_intro (take_call id hz l hl8 en i hi8 38 (by decide) hH) ?_
    cases h8 : sgn l i 38 with
    | true =>
      have hj : jnt l i = 8 := by rw [jnt, if_neg (by simp [h6]), if_pos h8]
      have hnx : nx l i 38 = i + 1 := by rw [nx, if_pos h8]
      rw [hj, hnx]
      simp (config := {contextual := true, maxSteps := 5000000}) only [go_sem, false_and, Nat.reduceAdd, Nat.reduceLT, Nat.reduceBEq, Nat.reduceSub, Nat.reduceMul, Nat.reduceLeDiff, Int.reduceToNat, Nat.reduceEqDiff, Nat.reduceMod, ht, hl]
      exact ⟨_, rfl, Weak.refl _, Hp.Le.refl _⟩
    | false =>
      have hnx : nx l i 38 = i := by rw [nx, if_neg (by simp [h8])]
      rw [hnx, upd_self hH]
      simp (config := {contextual := true, maxSteps := 5000000}) only [go_sem, false_and, Nat.reduceAdd, Nat.reduceLT, Nat.reduceBEq, Nat.reduceSub, Nat.reduceMul, Nat.reduceLeDiff, Int.reduceToNat, Nat.reduceEqDiff, Nat.reduceMod, ht, hl]
      refine callK_out (must_call id hz l hl8 en i hi8 124 (by decide) hH) ?_
      cases h9 : sgn l i 124 with
      | true =>
        have hj : jnt l i = 9 := by rw [jnt, if_neg (by simp [h6]), if_neg (by simp [h8]), if_pos h9]
        have hnx : nx l i 124 = i + 1 := by rw [nx, if_pos h9]
        rw [hj, hnx]
        simp (config := {contextual := true, maxSteps := 5000000}) only [go_sem, false_and, Nat.reduceAdd, Nat.reduceLT, Nat.reduceBEq, Nat.reduceSub, Nat.reduceMul, Nat.reduceLeDiff, Int.reduceToNat, Nat.reduceEqDiff, Nat.reduceMod, ht, hl]
        exact ⟨_, rfl, Weak.refl _, Hp.Le.refl _⟩
      | false =>
        have hj : jnt l i = 0 := by rw [jnt, if_neg (by simp [h6]), if_neg (by simp [h8]), if_neg (by simp [h9])]
        have hnx : nx l i 124 = i := by rw [nx, if_neg (by simp [h9])]
        rw [hj, hnx]
        simp (config := {contextual := true, maxSteps := 5000000}) only [go_sem, false_and, Nat.reduceAdd, Nat.reduceLT, Nat.reduceBEq, Nat.reduceSub, Nat.reduceMul, Nat.reduceLeDiff, Int.reduceToNat, Nat.reduceEqDiff, Nat.reduceMod, ht, hl]
        exact ⟨_, rfl, Weak.refl _⟩
/-- What is known of formula, at places with so few tokens behind them. -/
def FormP (w0 : Base) (l : List Tk) (en : Nat) (m : Nat) : Prop := ∀ (i : Nat) (id : Id) (k : List Nat) (H : Hp), l.length < i + m → i ≤ l.length → id.sz = 3 → H id = some (.cells (rd l en i)) →
  CallO Tryz.prog w0 k 81 [.ptr id 0] H (H.upd id (some (.cells (rd l en (fmF l m i).pos)))) ((fmF l m i).out l en)
theorem bound_step (l : List Tk) (hl8 : l.length ≤ 8000) (en m : Nat) (hF : FormP w0 l en m) (kd : Int) (i : Nat) (id : Id) (hi : l.length < i + m) (hi2 : i ≤ l.length) (hz : id.sz = 3) (hH : H id = some (.cells (rd l en i))) :
    CallO Tryz.prog w0 k 116 [.ptr id 0, .int .i64 kd] H (H.upd id (some (.cells (rd l en (fQ l (fmF l m) kd i).pos)))) ((fQ l (fmF l m) kd i).out l en) := by
  refine callO tabOk Spec.no_ok mixed Tryz.func116 rfl rfl Tryz.results116 Tryz.ntmps116 (by simp) [] ?_
  intro hfr t hl ht
  simp only [At, Nat.reduceAdd, List.cons_append, List.nil_append] at ht
  have fN : ∀ (a b : Nat) z ty, H ⟨z, a :: b :: k, ty⟩ = none := fun a b z ty => hfr _ (sfx2 _ _ _)
  have hidn : ∀ (a b : Nat) z ty, (⟨z, a :: b :: k, ty⟩ : Id) ≠ id := fun a b z ty he => by have := fN a b z ty; rw [he, hH] at this; cases this
  have hA : ∀ (a b : Nat) z ty, ((⟨z, a :: b :: k, ty⟩ : Id) = id) = False := fun a b z ty => by simp only [hidn]
  have hB : ∀ (a b : Nat) z ty, (id = (⟨z, a :: b :: k, ty⟩ : Id)) = False := fun a b z ty => by simp only [(hidn a b z ty).symm]
  unfold fQ
  simp (config := {contextual := true, maxSteps := 5000000}) only [go_sem, false_and, Nat.reduceAdd, Nat.reduceLT, Nat.reduceBEq, Nat.reduceSub, Nat.reduceMul, Nat.reduceLeDiff, Int.reduceToNat, Nat.reduceEqDiff, Nat.reduceMod, ht, hl, hA, hB]
  refine callK_out (numberR_call id hz l hl8 en i hi2 1 (by decide) (by simp (config := {contextual := true, maxSteps := 5000000}) only [go_sem, false_and, Nat.reduceAdd, Nat.reduceLT, Nat.reduceBEq, Nat.reduceSub, Nat.reduceMul, Nat.reduceLeDiff, Int.reduceToNat, Nat.reduceEqDiff, Nat.reduceMod, hA, hB, hH])) ?_
  by_cases h1 : kAt l i = 1
  · have hlt := kAt_lt (l := l) (p := i) (by omega)
    rw [if_pos h1, if_pos h1, if_pos h1]
    simp (config := {contextual := true, maxSteps := 5000000}) only [go_sem, false_and, Nat.reduceAdd, Nat.reduceLT, Nat.reduceBEq, Nat.reduceSub, Nat.reduceMul, Nat.reduceLeDiff, Int.reduceToNat, Nat.reduceEqDiff, Nat.reduceMod, ht, hl, hA, hB]
    refine callK_out (hF (i + 1) id _ _ (by omega) (by omega) hz (by simp (config := {contextual := true, maxSteps := 5000000}) only [go_sem, false_and, Nat.reduceAdd, Nat.reduceLT, Nat.reduceBEq, Nat.reduceSub, Nat.reduceMul, Nat.reduceLeDiff, Int.reduceToNat, Nat.reduceEqDiff, Nat.reduceMod, hA, hB])) ?_
    cases hg : fmF l m (i + 1) with
    | no q =>
      simp only [Got.out, Got.pos]
      simp (config := {contextual := true, maxSteps := 5000000}) only [go_sem, false_and, Nat.reduceAdd, Nat.reduceLT, Nat.reduceBEq, Nat.reduceSub, Nat.reduceMul, Nat.reduceLeDiff, Int.reduceToNat, Nat.reduceEqDiff, Nat.reduceMod, ht, hl, hA, hB]
      exact ⟨_, rfl, Weak.refl _, (le_of (by (first | rfl | exact hH | (simp (config := {contextual := true, maxSteps := 5000000}) only [go_sem, false_and, Nat.reduceAdd, Nat.reduceLT, Nat.reduceBEq, Nat.reduceSub, Nat.reduceMul, Nat.reduceLeDiff, Int.reduceToNat, Nat.reduceEqDiff, Nat.reduceMod, hA, hB]; done) | (simp (config := {contextual := true, maxSteps := 5000000}) only [go_sem, false_and, Nat.reduceAdd, Nat.reduceLT, Nat.reduceBEq, Nat.reduceSub, Nat.reduceMul, Nat.reduceLeDiff, Int.reduceToNat, Nat.reduceEqDiff, Nat.reduceMod, hA, hB]; exact hH) | (simp (config := {contextual := true, maxSteps := 5000000}) only [go_sem, false_and, Nat.reduceAdd, Nat.reduceLT, Nat.reduceBEq, Nat.reduceSub, Nat.reduceMul, Nat.reduceLeDiff, Int.reduceToNat, Nat.reduceEqDiff, Nat.reduceMod, hA, hB]; rfl))) (by repeat (first | exact LeX.refl | refine LeX.same ?_ | refine LeX.new ?_ (fN _ _ _ _))))⟩
    | ok x q =>
      simp only [Got.out, Got.pos]
      simp (config := {contextual := true, maxSteps := 5000000}) only [go_sem, false_and, Nat.reduceAdd, Nat.reduceLT, Nat.reduceBEq, Nat.reduceSub, Nat.reduceMul, Nat.reduceLeDiff, Int.reduceToNat, Nat.reduceEqDiff, Nat.reduceMod, ht, hl, hA, hB, strip]
      exact ⟨_, rfl, mk1_weak, (le_of (by (first | rfl | exact hH | (simp (config := {contextual := true, maxSteps := 5000000}) only [go_sem, false_and, Nat.reduceAdd, Nat.reduceLT, Nat.reduceBEq, Nat.reduceSub, Nat.reduceMul, Nat.reduceLeDiff, Int.reduceToNat, Nat.reduceEqDiff, Nat.reduceMod, hA, hB]; done) | (simp (config := {contextual := true, maxSteps := 5000000}) only [go_sem, false_and, Nat.reduceAdd, Nat.reduceLT, Nat.reduceBEq, Nat.reduceSub, Nat.reduceMul, Nat.reduceLeDiff, Int.reduceToNat, Nat.reduceEqDiff, Nat.reduceMod, hA, hB]; exact hH) | (simp (config := {contextual := true, maxSteps := 5000000}) only [go_sem, false_and, Nat.reduceAdd, Nat.reduceLT, Nat.reduceBEq, Nat.reduceSub, Nat.reduceMul, Nat.reduceLeDiff, Int.reduceToNat, Nat.reduceEqDiff, Nat.reduceMod, hA, hB]; rfl))) (by repeat (first | exact LeX.refl | refine LeX.same ?_ | refine LeX.new ?_ (fN _ _ _ _))))⟩
  · rw [if_neg h1, if_neg h1, if_neg h1]
    simp (config := {contextual := true, maxSteps := 5000000}) only [go_sem, false_and, Nat.reduceAdd, Nat.reduceLT, Nat.reduceBEq, Nat.reduceSub, Nat.reduceMul, Nat.reduceLeDiff, Int.reduceToNat, Nat.reduceEqDiff, Nat.reduceMod, ht, hl, hA, hB]
    exact ⟨_, rfl, Weak.refl _, (le_of (by (first | rfl | exact hH | (simp (config := {contextual := true, maxSteps := 5000000}) only [go_sem, false_and, Nat.reduceAdd, Nat.reduceLT, Nat.reduceBEq, Nat.reduceSub, Nat.reduceMul, Nat.reduceLeDiff, Int.reduceToNat, Nat.reduceEqDiff, Nat.reduceMod, hA, hB]; done) | (simp (config := {contextual := true, maxSteps := 5000000}) only [go_sem, false_and, Nat.reduceAdd, Nat.reduceLT, Nat.reduceBEq, Nat.reduceSub, Nat.reduceMul, Nat.reduceLeDiff, Int.reduceToNat, Nat.reduceEqDiff, Nat.reduceMod, hA, hB]; exact hH) | (simp (config := {contextual := true, maxSteps := 5000000}) only [go_sem, false_and, Nat.reduceAdd, Nat.reduceLT, Nat.reduceBEq, Nat.reduceSub, Nat.reduceMul, Nat.reduceLeDiff, Int.reduceToNat, Nat.reduceEqDiff, Nat.reduceMod, hA, hB]; rfl))) (by repeat (first | exact LeX.refl | refine LeX.same ?_ | refine LeX.new ?_ (fN _ _ _ _))))⟩
end Go.Proofs.YtkdendaohlnlcaaGreatDoor.Av
