/- How a function's text is gone through by simp: rules that look at the state alone; what comes behind is a closed word. No condition. -/
import Derived.Test.YtkdendaohlnlcaaDoorTab
namespace Go.Proofs.YtkdendaohlnlcaaDoor.Av
set_option linter.unusedVariables false
set_option linter.unusedSimpArgs false

section
variable (P : Program) (tb : Tab) (Sp : Spec) (w0 : Base) (ro : Option Nat) (mb : List Tmp)
def thenL (p : List Nat) (b : Code) (R : AEx → FS → Prop) : AEx → FS → Prop := thenR (fun s => vc P tb Sp w0 ro mb p b s R) R
def blkL (id : Nat) (R : AEx → FS → Prop) : AEx → FS → Prop := blockR id R
def blkB (same : Bool) (j : Nat) (R : AEx → FS → Prop) (s : FS) : Prop := bif same then R .normal s else R (.exit j) s
def regL (R : AEx → FS → Prop) (n : Nat) : S → Prop := fun s' => R .normal ⟨s'.tmps, n + 1, s'.H⟩
def regD (ops : Array Oper) (R : AEx → FS → Prop) (n : Nat) : List (Nat × Ev) → S → Prop := fun evs s' => evs.Pairwise (fun x y => (beforeB ops y.1).testBit x.1 = true ∨ compat x.2 y.2) ∧ R .normal ⟨s'.tmps, n + 1, s'.H⟩
def seqL (ops : Array Oper) (kp : List Nat) (l : List Oper) (i : Nat) (t : List AV) (H : Hp) (K : S → Prop) : Prop := vcSeq P tb Sp w0 mb ops kp (l.zipIdx i) ⟨t, H⟩ K
def stepL (ops : Array Oper) (kp : List Nat) (l : List Oper) (i : Nat) (dst : Option Tmp) (t : List AV) (H : Hp) (K : S → Prop) : Ev → Prop := fun ev => vcSeq P tb Sp w0 mb ops kp (l.zipIdx i) ⟨putA t dst ev.out, ev.post H⟩ K
def drawL (ops : Array Oper) (kp : List Nat) (l : List Oper) (i : Nat) (t : List AV) (H : Hp) (acc : List (Nat × Ev)) (K : List (Nat × Ev) → S → Prop) : Prop := vcDraw P tb Sp w0 mb ops kp (l.zipIdx i) ⟨t, H⟩ fun evs s => K (acc ++ evs) s
def dstepL (ops : Array Oper) (kp : List Nat) (l : List Oper) (i idx : Nat) (dst : Option Tmp) (t : List AV) (H : Hp) (acc : List (Nat × Ev)) (K : List (Nat × Ev) → S → Prop) : Ev → Prop := fun ev => vcDraw P tb Sp w0 mb ops kp (l.zipIdx i) ⟨putA t dst ev.out, ev.post H⟩ fun evs s => K (acc ++ (if ev.loud then (idx, ev) :: evs else evs)) s
def condL (p : List Nat) (a b : Code) (s : FS) (R : AEx → FS → Prop) (v : AV) : Prop := match v with
  | .raw (.bool t) => (t = true → vc P tb Sp w0 ro mb p a s R) ∧ (t = false → vc P tb Sp w0 ro mb p b s R)
  | _ => False
def guardL (draw : Bool) (key : List Nat) (o : Oper) (t : List AV) (H : Hp) (K : Ev → Prop) (want : Bool) (inn : Prop) (v : AV) : Prop := match v with
  | .raw (.bool b) => inn ∧ ((b == want) = true → vcOp P tb Sp w0 mb draw key o t H K) ∧ ((b == want) = false → K (.val AV.undef))
  | .raw (.tuple ⟨[]⟩) => inn ∧ K (.val AV.undef)
  | _ => False
end

section
variable {P : Program} {tb : Tab} {Sp : Spec} {w0 : Base} {ro : Option Nat} {mb : List Tmp} {p kp key : List Nat} {ops : Array Oper} {t : List AV} {H : Hp} {n : Nat} {R : AEx → FS → Prop}
@[go_sem] theorem vc_skip {s : FS} : vc P tb Sp w0 ro mb p .skip s R = R .normal s := rfl
@[go_sem] theorem vc_label {l : Nat} {s : FS} : vc P tb Sp w0 ro mb p (.label l) s R = R .normal s := rfl
@[go_sem] theorem vc_exit {i : Nat} {s : FS} : vc P tb Sp w0 ro mb p (.exit i) s R = R (.exit i) s := rfl
@[go_sem] theorem vc_ret {s : FS} : vc P tb Sp w0 ro mb p .ret s R = R .ret s := rfl
@[go_sem] theorem vc_block {i : Nat} {c : Code} {s : FS} : vc P tb Sp w0 ro mb p (.block i c) s R = vc P tb Sp w0 ro mb p c s (blkL i R) := rfl
@[go_sem] theorem vc_loop {c : Code} {s : FS} : vc P tb Sp w0 ro mb p (.loop c) s R = LoopOk P w0 ro p c s R := rfl
@[go_sem] theorem vc_scope {c : Code} {s : FS} : vc P tb Sp w0 none mb p (.scope c) s R = vc P tb Sp w0 none mb p c s R := by simp [vc]
@[go_sem] theorem vc_rangeFunc {f : Operand} {ps : Array Tmp} {a b : Code} {s : FS} : vc P tb Sp w0 ro mb p (.rangeFunc f ps a b) s R = DetOk P w0 ro p (.rangeFunc f ps a b) s R := rfl
@[go_sem] theorem vc_seq {a b : Code} {s : FS} : vc P tb Sp w0 ro mb p (.seq a b) s R = vc P tb Sp w0 ro mb p a s (thenL P tb Sp w0 ro mb p b R) := rfl
@[go_sem] theorem vc_cond {c : Operand} {a b : Code} : vc P tb Sp w0 ro mb p (.cond c a b) ⟨t, n, H⟩ R = condL P tb Sp w0 ro mb p a b ⟨t, n, H⟩ R (evA t c) := rfl
@[go_sem] theorem vc_plain {i : Nat} {l : List Oper} : vc P tb Sp w0 ro mb p (.region i l.toArray false) ⟨t, n, H⟩ R = seqL P tb Sp w0 mb l.toArray (n :: p) l 0 t H (regL R n) := rfl
@[go_sem] theorem vc_drawn {i : Nat} {l : List Oper} : vc P tb Sp w0 ro mb p (.region i l.toArray true) ⟨t, n, H⟩ R = (drawOk l.toArray = true ∧ drawL P tb Sp w0 mb l.toArray (n :: p) l 0 t H [] (regD l.toArray R n)) := rfl
@[go_sem] theorem thenL_normal {b : Code} {s : FS} : thenL P tb Sp w0 ro mb p b R .normal s = vc P tb Sp w0 ro mb p b s R := rfl
@[go_sem] theorem thenL_exit {b : Code} {j : Nat} {s : FS} : thenL P tb Sp w0 ro mb p b R (.exit j) s = R (.exit j) s := rfl
@[go_sem] theorem thenL_ret {b : Code} {s : FS} : thenL P tb Sp w0 ro mb p b R .ret s = R .ret s := rfl
@[go_sem] theorem blkL_normal {i : Nat} {s : FS} : blkL i R .normal s = R .normal s := rfl
@[go_sem] theorem blkL_ret {i : Nat} {s : FS} : blkL i R .ret s = R .ret s := rfl
@[go_sem] theorem blkL_exit {i j : Nat} {s : FS} : blkL i R (.exit j) s = blkB (j == i) j R s := by
  unfold blkL blockR blkB
  by_cases h : j = i <;> simp [h]
@[go_sem] theorem blkB_true {j : Nat} {s : FS} : blkB true j R s = R .normal s := rfl
@[go_sem] theorem blkB_false {j : Nat} {s : FS} : blkB false j R s = R (.exit j) s := rfl
@[go_sem] theorem regL_at : regL R n ⟨t, H⟩ = R .normal ⟨t, n + 1, H⟩ := rfl
@[go_sem] theorem regD_at {evs : List (Nat × Ev)} : regD ops R n evs ⟨t, H⟩ = (evs.Pairwise (fun x y => (beforeB ops y.1).testBit x.1 = true ∨ compat x.2 y.2) ∧ R .normal ⟨t, n + 1, H⟩) := rfl
@[go_sem] theorem seqL_nil {i : Nat} {K : S → Prop} : seqL P tb Sp w0 mb ops kp [] i t H K = K ⟨t, H⟩ := rfl
@[go_sem] theorem seqL_cons {o : Oper} {l : List Oper} {i : Nat} {K : S → Prop} : seqL P tb Sp w0 mb ops kp (o :: l) i t H K = vcG P tb Sp w0 mb false ops (i :: kp) o ⟨t, H⟩ (stepL P tb Sp w0 mb ops kp l (i + 1) o.dst t H K) := rfl
@[go_sem] theorem stepL_val {l : List Oper} {i : Nat} {dst : Option Tmp} {K : S → Prop} {v : AV} : stepL P tb Sp w0 mb ops kp l i dst t H K (.val v) = seqL P tb Sp w0 mb ops kp l i (putA t dst v) H K := rfl
@[go_sem] theorem stepL_rd {l : List Oper} {i : Nat} {dst : Option Tmp} {K : S → Prop} {v : AV} {d : Id} {c : List AV} : stepL P tb Sp w0 mb ops kp l i dst t H K (.rd d c v) = seqL P tb Sp w0 mb ops kp l i (putA t dst v) H K := rfl
@[go_sem] theorem stepL_eff {l : List Oper} {i : Nat} {dst : Option Tmp} {K : S → Prop} {v : AV} {H1 H2 : Hp} : stepL P tb Sp w0 mb ops kp l i dst t H K (.eff H1 H2 v) = seqL P tb Sp w0 mb ops kp l i (putA t dst v) H2 K := rfl
@[go_sem] theorem drawL_nil {i : Nat} {acc : List (Nat × Ev)} {K : List (Nat × Ev) → S → Prop} : drawL P tb Sp w0 mb ops kp [] i t H acc K = K acc ⟨t, H⟩ := by simp [drawL, vcDraw]
@[go_sem] theorem drawL_cons {o : Oper} {l : List Oper} {i : Nat} {acc : List (Nat × Ev)} {K : List (Nat × Ev) → S → Prop} : drawL P tb Sp w0 mb ops kp (o :: l) i t H acc K = vcG P tb Sp w0 mb true ops (i :: kp) o ⟨t, H⟩ (dstepL P tb Sp w0 mb ops kp l (i + 1) i o.dst t H acc K) := rfl
@[go_sem] theorem dstepL_val {l : List Oper} {i idx : Nat} {dst : Option Tmp} {acc : List (Nat × Ev)} {K : List (Nat × Ev) → S → Prop} {v : AV} : dstepL P tb Sp w0 mb ops kp l i idx dst t H acc K (.val v) = drawL P tb Sp w0 mb ops kp l i (putA t dst v) H acc K := rfl
@[go_sem] theorem dstepL_rd {l : List Oper} {i idx : Nat} {dst : Option Tmp} {acc : List (Nat × Ev)} {K : List (Nat × Ev) → S → Prop} {v : AV} {d : Id} {c : List AV} : dstepL P tb Sp w0 mb ops kp l i idx dst t H acc K (.rd d c v) = drawL P tb Sp w0 mb ops kp l i (putA t dst v) H (acc ++ [(idx, .rd d c v)]) K := by simp [drawL, dstepL, Ev.loud, Ev.out, Ev.post]
@[go_sem] theorem dstepL_eff {l : List Oper} {i idx : Nat} {dst : Option Tmp} {acc : List (Nat × Ev)} {K : List (Nat × Ev) → S → Prop} {v : AV} {H1 H2 : Hp} : dstepL P tb Sp w0 mb ops kp l i idx dst t H acc K (.eff H1 H2 v) = drawL P tb Sp w0 mb ops kp l i (putA t dst v) H2 (acc ++ [(idx, .eff H1 H2 v)]) K := by simp [drawL, dstepL, Ev.loud, Ev.out, Ev.post]
@[go_sem] theorem condL_bool {a b : Code} {s : FS} {v : Bool} : condL P tb Sp w0 ro mb p a b s R (.raw (.bool v)) = ((v = true → vc P tb Sp w0 ro mb p a s R) ∧ (v = false → vc P tb Sp w0 ro mb p b s R)) := rfl
@[go_sem high] theorem condL_true {a b : Code} {s : FS} : condL P tb Sp w0 ro mb p a b s R (.raw (.bool true)) = vc P tb Sp w0 ro mb p a s R := by simp [condL]
@[go_sem high] theorem condL_false {a b : Code} {s : FS} : condL P tb Sp w0 ro mb p a b s R (.raw (.bool false)) = vc P tb Sp w0 ro mb p b s R := by simp [condL]
end

/-- What an answer with a condition asks. -/
def optK (e : Option (Prop × AV)) (K : Ev → Prop) : Prop := match e with
  | some (φ, v) => φ ∧ K (.val v)
  | none => False
@[go_sem] theorem optK_some {φ : Prop} {v : AV} {K : Ev → Prop} : optK (some (φ, v)) K = (φ ∧ K (.val v)) := rfl

section
variable {P : Program} {tb : Tab} {Sp : Spec} {w0 : Base} {ro : Option Nat} {mb : List Tmp} {p kp key : List Nat} {ops : Array Oper} {draw : Bool} {dst : Option Tmp} {ty : TypeId} {pos : String} {after : Array Edge} {g : Option (Nat × Bool)} {t : List AV} {H : Hp} {K : Ev → Prop}
@[go_sem] theorem vcG_none {op : Op} : vcG P tb Sp w0 mb draw ops key ⟨dst, op, ty, pos, after, none⟩ ⟨t, H⟩ K = vcOp P tb Sp w0 mb draw key ⟨dst, op, ty, pos, after, none⟩ t H K := rfl
/-- The slot that an operation's answer goes to. -/
def slotOf : List Oper → Nat → Tmp
  | [], _ => 0
  | o :: _, 0 => o.dst.getD 0
  | _ :: os, n + 1 => slotOf os n
def hasSlot : List Oper → Nat → Bool
  | [], _ => false
  | o :: _, 0 => o.dst.isSome
  | _ :: os, n + 1 => hasSlot os n
theorem slotOf_eq : ∀ (l : List Oper) (j : Nat), hasSlot l j = true → (l.toArray[j]?).bind (·.dst) = some (slotOf l j)
  | [], j, h => by simp [hasSlot] at h
  | o :: l, 0, h => by
    simp only [hasSlot, Option.isSome_iff_exists] at h
    obtain ⟨d, h⟩ := h
    simp [slotOf, h]
  | o :: l, j + 1, h => by simpa [slotOf] using slotOf_eq l j h
theorem noSlot_eq : ∀ (l : List Oper) (j : Nat), hasSlot l j = false → (l.toArray[j]?).bind (·.dst) = none
  | [], j, h => by simp
  | o :: l, 0, h => by simpa [hasSlot] using h
  | o :: l, j + 1, h => by simpa using noSlot_eq l j h
@[go_sem] theorem vcG_some {l : List Oper} {op : Op} {j : Nat} {want : Bool} : vcG P tb Sp w0 mb draw l.toArray key ⟨dst, op, ty, pos, after, some (j, want)⟩ ⟨t, H⟩ K = (hasSlot l j = true ∧ guardL P tb Sp w0 mb draw key ⟨dst, op, ty, pos, after, none⟩ t H K want (slotOf l j < t.length) (t.getD (slotOf l j) AV.undef)) := by
  cases hj : hasSlot l j with
  | true =>
    simp only [vcG, slotOf_eq l j hj, true_and]
    rfl
  | false =>
    simp only [vcG, noSlot_eq l j hj]
    simp
@[go_sem] theorem guardL_true {o : Oper} {inn : Prop} {b : Bool} : guardL P tb Sp w0 mb draw key o t H K true inn (.raw (.bool b)) = (inn ∧ (b = true → vcOp P tb Sp w0 mb draw key o t H K) ∧ (b = false → K (.val AV.undef))) := by simp [guardL]
@[go_sem] theorem guardL_false {o : Oper} {inn : Prop} {b : Bool} : guardL P tb Sp w0 mb draw key o t H K false inn (.raw (.bool b)) = (inn ∧ (b = false → vcOp P tb Sp w0 mb draw key o t H K) ∧ (b = true → K (.val AV.undef))) := by simp [guardL]
@[go_sem high] theorem guardL_undef {o : Oper} {want : Bool} {inn : Prop} : guardL P tb Sp w0 mb draw key o t H K want inn (.raw undef) = (inn ∧ K (.val AV.undef)) := rfl
@[go_sem high] theorem guardL_undef' {o : Oper} {want : Bool} {inn : Prop} : guardL P tb Sp w0 mb draw key o t H K want inn (.raw (.tuple #[])) = (inn ∧ K (.val AV.undef)) := rfl
@[go_sem high] theorem guardL_tt {o : Oper} {inn : Prop} : guardL P tb Sp w0 mb draw key o t H K true inn (.raw (.bool true)) = (inn ∧ vcOp P tb Sp w0 mb draw key o t H K) := by simp [guardL]
@[go_sem high] theorem guardL_tf {o : Oper} {inn : Prop} : guardL P tb Sp w0 mb draw key o t H K true inn (.raw (.bool false)) = (inn ∧ K (.val AV.undef)) := by simp [guardL]
@[go_sem high] theorem guardL_ft {o : Oper} {inn : Prop} : guardL P tb Sp w0 mb draw key o t H K false inn (.raw (.bool true)) = (inn ∧ K (.val AV.undef)) := by simp [guardL]
@[go_sem high] theorem guardL_ff {o : Oper} {inn : Prop} : guardL P tb Sp w0 mb draw key o t H K false inn (.raw (.bool false)) = (inn ∧ vcOp P tb Sp w0 mb draw key o t H K) := by simp [guardL]
attribute [go_sem] slotOf hasSlot
@[go_sem] theorem vcOp_move {x : Operand} : vcOp P tb Sp w0 mb draw key ⟨dst, .move x, ty, pos, after, g⟩ t H K = K (.val (evA t x)) := by simp [vcOp, opN]
@[go_sem] theorem vcOp_assign {x : Operand} : vcOp P tb Sp w0 mb draw key ⟨dst, .assign x, ty, pos, after, g⟩ t H K = K (.val (evA t x)) := by simp [vcOp, opN]
def pickA (c a b : AV) : Option (Prop × AV) := match c with
  | .raw (.bool t) => some (True, bif t then a else b)
  | _ => none
@[go_sem] theorem vcOp_pick {c a b : Operand} : vcOp P tb Sp w0 mb draw key ⟨dst, .pick c a b, ty, pos, after, g⟩ t H K = optK (pickA (evA t c) (evA t a) (evA t b)) K := rfl
@[go_sem] theorem vcOp_makeFunc {fn : Fn} {a b : List Operand} : vcOp P tb Sp w0 mb draw key ⟨dst, .makeFunc fn a.toArray b.toArray, ty, pos, after, g⟩ t H K = K (.val (.clo fn (a.map (evA t)) (b.map (evA t)))) := by simp [vcOp, opN]
def mkIfaceA (tb : Tab) (ty : TypeId) (v : AV) : Option (Prop × AV) := match tb ty with
  | some ⟨.iface _, _, _, _⟩ => none
  | some _ => some (True, .iface ty v)
  | none => none
@[go_sem] theorem vcOp_makeInterface {u : TypeId} {x : Operand} : vcOp P tb Sp w0 mb draw key ⟨dst, .makeInterface u x, ty, pos, after, g⟩ t H K = optK (mkIfaceA tb u (evA t x)) K := rfl
@[go_sem] theorem vcOp_extract {x : Operand} {i : Nat} : vcOp P tb Sp w0 mb draw key ⟨dst, .extract x i, ty, pos, after, g⟩ t H K = optK (extractA i (evA t x)) K := rfl
@[go_sem] theorem vcOp_field {u : TypeId} {x : Operand} {f : Nat} : vcOp P tb Sp w0 mb draw key ⟨dst, .field u x f, ty, pos, after, g⟩ t H K = optK (fieldA tb u f (evA t x)) K := rfl
@[go_sem] theorem vcOp_fieldAddr {u : TypeId} {x : Operand} {f : Nat} : vcOp P tb Sp w0 mb draw key ⟨dst, .fieldAddr u x f, ty, pos, after, g⟩ t H K = optK (fieldAddrA tb u f (evA t x)) K := rfl
@[go_sem] theorem vcOp_indexAddr {u : TypeId} {x i : Operand} : vcOp P tb Sp w0 mb draw key ⟨dst, .indexAddr u x i, ty, pos, after, g⟩ t H K = optK (indexAddrA tb u (evA t x) (evA t i)) K := rfl
@[go_sem] theorem vcOp_index {u : TypeId} {x i : Operand} : vcOp P tb Sp w0 mb draw key ⟨dst, .index u x i, ty, pos, after, g⟩ t H K = optK (indexA tb u (evA t x) (evA t i)) K := rfl
@[go_sem] theorem vcOp_nilCheck {x : Operand} : vcOp P tb Sp w0 mb draw key ⟨dst, .nilCheck x, ty, pos, after, g⟩ t H K = optK (nilCheckA (evA t x)) K := rfl
@[go_sem] theorem vcOp_binOp {op : BinOp} {u v : TypeId} {x y : Operand} : vcOp P tb Sp w0 mb draw key ⟨dst, .binOp op u x y v, ty, pos, after, g⟩ t H K = optK (binA tb op u (evA t x) (evA t y)) K := rfl
@[go_sem] theorem vcOp_unOp {op : UnOp} {u : TypeId} {x : Operand} : vcOp P tb Sp w0 mb draw key ⟨dst, .unOp op u x, ty, pos, after, g⟩ t H K = optK (unA op (evA t x)) K := rfl
/-- A pointer that is turned into another kind of pointer. -/
def ptrK (e : Option Prop) (id : Id) (off : Nat) (K : Ev → Prop) : Prop := match e with
  | some φ => φ ∧ K (.val (.ptr id off))
  | none => False
@[go_sem] theorem ptrK_some {φ : Prop} {id : Id} {off : Nat} : ptrK (some φ) id off K = (φ ∧ K (.val (.ptr id off))) := rfl
def convK (P : Program) (tb : Tab) (u v : TypeId) (K : Ev → Prop) (x : AV) : Prop := match x with
  | .ptr id off => ptrK (convP P tb u v id off) id off K
  | x => optK (convA tb u v x) K
@[go_sem] theorem vcOp_convert {u v : TypeId} {x : Operand} : vcOp P tb Sp w0 mb draw key ⟨dst, .convert u v x, ty, pos, after, g⟩ t H K = convK P tb u v K (evA t x) := by
  simp only [vcOp, convK]
  generalize evA t x = y
  cases y <;> rfl
@[go_sem] theorem convK_raw {u v : TypeId} {x : Value} : convK P tb u v K (.raw x) = optK (convA tb u v (.raw x)) K := rfl
@[go_sem] theorem convK_ptr {u v : TypeId} {id : Id} {off : Nat} : convK P tb u v K (.ptr id off) = ptrK (convP P tb u v id off) id off K := rfl
def dataK (H : Hp) (K : Ev → Prop) (x : AV) (ti : Option TI) : Prop := match x, ti with
  | .list tk xs, some ⟨.pointer _, _, _, _⟩ => dataOk H tk xs ∧ K (.eff H H (.rowp tk xs))
  | _, _ => False
@[go_sem] theorem vcOp_sliceData {x : Operand} {us : Array TypeId} : vcOp P tb Sp w0 mb draw key ⟨dst, .call ⟨.builtin .unsafeSliceData, #[x], us⟩, ty, pos, after, g⟩ t H K = dataK H K (evA t x) (tb ty) := rfl
@[go_sem] theorem dataK_list {tk : Tok} {xs : List (List AV)} {e : TypeId} {a b : Nat} {z : Value} : dataK H K (.list tk xs) (some ⟨.pointer e, a, b, z⟩) = (dataOk H tk xs ∧ K (.eff H H (.rowp tk xs))) := rfl
def strK (P : Program) (H : Hp) (K : Ev → Prop) (x y : AV) (ti : Option TI) : Prop := match ti with
  | some ⟨.pointer e, _, _, _⟩ => match x with
    | .rowp tk xs => match strOf xs with
      | some s => y = .int .i64 s.size ∧ (s.size : Int) ≤ 9223372036854775807 ∧ strOk P H e tk s ∧ K (.eff H (killTok H tk) (.str s))
      | none => False
    | _ => False
  | _ => False
@[go_sem] theorem vcOp_unsafeString {x y : Operand} {u v : TypeId} : vcOp P tb Sp w0 mb draw key ⟨dst, .call ⟨.builtin .unsafeString, #[x, y], #[u, v]⟩, ty, pos, after, g⟩ t H K = strK P H K (evA t x) (evA t y) (tb u) := rfl
@[go_sem] theorem strK_bytes {tk : Tok} {s : ByteArray} {y : AV} {e : TypeId} {a b : Nat} {z : Value} : strK P H K (.rowp tk (bytesA s)) y (some ⟨.pointer e, a, b, z⟩) = (y = .int .i64 s.size ∧ (s.size : Int) ≤ 9223372036854775807 ∧ strOk P H e tk s ∧ K (.eff H (killTok H tk) (.str s))) := by
  simp only [strK, strOf_self]
@[go_sem] theorem vcOp_slice {u : TypeId} {x : Operand} {lo hi : Option Operand} : vcOp P tb Sp w0 mb draw key ⟨dst, .slice u x lo hi none, ty, pos, after, g⟩ t H K = optK (sliceA tb u (evA t x) (lo.map (evA t)) (hi.map (evA t))) K := rfl
@[go_sem] theorem vcOp_typeAssert {u v : TypeId} {x : Operand} {ok : Bool} : vcOp P tb Sp w0 mb draw key ⟨dst, .typeAssert x u v ok, ty, pos, after, g⟩ t H K = optK (assertA tb v ok (evA t x)) K := rfl
@[go_sem] theorem vcOp_build {u : TypeId} {parts : List (Nat × Operand)} : vcOp P tb Sp w0 mb draw key ⟨dst, .build u parts.toArray, ty, pos, after, g⟩ t H K = optK (buildA tb u (parts.map fun p => (p.1, evA t p.2))) K := rfl
@[go_sem] theorem vcOp_len {x : Operand} {u : TypeId} : vcOp P tb Sp w0 mb draw key ⟨dst, .call ⟨.builtin .len, #[x], #[u]⟩, ty, pos, after, g⟩ t H K = optK (lenA tb u (evA t x)) K := rfl
@[go_sem] theorem vcOp_max {xs : List Operand} {us : Array TypeId} : vcOp P tb Sp w0 mb draw key ⟨dst, .call ⟨.builtin .max, xs.toArray, us⟩, ty, pos, after, g⟩ t H K = optK (minmaxA true (xs.map (evA t))) K := rfl
@[go_sem] theorem vcOp_min {xs : List Operand} {us : Array TypeId} : vcOp P tb Sp w0 mb draw key ⟨dst, .call ⟨.builtin .min, xs.toArray, us⟩, ty, pos, after, g⟩ t H K = optK (minmaxA false (xs.map (evA t))) K := rfl
/-- Boxes: with a name, or as what does not change. -/
def boxL (var : Bool) (et : TypeId) (key : List Nat) (H : Hp) (K : Ev → Prop) (v : AV) : Prop := bif var then K (.eff H (H.upd ⟨v.cells.length, key, et⟩ (some (.cells v.cells))) (.ptr ⟨v.cells.length, key, et⟩ 0)) else K (.val (.sptr v.cells))
@[go_sem] theorem vcOp_box {u : TypeId} {x : Operand} {d : Tmp} : vcOp P tb Sp w0 mb draw key ⟨some d, .box u x, ty, pos, after, g⟩ t H K = boxL (mb.elem d) u key H K (evA t x) := by
  simp only [vcOp, boxL, List.contains_eq_any_beq, List.elem_eq_contains]
  cases mb.any fun a => d == a <;> rfl
@[go_sem] theorem boxL_true {v : AV} {et : TypeId} : boxL true et key H K v = K (.eff H (H.upd ⟨v.cells.length, key, et⟩ (some (.cells v.cells))) (.ptr ⟨v.cells.length, key, et⟩ 0)) := rfl
@[go_sem] theorem boxL_false {v : AV} {et : TypeId} : boxL false et key H K v = K (.val (.sptr v.cells)) := rfl
def litK (e : Option AV) (K : Ev → Prop) : Prop := match e with
  | some v => K (.val v)
  | none => False
@[go_sem] theorem litK_some {v : AV} : litK (some v) K = K (.val v) := rfl
@[go_sem] theorem vcOp_buildSlice {u : TypeId} {n : Nat} {parts : List (Nat × Operand)} : vcOp P tb Sp w0 mb draw key ⟨dst, .buildSlice u n parts.toArray, ty, pos, after, g⟩ t H K = litK (sliceLitA tb u n (parts.map fun p => (p.1, evA t p.2))) K := rfl
def allocK (draw : Bool) (et : TypeId) (key : List Nat) (H : Hp) (K : Ev → Prop) (e : Option TI) : Prop := match e with
  | some te => (absC te.zero).cells.length = te.size ∧ if draw then K (.val (.ptr ⟨te.size, key, et⟩ 0)) else K (.eff H (H.upd ⟨te.size, key, et⟩ (some (.cells (absC te.zero).cells))) (.ptr ⟨te.size, key, et⟩ 0))
  | none => False
@[go_sem] theorem vcOp_alloc {u : TypeId} : vcOp P tb Sp w0 mb draw key ⟨dst, .alloc u, ty, pos, after, g⟩ t H K = allocK draw u key H K (tb u) := rfl
@[go_sem] theorem allocK_true {te : TI} {et : TypeId} : allocK true et key H K (some te) = ((absC te.zero).cells.length = te.size ∧ K (.val (.ptr ⟨te.size, key, et⟩ 0))) := rfl
@[go_sem] theorem allocK_false {te : TI} {et : TypeId} : allocK false et key H K (some te) = ((absC te.zero).cells.length = te.size ∧ K (.eff H (H.upd ⟨te.size, key, et⟩ (some (.cells (absC te.zero).cells))) (.ptr ⟨te.size, key, et⟩ 0))) := rfl
def rdK (id : Id) (off : Nat) (K : Ev → Prop) (ti : Option TI) (e : Option Ent) : Prop := match ti, e with
  | some ti, some (.cells c) => (off + ti.size ≤ c.length ∧ 0 < ti.size) ∧ K (.rd id c (readA ti c off))
  | _, _ => False
@[go_sem] theorem rdK_some {id : Id} {off : Nat} {ti : TI} {c : List AV} : rdK id off K (some ti) (some (.cells c)) = ((off + ti.size ≤ c.length ∧ 0 < ti.size) ∧ K (.rd id c (readA ti c off))) := rfl
def loadK (tb : Tab) (u : TypeId) (H : Hp) (K : Ev → Prop) (x : AV) : Prop := match x with
  | .ptr id off => rdK id off K (tb u) (H id)
  | v => optK (loadA tb u v) K
@[go_sem] theorem vcOp_load {u : TypeId} {x : Operand} : vcOp P tb Sp w0 mb draw key ⟨dst, .load u x, ty, pos, after, g⟩ t H K = loadK tb u H K (evA t x) := by
  simp only [vcOp, loadK]
  generalize evA t x = v
  cases v <;> try rfl
  rename_i id off
  simp only [rdK]
  cases hu : tb u with
  | none => simp
  | some ti =>
    cases hH : H id with
    | none => simp
    | some e =>
      cases e with
      | tok => simp
      | cells c => simp
@[go_sem] theorem loadK_ptr {u : TypeId} {id : Id} {off : Nat} : loadK tb u H K (.ptr id off) = rdK id off K (tb u) (H id) := rfl
@[go_sem] theorem loadK_sptr {u : TypeId} {c : List AV} : loadK tb u H K (.sptr c) = optK (loadA tb u (.sptr c)) K := rfl
def storeL (H : Hp) (K : Ev → Prop) (id : Id) (off : Nat) (y : AV) (ti : Option TI) : Prop := match ti with
  | some ti => y.cells.length = ti.size ∧ y.cells.all oneA = true ∧
        if off = 0 ∧ ti.size = id.sz then K (.eff H (H.upd id (some (.cells y.cells))) AV.undef)
        else off + ti.size ≤ id.sz ∧ ∃ c, H id = some (.cells c) ∧ K (.eff H (H.upd id (some (.cells (layAt c off y.cells)))) AV.undef)
  | none => False
def storeK (tb : Tab) (u : TypeId) (H : Hp) (K : Ev → Prop) (x y : AV) : Prop := match x with
  | .ptr id off => storeL H K id off y (tb u)
  | _ => False
@[go_sem] theorem vcOp_store {u : TypeId} {x y : Operand} : vcOp P tb Sp w0 mb draw key ⟨dst, .store u x y, ty, pos, after, g⟩ t H K = storeK tb u H K (evA t x) (evA t y) := by
  simp only [vcOp, storeK, storeL]
  generalize evA t x = v
  cases v <;> rfl
@[go_sem] theorem storeK_ptr {u : TypeId} {id : Id} {off : Nat} {y : AV} : storeK tb u H K (.ptr id off) y = storeL H K id off y (tb u) := rfl
def storeW (whole : Bool) (H : Hp) (K : Ev → Prop) (id : Id) (off : Nat) (y : AV) (ti : TI) (e : Option Ent) : Prop := match whole, e with
  | true, _ => K (.eff H (H.upd id (some (.cells y.cells))) AV.undef)
  | false, some (.cells c) => off + ti.size ≤ id.sz ∧ K (.eff H (H.upd id (some (.cells (layAt c off y.cells)))) AV.undef)
  | _, _ => False
@[go_sem] theorem storeL_some {id : Id} {off : Nat} {y : AV} {ti : TI} : storeL H K id off y (some ti) = (y.cells.length = ti.size ∧ y.cells.all oneA = true ∧ storeW (off == 0 && ti.size == id.sz) H K id off y ti (H id)) := by
  unfold storeL storeW
  by_cases h : off = 0 ∧ ti.size = id.sz
  · simp [h]
  · have h' : (off == 0 && ti.size == id.sz) = false := by simpa using h
    simp only [h, h', if_false]
    cases hH : H id with
    | none => simp
    | some e =>
      cases e with
      | tok => simp
      | cells c => simp
@[go_sem] theorem storeW_true {id : Id} {off : Nat} {y : AV} {ti : TI} {e : Option Ent} : storeW true H K id off y ti e = K (.eff H (H.upd id (some (.cells y.cells))) AV.undef) := rfl
@[go_sem] theorem storeW_false {id : Id} {off : Nat} {y : AV} {ti : TI} {c : List AV} : storeW false H K id off y ti (some (.cells c)) = (off + ti.size ≤ id.sz ∧ K (.eff H (H.upd id (some (.cells (layAt c off y.cells)))) AV.undef)) := rfl
@[go_sem high] theorem upd_at_same {id : Id} {e : Option Ent} : (H.upd id e) id = e := Hp.upd_same _ _ _
@[go_sem] theorem upd_at {id j : Id} {e : Option Ent} : (H.upd id e) j = if j = id then e else H j := rfl
@[go_sem] theorem upd_upd {id : Id} {a b : Option Ent} : (H.upd id a).upd id b = H.upd id b := by
  funext j
  simp only [Hp.upd]
  split <;> rfl
attribute [go_sem] AV.raw.injEq Value.int.injEq Value.bool.injEq Value.string.injEq
attribute [go_sem] Id.mk.injEq List.cons.injEq reduceCtorEq List.all_cons List.all_nil oneA Bool.and_true Bool.true_and Bool.false_and Bool.and_false
def appS (te : TI) (e : TypeId) (key : List Nat) (H : Hp) (K : Ev → Prop) (tk : Tok) (xs : List (List AV)) (r : Option (Prop × List (List AV))) : Prop := match r with
  | some (ψ, ys) => ψ ∧ (∀ y ∈ xs, y.length = te.size) ∧ 0 < te.size ∧ (absC te.zero).cells.length = te.size ∧ ys.flatten.all oneA = true ∧
      (xs.length + ys.length) * te.bytes ≤ 140737488355328 ∧ xs.length + ys.length ≤ 4611686018427387904 ∧ tokLive H te.size e tk ∧
      K (.eff H ((killTok H tk).upd ⟨te.size, key, e⟩ (some .tok)) (.list (tokBy tk ys ⟨te.size, key, e⟩) (xs ++ ys.map (·.map strip))))
  | none => False
def appendK (tb : Tab) (key : List Nat) (u u' : TypeId) (H : Hp) (K : Ev → Prop) (x y : AV) : Prop := match tb u with
  | some ⟨.slice e, _, _, _⟩ => match tb e with
    | some te => match x with
      | .list tk xs => appS te e key H K tk xs (srcA tb te.size u' y)
      | _ => False
    | none => False
  | _ => False
@[go_sem] theorem vcOp_append {u u' : TypeId} {x y : Operand} : vcOp P tb Sp w0 mb draw key ⟨dst, .call ⟨.builtin .append, #[x, y], #[u, u']⟩, ty, pos, after, g⟩ t H K = appendK tb key u u' H K (evA t x) (evA t y) := rfl
@[go_sem] theorem appS_some {te : TI} {e : TypeId} {tk : Tok} {xs ys : List (List AV)} {ψ : Prop} : appS te e key H K tk xs (some (ψ, ys)) = (ψ ∧ (∀ y ∈ xs, y.length = te.size) ∧ 0 < te.size ∧ (absC te.zero).cells.length = te.size ∧ ys.flatten.all oneA = true ∧
      (xs.length + ys.length) * te.bytes ≤ 140737488355328 ∧ xs.length + ys.length ≤ 4611686018427387904 ∧ tokLive H te.size e tk ∧
      K (.eff H ((killTok H tk).upd ⟨te.size, key, e⟩ (some .tok)) (.list (tokBy tk ys ⟨te.size, key, e⟩) (xs ++ ys.map (·.map strip))))) := rfl
/-- What a call asks: that somebody knows what comes of it. -/
def callK (P : Program) (w0 : Base) (key : List Nat) (f : FuncId) (args : List AV) (H : Hp) (K : Ev → Prop) (e : Option (Prop × AV)) : Prop := match e with
  | some (φ, v) => φ ∧ K (.val v)
  | none => ∃ H' v, CallAt P w0 key f args H H' v ∧ K (.eff H H' v)
/-- What a call of a loop's yield asks. -/
def yieldK (P : Program) (w0 : Base) (key : List Nat) (l : Nat) (args : List AV) (H : Hp) (K : Ev → Prop) : Prop := ∃ H' v, YieldIn P w0 key l args H H' v ∧ K (.eff H H' v)
def callF (P : Program) (Sp : Spec) (w0 : Base) (key : List Nat) (args : List AV) (H : Hp) (K : Ev → Prop) (f : AV) : Prop := match f with
  | .clo (.func f) first caps => callK P w0 key f (first ++ args ++ caps) H K (Sp f (first ++ args ++ caps))
  | .clo (.yield l) [] [] => yieldK P w0 key l args H K
  | _ => False
@[go_sem] theorem vcOp_call {f : Operand} {xs : List Operand} {us : Array TypeId} : vcOp P tb Sp w0 mb draw key ⟨dst, .call ⟨.value f, xs.toArray, us⟩, ty, pos, after, g⟩ t H K = callF P Sp w0 key (xs.map (evA t)) H K (evA t f) := by
  simp only [vcOp, callF, callK]
  generalize evA t f = v
  cases v <;> rfl
@[go_sem] theorem callF_yield {l : Nat} {args : List AV} : callF P Sp w0 key args H K (.clo (.yield l) [] []) = yieldK P w0 key l args H K := rfl
@[go_sem] theorem callF_clo {f : FuncId} {first caps args : List AV} : callF P Sp w0 key args H K (.clo (.func f) first caps) = callK P w0 key f (first ++ args ++ caps) H K (Sp f (first ++ args ++ caps)) := rfl
@[go_sem] theorem callK_some {f : FuncId} {args : List AV} {φ : Prop} {v : AV} : callK P w0 key f args H K (some (φ, v)) = (φ ∧ K (.val v)) := rfl
theorem CallAt.pre {k : List Nat} {f : FuncId} {args : List AV} {H0 H H' : Hp} {v : AV} (h : CallAt P w0 k f args H0 H' v) (hl : H0.Le H) : CallAt P w0 k f args H H' v := by
  rcases h with h | ⟨fn, e, h1, h2, h3, h4, h5, h6⟩
  · exact .inl ⟨h.1, fun G w ca hs hf hr R hR => h.2 G w ca (hs.forget hl) hf hr R hR⟩
  · exact .inr ⟨fn, e, h1, h2, h3, h4, h5, fun G w ca hs hf hr => h6 G w ca (hs.forget hl) hf hr⟩
theorem YieldIn.pre {k : List Nat} {l : Nat} {args : List AV} {H0 H H' : Hp} {v : AV} (h : YieldIn P w0 k l args H0 H' v) (hl : H0.Le H) : YieldIn P w0 k l args H H' v := fun G w ca hs hf hr R hR => h G w ca (hs.forget hl) hf hr R hR
theorem yieldK_intro {l : Nat} {args : List AV} {H0 H' : Hp} {v : AV} (h : YieldIn P w0 key l args H0 H' v) (hl : H0.Le H) (k : K (.eff H H' v)) : yieldK P w0 key l args H K := ⟨H', v, h.pre hl, k⟩
theorem callK_pre {f : FuncId} {args : List AV} {H0 H' : Hp} {v : AV} (h : CallAt P w0 key f args H0 H' v) (hl : H0.Le H) (k : K (.eff H H' v)) : callK P w0 key f args H K none := ⟨H', v, h.pre hl, k⟩
theorem callK_intro {f : FuncId} {args : List AV} {H' : Hp} {v : AV} (h : CallAt P w0 key f args H H' v) (k : K (.eff H H' v)) : callK P w0 key f args H K none := ⟨H', v, h, k⟩
end

@[go_sem] theorem evA_tmp {t : List AV} {i : Nat} : evA t (.tmp i) = t.getD i AV.undef := rfl
@[go_sem] theorem evA_const {t : List AV} {v : Value} : evA t (.const v) = absC v := rfl
@[go_sem] theorem evA_func {t : List AV} {f : Nat} : evA t (.func f) = .clo (.func f) [] [] := rfl
@[go_sem] theorem absC_bool {b : Bool} : absC (.bool b) = .raw (.bool b) := rfl
@[go_sem] theorem absC_int {k : IntKind} {n : Int} : absC (.int k n) = .raw (.int k n) := rfl
@[go_sem] theorem absC_string {s : ByteArray} : absC (.string s) = .raw (.string s) := rfl
@[go_sem] theorem absC_slice : absC (.slice none 0 0) = .list .nil [] := rfl
@[go_sem] theorem absC_niliface : absC .nilIface = .raw .nilIface := rfl
@[go_sem] theorem absC_nilfunc : absC .nilFunc = .raw .nilFunc := rfl
@[go_sem] theorem absC_nilptr : absC (.pointer none) = .raw (.pointer none) := rfl
@[go_sem] theorem absC_tuple {c : Array Value} : absC (.tuple c) = .raw (.tuple c) := rfl
@[go_sem] theorem absC_agg {c : List Value} : absC (.agg c.toArray) = .agg (c.map absC1) := rfl
@[go_sem] theorem absC1_bool {b : Bool} : absC1 (.bool b) = .raw (.bool b) := rfl
@[go_sem] theorem absC1_int {k : IntKind} {n : Int} : absC1 (.int k n) = .raw (.int k n) := rfl
@[go_sem] theorem absC1_string {s : ByteArray} : absC1 (.string s) = .raw (.string s) := rfl
@[go_sem] theorem absC1_slice : absC1 (.slice none 0 0) = .list .nil [] := rfl
@[go_sem] theorem absC1_nilptr : absC1 (.pointer none) = .raw (.pointer none) := rfl
@[go_sem] theorem absC1_nilfunc : absC1 .nilFunc = .raw .nilFunc := rfl
@[go_sem] theorem absC1_niliface : absC1 .nilIface = .raw .nilIface := rfl
@[go_sem] theorem putA_some {t : List AV} {d : Tmp} {v : AV} : putA t (some d) v = t.set d v := rfl
@[go_sem] theorem putA_none {t : List AV} {v : AV} : putA t none v = t := rfl
theorem getD_set {t : List AV} {i j : Nat} {v d : AV} : (t.set i v).getD j d = bif i == j then (if i < t.length then v else d) else t.getD j d := by
  rw [List.getD_eq_getElem?_getD, List.getElem?_set]
  by_cases h : i = j
  · subst h
    simp only [if_true, beq_self_eq_true, cond_true]
    split <;> rfl
  · simp only [h, if_false, beq_false_of_ne h, cond_false, ← List.getD_eq_getElem?_getD]
attribute [go_sem] getD_set List.length_set List.map_cons List.map_nil List.cons_append List.nil_append List.append_nil Option.map_some Option.map_none cond_true cond_false
attribute [go_sem] Option.getD_some Option.getD_none Option.isSome_some Option.isSome_none true_and and_true implies_true Bool.true_eq_false Bool.false_eq_true false_implies true_implies if_true if_false and_self forall_const
attribute [go_sem] thenR
attribute [go_sem] Bool.not_true Bool.not_false
attribute [go_sem] ge_iff_le gt_iff_lt List.elem List.length_cons List.length_nil List.getD_cons_zero List.getD_cons_succ List.drop_succ_cons List.take_succ_cons List.take_zero List.length_map List.set_cons_zero List.set_cons_succ List.mem_cons List.not_mem_nil
attribute [go_sem] binA binInt binStr binBool unA convA pickA lenA indexA indexAddrA fieldA fieldAddrA loadA nilCheckA extractA sliceA assertA minmaxA buildA fillA placeOf srcA appendK convP binPtr ptrEq layAt partA readA TI.isAgg sliceLitA mkIfaceA AV.cells List.drop_zero List.getElem?_cons_zero List.getElem?_cons_succ Int.toNat_natCast

@[go_sem] theorem zeroCells_zero {z : Value} : zeroCellsA z 0 = [] := rfl
@[go_sem] theorem zeroCells_succ {z : Value} {n : Nat} : zeroCellsA z (n + 1) = zeroCellsA z n ++ [(absC z).cells.getD (n % (absC z).cells.length) AV.undef] := by
  simp only [zeroCellsA, List.range_succ, List.map_append, List.map_cons, List.map_nil]
attribute [go_sem] chunks
@[go_sem] theorem killTok_full {H : Hp} : killTok H .full = H := rfl
@[go_sem] theorem killTok_nil {H : Hp} : killTok H .nil = H := rfl
@[go_sem] theorem killTok_tok' {H : Hp} {t : Id} : killTok H (.tok t) = H.upd t none := rfl
@[go_sem] theorem strip_raw {v : Value} : strip (.raw v) = .raw v := rfl
/-- How a body ends. -/
def endR (tb : Tab) (rs : List ResultVar) (v : AV) (H' : Hp) : AEx → FS → Prop := fun x s' => (x = .normal ∨ x = .ret) ∧ ∃ u, resA tb rs s' = some u ∧ Weak u v ∧ H'.Le s'.H
def endK (v : AV) (H' H : Hp) (u : Option AV) : Prop := ∃ x, u = some x ∧ Weak x v ∧ H'.Le H
section
variable {tb : Tab} {rs : List ResultVar} {v : AV} {H H' : Hp} {s : FS}
@[go_sem] theorem endR_normal : endR tb rs v H' .normal s = endK v H' s.H (resA tb rs s) := by simp [endR, endK]
@[go_sem] theorem endR_ret : endR tb rs v H' .ret s = endK v H' s.H (resA tb rs s) := by simp [endR, endK]
@[go_sem] theorem endK_some {u : AV} : endK v H' H (some u) = (Weak u v ∧ H'.Le H) := by simp [endK]
@[go_sem] theorem le_self : H.Le H = True := by simp [Hp.Le]
@[go_sem] theorem weak_self : Weak v v = True := eq_true (Weak.refl v)
theorem weak_raw {a b : Value} : Weak (.raw a) (.raw b) = (a = b) := by
  refine propext ⟨fun h => ?_, fun h => h ▸ Weak.refl _⟩
  have := h ⟨fun _ => none, fun _ => none, fun _ => none, fun _ => none⟩ a (by simp [Rep])
  simpa [Rep] using this
@[go_sem] theorem weak_bool {a b : Bool} : Weak (.raw (.bool a)) (.raw (.bool b)) = (a = b) := by rw [weak_raw]; simp
@[go_sem] theorem weak_int {k k' : IntKind} {a b : Int} : Weak (.raw (.int k a)) (.raw (.int k' b)) = (k = k' ∧ a = b) := by rw [weak_raw]; simp
@[go_sem] theorem weak_str {a b : ByteArray} : Weak (.raw (.string a)) (.raw (.string b)) = (a = b) := by rw [weak_raw]; simp
@[go_sem] theorem resA_nil : resA tb [] s = some (.tup []) := rfl
@[go_sem] theorem resA_one {r : ResultVar} : resA tb [r] s = resOne tb s r := by
  unfold resA resAll resAll
  cases resOne tb s r <;> rfl
@[go_sem] theorem resA_two {r q : ResultVar} : resA tb [r, q] s = (resOne tb s r).bind fun a => (resOne tb s q).bind fun b => some (.tup [a, b]) := by
  unfold resA resAll resAll resAll
  cases resOne tb s r <;> cases resOne tb s q <;> rfl
@[go_sem] theorem resA_three {r q o : ResultVar} : resA tb [r, q, o] s = (resOne tb s r).bind fun a => (resOne tb s q).bind fun b => (resOne tb s o).bind fun c => some (.tup [a, b, c]) := by
  unfold resA resAll resAll resAll resAll
  cases resOne tb s r <;> cases resOne tb s q <;> cases resOne tb s o <;> rfl
@[go_sem] theorem resOne_tmp {t : List AV} {n : Nat} {i : Tmp} : resOne tb ⟨t, n, H⟩ (.tmp i) = some (t.getD i AV.undef) := rfl
attribute [go_sem] Option.bind_some
end

/-- How a loop's round ends. -/
def loopL (I : Nat → FS → Prop) (j : Nat) (R : AEx → FS → Prop) : AEx → FS → Prop := thenR (fun s => ∃ j', j = j' + 1 ∧ I j' s) R
section
variable {I : Nat → FS → Prop} {j : Nat} {R : AEx → FS → Prop} {s : FS}
@[go_sem] theorem loopL_normal : loopL I j R .normal s = (∃ j', j = j' + 1 ∧ I j' s) := rfl
@[go_sem] theorem loopL_exit {i : Nat} : loopL I j R (.exit i) s = R (.exit i) s := rfl
@[go_sem] theorem loopL_ret : loopL I j R .ret s = R .ret s := rfl
end
/-- A loop, by what holds at its head and how many rounds are left at most. -/
theorem loop_inv {P : Program} {tb : Tab} {Sp : Spec} {w0 : Base} {ro : Option Nat} {p : List Nat} (hT : TabOk P tb) (hS : SpecOk P w0 Sp) (hm : P.follows .mixedOrders = true) (mb : List Tmp) {c : Code} {s : FS} {R : AEx → FS → Prop}
    (I : Nat → FS → Prop) (j0 : Nat) (h0 : I j0 s) (h : ∀ j s, I j s → vc P tb Sp w0 ro mb p c s (loopL I j R)) : LoopOk P w0 ro p c s R := by
  have go : ∀ j s, I j s → ∃ x s', R x s' ∧ LoopN P w0 ro p (j + 1) c s (eqR x s') := by
    intro j
    induction j with
    | zero =>
      intro s hs
      obtain ⟨x, s', h1, h2⟩ := vc_det hT hS hm _ _ _ (h 0 s hs)
      cases x with
      | normal => obtain ⟨j', hj, _⟩ := h1; omega
      | exit i =>
        refine ⟨.exit i, s', h1, loop_step (h2.mono fun y t hy => ?_)⟩
        obtain ⟨rfl, rfl⟩ := hy
        exact ⟨rfl, rfl⟩
      | ret =>
        refine ⟨.ret, s', h1, loop_step (h2.mono fun y t hy => ?_)⟩
        obtain ⟨rfl, rfl⟩ := hy
        exact ⟨rfl, rfl⟩
    | succ j ih =>
      intro s hs
      obtain ⟨x, s', h1, h2⟩ := vc_det hT hS hm _ _ _ (h (j + 1) s hs)
      cases x with
      | normal =>
        obtain ⟨j', hj, hI⟩ := h1
        obtain rfl : j' = j := by omega
        obtain ⟨y, s2, h3, h4⟩ := ih s' hI
        refine ⟨y, s2, h3, loop_step (h2.mono fun z t hz => ?_)⟩
        obtain ⟨rfl, rfl⟩ := hz
        exact h4
      | exit i =>
        refine ⟨.exit i, s', h1, loop_step (h2.mono fun y t hy => ?_)⟩
        obtain ⟨rfl, rfl⟩ := hy
        exact ⟨rfl, rfl⟩
      | ret =>
        refine ⟨.ret, s', h1, loop_step (h2.mono fun y t hy => ?_)⟩
        obtain ⟨rfl, rfl⟩ := hy
        exact ⟨rfl, rfl⟩
  obtain ⟨x, s', h1, h2⟩ := go j0 s h0
  exact ⟨x, s', h1, _, h2⟩

/-- Slots from a place on. -/
def At (t : List AV) : Nat → List AV → Prop
  | _, [] => True
  | i, a :: vs => t.getD i AV.undef = a ∧ At t (i + 1) vs
theorem at_prefix (r : List AV) : ∀ (l vs : List AV), At (l ++ (vs ++ r)) l.length vs
  | l, [] => trivial
  | l, a :: vs => by
    refine ⟨by simp [List.getD_eq_getElem?_getD], ?_⟩
    have := at_prefix r (l ++ [a]) vs
    simpa using this

/-- A call, out of the function's body: of slots that hold the arguments. -/
theorem bodyAt {P : Program} {tb : Tab} {Sp : Spec} {w0 : Base} {k : List Nat} (hT : TabOk P tb) (hS : SpecOk P w0 Sp) (hm : P.follows .mixedOrders = true) {f : FuncId} {fn : Func} {c : Code} {args : List AV} {H H' : Hp} {v : AV} (hf : P.funcs[f]? = some fn) (hb : fn.body = some c) (hn : (fn.name == "runtime.NumGoroutine") = false)
    {rs : List ResultVar} {nt : Nat} (hrs : fn.results = rs.toArray) (hnt : fn.ntmps = nt) (ha : args.length ≤ nt) (mb : List Tmp)
    (h : (∀ i : Id, k <:+ i.key → H i = none) → ∀ t, t.length = nt → At t 0 args → vc P tb Sp w0 none mb k c ⟨t, 0, H⟩ (endR tb rs v H')) : BodyAt P w0 k f args H H' v :=
  callAt_of_vc hT hS hm hf hb hn hrs hnt mb fun hfr => h hfr _ (by simp; omega) (at_prefix _ [] args)
theorem callAt {P : Program} {tb : Tab} {Sp : Spec} {w0 : Base} {k : List Nat} (hT : TabOk P tb) (hS : SpecOk P w0 Sp) (hm : P.follows .mixedOrders = true) {f : FuncId} {fn : Func} {c : Code} {args : List AV} {H H' : Hp} {v : AV} (hf : P.funcs[f]? = some fn) (hb : fn.body = some c) (hn : (fn.name == "runtime.NumGoroutine") = false)
    {rs : List ResultVar} {nt : Nat} (hrs : fn.results = rs.toArray) (hnt : fn.ntmps = nt) (ha : args.length ≤ nt) (mb : List Tmp)
    (h : (∀ i : Id, k <:+ i.key → H i = none) → ∀ t, t.length = nt → At t 0 args → vc P tb Sp w0 none mb k c ⟨t, 0, H⟩ (endR tb rs v H')) : CallAt P w0 k f args H H' v := .inl (bodyAt hT hS hm hf hb hn hrs hnt ha mb h)
/-- How a body ends, of which something is told. -/
def endX (tb : Tab) (rs : List ResultVar) (Q : Hp → AV → Prop) : AEx → FS → Prop := fun x s' => (x = .normal ∨ x = .ret) ∧ ∃ u, resA tb rs s' = some u ∧ ∃ v, Weak u v ∧ ∃ H', H'.Le s'.H ∧ Q H' v
def endXK (Q : Hp → AV → Prop) (H : Hp) (u : Option AV) : Prop := ∃ x, u = some x ∧ ∃ v, Weak x v ∧ ∃ H', H'.Le H ∧ Q H' v
section
variable {tb : Tab} {rs : List ResultVar} {H : Hp} {s : FS} {Q : Hp → AV → Prop}
@[go_sem] theorem endX_normal : endX tb rs Q .normal s = endXK Q s.H (resA tb rs s) := by simp [endX, endXK]
@[go_sem] theorem endX_ret : endX tb rs Q .ret s = endXK Q s.H (resA tb rs s) := by simp [endX, endXK]
@[go_sem] theorem endXK_some {u : AV} : endXK Q H (some u) = ∃ v, Weak u v ∧ ∃ H', H'.Le H ∧ Q H' v := by simp [endXK]
end
theorem callX {P : Program} {tb : Tab} {Sp : Spec} {w0 : Base} {k : List Nat} (hT : TabOk P tb) (hS : SpecOk P w0 Sp) (hm : P.follows .mixedOrders = true) {f : FuncId} {fn : Func} {c : Code} {args : List AV} {H : Hp} {Q : Hp → AV → Prop} (hf : P.funcs[f]? = some fn) (hb : fn.body = some c) (hn : (fn.name == "runtime.NumGoroutine") = false)
    {rs : List ResultVar} {nt : Nat} (hrs : fn.results = rs.toArray) (hnt : fn.ntmps = nt) (ha : args.length ≤ nt) (mb : List Tmp) (hQ : ∃ H' v, Q H' v)
    (h : (∀ i : Id, k <:+ i.key → H i = none) → ∀ t, t.length = nt → At t 0 args → vc P tb Sp w0 none mb k c ⟨t, 0, H⟩ (endX tb rs Q)) : ∃ H' v, Q H' v ∧ CallAt P w0 k f args H H' v := by
  obtain ⟨H', v, h1, h2⟩ := callX_of_vc hT hS hm hf hb hn hrs hnt mb hQ fun hfr => h hfr _ (by simp; omega) (at_prefix _ [] args)
  exact ⟨H', v, h1, .inl h2⟩
theorem callK_ex {P : Program} {w0 : Base} {key : List Nat} {f : FuncId} {args : List AV} {K : Ev → Prop} {H : Hp} {Q : Hp → AV → Prop} (h : ∃ H' v, Q H' v ∧ CallAt P w0 key f args H H' v) (hk : ∀ H' v, Q H' v → K (.eff H H' v)) : callK P w0 key f args H K none := by
  obtain ⟨H', v, h1, h2⟩ := h
  exact ⟨H', v, h2, hk H' v h1⟩
theorem specOk_none {P : Program} {w0 : Base} : SpecOk P w0 (fun _ _ => none) := fun _ _ _ _ h => by cases h
theorem wrap_i64 {n : Int} (h : -9223372036854775808 ≤ n) (h2 : n < 9223372036854775808) : IntKind.i64.wrap n = n := by
  rw [IntKind.wrap_i64]
  omega
end Go.Proofs.YtkdendaohlnlcaaDoor.Av
