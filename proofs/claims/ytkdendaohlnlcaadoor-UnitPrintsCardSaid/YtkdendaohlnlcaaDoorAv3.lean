/- What each operation without memory of its own answers on values without memory, and that the model's operation answers that. No condition. -/
import Derived.Test.YtkdendaohlnlcaaDoorAv2
import Derived.Laws.CopyRow
import Derived.Laws.Cells
import Derived.Laws.Entries
import Derived.ChangeKeysEq
namespace Go.Proofs.YtkdendaohlnlcaaDoor.Av
set_option linter.unusedVariables false
set_option linter.unusedSimpArgs false
open Go.RowKit

/-- A type as far as it is needed here. -/
inductive TD where
  | bool | int (k : IntKind) | string | pointer (e : TypeId) | slice (e : TypeId) | array (n : Nat) (e : TypeId)
  | struct (fs : List (Nat × TypeId)) | map (k e : TypeId) | func | iface (n : Nat) | unsafeP | other

def tdOf : TypeDesc → TD
  | .bool => .bool
  | .int k => .int k
  | .string => .string
  | .pointer e => .pointer e
  | .slice e => .slice e
  | .array n e => .array n e
  | .struct fs => .struct (fs.toList.map fun f => (f.offset, f.type))
  | .map k e => .map k e
  | .func .. => .func
  | .interface ms => .iface ms.size
  | .unsafePointer => .unsafeP
  | _ => .other

structure TI where
  td : TD
  size : Nat
  bytes : Nat
  zero : Value

def TI.isAgg (t : TI) : Bool := match t.td with
  | .struct _ | .array _ _ => true
  | _ => false

abbrev Tab := TypeId → Option TI

def TabOk (P : Program) (tab : Tab) : Prop := ∀ t ti, tab t = some ti → ∃ i d, P.info? t = some i ∧ P.underlying t = some d ∧ tdOf d = ti.td ∧ i.size = ti.size ∧ i.bytes = ti.bytes ∧ i.zero = some ti.zero

section
variable {P : Program} {tab : Tab}

theorem TabOk.isAgg (h : TabOk P tab) {t : TypeId} {ti : TI} (e : tab t = some ti) (w : World) : (Go.isAgg t).run P w = .ok ti.isAgg w := by
  obtain ⟨i, d, h1, h2, h3, _⟩ := h t ti e
  unfold Go.isAgg
  simp only [Sem.run_bind, run_underlying h2, Result.andThen_ok]
  unfold TI.isAgg
  rw [← h3]
  cases d <;> simp [tdOf]
theorem TabOk.sizeOf (h : TabOk P tab) {t : TypeId} {ti : TI} (e : tab t = some ti) (w : World) : (Go.sizeOf t).run P w = .ok ti.size w := by
  obtain ⟨i, d, h1, h2, h3, h4, _⟩ := h t ti e
  simp [Go.sizeOf, run_typeInfo w h1, h4]
theorem TabOk.zeroValue (h : TabOk P tab) {t : TypeId} {ti : TI} (e : tab t = some ti) (w : World) : (Go.zeroValue t).run P w = .ok ti.zero w := by
  obtain ⟨i, d, h1, h2, h3, h4, h5, h6⟩ := h t ti e
  simp [Go.zeroValue, run_typeInfo w h1, h6]
end

def absC1 : Value → AV
  | .slice none 0 0 => .list .nil []
  | v => .raw v
/-- A constant. -/
def absC : Value → AV
  | .agg cs => .agg (cs.toList.map absC1)
  | v => absC1 v

theorem rep_absC1 (G : Gh) (v : Value) : Rep G (absC1 v) v := by
  unfold absC1
  split
  · simp only [Rep]
    exact ⟨none, 0, 0, rfl, rfl, Nat.le_refl _, ⟨rfl, rfl⟩, ⟨0, by simp⟩, ⟨0, 0, none⟩, by simp, by simp [RepE]⟩
  · simp [Rep]
theorem repL_absC1 (G : Gh) : ∀ vs : List Value, RepL G (vs.map absC1) vs
  | [] => by simp [RepL]
  | v :: vs => by simp only [List.map_cons, RepL]; exact ⟨v, vs, rfl, rep_absC1 G v, repL_absC1 G vs⟩
theorem rep_absC (G : Gh) (v : Value) : Rep G (absC v) v := by
  unfold absC
  split
  · simp only [Rep]
    exact ⟨_, by simp, repL_absC1 G _⟩
  · exact rep_absC1 G v

def evA (tmps : List AV) : Operand → AV
  | .tmp t => tmps.getD t AV.undef
  | .const v => absC v
  | .global g => .raw (.pointer (some ⟨g, 0, none⟩))
  | .func f => .clo (.func f) [] []

theorem rep_eval {G : Gh} {tmps : List AV} {a : Act} (h : RepL G tmps a.tmps.toList) (x : Operand) : Rep G (evA tmps x) (a.eval x) := by
  cases x with
  | tmp t =>
    have := RepL.get h t
    simp only [evA, Act.eval]
    rwa [show a.tmps.getD t Go.undef = a.tmps.toList.getD t Go.undef by simp [Array.getD_eq_getD_getElem?, List.getD_eq_getElem?_getD]]
  | const v => exact rep_absC G v
  | global g => simp [evA, Act.eval, Rep]
  | func f =>
    simp only [evA, Act.eval, Rep]
    exact ⟨[], [], rfl, by simp [RepL], by simp [RepL]⟩

def AV.cells : AV → List AV
  | .agg cs => cs
  | .raw (.agg cs) => cs.toList.map .raw
  | v => [v]
theorem repL_raw (G : Gh) : ∀ vs : List Value, RepL G (vs.map .raw) vs
  | [] => by simp [RepL]
  | v :: vs => by simp only [List.map_cons, RepL]; exact ⟨v, vs, rfl, by simp [Rep], repL_raw G vs⟩
theorem repL_one {G : Gh} {v : AV} {V : Value} (h : Rep G v V) : RepL G [v] [V] := by
  simp only [RepL]
  exact ⟨V, [], rfl, h, rfl⟩
theorem Rep.cells {G : Gh} {v : AV} {V : Value} (h : Rep G v V) : RepL G v.cells V.cells.toList := by
  have one : ∀ {a : AV}, Rep G a V → (∀ cs, V ≠ .agg cs) → a.cells = [a] → RepL G a.cells V.cells.toList := by
    intro a ha hn hc
    rw [hc]
    cases V <;> first | exact absurd rfl (hn _) | exact repL_one ha
  cases v with
  | agg cs =>
    simp only [Rep] at h
    obtain ⟨vs, rfl, h1⟩ := h
    simpa [AV.cells, Value.cells] using h1
  | raw v =>
    simp only [Rep] at h
    subst h
    cases V with
    | agg cs => exact repL_raw G cs.toList
    | _ => exact repL_one (by simp [Rep])
  | list t xs => exact one h (by simp only [Rep] at h; obtain ⟨A, n, c, rfl, _⟩ := h; simp) rfl
  | ptr id off => exact one h (by simp only [Rep] at h; obtain ⟨b, _, rfl⟩ := h; simp) rfl
  | sptr cells => exact one h (by simp only [Rep] at h; obtain ⟨b, rfl, _⟩ := h; simp) rfl
  | arr id off len => exact one h (by simp only [Rep] at h; obtain ⟨b, _, rfl⟩ := h; simp) rfl
  | rowp t xs => exact one h (by simp only [Rep] at h; obtain ⟨A, n, c, rfl | ⟨_, p, rfl⟩, _⟩ := h <;> simp) rfl
  | clo fn f c => exact one h (by simp only [Rep] at h; obtain ⟨_, _, rfl, _⟩ := h; simp) rfl
  | iface t v => exact one h (by simp only [Rep] at h; obtain ⟨_, rfl, _⟩ := h; simp) rfl
  | tup vs => exact one h (by simp only [Rep] at h; obtain ⟨_, rfl, _⟩ := h; simp) rfl

/-! ### the operations -/
def binInt (op : BinOp) (k k' : IntKind) (a b : Int) : Option (Prop × AV) :=
  match op with
  | .add => some (k = k', .int k (k.wrap (a + b)))
  | .sub => some (k = k', .int k (k.wrap (a - b)))
  | .mul => some (k = k', .int k (k.wrap (a * b)))
  | .quo => some (k = k' ∧ b ≠ 0, .int k (k.wrap (a.tdiv b)))
  | .rem => some (k = k' ∧ b ≠ 0, .int k (a.tmod b))
  | .and => some (k = k', .int k (k.wrap (BitVec.ofInt k.bits a &&& BitVec.ofInt k.bits b).toNat))
  | .or => some (k = k', .int k (k.wrap (BitVec.ofInt k.bits a ||| BitVec.ofInt k.bits b).toNat))
  | .xor => some (k = k', .int k (k.wrap (BitVec.ofInt k.bits a ^^^ BitVec.ofInt k.bits b).toNat))
  | .andNot => some (k = k', .int k (k.wrap (BitVec.ofInt k.bits a &&& ~~~BitVec.ofInt k.bits b).toNat))
  | .shl => some (0 ≤ b, .int k (k.wrap (a * 2 ^ (min b.toNat k.bits))))
  | .shr => some (0 ≤ b, .int k (a.fdiv (2 ^ (min b.toNat k.bits))))
  | .eql => some (k = k', .bool (a == b))
  | .neq => some (k = k', .bool (a != b))
  | .lss => some (k = k', .bool (decide (a < b)))
  | .leq => some (k = k', .bool (decide (a ≤ b)))
  | .gtr => some (k = k', .bool (decide (a > b)))
  | .geq => some (k = k', .bool (decide (a ≥ b)))

def binStr (op : BinOp) (x y : ByteArray) : Option (Prop × AV) :=
  match op with
  | .add => some (((x.size + y.size : Nat) : Int) ≤ 9223372036854775807, .str (x ++ y))
  | .eql => some (True, .bool (x.toList == y.toList))
  | .neq => some (True, .bool (!(x.toList == y.toList)))
  | .lss => some (True, .bool (Op.bytesLess x.toList y.toList))
  | .leq => some (True, .bool (Op.bytesLess x.toList y.toList || x.toList == y.toList))
  | .gtr => some (True, .bool (!(Op.bytesLess x.toList y.toList || x.toList == y.toList)))
  | .geq => some (True, .bool (!(Op.bytesLess x.toList y.toList)))
  | _ => none

def binBool (op : BinOp) (x y : Bool) : Option (Prop × AV) :=
  match op with
  | .eql => some (True, .bool (x == y))
  | .neq => some (True, .bool (!(x == y)))
  | _ => none

/-- Are two pointers one? (None: that is not known.) -/
def ptrEq : AV → AV → Option Bool
  | .raw (.pointer none), .raw (.pointer none) => some true
  | .raw (.pointer none), .ptr _ _ => some false
  | .raw (.pointer none), .sptr _ => some false
  | .ptr _ _, .raw (.pointer none) => some false
  | .sptr _, .raw (.pointer none) => some false
  | .ptr i o, .ptr j p => if i = j ∧ o = p then some true else none
  | _, _ => none
def binPtr (tab : Tab) (op : BinOp) (t : TypeId) (x y : AV) : Option (Prop × AV) :=
  match tab t with
  | some ⟨.pointer e, _, _, _⟩ => match tab e with
    | some te => match ptrEq x y with
      | some b => match op with
        | .eql => some (0 < te.size, .bool b)
        | .neq => some (0 < te.size, .bool !b)
        | _ => none
      | none => none
    | none => none
  | _ => none
def binA (tab : Tab) (op : BinOp) (t : TypeId) : AV → AV → Option (Prop × AV)
  | .raw (.int k a), .raw (.int k' b) => binInt op k k' a b
  | .raw (.string a), .raw (.string b) => binStr op a b
  | .raw (.bool a), .raw (.bool b) => match tab t with
    | some ⟨.bool, _, _, _⟩ => binBool op a b
    | _ => none
  | x, y => binPtr tab op t x y

theorem binInt_ok (P : Program) (w : World) {op : BinOp} {k k' : IntKind} {a b : Int} {φ : Prop} {v : AV} (t : TypeId) (e : binInt op k k' a b = some (φ, v)) (h : φ) :
    ∃ V, v = .raw V ∧ (binOp op t (.int k a) (.int k' b)).run P w = .ok V w := by
  cases op <;> simp only [binInt, Option.some.injEq, Prod.mk.injEq] at e <;> obtain ⟨rfl, rfl⟩ := e
  case quo => obtain ⟨rfl, hb⟩ := h; exact ⟨_, rfl, by simp [binOp, Op.intDiv, hb]⟩
  case rem => obtain ⟨rfl, hb⟩ := h; exact ⟨_, rfl, by simp [binOp, Op.intDiv, hb]⟩
  case shl => exact ⟨_, rfl, by simp [binOp, Op.shift, show ¬ b < 0 by omega]⟩
  case shr => exact ⟨_, rfl, by simp [binOp, Op.shift, show ¬ b < 0 by omega]⟩
  all_goals (subst h; exact ⟨_, rfl, by simp [binOp, Op.intArith, Op.intCmp, Op.intBits]⟩)

theorem binStr_ok (P : Program) (w : World) {op : BinOp} {a b : ByteArray} {φ : Prop} {v : AV} (t : TypeId) (e : binStr op a b = some (φ, v)) (h : φ) :
    ∃ V, v = .raw V ∧ (binOp op t (.string a) (.string b)).run P w = .ok V w := by
  cases op <;> simp only [binStr, Option.some.injEq, Prod.mk.injEq, reduceCtorEq] at e <;> obtain ⟨rfl, rfl⟩ := e
  case add =>
    have h' : ¬ ((a.size + b.size : Nat) : Int) > IntKind.i64.max := by
      have : IntKind.i64.max = 9223372036854775807 := by decide
      omega
    exact ⟨_, rfl, by simp only [binOp, Op.stringOp]; rw [if_neg h']; rfl⟩
  all_goals exact ⟨_, rfl, by simp [binOp, Op.stringOp]⟩

theorem run_eqGuard_bool (P : Program) (w : World) (op : BinOp) (t : TypeId) (x y : Operand) (A B : Value) (hn : ¬ (A = .nilIface ∧ B = .nilIface)) (ha : ∀ cs, A ≠ .agg cs) : (eqGuard op t x y A B).run P w = .ok () w := by
  unfold eqGuard
  cases op <;> simp <;> (split <;> simp_all)

/-- An operation that answers v and turns nothing, whatever the memory is in which its operands stand for these values. -/
def Quiet (P : Program) (o : Oper) (ρ : Operand → AV) (v : AV) : Prop :=
  ∀ (G : Gh) (w : World) (e : Operand → Value), (∀ a u, G.C a = some u → w.cell? a = some u) → (∀ x ∈ o.op.operands.toList, Rep G (ρ x) (e x)) →
    ∃ V, (execOp e o).run P w = .ok (.value V) w ∧ Rep G v V

def unA (op : UnOp) : AV → Option (Prop × AV)
  | .raw (.bool b) => match op with
    | .not => some (True, .bool (!b))
    | _ => none
  | .raw (.int k n) => match op with
    | .neg => some (True, .int k (k.wrap (0 - n)))
    | .xor => binInt .xor k k (if k.signed then -1 else k.max) n
    | _ => none
  | _ => none

def convA (tab : Tab) (src dst : TypeId) : AV → Option (Prop × AV)
  | .raw (.int _ n) => match tab src, tab dst with
    | some ⟨.int _, _, _, _⟩, some ⟨.int k, _, _, _⟩ => some (True, .int k (k.wrap n))
    | _, _ => none
  | .raw (.string s) => match tab src, tab dst with
    | some ⟨.string, _, _, _⟩, some ⟨.string, _, _, _⟩ => some (True, .str s)
    | _, _ => none
  | _ => none

/-- A part of an aggregate. -/
def partA (ti : TI) (cs : List AV) (off : Nat) : AV := if ti.isAgg then .agg ((cs.drop off).take ti.size) else cs.getD off AV.undef

def fieldA (tab : Tab) (t : TypeId) (f : Nat) : AV → Option (Prop × AV)
  | .agg cs => match tab t with
    | some ⟨.struct fs, _, _, _⟩ => match fs[f]? with
      | some (off, ft) => match tab ft with
        | some ti => some (off + ti.size ≤ cs.length ∧ 0 < ti.size, partA ti cs off)
        | none => none
      | none => none
    | _ => none
  | _ => none

def fieldAddrA (tab : Tab) (t : TypeId) (f : Nat) (x : AV) : Option (Prop × AV) :=
  match tab t with
  | some ⟨.struct fs, _, _, _⟩ => match fs[f]? with
    | some (off, ft) => match tab ft with
      | some ti => match x with
        | .sptr cells => some (0 < ti.size, .sptr (cells.drop off))
        | .ptr id o => some (0 < ti.size, .ptr id (o + off))
        | _ => none
      | none => none
    | none => none
  | _ => none

def indexAddrA (tab : Tab) (t : TypeId) (x i : AV) : Option (Prop × AV) :=
  match i with
  | .raw (.int _ n) => match tab t with
    | some ⟨.slice e, _, _, _⟩ => match tab e with
      | some ti => match x with
        | .list _ xs => some (0 ≤ n ∧ n < xs.length ∧ (xs.getD n.toNat []).length = ti.size, .sptr (xs.getD n.toNat []))
        | .arr id off len => some (0 ≤ n ∧ n < len, .ptr id (off + n.toNat * ti.size))
        | _ => none
      | none => none
    | some ⟨.array m e, _, _, _⟩ => match tab e with
      | some ti => match x with
        | .ptr id off => some (0 ≤ n ∧ n < m, .ptr id (off + n.toNat * ti.size))
        | .sptr cells => some (0 ≤ n ∧ n < m, .sptr (cells.drop (n.toNat * ti.size)))
        | _ => none
      | none => none
    | _ => none
  | _ => none

/-- The byte at a place. -/
def byteAt (s : ByteArray) (i : Int) : Int := if h : i.toNat < s.size then ((s[i.toNat]'h).toNat : Int) else 0

def indexA (tab : Tab) (t : TypeId) (x i : AV) : Option (Prop × AV) :=
  match i with
  | .raw (.int _ n) => match tab t with
    | some ⟨.string, _, _, _⟩ => match x with
      | .raw (.string s) => some (0 ≤ n ∧ n < s.size, .int .u8 (byteAt s n))
      | _ => none
    | some ⟨.array m e, _, _, _⟩ => match tab e with
      | some ti => match x with
        | .agg cs => some (0 ≤ n ∧ n < m ∧ n.toNat * ti.size + ti.size ≤ cs.length ∧ 0 < ti.size, partA ti cs (n.toNat * ti.size))
        | _ => none
      | none => none
    | _ => none
  | _ => none

def loadA (tab : Tab) (t : TypeId) : AV → Option (Prop × AV)
  | .sptr cells => match tab t with
    | some ti => some (ti.size ≤ cells.length ∧ 0 < ti.size, partA ti cells 0)
    | none => none
  | _ => none

def nilCheckA : AV → Option (Prop × AV)
  | .ptr id o => some (True, .ptr id o)
  | .sptr c => some (True, .sptr c)
  | .iface t v => some (True, .iface t v)
  | .clo (.func f) fs cs => some (True, .clo (.func f) fs cs)
  | _ => none

def extractA (i : Nat) : AV → Option (Prop × AV)
  | .tup vs => match vs[i]? with
    | some v => some (True, v)
    | none => none
  | _ => none

def sliceA (tab : Tab) (t : TypeId) (x : AV) (lo hi : Option AV) : Option (Prop × AV) :=
  match tab t with
  | some ⟨.string, _, _, _⟩ => match x with
    | .raw (.string s) => match lo, hi with
      | none, none => some (True, .str (s.extract 0 s.size))
      | some (.raw (.int _ l)), none => some (0 ≤ l ∧ l ≤ s.size, .str (s.extract l.toNat s.size))
      | none, some (.raw (.int _ h)) => some (0 ≤ h ∧ h ≤ s.size, .str (s.extract 0 h.toNat))
      | some (.raw (.int _ l)), some (.raw (.int _ h)) => some (0 ≤ l ∧ l ≤ h ∧ h ≤ s.size, .str (s.extract l.toNat h.toNat))
      | _, _ => none
    | _ => none
  | some ⟨.slice e, _, _, _⟩ => match tab e with
    | some ti => match x with
      | .list _ xs => match lo, hi with
        | none, none => some (True, .list .none xs)
        | some (.raw (.int _ l)), none => some (0 ≤ l ∧ l ≤ xs.length ∧ (∀ x ∈ xs, x.length = ti.size), .list .none (xs.drop l.toNat))
        | none, some (.raw (.int _ h)) => some (0 ≤ h ∧ h ≤ xs.length ∧ (∀ x ∈ xs, x.length = ti.size), .list .none (xs.take h.toNat))
        | some (.raw (.int _ l)), some (.raw (.int _ h)) => some (0 ≤ l ∧ l ≤ h ∧ h ≤ xs.length ∧ (∀ x ∈ xs, x.length = ti.size), .list .none ((xs.take h.toNat).drop l.toNat))
        | _, _ => none
      | _ => none
    | none => none
  | _ => none

def assertA (tab : Tab) (asserted : TypeId) (commaOk : Bool) (x : AV) : Option (Prop × AV) :=
  match tab asserted with
  | some ti => match ti.td with
    | .iface _ => none
    | _ => match x with
      | .iface t v => if t = asserted then some (True, if commaOk then .tup [v, .bool true] else v) else if commaOk then some (True, .tup [absC ti.zero, .bool false]) else none
      | .raw .nilIface => if commaOk then some (True, .tup [absC ti.zero, .bool false]) else none
      | _ => none
  | none => none

def lenA (tab : Tab) (t : TypeId) (x : AV) : Option (Prop × AV) :=
  match tab t with
  | some ⟨.string, _, _, _⟩ => match x with
    | .raw (.string s) => some (True, .int .i64 s.size)
    | _ => none
  | some ⟨.slice _, _, _, _⟩ => match x with
    | .list _ xs => some (True, .int .i64 xs.length)
    | .arr _ _ n => some (True, .int .i64 n)
    | _ => none
  | some ⟨.array n _, _, _, _⟩ => some (True, .int .i64 n)
  | _ => none

def minmaxA (mx : Bool) : List AV → Option (Prop × AV)
  | [.raw (.int k x)] => some (True, .int k x)
  | [.raw (.int k x), .raw (.int k' y)] => some (True, .int k (if mx then (if y > x then y else x) else (if y < x then y else x)))
  | [.raw (.int k x), .raw (.int k' y), .raw (.int k'' z)] => some (True, .int k (if mx then (if z > (if y > x then y else x) then z else (if y > x then y else x)) else (if z < (if y < x then y else x) then z else (if y < x then y else x))))
  | _ => none

/-- Cells laid into others, from a place on. -/
def layAt (cs : List AV) (off : Nat) : List AV → List AV
  | [] => cs
  | v :: vs => layAt (cs.set off v) (off + 1) vs

def fillA (place : Nat → Option (Nat × Nat)) (cells : List AV) : List (Nat × AV) → Option (List AV)
  | [] => some cells
  | (i, v) :: rest => match place i with
    | none => none
    | some (off, size) => if v.cells.length = size ∧ off + size ≤ cells.length then fillA place (layAt cells off v.cells) rest else none

def placeOf (tab : Tab) (fs : List (Nat × TypeId)) (i : Nat) : Option (Nat × Nat) :=
  match fs[i]? with
  | some (off, ft) => match tab ft with
    | some ti => some (off, ti.size)
    | none => none
  | none => none

def buildA (tab : Tab) (t : TypeId) (parts : List (Nat × AV)) : Option (Prop × AV) :=
  match tab t with
  | some ti => match ti.td with
    | .struct fs => if (fs.all fun f => (tab f.2).isSome) then match fillA (placeOf tab fs) (absC ti.zero).cells parts with
      | some cs => some (True, .agg cs)
      | none => none else none
    | .array _ e => match tab e with
      | some te => match fillA (fun i => some (i * te.size, te.size)) (absC ti.zero).cells parts with
        | some cs => some (True, .agg cs)
        | none => none
      | none => none
    | _ => none
  | none => none

/-- What an operation answers that neither reads what may change nor makes memory. -/
def opN (tab : Tab) (o : Oper) (ρ : Operand → AV) : Option (Prop × AV) :=
  match o.op with
  | .move x | .assign x => some (True, ρ x)
  | .pick c a b => match ρ c with
    | .raw (.bool t) => some (True, bif t then ρ a else ρ b)
    | _ => none
  | .makeFunc fn first caps => some (True, .clo fn (first.toList.map ρ) (caps.toList.map ρ))
  | .makeInterface t x => match tab t with
    | some ⟨.iface _, _, _, _⟩ => none
    | some _ => some (True, .iface t (ρ x))
    | none => none
  | .extract x i => extractA i (ρ x)
  | .field t x f => fieldA tab t f (ρ x)
  | .fieldAddr t x f => fieldAddrA tab t f (ρ x)
  | .indexAddr t x i => indexAddrA tab t (ρ x) (ρ i)
  | .index t x i => indexA tab t (ρ x) (ρ i)
  | .load t x => loadA tab t (ρ x)
  | .nilCheck x => nilCheckA (ρ x)
  | .binOp op t x y _ => binA tab op t (ρ x) (ρ y)
  | .unOp op _ x => unA op (ρ x)
  | .convert s d x => convA tab s d (ρ x)
  | .slice t x lo hi none => sliceA tab t (ρ x) (lo.map ρ) (hi.map ρ)
  | .typeAssert x _ a ok => assertA tab a ok (ρ x)
  | .build t parts => buildA tab t (parts.toList.map fun p => (p.1, ρ p.2))
  | .call { callee := .builtin .len, args := args, argTypes := ts } => match args.toList, ts.toList with
    | [x], [t] => lenA tab t (ρ x)
    | _, _ => none
  | .call { callee := .builtin .max, args := args, .. } => minmaxA true (args.toList.map ρ)
  | .call { callee := .builtin .min, args := args, .. } => minmaxA false (args.toList.map ρ)
  | _ => none

end Go.Proofs.YtkdendaohlnlcaaDoor.Av
