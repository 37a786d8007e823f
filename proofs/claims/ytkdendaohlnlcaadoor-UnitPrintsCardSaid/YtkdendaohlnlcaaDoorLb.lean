/- Functions of Go's library that answer texts. No condition. -/
import Derived.Test.YtkdendaohlnlcaaDoorBd
import Derived.Test.YtkdendaohlnlcaaDoorUn
import Derived.Test.YtkdendaohlnlcaaDoorShelf
import Derived.WalkSmall
namespace Go.Proofs.YtkdendaohlnlcaaDoor.Av
set_option linter.unusedVariables false
set_option linter.unusedSimpArgs false
set_option maxRecDepth 4000
set_option maxHeartbeats 1000000
open Go.RowKit
variable {w0 : Base} {k : List Nat} {H : Hp}
/-- A text, out of its bytes. -/
abbrev T (l : List UInt8) : ByteArray := ⟨l.toArray⟩
@[go_sem] theorem T_append (l m : List UInt8) : ByteArray.mk l.toArray ++ ByteArray.mk m.toArray = ByteArray.mk (l ++ m).toArray := by
  apply ByteArray.ext
  simp [ByteArray.data_append]
theorem T_size (l : List UInt8) : (T l).size = l.length := by simp [ByteArray.size]
def L (s : ByteArray) : List UInt8 := s.data.toList
theorem T_L (s : ByteArray) : T (L s) = s := rfl
theorem L_T (l : List UInt8) : L (T l) = l := by simp [L]
theorem L_append (s t : ByteArray) : L (s ++ t) = L s ++ L t := by simp [L, ByteArray.data_append]
theorem L_length (s : ByteArray) : (L s).length = s.size := by
  unfold L
  rw [Array.length_toList]
  rfl
theorem L_inj {s t : ByteArray} (h : L s = L t) : s = t := by rw [← T_L s, ← T_L t, h]
theorem below_sort {w : World} {n : Nat} {os : Array Obj} : Below w.heap.size w (Go.Sort.grow (w.drewN n) os) :=
  ⟨rfl, rfl, rfl, by simp [Go.Sort.grow, World.drewN], fun k hk => by
    show (w.heap ++ os)[k]? = _
    exact Array.getElem?_append_left hk⟩
theorem tabIs_below {P : Program} {w w' : World} {name : String} {kd : IntKind} {zs : List Int} (h : Lib.TabIs P w name kd zs) (hb : Below w.heap.size w w') : Lib.TabIs P w' name kd zs := by
  unfold Lib.TabIs World.var? at h ⊢
  rw [Option.bind_eq_some_iff] at h ⊢
  obtain ⟨g, h1, h2⟩ := h
  refine ⟨g, h1, ?_⟩
  have hg : g < w.heap.size := by
    cases hh : w.heap[g]? with
    | none => rw [hh] at h2; cases h2
    | some o => exact (Array.getElem?_eq_some_iff.1 hh).1
  rw [hb.block g hg]
  exact h2
/-- The table that strconv.Itoa reads. -/
def TabW (w0 : Base) : Prop := Lib.TabIs Tryd.prog w0.w "internal/strconv.uint64pow10" .u64 Lib.pow10Tab
theorem itoa_call (hw : TabW w0) (n : Int) (h0 : -9223372036854775808 ≤ n) (h1 : n ≤ 9223372036854775807) : CallAt Tryd.prog w0 k 10 [.int .i64 n] H H (.str (T (Lib.itoa n))) := by
  refine callAt_of_law' Tryd.func10 rfl (by kernel_rfl) fun G w ca hs hr => ?_
  obtain rfl : ca = #[.int .i64 n] := by
    simp only [RepL, Rep] at hr
    obtain ⟨u, us, e, rfl, rfl⟩ := hr
    apply Array.ext'
    simpa using e
  have htab : Lib.TabIs Tryd.prog w "internal/strconv.uint64pow10" .u64 Lib.pow10Tab := tabIs_below hw hs.below
  refine (Tryd.strconv_Itoa n h0 h1 w htab).mono fun e w' he => ?_
  obtain ⟨rfl, kk, os, rfl⟩ := he
  exact ⟨_, fun _ => none, rfl, below_sort, (fun a u h => by cases h), by simp [Rep]⟩
theorem itoa_small (n : Int) (h0 : 0 ≤ n) (h1 : n < 100) : CallAt Tryd.prog w0 k 10 [.int .i64 n] H H (.str (T (Lib.itoa n))) := by
  refine callAt_of_law' Tryd.func10 rfl (by kernel_rfl) fun G w ca hs hr => ?_
  obtain ⟨m, rfl⟩ : ∃ m : Nat, n = m := ⟨n.toNat, by omega⟩
  obtain rfl : ca = #[.int .i64 m] := by
    simp only [RepL, Rep] at hr
    obtain ⟨u, us, e, rfl, rfl⟩ := hr
    apply Array.ext'
    simpa using e
  refine (Tryd.strconv_Itoa_small m (by omega) w).mono fun e w' he => ?_
  obtain ⟨rfl, rfl⟩ := he
  refine ⟨_, fun _ => none, rfl, Below.refl _ _, (fun a u h => by cases h), ?_⟩
  simp only [Rep]
  rw [Lib.itoa, if_neg (by omega)]
  simp
theorem repE_str {G : Gh} {ad : Addr} : ∀ (l : List ByteArray) (i : Nat), RepE G ad i (l.map cS.enc) → ∀ j x, l[j]? = some x → G.C (ad.add (i + j)) = some (.string x)
  | [], i, _, j, x, h => by simp at h
  | s :: l, i, hr, j, x, h => by
    simp only [List.map_cons, cS, RepE, RepC, Rep] at hr
    obtain ⟨⟨⟨v, e, rfl⟩, _⟩, h2⟩ := hr
    cases j with
    | zero =>
      simp only [List.getElem?_cons_zero, Option.some.injEq] at h
      subst h
      simpa using e
    | succ j =>
      have := repE_str l (i + 1) h2 j x (by simpa using h)
      rwa [show i + 1 + j = i + (j + 1) by omega] at this
/-- The texts, with another one between. -/
def joinT (l : List ByteArray) (sep : ByteArray) : List UInt8 := Lib.join (l.map L) (L sep)
theorem join_call (l : List ByteArray) (sep : ByteArray) (hl : l.length ≤ 140737488355328) (hj : (joinT l sep).length ≤ 140737488355328) : CallAt Tryd.prog w0 k 8 [(dL cS).enc l, .str sep] H H (.str (T (joinT l sep))) := by
  refine callAt_of_law' Tryd.func8 rfl (by kernel_rfl) fun G w ca hs hr => ?_
  simp only [dL, RepL, Rep] at hr
  obtain ⟨V, us, e1, ⟨A, n, c, rfl, hn, hc, _, _, ad, ha, hre⟩, V2, us2, rfl, rfl, rfl⟩ := hr
  obtain rfl : ca = #[.slice A n c, .string sep] := by apply Array.ext'; simpa using e1
  rw [List.length_map] at hn
  subst hn
  cases l with
  | nil =>
    refine (Tryd.strings_Join_none A c sep w).mono fun e w' he => ?_
    obtain ⟨rfl, rfl⟩ := he
    exact ⟨_, fun _ => none, rfl, Below.refl _ _, (fun a u h => by cases h), by simp [Rep, joinT, Lib.join_nil]⟩
  | cons x l =>
    have hA := ha (by simp)
    subst hA
    have hcell := repE_str _ 0 hre
    obtain ⟨bk, o, sp⟩ := ad
    have h0 := hs.c _ _ (by simpa using hcell 0 x rfl)
    have hsp : sp = none := by
      cases sp with
      | none => rfl
      | some q =>
        exfalso
        unfold World.cell? at h0
        simp only [Addr.add, if_true] at h0
        split at h0
        · simp at h0
        · cases h0
    subst hsp
    have hlt := World.block_lt_of_cell? w _ h0
    refine (Tryd.strings_Join bk o c (x :: l) sep w (fun j y hy => ?_) (by simpa [Addr.add] using hlt) hl hc hj).mono fun e w' he => ?_
    · have := hs.c _ _ (by simpa using hcell j y hy)
      have hadd : (⟨bk, o, none⟩ : Addr).add j = ⟨bk, o + j, none⟩ := by unfold Addr.add; split <;> simp_all
      rwa [hadd] at this
    · obtain ⟨rfl, hb⟩ := he
      exact ⟨_, fun _ => none, rfl, hb, (fun a u h => by cases h), by simp only [Rep]; rfl⟩
end Go.Proofs.YtkdendaohlnlcaaDoor.Av
