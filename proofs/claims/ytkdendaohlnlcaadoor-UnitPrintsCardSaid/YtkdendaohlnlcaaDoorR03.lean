/- What the reference's texts of formulas are. No condition. -/
import Derived.Test.YtkdendaohlnlcaaDoorP03b
namespace Go.Proofs.YtkdendaohlnlcaaDoor.Av
set_option linter.unusedVariables false
set_option linter.unusedSimpArgs false
set_option maxRecDepth 4000
set_option maxHeartbeats 1000000
variable {w0 : Base} {k : List Nat} {H : Hp}
def E.args (e : E) : List UInt8 := Lib.itoa e.id ++ (txtP (e.kids.map E.txt) e.kids.length ++ if e.kids.length = 0 then [] else [41])
def specTx (N : Nat) : Spec := specIt.add 15 (sp1 dE (fun e => e.sz < N ∧ N ≤ 1001 ∧ e.sh = true) fun e => .str (T e.txt))
theorem txt_small {e : E} {N : Nat} (h : e.sz < N ∧ N ≤ 1001 ∧ e.sh = true) : e.txt.length ≤ 64000 := by
  have := E.txt_len e h.2.2
  omega
theorem listed_step (N : Nat) (hS : SpecOk Tryd.prog w0 (specTx N)) (c : List UInt8) (hc : c.length ≤ 1) (e : E) (h : e.sz < N + 1 ∧ N + 1 ≤ 1001 ∧ e.sh = true) (hlen : e.args.length ≤ 64000) : CallAt Tryd.prog w0 k 28 [.str (T c), e.av] H H (.str (T (c ++ e.args))) := by
  refine callAt tabOk hS mixed Tryd.func28 rfl rfl Tryd.results28 Tryd.ntmps28 (by simp) [] ?_
  intro hfr t hl ht
  simp only [At, Nat.reduceAdd] at ht
  obtain ⟨hk, hi0, hi9, hsk, hn4, hn2, hn1, hn0⟩ := E.sh_kind h.2.2
  have hil := Lib.itoa_length_le e.id (by omega) (by omega)
  have ha : e.args.length = (Lib.itoa e.id).length + ((txtP (e.kids.map E.txt) e.kids.length).length + (if e.kids.length = 0 then [] else [(41 : UInt8)]).length) := by
    simp only [E.args, List.length_append]
  simp (config := {contextual := true, maxSteps := 5000000}) only [go_sem, Nat.reduceAdd, Nat.reduceLT, Nat.reduceBEq, Nat.reduceSub, Nat.reduceMul, Nat.reduceLeDiff, Int.reduceToNat, Nat.reduceEqDiff, Nat.reduceMod, ht, hl, specTx, specIt]
  refine ⟨⟨hi0, by omega⟩, by (first | omega | ((try simp only [ByteArray.size_append, ByteArray.size_empty, T_size, List.size_toArray, List.length_append, List.length_cons, List.length_nil, Int.natCast_add] at *); omega)), ?_⟩
  refine loop_inv tabOk hS mixed [] (fun j x => ∃ i : Nat, x.tmps.length = 39 ∧ x.tmps.getD 3 AV.undef = .sptr [.int .i64 e.kind, .int .i64 e.id, .list .none (e.kids.map E.cells)] ∧ x.tmps.getD 5 AV.undef = .str (T (c ++ Lib.itoa e.id ++ txtP (e.kids.map E.txt) i)) ∧ x.tmps.getD 14 AV.undef = .list .none (e.kids.map E.cells) ∧
      x.tmps.getD 15 AV.undef = .int .i64 e.kids.length ∧ x.tmps.getD 16 AV.undef = .int .i64 i ∧ i + j = e.kids.length ∧ H.Le x.H) e.kids.length ⟨0, ?_⟩ ?_
  · simp (config := {contextual := true, maxSteps := 5000000}) only [go_sem, Nat.reduceAdd, Nat.reduceLT, Nat.reduceBEq, Nat.reduceSub, Nat.reduceMul, Nat.reduceLeDiff, Int.reduceToNat, Nat.reduceEqDiff, Nat.reduceMod, ht, hl, txtP]
    simp [txtP]
  · rintro j ⟨t, n, H2⟩ ⟨i, hl, h3, h5, h14, h15, h16, hij, hH⟩
    simp only at hl h3 h5 h14 h15 h16 hH
    by_cases hi : i < e.kids.length
    · have hd : decide ((i : Int) < (e.kids.length : Int)) = true := by simp [hi]
      have hw : IntKind.i64.wrap ((i : Int) + 1) = ((i + 1 : Nat) : Int) := by rw [wrap_i64] <;> omega
      obtain ⟨x, hx, hxe⟩ := e.kid hi
      have hP : txtP (e.kids.map E.txt) (i + 1) = txtP (e.kids.map E.txt) i ++ ((if i = 0 then [40] else [44, 32]) ++ x.txt) := by
        rw [txtP]
        simp [List.getD_eq_getElem?_getD, hx]
      have hPl := txtP_le (e.kids.map E.txt) (i + 1) (by simp; omega)
      rw [hP, List.length_map, List.length_append, List.length_append] at hPl
      have hn : H ⟨3, 3 :: (n + 1) :: k, 25⟩ = none := hfr _ (sfx2 _ _ _)
      have hle : ∀ a, H.Le (H2.upd ⟨3, 3 :: (n + 1) :: k, 25⟩ a) := fun a => Hp.le_upd hH hn
      have hxs := E.kid_sz hx
      have hxh := hsk x (List.mem_of_getElem? hx)
      simp (config := {contextual := true, maxSteps := 5000000}) only [go_sem, Nat.reduceAdd, Nat.reduceLT, Nat.reduceBEq, Nat.reduceSub, Nat.reduceMul, Nat.reduceLeDiff, Int.reduceToNat, Nat.reduceEqDiff, Nat.reduceMod, h3, h5, h14, h15, h16, hl, hd, hw, hxe, specTx, specIt]
      have h1 : ((if i = 0 then [40] else [44, 32]) : List UInt8).length ≤ 2 := by split <;> simp
      refine ⟨⟨by omega, by omega⟩, fun a => ?_, fun a => ?_⟩
      · simp only [beq_iff_eq] at a
        rw [if_pos (by omega)] at hP hPl
        exact ⟨by (first | omega | ((try simp only [ByteArray.size_append, ByteArray.size_empty, T_size, List.size_toArray, List.length_append, List.length_cons, List.length_nil, Int.natCast_add] at *); omega)), ⟨by omega, by omega, hxh⟩, by (first | omega | ((try simp only [ByteArray.size_append, ByteArray.size_empty, T_size, List.size_toArray, List.length_append, List.length_cons, List.length_nil, Int.natCast_add] at *); omega)), j - 1, by omega, i + 1, by rw [hP]; simp only [List.append_assoc], rfl, by omega, hle _⟩
      · simp only [beq_eq_false_iff_ne, ne_eq] at a
        rw [if_neg (by omega)] at hP hPl
        exact ⟨by (first | omega | ((try simp only [ByteArray.size_append, ByteArray.size_empty, T_size, List.size_toArray, List.length_append, List.length_cons, List.length_nil, Int.natCast_add] at *); omega)), ⟨by omega, by omega, hxh⟩, by (first | omega | ((try simp only [ByteArray.size_append, ByteArray.size_empty, T_size, List.size_toArray, List.length_append, List.length_cons, List.length_nil, Int.natCast_add] at *); omega)), j - 1, by omega, i + 1, by rw [hP]; simp only [List.append_assoc], rfl, by omega, hle _⟩
    · have hd : decide ((i : Int) < (e.kids.length : Int)) = false := by simp; omega
      obtain rfl : i = e.kids.length := by omega
      simp (config := {contextual := true, maxSteps := 5000000}) only [go_sem, Nat.reduceAdd, Nat.reduceLT, Nat.reduceBEq, Nat.reduceSub, Nat.reduceMul, Nat.reduceLeDiff, Int.reduceToNat, Nat.reduceEqDiff, Nat.reduceMod, h3, h5, h14, h15, h16, hl, hd, specTx, specIt]
      refine ⟨fun a => ?_, fun a => ?_⟩
      · simp only [decide_eq_true_eq] at a
        rw [if_neg (by omega)] at ha
        refine ⟨by (first | omega | ((try simp only [ByteArray.size_append, ByteArray.size_empty, T_size, List.size_toArray, List.length_append, List.length_cons, List.length_nil, Int.natCast_add] at *); omega)), ?_, hH⟩
        rw [E.args, if_neg (by omega)]
        simp only [List.append_assoc]
      · simp only [decide_eq_false_iff_not] at a
        refine ⟨?_, hH⟩
        rw [E.args, if_pos (by omega)]
        simp only [List.append_assoc, List.append_nil]
def specLs (N : Nat) : Spec := (specTx N).add 28 (sp2 dS dE (fun c e => c.size ≤ 1 ∧ (e.sz < N + 1 ∧ N + 1 ≤ 1001 ∧ e.sh = true) ∧ e.args.length ≤ 64000) fun c e => .str (T (L c ++ e.args)))
theorem specLs_ok (N : Nat) (hS : SpecOk Tryd.prog w0 (specTx N)) : SpecOk Tryd.prog w0 (specLs N) := hS.add (sp2_ok fun c e h k H => listed_step N hS (L c) (by rw [L_length]; exact h.1) e h.2.1 h.2.2)
theorem text_step (N : Nat) (hS : SpecOk Tryd.prog w0 (specLs N)) (e : E) (h : e.sz < N + 1 ∧ N + 1 ≤ 1001 ∧ e.sh = true) : CallAt Tryd.prog w0 k 15 [e.av] H H (.str (T e.txt)) := by
  refine callAt tabOk hS mixed Tryd.func15 rfl rfl Tryd.results15 Tryd.ntmps15 (by simp) [] ?_
  intro hfr t hl ht
  simp only [At, Nat.reduceAdd] at ht
  obtain ⟨hk, hi0, hi9, hsk, hn4, hn2, hn1, hn0⟩ := E.sh_kind h.2.2
  have hil := Lib.itoa_length_le e.id (by omega) (by omega)
  have htl := txt_small h
  obtain ⟨hN1, hN2, hes⟩ := h
  rcases hk with hk | hk | hk | hk | hk | hk | hk | hk | hk | hk
  · have htx : e.txt = [120] ++ Lib.itoa e.id := by rw [E.txt_eq, txtK, if_pos hk]
    simp (config := {contextual := true, maxSteps := 5000000}) only [go_sem, Nat.reduceAdd, Nat.reduceLT, Nat.reduceBEq, Nat.reduceSub, Nat.reduceMul, Nat.reduceLeDiff, Int.reduceToNat, Nat.reduceEqDiff, Nat.reduceMod, ht, hl, hk, specLs, specTx, specIt, Int.reduceBEq]
    exact ⟨⟨hi0, by omega⟩, by (first | omega | ((try simp only [ByteArray.size_append, ByteArray.size_empty, T_size, List.size_toArray, List.length_append, List.length_cons, List.length_nil, Int.natCast_add] at *); omega)), by rw [htx]; rfl⟩
  · have htx : e.txt = [102] ++ e.args := by
      rw [E.txt_eq, txtK, hk, E.args]
      simp
    have hal : e.args.length ≤ 64000 := by
      have := congrArg List.length htx
      simp only [List.length_append, List.length_cons, List.length_nil] at this
      omega
    have hkd : toE [.raw (.int .i64 2), .raw (.int .i64 e.id), .list .none (e.kids.map E.cells)] = some e := by
      have := toE_at e .none
      rwa [hk] at this
    simp (config := {contextual := true, maxSteps := 5000000}) only [go_sem, Nat.reduceAdd, Nat.reduceLT, Nat.reduceBEq, Nat.reduceSub, Nat.reduceMul, Nat.reduceLeDiff, Int.reduceToNat, Nat.reduceEqDiff, Nat.reduceMod, ht, hl, hk, specLs, specTx, specIt, Int.reduceBEq, hkd]
    ((repeat' apply And.intro) <;> first | exact List.Pairwise.nil | ((with_reducible (show drawOk _ = true)); kernel_rfl) | omega | (first | omega | ((try simp only [ByteArray.size_append, ByteArray.size_empty, T_size, List.size_toArray, List.length_append, List.length_cons, List.length_nil, Int.natCast_add] at *); omega)) | (rw [htx]; done) | (rw [htx]; simp only [List.append_assoc, List.cons_append, List.nil_append, L]; done) | (with_reducible assumption))
  · have htx : e.txt = [80] ++ e.args := by
      rw [E.txt_eq, txtK, hk, E.args]
      simp
    have hal : e.args.length ≤ 64000 := by
      have := congrArg List.length htx
      simp only [List.length_append, List.length_cons, List.length_nil] at this
      omega
    have hkd : toE [.raw (.int .i64 3), .raw (.int .i64 e.id), .list .none (e.kids.map E.cells)] = some e := by
      have := toE_at e .none
      rwa [hk] at this
    simp (config := {contextual := true, maxSteps := 5000000}) only [go_sem, Nat.reduceAdd, Nat.reduceLT, Nat.reduceBEq, Nat.reduceSub, Nat.reduceMul, Nat.reduceLeDiff, Int.reduceToNat, Nat.reduceEqDiff, Nat.reduceMod, ht, hl, hk, specLs, specTx, specIt, Int.reduceBEq, hkd]
    ((repeat' apply And.intro) <;> first | exact List.Pairwise.nil | ((with_reducible (show drawOk _ = true)); kernel_rfl) | omega | (first | omega | ((try simp only [ByteArray.size_append, ByteArray.size_empty, T_size, List.size_toArray, List.length_append, List.length_cons, List.length_nil, Int.natCast_add] at *); omega)) | (rw [htx]; done) | (rw [htx]; simp only [List.append_assoc, List.cons_append, List.nil_append, L]; done) | (with_reducible assumption))
  · have hlen : e.kids.length = 2 := hn2 (by omega)
    obtain ⟨x, hx, hxe⟩ := e.kid (i := 0) (by omega)
    obtain ⟨y, hy, hye⟩ := e.kid (i := 1) (by omega)
    have htx : e.txt = x.txt ++ [32, 61, 32] ++ y.txt := by
      rw [E.txt_eq, txtK, hk]
      simp [List.getD_eq_getElem?_getD, hx, hy]
    have hln := congrArg List.length htx
    simp only [List.length_append, List.length_cons, List.length_nil] at hln
    have hxs := E.kid_sz hx
    have hys := E.kid_sz hy
    have hxh := hsk x (List.mem_of_getElem? hx)
    have hyh := hsk y (List.mem_of_getElem? hy)
    simp (config := {contextual := true, maxSteps := 5000000}) only [go_sem, Nat.reduceAdd, Nat.reduceLT, Nat.reduceBEq, Nat.reduceSub, Nat.reduceMul, Nat.reduceLeDiff, Int.reduceToNat, Nat.reduceEqDiff, Nat.reduceMod, ht, hl, hk, specLs, specTx, specIt, Int.reduceBEq, hxe, hye, hlen, Int.reduceToNat]
    ((repeat' apply And.intro) <;> first | exact List.Pairwise.nil | ((with_reducible (show drawOk _ = true)); kernel_rfl) | omega | (first | omega | ((try simp only [ByteArray.size_append, ByteArray.size_empty, T_size, List.size_toArray, List.length_append, List.length_cons, List.length_nil, Int.natCast_add] at *); omega)) | (rw [htx]; done) | (rw [htx]; simp only [List.append_assoc, List.cons_append, List.nil_append, L]; done) | (with_reducible assumption))
  · have hlen : e.kids.length = 1 := hn1 (by omega)
    obtain ⟨x, hx, hxe⟩ := e.kid (i := 0) (by omega)
    have htx : e.txt = [33] ++ x.txt := by
      rw [E.txt_eq, txtK, hk]
      simp [List.getD_eq_getElem?_getD, hx]
    have hln := congrArg List.length htx
    simp only [List.length_append, List.length_cons, List.length_nil] at hln
    have hxs := E.kid_sz hx
    have hxh := hsk x (List.mem_of_getElem? hx)
    simp (config := {contextual := true, maxSteps := 5000000}) only [go_sem, Nat.reduceAdd, Nat.reduceLT, Nat.reduceBEq, Nat.reduceSub, Nat.reduceMul, Nat.reduceLeDiff, Int.reduceToNat, Nat.reduceEqDiff, Nat.reduceMod, ht, hl, hk, specLs, specTx, specIt, Int.reduceBEq, hxe, hlen]
    exact ⟨⟨by omega, by omega⟩, ⟨by omega, by omega, hxh⟩, by (first | omega | ((try simp only [ByteArray.size_append, ByteArray.size_empty, T_size, List.size_toArray, List.length_append, List.length_cons, List.length_nil, Int.natCast_add] at *); omega)), by rw [htx]; rfl⟩
  · have hlen : e.kids.length = 2 := hn2 (by omega)
    obtain ⟨x, hx, hxe⟩ := e.kid (i := 0) (by omega)
    obtain ⟨y, hy, hye⟩ := e.kid (i := 1) (by omega)
    have htx : e.txt = [40] ++ x.txt ++ [32, 62, 32] ++ y.txt ++ [41] := by
      rw [E.txt_eq, txtK, hk]
      simp [List.getD_eq_getElem?_getD, hx, hy]
    have hln := congrArg List.length htx
    simp only [List.length_append, List.length_cons, List.length_nil] at hln
    have hxs := E.kid_sz hx
    have hys := E.kid_sz hy
    have hxh := hsk x (List.mem_of_getElem? hx)
    have hyh := hsk y (List.mem_of_getElem? hy)
    simp (config := {contextual := true, maxSteps := 5000000}) only [go_sem, Nat.reduceAdd, Nat.reduceLT, Nat.reduceBEq, Nat.reduceSub, Nat.reduceMul, Nat.reduceLeDiff, Int.reduceToNat, Nat.reduceEqDiff, Nat.reduceMod, ht, hl, hk, specLs, specTx, specIt, Int.reduceBEq, hxe, hye, hlen, Int.reduceToNat]
    ((repeat' apply And.intro) <;> first | exact List.Pairwise.nil | ((with_reducible (show drawOk _ = true)); kernel_rfl) | omega | (first | omega | ((try simp only [ByteArray.size_append, ByteArray.size_empty, T_size, List.size_toArray, List.length_append, List.length_cons, List.length_nil, Int.natCast_add] at *); omega)) | (rw [htx]; done) | (rw [htx]; simp only [List.append_assoc, List.cons_append, List.nil_append, L]; done) | (with_reducible assumption))
  · have hlen : e.kids.length = 1 := hn1 (by omega)
    obtain ⟨x, hx, hxe⟩ := e.kid (i := 0) (by omega)
    have htx : e.txt = [64, 120] ++ Lib.itoa e.id ++ [32] ++ x.txt := by
      rw [E.txt_eq, txtK, hk]
      simp [List.getD_eq_getElem?_getD, hx]
    have hln := congrArg List.length htx
    simp only [List.length_append, List.length_cons, List.length_nil] at hln
    have hxs := E.kid_sz hx
    have hxh := hsk x (List.mem_of_getElem? hx)
    simp (config := {contextual := true, maxSteps := 5000000}) only [go_sem, Nat.reduceAdd, Nat.reduceLT, Nat.reduceBEq, Nat.reduceSub, Nat.reduceMul, Nat.reduceLeDiff, Int.reduceToNat, Nat.reduceEqDiff, Nat.reduceMod, ht, hl, hk, specLs, specTx, specIt, Int.reduceBEq, hxe, hlen]
    ((repeat' apply And.intro) <;> first | exact List.Pairwise.nil | ((with_reducible (show drawOk _ = true)); kernel_rfl) | omega | (first | omega | ((try simp only [ByteArray.size_append, ByteArray.size_empty, T_size, List.size_toArray, List.length_append, List.length_cons, List.length_nil, Int.natCast_add] at *); omega)) | (rw [htx]; done) | (rw [htx]; simp only [List.append_assoc, List.cons_append, List.nil_append, L]; done) | (with_reducible assumption))
  · have hlen : e.kids.length = 2 := hn2 (by omega)
    obtain ⟨x, hx, hxe⟩ := e.kid (i := 0) (by omega)
    obtain ⟨y, hy, hye⟩ := e.kid (i := 1) (by omega)
    have htx : e.txt = [40] ++ x.txt ++ [32, 38, 32] ++ y.txt ++ [41] := by
      rw [E.txt_eq, txtK, hk]
      simp [List.getD_eq_getElem?_getD, hx, hy]
    have hln := congrArg List.length htx
    simp only [List.length_append, List.length_cons, List.length_nil] at hln
    have hxs := E.kid_sz hx
    have hys := E.kid_sz hy
    have hxh := hsk x (List.mem_of_getElem? hx)
    have hyh := hsk y (List.mem_of_getElem? hy)
    simp (config := {contextual := true, maxSteps := 5000000}) only [go_sem, Nat.reduceAdd, Nat.reduceLT, Nat.reduceBEq, Nat.reduceSub, Nat.reduceMul, Nat.reduceLeDiff, Int.reduceToNat, Nat.reduceEqDiff, Nat.reduceMod, ht, hl, hk, specLs, specTx, specIt, Int.reduceBEq, hxe, hye, hlen, Int.reduceToNat]
    ((repeat' apply And.intro) <;> first | exact List.Pairwise.nil | ((with_reducible (show drawOk _ = true)); kernel_rfl) | omega | (first | omega | ((try simp only [ByteArray.size_append, ByteArray.size_empty, T_size, List.size_toArray, List.length_append, List.length_cons, List.length_nil, Int.natCast_add] at *); omega)) | (rw [htx]; done) | (rw [htx]; simp only [List.append_assoc, List.cons_append, List.nil_append, L]; done) | (with_reducible assumption))
  · have hlen : e.kids.length = 2 := hn2 (by omega)
    obtain ⟨x, hx, hxe⟩ := e.kid (i := 0) (by omega)
    obtain ⟨y, hy, hye⟩ := e.kid (i := 1) (by omega)
    have htx : e.txt = [40] ++ x.txt ++ [32, 124, 32] ++ y.txt ++ [41] := by
      rw [E.txt_eq, txtK, hk]
      simp [List.getD_eq_getElem?_getD, hx, hy]
    have hln := congrArg List.length htx
    simp only [List.length_append, List.length_cons, List.length_nil] at hln
    have hxs := E.kid_sz hx
    have hys := E.kid_sz hy
    have hxh := hsk x (List.mem_of_getElem? hx)
    have hyh := hsk y (List.mem_of_getElem? hy)
    simp (config := {contextual := true, maxSteps := 5000000}) only [go_sem, Nat.reduceAdd, Nat.reduceLT, Nat.reduceBEq, Nat.reduceSub, Nat.reduceMul, Nat.reduceLeDiff, Int.reduceToNat, Nat.reduceEqDiff, Nat.reduceMod, ht, hl, hk, specLs, specTx, specIt, Int.reduceBEq, hxe, hye, hlen, Int.reduceToNat]
    ((repeat' apply And.intro) <;> first | exact List.Pairwise.nil | ((with_reducible (show drawOk _ = true)); kernel_rfl) | omega | (first | omega | ((try simp only [ByteArray.size_append, ByteArray.size_empty, T_size, List.size_toArray, List.length_append, List.length_cons, List.length_nil, Int.natCast_add] at *); omega)) | (rw [htx]; done) | (rw [htx]; simp only [List.append_assoc, List.cons_append, List.nil_append, L]; done) | (with_reducible assumption))
  · have hlen : e.kids.length = 1 := hn1 (by omega)
    obtain ⟨x, hx, hxe⟩ := e.kid (i := 0) (by omega)
    have htx : e.txt = [63, 120] ++ Lib.itoa e.id ++ [32] ++ x.txt := by
      rw [E.txt_eq, txtK, hk]
      simp [List.getD_eq_getElem?_getD, hx]
    have hln := congrArg List.length htx
    simp only [List.length_append, List.length_cons, List.length_nil] at hln
    have hxs := E.kid_sz hx
    have hxh := hsk x (List.mem_of_getElem? hx)
    simp (config := {contextual := true, maxSteps := 5000000}) only [go_sem, Nat.reduceAdd, Nat.reduceLT, Nat.reduceBEq, Nat.reduceSub, Nat.reduceMul, Nat.reduceLeDiff, Int.reduceToNat, Nat.reduceEqDiff, Nat.reduceMod, ht, hl, hk, specLs, specTx, specIt, Int.reduceBEq, hxe, hlen]
    ((repeat' apply And.intro) <;> first | exact List.Pairwise.nil | ((with_reducible (show drawOk _ = true)); kernel_rfl) | omega | (first | omega | ((try simp only [ByteArray.size_append, ByteArray.size_empty, T_size, List.size_toArray, List.length_append, List.length_cons, List.length_nil, Int.natCast_add] at *); omega)) | (rw [htx]; done) | (rw [htx]; simp only [List.append_assoc, List.cons_append, List.nil_append, L]; done) | (with_reducible assumption))
end Go.Proofs.YtkdendaohlnlcaaDoor.Av
