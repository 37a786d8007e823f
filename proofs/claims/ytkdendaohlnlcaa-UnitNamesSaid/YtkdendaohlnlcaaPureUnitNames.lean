/- For every text the program's test of a name answers as the document's reference does: no condition. -/
import Derived.Test.YtkdendaohlnlcaaPUnitNamesx1
namespace Go.Proofs.Ytkdendaohlnlcaa.Pure
open Go.RowKit Go.Proofs.Ytkdendaohlnlcaa.PUnitNames Go.Proofs.YtkdendaohlnlcaaW.PrintWords Go.Proofs.YtkdendaohlnlcaaW.PrintLast

/-- A byte that may stand in a name. -/
def nmSmall (c : Int) : Bool := decide (97 ≤ c) && decide (c ≤ 122)
def nmOther (c : Int) : Bool := decide (c = 45) || (decide (48 ≤ c) && decide (c ≤ 57))
def nmAll (s : ByteArray) : Nat → Int → Bool
  | 0, _ => true
  | d + 1, i => (nmSmall (bt s i) || (decide (i ≠ 0) && nmOther (bt s i))) && nmAll s d (i + 1)
def nmLen (s : ByteArray) : Bool := decide (1 ≤ s.size) && decide (s.size ≤ 12)

theorem nmWrap {i : Int} {n : Nat} (h0 : 0 ≤ i) (h : i < (n : Int)) (hn : n ≤ 140737488351232) : wrap64 (i + 1) = i + 1 := by
  unfold wrap64
  omega

theorem nmOne (s : ByteArray) (hn : s.size ≤ 140737488351232) (d : Nat) : ∀ (k : Nat) (i : Int), 0 ≤ i → (s.size : Int) - i = d → d < k →
    unit_Name.l0 k s i = some (nmAll s d i && nmLen s) := by
  induction d with
  | zero =>
    intro k i h0 hd hk
    obtain ⟨k, rfl⟩ : ∃ m, k = m + 1 := ⟨k - 1, by omega⟩
    simp only [unit_Name.l0]
    rw [if_neg (by omega)]
    simp only [nmAll, nmLen, Bool.true_and]
    by_cases h1 : (s.size : Int) ≥ 1
    · rw [if_pos h1]
      have : 1 ≤ s.size := by omega
      by_cases h2 : s.size ≤ 12
      · have h3 : (s.size : Int) ≤ 12 := by omega
        simp [this, h2, h3]
      · have h3 : ¬ (s.size : Int) ≤ 12 := by omega
        simp [this, h2, h3]
    · rw [if_neg h1]
      have : ¬ 1 ≤ s.size := by omega
      simp [this]
  | succ d ih =>
    intro k i h0 hd hk
    obtain ⟨k, rfl⟩ : ∃ m, k = m + 1 := ⟨k - 1, by omega⟩
    have hlt : i < (s.size : Int) := by omega
    have hr := ih k (i + 1) (by omega) (by omega) (by omega)
    simp only [unit_Name.l0]
    rw [if_pos hlt, if_pos h0, nmWrap h0 hlt hn, hr]
    simp only [nmAll, nmSmall, nmOther]
    generalize bt s i = c
    generalize nmAll s d (i + 1) = b
    generalize nmLen s = e
    repeat' split
    all_goals first
      | (have ha : decide (97 ≤ c) = true := by simp; omega
         have hb : decide (c ≤ 122) = true := by simp; omega
         simp [ha, hb]; done)
      | (simp; omega)
      | (simp; intros; omega)
      | (have : ¬ (97 ≤ c ∧ c ≤ 122) := by omega
         simp_all; try omega)

def nmRef (s : ByteArray) : Nat → Int → Bool
  | 0, _ => true
  | d + 1, i => (nmSmall (bt s i) || nmOther (bt s i)) && nmRef s d (i + 1)

theorem nmSmall_some (c : Int) : organonref09_small.f c = some (nmSmall c) := by
  unfold organonref09_small.f nmSmall
  by_cases h : c ≥ 97
  · rw [if_pos h]
    have : 97 ≤ c := h
    simp [this]
  · rw [if_neg h]
    have : ¬ 97 ≤ c := h
    simp [this]

theorem nmDigit_some (c : Int) : organonref09_digit.f c = some (decide (48 ≤ c) && decide (c ≤ 57)) := by
  unfold organonref09_digit.f
  by_cases h : c ≥ 48
  · rw [if_pos h]
    have : 48 ≤ c := h
    simp [this]
  · rw [if_neg h]
    have : ¬ 48 ≤ c := h
    simp [this]

theorem nmTwo (s : ByteArray) (hn : s.size ≤ 140737488351232) (d : Nat) : ∀ (k : Nat) (i : Int), 0 ≤ i → (s.size : Int) - i = d → d < k →
    organonref09_Name.l0 k s i = some (nmRef s d i) := by
  induction d with
  | zero =>
    intro k i h0 hd hk
    obtain ⟨k, rfl⟩ : ∃ m, k = m + 1 := ⟨k - 1, by omega⟩
    simp only [organonref09_Name.l0]
    rw [if_neg (by omega)]
    rfl
  | succ d ih =>
    intro k i h0 hd hk
    obtain ⟨k, rfl⟩ : ∃ m, k = m + 1 := ⟨k - 1, by omega⟩
    have hlt : i < (s.size : Int) := by omega
    have hr := ih k (i + 1) (by omega) (by omega) (by omega)
    simp only [organonref09_Name.l0]
    rw [if_pos hlt, if_pos h0, nmWrap h0 hlt hn, hr, nmSmall_some, nmDigit_some]
    simp only [nmRef, nmOther, Option.bind_some]
    generalize nmSmall (bt s i) = a
    generalize nmRef s d (i + 1) = b
    generalize (decide (48 ≤ bt s i) && decide (bt s i ≤ 57)) = e
    by_cases h : bt s i = 45 <;> cases a <;> cases b <;> cases e <;> simp [h]

theorem nmTail (s : ByteArray) (d : Nat) : ∀ i : Int, 0 < i → nmAll s d i = nmRef s d i := by
  induction d with
  | zero =>
    intro i _
    rfl
  | succ d ih =>
    intro i hi
    simp only [nmAll, nmRef]
    rw [ih (i + 1) (by omega)]
    have : i ≠ 0 := by omega
    simp [this]

theorem UnitNames : organonlaw09_UnitNames.Pure := by
  intro s hn
  refine ⟨s.size + 2, ?_⟩
  have h1 := nmOne s hn s.size (s.size + 2) 0 (by omega) (by omega) (by omega)
  have h2 := nmTwo s hn s.size (s.size + 1) 0 (by omega) (by omega) (by omega)
  unfold organonlaw09_UnitNames.f unit_Name.f
  rw [h1]
  simp only [Option.bind_some]
  have h3 : organonref09_Name.f (s.size + 2) s = some (nmAll s s.size 0 && nmLen s) := by
    unfold organonref09_Name.f
    by_cases ha : (s.size : Int) < 1
    · rw [if_pos ha]
      have : ¬ 1 ≤ s.size := by omega
      simp [organonref09_Name.j0, nmLen, this]
    · rw [if_neg ha]
      by_cases hb : (s.size : Int) > 12
      · rw [if_pos hb]
        have : ¬ s.size ≤ 12 := by omega
        simp [organonref09_Name.j0, nmLen, this]
      · rw [if_neg hb, if_pos (by omega), nmSmall_some]
        simp only [Option.bind_some, organonref09_Name.j0]
        have hl : nmLen s = true := by
          have p : 1 ≤ s.size := by omega
          have q : s.size ≤ 12 := by omega
          simp [nmLen, p, q]
        rw [hl, h2, Bool.and_true]
        obtain ⟨d, hd⟩ : ∃ d, s.size = d + 1 := ⟨s.size - 1, by omega⟩
        rw [hd]
        simp only [nmAll, nmRef]
        rw [nmTail s d (0 + 1) (by omega)]
        cases nmSmall (bt s 0) <;> simp
  rw [h3]
  simp

end Go.Proofs.Ytkdendaohlnlcaa.Pure
