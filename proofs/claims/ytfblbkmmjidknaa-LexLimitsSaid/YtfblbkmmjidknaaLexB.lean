/- One token, plainly. -/
import Derived.Test.YtfblbkmmjidknaaLexA
set_option linter.unusedVariables false
set_option linter.unusedSimpArgs false
namespace Go.Am
theorem slS_eq {s : ByteArray} {i j : Nat} (h : i ≤ j) (h' : j ≤ s.size) : slS s (some (i : Int)) (some (j : Int)) = some (s.extract i j) := by
  unfold slS
  simp only [Option.getD_some]
  rw [if_pos ⟨by omega, by omega, by omega⟩]; simp
theorem slS_end {s : ByteArray} {i : Nat} (h : i ≤ s.size) : slS s (some (i : Int)) none = some (s.extract i s.size) := by
  unfold slS
  simp only [Option.getD_some, Option.getD_none]
  rw [if_pos ⟨by omega, by omega, by omega⟩]; simp
theorem size_extract {s : ByteArray} {i j : Nat} (h : i ≤ j) (h' : j ≤ s.size) : (s.extract i j).size = j - i := by
  rw [ByteArray.size_extract]; omega
theorem B_extract {s : ByteArray} {i j k : Nat} (h : i + k < j) (h' : j ≤ s.size) : B (s.extract i j) k = B s (i + k) := by
  unfold B
  have h1 : k < (s.extract i j).size := by rw [ByteArray.size_extract]; omega
  rw [dif_pos h1, dif_pos (by omega)]
  rw [ByteArray.getElem_extract]

def wordS (s : ByteArray) (i : Nat) (e1 e2 : Nat) (r1 r2 : Bool) : Int × Int × Int × Int :=
  if (decide (B s i ≤ 90) && !r1 && decide (e1 + 1 < s.size) && decide (B s e1 = 46) && letterB (B s (e1 + 1))) = true then
    if 24 < e1 - i ∨ 24 < e2 - (e1 + 1) then (0, 0, i, 3) else if r2 = true then (0, 0, i, 2) else if B s (e1 + 1) ≤ 90 then (4, e2, 0, 0) else (3, e2, 0, 0)
  else if r1 = true then (7, e1, 0, 0) else if 24 < e1 - i then (0, 0, i, 3) else if B s i ≤ 90 then (2, e1, 0, 0) else (1, e1, 0, 0)
theorem scanTo_gt {p : Int → Bool} {s : ByteArray} {i : Nat} (h : i < s.size) (hp : p (B s i) = true) : i < scanTo p s i := by
  unfold scanTo
  rw [dif_pos h, if_pos hp]
  have := scanTo_ge p s (i + 1); omega
theorem inner_letter {c : Int} (h : letterB c = true) : innerB c = true := by unfold innerB; simp [h]
theorem lex_word {s : ByteArray} (hs : s.size < 2 ^ 62) {i : Nat} (hi : i < s.size) (hl : letterB (B s i) = true) :
    G_lex_word s i = some (wordS s i (scanTo innerB s i) (scanTo innerB s (scanTo innerB s i + 1)) (resB (s.extract i (scanTo innerB s i))) (resB (s.extract (scanTo innerB s i + 1) (scanTo innerB s (scanTo innerB s i + 1))))) := by
  have g1 := scanTo_gt (p := innerB) hi (inner_letter hl)
  have l1 := scanTo_le innerB s i (by omega)
  unfold G_lex_word
  rw [run_eq hs (by omega)]
  simp only [bd_some, lt_eq]
  generalize he1 : scanTo innerB s i = e1 at *
  rw [slS_eq (by omega) l1]
  simp only [bd_some]
  have hz : (s.extract i e1).size = e1 - i := size_extract (by omega) l1
  have h0 := idxS_eq (s := s.extract i e1) (i := 0) (by omega)
  have hB := B_extract (s := s) (i := i) (j := e1) (k := 0) (by omega) l1
  simp only [Nat.add_zero] at hB
  rw [hB] at h0
  have h0' : idxS (s.extract i e1) 0 = some (B s i) := h0
  simp only [h0', bd_some, lex_reserved]
  rw [wrap64 (by omega) (by omega)]
  have e0 : ((e1 : Int) + 1) = ((e1 + 1 : Nat) : Int) := by omega
  rw [e0]
  generalize hr1 : resB (s.extract i e1) = r1
  have hcast : ∀ b : Bool, (bif b then some r1 else some false) = some (b && r1) := by intro b; cases b <;> rfl
  rw [hcast]
  simp only [bd_some, hz]
  have hlt : decide (((e1 + 1 : Nat) : Int) < (s.size : Int)) = decide (e1 + 1 < s.size) := by
    by_cases h : e1 + 1 < s.size <;> simp [h] <;> omega
  rw [hlt]
  have h24 : decide ((24 : Int) < ((e1 - i : Nat) : Int)) = decide (24 < e1 - i) := by
    by_cases h : 24 < e1 - i <;> simp [h] <;> omega
  rw [h24]
  have hu : (decide (B s i ≤ 90) && !(decide (B s i ≤ 90) && r1)) = (decide (B s i ≤ 90) && !r1) := by cases decide (B s i ≤ 90) <;> simp
  rw [hu]
  unfold wordS
  by_cases hc : (decide (B s i ≤ 90) && !r1 && decide (e1 + 1 < s.size)) = true
  · rw [hc]
    have h3 : e1 + 1 < s.size := by simp only [Bool.and_eq_true, decide_eq_true_eq] at hc; exact hc.2
    have hi1 : idxS s (e1 : Int) = some (B s e1) := idxS_eq (by omega)
    have hi2 : idxS s ((e1 + 1 : Nat) : Int) = some (B s (e1 + 1)) := idxS_eq h3
    simp only [cond_true, hi1, bd_some, Bool.true_and]
    cases h4 : decide (B s e1 = 46) with
    | false =>
      simp only [cond_false, bd_some, Bool.false_and, Bool.false_eq_true, if_false]
      cases r1 <;> simp only [cond_true, cond_false, if_true, Bool.false_eq_true, if_false]
      by_cases h : 24 < e1 - i <;> by_cases h' : B s i ≤ 90 <;> simp [h, h']
    | true =>
      simp only [cond_true, hi2, bd_some, lex_letter, Bool.true_and]
      cases h5 : letterB (B s (e1 + 1)) with
      | false =>
        simp only [cond_false, Bool.false_eq_true, if_false]
        cases r1 <;> simp only [cond_true, cond_false, if_true, Bool.false_eq_true, if_false]
        by_cases h : 24 < e1 - i <;> by_cases h' : B s i ≤ 90 <;> simp [h, h']
      | true =>
        have g2 := scanTo_gt (p := innerB) h3 (inner_letter h5)
        have l2 := scanTo_le innerB s (e1 + 1) (by omega)
        rw [run_eq hs (by omega)]
        generalize scanTo innerB s (e1 + 1) = e2 at *
        simp only [cond_true, bd_some, if_true]
        rw [slS_eq (by omega) l2]
        have hz2 : (s.extract (e1 + 1) e2).size = e2 - (e1 + 1) := size_extract (by omega) l2
        have hB2 := B_extract (s := s) (i := e1 + 1) (j := e2) (k := 0) (by omega) l2
        have h02 : idxS (s.extract (e1 + 1) e2) 0 = some (B s (e1 + 1)) := by
          have := idxS_eq (s := s.extract (e1 + 1) e2) (i := 0) (by omega)
          rw [hB2] at this; exact this
        simp only [bd_some, hz2, h02]
        have h24' : decide ((24 : Int) < ((e2 - (e1 + 1) : Nat) : Int)) = decide (24 < e2 - (e1 + 1)) := by
          by_cases h : 24 < e2 - (e1 + 1) <;> simp [h] <;> omega
        rw [h24']
        generalize resB (s.extract (e1 + 1) e2) = r2
        by_cases h : 24 < e1 - i <;> by_cases h' : 24 < e2 - (e1 + 1) <;> by_cases h'' : B s (e1 + 1) ≤ 90 <;> cases r2 <;> simp [h, h', h'']
  · simp only [Bool.not_eq_true] at hc
    rw [hc]
    simp only [cond_false, bd_some, Bool.false_and, Bool.false_eq_true, if_false]
    cases r1 <;> simp only [cond_true, cond_false, if_true, Bool.false_eq_true, if_false]
    by_cases h : 24 < e1 - i <;> by_cases h' : B s i ≤ 90 <;> simp [h, h']
end Go.Am
