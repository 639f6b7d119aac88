/- One token, plainly: all of it. -/
import Derived.Test.YtfblbkmmjidknaaLexC
set_option linter.unusedVariables false
set_option linter.unusedSimpArgs false
namespace Go.Am
noncomputable def wordT (s : ByteArray) (i : Nat) : Int × Int × Int × Int := wordS s i (scanTo innerB s i) (scanTo innerB s (scanTo innerB s i + 1)) (resB (s.extract i (scanTo innerB s i))) (resB (s.extract (scanTo innerB s i + 1) (scanTo innerB s (scanTo innerB s i + 1))))
noncomputable def tokS (s : ByteArray) (i : Nat) : Int × Int × Int × Int :=
  if letterB (B s i) = true then wordT s i
  else if digitB (B s i) = true then
    if i + 1 < scanTo digitB s i ∧ B s i = 48 then (0, 0, i, 2) else if 15 < scanTo digitB s i - i then (0, 0, i, 3) else (5, (scanTo digitB s i : Nat), 0, 0)
  else if B s i = 34 then textS s i (i + 1)
  else if B s i = 61 ∧ i + 1 < s.size ∧ B s (i + 1) = 61 then (8, (i + 2 : Nat), 0, 0)
  else if signB (B s i) = true then (8, (i + 1 : Nat), 0, 0)
  else if allowedB (B s i) = true then (0, 0, i, 2) else (0, 0, i, 1)
theorem lex_digits {s : ByteArray} (hs : s.size < 2 ^ 62) {at' : Int} {c : Int} {i : Nat} (hi : i ≤ s.size) : loopT (G_lex_token_l1 s at' c) (i : Int) = some ((scanTo digitB s i : Nat) : Int) := by
  refine loop_scanTo ?_ ?_ ?_ i hi
  · intro i hi hp
    unfold G_lex_token_l1
    have h1 : (decide ((i : Int) < (s.size : Int))) = true := by simpa using hi
    simp only [lt_eq, h1, cond_true, idxS_eq hi, bd_some, lex_digit, hp, Bool.and_self]
    rw [wrap64 (by omega) (by omega)]; rfl
  · intro i hi hp
    unfold G_lex_token_l1
    have h1 : (decide ((i : Int) < (s.size : Int))) = true := by simpa using hi
    simp only [lt_eq, h1, cond_true, idxS_eq hi, bd_some, lex_digit, hp, Bool.and_false, cond_false]
  · unfold G_lex_token_l1
    simp [lt_eq, bd_some]
theorem lex_token {s : ByteArray} (hs : s.size < 2 ^ 62) {i : Nat} (hi : i < s.size) : G_lex_token s i = some (tokS s i) := by
  unfold G_lex_token tokS
  rw [idxS_eq hi]
  simp only [bd_some, lt_eq, lex_letter]
  cases hl : letterB (B s i) with
  | true =>
    simp only [cond_true, if_true]
    rw [lex_word hs hi hl]; rfl
  | false =>
    simp only [cond_false, lex_digit, bd_some, Bool.false_eq_true, if_false]
    cases hd : digitB (B s i) with
    | true =>
      have g := scanTo_gt (p := digitB) hi hd
      have l := scanTo_le digitB s i (by omega)
      simp only [cond_true, if_true]
      rw [lex_digits hs (by omega)]
      generalize scanTo digitB s i = e at *
      simp only [bd_some]
      rw [wrap64 (by omega) (by omega), wrap64 (by omega) (by omega)]
      by_cases h1 : i + 1 < e ∧ B s i = 48
      · have : (decide ((i : Int) + 1 < (e : Int)) && decide (B s i = 48)) = true := by simp; omega
        rw [this, if_pos h1]; rfl
      · have : (decide ((i : Int) + 1 < (e : Int)) && decide (B s i = 48)) = false := by simp; omega
        rw [this, if_neg h1]
        simp only [cond_false]
        by_cases h2 : 15 < e - i
        · have : decide ((15 : Int) < (e : Int) - (i : Int)) = true := by simp; omega
          rw [this, if_pos h2]; rfl
        · have : decide ((15 : Int) < (e : Int) - (i : Int)) = false := by simp; omega
          rw [this, if_neg h2]; rfl
    | false =>
      simp only [cond_false, Bool.false_eq_true, if_false]
      by_cases h34 : B s i = 34
      · rw [if_pos h34, decide_eq_true h34]
        simp only [cond_true]
        rw [lex_text hs hi]; rfl
      · rw [if_neg h34, decide_eq_false h34]
        simp only [cond_false]
        rw [wrap64 (x := (i : Int) + 1) (by omega) (by omega), wrap64 (x := (i : Int) + 2) (by omega) (by omega)]
        have e1 : ((i : Int) + 1) = ((i + 1 : Nat) : Int) := by omega
        have e2 : ((i : Int) + 2) = ((i + 2 : Nat) : Int) := by omega
        rw [e1, e2]
        obtain ⟨r, hr, hrs⟩ := index_sign (B_range s i).1 (B_range s i).2
        have hlt : decide (((i + 1 : Nat) : Int) < (s.size : Int)) = decide (i + 1 < s.size) := by
          by_cases h : i + 1 < s.size <;> simp [h] <;> omega
        rw [hlt, hr]
        simp only [bd_some, hrs, lex_allowed]
        have tail : (bif signB (B s i) then some ((8 : Int), ((i + 1 : Nat) : Int), (0 : Int), (0 : Int)) else bif !allowedB (B s i) then some (0, 0, (i : Int), 1) else some (0, 0, (i : Int), 2)) =
            some (if signB (B s i) = true then (8, ((i + 1 : Nat) : Int), 0, 0) else if allowedB (B s i) = true then (0, 0, (i : Int), 2) else (0, 0, (i : Int), 1)) := by
          cases signB (B s i) <;> cases allowedB (B s i) <;> rfl
        rw [tail]
        generalize (if signB (B s i) = true then ((8 : Int), ((i + 1 : Nat) : Int), (0 : Int), (0 : Int)) else if allowedB (B s i) = true then (0, 0, (i : Int), 2) else (0, 0, (i : Int), 1)) = T
        cases h1 : decide (B s i = 61) with
        | false =>
          have : ¬ (B s i = 61) := by simpa using h1
          rw [if_neg (fun h => this h.1)]
          simp only [Bool.false_and, cond_false, bd_some]
        | true =>
          have h61 : B s i = 61 := by simpa using h1
          cases h2 : decide (i + 1 < s.size) with
          | false =>
            have : ¬ (i + 1 < s.size) := by simpa using h2
            rw [if_neg (fun h => this h.2.1)]
            simp only [Bool.and_false, Bool.false_and, cond_false, bd_some]
          | true =>
            have hh : i + 1 < s.size := by simpa using h2
            simp only [Bool.and_self, cond_true, idxS_eq hh, bd_some, Bool.true_and]
            by_cases h3 : B s (i + 1) = 61
            · rw [if_pos ⟨h61, hh, h3⟩, decide_eq_true h3]; rfl
            · rw [if_neg (fun h => h3 h.2.2), decide_eq_false h3]; rfl
end Go.Am
