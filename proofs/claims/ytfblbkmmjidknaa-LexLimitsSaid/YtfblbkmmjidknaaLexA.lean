/- The lexer's functions, plainly: bytes, words, texts. -/
import Derived.Test.YtfblbkmmjidknaaL1G
import Derived.Test.YtfblbkmmjidknaaAmP1
set_option linter.unusedVariables false
set_option linter.unusedSimpArgs false
namespace Go.Am
theorem bd_some {α β : Type} (a : α) (f : α → Option β) : bd (some a) f = f a := rfl
theorem lt_eq {α β : Type} (a : α) (f : α → β) : lt a f = f a := rfl

def allowedB (c : Int) : Bool := decide (c = 9) || decide (c = 10) || decide (c = 13) || (decide (32 ≤ c) && decide (c ≤ 126))
def letterB (c : Int) : Bool := (decide (97 ≤ c) && decide (c ≤ 122)) || (decide (65 ≤ c) && decide (c ≤ 90))
def digitB (c : Int) : Bool := decide (48 ≤ c) && decide (c ≤ 57)
def innerB (c : Int) : Bool := letterB c || digitB c || decide (c = 95)
theorem lex_allowed (c : Int) : G_lex_allowed c = some (allowedB c) := rfl
theorem lex_letter (c : Int) : G_lex_letter c = some (letterB c) := rfl
theorem lex_digit (c : Int) : G_lex_digit c = some (digitB c) := rfl
theorem lex_inner (c : Int) : G_lex_inner c = some (innerB c) := by
  unfold G_lex_inner innerB
  simp only [lex_letter, lex_digit, bd_some, lt_eq]
  cases letterB c <;> simp [bd_some]
theorem ref_white (c : Int) : G_semvcsref01_white c = some (decide (c = 9) || decide (c = 10) || decide (c = 13) || decide (c = 32)) := rfl
theorem ref_printed (c : Int) : G_semvcsref01_printed c = some (decide (32 ≤ c) && decide (c ≤ 126)) := rfl
theorem ref_allowed (c : Int) : G_semvcsref01_allowed c = some (allowedB c) := by
  unfold G_semvcsref01_allowed
  simp only [ref_white, ref_printed, bd_some, lt_eq]
  by_cases h : c = 32
  · subst h; rfl
  · unfold allowedB
    cases h9 : decide (c = 9) <;> cases h10 : decide (c = 10) <;> cases h13 : decide (c = 13) <;> simp [h, bd_some]
theorem ref_digit (c : Int) : G_semvcsref01_digit c = some (digitB c) := rfl
def lowerB (c : Int) : Bool := decide (97 ≤ c) && decide (c ≤ 122)
def upperB (c : Int) : Bool := decide (65 ≤ c) && decide (c ≤ 90)
theorem ref_lower (c : Int) : G_semvcsref01_lower c = some (lowerB c) := rfl
theorem ref_upper (c : Int) : G_semvcsref01_upper c = some (upperB c) := rfl
theorem ref_inWord (c : Int) : G_semvcsref01_inWord c = some (innerB c) := by
  unfold G_semvcsref01_inWord
  simp only [ref_lower, ref_upper, ref_digit, bd_some, lt_eq]
  unfold innerB letterB
  show _ = some ((lowerB c || upperB c) || digitB c || decide (c = 95))
  cases lowerB c <;> cases upperB c <;> simp [bd_some]

/-! ### Words -/
theorem run_eq {s : ByteArray} (hs : s.size < 2 ^ 62) {i : Nat} (hi : i ≤ s.size) : G_lex_run s i = some ((scanTo innerB s i : Nat) : Int) := by
  unfold G_lex_run
  have := loop_scanTo (p := innerB) (s := s) (L := G_lex_run_l1 s) ?_ ?_ ?_ i hi
  · rw [this]; rfl
  · intro i hi hp
    unfold G_lex_run_l1
    have h1 : (decide ((i : Int) < (s.size : Int))) = true := by simpa using hi
    simp only [lt_eq, h1, cond_true, idxS_eq hi, bd_some, lex_inner, hp, Bool.and_self]
    rw [wrap64 (by omega) (by omega)]; rfl
  · intro i hi hp
    unfold G_lex_run_l1
    have h1 : (decide ((i : Int) < (s.size : Int))) = true := by simpa using hi
    simp only [lt_eq, h1, cond_true, idxS_eq hi, bd_some, lex_inner, hp, Bool.and_false, cond_false]
  · unfold G_lex_run_l1
    simp [lt_eq, bd_some]
theorem word_eq {s : ByteArray} (hs : s.size < 2 ^ 62) {i : Nat} (hi : i ≤ s.size) : G_semvcsref01_word s i = some (if i < s.size ∧ letterB (B s i) = true then (scanTo innerB s i : Int) - i else 0) := by
  have hl : loopT (G_semvcsref01_word_l1 s i) (i : Int) = some ((scanTo innerB s i : Nat) : Int) := by
    refine loop_scanTo ?_ ?_ ?_ i hi
    · intro i hi hp
      unfold G_semvcsref01_word_l1
      have h1 : (decide ((i : Int) < (s.size : Int))) = true := by simpa using hi
      simp only [lt_eq, h1, cond_true, idxS_eq hi, bd_some, ref_inWord, hp, Bool.and_self]
      rw [wrap64 (by omega) (by omega)]; rfl
    · intro i hi hp
      unfold G_semvcsref01_word_l1
      have h1 : (decide ((i : Int) < (s.size : Int))) = true := by simpa using hi
      simp only [lt_eq, h1, cond_true, idxS_eq hi, bd_some, ref_inWord, hp, Bool.and_false, cond_false]
    · unfold G_semvcsref01_word_l1
      simp [lt_eq, bd_some]
  have hg := scanTo_ge innerB s i
  have hle := scanTo_le innerB s i hi
  unfold G_semvcsref01_word
  by_cases h : i < s.size
  · have h1 : decide ((s.size : Int) ≤ (i : Int)) = false := by simpa using h
    simp only [lt_eq, h1, Bool.not_false, cond_true, idxS_eq h, bd_some, ref_lower, ref_upper, Bool.true_and, Bool.false_or]
    have hL : letterB (B s i) = (lowerB (B s i) || upperB (B s i)) := rfl
    rw [hl]
    simp only [bd_some, h, true_and, hL]
    rw [wrap64 (by omega) (by omega)]
    cases e1 : lowerB (B s i) <;> cases e2 : upperB (B s i) <;> simp [bd_some, e1, e2]
  · have h1 : decide ((s.size : Int) ≤ (i : Int)) = true := by simp; omega
    simp only [lt_eq, h1, Bool.not_true, cond_false, bd_some, Bool.false_and, Bool.true_or, cond_true, h, false_and, if_false]
/-! ### Reserved words -/
theorem ex_cond {c : Bool} {b : Bool} {x : Option Bool} (h : ∃ r, x = some r) : ∃ r, (bif c then some b else x) = some r := by
  cases c
  · exact h
  · exact ⟨b, rfl⟩
theorem reserved_some (w : ByteArray) : ∃ r, G_lex_reserved w = some r := by
  unfold G_lex_reserved G_lex_reserved_j1
  simp only [lt_eq]
  repeat (first | exact ⟨_, rfl⟩ | apply ex_cond)
noncomputable def resB (w : ByteArray) : Bool := match G_lex_reserved w with
  | some b => b
  | none => false
theorem lex_reserved (w : ByteArray) : G_lex_reserved w = some (resB w) := by
  obtain ⟨r, hr⟩ := reserved_some w
  unfold resB; rw [hr]
theorem ref_reserved (w : ByteArray) : G_semvcsref01_reserved w = some (resB w) := by
  rw [← lex_reserved]; rfl
end Go.Am
