/- One token, plainly: texts, numbers, signs. -/
import Derived.Test.YtfblbkmmjidknaaLexB
set_option linter.unusedVariables false
set_option linter.unusedSimpArgs false
namespace Go.Am
def textS (s : ByteArray) (i j : Nat) : Int × Int × Int × Int :=
  if h : j < s.size then
    if B s j = 34 then (6, (j + 1 : Nat), 0, 0)
    else if B s j = 92 ∨ B s j = 9 ∨ B s j = 10 ∨ B s j = 13 then (0, 0, i, 2)
    else if allowedB (B s j) = true then textS s i (j + 1) else (0, 0, j, 1)
  else (0, 0, i, 2)
termination_by s.size - j
theorem lex_text_loop {s : ByteArray} (hs : s.size < 2 ^ 62) {i : Nat} : ∀ j : Nat, j ≤ s.size → (bd (loopT (G_lex_text_l1 s i) (j : Int)) fun r => match r with
    | .inl _ => some ((0 : Int), (0 : Int), (i : Int), (2 : Int))
    | .inr (a, b, c, d) => some (a, b, c, d)) = some (textS s i j) := by
  intro j hj
  rw [loopT_eq, textS]
  by_cases h : j < s.size
  · have h1 : (decide ((j : Int) < (s.size : Int))) = true := by simpa using h
    rw [dif_pos h]
    unfold G_lex_text_l1
    simp only [lt_eq, h1, cond_true, idxS_eq h, bd_some, lex_allowed]
    by_cases h34 : B s j = 34
    · simp only [h34, decide_true, cond_true, if_true]
      rw [wrap64 (by omega) (by omega)]; rfl
    · simp only [h34, decide_false, cond_false, if_false]
      by_cases h92 : B s j = 92 ∨ B s j = 9 ∨ B s j = 10 ∨ B s j = 13
      · rw [if_pos h92]
        have : (decide (B s j = 92) || decide (B s j = 9) || decide (B s j = 10) || decide (B s j = 13)) = true := by simpa [or_assoc] using h92
        rw [this]; rfl
      · rw [if_neg h92]
        have : (decide (B s j = 92) || decide (B s j = 9) || decide (B s j = 10) || decide (B s j = 13)) = false := by simpa [not_or, and_assoc] using h92
        rw [this]
        simp only [cond_false]
        cases ha : allowedB (B s j) with
        | false => rfl
        | true =>
          simp only [Bool.not_true, cond_false, if_true]
          rw [wrap64 (by omega) (by omega)]
          exact lex_text_loop hs (j + 1) h
  · have : j = s.size := by omega
    subst this
    rw [dif_neg h]
    unfold G_lex_text_l1
    simp [lt_eq, bd_some]
termination_by j => s.size - j
theorem lex_text {s : ByteArray} (hs : s.size < 2 ^ 62) {i : Nat} (hi : i < s.size) : G_lex_text s i = some (textS s i (i + 1)) := by
  unfold G_lex_text
  simp only [lt_eq]
  rw [wrap64 (by omega) (by omega)]
  exact lex_text_loop hs (i + 1) (by omega)

def signB (c : Int) : Bool := decide (c = 40) || decide (c = 41) || decide (c = 91) || decide (c = 93) || decide (c = 58) || decide (c = 44) || decide (c = 61) || decide (c = 43) || decide (c = 45) || decide (c = 42) || decide (c = 60) || decide (c = 63)
theorem index_sign {c : Int} (h0 : 0 ≤ c) (h1 : c ≤ 255) : ∃ r, G_strings_IndexByte (⟨#[40, 41, 91, 93, 58, 44, 61, 43, 45, 42, 60, 63]⟩ : ByteArray) c = some r ∧ decide (0 ≤ r) = signB c := by
  refine ⟨_, rfl, ?_⟩
  obtain ⟨n, rfl⟩ : ∃ n : Nat, c = n := ⟨c.toNat, by omega⟩
  have : (List.range 256).all (fun n => decide (0 ≤ firstIdx (⟨#[40, 41, 91, 93, 58, 44, 61, 43, 45, 42, 60, 63]⟩ : ByteArray) ((n : Int)).toNat.toUInt8) == signB (n : Int)) = true := by kernel_rfl
  rw [List.all_eq_true] at this
  simpa using this n (by rw [List.mem_range]; omega)
end Go.Am
