/- The reference's token, plainly: numbers, signs, all. -/
import Derived.Test.YtfblbkmmjidknaaLexG
set_option linter.unusedVariables false
set_option linter.unusedSimpArgs false
namespace Go.Am
theorem ref_digits {s : ByteArray} (hs : s.size < 2 ^ 62) {at' c : Int} {x : Option Addr} {τ : AHeap} : ∀ j : Nat, j ≤ s.size → loopT (G_semvcsref01_next_l2 s at' x c) ((j : Int), τ) = some (((scanTo digitB s j : Nat) : Int), τ) := by
  intro j hj
  rw [loopT_eq, scanTo]
  by_cases h : j < s.size
  · have h1 : (decide ((j : Int) < (s.size : Int))) = true := by simpa using h
    have hL : G_semvcsref01_next_l2 s at' x c ((j : Int), τ) = if digitB (B s j) = true then some (.inl (((j + 1 : Nat) : Int), τ)) else some (.inr ((j : Int), τ)) := by
      unfold G_semvcsref01_next_l2
      simp only [lt_eq, h1, cond_true, idxS_eq h, bd_some, ref_digit, Bool.true_and]
      cases digitB (B s j) with
      | true => simp only [cond_true, if_true]; rw [wrap64 (by omega) (by omega)]; rfl
      | false => rfl
    rw [hL, dif_pos h]
    cases hp : digitB (B s j) with
    | true => simp only [if_true]; exact ref_digits hs (j + 1) h
    | false => simp only [Bool.false_eq_true, if_false]
  · have : j = s.size := by omega
    subst this
    rw [dif_neg h]
    unfold G_semvcsref01_next_l2
    simp [lt_eq, bd_some]
termination_by j => s.size - j
def signN (s : ByteArray) (i : Nat) : Int := if B s i = 61 ∧ i + 1 < s.size ∧ B s (i + 1) = 61 then 2 else if signB (B s i) = true then 1 else 0
theorem ref_sign {s : ByteArray} (hs : s.size < 2 ^ 62) {i : Nat} (hi : i < s.size) : G_semvcsref01_sign s i = some (signN s i) := by
  unfold G_semvcsref01_sign G_semvcsref01_sign_j1 signN
  simp only [lt_eq, idxS_eq hi, bd_some]
  by_cases h61 : B s i = 61
  · rw [decide_eq_true h61]
    simp only [cond_true]
    rw [wrap64 (x := (i : Int) + 1) (by omega) (by omega)]
    have e1 : ((i : Int) + 1) = ((i + 1 : Nat) : Int) := by omega
    rw [e1]
    have hb : signB (B s i) = true := by rw [h61]; rfl
    by_cases h : i + 1 < s.size
    · have : decide (((i + 1 : Nat) : Int) < (s.size : Int)) = true := by simp; omega
      rw [this]
      simp only [cond_true, idxS_eq h, bd_some, Bool.true_and]
      by_cases h3 : B s (i + 1) = 61 <;> simp [h3, h61, h, signB]
    · have : decide (((i + 1 : Nat) : Int) < (s.size : Int)) = false := by simp; omega
      rw [this]
      simp only [cond_false, bd_some, Bool.false_and]
      simp [h, hb]
  · rw [decide_eq_false h61, if_neg (fun h => h61 h.1)]
    simp only [cond_false]
    by_cases h40 : B s i = 40
    · simp [h40, signB, bd_some]
    by_cases h41 : B s i = 41
    · simp [h41, signB, bd_some]
    by_cases h91 : B s i = 91
    · simp [h91, signB, bd_some]
    by_cases h93 : B s i = 93
    · simp [h93, signB, bd_some]
    by_cases h58 : B s i = 58
    · simp [h58, signB, bd_some]
    by_cases h44 : B s i = 44
    · simp [h44, signB, bd_some]
    by_cases h43 : B s i = 43
    · simp [h43, signB, bd_some]
    by_cases h45 : B s i = 45
    · simp [h45, signB, bd_some]
    by_cases h42 : B s i = 42
    · simp [h42, signB, bd_some]
    by_cases h60 : B s i = 60
    · simp [h60, signB, bd_some]
    by_cases h63 : B s i = 63
    · simp [h63, signB, bd_some]
    simp [signB, h61, h40, h41, h91, h93, h58, h44, h43, h45, h42, h60, h63]
end Go.Am
