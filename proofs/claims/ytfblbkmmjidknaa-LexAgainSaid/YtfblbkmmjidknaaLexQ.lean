/- Which strings are trivia, on both sides. -/
import Derived.Test.YtfblbkmmjidknaaLexM
set_option linter.unusedVariables false
set_option linter.unusedSimpArgs false
namespace Go.Am
/-- Whether a comment is open behind the last byte. -/
def flagS (s : ByteArray) (c : Bool) (i : Nat) : Bool :=
  if h : i < s.size then flagS s (if B s i = 35 then true else if B s i = 10 then false else c) (i + 1) else c
termination_by s.size - i
def trivS (s : ByteArray) (e : Bool) : Bool := if (leadS s false 0).2 = true ∨ (leadS s false 0).1 < s.size then false else e || !flagS s false 0
theorem lex_Trivia {s : ByteArray} (hs : s.size < 2 ^ 62) {e : Bool} : G_lex_Trivia s e = some (trivS s e) := by
  unfold G_lex_Trivia
  refine OptW.eq (OptW.bdI (C := fun r => match r with
    | .inl c => c = flagS s false 0 ∧ leadS s false 0 = (s.size, false)
    | .inr x => x = false ∧ ((leadS s false 0).2 = true ∨ (leadS s false 0).1 < s.size)) ?_ ?_)
  · refine OptW.loopI (fun y => ∃ j : Nat, y.2 = (j : Int) ∧ j ≤ s.size ∧ leadS s y.1 j = leadS s false 0 ∧ flagS s y.1 j = flagS s false 0) (fun y => s.size - y.2.toNat) ?_ _ ⟨0, rfl, by omega, rfl, rfl⟩
    rintro ⟨c, p⟩ ⟨j, hp, h2, h3, h4⟩
    simp only at hp h3 h4
    subst hp
    unfold G_lex_Trivia_l1
    simp only [lt_eq, sz]
    by_cases h : j < s.size
    · rw [decide_eq_true h]
      rw [leadS, dif_pos h] at h3
      rw [flagS, dif_pos h] at h4
      simp only [cond_true, idxS_eq h, bd_some, lex_allowed]
      cases ha : allowedB (B s j) with
      | false =>
        simp only [Bool.not_false, cond_true]
        have h35 : ¬ B s j = 35 := by intro e; rw [e] at ha; cases ha
        have hw : ¬ whiteB (B s j) = true := by intro e; rw [white_allowed e] at ha; cases ha
        refine OptW.some_iff.2 ⟨rfl, ?_⟩
        rw [← h3]
        cases c with
        | true => rw [if_pos rfl, if_neg (by rw [ha]; exact Bool.false_ne_true)]; exact .inl rfl
        | false => rw [if_neg Bool.false_ne_true, if_neg h35, if_neg hw]; exact .inr h
      | true =>
        simp only [Bool.not_true, cond_false, G_lex_Trivia_j1, lt_eq]
        rw [wrap64 (x := (j : Int) + 1) (by omega) (by omega)]
        cases c with
        | true =>
          rw [if_pos rfl, if_pos ha] at h3
          have hf : (if B s j = 35 then true else if B s j = 10 then false else true) = decide (B s j ≠ 10) := by
            by_cases h1 : B s j = 35
            · rw [h1]; rfl
            · by_cases h2 : B s j = 10 <;> simp [h1, h2]
          rw [hf] at h4
          exact OptW.some_iff.2 ⟨⟨j + 1, by simp, h, h3, h4⟩, by simp; omega⟩
        | false =>
          rw [if_neg Bool.false_ne_true] at h3
          simp only [cond_false]
          by_cases h35 : B s j = 35
          · rw [if_pos h35] at h3 h4
            rw [decide_eq_true h35]
            exact OptW.some_iff.2 ⟨⟨j + 1, by simp, h, h3, h4⟩, by simp; omega⟩
          · rw [if_neg h35] at h3 h4
            rw [decide_eq_false h35]
            simp only [cond_false]
            have hww : (decide (B s j ≠ 9) && decide (B s j ≠ 10) && decide (B s j ≠ 13) && decide (B s j ≠ 32)) = !whiteB (B s j) := by
              unfold whiteB
              by_cases h1 : B s j = 9 <;> by_cases h2 : B s j = 10 <;> by_cases h3 : B s j = 13 <;> by_cases h4 : B s j = 32 <;> simp [h1, h2, h3, h4]
            rw [hww]
            have hf : (if B s j = 10 then false else false) = false := by split <;> rfl
            rw [hf] at h4
            cases hw : whiteB (B s j) with
            | true =>
              rw [if_pos hw] at h3
              exact OptW.some_iff.2 ⟨⟨j + 1, by simp, h, h3, h4⟩, by simp; omega⟩
            | false =>
              rw [if_neg (by rw [hw]; exact Bool.false_ne_true)] at h3
              refine OptW.some_iff.2 ⟨rfl, ?_⟩
              rw [← h3]; exact .inr h
    · rw [decide_eq_false h]
      rw [leadS, dif_neg h] at h3
      rw [flagS, dif_neg h] at h4
      refine OptW.some_iff.2 ⟨h4, ?_⟩
      rw [← h3]; simp; omega
  · rintro (c | x) hx
    · obtain ⟨rfl, h2⟩ := hx
      refine OptW.some_iff.2 ?_
      unfold trivS
      rw [h2]; simp [lt_eq]
    · obtain ⟨rfl, h2⟩ := hx
      refine OptW.some_iff.2 ?_
      unfold trivS
      rw [if_pos h2]
theorem ref_Trivia {s : ByteArray} (hs : s.size < 2 ^ 62) {e : Bool} : G_semvcsref01_Trivia s e = some (trivS s e) := by
  unfold G_semvcsref01_Trivia trivS
  have hl : G_semvcsref01_lead s 0 = _ := ref_lead (s := s) hs (at' := 0) (by omega)
  rw [hl, bd_some]
  have hle := leadS_le s false 0 (by omega)
  have hn := leadS_not s false 0
  generalize leadS s false 0 = R at hle hn
  obtain ⟨n, b⟩ := R
  simp only at hle hn ⊢
  simp only [lt_eq]
  cases b with
  | true =>
    rw [if_pos rfl, if_pos (.inl rfl), decide_eq_true (by omega)]
    rfl
  | false =>
    rw [if_neg Bool.false_ne_true]
    rw [decide_eq_false (by omega)]
    by_cases h : n < s.size
    · rw [if_pos (.inr h), decide_eq_true (by simp; omega)]; rfl
    · rw [if_neg (by simp [h]), decide_eq_false (by simp; omega)]
      simp only [Bool.or_self, cond_false]
      cases e with
      | true => rfl
      | false =>
        simp only [cond_false, Bool.false_or]
        refine OptW.eq (OptW.bdI (C := fun c => c = flagS s false 0) ?_ (fun c hc => by subst hc; exact OptW.some_iff.2 rfl))
        refine OptW.loopI (fun y => ∃ j : Nat, y.2 = (j : Int) ∧ j ≤ s.size ∧ flagS s y.1 j = flagS s false 0) (fun y => s.size - y.2.toNat) ?_ _ ⟨0, rfl, by omega, rfl⟩
        rintro ⟨c, p⟩ ⟨j, hp, h2, h4⟩
        simp only at hp h4
        subst hp
        unfold G_semvcsref01_Trivia_l1
        simp only [lt_eq, sz]
        by_cases h : j < s.size
        · rw [decide_eq_true h]
          rw [flagS, dif_pos h] at h4
          simp only [cond_true, idxS_eq h, bd_some, G_semvcsref01_Trivia_j1, G_semvcsref01_Trivia_j2, lt_eq]
          rw [wrap64 (x := (j : Int) + 1) (by omega) (by omega)]
          by_cases h35 : B s j = 35
          · rw [if_pos h35] at h4
            rw [decide_eq_true h35, h35]
            exact OptW.some_iff.2 ⟨⟨j + 1, by simp, h, h4⟩, by simp; omega⟩
          · rw [if_neg h35] at h4
            rw [decide_eq_false h35]
            simp only [cond_false]
            by_cases h10 : B s j = 10
            · rw [if_pos h10] at h4
              rw [decide_eq_true h10]
              exact OptW.some_iff.2 ⟨⟨j + 1, by simp, h, h4⟩, by simp; omega⟩
            · rw [if_neg h10] at h4
              rw [decide_eq_false h10]
              exact OptW.some_iff.2 ⟨⟨j + 1, by simp, h, h4⟩, by simp; omega⟩
        · rw [decide_eq_false h]
          rw [flagS, dif_neg h] at h4
          exact OptW.some_iff.2 h4
theorem LexTrivia_true {a0 : ByteArray} {a1 : Bool} (hs : a0.size < 2 ^ 62) {σ : AHeap} (hσ : Wf σ) : OptW (G_semvcslaw01_LexTrivia a0 a1 σ) fun r => r.1 = true := by
  unfold G_semvcslaw01_LexTrivia
  refine OptW.bdI (awake_true hσ) ?_
  rintro ⟨r, τ3⟩ ⟨hr, w3, x3⟩
  simp only at hr w3 x3
  subst hr
  simp only [cond_true, lex_Trivia hs, ref_Trivia hs, bd_some]
  exact OptW.some_iff.2 (by simp [lt_eq])
end Go.Am
