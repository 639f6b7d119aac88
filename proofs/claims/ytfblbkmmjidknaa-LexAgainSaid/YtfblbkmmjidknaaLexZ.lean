/- Tokens that are put into a source are read as they were. -/
import Derived.Test.YtfblbkmmjidknaaLexW
import Derived.Test.YtfblbkmmjidknaaLexY
set_option linter.unusedVariables false
set_option linter.unusedSimpArgs false
namespace Go.Am
/-- Whether a byte behind a token would be taken into it. -/
def glue (first : Int) (len : Nat) (c : Int) : Prop := (letterB first = true ∧ (innerB c = true ∨ c = 46)) ∨ (digitB first = true ∧ digitB c = true) ∨ (first = 61 ∧ len = 1 ∧ c = 61)
theorem scanTo_stopped (p : Int → Bool) (s : ByteArray) : ∀ (m j : Nat), s.size - j = m → j ≤ s.size → scanTo p s j = s.size ∨ p (B s (scanTo p s j)) = false := by
  intro m
  induction m with
  | zero => intro j hm hj; left; rw [scanTo_end (by omega)]; omega
  | succ m ih =>
    intro j hm hj
    cases hp : p (B s j) with
    | true => rw [scanTo_step (by omega) hp]; exact ih (j + 1) (by omega) (by omega)
    | false => rw [scanTo_stop (by omega) hp]; right; exact hp
/-- A scan in a part of a text, and in the text. -/
theorem scanTo_back {p : Int → Bool} {s : ByteArray} {n e : Nat} (hne : n ≤ e) (he : e ≤ s.size) (hc : e = s.size ∨ p (B s e) = false) : ∀ (k a : Nat), e - a = k → n ≤ a → a ≤ e → scanTo p s a = n + scanTo p (s.extract n e) (a - n) := by
  have hz : (s.extract n e).size = e - n := size_extract hne he
  intro k
  induction k with
  | zero =>
    intro a hk ha hae
    have : a = e := by omega
    subst this
    rw [scanTo_end (s := s.extract n a) (by omega)]
    rcases hc with h | h
    · rw [scanTo_end (by omega)]; omega
    · by_cases hl : a < s.size
      · rw [scanTo_stop hl h]; omega
      · rw [scanTo_end hl]; omega
  | succ k ih =>
    intro a hk ha hae
    have hB := B_ex (s := s) (e := e) ha (by omega) he
    cases hp : p (B s a) with
    | true =>
      rw [scanTo_step (by omega) hp, scanTo_step (s := s.extract n e) (i := a - n) (by omega) (by rw [hB]; exact hp)]
      have := ih (a + 1) (by omega) (by omega) (by omega)
      rw [show a + 1 - n = a - n + 1 by omega] at this
      exact this
    | false =>
      rw [scanTo_stop (by omega) hp, scanTo_stop (s := s.extract n e) (i := a - n) (by omega) (by rw [hB]; exact hp)]
      omega
/-- A scan that stops inside of the part. -/
theorem scanTo_in {p : Int → Bool} {s : ByteArray} {n e : Nat} (hne : n ≤ e) (he : e ≤ s.size) : ∀ (k a : Nat), e - a = k → n ≤ a → a ≤ e → scanTo p (s.extract n e) (a - n) < e - n → scanTo p s a = n + scanTo p (s.extract n e) (a - n) := by
  have hz : (s.extract n e).size = e - n := size_extract hne he
  intro k
  induction k with
  | zero =>
    intro a hk ha hae h
    rw [scanTo_end (by omega)] at h; omega
  | succ k ih =>
    intro a hk ha hae h
    have hB := B_ex (s := s) (e := e) ha (by omega) he
    cases hp : p (B s a) with
    | true =>
      rw [scanTo_step (s := s.extract n e) (i := a - n) (by omega) (by rw [hB]; exact hp)] at h ⊢
      rw [scanTo_step (by omega) hp]
      have := ih (a + 1) (by omega) (by omega) (by omega) (by rw [show a + 1 - n = a - n + 1 by omega]; exact h)
      rw [show a + 1 - n = a - n + 1 by omega] at this
      exact this
    | false =>
      rw [scanTo_stop (by omega) hp, scanTo_stop (s := s.extract n e) (i := a - n) (by omega) (by rw [hB]; exact hp)]
      omega
theorem textS_back {s : ByteArray} {n e : Nat} {k w : Int} (hne : n ≤ e) (he : e ≤ s.size) : ∀ (m j : Nat), e - j = m → n ≤ j → j ≤ e → textS (s.extract n e) 0 (j - n) = (k, ((e - n : Nat) : Int), w, 0) → textS s n j = (k, (e : Int), 0, 0) := by
  have hz : (s.extract n e).size = e - n := size_extract hne he
  intro m
  induction m with
  | zero =>
    intro j hm hj hje h
    rw [textS, dif_neg (by omega)] at h
    injection h with _ h; injection h with _ h; injection h with _ h; cases h
  | succ m ih =>
    intro j hm hj hje h
    have hB := B_ex (s := s) (e := e) hj (by omega) he
    rw [textS, dif_pos (by omega), hB] at h
    rw [textS, dif_pos (by omega)]
    by_cases h34 : B s j = 34
    · rw [if_pos h34] at h ⊢
      injection h with h1 h2; injection h2 with h2 h3
      rw [← h1]
      have : j + 1 = e := by omega
      rw [this]
    · rw [if_neg h34] at h ⊢
      by_cases hx : B s j = 92 ∨ B s j = 9 ∨ B s j = 10 ∨ B s j = 13
      · rw [if_pos hx] at h
        injection h with _ h; injection h with _ h; injection h with _ h; cases h
      · rw [if_neg hx] at h ⊢
        by_cases ha : allowedB (B s j) = true
        · rw [if_pos ha] at h ⊢
          rw [show j - n + 1 = j + 1 - n by omega] at h
          exact ih (j + 1) (by omega) (by omega) (by omega) h
        · rw [if_neg ha] at h
          injection h with _ h; injection h with _ h; injection h with _ h; cases h
set_option maxHeartbeats 4000000 in
theorem wordT_back {s : ByteArray} {n e : Nat} {k w : Int} (hne : n < e) (he : e ≤ s.size) (hl : letterB (B s n) = true) (hc : e = s.size ∨ (innerB (B s e) = false ∧ B s e ≠ 46)) (h : wordT (s.extract n e) 0 = (k, ((e - n : Nat) : Int), w, 0)) : wordT s n = (k, (e : Int), 0, 0) := by
  have hz : (s.extract n e).size = e - n := size_extract (by omega) he
  have hB0 : B (s.extract n e) 0 = B s n := by have := B_ex (s := s) (n := n) (e := e) (a := n) (Nat.le_refl _) (by omega) he; rwa [Nat.sub_self] at this
  have hc1 : e = s.size ∨ innerB (B s e) = false := by rcases hc with h | h; exact .inl h; exact .inr h.1
  have b0 := scanTo_back (p := innerB) (s := s) (by omega) he hc1 _ n rfl (Nat.le_refl _) (by omega)
  rw [Nat.sub_self] at b0
  have l0 := scanTo_le innerB (s.extract n e) 0 (by omega)
  have g0 := scanTo_gt (p := innerB) (s := s.extract n e) (i := 0) (by omega) (inner_letter (by rw [hB0]; exact hl))
  generalize hE : scanTo innerB (s.extract n e) 0 = E at b0 l0 g0
  have y1 : (s.extract n e).extract 0 E = s.extract n (n + E) := by
    have := extract_extract' (s := s) (n := n) (e := e) (a := n) (b := n + E) (Nat.le_refl _) (by omega) (by omega) he
    rwa [Nat.sub_self, show n + E - n = E by omega] at this
  unfold wordT wordS at h ⊢
  rw [hE, y1, hB0, hz] at h
  rw [b0]
  by_cases hq : (decide (B s n ≤ 90) && !resB (s.extract n (n + E)) && decide (E + 1 < e - n) && decide (B (s.extract n e) E = 46) && letterB (B (s.extract n e) (E + 1))) = true
  · rw [if_pos hq] at h
    simp only [Bool.and_eq_true, decide_eq_true_eq, Bool.not_eq_true'] at hq
    obtain ⟨⟨⟨⟨q1, q2⟩, q3⟩, q4⟩, q5⟩ := hq
    have b1 : B s (n + E) = 46 := by rw [← q4]; have := B_ex (s := s) (n := n) (e := e) (a := n + E) (by omega) (by omega) he; rw [show n + E - n = E by omega] at this; exact this.symm
    have b2 : B s (n + E + 1) = B (s.extract n e) (E + 1) := by have := B_ex (s := s) (n := n) (e := e) (a := n + E + 1) (by omega) (by omega) he; rw [show n + E + 1 - n = E + 1 by omega] at this; exact this.symm
    have c1 := scanTo_back (p := innerB) (s := s) (n := n) (e := e) (by omega) he hc1 _ (n + E + 1) rfl (by omega) (by omega)
    rw [show n + E + 1 - n = E + 1 by omega] at c1
    have l1 := scanTo_le innerB (s.extract n e) (E + 1) (by omega)
    have g1 := scanTo_ge innerB (s.extract n e) (E + 1)
    generalize scanTo innerB (s.extract n e) (E + 1) = E2 at h c1 l1 g1
    have y2 : (s.extract n e).extract (E + 1) E2 = s.extract (n + E + 1) (n + E2) := by
      have := extract_extract' (s := s) (n := n) (e := e) (a := n + E + 1) (b := n + E2) (by omega) (by omega) (by omega) he
      rwa [show n + E + 1 - n = E + 1 by omega, show n + E2 - n = E2 by omega] at this
    rw [y2] at h
    rw [c1, b1, b2, q2, q5]
    rw [if_pos (by simp; omega)]
    by_cases hx : 24 < E - 0 ∨ 24 < E2 - (E + 1)
    · rw [if_pos hx] at h
      injection h with _ h; injection h with _ h; injection h with _ h; cases h
    rw [if_neg hx] at h
    rw [if_neg (by omega)]
    by_cases hr : resB (s.extract (n + E + 1) (n + E2)) = true
    · rw [if_pos hr] at h
      injection h with _ h; injection h with _ h; injection h with _ h; cases h
    rw [if_neg hr] at h ⊢
    split at h
    · rename_i h9
      rw [if_pos h9]
      injection h with h1 h2; injection h2 with h2 _
      rw [← h1, show n + E2 = e by omega]
    · rename_i h9
      rw [if_neg h9]
      injection h with h1 h2; injection h2 with h2 _
      rw [← h1, show n + E2 = e by omega]
  · rw [if_neg hq] at h
    have hEe : E = e - n := by
      split at h
      · injection h with _ h; injection h with h _; omega
      · split at h
        · injection h with _ h; injection h with _ h; injection h with _ h; cases h
        · split at h
          · injection h with _ h; injection h with h _; omega
          · injection h with _ h; injection h with h _; omega
    have hne' : n + E = e := by omega
    rw [hne'] at h ⊢
    have hq2 : ¬ (decide (B s n ≤ 90) && !resB (s.extract n e) && decide (e + 1 < s.size) && decide (B s e = 46) && letterB (B s (e + 1))) = true := by
      simp only [Bool.and_eq_true, decide_eq_true_eq]
      rintro ⟨⟨⟨_, h1⟩, h2⟩, _⟩
      rcases hc with h3 | h3
      · omega
      · exact h3.2 h2
    rw [if_neg hq2]
    split at h
    · rename_i h9
      rw [if_pos h9]
      injection h with h1 _
      rw [← h1]
    · rename_i h9
      rw [if_neg h9]
      by_cases h10 : 24 < E - 0
      · rw [if_pos h10] at h
        injection h with _ h; injection h with _ h; injection h with _ h; cases h
      · rw [if_neg h10] at h
        rw [if_neg (by omega)]
        split at h
        · rename_i h11
          rw [if_pos h11]
          injection h with h1 _
          rw [← h1]
        · rename_i h11
          rw [if_neg h11]
          injection h with h1 _
          rw [← h1]
theorem tokS_back {s : ByteArray} {n e : Nat} {k w : Int} (hne : n < e) (he : e ≤ s.size) (hc : e = s.size ∨ ¬ glue (B s n) (e - n) (B s e)) (h : tokS (s.extract n e) 0 = (k, ((e - n : Nat) : Int), w, 0)) : tokS s n = (k, (e : Int), 0, 0) := by
  have hz : (s.extract n e).size = e - n := size_extract (by omega) he
  have hB0 : B (s.extract n e) 0 = B s n := by have := B_ex (s := s) (n := n) (e := e) (a := n) (Nat.le_refl _) (by omega) he; rwa [Nat.sub_self] at this
  unfold tokS at h ⊢
  rw [hB0] at h
  by_cases hl : letterB (B s n) = true
  · rw [if_pos hl] at h ⊢
    refine wordT_back hne he hl ?_ h
    rcases hc with hc | hc
    · exact .inl hc
    · right
      constructor
      · cases hi : innerB (B s e) with
        | false => rfl
        | true => exact absurd (.inl ⟨hl, .inl hi⟩) hc
      · intro h46; exact hc (.inl ⟨hl, .inr h46⟩)
  · rw [if_neg hl] at h ⊢
    by_cases hd : digitB (B s n) = true
    · rw [if_pos hd] at h ⊢
      have hc1 : e = s.size ∨ digitB (B s e) = false := by
        rcases hc with hc | hc
        · exact .inl hc
        · right
          cases hi : digitB (B s e) with
          | false => rfl
          | true => exact absurd (.inr (.inl ⟨hd, hi⟩)) hc
      have b0 := scanTo_back (p := digitB) (s := s) (by omega) he hc1 _ n rfl (Nat.le_refl _) (by omega)
      rw [Nat.sub_self] at b0
      rw [b0]
      generalize scanTo digitB (s.extract n e) 0 = E at h
      split at h
      · injection h with _ h; injection h with _ h; injection h with _ h; cases h
      · rename_i h1
        split at h
        · injection h with _ h; injection h with _ h; injection h with _ h; cases h
        · rename_i h2
          injection h with h3 h4; injection h4 with h4 h5
          rw [if_neg (by omega), if_neg (by omega), ← h3, show n + E = e by omega]
    · rw [if_neg hd] at h ⊢
      by_cases h34 : B s n = 34
      · rw [if_pos h34] at h ⊢
        rw [show 0 + 1 = n + 1 - n by omega] at h
        exact textS_back (by omega) he _ (n + 1) rfl (by omega) (by omega) h
      · rw [if_neg h34] at h ⊢
        by_cases h61 : B s n = 61 ∧ 0 + 1 < (s.extract n e).size ∧ B (s.extract n e) (0 + 1) = 61
        · rw [if_pos h61] at h
          injection h with h3 h4; injection h4 with h4 h5
          have he2 : e = n + 2 := by omega
          have b1 : B s (n + 1) = 61 := by
            rw [← h61.2.2]
            have := B_ex (s := s) (n := n) (e := e) (a := n + 1) (by omega) (by omega) he
            rw [show n + 1 - n = 0 + 1 by omega] at this
            exact this.symm
          rw [if_pos ⟨h61.1, by omega, b1⟩, ← h3, he2]
        · rw [if_neg h61] at h
          by_cases hs : signB (B s n) = true
          · rw [if_pos hs] at h
            injection h with h3 h4; injection h4 with h4 h5
            have he2 : e = n + 1 := by omega
            have hno : ¬ (B s n = 61 ∧ n + 1 < s.size ∧ B s (n + 1) = 61) := by
              rintro ⟨a1, a2, a3⟩
              rcases hc with hc | hc
              · omega
              · exact hc (.inr (.inr ⟨a1, by omega, by rw [he2]; exact a3⟩))
            rw [if_neg hno, if_pos hs, ← h3, he2]
          · rw [if_neg hs] at h
            split at h
            · injection h with _ h; injection h with _ h; injection h with _ h; cases h
            · injection h with _ h; injection h with _ h; injection h with _ h; cases h
end Go.Am
