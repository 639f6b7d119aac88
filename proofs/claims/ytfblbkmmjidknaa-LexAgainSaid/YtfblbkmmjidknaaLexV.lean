/- Tokens and leads, taken out of their source, are what they were. -/
import Derived.Test.YtfblbkmmjidknaaLexT
set_option linter.unusedVariables false
set_option linter.unusedSimpArgs false
namespace Go.Am
theorem B_ex {s : ByteArray} {n e a : Nat} (h1 : n ≤ a) (h2 : a < e) (h3 : e ≤ s.size) : B (s.extract n e) (a - n) = B s a := by
  rw [B_extract (by omega) h3, show n + (a - n) = a by omega]
theorem scanTo_extract {p : Int → Bool} {s : ByteArray} {n e : Nat} (hne : n ≤ e) (he : e ≤ s.size) : ∀ (k a : Nat), s.size - a = k → n ≤ a → a ≤ s.size → scanTo p s a ≤ e → scanTo p (s.extract n e) (a - n) = scanTo p s a - n := by
  have hz : (s.extract n e).size = e - n := size_extract hne he
  intro k
  induction k with
  | zero =>
    intro a hk ha hs h
    rw [scanTo_end (i := a) (by omega)] at h ⊢
    rw [scanTo_end (by omega)]
  | succ k ih =>
    intro a hk ha hs h
    have hlt : a < s.size := by omega
    cases hp : p (B s a) with
    | true =>
      rw [scanTo_step hlt hp] at h ⊢
      have hge := scanTo_ge p s (a + 1)
      have hB := B_ex (s := s) (e := e) ha (by omega) he
      rw [scanTo_step (i := a - n) (by omega) (by rw [hB]; exact hp)]
      have := ih (a + 1) (by omega) (by omega) (by omega) h
      rw [show a + 1 - n = a - n + 1 by omega] at this
      exact this
    | false =>
      rw [scanTo_stop hlt hp] at h ⊢
      by_cases hx : a < e
      · have hB := B_ex (s := s) (e := e) ha hx he
        rw [scanTo_stop (i := a - n) (by omega) (by rw [hB]; exact hp)]
      · rw [scanTo_end (by omega)]
theorem extract_extract' {s : ByteArray} {n e a b : Nat} (h1 : n ≤ a) (h2 : a ≤ b) (h3 : b ≤ e) (h4 : e ≤ s.size) : (s.extract n e).extract (a - n) (b - n) = s.extract a b := by
  apply ByteArray.ext
  simp only [ByteArray.data_extract]
  rw [Array.extract_extract]
  congr 1 <;> omega
theorem textS_extract {s : ByteArray} {n e : Nat} {k w : Int} (hne : n ≤ e) (he : e ≤ s.size) : ∀ (m j : Nat), s.size - j = m → n ≤ j → textS s n j = (k, (e : Int), w, 0) → k = 6 ∧ textS (s.extract n e) 0 (j - n) = (6, ((e - n : Nat) : Int), 0, 0) := by
  have hz : (s.extract n e).size = e - n := size_extract hne he
  intro m
  induction m with
  | zero =>
    intro j hm hj h
    rw [textS, dif_neg (by omega)] at h
    injection h with _ h; injection h with _ h; injection h with _ h; cases h
  | succ m ih =>
    intro j hm hj h
    have hend := textS_end s n j (by rw [h])
    rw [h] at hend
    obtain ⟨e', q1, q2, q3⟩ := hend
    have hee : e' = e := by simp only at q1; omega
    subst hee
    have hB := B_ex (s := s) (e := e') hj (by omega) he
    rw [textS, dif_pos (by omega)] at h
    rw [textS, dif_pos (by omega), hB]
    by_cases h34 : B s j = 34
    · rw [if_pos h34] at h ⊢
      injection h with h1 h2; injection h2 with h2 h3; injection h3 with h3 h4
      refine ⟨h1.symm, ?_⟩
      rw [show j - n + 1 = e' - n by omega]
    · rw [if_neg h34] at h ⊢
      by_cases hx : B s j = 92 ∨ B s j = 9 ∨ B s j = 10 ∨ B s j = 13
      · rw [if_pos hx] at h
        injection h with _ h; injection h with _ h; injection h with _ h; cases h
      · rw [if_neg hx] at h ⊢
        by_cases ha : allowedB (B s j) = true
        · rw [if_pos ha] at h ⊢
          have := ih (j + 1) (by omega) (by omega) h
          rw [show j + 1 - n = j - n + 1 by omega] at this
          exact this
        · rw [if_neg ha] at h
          injection h with _ h; injection h with _ h; injection h with _ h; cases h
theorem wordT_extract {s : ByteArray} {n e : Nat} {k w : Int} (hi : n < s.size) (hl : letterB (B s n) = true) (h : wordT s n = (k, (e : Int), w, 0)) : k ≠ 0 ∧ wordT (s.extract n e) 0 = (k, ((e - n : Nat) : Int), 0, 0) := by
  have hend := wordT_end hi hl (by rw [h])
  rw [h] at hend
  obtain ⟨e', q1, q2, q3⟩ := hend
  have hee : e' = e := by simp only at q1; omega
  subst hee
  have hz : (s.extract n e').size = e' - n := size_extract (by omega) q3
  have g1 := scanTo_gt (p := innerB) hi (inner_letter hl)
  have l1 := scanTo_le innerB s n (by omega)
  have hB0 : B (s.extract n e') 0 = B s n := by have := B_ex (s := s) (n := n) (e := e') (a := n) (Nat.le_refl _) (by omega) q3; rwa [Nat.sub_self] at this
  unfold wordT wordS at h
  by_cases hq : (decide (B s n ≤ 90) && !resB (s.extract n (scanTo innerB s n)) && decide (scanTo innerB s n + 1 < s.size) && decide (B s (scanTo innerB s n) = 46) && letterB (B s (scanTo innerB s n + 1))) = true
  · rw [if_pos hq] at h
    simp only [Bool.and_eq_true, decide_eq_true_eq, Bool.not_eq_true'] at hq
    obtain ⟨⟨⟨⟨hq1, hq2⟩, hq3⟩, hq4⟩, hq5⟩ := hq
    have g2 := scanTo_gt (p := innerB) hq3 (inner_letter hq5)
    have l2 := scanTo_le innerB s (scanTo innerB s n + 1) (by omega)
    by_cases hc : 24 < scanTo innerB s n - n ∨ 24 < scanTo innerB s (scanTo innerB s n + 1) - (scanTo innerB s n + 1)
    · rw [if_pos hc] at h
      injection h with _ h; injection h with _ h; injection h with _ h; cases h
    rw [if_neg hc] at h
    by_cases hr : resB (s.extract (scanTo innerB s n + 1) (scanTo innerB s (scanTo innerB s n + 1))) = true
    · rw [if_pos hr] at h
      injection h with _ h; injection h with _ h; injection h with _ h; cases h
    rw [if_neg hr] at h
    have he2 : scanTo innerB s (scanTo innerB s n + 1) = e' := by
      split at h
      · injection h with _ h; injection h with h _; omega
      · injection h with _ h; injection h with h _; omega
    have x1 := scanTo_extract (p := innerB) (s := s) (n := n) (e := e') (by omega) q3 _ n rfl (Nat.le_refl _) (by omega) (by omega)
    rw [Nat.sub_self] at x1
    have x2 := scanTo_extract (p := innerB) (s := s) (n := n) (e := e') (by omega) q3 _ (scanTo innerB s n + 1) rfl (by omega) (by omega) (by omega)
    rw [he2, show scanTo innerB s n + 1 - n = scanTo innerB s n - n + 1 by omega] at x2
    have y1 : (s.extract n e').extract 0 (scanTo innerB s n - n) = s.extract n (scanTo innerB s n) := by
      have := extract_extract' (s := s) (n := n) (e := e') (a := n) (b := scanTo innerB s n) (Nat.le_refl _) (by omega) (by omega) q3
      rwa [Nat.sub_self] at this
    have y2 : (s.extract n e').extract (scanTo innerB s n - n + 1) (e' - n) = s.extract (scanTo innerB s n + 1) e' := by
      have := extract_extract' (s := s) (n := n) (e := e') (a := scanTo innerB s n + 1) (b := e') (by omega) (by omega) (Nat.le_refl _) q3
      rwa [show scanTo innerB s n + 1 - n = scanTo innerB s n - n + 1 by omega] at this
    have b1 : B (s.extract n e') (scanTo innerB s n - n) = 46 := by rw [B_ex (by omega) (by omega) q3]; exact hq4
    have b2 : B (s.extract n e') (scanTo innerB s n - n + 1) = B s (scanTo innerB s n + 1) := by
      rw [show scanTo innerB s n - n + 1 = scanTo innerB s n + 1 - n by omega, B_ex (by omega) (by omega) q3]
    rw [he2] at hc hr h
    have hlen : scanTo innerB s n - n + 1 < e' - n := by omega
    unfold wordT
    rw [x1, x2, y1, y2]
    unfold wordS
    rw [hB0, b1, b2, hz, hq2, hq5]
    rw [if_pos (by simp; omega), if_neg (by omega), if_neg hr]
    split at h
    · rename_i h9
      rw [if_pos h9]
      injection h with h1 h2
      exact ⟨by omega, by rw [← h1]⟩
    · rename_i h9
      rw [if_neg h9]
      injection h with h1 h2
      exact ⟨by omega, by rw [← h1]⟩
  · rw [if_neg hq] at h
    have he1 : scanTo innerB s n = e' := by
      split at h
      · injection h with _ h; injection h with h _; omega
      · split at h
        · injection h with _ h; injection h with _ h; injection h with _ h; cases h
        · split at h
          · injection h with _ h; injection h with h _; omega
          · injection h with _ h; injection h with h _; omega
    have x1 := scanTo_extract (p := innerB) (s := s) (n := n) (e := e') (by omega) q3 _ n rfl (Nat.le_refl _) (by omega) (by omega)
    rw [Nat.sub_self, he1] at x1
    have y1 : (s.extract n e').extract 0 (e' - n) = s.extract n e' := by rw [← hz, extract_all]
    unfold wordT
    rw [x1, y1]
    unfold wordS
    rw [hB0, hz]
    rw [if_neg (by simp; omega)]
    rw [he1] at h
    split at h
    · rename_i h9
      rw [if_pos h9]
      injection h with h1 h2
      exact ⟨by omega, by rw [← h1]⟩
    · rename_i h9
      rw [if_neg h9]
      split at h
      · injection h with _ h; injection h with _ h; injection h with _ h; cases h
      · rename_i h10
        rw [if_neg (by omega)]
        split at h
        · rename_i h11
          rw [if_pos h11]
          injection h with h1 h2
          exact ⟨by omega, by rw [← h1]⟩
        · rename_i h11
          rw [if_neg h11]
          injection h with h1 h2
          exact ⟨by omega, by rw [← h1]⟩
theorem tokS_extract {s : ByteArray} {n e : Nat} {k w : Int} (hi : n < s.size) (h : tokS s n = (k, (e : Int), w, 0)) : k ≠ 0 ∧ tokS (s.extract n e) 0 = (k, ((e - n : Nat) : Int), 0, 0) := by
  have hend := tokS_end hi (by rw [h])
  rw [h] at hend
  obtain ⟨e', q1, q2, q3⟩ := hend
  have hee : e' = e := by simp only at q1; omega
  subst hee
  have hz : (s.extract n e').size = e' - n := size_extract (by omega) q3
  have hB0 : B (s.extract n e') 0 = B s n := by have := B_ex (s := s) (n := n) (e := e') (a := n) (Nat.le_refl _) (by omega) q3; rwa [Nat.sub_self] at this
  unfold tokS at h ⊢
  rw [hB0]
  by_cases hl : letterB (B s n) = true
  · rw [if_pos hl] at h ⊢
    exact wordT_extract hi hl h
  · rw [if_neg hl] at h ⊢
    by_cases hd : digitB (B s n) = true
    · rw [if_pos hd] at h ⊢
      split at h
      · injection h with _ h; injection h with _ h; injection h with _ h; cases h
      · rename_i h1
        split at h
        · injection h with _ h; injection h with _ h; injection h with _ h; cases h
        · rename_i h2
          injection h with h3 h4; injection h4 with h4 h5
          have he1 : scanTo digitB s n = e' := by omega
          have x1 := scanTo_extract (p := digitB) (s := s) (n := n) (e := e') (by omega) q3 _ n rfl (Nat.le_refl _) (by omega) (by omega)
          rw [Nat.sub_self, he1] at x1
          rw [he1] at h1 h2
          rw [x1, if_neg (by omega), if_neg (by omega), ← h3]
          exact ⟨by omega, rfl⟩
    · rw [if_neg hd] at h ⊢
      by_cases h34 : B s n = 34
      · rw [if_pos h34] at h ⊢
        obtain ⟨rfl, h2⟩ := textS_extract (by omega) q3 _ (n + 1) rfl (by omega) h
        rw [show n + 1 - n = 0 + 1 by omega] at h2
        exact ⟨by omega, h2⟩
      · rw [if_neg h34] at h ⊢
        by_cases h61 : B s n = 61 ∧ n + 1 < s.size ∧ B s (n + 1) = 61
        · rw [if_pos h61] at h
          injection h with h3 h4; injection h4 with h4 h5
          have he1 : e' = n + 2 := by omega
          subst he1
          have b1 : B (s.extract n (n + 2)) (0 + 1) = 61 := by
            have := B_ex (s := s) (n := n) (e := n + 2) (a := n + 1) (by omega) (by omega) q3
            rw [show n + 1 - n = 0 + 1 by omega] at this
            rw [this]; exact h61.2.2
          rw [if_pos ⟨h61.1, by omega, b1⟩, ← h3]
          exact ⟨by omega, by simp⟩
        · rw [if_neg h61] at h
          by_cases hs : signB (B s n) = true
          · rw [if_pos hs] at h
            injection h with h3 h4; injection h4 with h4 h5
            have he1 : e' = n + 1 := by omega
            subst he1
            rw [if_neg (by intro hx; have := hx.2.1; omega), if_pos hs, ← h3]
            exact ⟨by omega, by simp⟩
          · rw [if_neg hs] at h
            split at h
            · injection h with _ h; injection h with _ h; injection h with _ h; cases h
            · injection h with _ h; injection h with _ h; injection h with _ h; cases h
end Go.Am
