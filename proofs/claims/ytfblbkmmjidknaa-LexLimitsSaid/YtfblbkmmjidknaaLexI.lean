/- The reference's token: all of it. -/
import Derived.Test.YtfblbkmmjidknaaLexH
set_option linter.unusedVariables false
set_option linter.unusedSimpArgs false
namespace Go.Am
theorem not_allowed {c : Int} (h : allowedB c = false) : letterB c = false ∧ digitB c = false ∧ c ≠ 34 ∧ c ≠ 61 ∧ signB c = false := by
  unfold allowedB at h
  simp only [Bool.or_eq_false_iff, Bool.and_eq_false_iff, decide_eq_false_iff_not] at h
  refine ⟨?_, ?_, by omega, by omega, ?_⟩
  · unfold letterB; simp only [Bool.or_eq_false_iff, Bool.and_eq_false_iff, decide_eq_false_iff_not]; omega
  · unfold digitB; simp only [Bool.and_eq_false_iff, decide_eq_false_iff_not]; omega
  · unfold signB; simp only [Bool.or_eq_false_iff, decide_eq_false_iff_not]; omega
theorem digit_not_letter {c : Int} (h : digitB c = true) : letterB c = false := by
  unfold digitB at h; unfold letterB
  simp only [Bool.and_eq_true, decide_eq_true_eq] at h
  simp only [Bool.or_eq_false_iff, Bool.and_eq_false_iff, decide_eq_false_iff_not]; omega
theorem ref_next {s : ByteArray} (hs : s.size < 2 ^ 62) {i : Nat} (hi : i < s.size) {σ : AHeap} (hσ : Wf σ) :
    OptW (G_semvcsref01_next s i σ) (ItemR σ (itemOf i (tokS s i))) := by
  unfold G_semvcsref01_next
  simp only [lt_eq, newC]
  generalize hτ : σ.push (.cells [(Value.int .i64 0), (Value.int .i64 0), (Value.int .i64 0), (Value.int .i64 0)] T_semvcs_semvcsref01_Item σ.next) = τ
  have wτ : Wf τ := by rw [← hτ]; exact hσ.push (Nat.le_refl _)
  have xτ : Ext σ τ := by rw [← hτ]; exact Ext.push
  have gτ : τ.get σ.next = .cells [(Value.int .i64 0), (Value.int .i64 0), (Value.int .i64 0), (Value.int .i64 0)] T_semvcs_semvcsref01_Item σ.next := by rw [← hτ]; exact push_get
  have bτ : τ.base ≤ σ.next := by have := hσ.base; have h2 : τ.base = σ.base := by unfold AHeap.base; rw [xτ.old]
                                  omega
  have own : Own σ τ σ.next := ⟨wτ, xτ, Nat.le_refl _, bτ, _, _, gτ, rfl⟩
  have put : ∀ a1 a2 a3 a4 : Int, (a1, a2, a3, a4) = itemOf i (tokS s i) → OptW (bd (stN τ (some ⟨σ.next, 0, none⟩) [(Value.int .i64 a1), (Value.int .i64 a2), (Value.int .i64 a3), (Value.int .i64 a4)]) fun τ' => bd (ld_i64_i64_i64_i64 τ' (some ⟨σ.next, 0, none⟩)) fun (x, y, z, w) => some (x, y, z, w, τ')) (ItemR σ (itemOf i (tokS s i))) := by
    intro a1 a2 a3 a4 he
    exact own.put a1 a2 a3 a4 (fun τ' r => some (r.1, r.2.1, r.2.2.1, r.2.2.2, τ')) (fun τ' w x => ⟨_, rfl, he, w, x⟩)
  simp only [idxS_eq hi, bd_some, ref_allowed, ref_digit, ref_lower, ref_upper]
  cases ha : allowedB (B s i) with
  | false =>
    obtain ⟨h1, h2, h3, h4, h5⟩ := not_allowed ha
    exact put 0 0 1 i (by unfold tokS; simp [h1, h2, h3, h4, h5, ha, itemOf])
  | true =>
    simp only [Bool.not_true, cond_false]
    by_cases h34 : B s i = 34
    · rw [decide_eq_true h34]
      simp only [cond_true]
      rw [wrap64 (x := (i : Int) + 1) (by omega) (by omega)]
      have ht : tokS s i = textS s i (i + 1) := by unfold tokS; rw [h34]; rfl
      rw [ht] at put ⊢
      refine ref_text hs own (fun r => rfl) ?_ (i + 1) (by omega) (by omega)
      exact own.put 0 0 2 i (fun τ' r => some (r.1, r.2.1, r.2.2.1, r.2.2.2, τ')) (fun τ' w x => ⟨_, rfl, by simp [itemOf], w, x⟩)
    · rw [decide_eq_false h34]
      simp only [cond_false]
      cases hd : digitB (B s i) with
      | true =>
        have hl := digit_not_letter hd
        have g := scanTo_gt (p := digitB) hi hd
        have l := scanTo_le digitB s i (by omega)
        simp only [cond_true]
        rw [ref_digits hs i (by omega)]
        unfold tokS at put ⊢
        rw [hl, hd] at put ⊢
        simp only [Bool.false_eq_true, if_false, if_true] at put ⊢
        generalize scanTo digitB s i = e at *
        simp only [bd_some]
        rw [wrap64 (x := (e : Int) - i) (by omega) (by omega)]
        by_cases h1 : i + 1 < e ∧ B s i = 48
        · have : (decide ((1 : Int) < (e : Int) - i) && decide (B s i = 48)) = true := by simp; omega
          rw [this]; rw [if_pos h1] at put ⊢
          exact put 0 0 2 i (by simp [itemOf])
        · have : (decide ((1 : Int) < (e : Int) - i) && decide (B s i = 48)) = false := by simp; omega
          rw [this]; rw [if_neg h1] at put ⊢
          simp only [cond_false]
          by_cases h2 : 15 < e - i
          · have : decide ((15 : Int) < (e : Int) - i) = true := by simp; omega
            rw [this]; rw [if_pos h2] at put ⊢
            exact put 0 0 3 i (by simp [itemOf])
          · have : decide ((15 : Int) < (e : Int) - i) = false := by simp; omega
            rw [this]; rw [if_neg h2] at put ⊢
            exact put ((e : Int) - i) 5 0 0 (by simp [itemOf])
      | false =>
        simp only [cond_false]
        have hlu : (bif !lowerB (B s i) then some (upperB (B s i)) else some false) = some (!lowerB (B s i) && upperB (B s i)) := by cases lowerB (B s i) <;> rfl
        rw [hlu]
        have hL : (lowerB (B s i) || !lowerB (B s i) && upperB (B s i)) = letterB (B s i) := by
          show _ = (lowerB (B s i) || upperB (B s i))
          cases lowerB (B s i) <;> rfl
        simp only [bd_some, hL]
        cases hl : letterB (B s i) with
        | true =>
          have ht : tokS s i = wordT s i := by unfold tokS; rw [hl]; rfl
          obtain ⟨⟨a, b, c, d, τ2⟩, hr, h1, h2, h3⟩ := ref_words hs hi hl wτ
          simp only [cond_true]
          rw [hr, bd_some]
          have hn : σ.next < τ.next := by rw [← hτ]; exact Nat.lt_succ_self _
          have b2 : τ2.base ≤ σ.next := by
            have e : τ2.base = τ.base := by unfold AHeap.base; rw [h3.old]
            omega
          have own2 : Own σ τ2 σ.next := ⟨h2, xτ.trans h3, Nat.le_refl _, b2, _, _, (h3.same _ hn).trans gτ, rfl⟩
          exact own2.put a b c d (fun τ' r => some (r.1, r.2.1, r.2.2.1, r.2.2.2, τ')) (fun τ' w x => ⟨_, rfl, by rw [ht]; exact h1, w, x⟩)
        | false =>
          simp only [cond_false, ref_sign hs hi, bd_some]
          unfold tokS at put ⊢
          rw [hl, hd] at put ⊢
          simp only [Bool.false_eq_true, if_false, ha, if_true] at put ⊢
          rw [if_neg h34] at put ⊢
          unfold signN
          by_cases hq : B s i = 61 ∧ i + 1 < s.size ∧ B s (i + 1) = 61
          · rw [if_pos hq] at put ⊢; rw [if_pos hq]
            exact put 2 8 0 0 (by simp [itemOf]; omega)
          · rw [if_neg hq] at put ⊢; rw [if_neg hq]
            cases hb : signB (B s i) with
            | true => rw [hb] at put; exact put 1 8 0 0 (by simp [itemOf]; omega)
            | false => rw [hb] at put; exact put 0 0 2 i (by simp [itemOf])
end Go.Am
