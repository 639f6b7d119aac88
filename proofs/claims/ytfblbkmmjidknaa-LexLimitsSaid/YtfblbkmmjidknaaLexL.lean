/- The lead of a token: white space and comments, on both sides. -/
import Derived.Test.YtfblbkmmjidknaaLexK
import Derived.Test.YtfblbkmmjidknaaAmP4
set_option linter.unusedVariables false
set_option linter.unusedSimpArgs false
namespace Go.Am
def whiteB (c : Int) : Bool := decide (c = 9) || decide (c = 10) || decide (c = 13) || decide (c = 32)
theorem white_allowed {c : Int} (h : whiteB c = true) : allowedB c = true := by
  unfold whiteB at h; unfold allowedB
  simp only [Bool.or_eq_true, decide_eq_true_eq, Bool.and_eq_true] at h ⊢
  omega
/-- The end of the trivia at a place (in a comment or not), and whether a byte that may not occur ends it. -/
def leadS (s : ByteArray) (c : Bool) (i : Nat) : Nat × Bool :=
  if h : i < s.size then
    if c then (if allowedB (B s i) then leadS s (decide (B s i ≠ 10)) (i + 1) else (i, true))
    else if B s i = 35 then leadS s true (i + 1)
    else if whiteB (B s i) then leadS s false (i + 1)
    else (i, false)
  else (i, false)
termination_by s.size - i
theorem leadS_ge (s : ByteArray) (c : Bool) (i : Nat) : i ≤ (leadS s c i).1 := by
  unfold leadS
  split
  · split
    · split
      · have := leadS_ge s (decide (B s i ≠ 10)) (i + 1); omega
      · exact Nat.le_refl _
    · split
      · have := leadS_ge s true (i + 1); omega
      · split
        · have := leadS_ge s false (i + 1); omega
        · exact Nat.le_refl _
  · exact Nat.le_refl _
termination_by s.size - i
theorem leadS_le (s : ByteArray) (c : Bool) (i : Nat) (h : i ≤ s.size) : (leadS s c i).1 ≤ s.size := by
  unfold leadS
  split
  · split
    · split
      · exact leadS_le s (decide (B s i ≠ 10)) (i + 1) (by omega)
      · exact h
    · split
      · exact leadS_le s true (i + 1) (by omega)
      · split
        · exact leadS_le s false (i + 1) (by omega)
        · exact h
  · exact h
termination_by s.size - i
/-- What stands behind the trivia: not white, and no comment. -/
theorem leadS_not (s : ByteArray) (c : Bool) (i : Nat) (h : (leadS s c i).2 = true) : (leadS s c i).1 < s.size := by
  unfold leadS at h ⊢
  split
  · rename_i hi
    rw [dif_pos hi] at h
    split at h
    · split at h
      · rw [if_pos (by assumption), if_pos (by assumption)]; exact leadS_not s _ (i + 1) h
      · rw [if_pos (by assumption), if_neg (by assumption)]; exact hi
    · rw [if_neg (by assumption)]
      split at h
      · rw [if_pos (by assumption)]; exact leadS_not s _ (i + 1) h
      · rw [if_neg (by assumption)]
        split at h
        · rw [if_pos (by assumption)]; exact leadS_not s _ (i + 1) h
        · cases h
  · rename_i hi; rw [dif_neg hi] at h; cases h
termination_by s.size - i
theorem sz {s : ByteArray} {i : Nat} : decide ((i : Int) < (s.size : Int)) = decide (i < s.size) := by
  by_cases h : i < s.size
  · rw [decide_eq_true h]; simp; omega
  · rw [decide_eq_false h]; simp; omega
theorem ref_lead {s : ByteArray} (hs : s.size < 2 ^ 62) {at' : Nat} (hat : at' ≤ s.size) :
    G_semvcsref01_lead s at' = some (((leadS s false at').1 : Int) - at', if (leadS s false at').2 then ((leadS s false at').1 : Int) else -1) := by
  unfold G_semvcsref01_lead
  refine OptW.eq (OptW.bdI (C := fun r => match r with
    | .inl n => n = (s.size : Int) ∧ leadS s false at' = (s.size, false)
    | .inr x => x = (((leadS s false at').1 : Int) - at', if (leadS s false at').2 then ((leadS s false at').1 : Int) else -1)) ?_ ?_)
  · refine OptW.loopI (fun y => ∃ j : Nat, y = (j : Int) ∧ at' ≤ j ∧ j ≤ s.size ∧ leadS s false j = leadS s false at') (fun y => s.size - y.toNat) ?_ _ ⟨at', rfl, Nat.le_refl _, hat, rfl⟩
    rintro _ ⟨j, rfl, h1, h2, h3⟩
    unfold G_semvcsref01_lead_l1
    simp only [lt_eq, sz]
    by_cases h : j < s.size
    · rw [decide_eq_true h]
      rw [leadS, dif_pos h, if_neg Bool.false_ne_true] at h3
      simp only [cond_true, idxS_eq h, bd_some, ref_white]
      cases hw : whiteB (B s j) with
      | true =>
        have hw' := hw
        unfold whiteB at hw'
        have h35 : ¬ B s j = 35 := by
          intro h; rw [h] at hw; revert hw; decide
        rw [if_neg h35, if_pos hw] at h3
        rw [hw', wrap64 (by omega) (by omega)]
        exact OptW.some_iff.2 ⟨⟨j + 1, by simp, by omega, h, h3⟩, by simp; omega⟩
      | false =>
        have hw' := hw
        unfold whiteB at hw'
        rw [hw']
        by_cases h35 : B s j = 35
        · rw [if_pos h35] at h3
          rw [decide_eq_true h35]
          simp only [cond_true, cond_false]
          refine OptW.bdI (C := fun r => match r with
            | .inl n => ∃ m : Nat, n = (m : Int) ∧ j < m ∧ m ≤ s.size ∧ leadS s false m = leadS s false at'
            | .inr x => x = (((leadS s false at').1 : Int) - at', if (leadS s false at').2 then ((leadS s false at').1 : Int) else -1)) ?_ ?_
          · refine OptW.loopI (fun y => ∃ m : Nat, y = (m : Int) ∧ j ≤ m ∧ m ≤ s.size ∧ (m = j ∨ leadS s true m = leadS s false at')) (fun y => s.size - y.toNat) ?_ _ ⟨j, rfl, Nat.le_refl _, h2, .inl rfl⟩
            rintro _ ⟨m, rfl, g1, g2, g3⟩
            unfold G_semvcsref01_lead_l2
            simp only [lt_eq, sz]
            by_cases g : m < s.size
            · rw [decide_eq_true g]
              simp only [cond_true, idxS_eq g, bd_some, Bool.true_and]
              by_cases h10 : B s m = 10
              · have : decide (B s m ≠ 10) = false := by simp [h10]
                rw [this]
                have hm : m ≠ j := by intro e; rw [e, h35] at h10; cases h10
                have g3 := g3.resolve_left hm
                rw [leadS, dif_pos g, if_pos rfl, if_pos (by rw [h10]; rfl), this] at g3
                refine OptW.some_iff.2 ⟨m, rfl, by omega, g2, ?_⟩
                rw [← g3, leadS, dif_pos g, if_neg Bool.false_ne_true, if_neg (by rw [h10]; decide), if_pos (by rw [h10]; rfl)]
              · have : decide (B s m ≠ 10) = true := by simp [h10]
                rw [this]
                simp only [cond_true, ref_allowed, bd_some]
                cases ha : allowedB (B s m) with
                | false =>
                  have hm : m ≠ j := by intro e; rw [e, h35] at ha; cases ha
                  have g3 := g3.resolve_left hm
                  rw [leadS, dif_pos g, if_pos rfl, if_neg (by rw [ha]; exact Bool.false_ne_true)] at g3
                  refine OptW.some_iff.2 ?_
                  show _ = _
                  rw [← g3, wrap64 (by omega) (by omega)]
                  rfl
                | true =>
                  simp only [Bool.not_true, cond_false]
                  rw [wrap64 (by omega) (by omega)]
                  refine OptW.some_iff.2 ⟨⟨m + 1, by simp, by omega, g, ?_⟩, by simp; omega⟩
                  by_cases hm : m = j
                  · subst hm; exact .inr h3
                  · have g3 := g3.resolve_left hm
                    rw [leadS, dif_pos g, if_pos rfl, if_pos ha, this] at g3
                    exact .inr g3
            · rw [decide_eq_false g]
              have hm : m ≠ j := by omega
              have g3 := g3.resolve_left hm
              refine OptW.some_iff.2 ⟨m, rfl, by omega, g2, ?_⟩
              rw [← g3]
              rw [leadS, dif_neg g]
              rw [leadS, dif_neg g]
          · rintro (n | x) hx
            · obtain ⟨m, rfl, g1, g2, g3⟩ := hx
              exact OptW.some_iff.2 ⟨⟨m, rfl, by omega, g2, g3⟩, by simp; omega⟩
            · subst hx; exact OptW.some_iff.2 rfl
        · rw [decide_eq_false h35]
          rw [if_neg h35, if_neg (by rw [hw]; exact Bool.false_ne_true)] at h3
          simp only [cond_false]
          refine OptW.some_iff.2 ?_
          show _ = _
          rw [← h3, wrap64 (by omega) (by omega)]
          rfl
    · rw [decide_eq_false h]
      rw [leadS, dif_neg h] at h3
      refine OptW.some_iff.2 ⟨by omega, ?_⟩
      rw [← h3]
      simp; omega
  · rintro (n | x) hx
    · obtain ⟨rfl, h2⟩ := hx
      simp only [lt_eq]
      refine OptW.some_iff.2 ?_
      rw [h2, wrap64 (by omega) (by omega)]
      rfl
    · subst hx; exact OptW.some_iff.2 rfl
end Go.Am
