/- The reference's words, plainly. -/
import Derived.Test.YtfblbkmmjidknaaLexE
set_option linter.unusedVariables false
set_option linter.unusedSimpArgs false
namespace Go.Am
theorem upper_le {c : Int} (h : letterB c = true) : upperB c = decide (c ≤ 90) := by
  unfold letterB at h; unfold upperB
  simp only [Bool.or_eq_true, Bool.and_eq_true, decide_eq_true_eq] at h
  by_cases h1 : c ≤ 90 <;> simp [h1] <;> omega
/-- What an answer with an item is to be. -/
def ItemR (σ : AHeap) (t : Int × Int × Int × Int) (r : Int × Int × Int × Int × AHeap) : Prop := (r.1, r.2.1, r.2.2.1, r.2.2.2.1) = t ∧ Wf r.2.2.2.2 ∧ Ext σ r.2.2.2.2
theorem ref_words {s : ByteArray} (hs : s.size < 2 ^ 62) {i : Nat} (hi : i < s.size) (hl : letterB (B s i) = true) {σ : AHeap} (hσ : Wf σ) :
    OptW (G_semvcsref01_words s i σ) (ItemR σ (itemOf i (wordT s i))) := by
  have g1 := scanTo_gt (p := innerB) hi (inner_letter hl)
  have l1 := scanTo_le innerB s i (by omega)
  unfold G_semvcsref01_words
  simp only [lt_eq, newC]
  generalize hτ : σ.push (.cells [(Value.int .i64 0), (Value.int .i64 0), (Value.int .i64 0), (Value.int .i64 0)] T_semvcs_semvcsref01_Item σ.next) = τ
  have wτ : Wf τ := by rw [← hτ]; exact hσ.push (Nat.le_refl _)
  have xτ : Ext σ τ := by rw [← hτ]; exact Ext.push
  have gτ : τ.get σ.next = .cells [(Value.int .i64 0), (Value.int .i64 0), (Value.int .i64 0), (Value.int .i64 0)] T_semvcs_semvcsref01_Item σ.next := by rw [← hτ]; exact push_get
  have bτ : τ.base ≤ σ.next := by have := hσ.base; have h2 : τ.base = σ.base := by unfold AHeap.base; rw [xτ.old]
                                  omega
  rw [word_eq hs (by omega), if_pos ⟨hi, hl⟩]
  have put : ∀ a1 a2 a3 a4 : Int, (a1, a2, a3, a4) = itemOf i (wordT s i) → OptW (bd (stN τ (some ⟨σ.next, 0, none⟩) [(Value.int .i64 a1), (Value.int .i64 a2), (Value.int .i64 a3), (Value.int .i64 a4)]) fun τ' => bd (ld_i64_i64_i64_i64 τ' (some ⟨σ.next, 0, none⟩)) fun (x, y, z, w) => some (x, y, z, w, τ')) (ItemR σ (itemOf i (wordT s i))) := by
    intro a1 a2 a3 a4 he
    exact item_put wτ xτ (Nat.le_refl _) bτ gτ rfl a1 a2 a3 a4 (fun τ' r => some (r.1, r.2.1, r.2.2.1, r.2.2.2, τ')) (fun τ' w x _ => ⟨_, rfl, he, w, x⟩)
  unfold wordT at put ⊢
  generalize he1 : scanTo innerB s i = e1 at *
  simp only [bd_some]
  rw [wrap64 (x := (i : Int) + ((e1 : Int) - i)) (by omega) (by omega)]
  have e0 : (i : Int) + ((e1 : Int) - i) = (e1 : Int) := by omega
  rw [e0, wrap64 (x := (e1 : Int) + 1) (by omega) (by omega)]
  have e1' : (e1 : Int) + 1 = ((e1 + 1 : Nat) : Int) := by omega
  rw [e1', slS_eq (by omega) l1]
  simp only [bd_some, idxS_eq hi, ref_upper, upper_le hl, ref_reserved]
  have hr1' : resB (s.extract i e1) = true → ¬ (24 < e1 - i) := by
    intro h; have := resB_size h; rw [size_extract (by omega) l1] at this; omega
  generalize resB (s.extract i e1) = r1 at *
  rw [show (bif decide (B s i ≤ 90) then some r1 else some false) = some (decide (B s i ≤ 90) && r1) from by cases decide (B s i ≤ 90) <;> rfl]
  have hlt : decide (((e1 + 1 : Nat) : Int) < (s.size : Int)) = decide (e1 + 1 < s.size) := by
    by_cases h : e1 + 1 < s.size <;> simp [h] <;> omega
  have h24 : decide ((24 : Int) < (e1 : Int) - (i : Int)) = decide (24 < e1 - i) := by
    by_cases h : 24 < e1 - i <;> simp [h] <;> omega
  have hu : (decide (B s i ≤ 90) && !(decide (B s i ≤ 90) && r1)) = (decide (B s i ≤ 90) && !r1) := by cases decide (B s i ≤ 90) <;> simp
  simp only [bd_some, hlt, h24, hu]
  unfold wordS at put
  have plain : ∀ b : Bool, (decide (B s i ≤ 90) && !r1 && decide (e1 + 1 < s.size) && decide (B s e1 = 46) && letterB (B s (e1 + 1))) = false →
      OptW (bif decide (24 < e1 - i) then bd (stN τ (some ⟨σ.next, 0, none⟩) [(Value.int .i64 0), (Value.int .i64 0), (Value.int .i64 3), (Value.int .i64 i)]) fun τ' => bd (ld_i64_i64_i64_i64 τ' (some ⟨σ.next, 0, none⟩)) fun (x, y, z, w) => some (x, y, z, w, τ')
        else bif r1 then bd (stN τ (some ⟨σ.next, 0, none⟩) [(Value.int .i64 ((e1 : Int) - i)), (Value.int .i64 7), (Value.int .i64 0), (Value.int .i64 0)]) fun τ' => bd (ld_i64_i64_i64_i64 τ' (some ⟨σ.next, 0, none⟩)) fun (x, y, z, w) => some (x, y, z, w, τ')
        else bif decide (B s i ≤ 90) then bd (stN τ (some ⟨σ.next, 0, none⟩) [(Value.int .i64 ((e1 : Int) - i)), (Value.int .i64 2), (Value.int .i64 0), (Value.int .i64 0)]) fun τ' => bd (ld_i64_i64_i64_i64 τ' (some ⟨σ.next, 0, none⟩)) fun (x, y, z, w) => some (x, y, z, w, τ')
        else bd (stN τ (some ⟨σ.next, 0, none⟩) [(Value.int .i64 ((e1 : Int) - i)), (Value.int .i64 1), (Value.int .i64 0), (Value.int .i64 0)]) fun τ' => bd (ld_i64_i64_i64_i64 τ' (some ⟨σ.next, 0, none⟩)) fun (x, y, z, w) => some (x, y, z, w, τ'))
      (ItemR σ (itemOf i (wordS s i e1 (scanTo innerB s (e1 + 1)) r1 (resB (s.extract (e1 + 1) (scanTo innerB s (e1 + 1))))))) := by
    intro _ hc
    unfold wordS
    rw [hc] at put ⊢
    simp only [Bool.false_eq_true, if_false] at put ⊢
    cases r1 with
    | true =>
      have h1 := hr1' rfl
      simp only [if_true] at put ⊢
      rw [decide_eq_false h1]
      exact put _ _ _ _ (by simp [itemOf])
    | false =>
      simp only [Bool.false_eq_true, if_false] at put ⊢
      by_cases h1 : 24 < e1 - i
      · rw [decide_eq_true h1]; rw [if_pos h1] at put ⊢; exact put _ _ _ _ (by simp [itemOf])
      · rw [decide_eq_false h1]; rw [if_neg h1] at put ⊢
        by_cases h2 : B s i ≤ 90
        · rw [decide_eq_true h2]; rw [if_pos h2] at put ⊢; exact put _ _ _ _ (by simp [itemOf])
        · rw [decide_eq_false h2]; rw [if_neg h2] at put ⊢; exact put _ _ _ _ (by simp [itemOf])
  by_cases hc : (decide (B s i ≤ 90) && !r1 && decide (e1 + 1 < s.size)) = true
  · rw [hc] at plain put ⊢
    have h3 : e1 + 1 < s.size := by simp only [Bool.and_eq_true, decide_eq_true_eq] at hc; exact hc.2
    have hi1 : idxS s (e1 : Int) = some (B s e1) := idxS_eq (by omega)
    simp only [cond_true, hi1, bd_some, Bool.true_and] at plain put ⊢
    cases h4 : decide (B s e1 = 46) with
    | false =>
      simp only [cond_false, bd_some, Bool.false_and]
      exact plain true (by rw [h4]; rfl)
    | true =>
      rw [word_eq hs (by omega)]
      simp only [h4, Bool.true_and] at plain put
      cases h5 : letterB (B s (e1 + 1)) with
      | false =>
        have : ¬ (e1 + 1 < s.size ∧ false = true) := by simp
        rw [if_neg this]
        simp only [cond_true, bd_some, Int.lt_irrefl, decide_false, Bool.and_false, cond_false]
        exact plain true (by rw [h5])
      | true =>
        rw [if_pos ⟨h3, rfl⟩]
        have g2 := scanTo_gt (p := innerB) h3 (inner_letter h5)
        have l2 := scanTo_le innerB s (e1 + 1) (by omega)
        generalize scanTo innerB s (e1 + 1) = e2 at *
        have hpos : decide ((0 : Int) < (e2 : Int) - ((e1 + 1 : Nat) : Int)) = true := by simp; omega
        simp only [cond_true, bd_some, hpos, Bool.and_true]
        have w1 : IntKind.wrap .i64 (((e1 + 1 : Nat) : Int) + ((e2 : Int) - ((e1 + 1 : Nat) : Int))) = (e2 : Int) := by rw [wrap64 (by omega) (by omega)]; omega
        rw [w1, slS_eq (by omega) l2]
        have hz2 : (s.extract (e1 + 1) e2).size = e2 - (e1 + 1) := size_extract (by omega) l2
        have hB2 := B_extract (s := s) (i := e1 + 1) (j := e2) (k := 0) (by omega) l2
        have h02 : idxS (s.extract (e1 + 1) e2) 0 = some (B s (e1 + 1)) := by
          have := idxS_eq (s := s.extract (e1 + 1) e2) (i := 0) (by omega)
          rw [hB2] at this; exact this
        have h24' : decide ((24 : Int) < (e2 : Int) - ((e1 + 1 : Nat) : Int)) = decide (24 < e2 - (e1 + 1)) := by
          by_cases h : 24 < e2 - (e1 + 1) <;> simp [h] <;> omega
        have w2 : IntKind.wrap .i64 (IntKind.wrap .i64 ((e1 : Int) - i + 1) + ((e2 : Int) - ((e1 + 1 : Nat) : Int))) = (e2 : Int) - i := by
          rw [wrap64 (x := (e1 : Int) - i + 1) (by omega) (by omega), wrap64 (by omega) (by omega)]; omega
        unfold G_semvcsref01_words_j1
        simp only [lt_eq, bd_some, h02, ref_upper, upper_le h5, h24, h24', ref_reserved, w2]
        rw [h5] at put
        unfold wordS
        rw [hc, h4, h5]
        simp only [Bool.and_self, if_true] at put ⊢
        generalize resB (s.extract (e1 + 1) e2) = r2 at *
        by_cases h : 24 < e1 - i ∨ 24 < e2 - (e1 + 1)
        · have hd : (decide (24 < e1 - i) || decide (24 < e2 - (e1 + 1))) = true := by simpa using h
          rw [hd]; rw [if_pos h] at put ⊢
          cases decide (B s (e1 + 1) ≤ 90) <;> exact put 0 0 3 i (by simp [itemOf])
        · have hd : (decide (24 < e1 - i) || decide (24 < e2 - (e1 + 1))) = false := by simpa [not_or] using h
          rw [hd]; rw [if_neg h] at put ⊢
          cases r2 with
          | true => simp only [if_true] at put ⊢; cases decide (B s (e1 + 1) ≤ 90) <;> exact put 0 0 2 i (by simp [itemOf])
          | false =>
            simp only [Bool.false_eq_true, if_false] at put ⊢
            by_cases h'' : B s (e1 + 1) ≤ 90
            · rw [if_pos h''] at put ⊢; rw [decide_eq_true h'']; exact put ((e2 : Int) - i) 4 0 0 (by simp [itemOf])
            · rw [if_neg h''] at put ⊢; rw [decide_eq_false h'']; exact put ((e2 : Int) - i) 3 0 0 (by simp [itemOf])
  · simp only [Bool.not_eq_true] at hc
    rw [hc] at plain ⊢
    simp only [cond_false, bd_some, Bool.false_and] at plain ⊢
    exact plain true trivial
end Go.Am
