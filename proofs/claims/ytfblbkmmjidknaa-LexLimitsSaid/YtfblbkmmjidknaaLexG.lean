/- The reference's token, plainly: all of it. -/
import Derived.Test.YtfblbkmmjidknaaLexF
set_option linter.unusedVariables false
set_option linter.unusedSimpArgs false
namespace Go.Am
theorem OptW.loop_step {S T α : Type} {L : S → Option (S ⊕ T)} {x : S} {k : T → Option α} {R : α → Prop} (h : OptW (L x) (fun r => match r with | .inl y => OptW (Go.Am.bd (loopT L y) k) R | .inr b => OptW (k b) R)) : OptW (Go.Am.bd (loopT L x) k) R := by
  obtain ⟨r, hr, h⟩ := h
  rw [loopT_eq, hr]
  cases r with
  | inl y => exact h
  | inr b => exact h
theorem OptW.loop_go {S T α : Type} {L : S → Option (S ⊕ T)} {x : S} {k : T → Option α} {R : α → Prop} (h : ∀ C : S ⊕ T → Prop, (∀ y, OptW (Go.Am.bd (loopT L y) k) R → C (.inl y)) → (∀ b, OptW (k b) R → C (.inr b)) → OptW (L x) C) : OptW (Go.Am.bd (loopT L x) k) R :=
  OptW.loop_step (h _ (fun _ h => h) (fun _ h => h))
theorem text_allowed {c : Int} (h : ¬ (c = 92 ∨ c = 9 ∨ c = 10 ∨ c = 13)) (ha : allowedB c = true) : (decide (32 ≤ c) && decide (c ≤ 126)) = true ∧ c ≠ 92 := by
  unfold allowedB at ha
  simp only [not_or] at h
  obtain ⟨h1, h2, h3, h4⟩ := h
  simp only [Bool.or_eq_true, Bool.and_eq_true, decide_eq_true_eq] at ha ⊢
  exact ⟨by omega, h1⟩
theorem text_not {c : Int} (h : c = 92 ∨ c = 9 ∨ c = 10 ∨ c = 13) : allowedB c = true ∧ ((decide (32 ≤ c) && decide (c ≤ 126)) = false ∨ c = 92) := by
  rcases h with rfl | rfl | rfl | rfl <;> decide
/-- A block of one's own for an item. -/
structure Own (σ τ : AHeap) (b : Nat) : Prop where
  wf : Wf τ
  ext : Ext σ τ
  low : σ.next ≤ b
  base : τ.base ≤ b
  cells : ∃ c e, τ.get b = .cells c e b ∧ c.length = 4
theorem Own.put {σ τ : AHeap} {b : Nat} (h : Own σ τ b) (a1 a2 a3 a4 : Int) {α : Type} (k : AHeap → (Int × Int × Int × Int) → Option α) {R : α → Prop}
    (hk : ∀ τ', Wf τ' → Ext σ τ' → OptW (k τ' (a1, a2, a3, a4)) R) :
    OptW (bd (stN τ (some ⟨b, 0, none⟩) [(Value.int .i64 a1), (Value.int .i64 a2), (Value.int .i64 a3), (Value.int .i64 a4)]) fun τ' => bd (ld_i64_i64_i64_i64 τ' (some ⟨b, 0, none⟩)) fun r => k τ' r) R := by
  obtain ⟨c, e, hg, hc⟩ := h.cells
  exact item_put h.wf h.ext h.low h.base hg hc a1 a2 a3 a4 k (fun τ' w x _ => hk τ' w x)
theorem ref_text {s : ByteArray} (hs : s.size < 2 ^ 62) {i b : Nat} {σ τ : AHeap} (h : Own σ τ b) {k : (AHeap ⊕ (Int × Int × Int × Int × AHeap)) → Option (Int × Int × Int × Int × AHeap)}
    (hk : ∀ r, k (.inr r) = some r) (hn : OptW (k (.inl τ)) (ItemR σ (itemOf i (0, 0, (i : Int), 2)))) : ∀ j : Nat, i < j → j ≤ s.size → OptW (bd (loopT (G_semvcsref01_next_l1 s i (some ⟨b, 0, none⟩)) ((j : Int), τ)) k) (ItemR σ (itemOf i (textS s i j))) := by
  intro j hij hj
  apply OptW.loop_go
  intro C hl hr
  rw [textS] at hl hr
  unfold G_semvcsref01_next_l1
  by_cases hh : j < s.size
  · have h1 : (decide ((j : Int) < (s.size : Int))) = true := by simpa using hh
    rw [dif_pos hh] at hl hr
    simp only [lt_eq, h1, cond_true, idxS_eq hh, bd_some, ref_allowed, ref_printed]
    by_cases h34 : B s j = 34
    · rw [if_pos h34] at hl hr; simp only [h34, decide_true, cond_true]
      rw [wrap64 (x := (j : Int) + 1) (by omega) (by omega), wrap64 (by omega) (by omega)]
      refine h.put _ _ _ _ _ (fun τ' w x => ?_)
      refine ⟨_, rfl, hr _ ?_⟩
      rw [hk]
      exact ⟨_, rfl, by simp [itemOf], w, x⟩
    · rw [if_neg h34] at hl hr; simp only [h34, decide_false, cond_false]
      by_cases h92 : B s j = 92 ∨ B s j = 9 ∨ B s j = 10 ∨ B s j = 13
      · rw [if_pos h92] at hl hr
        obtain ⟨ha, hp⟩ := text_not h92
        rw [ha]
        simp only [Bool.not_true, cond_false]
        have fin : OptW (bd (stN τ (some ⟨b, 0, none⟩) [(Value.int .i64 0), (Value.int .i64 0), (Value.int .i64 2), (Value.int .i64 i)]) fun τ' => bd (ld_i64_i64_i64_i64 τ' (some ⟨b, 0, none⟩)) fun (x, y, z, w) => some (Sum.inr (α := Int × AHeap) (Sum.inr (α := AHeap) (x, y, z, w, τ'))))
            C := by
          refine h.put _ _ _ _ _ (fun τ' w x => ?_)
          refine ⟨_, rfl, hr _ ?_⟩
          rw [hk]
          exact ⟨_, rfl, by simp [itemOf], w, x⟩
        generalize (decide (32 ≤ B s j) && decide (B s j ≤ 126)) = p at *
        cases p with
        | false => exact fin
        | true =>
          have h92' : B s j = 92 := by simpa using hp
          simp only [Bool.not_true, Bool.not_false, cond_true, bd_some, h92', decide_true, Bool.or_true]
          exact fin
      · rw [if_neg h92] at hl hr
        cases ha : allowedB (B s j) with
        | false =>
          rw [ha] at hl hr; simp only [Bool.not_false, cond_true, Bool.false_eq_true, if_false] at hl hr ⊢
          refine h.put _ _ _ _ _ (fun τ' w x => ?_)
          refine ⟨_, rfl, hr _ ?_⟩
          rw [hk]
          exact ⟨_, rfl, by simp [itemOf], w, x⟩
        | true =>
          obtain ⟨hp, hne⟩ := text_allowed h92 ha
          rw [hp]
          simp only [Bool.not_true, cond_false, Bool.not_false, cond_true, bd_some, decide_eq_false hne, Bool.or_self]; rw [if_pos ha] at hl hr
          rw [wrap64 (by omega) (by omega)]
          refine ⟨_, rfl, hl _ ?_⟩
          exact ref_text hs h hk hn (j + 1) (by omega) hh
  · have : j = s.size := by omega
    subst this
    rw [dif_neg hh] at hl hr
    have h1 : (decide ((s.size : Int) < (s.size : Int))) = false := by simp
    simp only [lt_eq, h1, cond_false]
    exact ⟨_, rfl, hr _ hn⟩
termination_by j => s.size - j
end Go.Am
