/- LexE -/
import Derived.Test.YtfblbkmmjidknaaLexA
import Derived.Test.YtfblbkmmjidknaaAmP1
set_option linter.unusedVariables false
set_option linter.unusedSimpArgs false
namespace Go.Am
/-- An item out of a token's answer. -/
def itemOf (i : Nat) (t : Int × Int × Int × Int) : Int × Int × Int × Int := (if t.2.2.2 = 0 then t.2.1 - i else 0, t.1, t.2.2.2, t.2.2.1)
/-- Writing a struct of four numbers into its own block and reading it. -/
theorem item_put {σ0 σ : AHeap} {b : Nat} {c : List Value} {e : TypeId} (h : Wf σ) (h0 : Ext σ0 σ) (hb0 : σ0.next ≤ b) (hb : σ.base ≤ b) (hg : σ.get b = .cells c e b) (hc : c.length = 4) (a1 a2 a3 a4 : Int) {α : Type} (k : AHeap → (Int × Int × Int × Int) → Option α) {R : α → Prop}
    (hk : ∀ τ, Wf τ → Ext σ0 τ → τ.next = σ.next → OptW (k τ (a1, a2, a3, a4)) R) :
    OptW (bd (stN σ (some ⟨b, 0, none⟩) [(Value.int .i64 a1), (Value.int .i64 a2), (Value.int .i64 a3), (Value.int .i64 a4)]) fun τ => bd (ld_i64_i64_i64_i64 τ (some ⟨b, 0, none⟩)) fun r => k τ r) R := by
  obtain ⟨τ, h1, h2, h3, h4, h5, h6⟩ := stN_own h hb hg (off := 0) (vs := [(Value.int .i64 a1), (Value.int .i64 a2), (Value.int .i64 a3), (Value.int .i64 a4)]) (by simp [hc])
  rw [h1, bd_some]
  have hs : splice c 0 [(Value.int .i64 a1), (Value.int .i64 a2), (Value.int .i64 a3), (Value.int .i64 a4)] = [(Value.int .i64 a1), (Value.int .i64 a2), (Value.int .i64 a3), (Value.int .i64 a4)] := by
    simp [splice, hc]
  rw [hs] at h3
  have hl : ld_i64_i64_i64_i64 τ (some ⟨b, 0, none⟩) = some (a1, a2, a3, a4) := by
    unfold ld_i64_i64_i64_i64
    rw [ldN_own (by have : τ.base = σ.base := by unfold AHeap.base; rw [h4]
                    omega) h3 (by simp)]
    rfl
  rw [hl, bd_some]
  exact hk τ h2 ⟨h4.trans h0.old, by rw [h5]; exact h0.next, fun j hj => (h6 j (by omega)).trans (h0.same j hj)⟩ h5
theorem resB_size {w : ByteArray} (h : resB w = true) : w.size ≤ 24 := by
  by_cases hs : w.size ≤ 24
  · exact hs
  · exfalso
    have key : ∀ c : ByteArray, c.size ≤ 24 → decide (w = c) = false := by
      intro c hc
      apply decide_eq_false
      intro e; subst e; exact hs hc
    have : G_lex_reserved w = some false := by
      unfold G_lex_reserved G_lex_reserved_j1
      simp only [lt_eq]
      repeat (rw [key _ (by decide)]; simp only [cond_false])
    rw [lex_reserved, h] at this; cases this
end Go.Am
/- LexF -/
set_option linter.unusedVariables false
set_option linter.unusedSimpArgs false
namespace Go.Am
theorem upper_le {c : Int} (h : letterB c = true) : upperB c = decide (c ≤ 90) := by
  unfold letterB at h; unfold upperB
  simp only [Bool.or_eq_true, Bool.and_eq_true, decide_eq_true_eq] at h
  by_cases h1 : c ≤ 90 <;> simp [h1] <;> omega
/-- What an answer with an item is to be. -/
def ItemR (σ : AHeap) (t : Int × Int × Int × Int) (r : Int × Int × Int × Int × AHeap) : Prop := (r.1, r.2.1, r.2.2.1, r.2.2.2.1) = t ∧ Wf r.2.2.2.2 ∧ Ext σ r.2.2.2.2
theorem ref_words {s : ByteArray} (hs : s.size < 2 ^ 62) {i : Nat} (hi : i < s.size) (hl : letterB (B s i) = true) {σ : AHeap} (hσ : Wf σ) :
    OptW (G_semvcsref01_words s i σ) (ItemR σ (itemOf i (wordT s i))) := by
  have g1 := scanTo_gt (p := innerB) hi (inner_letter hl)
  have l1 := scanTo_le innerB s i (by omega)
  unfold G_semvcsref01_words
  simp only [lt_eq, newC]
  generalize hτ : σ.push (.cells [(Value.int .i64 0), (Value.int .i64 0), (Value.int .i64 0), (Value.int .i64 0)] T_semvcs_semvcsref01_Item σ.next) = τ
  have wτ : Wf τ := by rw [← hτ]; exact hσ.push (Nat.le_refl _)
  have xτ : Ext σ τ := by rw [← hτ]; exact Ext.push
  have gτ : τ.get σ.next = .cells [(Value.int .i64 0), (Value.int .i64 0), (Value.int .i64 0), (Value.int .i64 0)] T_semvcs_semvcsref01_Item σ.next := by rw [← hτ]; exact push_get
  have bτ : τ.base ≤ σ.next := by have := hσ.base; have h2 : τ.base = σ.base := by unfold AHeap.base; rw [xτ.old]
                                  omega
  rw [word_eq hs (by omega), if_pos ⟨hi, hl⟩]
  have put : ∀ a1 a2 a3 a4 : Int, (a1, a2, a3, a4) = itemOf i (wordT s i) → OptW (bd (stN τ (some ⟨σ.next, 0, none⟩) [(Value.int .i64 a1), (Value.int .i64 a2), (Value.int .i64 a3), (Value.int .i64 a4)]) fun τ' => bd (ld_i64_i64_i64_i64 τ' (some ⟨σ.next, 0, none⟩)) fun (x, y, z, w) => some (x, y, z, w, τ')) (ItemR σ (itemOf i (wordT s i))) := by
    intro a1 a2 a3 a4 he
    exact item_put wτ xτ (Nat.le_refl _) bτ gτ rfl a1 a2 a3 a4 (fun τ' r => some (r.1, r.2.1, r.2.2.1, r.2.2.2, τ')) (fun τ' w x _ => ⟨_, rfl, he, w, x⟩)
  unfold wordT at put ⊢
  generalize he1 : scanTo innerB s i = e1 at *
  simp only [bd_some]
  rw [wrap64 (x := (i : Int) + ((e1 : Int) - i)) (by omega) (by omega)]
  have e0 : (i : Int) + ((e1 : Int) - i) = (e1 : Int) := by omega
  rw [e0, wrap64 (x := (e1 : Int) + 1) (by omega) (by omega)]
  have e1' : (e1 : Int) + 1 = ((e1 + 1 : Nat) : Int) := by omega
  rw [e1', slS_eq (by omega) l1]
  simp only [bd_some, idxS_eq hi, ref_upper, upper_le hl, ref_reserved]
  have hr1' : resB (s.extract i e1) = true → ¬ (24 < e1 - i) := by
    intro h; have := resB_size h; rw [size_extract (by omega) l1] at this; omega
  generalize resB (s.extract i e1) = r1 at *
  rw [show (bif decide (B s i ≤ 90) then some r1 else some false) = some (decide (B s i ≤ 90) && r1) from by cases decide (B s i ≤ 90) <;> rfl]
  have hlt : decide (((e1 + 1 : Nat) : Int) < (s.size : Int)) = decide (e1 + 1 < s.size) := by
    by_cases h : e1 + 1 < s.size <;> simp [h] <;> omega
  have h24 : decide ((24 : Int) < (e1 : Int) - (i : Int)) = decide (24 < e1 - i) := by
    by_cases h : 24 < e1 - i <;> simp [h] <;> omega
  have hu : (decide (B s i ≤ 90) && !(decide (B s i ≤ 90) && r1)) = (decide (B s i ≤ 90) && !r1) := by cases decide (B s i ≤ 90) <;> simp
  simp only [bd_some, hlt, h24, hu]
  unfold wordS at put
  have plain : ∀ b : Bool, (decide (B s i ≤ 90) && !r1 && decide (e1 + 1 < s.size) && decide (B s e1 = 46) && letterB (B s (e1 + 1))) = false →
      OptW (bif decide (24 < e1 - i) then bd (stN τ (some ⟨σ.next, 0, none⟩) [(Value.int .i64 0), (Value.int .i64 0), (Value.int .i64 3), (Value.int .i64 i)]) fun τ' => bd (ld_i64_i64_i64_i64 τ' (some ⟨σ.next, 0, none⟩)) fun (x, y, z, w) => some (x, y, z, w, τ')
        else bif r1 then bd (stN τ (some ⟨σ.next, 0, none⟩) [(Value.int .i64 ((e1 : Int) - i)), (Value.int .i64 7), (Value.int .i64 0), (Value.int .i64 0)]) fun τ' => bd (ld_i64_i64_i64_i64 τ' (some ⟨σ.next, 0, none⟩)) fun (x, y, z, w) => some (x, y, z, w, τ')
        else bif decide (B s i ≤ 90) then bd (stN τ (some ⟨σ.next, 0, none⟩) [(Value.int .i64 ((e1 : Int) - i)), (Value.int .i64 2), (Value.int .i64 0), (Value.int .i64 0)]) fun τ' => bd (ld_i64_i64_i64_i64 τ' (some ⟨σ.next, 0, none⟩)) fun (x, y, z, w) => some (x, y, z, w, τ')
        else bd (stN τ (some ⟨σ.next, 0, none⟩) [(Value.int .i64 ((e1 : Int) - i)), (Value.int .i64 1), (Value.int .i64 0), (Value.int .i64 0)]) fun τ' => bd (ld_i64_i64_i64_i64 τ' (some ⟨σ.next, 0, none⟩)) fun (x, y, z, w) => some (x, y, z, w, τ'))
      (ItemR σ (itemOf i (wordS s i e1 (scanTo innerB s (e1 + 1)) r1 (resB (s.extract (e1 + 1) (scanTo innerB s (e1 + 1))))))) := by
    intro _ hc
    unfold wordS
    rw [hc] at put ⊢
    simp only [Bool.false_eq_true, if_false] at put ⊢
    cases r1 with
    | true =>
      have h1 := hr1' rfl
      simp only [if_true] at put ⊢
      rw [decide_eq_false h1]
      exact put _ _ _ _ (by simp [itemOf])
    | false =>
      simp only [Bool.false_eq_true, if_false] at put ⊢
      by_cases h1 : 24 < e1 - i
      · rw [decide_eq_true h1]; rw [if_pos h1] at put ⊢; exact put _ _ _ _ (by simp [itemOf])
      · rw [decide_eq_false h1]; rw [if_neg h1] at put ⊢
        by_cases h2 : B s i ≤ 90
        · rw [decide_eq_true h2]; rw [if_pos h2] at put ⊢; exact put _ _ _ _ (by simp [itemOf])
        · rw [decide_eq_false h2]; rw [if_neg h2] at put ⊢; exact put _ _ _ _ (by simp [itemOf])
  by_cases hc : (decide (B s i ≤ 90) && !r1 && decide (e1 + 1 < s.size)) = true
  · rw [hc] at plain put ⊢
    have h3 : e1 + 1 < s.size := by simp only [Bool.and_eq_true, decide_eq_true_eq] at hc; exact hc.2
    have hi1 : idxS s (e1 : Int) = some (B s e1) := idxS_eq (by omega)
    simp only [cond_true, hi1, bd_some, Bool.true_and] at plain put ⊢
    cases h4 : decide (B s e1 = 46) with
    | false =>
      simp only [cond_false, bd_some, Bool.false_and]
      exact plain true (by rw [h4]; rfl)
    | true =>
      rw [word_eq hs (by omega)]
      simp only [h4, Bool.true_and] at plain put
      cases h5 : letterB (B s (e1 + 1)) with
      | false =>
        have : ¬ (e1 + 1 < s.size ∧ false = true) := by simp
        rw [if_neg this]
        simp only [cond_true, bd_some, Int.lt_irrefl, decide_false, Bool.and_false, cond_false]
        exact plain true (by rw [h5])
      | true =>
        rw [if_pos ⟨h3, rfl⟩]
        have g2 := scanTo_gt (p := innerB) h3 (inner_letter h5)
        have l2 := scanTo_le innerB s (e1 + 1) (by omega)
        generalize scanTo innerB s (e1 + 1) = e2 at *
        have hpos : decide ((0 : Int) < (e2 : Int) - ((e1 + 1 : Nat) : Int)) = true := by simp; omega
        simp only [cond_true, bd_some, hpos, Bool.and_true]
        have w1 : IntKind.wrap .i64 (((e1 + 1 : Nat) : Int) + ((e2 : Int) - ((e1 + 1 : Nat) : Int))) = (e2 : Int) := by rw [wrap64 (by omega) (by omega)]; omega
        rw [w1, slS_eq (by omega) l2]
        have hz2 : (s.extract (e1 + 1) e2).size = e2 - (e1 + 1) := size_extract (by omega) l2
        have hB2 := B_extract (s := s) (i := e1 + 1) (j := e2) (k := 0) (by omega) l2
        have h02 : idxS (s.extract (e1 + 1) e2) 0 = some (B s (e1 + 1)) := by
          have := idxS_eq (s := s.extract (e1 + 1) e2) (i := 0) (by omega)
          rw [hB2] at this; exact this
        have h24' : decide ((24 : Int) < (e2 : Int) - ((e1 + 1 : Nat) : Int)) = decide (24 < e2 - (e1 + 1)) := by
          by_cases h : 24 < e2 - (e1 + 1) <;> simp [h] <;> omega
        have w2 : IntKind.wrap .i64 (IntKind.wrap .i64 ((e1 : Int) - i + 1) + ((e2 : Int) - ((e1 + 1 : Nat) : Int))) = (e2 : Int) - i := by
          rw [wrap64 (x := (e1 : Int) - i + 1) (by omega) (by omega), wrap64 (by omega) (by omega)]; omega
        unfold G_semvcsref01_words_j1
        simp only [lt_eq, bd_some, h02, ref_upper, upper_le h5, h24, h24', ref_reserved, w2]
        rw [h5] at put
        unfold wordS
        rw [hc, h4, h5]
        simp only [Bool.and_self, if_true] at put ⊢
        generalize resB (s.extract (e1 + 1) e2) = r2 at *
        by_cases h : 24 < e1 - i ∨ 24 < e2 - (e1 + 1)
        · have hd : (decide (24 < e1 - i) || decide (24 < e2 - (e1 + 1))) = true := by simpa using h
          rw [hd]; rw [if_pos h] at put ⊢
          cases decide (B s (e1 + 1) ≤ 90) <;> exact put 0 0 3 i (by simp [itemOf])
        · have hd : (decide (24 < e1 - i) || decide (24 < e2 - (e1 + 1))) = false := by simpa [not_or] using h
          rw [hd]; rw [if_neg h] at put ⊢
          cases r2 with
          | true => simp only [if_true] at put ⊢; cases decide (B s (e1 + 1) ≤ 90) <;> exact put 0 0 2 i (by simp [itemOf])
          | false =>
            simp only [Bool.false_eq_true, if_false] at put ⊢
            by_cases h'' : B s (e1 + 1) ≤ 90
            · rw [if_pos h''] at put ⊢; rw [decide_eq_true h'']; exact put ((e2 : Int) - i) 4 0 0 (by simp [itemOf])
            · rw [if_neg h''] at put ⊢; rw [decide_eq_false h'']; exact put ((e2 : Int) - i) 3 0 0 (by simp [itemOf])
  · simp only [Bool.not_eq_true] at hc
    rw [hc] at plain ⊢
    simp only [cond_false, bd_some, Bool.false_and] at plain ⊢
    exact plain true trivial
end Go.Am
/- LexG -/
set_option linter.unusedVariables false
set_option linter.unusedSimpArgs false
namespace Go.Am
theorem OptW.loop_step {S T α : Type} {L : S → Option (S ⊕ T)} {x : S} {k : T → Option α} {R : α → Prop} (h : OptW (L x) (fun r => match r with | .inl y => OptW (Go.Am.bd (loopT L y) k) R | .inr b => OptW (k b) R)) : OptW (Go.Am.bd (loopT L x) k) R := by
  obtain ⟨r, hr, h⟩ := h
  rw [loopT_eq, hr]
  cases r with
  | inl y => exact h
  | inr b => exact h
theorem OptW.loop_go {S T α : Type} {L : S → Option (S ⊕ T)} {x : S} {k : T → Option α} {R : α → Prop} (h : ∀ C : S ⊕ T → Prop, (∀ y, OptW (Go.Am.bd (loopT L y) k) R → C (.inl y)) → (∀ b, OptW (k b) R → C (.inr b)) → OptW (L x) C) : OptW (Go.Am.bd (loopT L x) k) R :=
  OptW.loop_step (h _ (fun _ h => h) (fun _ h => h))
theorem text_allowed {c : Int} (h : ¬ (c = 92 ∨ c = 9 ∨ c = 10 ∨ c = 13)) (ha : allowedB c = true) : (decide (32 ≤ c) && decide (c ≤ 126)) = true ∧ c ≠ 92 := by
  unfold allowedB at ha
  simp only [not_or] at h
  obtain ⟨h1, h2, h3, h4⟩ := h
  simp only [Bool.or_eq_true, Bool.and_eq_true, decide_eq_true_eq] at ha ⊢
  exact ⟨by omega, h1⟩
theorem text_not {c : Int} (h : c = 92 ∨ c = 9 ∨ c = 10 ∨ c = 13) : allowedB c = true ∧ ((decide (32 ≤ c) && decide (c ≤ 126)) = false ∨ c = 92) := by
  rcases h with rfl | rfl | rfl | rfl <;> decide
/-- A block of one's own for an item. -/
structure Own (σ τ : AHeap) (b : Nat) : Prop where
  wf : Wf τ
  ext : Ext σ τ
  low : σ.next ≤ b
  base : τ.base ≤ b
  cells : ∃ c e, τ.get b = .cells c e b ∧ c.length = 4
theorem Own.put {σ τ : AHeap} {b : Nat} (h : Own σ τ b) (a1 a2 a3 a4 : Int) {α : Type} (k : AHeap → (Int × Int × Int × Int) → Option α) {R : α → Prop}
    (hk : ∀ τ', Wf τ' → Ext σ τ' → OptW (k τ' (a1, a2, a3, a4)) R) :
    OptW (bd (stN τ (some ⟨b, 0, none⟩) [(Value.int .i64 a1), (Value.int .i64 a2), (Value.int .i64 a3), (Value.int .i64 a4)]) fun τ' => bd (ld_i64_i64_i64_i64 τ' (some ⟨b, 0, none⟩)) fun r => k τ' r) R := by
  obtain ⟨c, e, hg, hc⟩ := h.cells
  exact item_put h.wf h.ext h.low h.base hg hc a1 a2 a3 a4 k (fun τ' w x _ => hk τ' w x)
theorem ref_text {s : ByteArray} (hs : s.size < 2 ^ 62) {i b : Nat} {σ τ : AHeap} (h : Own σ τ b) {k : (AHeap ⊕ (Int × Int × Int × Int × AHeap)) → Option (Int × Int × Int × Int × AHeap)}
    (hk : ∀ r, k (.inr r) = some r) (hn : OptW (k (.inl τ)) (ItemR σ (itemOf i (0, 0, (i : Int), 2)))) : ∀ j : Nat, i < j → j ≤ s.size → OptW (bd (loopT (G_semvcsref01_next_l1 s i (some ⟨b, 0, none⟩)) ((j : Int), τ)) k) (ItemR σ (itemOf i (textS s i j))) := by
  intro j hij hj
  apply OptW.loop_go
  intro C hl hr
  rw [textS] at hl hr
  unfold G_semvcsref01_next_l1
  by_cases hh : j < s.size
  · have h1 : (decide ((j : Int) < (s.size : Int))) = true := by simpa using hh
    rw [dif_pos hh] at hl hr
    simp only [lt_eq, h1, cond_true, idxS_eq hh, bd_some, ref_allowed, ref_printed]
    by_cases h34 : B s j = 34
    · rw [if_pos h34] at hl hr; simp only [h34, decide_true, cond_true]
      rw [wrap64 (x := (j : Int) + 1) (by omega) (by omega), wrap64 (by omega) (by omega)]
      refine h.put _ _ _ _ _ (fun τ' w x => ?_)
      refine ⟨_, rfl, hr _ ?_⟩
      rw [hk]
      exact ⟨_, rfl, by simp [itemOf], w, x⟩
    · rw [if_neg h34] at hl hr; simp only [h34, decide_false, cond_false]
      by_cases h92 : B s j = 92 ∨ B s j = 9 ∨ B s j = 10 ∨ B s j = 13
      · rw [if_pos h92] at hl hr
        obtain ⟨ha, hp⟩ := text_not h92
        rw [ha]
        simp only [Bool.not_true, cond_false]
        have fin : OptW (bd (stN τ (some ⟨b, 0, none⟩) [(Value.int .i64 0), (Value.int .i64 0), (Value.int .i64 2), (Value.int .i64 i)]) fun τ' => bd (ld_i64_i64_i64_i64 τ' (some ⟨b, 0, none⟩)) fun (x, y, z, w) => some (Sum.inr (α := Int × AHeap) (Sum.inr (α := AHeap) (x, y, z, w, τ'))))
            C := by
          refine h.put _ _ _ _ _ (fun τ' w x => ?_)
          refine ⟨_, rfl, hr _ ?_⟩
          rw [hk]
          exact ⟨_, rfl, by simp [itemOf], w, x⟩
        generalize (decide (32 ≤ B s j) && decide (B s j ≤ 126)) = p at *
        cases p with
        | false => exact fin
        | true =>
          have h92' : B s j = 92 := by simpa using hp
          simp only [Bool.not_true, Bool.not_false, cond_true, bd_some, h92', decide_true, Bool.or_true]
          exact fin
      · rw [if_neg h92] at hl hr
        cases ha : allowedB (B s j) with
        | false =>
          rw [ha] at hl hr; simp only [Bool.not_false, cond_true, Bool.false_eq_true, if_false] at hl hr ⊢
          refine h.put _ _ _ _ _ (fun τ' w x => ?_)
          refine ⟨_, rfl, hr _ ?_⟩
          rw [hk]
          exact ⟨_, rfl, by simp [itemOf], w, x⟩
        | true =>
          obtain ⟨hp, hne⟩ := text_allowed h92 ha
          rw [hp]
          simp only [Bool.not_true, cond_false, Bool.not_false, cond_true, bd_some, decide_eq_false hne, Bool.or_self]; rw [if_pos ha] at hl hr
          rw [wrap64 (by omega) (by omega)]
          refine ⟨_, rfl, hl _ ?_⟩
          exact ref_text hs h hk hn (j + 1) (by omega) hh
  · have : j = s.size := by omega
    subst this
    rw [dif_neg hh] at hl hr
    have h1 : (decide ((s.size : Int) < (s.size : Int))) = false := by simp
    simp only [lt_eq, h1, cond_false]
    exact ⟨_, rfl, hr _ hn⟩
termination_by j => s.size - j
end Go.Am
/- LexH -/
set_option linter.unusedVariables false
set_option linter.unusedSimpArgs false
namespace Go.Am
theorem ref_digits {s : ByteArray} (hs : s.size < 2 ^ 62) {at' c : Int} {x : Option Addr} {τ : AHeap} : ∀ j : Nat, j ≤ s.size → loopT (G_semvcsref01_next_l2 s at' x c) ((j : Int), τ) = some (((scanTo digitB s j : Nat) : Int), τ) := by
  intro j hj
  rw [loopT_eq, scanTo]
  by_cases h : j < s.size
  · have h1 : (decide ((j : Int) < (s.size : Int))) = true := by simpa using h
    have hL : G_semvcsref01_next_l2 s at' x c ((j : Int), τ) = if digitB (B s j) = true then some (.inl (((j + 1 : Nat) : Int), τ)) else some (.inr ((j : Int), τ)) := by
      unfold G_semvcsref01_next_l2
      simp only [lt_eq, h1, cond_true, idxS_eq h, bd_some, ref_digit, Bool.true_and]
      cases digitB (B s j) with
      | true => simp only [cond_true, if_true]; rw [wrap64 (by omega) (by omega)]; rfl
      | false => rfl
    rw [hL, dif_pos h]
    cases hp : digitB (B s j) with
    | true => simp only [if_true]; exact ref_digits hs (j + 1) h
    | false => simp only [Bool.false_eq_true, if_false]
  · have : j = s.size := by omega
    subst this
    rw [dif_neg h]
    unfold G_semvcsref01_next_l2
    simp [lt_eq, bd_some]
termination_by j => s.size - j
def signN (s : ByteArray) (i : Nat) : Int := if B s i = 61 ∧ i + 1 < s.size ∧ B s (i + 1) = 61 then 2 else if signB (B s i) = true then 1 else 0
theorem ref_sign {s : ByteArray} (hs : s.size < 2 ^ 62) {i : Nat} (hi : i < s.size) : G_semvcsref01_sign s i = some (signN s i) := by
  unfold G_semvcsref01_sign G_semvcsref01_sign_j1 signN
  simp only [lt_eq, idxS_eq hi, bd_some]
  by_cases h61 : B s i = 61
  · rw [decide_eq_true h61]
    simp only [cond_true]
    rw [wrap64 (x := (i : Int) + 1) (by omega) (by omega)]
    have e1 : ((i : Int) + 1) = ((i + 1 : Nat) : Int) := by omega
    rw [e1]
    have hb : signB (B s i) = true := by rw [h61]; rfl
    by_cases h : i + 1 < s.size
    · have : decide (((i + 1 : Nat) : Int) < (s.size : Int)) = true := by simp; omega
      rw [this]
      simp only [cond_true, idxS_eq h, bd_some, Bool.true_and]
      by_cases h3 : B s (i + 1) = 61 <;> simp [h3, h61, h, signB]
    · have : decide (((i + 1 : Nat) : Int) < (s.size : Int)) = false := by simp; omega
      rw [this]
      simp only [cond_false, bd_some, Bool.false_and]
      simp [h, hb]
  · rw [decide_eq_false h61, if_neg (fun h => h61 h.1)]
    simp only [cond_false]
    by_cases h40 : B s i = 40
    · simp [h40, signB, bd_some]
    by_cases h41 : B s i = 41
    · simp [h41, signB, bd_some]
    by_cases h91 : B s i = 91
    · simp [h91, signB, bd_some]
    by_cases h93 : B s i = 93
    · simp [h93, signB, bd_some]
    by_cases h58 : B s i = 58
    · simp [h58, signB, bd_some]
    by_cases h44 : B s i = 44
    · simp [h44, signB, bd_some]
    by_cases h43 : B s i = 43
    · simp [h43, signB, bd_some]
    by_cases h45 : B s i = 45
    · simp [h45, signB, bd_some]
    by_cases h42 : B s i = 42
    · simp [h42, signB, bd_some]
    by_cases h60 : B s i = 60
    · simp [h60, signB, bd_some]
    by_cases h63 : B s i = 63
    · simp [h63, signB, bd_some]
    simp [signB, h61, h40, h41, h91, h93, h58, h44, h43, h45, h42, h60, h63]
end Go.Am
/- LexI -/
set_option linter.unusedVariables false
set_option linter.unusedSimpArgs false
namespace Go.Am
theorem not_allowed {c : Int} (h : allowedB c = false) : letterB c = false ∧ digitB c = false ∧ c ≠ 34 ∧ c ≠ 61 ∧ signB c = false := by
  unfold allowedB at h
  simp only [Bool.or_eq_false_iff, Bool.and_eq_false_iff, decide_eq_false_iff_not] at h
  refine ⟨?_, ?_, by omega, by omega, ?_⟩
  · unfold letterB; simp only [Bool.or_eq_false_iff, Bool.and_eq_false_iff, decide_eq_false_iff_not]; omega
  · unfold digitB; simp only [Bool.and_eq_false_iff, decide_eq_false_iff_not]; omega
  · unfold signB; simp only [Bool.or_eq_false_iff, decide_eq_false_iff_not]; omega
theorem digit_not_letter {c : Int} (h : digitB c = true) : letterB c = false := by
  unfold digitB at h; unfold letterB
  simp only [Bool.and_eq_true, decide_eq_true_eq] at h
  simp only [Bool.or_eq_false_iff, Bool.and_eq_false_iff, decide_eq_false_iff_not]; omega
theorem ref_next {s : ByteArray} (hs : s.size < 2 ^ 62) {i : Nat} (hi : i < s.size) {σ : AHeap} (hσ : Wf σ) :
    OptW (G_semvcsref01_next s i σ) (ItemR σ (itemOf i (tokS s i))) := by
  unfold G_semvcsref01_next
  simp only [lt_eq, newC]
  generalize hτ : σ.push (.cells [(Value.int .i64 0), (Value.int .i64 0), (Value.int .i64 0), (Value.int .i64 0)] T_semvcs_semvcsref01_Item σ.next) = τ
  have wτ : Wf τ := by rw [← hτ]; exact hσ.push (Nat.le_refl _)
  have xτ : Ext σ τ := by rw [← hτ]; exact Ext.push
  have gτ : τ.get σ.next = .cells [(Value.int .i64 0), (Value.int .i64 0), (Value.int .i64 0), (Value.int .i64 0)] T_semvcs_semvcsref01_Item σ.next := by rw [← hτ]; exact push_get
  have bτ : τ.base ≤ σ.next := by have := hσ.base; have h2 : τ.base = σ.base := by unfold AHeap.base; rw [xτ.old]
                                  omega
  have own : Own σ τ σ.next := ⟨wτ, xτ, Nat.le_refl _, bτ, _, _, gτ, rfl⟩
  have put : ∀ a1 a2 a3 a4 : Int, (a1, a2, a3, a4) = itemOf i (tokS s i) → OptW (bd (stN τ (some ⟨σ.next, 0, none⟩) [(Value.int .i64 a1), (Value.int .i64 a2), (Value.int .i64 a3), (Value.int .i64 a4)]) fun τ' => bd (ld_i64_i64_i64_i64 τ' (some ⟨σ.next, 0, none⟩)) fun (x, y, z, w) => some (x, y, z, w, τ')) (ItemR σ (itemOf i (tokS s i))) := by
    intro a1 a2 a3 a4 he
    exact own.put a1 a2 a3 a4 (fun τ' r => some (r.1, r.2.1, r.2.2.1, r.2.2.2, τ')) (fun τ' w x => ⟨_, rfl, he, w, x⟩)
  simp only [idxS_eq hi, bd_some, ref_allowed, ref_digit, ref_lower, ref_upper]
  cases ha : allowedB (B s i) with
  | false =>
    obtain ⟨h1, h2, h3, h4, h5⟩ := not_allowed ha
    exact put 0 0 1 i (by unfold tokS; simp [h1, h2, h3, h4, h5, ha, itemOf])
  | true =>
    simp only [Bool.not_true, cond_false]
    by_cases h34 : B s i = 34
    · rw [decide_eq_true h34]
      simp only [cond_true]
      rw [wrap64 (x := (i : Int) + 1) (by omega) (by omega)]
      have ht : tokS s i = textS s i (i + 1) := by unfold tokS; rw [h34]; rfl
      rw [ht] at put ⊢
      refine ref_text hs own (fun r => rfl) ?_ (i + 1) (by omega) (by omega)
      exact own.put 0 0 2 i (fun τ' r => some (r.1, r.2.1, r.2.2.1, r.2.2.2, τ')) (fun τ' w x => ⟨_, rfl, by simp [itemOf], w, x⟩)
    · rw [decide_eq_false h34]
      simp only [cond_false]
      cases hd : digitB (B s i) with
      | true =>
        have hl := digit_not_letter hd
        have g := scanTo_gt (p := digitB) hi hd
        have l := scanTo_le digitB s i (by omega)
        simp only [cond_true]
        rw [ref_digits hs i (by omega)]
        unfold tokS at put ⊢
        rw [hl, hd] at put ⊢
        simp only [Bool.false_eq_true, if_false, if_true] at put ⊢
        generalize scanTo digitB s i = e at *
        simp only [bd_some]
        rw [wrap64 (x := (e : Int) - i) (by omega) (by omega)]
        by_cases h1 : i + 1 < e ∧ B s i = 48
        · have : (decide ((1 : Int) < (e : Int) - i) && decide (B s i = 48)) = true := by simp; omega
          rw [this]; rw [if_pos h1] at put ⊢
          exact put 0 0 2 i (by simp [itemOf])
        · have : (decide ((1 : Int) < (e : Int) - i) && decide (B s i = 48)) = false := by simp; omega
          rw [this]; rw [if_neg h1] at put ⊢
          simp only [cond_false]
          by_cases h2 : 15 < e - i
          · have : decide ((15 : Int) < (e : Int) - i) = true := by simp; omega
            rw [this]; rw [if_pos h2] at put ⊢
            exact put 0 0 3 i (by simp [itemOf])
          · have : decide ((15 : Int) < (e : Int) - i) = false := by simp; omega
            rw [this]; rw [if_neg h2] at put ⊢
            exact put ((e : Int) - i) 5 0 0 (by simp [itemOf])
      | false =>
        simp only [cond_false]
        have hlu : (bif !lowerB (B s i) then some (upperB (B s i)) else some false) = some (!lowerB (B s i) && upperB (B s i)) := by cases lowerB (B s i) <;> rfl
        rw [hlu]
        have hL : (lowerB (B s i) || !lowerB (B s i) && upperB (B s i)) = letterB (B s i) := by
          show _ = (lowerB (B s i) || upperB (B s i))
          cases lowerB (B s i) <;> rfl
        simp only [bd_some, hL]
        cases hl : letterB (B s i) with
        | true =>
          have ht : tokS s i = wordT s i := by unfold tokS; rw [hl]; rfl
          obtain ⟨⟨a, b, c, d, τ2⟩, hr, h1, h2, h3⟩ := ref_words hs hi hl wτ
          simp only [cond_true]
          rw [hr, bd_some]
          have hn : σ.next < τ.next := by rw [← hτ]; exact Nat.lt_succ_self _
          have b2 : τ2.base ≤ σ.next := by
            have e : τ2.base = τ.base := by unfold AHeap.base; rw [h3.old]
            omega
          have own2 : Own σ τ2 σ.next := ⟨h2, xτ.trans h3, Nat.le_refl _, b2, _, _, (h3.same _ hn).trans gτ, rfl⟩
          exact own2.put a b c d (fun τ' r => some (r.1, r.2.1, r.2.2.1, r.2.2.2, τ')) (fun τ' w x => ⟨_, rfl, by rw [ht]; exact h1, w, x⟩)
        | false =>
          simp only [cond_false, ref_sign hs hi, bd_some]
          unfold tokS at put ⊢
          rw [hl, hd] at put ⊢
          simp only [Bool.false_eq_true, if_false, ha, if_true] at put ⊢
          rw [if_neg h34] at put ⊢
          unfold signN
          by_cases hq : B s i = 61 ∧ i + 1 < s.size ∧ B s (i + 1) = 61
          · rw [if_pos hq] at put ⊢; rw [if_pos hq]
            exact put 2 8 0 0 (by simp [itemOf]; omega)
          · rw [if_neg hq] at put ⊢; rw [if_neg hq]
            cases hb : signB (B s i) with
            | true => rw [hb] at put; exact put 1 8 0 0 (by simp [itemOf]; omega)
            | false => rw [hb] at put; exact put 0 0 2 i (by simp [itemOf])
end Go.Am
