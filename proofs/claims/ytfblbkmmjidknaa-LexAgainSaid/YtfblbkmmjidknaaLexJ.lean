/- LexJ -/
import Derived.Test.YtfblbkmmjidknaaLexE
import Derived.Test.YtfblbkmmjidknaaAmP1
set_option linter.unusedVariables false
set_option linter.unusedSimpArgs false
namespace Go.Am
theorem ByteArray.eq_empty_iff {s : ByteArray} : s = (⟨#[]⟩ : ByteArray) ↔ s.size = 0 := by
  constructor
  · intro h; subst h; rfl
  · intro h
    obtain ⟨d⟩ := s
    have : d.size = 0 := h
    have : d = #[] := Array.eq_empty_of_size_eq_zero this
    subst this; rfl
noncomputable def classS (s : ByteArray) : Int := if s.size = 0 then 0 else if (tokS s 0).2.2.2 ≠ 0 ∨ (tokS s 0).2.1 ≠ s.size then 0 else (tokS s 0).1
theorem lex_Class {s : ByteArray} (hs : s.size < 2 ^ 62) : G_lex_Class s = some (classS s) := by
  unfold G_lex_Class classS
  simp only [lt_eq]
  by_cases h : s.size = 0
  · rw [if_pos h, decide_eq_true (ByteArray.eq_empty_iff.2 h)]; rfl
  · rw [if_neg h, decide_eq_false (fun e => h (ByteArray.eq_empty_iff.1 e))]
    simp only [cond_false]
    have ht : G_lex_token s 0 = some (tokS s 0) := lex_token hs (i := 0) (by omega)
    rw [ht]
    generalize tokS s 0 = t
    obtain ⟨k, e, w, r⟩ := t
    simp only [bd_some]
    by_cases h1 : r = 0 <;> by_cases h2 : e = s.size <;> simp [h1, h2]
/-- A local variable of four numbers: made, and set. -/
theorem item_var {σ0 σ : AHeap} (h : Wf σ) (h0 : Ext σ0 σ) (a1 a2 a3 a4 : Int) : ∃ τ b, (lt (newC σ T_semvcs_semvcsref01_Item [(Value.int .i64 0), (Value.int .i64 0), (Value.int .i64 0), (Value.int .i64 0)]) fun (x, σ') => (stN σ' x [(Value.int .i64 a1), (Value.int .i64 a2), (Value.int .i64 a3), (Value.int .i64 a4)]).map fun τ => (x, τ)) = some (some ⟨b, 0, none⟩, τ) ∧
    Wf τ ∧ Ext σ0 τ ∧ σ0.next ≤ b ∧ τ.base ≤ b ∧ τ.get b = .cells [(Value.int .i64 a1), (Value.int .i64 a2), (Value.int .i64 a3), (Value.int .i64 a4)] T_semvcs_semvcsref01_Item b := by
  simp only [lt_eq, newC]
  generalize hτ : σ.push (.cells [(Value.int .i64 0), (Value.int .i64 0), (Value.int .i64 0), (Value.int .i64 0)] T_semvcs_semvcsref01_Item σ.next) = τ
  have wτ : Wf τ := by rw [← hτ]; exact h.push (Nat.le_refl _)
  have xτ : Ext σ τ := by rw [← hτ]; exact Ext.push
  have gτ : τ.get σ.next = .cells [(Value.int .i64 0), (Value.int .i64 0), (Value.int .i64 0), (Value.int .i64 0)] T_semvcs_semvcsref01_Item σ.next := by rw [← hτ]; exact push_get
  have bτ : τ.base ≤ σ.next := by
    have := h.base
    have h2 : τ.base = σ.base := by unfold AHeap.base; rw [xτ.old]
    omega
  obtain ⟨τ', g1, g2, g3, g4, g5, g6⟩ := stN_own wτ bτ gτ (off := 0) (vs := [(Value.int .i64 a1), (Value.int .i64 a2), (Value.int .i64 a3), (Value.int .i64 a4)]) (by simp)
  refine ⟨τ', σ.next, by rw [g1]; rfl, g2, ?_, h0.next, ?_, g3⟩
  · refine h0.trans ⟨g4.trans xτ.old, by rw [g5]; exact xτ.next, fun j hj => (g6 j hj).trans (xτ.same j hj)⟩
  · have : τ'.base = τ.base := by unfold AHeap.base; rw [g4]
    omega
theorem item_cell {τ : AHeap} {b : Nat} {a1 a2 a3 a4 : Int} {e : TypeId} {ch : Nat} (hb : τ.base ≤ b) (hg : τ.get b = .cells [(Value.int .i64 a1), (Value.int .i64 a2), (Value.int .i64 a3), (Value.int .i64 a4)] e ch) :
    ld_i64 τ (some ⟨b, 0, none⟩) = some a1 ∧ ld_i64 τ (some ⟨b, 1, none⟩) = some a2 ∧ ld_i64 τ (some ⟨b, 2, none⟩) = some a3 ∧ ld_i64 τ (some ⟨b, 3, none⟩) = some a4 := by
  unfold ld_i64
  rw [ldN_own hb hg (by simp), ldN_own hb hg (by simp), ldN_own hb hg (by simp), ldN_own hb hg (by simp)]
  exact ⟨rfl, rfl, rfl, rfl⟩
theorem offP_own {b n : Nat} : offP (some ⟨b, 0, none⟩) n = some (some ⟨b, n, none⟩) := by simp [offP]
end Go.Am
/- LexK -/
set_option linter.unusedVariables false
set_option linter.unusedSimpArgs false
namespace Go.Am
theorem white_tok {s : ByteArray} {i : Nat} (h : B s i = 9 ∨ B s i = 10 ∨ B s i = 13 ∨ B s i = 32 ∨ B s i = 35) : tokS s i = (0, 0, (i : Int), 2) := by
  unfold tokS
  rcases h with h | h | h | h | h <;> rw [h] <;> rfl
theorem bd_map {α β γ : Type} {o : Option α} {g : α → β} {k : β → Option γ} : bd (o.map g) k = bd o fun x => k (g x) := by cases o <;> rfl
theorem item_let {σ0 σ : AHeap} (h : Wf σ) (h0 : Ext σ0 σ) (a1 a2 a3 a4 : Int) {α : Type} {k : AHeap → Option α} {R : α → Prop}
    (hk : ∀ τ, Wf τ → Ext σ0 τ → τ.base ≤ σ.next → τ.get σ.next = .cells [(Value.int .i64 a1), (Value.int .i64 a2), (Value.int .i64 a3), (Value.int .i64 a4)] T_semvcs_semvcsref01_Item σ.next → OptW (k τ) R) :
    OptW (bd (stN (σ.push (.cells [(Value.int .i64 0), (Value.int .i64 0), (Value.int .i64 0), (Value.int .i64 0)] T_semvcs_semvcsref01_Item σ.next)) (some ⟨σ.next, 0, none⟩) [(Value.int .i64 a1), (Value.int .i64 a2), (Value.int .i64 a3), (Value.int .i64 a4)]) k) R := by
  generalize hτ : σ.push (.cells [(Value.int .i64 0), (Value.int .i64 0), (Value.int .i64 0), (Value.int .i64 0)] T_semvcs_semvcsref01_Item σ.next) = τ
  have wτ : Wf τ := by rw [← hτ]; exact h.push (Nat.le_refl _)
  have xτ : Ext σ τ := by rw [← hτ]; exact Ext.push
  have gτ : τ.get σ.next = .cells [(Value.int .i64 0), (Value.int .i64 0), (Value.int .i64 0), (Value.int .i64 0)] T_semvcs_semvcsref01_Item σ.next := by rw [← hτ]; exact push_get
  have bτ : τ.base ≤ σ.next := by
    have := h.base
    have h2 : τ.base = σ.base := by unfold AHeap.base; rw [xτ.old]
    omega
  obtain ⟨τ', g1, g2, g3, g4, g5, g6⟩ := stN_own wτ bτ gτ (off := 0) (vs := [(Value.int .i64 a1), (Value.int .i64 a2), (Value.int .i64 a3), (Value.int .i64 a4)]) (by simp)
  rw [g1, bd_some]
  refine hk τ' g2 ?_ ?_ g3
  · exact h0.trans ⟨g4.trans xτ.old, by rw [g5]; exact xτ.next, fun j hj => (g6 j hj).trans (xτ.same j hj)⟩
  · have : τ'.base = τ.base := by unfold AHeap.base; rw [g4]
    omega
theorem ref_Class {s : ByteArray} (hs : s.size < 2 ^ 62) {σ : AHeap} (hσ : Wf σ) : OptW (G_semvcsref01_Class s σ) fun r => r.1 = classS s ∧ Wf r.2 ∧ Ext σ r.2 := by
  unfold G_semvcsref01_Class classS
  simp only [lt_eq]
  by_cases h : s.size = 0
  · rw [decide_eq_true (ByteArray.eq_empty_iff.2 h), if_pos h]
    exact ⟨_, rfl, rfl, hσ, Ext.refl σ⟩
  · rw [decide_eq_false (fun e => h (ByteArray.eq_empty_iff.1 e)), if_neg h]
    have hx : idxS s 0 = some (B s 0) := idxS_eq (i := 0) (by omega)
    simp only [Bool.not_false, cond_true, hx, bd_some, ref_white, Bool.false_or]
    by_cases hw : B s 0 = 9 ∨ B s 0 = 10 ∨ B s 0 = 13 ∨ B s 0 = 32 ∨ B s 0 = 35
    · rw [white_tok (by exact hw)]
      have hd : (decide (B s 0 = 9) || decide (B s 0 = 10) || decide (B s 0 = 13) || decide (B s 0 = 32)) = true ∨ ((decide (B s 0 = 9) || decide (B s 0 = 10) || decide (B s 0 = 13) || decide (B s 0 = 32)) = false ∧ B s 0 = 35) := by
        rcases hw with h | h | h | h | h <;> rw [h] <;> decide
      rcases hd with hd | ⟨hd, h35⟩
      · rw [hd]; exact ⟨_, rfl, rfl, hσ, Ext.refl σ⟩
      · rw [hd, h35]; exact ⟨_, rfl, rfl, hσ, Ext.refl σ⟩
    · have hd : (decide (B s 0 = 9) || decide (B s 0 = 10) || decide (B s 0 = 13) || decide (B s 0 = 32)) = false := by
        simp only [not_or] at hw; simp [hw]
      have h35 : ¬ B s 0 = 35 := fun e => hw (by simp [e])
      rw [hd]
      simp only [Bool.not_false, cond_true, bd_some, decide_eq_false h35, Bool.or_self, cond_false]
      obtain ⟨⟨a1, a2, a3, a4, τ⟩, hr, h1, h2, h3⟩ := ref_next (s := s) hs (i := 0) (by omega) hσ
      have hr' : G_semvcsref01_next s 0 σ = some (a1, a2, a3, a4, τ) := hr
      rw [hr', bd_some]
      have hr3 := h1
      simp only [newC, bd_some]
      refine item_let h2 h3 a1 a2 a3 a4 ?_
      intro τ' w2 x2 hb2 hg2
      obtain ⟨c1, c2, c3, c4⟩ := item_cell hb2 hg2
      simp only [offP_own, bd_some, c1, c2, c3, c4]
      unfold itemOf at hr3
      generalize tokS s 0 = t at hr3 ⊢
      obtain ⟨k, e, w, er⟩ := t
      simp only at hr3 ⊢
      by_cases her : er = 0
      · subst her
        simp only [if_true] at hr3
        injection hr3 with q1 q2; injection q2 with q2 q3; injection q3 with q3 q4
        subst q1 q2 q3 q4
        by_cases he : e = (s.size : Int)
        · subst he
          simp [offP_own, c1, c2, c3, c4, bd_some, OptW]
          exact ⟨w2, x2⟩
        · simp [offP_own, c1, c2, c3, c4, bd_some, OptW, he]
          exact ⟨w2, x2⟩
      · rw [if_neg her] at hr3
        injection hr3 with q1 q2; injection q2 with q2 q3; injection q3 with q3 q4
        subst q1 q2 q3 q4
        simp [offP_own, c1, c2, c3, c4, bd_some, OptW, her]
        exact ⟨w2, x2⟩
end Go.Am
/- LexL -/
set_option linter.unusedVariables false
set_option linter.unusedSimpArgs false
namespace Go.Am
def whiteB (c : Int) : Bool := decide (c = 9) || decide (c = 10) || decide (c = 13) || decide (c = 32)
theorem white_allowed {c : Int} (h : whiteB c = true) : allowedB c = true := by
  unfold whiteB at h; unfold allowedB
  simp only [Bool.or_eq_true, decide_eq_true_eq, Bool.and_eq_true] at h ⊢
  omega
/-- The end of the trivia at a place (in a comment or not), and whether a byte that may not occur ends it. -/
def leadS (s : ByteArray) (c : Bool) (i : Nat) : Nat × Bool :=
  if h : i < s.size then
    if c then (if allowedB (B s i) then leadS s (decide (B s i ≠ 10)) (i + 1) else (i, true))
    else if B s i = 35 then leadS s true (i + 1)
    else if whiteB (B s i) then leadS s false (i + 1)
    else (i, false)
  else (i, false)
termination_by s.size - i
theorem leadS_ge (s : ByteArray) (c : Bool) (i : Nat) : i ≤ (leadS s c i).1 := by
  unfold leadS
  split
  · split
    · split
      · have := leadS_ge s (decide (B s i ≠ 10)) (i + 1); omega
      · exact Nat.le_refl _
    · split
      · have := leadS_ge s true (i + 1); omega
      · split
        · have := leadS_ge s false (i + 1); omega
        · exact Nat.le_refl _
  · exact Nat.le_refl _
termination_by s.size - i
theorem leadS_le (s : ByteArray) (c : Bool) (i : Nat) (h : i ≤ s.size) : (leadS s c i).1 ≤ s.size := by
  unfold leadS
  split
  · split
    · split
      · exact leadS_le s (decide (B s i ≠ 10)) (i + 1) (by omega)
      · exact h
    · split
      · exact leadS_le s true (i + 1) (by omega)
      · split
        · exact leadS_le s false (i + 1) (by omega)
        · exact h
  · exact h
termination_by s.size - i
/-- What stands behind the trivia: not white, and no comment. -/
theorem leadS_not (s : ByteArray) (c : Bool) (i : Nat) (h : (leadS s c i).2 = true) : (leadS s c i).1 < s.size := by
  unfold leadS at h ⊢
  split
  · rename_i hi
    rw [dif_pos hi] at h
    split at h
    · split at h
      · rw [if_pos (by assumption), if_pos (by assumption)]; exact leadS_not s _ (i + 1) h
      · rw [if_pos (by assumption), if_neg (by assumption)]; exact hi
    · rw [if_neg (by assumption)]
      split at h
      · rw [if_pos (by assumption)]; exact leadS_not s _ (i + 1) h
      · rw [if_neg (by assumption)]
        split at h
        · rw [if_pos (by assumption)]; exact leadS_not s _ (i + 1) h
        · cases h
  · rename_i hi; rw [dif_neg hi] at h; cases h
termination_by s.size - i
theorem sz {s : ByteArray} {i : Nat} : decide ((i : Int) < (s.size : Int)) = decide (i < s.size) := by
  by_cases h : i < s.size
  · rw [decide_eq_true h]; simp; omega
  · rw [decide_eq_false h]; simp; omega
theorem ref_lead {s : ByteArray} (hs : s.size < 2 ^ 62) {at' : Nat} (hat : at' ≤ s.size) :
    G_semvcsref01_lead s at' = some (((leadS s false at').1 : Int) - at', if (leadS s false at').2 then ((leadS s false at').1 : Int) else -1) := by
  unfold G_semvcsref01_lead
  refine OptW.eq (OptW.bdI (C := fun r => match r with
    | .inl n => n = (s.size : Int) ∧ leadS s false at' = (s.size, false)
    | .inr x => x = (((leadS s false at').1 : Int) - at', if (leadS s false at').2 then ((leadS s false at').1 : Int) else -1)) ?_ ?_)
  · refine OptW.loopI (fun y => ∃ j : Nat, y = (j : Int) ∧ at' ≤ j ∧ j ≤ s.size ∧ leadS s false j = leadS s false at') (fun y => s.size - y.toNat) ?_ _ ⟨at', rfl, Nat.le_refl _, hat, rfl⟩
    rintro _ ⟨j, rfl, h1, h2, h3⟩
    unfold G_semvcsref01_lead_l1
    simp only [lt_eq, sz]
    by_cases h : j < s.size
    · rw [decide_eq_true h]
      rw [leadS, dif_pos h, if_neg Bool.false_ne_true] at h3
      simp only [cond_true, idxS_eq h, bd_some, ref_white]
      cases hw : whiteB (B s j) with
      | true =>
        have hw' := hw
        unfold whiteB at hw'
        have h35 : ¬ B s j = 35 := by
          intro h; rw [h] at hw; revert hw; decide
        rw [if_neg h35, if_pos hw] at h3
        rw [hw', wrap64 (by omega) (by omega)]
        exact OptW.some_iff.2 ⟨⟨j + 1, by simp, by omega, h, h3⟩, by simp; omega⟩
      | false =>
        have hw' := hw
        unfold whiteB at hw'
        rw [hw']
        by_cases h35 : B s j = 35
        · rw [if_pos h35] at h3
          rw [decide_eq_true h35]
          simp only [cond_true, cond_false]
          refine OptW.bdI (C := fun r => match r with
            | .inl n => ∃ m : Nat, n = (m : Int) ∧ j < m ∧ m ≤ s.size ∧ leadS s false m = leadS s false at'
            | .inr x => x = (((leadS s false at').1 : Int) - at', if (leadS s false at').2 then ((leadS s false at').1 : Int) else -1)) ?_ ?_
          · refine OptW.loopI (fun y => ∃ m : Nat, y = (m : Int) ∧ j ≤ m ∧ m ≤ s.size ∧ (m = j ∨ leadS s true m = leadS s false at')) (fun y => s.size - y.toNat) ?_ _ ⟨j, rfl, Nat.le_refl _, h2, .inl rfl⟩
            rintro _ ⟨m, rfl, g1, g2, g3⟩
            unfold G_semvcsref01_lead_l2
            simp only [lt_eq, sz]
            by_cases g : m < s.size
            · rw [decide_eq_true g]
              simp only [cond_true, idxS_eq g, bd_some, Bool.true_and]
              by_cases h10 : B s m = 10
              · have : decide (B s m ≠ 10) = false := by simp [h10]
                rw [this]
                have hm : m ≠ j := by intro e; rw [e, h35] at h10; cases h10
                have g3 := g3.resolve_left hm
                rw [leadS, dif_pos g, if_pos rfl, if_pos (by rw [h10]; rfl), this] at g3
                refine OptW.some_iff.2 ⟨m, rfl, by omega, g2, ?_⟩
                rw [← g3, leadS, dif_pos g, if_neg Bool.false_ne_true, if_neg (by rw [h10]; decide), if_pos (by rw [h10]; rfl)]
              · have : decide (B s m ≠ 10) = true := by simp [h10]
                rw [this]
                simp only [cond_true, ref_allowed, bd_some]
                cases ha : allowedB (B s m) with
                | false =>
                  have hm : m ≠ j := by intro e; rw [e, h35] at ha; cases ha
                  have g3 := g3.resolve_left hm
                  rw [leadS, dif_pos g, if_pos rfl, if_neg (by rw [ha]; exact Bool.false_ne_true)] at g3
                  refine OptW.some_iff.2 ?_
                  show _ = _
                  rw [← g3, wrap64 (by omega) (by omega)]
                  rfl
                | true =>
                  simp only [Bool.not_true, cond_false]
                  rw [wrap64 (by omega) (by omega)]
                  refine OptW.some_iff.2 ⟨⟨m + 1, by simp, by omega, g, ?_⟩, by simp; omega⟩
                  by_cases hm : m = j
                  · subst hm; exact .inr h3
                  · have g3 := g3.resolve_left hm
                    rw [leadS, dif_pos g, if_pos rfl, if_pos ha, this] at g3
                    exact .inr g3
            · rw [decide_eq_false g]
              have hm : m ≠ j := by omega
              have g3 := g3.resolve_left hm
              refine OptW.some_iff.2 ⟨m, rfl, by omega, g2, ?_⟩
              rw [← g3]
              rw [leadS, dif_neg g]
              rw [leadS, dif_neg g]
          · rintro (n | x) hx
            · obtain ⟨m, rfl, g1, g2, g3⟩ := hx
              exact OptW.some_iff.2 ⟨⟨m, rfl, by omega, g2, g3⟩, by simp; omega⟩
            · subst hx; exact OptW.some_iff.2 rfl
        · rw [decide_eq_false h35]
          rw [if_neg h35, if_neg (by rw [hw]; exact Bool.false_ne_true)] at h3
          simp only [cond_false]
          refine OptW.some_iff.2 ?_
          show _ = _
          rw [← h3, wrap64 (by omega) (by omega)]
          rfl
    · rw [decide_eq_false h]
      rw [leadS, dif_neg h] at h3
      refine OptW.some_iff.2 ⟨by omega, ?_⟩
      rw [← h3]
      simp; omega
  · rintro (n | x) hx
    · obtain ⟨rfl, h2⟩ := hx
      simp only [lt_eq]
      refine OptW.some_iff.2 ?_
      rw [h2, wrap64 (by omega) (by omega)]
      rfl
    · subst hx; exact OptW.some_iff.2 rfl
end Go.Am
