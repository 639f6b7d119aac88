/- The class of a text, by the reference. -/
import Derived.Test.YtfblbkmmjidknaaLexJ
set_option linter.unusedVariables false
set_option linter.unusedSimpArgs false
namespace Go.Am
theorem white_tok {s : ByteArray} {i : Nat} (h : B s i = 9 ∨ B s i = 10 ∨ B s i = 13 ∨ B s i = 32 ∨ B s i = 35) : tokS s i = (0, 0, (i : Int), 2) := by
  unfold tokS
  rcases h with h | h | h | h | h <;> rw [h] <;> rfl
theorem bd_map {α β γ : Type} {o : Option α} {g : α → β} {k : β → Option γ} : bd (o.map g) k = bd o fun x => k (g x) := by cases o <;> rfl
theorem item_let {σ0 σ : AHeap} (h : Wf σ) (h0 : Ext σ0 σ) (a1 a2 a3 a4 : Int) {α : Type} {k : AHeap → Option α} {R : α → Prop}
    (hk : ∀ τ, Wf τ → Ext σ0 τ → τ.base ≤ σ.next → τ.get σ.next = .cells [(Value.int .i64 a1), (Value.int .i64 a2), (Value.int .i64 a3), (Value.int .i64 a4)] T_semvcs_semvcsref01_Item σ.next → OptW (k τ) R) :
    OptW (bd (stN (σ.push (.cells [(Value.int .i64 0), (Value.int .i64 0), (Value.int .i64 0), (Value.int .i64 0)] T_semvcs_semvcsref01_Item σ.next)) (some ⟨σ.next, 0, none⟩) [(Value.int .i64 a1), (Value.int .i64 a2), (Value.int .i64 a3), (Value.int .i64 a4)]) k) R := by
  generalize hτ : σ.push (.cells [(Value.int .i64 0), (Value.int .i64 0), (Value.int .i64 0), (Value.int .i64 0)] T_semvcs_semvcsref01_Item σ.next) = τ
  have wτ : Wf τ := by rw [← hτ]; exact h.push (Nat.le_refl _)
  have xτ : Ext σ τ := by rw [← hτ]; exact Ext.push
  have gτ : τ.get σ.next = .cells [(Value.int .i64 0), (Value.int .i64 0), (Value.int .i64 0), (Value.int .i64 0)] T_semvcs_semvcsref01_Item σ.next := by rw [← hτ]; exact push_get
  have bτ : τ.base ≤ σ.next := by
    have := h.base
    have h2 : τ.base = σ.base := by unfold AHeap.base; rw [xτ.old]
    omega
  obtain ⟨τ', g1, g2, g3, g4, g5, g6⟩ := stN_own wτ bτ gτ (off := 0) (vs := [(Value.int .i64 a1), (Value.int .i64 a2), (Value.int .i64 a3), (Value.int .i64 a4)]) (by simp)
  rw [g1, bd_some]
  refine hk τ' g2 ?_ ?_ g3
  · exact h0.trans ⟨g4.trans xτ.old, by rw [g5]; exact xτ.next, fun j hj => (g6 j hj).trans (xτ.same j hj)⟩
  · have : τ'.base = τ.base := by unfold AHeap.base; rw [g4]
    omega
theorem ref_Class {s : ByteArray} (hs : s.size < 2 ^ 62) {σ : AHeap} (hσ : Wf σ) : OptW (G_semvcsref01_Class s σ) fun r => r.1 = classS s ∧ Wf r.2 ∧ Ext σ r.2 := by
  unfold G_semvcsref01_Class classS
  simp only [lt_eq]
  by_cases h : s.size = 0
  · rw [decide_eq_true (ByteArray.eq_empty_iff.2 h), if_pos h]
    exact ⟨_, rfl, rfl, hσ, Ext.refl σ⟩
  · rw [decide_eq_false (fun e => h (ByteArray.eq_empty_iff.1 e)), if_neg h]
    have hx : idxS s 0 = some (B s 0) := idxS_eq (i := 0) (by omega)
    simp only [Bool.not_false, cond_true, hx, bd_some, ref_white, Bool.false_or]
    by_cases hw : B s 0 = 9 ∨ B s 0 = 10 ∨ B s 0 = 13 ∨ B s 0 = 32 ∨ B s 0 = 35
    · rw [white_tok (by exact hw)]
      have hd : (decide (B s 0 = 9) || decide (B s 0 = 10) || decide (B s 0 = 13) || decide (B s 0 = 32)) = true ∨ ((decide (B s 0 = 9) || decide (B s 0 = 10) || decide (B s 0 = 13) || decide (B s 0 = 32)) = false ∧ B s 0 = 35) := by
        rcases hw with h | h | h | h | h <;> rw [h] <;> decide
      rcases hd with hd | ⟨hd, h35⟩
      · rw [hd]; exact ⟨_, rfl, rfl, hσ, Ext.refl σ⟩
      · rw [hd, h35]; exact ⟨_, rfl, rfl, hσ, Ext.refl σ⟩
    · have hd : (decide (B s 0 = 9) || decide (B s 0 = 10) || decide (B s 0 = 13) || decide (B s 0 = 32)) = false := by
        simp only [not_or] at hw; simp [hw]
      have h35 : ¬ B s 0 = 35 := fun e => hw (by simp [e])
      rw [hd]
      simp only [Bool.not_false, cond_true, bd_some, decide_eq_false h35, Bool.or_self, cond_false]
      obtain ⟨⟨a1, a2, a3, a4, τ⟩, hr, h1, h2, h3⟩ := ref_next (s := s) hs (i := 0) (by omega) hσ
      have hr' : G_semvcsref01_next s 0 σ = some (a1, a2, a3, a4, τ) := hr
      rw [hr', bd_some]
      have hr3 := h1
      simp only [newC, bd_some]
      refine item_let h2 h3 a1 a2 a3 a4 ?_
      intro τ' w2 x2 hb2 hg2
      obtain ⟨c1, c2, c3, c4⟩ := item_cell hb2 hg2
      simp only [offP_own, bd_some, c1, c2, c3, c4]
      unfold itemOf at hr3
      generalize tokS s 0 = t at hr3 ⊢
      obtain ⟨k, e, w, er⟩ := t
      simp only at hr3 ⊢
      by_cases her : er = 0
      · subst her
        simp only [if_true] at hr3
        injection hr3 with q1 q2; injection q2 with q2 q3; injection q3 with q3 q4
        subst q1 q2 q3 q4
        by_cases he : e = (s.size : Int)
        · subst he
          simp [offP_own, c1, c2, c3, c4, bd_some, OptW]
          exact ⟨w2, x2⟩
        · simp [offP_own, c1, c2, c3, c4, bd_some, OptW, he]
          exact ⟨w2, x2⟩
      · rw [if_neg her] at hr3
        injection hr3 with q1 q2; injection q2 with q2 q3; injection q3 with q3 q4
        subst q1 q2 q3 q4
        simp [offP_own, c1, c2, c3, c4, bd_some, OptW, her]
        exact ⟨w2, x2⟩
end Go.Am
