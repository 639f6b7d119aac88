/- The reference's token, plainly. -/
import Derived.Test.YtfblbkmmjidknaaLexD
import Derived.Test.YtfblbkmmjidknaaAmP2
set_option linter.unusedVariables false
set_option linter.unusedSimpArgs false
namespace Go.Am
/-- An item out of a token's answer. -/
def itemOf (i : Nat) (t : Int × Int × Int × Int) : Int × Int × Int × Int := (if t.2.2.2 = 0 then t.2.1 - i else 0, t.1, t.2.2.2, t.2.2.1)
/-- Writing a struct of four numbers into its own block and reading it. -/
theorem item_put {σ0 σ : AHeap} {b : Nat} {c : List Value} {e : TypeId} (h : Wf σ) (h0 : Ext σ0 σ) (hb0 : σ0.next ≤ b) (hb : σ.base ≤ b) (hg : σ.get b = .cells c e b) (hc : c.length = 4) (a1 a2 a3 a4 : Int) {α : Type} (k : AHeap → (Int × Int × Int × Int) → Option α) {R : α → Prop}
    (hk : ∀ τ, Wf τ → Ext σ0 τ → τ.next = σ.next → OptW (k τ (a1, a2, a3, a4)) R) :
    OptW (bd (stN σ (some ⟨b, 0, none⟩) [(Value.int .i64 a1), (Value.int .i64 a2), (Value.int .i64 a3), (Value.int .i64 a4)]) fun τ => bd (ld_i64_i64_i64_i64 τ (some ⟨b, 0, none⟩)) fun r => k τ r) R := by
  obtain ⟨τ, h1, h2, h3, h4, h5, h6⟩ := stN_own h hb hg (off := 0) (vs := [(Value.int .i64 a1), (Value.int .i64 a2), (Value.int .i64 a3), (Value.int .i64 a4)]) (by simp [hc])
  rw [h1, bd_some]
  have hs : splice c 0 [(Value.int .i64 a1), (Value.int .i64 a2), (Value.int .i64 a3), (Value.int .i64 a4)] = [(Value.int .i64 a1), (Value.int .i64 a2), (Value.int .i64 a3), (Value.int .i64 a4)] := by
    simp [splice, hc]
  rw [hs] at h3
  have hl : ld_i64_i64_i64_i64 τ (some ⟨b, 0, none⟩) = some (a1, a2, a3, a4) := by
    unfold ld_i64_i64_i64_i64
    rw [ldN_own (by have : τ.base = σ.base := by unfold AHeap.base; rw [h4]
                    omega) h3 (by simp)]
    rfl
  rw [hl, bd_some]
  exact hk τ h2 ⟨h4.trans h0.old, by rw [h5]; exact h0.next, fun j hj => (h6 j (by omega)).trans (h0.same j hj)⟩ h5
theorem resB_size {w : ByteArray} (h : resB w = true) : w.size ≤ 24 := by
  by_cases hs : w.size ≤ 24
  · exact hs
  · exfalso
    have key : ∀ c : ByteArray, c.size ≤ 24 → decide (w = c) = false := by
      intro c hc
      apply decide_eq_false
      intro e; subst e; exact hs hc
    have : G_lex_reserved w = some false := by
      unfold G_lex_reserved G_lex_reserved_j1
      simp only [lt_eq]
      repeat (rw [key _ (by decide)]; simp only [cond_false])
    rw [lex_reserved, h] at this; cases this
end Go.Am
