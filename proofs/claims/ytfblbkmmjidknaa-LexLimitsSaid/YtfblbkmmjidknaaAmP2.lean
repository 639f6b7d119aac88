/- Plain words for laws: memory that only grows, and blocks of one's own. -/
import Derived.Test.YtfblbkmmjidknaaAmP1
set_option linter.unusedVariables false
set_option linter.unusedSimpArgs false
namespace Go.Am
structure Wf (σ : AHeap) : Prop where
  base : σ.base ≤ σ.next
  ids : ∀ j c e ch, σ.get j = .cells c e ch → ch ≤ j ∧ j < σ.next
  maps : ∀ j es cl, σ.get j = .map es cl → j < σ.next
/-- What lay below is as it was. -/
structure Ext (σ τ : AHeap) : Prop where
  old : τ.old = σ.old
  next : σ.next ≤ τ.next
  same : ∀ j, j < σ.next → τ.get j = σ.get j
theorem Ext.refl (σ : AHeap) : Ext σ σ := ⟨rfl, Nat.le_refl _, fun _ _ => rfl⟩
theorem Ext.trans {a b c : AHeap} (h : Ext a b) (k : Ext b c) : Ext a c :=
  ⟨k.old.trans h.old, Nat.le_trans h.next k.next, fun j hj => (k.same j (Nat.lt_of_lt_of_le hj h.next)).trans (h.same j hj)⟩
theorem Wf.push {σ : AHeap} (h : Wf σ) {c : List Value} {e : TypeId} {ch : Nat} (hc : ch ≤ σ.next) : Wf (σ.push (.cells c e ch)) := by
  constructor
  · exact Nat.le_succ_of_le h.base
  · intro j c' e' ch' hg
    simp only [AHeap.push] at hg ⊢
    split at hg
    · rename_i hj; injection hg with h1 h2 h3; omega
    · have := h.ids j _ _ _ hg; omega
  · intro j es cl hg
    simp only [AHeap.push] at hg ⊢
    split at hg
    · cases hg
    · have := h.maps j _ _ hg; omega
theorem Ext.push {σ : AHeap} {o : AObj} : Ext σ (σ.push o) := by
  refine ⟨rfl, Nat.le_succ _, fun j hj => ?_⟩
  simp only [AHeap.push]; rw [if_neg (by omega)]
theorem push_get {σ : AHeap} {o : AObj} : (σ.push o).get σ.next = o := by simp [AHeap.push]
theorem ldN_own {σ : AHeap} {b : Nat} {c : List Value} {e : TypeId} {ch : Nat} (hb : σ.base ≤ b) (hg : σ.get b = .cells c e ch) {off n : Nat} (hn : off + n ≤ c.length) : ldN σ (some ⟨b, off, none⟩) n = some ((c.drop off).take n) := by
  simp only [ldN, Option.bind_some, rd]
  rw [if_neg (by simp), if_neg (by omega), hg]
  simp only
  rw [if_pos hn]
theorem stN_own {σ : AHeap} {b : Nat} {c vs : List Value} {e : TypeId} {ch : Nat} (h : Wf σ) (hb : σ.base ≤ b) (hg : σ.get b = .cells c e ch) {off : Nat} (hn : off + vs.length ≤ c.length) :
    ∃ τ, stN σ (some ⟨b, off, none⟩) vs = some τ ∧ Wf τ ∧ τ.get b = .cells (splice c off vs) e ch ∧ τ.old = σ.old ∧ τ.next = σ.next ∧ ∀ j, j < ch → τ.get j = σ.get j := by
  refine ⟨(σ.kill ch b off).put b (.cells (splice c off vs) e ch), ?_, ?_, ?_, rfl, rfl, ?_⟩
  · simp only [stN, Option.bind_some, wr]
    rw [if_neg (by simp), if_neg (by omega), hg]
    simp only
    rw [if_pos hn]
  · constructor
    · exact h.base
    · intro j c' e' ch' hj
      simp only [AHeap.put, AHeap.kill] at hj ⊢
      split at hj
      · rename_i hjb; injection hj with h1 h2 h3; have := h.ids b _ _ _ hg; subst hjb; omega
      · split at hj
        · rename_i c1 e1 ch1 hj1
          split at hj
          · cases hj
          · injection hj with h1 h2 h3; have := h.ids j _ _ _ hj1; omega
        · rename_i hno
          exact absurd hj (hno _ _ _)
    · intro j es cl hj
      simp only [AHeap.put, AHeap.kill] at hj ⊢
      split at hj
      · cases hj
      · split at hj
        · split at hj <;> cases hj
        · exact h.maps j _ _ hj
  · simp [AHeap.put]
  · intro j hj
    have hb' := (h.ids b _ _ _ hg).1
    simp only [AHeap.put, AHeap.kill]
    rw [if_neg (by omega)]
    split
    · rename_i c1 e1 ch1 hj1
      rw [if_neg (by have := h.ids j _ _ _ hj1; omega)]; exact hj1.symm
    · rfl
end Go.Am
