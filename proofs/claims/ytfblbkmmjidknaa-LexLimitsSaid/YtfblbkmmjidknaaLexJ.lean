/- The class of a text, on both sides. -/
import Derived.Test.YtfblbkmmjidknaaLexI
set_option linter.unusedVariables false
set_option linter.unusedSimpArgs false
namespace Go.Am
theorem ByteArray.eq_empty_iff {s : ByteArray} : s = (⟨#[]⟩ : ByteArray) ↔ s.size = 0 := by
  constructor
  · intro h; subst h; rfl
  · intro h
    obtain ⟨d⟩ := s
    have : d.size = 0 := h
    have : d = #[] := Array.eq_empty_of_size_eq_zero this
    subst this; rfl
noncomputable def classS (s : ByteArray) : Int := if s.size = 0 then 0 else if (tokS s 0).2.2.2 ≠ 0 ∨ (tokS s 0).2.1 ≠ s.size then 0 else (tokS s 0).1
theorem lex_Class {s : ByteArray} (hs : s.size < 2 ^ 62) : G_lex_Class s = some (classS s) := by
  unfold G_lex_Class classS
  simp only [lt_eq]
  by_cases h : s.size = 0
  · rw [if_pos h, decide_eq_true (ByteArray.eq_empty_iff.2 h)]; rfl
  · rw [if_neg h, decide_eq_false (fun e => h (ByteArray.eq_empty_iff.1 e))]
    simp only [cond_false]
    have ht : G_lex_token s 0 = some (tokS s 0) := lex_token hs (i := 0) (by omega)
    rw [ht]
    generalize tokS s 0 = t
    obtain ⟨k, e, w, r⟩ := t
    simp only [bd_some]
    by_cases h1 : r = 0 <;> by_cases h2 : e = s.size <;> simp [h1, h2]
/-- A local variable of four numbers: made, and set. -/
theorem item_var {σ0 σ : AHeap} (h : Wf σ) (h0 : Ext σ0 σ) (a1 a2 a3 a4 : Int) : ∃ τ b, (lt (newC σ T_semvcs_semvcsref01_Item [(Value.int .i64 0), (Value.int .i64 0), (Value.int .i64 0), (Value.int .i64 0)]) fun (x, σ') => (stN σ' x [(Value.int .i64 a1), (Value.int .i64 a2), (Value.int .i64 a3), (Value.int .i64 a4)]).map fun τ => (x, τ)) = some (some ⟨b, 0, none⟩, τ) ∧
    Wf τ ∧ Ext σ0 τ ∧ σ0.next ≤ b ∧ τ.base ≤ b ∧ τ.get b = .cells [(Value.int .i64 a1), (Value.int .i64 a2), (Value.int .i64 a3), (Value.int .i64 a4)] T_semvcs_semvcsref01_Item b := by
  simp only [lt_eq, newC]
  generalize hτ : σ.push (.cells [(Value.int .i64 0), (Value.int .i64 0), (Value.int .i64 0), (Value.int .i64 0)] T_semvcs_semvcsref01_Item σ.next) = τ
  have wτ : Wf τ := by rw [← hτ]; exact h.push (Nat.le_refl _)
  have xτ : Ext σ τ := by rw [← hτ]; exact Ext.push
  have gτ : τ.get σ.next = .cells [(Value.int .i64 0), (Value.int .i64 0), (Value.int .i64 0), (Value.int .i64 0)] T_semvcs_semvcsref01_Item σ.next := by rw [← hτ]; exact push_get
  have bτ : τ.base ≤ σ.next := by
    have := h.base
    have h2 : τ.base = σ.base := by unfold AHeap.base; rw [xτ.old]
    omega
  obtain ⟨τ', g1, g2, g3, g4, g5, g6⟩ := stN_own wτ bτ gτ (off := 0) (vs := [(Value.int .i64 a1), (Value.int .i64 a2), (Value.int .i64 a3), (Value.int .i64 a4)]) (by simp)
  refine ⟨τ', σ.next, by rw [g1]; rfl, g2, ?_, h0.next, ?_, g3⟩
  · refine h0.trans ⟨g4.trans xτ.old, by rw [g5]; exact xτ.next, fun j hj => (g6 j hj).trans (xτ.same j hj)⟩
  · have : τ'.base = τ.base := by unfold AHeap.base; rw [g4]
    omega
theorem item_cell {τ : AHeap} {b : Nat} {a1 a2 a3 a4 : Int} {e : TypeId} {ch : Nat} (hb : τ.base ≤ b) (hg : τ.get b = .cells [(Value.int .i64 a1), (Value.int .i64 a2), (Value.int .i64 a3), (Value.int .i64 a4)] e ch) :
    ld_i64 τ (some ⟨b, 0, none⟩) = some a1 ∧ ld_i64 τ (some ⟨b, 1, none⟩) = some a2 ∧ ld_i64 τ (some ⟨b, 2, none⟩) = some a3 ∧ ld_i64 τ (some ⟨b, 3, none⟩) = some a4 := by
  unfold ld_i64
  rw [ldN_own hb hg (by simp), ldN_own hb hg (by simp), ldN_own hb hg (by simp), ldN_own hb hg (by simp)]
  exact ⟨rfl, rfl, rfl, rfl⟩
theorem offP_own {b n : Nat} : offP (some ⟨b, 0, none⟩) n = some (some ⟨b, n, none⟩) := by simp [offP]
end Go.Am
