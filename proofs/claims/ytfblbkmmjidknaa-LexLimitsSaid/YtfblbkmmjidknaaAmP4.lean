/- Plain words for laws: loops with an invariant. -/
import Derived.Test.YtfblbkmmjidknaaAmP3
set_option linter.unusedVariables false
set_option linter.unusedSimpArgs false
namespace Go.Am
theorem OptW.some_iff {α : Type} {a : α} {C : α → Prop} : OptW (some a) C ↔ C a := ⟨fun h => h.sm, fun h => ⟨a, rfl, h⟩⟩
theorem OptW.bdI {α β : Type} {o : Option α} {k : α → Option β} {C : α → Prop} {R : β → Prop} (h : OptW o C) (hk : ∀ a, C a → OptW (k a) R) : OptW (Go.Am.bd o k) R := by
  obtain ⟨a, ha, hc⟩ := h
  rw [ha]; exact hk a hc
theorem OptW.bifI {α : Type} {b : Bool} {x y : Option α} {R : α → Prop} (h1 : b = true → OptW x R) (h2 : b = false → OptW y R) : OptW (bif b then x else y) R := by
  cases b with
  | true => exact h1 rfl
  | false => exact h2 rfl
/-- What a turn of a loop gives. -/
def Turn {S T : Type} (I : S → Prop) (C : T → Prop) : S ⊕ T → Prop
  | .inl y => I y
  | .inr b => C b
theorem OptW.loopI {S T : Type} {L : S → Option (S ⊕ T)} (I : S → Prop) (m : S → Nat) {C : T → Prop} (hs : ∀ y, I y → OptW (L y) (Turn (fun z => I z ∧ m z < m y) C)) : ∀ x, I x → OptW (loopT L x) C := by
  have key : ∀ n x, m x < n → I x → OptW (loopT L x) C := by
    intro n
    induction n with
    | zero => intro x h; omega
    | succ n ih =>
      intro x hm hI
      obtain ⟨r, hr, ht⟩ := hs x hI
      rw [loopT_eq, hr]
      cases r with
      | inl y => exact ih y (by have := ht.2; omega) ht.1
      | inr b => exact ⟨b, rfl, ht⟩
  exact fun x hx => key (m x + 1) x (Nat.lt_succ_self _) hx
theorem OptW.eq {α : Type} {x : Option α} {a : α} (h : OptW x fun b => b = a) : x = some a := by
  obtain ⟨b, hb, rfl⟩ := h; exact hb
theorem OptW.and {α : Type} {x : Option α} {C D : α → Prop} (h : OptW x C) (k : OptW x D) : OptW x fun a => C a ∧ D a := by
  obtain ⟨a, ha, hc⟩ := h
  obtain ⟨b, hb, hd⟩ := k
  rw [ha] at hb; injection hb with hb; subst hb
  exact ⟨a, ha, hc, hd⟩

theorem Wf.start (w : World) : Wf (AHeap.start w) := by
  refine ⟨Nat.le_refl _, ?_, ?_⟩
  · intro j c e ch h; cases h
  · intro j es cl h; cases h
end Go.Am
