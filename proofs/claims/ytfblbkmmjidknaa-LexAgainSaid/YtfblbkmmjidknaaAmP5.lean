/- AmP5 -/
import Derived.Test.YtfblbkmmjidknaaAmP1
import Derived.Test.YtfblbkmmjidknaaAmY
set_option linter.unusedVariables false
set_option linter.unusedSimpArgs false
namespace Go.Am
def encB (c : Int) : List Value := [Value.int .u8 c]
theorem encB_len (c : Int) : (encB c).length = 1 := rfl
def bytesS (l : List Int) : ByteArray := ⟨(l.map fun c => UInt8.ofNat c.toNat).toArray⟩
theorem bytesS_size (l : List Int) : (bytesS l).size = l.length := by simp [bytesS, ByteArray.size]
theorem bytesOf_enc : ∀ l : List Int, bytesOfCells (l.flatMap encB) = some (l.map fun c => UInt8.ofNat c.toNat) := by
  intro l
  induction l with
  | nil => rfl
  | cons c l ih => simp only [List.flatMap_cons, encB, List.singleton_append, bytesOfCells, List.map_cons]; rw [ih]; rfl
theorem strOf_enc {σ : AHeap} {e : TypeId} {sl : Sl} {l : List Int} (h : LRd encB σ e sl l) : strOf σ sl = some (bytesS l) := by
  unfold strOf
  rcases h.2 with ⟨h1, h2⟩ | ⟨b, ch, h1, h2, h3, h4⟩
  · subst h1; subst h2; rfl
  · rw [h1]
    simp only
    have hl : (l.flatMap encB).length = l.length := by rw [flatMap_len encB_len]; omega
    have := ldN_own (off := 0) (n := sl.n) h2 h4 (by rw [hl, h.1]; omega)
    unfold ldN at this
    simp only [Option.bind_some] at this
    rw [this, Option.bind_some, List.drop_zero, h.1, ← hl, List.take_length, bytesOf_enc]
    rfl
theorem B_eq {s : ByteArray} {i : Nat} (h : i < s.size) : B s i = ((s[i]'h).toNat : Int) := by unfold B; rw [dif_pos h]
theorem B_out {s : ByteArray} {i : Nat} (h : ¬ i < s.size) : B s i = 0 := by unfold B; rw [dif_neg h]
theorem B_append_left {a b : ByteArray} {i : Nat} (h : i < a.size) : B (a ++ b) i = B a i := by
  rw [B_eq (by rw [ByteArray.size_append]; omega), B_eq h, ByteArray.getElem_append_left h]
theorem B_append_right {a b : ByteArray} {i : Nat} (h : a.size ≤ i) : B (a ++ b) i = B b (i - a.size) := by
  by_cases hb : i - a.size < b.size
  · rw [B_eq (by rw [ByteArray.size_append]; omega), B_eq hb, ByteArray.getElem_append_right h]
  · rw [B_out hb, B_out (by rw [ByteArray.size_append]; omega)]
theorem B_bytesS {l : List Int} {i : Nat} (h : i < l.length) (h0 : 0 ≤ l[i]) (h1 : l[i] < 256) : B (bytesS l) i = l[i] := by
  rw [B_eq (by rw [bytesS_size]; exact h)]
  show (((l.map fun c => UInt8.ofNat c.toNat).toArray[i]'(by simpa using h)).toNat : Int) = l[i]
  simp only [List.getElem_toArray, List.getElem_map]
  rw [UInt8.toNat_ofNat', Nat.mod_eq_of_lt (by omega)]
  omega
end Go.Am
/- AmP6 -/
set_option linter.unusedVariables false
set_option linter.unusedSimpArgs false
namespace Go.Am
/-- append of some elements to one's own slice. -/
theorem apC_own {α : Type} {enc : α → List Value} {k b : Nat} {σ0 σ : AHeap} {e : TypeId} {sl : Sl} {l : List α} (hk : ∀ a, (enc a).length = k) (hk0 : 0 < k) (h : LOw enc σ0 σ e sl l) (l2 : List α) (hb : (l.length + l2.length) * (b + 1) ≤ 2 ^ 46) :
    ∃ sl' σ', apC σ e k b sl l2.length (l2.flatMap enc) = some (sl', σ') ∧ LOw enc σ0 σ' e sl' (l ++ l2) ∧
      (∀ j c e' ch', j < σ.next → σ.get j = .cells c e' ch' → (∀ b2 c2 e2 ch2, sl.p = some ⟨b2, 0, none⟩ → σ.get b2 = .cells c2 e2 ch2 → ch2 ≠ ch') → σ'.get j = .cells c e' ch') ∧ σ'.old = σ.old ∧ σ.next ≤ σ'.next ∧
      (∀ b2, sl'.p = some ⟨b2, 0, none⟩ → b2 < σ.next → sl.p = some ⟨b2, 0, none⟩) ∧
      (∀ b2 c2 e2 ch2, sl'.p = some ⟨b2, 0, none⟩ → σ'.get b2 = .cells c2 e2 ch2 → ch2 < σ.next → ∃ b3 c3 e3, sl.p = some ⟨b3, 0, none⟩ ∧ σ.get b3 = .cells c3 e3 ch2) ∧ (l2 = [] → sl' = sl) := by
  unfold apC
  have hold : slCells σ k sl = some (l.flatMap enc) := by
    unfold slCells
    rcases h.mem with ⟨h1, h2⟩ | ⟨_, c, ch, h1, h2, h3, h4⟩
    · subst h1; subst h2; rfl
    · rw [h1]; simp only
      split
      · rename_i h0
        rw [h.n] at h0
        have hl : l.length = 0 := by rcases Nat.mul_eq_zero.1 h0 with h | h <;> omega
        rw [List.length_eq_zero_iff.1 hl]; rfl
      · have := ldN_own (off := 0) (n := sl.n * k) h3 h4 (by rw [flatMap_len hk, h.n]; omega)
        unfold ldN at this
        simp only [Option.bind_some] at this
        rw [this, h.n]
        rw [List.drop_zero, ← flatMap_len hk l, List.take_length]
  rw [hold, Option.bind_some]
  by_cases hl2 : l2.length = 0
  · rw [if_pos hl2]
    have : l2 = [] := List.eq_nil_of_length_eq_zero hl2
    subst this
    refine ⟨sl, σ, rfl, by rw [List.append_nil]; exact h, fun j c e' ch' hj hg _ => hg, rfl, Nat.le_refl _, fun b2 h _ => h, fun b2 c2 e2 ch2 h1 h2 _ => ⟨b2, c2, e2, h1, h2⟩, fun _ => rfl⟩
  rw [if_neg hl2]
  rw [if_pos ⟨by rw [h.n]; exact hb, by rw [flatMap_len hk, h.n], by rw [flatMap_len hk]⟩]
  have hf : l.flatMap enc ++ l2.flatMap enc = (l ++ l2).flatMap enc := by simp
  rw [hf]
  have hfresh : ∀ ch' τ', Wf τ' → Ext σ0 τ' → τ'.next = σ.next → σ0.next ≤ ch' → ch' ≤ τ'.next → LOw enc σ0 (τ'.push (.cells ((l ++ l2).flatMap enc) e ch')) e ⟨some ⟨σ.next, 0, none⟩, sl.n + l2.length, sl.n + l2.length + 1⟩ (l ++ l2) := by
    intro ch' τ' w x hnx hch hch'
    refine ⟨w.push hch', x.trans Ext.push, by simp [h.n], .inr ⟨by simp [h.n], σ.next, ch', rfl, hch, ?_, ?_⟩⟩
    · have : (τ'.push (.cells ((l ++ l2).flatMap enc) e ch')).base = τ'.base := Ext.push.base_eq
      have hb := h.wf.base
      rw [this, x.base_eq, ← h.ext.base_eq]; exact hb
    · rw [← hnx]; exact push_get
  have hle : σ0.next ≤ σ.next := h.ext.next
  have keep : ∀ (o : AObj) (j : Nat) c e' ch', j < σ.next → σ.get j = .cells c e' ch' → (σ.push o).get j = .cells c e' ch' := by
    intro o j c e' ch' hj hg
    have : (σ.push o).get j = σ.get j := by simp only [AHeap.push]; rw [if_neg (by omega)]
    rw [this, hg]
  have newp : ∀ b2 n c, (⟨some ⟨σ.next, 0, none⟩, n, c⟩ : Sl).p = some ⟨b2, 0, none⟩ → b2 = σ.next := by
    intro b2 n c hp; injection hp with hp; injection hp with hp; exact hp.symm
  rcases h.mem with ⟨h1, h2⟩ | ⟨hc, c, ch, h1, h2, h3, h4⟩
  · rw [h2]; simp only
    refine ⟨_, _, rfl, ?_, fun j c e' ch' hj hg _ => keep _ j c e' ch' hj hg, rfl, Nat.le_succ _, fun b2 hp hlt => ?_, fun b2 c2 e2 ch2 hp hg hlt => ?_, fun he => absurd (by rw [he]; rfl) hl2⟩
    · have := hfresh σ.next σ h.wf h.ext rfl hle (Nat.le_refl _)
      rw [h2] at this; exact this
    · have := newp _ _ _ hp; omega
    · have := newp _ _ _ hp
      subst this
      rw [push_get] at hg; injection hg with _ _ hg; omega
  · rw [h1]; simp only
    by_cases hcn : sl.c = sl.n
    · rw [if_pos hcn]
      refine ⟨_, _, rfl, hfresh σ.next σ h.wf h.ext rfl hle (Nat.le_refl _), fun j c e' ch' hj hg _ => keep _ j c e' ch' hj hg, rfl, Nat.le_succ _, fun b2 hp hlt => ?_, fun b2 c2 e2 ch2 hp hg hlt => ?_, fun he => absurd (by rw [he]; rfl) hl2⟩
      · have := newp _ _ _ hp; omega
      · have := newp _ _ _ hp
        subst this
        rw [push_get] at hg; injection hg with _ _ hg; omega
    · rw [if_neg hcn, if_neg (by omega), h4]
      simp only [if_true]
      have hch := h.wf.ids _ _ _ _ h4
      refine ⟨_, _, rfl, hfresh ch _ (h.wf.kill _ _ _) (h.ext.kill h.wf h2) rfl h2 (by show ch ≤ σ.next; omega), ?_, rfl, Nat.le_succ _, fun b2 hp hlt => ?_, fun b2 c2 e2 ch2 hp hg hlt => ?_, fun he => absurd (by rw [he]; rfl) hl2⟩
      · intro j c' e' ch' hj hg hne
        have h9 := hne c _ _ _ rfl h4
        have hjn : ¬ j = σ.next := by omega
        have h10 : ¬ (ch' = ch ∧ j ≠ σ.next ∧ (sl.n * k < c'.length ∨ sl.n * k = 0)) := fun hx => h9 hx.1.symm
        show (if j = σ.next then _ else _) = _
        rw [if_neg hjn]
        show (match σ.get j with
          | .cells c e ch' => if ch' = ch ∧ j ≠ σ.next ∧ (sl.n * k < c.length ∨ sl.n * k = 0) then AObj.dead else .cells c e ch'
          | o => o) = _
        rw [hg]
        simp only
        rw [if_neg h10]
      · have := newp _ _ _ hp; omega
      · have := newp _ _ _ hp
        subst this
        have : ((σ.kill ch σ.next (sl.n * k)).push (.cells ((l ++ l2).flatMap enc) e ch)).get σ.next = .cells ((l ++ l2).flatMap enc) e ch := push_get (σ := σ.kill ch σ.next (sl.n * k))
        rw [this] at hg; injection hg with _ _ hg; subst hg
        exact ⟨c, _, _, rfl, h4⟩
def encU (c : UInt8) : List Value := [Value.int .u8 c.toNat]
theorem encU_len (c : UInt8) : (encU c).length = 1 := rfl
theorem cells_enc (s : ByteArray) : cellsOfBytes s = s.data.toList.flatMap encU := by
  unfold cellsOfBytes encU
  generalize s.data.toList = l
  induction l with
  | nil => rfl
  | cons a l ih => simp [ih]
theorem bytes_enc : ∀ l : List UInt8, bytesOfCells (l.flatMap encU) = some l := by
  intro l
  induction l with
  | nil => rfl
  | cons c l ih =>
    simp only [List.flatMap_cons, encU, List.singleton_append, bytesOfCells]
    rw [ih]
    simp
end Go.Am
