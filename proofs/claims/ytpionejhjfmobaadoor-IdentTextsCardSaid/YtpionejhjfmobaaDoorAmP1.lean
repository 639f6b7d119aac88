/- AmP1 -/
import Derived.Test.YtpionejhjfmobaaDoorAmY
set_option linter.unusedVariables false
set_option linter.unusedSimpArgs false
namespace Go.Am
/-- The byte at a place, 0 behind the end. -/
def B (s : ByteArray) (i : Nat) : Int := if h : i < s.size then ((s[i]'h).toNat : Int) else 0
theorem B_range (s : ByteArray) (i : Nat) : 0 ≤ B s i ∧ B s i ≤ 255 := by
  unfold B
  split
  · have := (s[i]).toNat_lt; omega
  · omega
theorem idxS_eq {s : ByteArray} {i : Nat} (h : i < s.size) : idxS s i = some (B s i) := by
  unfold idxS B
  rw [dif_pos h, dif_pos ⟨by omega, by simpa using h⟩]
  rfl
theorem wrap64 {x : Int} (h : -9223372036854775808 ≤ x) (h' : x < 9223372036854775808) : IntKind.wrap .i64 x = x := by
  unfold IntKind.wrap; simp [IntKind.bits, IntKind.signed]; omega
theorem wrap8 {x : Int} (h : 0 ≤ x) (h' : x < 256) : IntKind.wrap .u8 x = x := by
  unfold IntKind.wrap; simp [IntKind.bits, IntKind.signed]; omega
def scanTo (p : Int → Bool) (s : ByteArray) (i : Nat) : Nat := if h : i < s.size then (if p (B s i) then scanTo p s (i + 1) else i) else i
termination_by s.size - i
theorem scanTo_ge (p : Int → Bool) (s : ByteArray) (i : Nat) : i ≤ scanTo p s i := by
  unfold scanTo
  split
  · split
    · have := scanTo_ge p s (i + 1); omega
    · omega
  · omega
termination_by s.size - i
theorem scanTo_le (p : Int → Bool) (s : ByteArray) (i : Nat) (h : i ≤ s.size) : scanTo p s i ≤ s.size := by
  unfold scanTo
  split
  · split
    · exact scanTo_le p s (i + 1) (by omega)
    · omega
  · omega
termination_by s.size - i
theorem loop_scanTo {p : Int → Bool} {s : ByteArray} {L : Int → Option (Int ⊕ Int)}
    (h1 : ∀ i : Nat, i < s.size → p (B s i) = true → L i = some (.inl ((i + 1 : Nat) : Int))) (h2 : ∀ i : Nat, i < s.size → p (B s i) = false → L i = some (.inr (i : Int))) (h3 : L (s.size : Int) = some (.inr (s.size : Int))) :
    ∀ i : Nat, i ≤ s.size → loopT L (i : Int) = some ((scanTo p s i : Nat) : Int) := by
  intro i hi
  rw [loopT_eq, scanTo]
  by_cases h : i < s.size
  · rw [dif_pos h]
    cases hp : p (B s i) with
    | true => rw [h1 i h hp]; exact loop_scanTo h1 h2 h3 (i + 1) h
    | false => rw [h2 i h hp]; rfl
  · have : i = s.size := by omega
    subst this
    rw [h3, dif_neg (by omega)]
termination_by i => s.size - i
end Go.Am
/- AmP2 -/
set_option linter.unusedVariables false
set_option linter.unusedSimpArgs false
namespace Go.Am
structure Wf (σ : AHeap) : Prop where
  base : σ.base ≤ σ.next
  ids : ∀ j c e ch, σ.get j = .cells c e ch → ch ≤ j ∧ j < σ.next
  maps : ∀ j es cl, σ.get j = .map es cl → j < σ.next
/-- What lay below is as it was. -/
structure Ext (σ τ : AHeap) : Prop where
  old : τ.old = σ.old
  next : σ.next ≤ τ.next
  same : ∀ j, j < σ.next → τ.get j = σ.get j
theorem Ext.refl (σ : AHeap) : Ext σ σ := ⟨rfl, Nat.le_refl _, fun _ _ => rfl⟩
theorem Ext.trans {a b c : AHeap} (h : Ext a b) (k : Ext b c) : Ext a c :=
  ⟨k.old.trans h.old, Nat.le_trans h.next k.next, fun j hj => (k.same j (Nat.lt_of_lt_of_le hj h.next)).trans (h.same j hj)⟩
theorem Wf.push {σ : AHeap} (h : Wf σ) {c : List Value} {e : TypeId} {ch : Nat} (hc : ch ≤ σ.next) : Wf (σ.push (.cells c e ch)) := by
  constructor
  · exact Nat.le_succ_of_le h.base
  · intro j c' e' ch' hg
    simp only [AHeap.push] at hg ⊢
    split at hg
    · rename_i hj; injection hg with h1 h2 h3; omega
    · have := h.ids j _ _ _ hg; omega
  · intro j es cl hg
    simp only [AHeap.push] at hg ⊢
    split at hg
    · cases hg
    · have := h.maps j _ _ hg; omega
theorem Ext.push {σ : AHeap} {o : AObj} : Ext σ (σ.push o) := by
  refine ⟨rfl, Nat.le_succ _, fun j hj => ?_⟩
  simp only [AHeap.push]; rw [if_neg (by omega)]
theorem push_get {σ : AHeap} {o : AObj} : (σ.push o).get σ.next = o := by simp [AHeap.push]
theorem ldN_own {σ : AHeap} {b : Nat} {c : List Value} {e : TypeId} {ch : Nat} (hb : σ.base ≤ b) (hg : σ.get b = .cells c e ch) {off n : Nat} (hn : off + n ≤ c.length) : ldN σ (some ⟨b, off, none⟩) n = some ((c.drop off).take n) := by
  simp only [ldN, Option.bind_some, rd]
  rw [if_neg (by simp), if_neg (by omega), hg]
  simp only
  rw [if_pos hn]
theorem stN_own {σ : AHeap} {b : Nat} {c vs : List Value} {e : TypeId} {ch : Nat} (h : Wf σ) (hb : σ.base ≤ b) (hg : σ.get b = .cells c e ch) {off : Nat} (hn : off + vs.length ≤ c.length) :
    ∃ τ, stN σ (some ⟨b, off, none⟩) vs = some τ ∧ Wf τ ∧ τ.get b = .cells (splice c off vs) e ch ∧ τ.old = σ.old ∧ τ.next = σ.next ∧ ∀ j, j < ch → τ.get j = σ.get j := by
  refine ⟨(σ.kill ch b off).put b (.cells (splice c off vs) e ch), ?_, ?_, ?_, rfl, rfl, ?_⟩
  · simp only [stN, Option.bind_some, wr]
    rw [if_neg (by simp), if_neg (by omega), hg]
    simp only
    rw [if_pos hn]
  · constructor
    · exact h.base
    · intro j c' e' ch' hj
      simp only [AHeap.put, AHeap.kill] at hj ⊢
      split at hj
      · rename_i hjb; injection hj with h1 h2 h3; have := h.ids b _ _ _ hg; subst hjb; omega
      · split at hj
        · rename_i c1 e1 ch1 hj1
          split at hj
          · cases hj
          · injection hj with h1 h2 h3; have := h.ids j _ _ _ hj1; omega
        · rename_i hno
          exact absurd hj (hno _ _ _)
    · intro j es cl hj
      simp only [AHeap.put, AHeap.kill] at hj ⊢
      split at hj
      · cases hj
      · split at hj
        · split at hj <;> cases hj
        · exact h.maps j _ _ hj
  · simp [AHeap.put]
  · intro j hj
    have hb' := (h.ids b _ _ _ hg).1
    simp only [AHeap.put, AHeap.kill]
    rw [if_neg (by omega)]
    split
    · rename_i c1 e1 ch1 hj1
      rw [if_neg (by have := h.ids j _ _ _ hj1; omega)]; exact hj1.symm
    · rfl
end Go.Am
/- AmP3 -/
set_option linter.unusedVariables false
set_option linter.unusedSimpArgs false
namespace Go.Am
theorem Ext.base_eq {σ τ : AHeap} (h : Ext σ τ) : τ.base = σ.base := by unfold AHeap.base; rw [h.old]
/-- A slice that holds a list, each element as k cells. -/
def LRd {α : Type} (enc : α → List Value) (σ : AHeap) (e : TypeId) (sl : Sl) (l : List α) : Prop :=
  sl.n = l.length ∧ ((l = [] ∧ sl = ⟨none, 0, 0⟩) ∨ ∃ b ch, sl.p = some ⟨b, 0, none⟩ ∧ σ.base ≤ b ∧ b < σ.next ∧ σ.get b = .cells (l.flatMap enc) e ch)
/-- One's own slice: made since σ0, and it may be appended to. -/
structure LOw {α : Type} (enc : α → List Value) (σ0 σ : AHeap) (e : TypeId) (sl : Sl) (l : List α) : Prop where
  wf : Wf σ
  ext : Ext σ0 σ
  n : sl.n = l.length
  mem : (l = [] ∧ sl = ⟨none, 0, 0⟩) ∨ ((sl.c = l.length ∨ sl.c = l.length + 1) ∧ ∃ b ch, sl.p = some ⟨b, 0, none⟩ ∧ σ0.next ≤ ch ∧ σ.base ≤ b ∧ σ.get b = .cells (l.flatMap enc) e ch)
theorem LOw.rd {α : Type} {enc : α → List Value} {σ0 σ : AHeap} {e : TypeId} {sl : Sl} {l : List α} (h : LOw enc σ0 σ e sl l) : LRd enc σ e sl l := by
  refine ⟨h.n, ?_⟩
  rcases h.mem with h1 | ⟨_, b, ch, h1, h2, h3, h4⟩
  · exact .inl h1
  · exact .inr ⟨b, ch, h1, h3, (h.wf.ids _ _ _ _ h4).2, h4⟩
theorem LRd.ext {α : Type} {enc : α → List Value} {σ τ : AHeap} {e : TypeId} {sl : Sl} {l : List α} (h : LRd enc σ e sl l) (x : Ext σ τ) : LRd enc τ e sl l := by
  refine ⟨h.1, ?_⟩
  rcases h.2 with h1 | ⟨b, ch, h1, h2, h3, h4⟩
  · exact .inl h1
  · exact .inr ⟨b, ch, h1, by rw [x.base_eq]; exact h2, Nat.lt_of_lt_of_le h3 x.next, by rw [x.same b h3]; exact h4⟩
theorem LOw.ext' {α : Type} {enc : α → List Value} {σ0 σ τ : AHeap} {e : TypeId} {sl : Sl} {l : List α} (h : LOw enc σ0 σ e sl l) (w : Wf τ) (x : Ext σ τ) : LOw enc σ0 τ e sl l := by
  refine ⟨w, h.ext.trans x, h.n, ?_⟩
  rcases h.mem with h1 | ⟨hc, b, ch, h1, h2, h3, h4⟩
  · exact .inl h1
  · exact .inr ⟨hc, b, ch, h1, h2, by rw [x.base_eq]; exact h3, by rw [x.same b (h.wf.ids _ _ _ _ h4).2]; exact h4⟩
theorem LOw.nil {α : Type} {enc : α → List Value} {σ0 σ : AHeap} {e : TypeId} (w : Wf σ) (x : Ext σ0 σ) : LOw enc σ0 σ e Sl.nil ([] : List α) :=
  ⟨w, x, rfl, .inl ⟨rfl, rfl⟩⟩
theorem Wf.kill {σ : AHeap} (h : Wf σ) (ch k l : Nat) : Wf (σ.kill ch k l) := by
  constructor
  · exact h.base
  · intro j c e ch' hj
    simp only [AHeap.kill] at hj
    split at hj
    · rename_i c1 e1 ch1 hj1
      split at hj
      · cases hj
      · injection hj with h1 h2 h3; have := h.ids j _ _ _ hj1; subst h3; exact this
    · rename_i hno; exact absurd hj (hno _ _ _)
  · intro j es cl hj
    simp only [AHeap.kill] at hj
    split at hj
    · split at hj <;> cases hj
    · exact h.maps j _ _ hj
theorem Ext.kill {σ0 σ : AHeap} (w : Wf σ) (h : Ext σ0 σ) {ch k l : Nat} (hc : σ0.next ≤ ch) : Ext σ0 (σ.kill ch k l) := by
  refine ⟨h.old, h.next, fun j hj => ?_⟩
  rw [← h.same j hj]
  simp only [AHeap.kill]
  split
  · rename_i c1 e1 ch1 hj1
    rw [if_neg (by have := w.ids j _ _ _ hj1; omega)]; exact hj1.symm
  · rfl
theorem flatMap_len {α : Type} {enc : α → List Value} {k : Nat} (hk : ∀ a, (enc a).length = k) : ∀ l : List α, (l.flatMap enc).length = l.length * k := by
  intro l
  induction l with
  | nil => simp
  | cons a l ih => simp only [List.flatMap_cons, List.length_append, hk, ih, List.length_cons, Nat.add_mul]; omega
theorem flatMap_at {α : Type} {enc : α → List Value} {k : Nat} (hk : ∀ a, (enc a).length = k) : ∀ (l : List α) (i : Nat) (hi : i < l.length), ((l.flatMap enc).drop (i * k)).take k = enc l[i] := by
  intro l
  induction l with
  | nil => intro i hi; simp at hi
  | cons a l ih =>
    intro i hi
    cases i with
    | zero => simp only [Nat.zero_mul, List.drop_zero, List.flatMap_cons, List.getElem_cons_zero]; rw [List.take_append_of_le_length (by rw [hk a]; omega), ← hk a, List.take_length]
    | succ i =>
      simp only [List.flatMap_cons, List.getElem_cons_succ]
      rw [← ih i (by simpa using hi), Nat.add_mul, Nat.one_mul]
      congr 1
      rw [List.drop_append]
      rw [List.drop_of_length_le (by rw [hk]; omega)]
      simp [hk]
/-- append of one element to one's own slice. -/
theorem ap_own {α : Type} {enc : α → List Value} {k b : Nat} {σ0 σ : AHeap} {e : TypeId} {sl : Sl} {l : List α} (hk : ∀ a, (enc a).length = k) (hk0 : 0 < k) (h : LOw enc σ0 σ e sl l) (a : α) (hb : (l.length + 1) * (b + 1) ≤ 2 ^ 46) :
    ∃ sl' σ', (apSl (newSl σ e 1 (enc a)).2 e k b sl (newSl σ e 1 (enc a)).1) = some (sl', σ') ∧ LOw enc σ0 σ' e sl' (l ++ [a]) ∧
      (∀ j c e' ch', j < σ.next → σ.get j = .cells c e' ch' → (∀ b2 c2 e2 ch2, sl.p = some ⟨b2, 0, none⟩ → σ.get b2 = .cells c2 e2 ch2 → ch2 ≠ ch') → σ'.get j = .cells c e' ch') ∧ σ'.old = σ.old ∧ σ.next ≤ σ'.next := by
  unfold newSl
  simp only
  generalize hτ : σ.push (.cells (enc a) e σ.next) = τ
  have wτ : Wf τ := by rw [← hτ]; exact h.wf.push (Nat.le_refl _)
  have xτ : Ext σ τ := by rw [← hτ]; exact Ext.push
  have gτ : τ.get σ.next = .cells (enc a) e σ.next := by rw [← hτ]; exact push_get
  have hn : τ.next = σ.next + 1 := by rw [← hτ]; rfl
  have hT := h.ext' wτ xτ
  have bτ : τ.base ≤ σ.next := by have := h.wf.base; rw [xτ.base_eq]; exact this
  have hnew : slCells τ k ⟨some ⟨σ.next, 0, none⟩, 1, 1⟩ = some (enc a) := by
    unfold slCells
    simp only
    rw [if_neg (by omega)]
    have := ldN_own (off := 0) (n := 1 * k) bτ gτ (by rw [hk]; omega)
    unfold ldN at this
    simp only [Option.bind_some] at this
    rw [this]
    simp [← hk a]
  unfold apSl
  rw [hnew, Option.bind_some]
  unfold apC
  have hold : slCells τ k sl = some (l.flatMap enc) := by
    unfold slCells
    rcases hT.mem with ⟨h1, h2⟩ | ⟨_, c, ch, h1, h2, h3, h4⟩
    · subst h1; subst h2; rfl
    · rw [h1]; simp only
      split
      · rename_i h0
        rw [h.n] at h0
        have hl : l.length = 0 := by rcases Nat.mul_eq_zero.1 h0 with h | h <;> omega
        rw [List.length_eq_zero_iff.1 hl]; rfl
      · have := ldN_own (off := 0) (n := sl.n * k) h3 h4 (by rw [flatMap_len hk, h.n]; omega)
        unfold ldN at this
        simp only [Option.bind_some] at this
        rw [this, h.n]
        rw [List.drop_zero, ← flatMap_len hk l, List.take_length]
  rw [hold, Option.bind_some]
  simp only [Nat.one_ne_zero, if_false]
  rw [if_pos ⟨by rw [h.n]; exact hb, by rw [flatMap_len hk, h.n], by rw [hk]; omega⟩]
  have hf : l.flatMap enc ++ enc a = (l ++ [a]).flatMap enc := by simp
  rw [hf]
  have hfresh : ∀ ch' τ', Wf τ' → Ext σ0 τ' → τ'.next = τ.next → σ0.next ≤ ch' → ch' ≤ τ'.next → LOw enc σ0 (τ'.push (.cells ((l ++ [a]).flatMap enc) e ch')) e ⟨some ⟨τ.next, 0, none⟩, sl.n + 1, sl.n + 1 + 1⟩ (l ++ [a]) := by
    intro ch' τ' w x hnx hch hch'
    refine ⟨w.push hch', x.trans Ext.push, by simp [h.n], .inr ⟨by simp [h.n], τ.next, ch', rfl, hch, ?_, ?_⟩⟩
    · have : (τ'.push (.cells ((l ++ [a]).flatMap enc) e ch')).base = τ'.base := Ext.push.base_eq
      rw [this, x.base_eq, ← hT.ext.base_eq]; omega
    · rw [← hnx]; exact push_get
  have hle : σ0.next ≤ τ.next := hT.ext.next
  have keep : ∀ (o : AObj) (j : Nat) c e' ch', j < σ.next → σ.get j = .cells c e' ch' → (τ.push o).get j = .cells c e' ch' := by
    intro o j c e' ch' hj hg
    have : (τ.push o).get j = τ.get j := by simp only [AHeap.push]; rw [if_neg (by omega)]
    rw [this, xτ.same j hj, hg]
  rcases hT.mem with ⟨h1, h2⟩ | ⟨hc, c, ch, h1, h2, h3, h4⟩
  · rw [h2]; simp only
    refine ⟨_, _, rfl, ?_, fun j c e' ch' hj hg _ => keep _ j c e' ch' hj hg, xτ.old, ?_⟩
    · have := hfresh τ.next τ wτ hT.ext rfl hle (Nat.le_refl _)
      rw [h2] at this; exact this
    · show σ.next ≤ τ.next + 1; omega
  · rw [h1]; simp only
    by_cases hcn : sl.c = sl.n
    · rw [if_pos hcn]
      refine ⟨_, _, rfl, hfresh τ.next τ wτ hT.ext rfl hle (Nat.le_refl _), fun j c e' ch' hj hg _ => keep _ j c e' ch' hj hg, xτ.old, ?_⟩
      show σ.next ≤ τ.next + 1; omega
    · rw [if_neg hcn, if_neg (by omega), h4]
      simp only [if_true]
      have hch := wτ.ids _ _ _ _ h4
      refine ⟨_, _, rfl, hfresh ch _ (wτ.kill _ _ _) (hT.ext.kill wτ h2) rfl h2 ?_, ?_, xτ.old, ?_⟩
      · show ch ≤ τ.next
        omega
      · intro j c' e' ch' hj hg hne
        have hcb : c < σ.next := by
          rcases h.mem with ⟨_, h5⟩ | ⟨_, c5, ch5, h5, h6, h7, h8⟩
          · rw [h5] at h1; cases h1
          · rw [h5] at h1; injection h1 with h1; injection h1 with h1; subst h1; exact (h.wf.ids _ _ _ _ h8).2
        have hgc : σ.get c = .cells (l.flatMap enc) e ch := by rw [← xτ.same c hcb]; exact h4
        have h9 := hne c _ _ _ rfl hgc
        have hjn : ¬ j = τ.next := by omega
        have h10 : ¬ (ch' = ch ∧ j ≠ τ.next ∧ (sl.n * k < c'.length ∨ sl.n * k = 0)) := fun hx => h9 hx.1.symm
        show (if j = τ.next then _ else _) = _
        rw [if_neg hjn]
        show (match τ.get j with
          | .cells c e ch' => if ch' = ch ∧ j ≠ τ.next ∧ (sl.n * k < c.length ∨ sl.n * k = 0) then AObj.dead else .cells c e ch'
          | o => o) = _
        rw [xτ.same j hj, hg]
        simp only
        rw [if_neg h10]
      · show σ.next ≤ τ.next + 1; omega
/-- An element of a slice. -/
theorem LRd.at {α : Type} {enc : α → List Value} {k : Nat} {σ : AHeap} {e : TypeId} {sl : Sl} {l : List α} (hk : ∀ a, (enc a).length = k) (h : LRd enc σ e sl l) {i : Nat} (hi : i < l.length) :
    ∃ b, iaSl sl k (i : Int) = some (some ⟨b, i * k, none⟩) ∧ ∀ j m, j + m ≤ k → ldN σ (some ⟨b, i * k + j, none⟩) m = some (((enc l[i]).drop j).take m) := by
  rcases h.2 with ⟨h1, _⟩ | ⟨b, ch, h1, h2, h3, h4⟩
  · subst h1; simp at hi
  · refine ⟨b, ?_, fun j m hj => ?_⟩
    · unfold iaSl
      rw [h1, Option.bind_some, if_pos ⟨rfl, by omega, by rw [h.1]; omega⟩]
      simp
    · have hl : i * k + k ≤ (l.flatMap enc).length := by
        rw [flatMap_len hk]
        calc i * k + k = (i + 1) * k := by rw [Nat.add_mul]; omega
          _ ≤ l.length * k := Nat.mul_le_mul_right k hi
      rw [ldN_own h2 h4 (by omega)]
      rw [← flatMap_at hk l i hi]
      rw [List.drop_take, List.drop_drop, List.take_take, Nat.min_eq_left (by omega)]
theorem offP_at {b o n : Nat} : offP (some ⟨b, o, none⟩) n = some (some ⟨b, o + n, none⟩) := by simp [offP]
end Go.Am
/- AmP4 -/
set_option linter.unusedVariables false
set_option linter.unusedSimpArgs false
namespace Go.Am
theorem OptW.some_iff {α : Type} {a : α} {C : α → Prop} : OptW (some a) C ↔ C a := ⟨fun h => h.sm, fun h => ⟨a, rfl, h⟩⟩
theorem OptW.bdI {α β : Type} {o : Option α} {k : α → Option β} {C : α → Prop} {R : β → Prop} (h : OptW o C) (hk : ∀ a, C a → OptW (k a) R) : OptW (Go.Am.bd o k) R := by
  obtain ⟨a, ha, hc⟩ := h
  rw [ha]; exact hk a hc
theorem OptW.bifI {α : Type} {b : Bool} {x y : Option α} {R : α → Prop} (h1 : b = true → OptW x R) (h2 : b = false → OptW y R) : OptW (bif b then x else y) R := by
  cases b with
  | true => exact h1 rfl
  | false => exact h2 rfl
/-- What a turn of a loop gives. -/
def Turn {S T : Type} (I : S → Prop) (C : T → Prop) : S ⊕ T → Prop
  | .inl y => I y
  | .inr b => C b
theorem OptW.loopI {S T : Type} {L : S → Option (S ⊕ T)} (I : S → Prop) (m : S → Nat) {C : T → Prop} (hs : ∀ y, I y → OptW (L y) (Turn (fun z => I z ∧ m z < m y) C)) : ∀ x, I x → OptW (loopT L x) C := by
  have key : ∀ n x, m x < n → I x → OptW (loopT L x) C := by
    intro n
    induction n with
    | zero => intro x h; omega
    | succ n ih =>
      intro x hm hI
      obtain ⟨r, hr, ht⟩ := hs x hI
      rw [loopT_eq, hr]
      cases r with
      | inl y => exact ih y (by have := ht.2; omega) ht.1
      | inr b => exact ⟨b, rfl, ht⟩
  exact fun x hx => key (m x + 1) x (Nat.lt_succ_self _) hx
theorem OptW.eq {α : Type} {x : Option α} {a : α} (h : OptW x fun b => b = a) : x = some a := by
  obtain ⟨b, hb, rfl⟩ := h; exact hb
theorem OptW.and {α : Type} {x : Option α} {C D : α → Prop} (h : OptW x C) (k : OptW x D) : OptW x fun a => C a ∧ D a := by
  obtain ⟨a, ha, hc⟩ := h
  obtain ⟨b, hb, hd⟩ := k
  rw [ha] at hb; injection hb with hb; subst hb
  exact ⟨a, ha, hc, hd⟩

theorem Wf.start (w : World) : Wf (AHeap.start w) := by
  refine ⟨Nat.le_refl _, ?_, ?_⟩
  · intro j c e ch h; cases h
  · intro j es cl h; cases h
end Go.Am
