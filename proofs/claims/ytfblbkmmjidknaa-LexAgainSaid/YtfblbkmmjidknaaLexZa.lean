/- LexZa -/
import Derived.Test.YtfblbkmmjidknaaLexZ
import Derived.Test.YtfblbkmmjidknaaLexW
set_option linter.unusedVariables false
set_option linter.unusedSimpArgs false
namespace Go.Am
/-- A lead or a tail in a source. -/
theorem lead_back {s : ByteArray} {i0 n : Nat} (hn : n ≤ s.size) (h0 : i0 ≤ n) : ∀ (m j : Nat) (c : Bool), n - j = m → i0 ≤ j → j ≤ n → leadS (s.extract i0 n) c (j - i0) = ((s.extract i0 n).size, false) →
    leadS s c j = leadS s (flagS (s.extract i0 n) c (j - i0)) n := by
  have hz : (s.extract i0 n).size = n - i0 := size_extract h0 hn
  intro m
  induction m with
  | zero =>
    intro j c hm hj hjn h
    have : j = n := by omega
    subst this
    rw [flagS, dif_neg (by omega)]
  | succ m ih =>
    intro j c hm hj hjn h
    have hB := B_ex (s := s) (n := i0) (e := n) hj (by omega) hn
    rw [leadS, dif_pos (by omega), hB] at h
    rw [flagS, dif_pos (by omega), hB]
    rw [leadS, dif_pos (by omega)]
    have hs : j + 1 - i0 = j - i0 + 1 := by omega
    cases c with
    | true =>
      rw [if_pos rfl] at h ⊢
      split at h
      · rename_i ha
        rw [if_pos ha]
        have := ih (j + 1) _ (by omega) (by omega) (by omega) (by rw [hs]; exact h)
        rw [hs] at this
        have hf : (if B s j = 35 then true else if B s j = 10 then false else true) = decide (B s j ≠ 10) := by
          by_cases h1 : B s j = 35
          · rw [h1]; rfl
          · by_cases h2 : B s j = 10 <;> simp [h1, h2]
        rw [hf]; exact this
      · injection h with _ h; cases h
    | false =>
      rw [if_neg Bool.false_ne_true] at h ⊢
      by_cases h35 : B s j = 35
      · rw [if_pos h35] at h ⊢
        rw [if_pos h35]
        have := ih (j + 1) _ (by omega) (by omega) (by omega) (by rw [hs]; exact h)
        rw [hs] at this; exact this
      · rw [if_neg h35] at h ⊢
        rw [if_neg h35]
        have hf : (if B s j = 10 then false else false) = false := by split <;> rfl
        rw [hf]
        by_cases hw : whiteB (B s j) = true
        · rw [if_pos hw] at h ⊢
          have := ih (j + 1) _ (by omega) (by omega) (by omega) (by rw [hs]; exact h)
          rw [hs] at this; exact this
        · rw [if_neg hw] at h
          injection h with h _; omega
theorem triv_iff {s : ByteArray} {e : Bool} (h : trivS s e = true) : leadS s false 0 = (s.size, false) ∧ (e = false → flagS s false 0 = false) := by
  unfold trivS at h
  have hle := leadS_le s false 0 (by omega)
  split at h
  · cases h
  · rename_i hx
    simp only [not_or] at hx
    constructor
    · apply Prod.ext
      · show (leadS s false 0).1 = s.size; omega
      · simpa using hx.1
    · intro he; subst he; simpa using h
/-- The first byte of white space or of a comment. -/
theorem triv_first {s : ByteArray} {e : Bool} (h : trivS s e = true) (h0 : 0 < s.size) : B s 0 = 9 ∨ B s 0 = 10 ∨ B s 0 = 13 ∨ B s 0 = 32 ∨ B s 0 = 35 := by
  have h1 := (triv_iff h).1
  rw [leadS, dif_pos h0, if_neg Bool.false_ne_true] at h1
  by_cases h35 : B s 0 = 35
  · simp [h35]
  · rw [if_neg h35] at h1
    by_cases hw : whiteB (B s 0) = true
    · unfold whiteB at hw
      simp only [Bool.or_eq_true, decide_eq_true_eq] at hw
      omega
    · rw [if_neg hw] at h1
      injection h1 with h1 _; omega
theorem glue_white {f c : Int} {n : Nat} (h : c = 9 ∨ c = 10 ∨ c = 13 ∨ c = 32 ∨ c = 35) : ¬ glue f n c := by
  rintro (⟨_, h1 | h1⟩ | ⟨_, h1⟩ | ⟨_, _, h1⟩)
  · rcases h with rfl | rfl | rfl | rfl | rfl <;> revert h1 <;> decide
  · omega
  · rcases h with rfl | rfl | rfl | rfl | rfl <;> revert h1 <;> decide
  · omega
/-- What a text is that is a token. -/
theorem class_iff {a : ByteArray} {k : Int} (h : classS a = k) (hk : k ≠ 0) : 0 < a.size ∧ ∃ w, tokS a 0 = (k, (a.size : Int), w, 0) := by
  unfold classS at h
  split at h
  · exact absurd h.symm hk
  · rename_i h0
    split at h
    · exact absurd h.symm hk
    · rename_i h1
      simp only [not_or, ne_eq, Classical.not_not] at h1
      refine ⟨by omega, (tokS a 0).2.2.1, ?_⟩
      rw [← h, ← h1.2, ← h1.1]
theorem tok_first {a : ByteArray} {k : Int} (h : classS a = k) (hk : k ≠ 0) : whiteB (B a 0) = false ∧ B a 0 ≠ 35 ∧ B a 0 ≠ 46 := by
  obtain ⟨h0, w, ht⟩ := class_iff h hk
  have key : ∀ c : Int, B a 0 = c → (c = 9 ∨ c = 10 ∨ c = 13 ∨ c = 32 ∨ c = 35) → False := by
    intro c hc hx
    rw [white_tok (by rw [hc]; exact hx)] at ht
    injection ht with ht _; exact hk ht.symm
  refine ⟨?_, fun h => key 35 h (by omega), fun h46 => ?_⟩
  · cases hw : whiteB (B a 0) with
    | false => rfl
    | true =>
      exfalso
      unfold whiteB at hw
      simp only [Bool.or_eq_true, decide_eq_true_eq] at hw
      exact key _ rfl (by omega)
  · have : tokS a 0 = (0, 0, 0, 2) := by unfold tokS; rw [h46]; rfl
    rw [this] at ht
    injection ht with ht _; exact hk ht.symm
/-- A token that ends ahead of a byte does not take it. -/
theorem no_glue {s : ByteArray} {e : Nat} {k w : Int} (he0 : 0 < e) (he : e < s.size) (h : tokS s 0 = (k, (e : Int), w, 0)) (h46 : B s e ≠ 46) : ¬ glue (B s 0) e (B s e) := by
  rintro (⟨hl, hi | hi⟩ | ⟨hd, hi⟩ | ⟨h61, hn, hi⟩)
  · have h' := h
    unfold tokS at h'
    rw [if_pos hl] at h'
    unfold wordT wordS at h'
    split at h'
    · rename_i hq
      split at h'
      · injection h' with _ h'; injection h' with _ h'; injection h' with _ h'; cases h'
      · split at h'
        · injection h' with _ h'; injection h' with _ h'; injection h' with _ h'; cases h'
        · simp only [Bool.and_eq_true, decide_eq_true_eq] at hq
          have st := scanTo_stopped innerB s _ (scanTo innerB s 0 + 1) rfl (by omega)
          have hE : scanTo innerB s (scanTo innerB s 0 + 1) = e := by
            split at h' <;> (injection h' with _ h'; injection h' with h' _; omega)
          rw [hE] at st
          rcases st with h1 | h1
          · omega
          · rw [hi] at h1; cases h1
    · have st := scanTo_stopped innerB s _ 0 rfl (by omega)
      have hE : scanTo innerB s 0 = e := by
        split at h'
        · injection h' with _ h'; injection h' with h' _; omega
        · split at h'
          · injection h' with _ h'; injection h' with _ h'; injection h' with _ h'; cases h'
          · split at h' <;> (injection h' with _ h'; injection h' with h' _; omega)
      rw [hE] at st
      rcases st with h1 | h1
      · omega
      · rw [hi] at h1; cases h1
  · exact h46 hi
  · have hl : ¬ letterB (B s 0) = true := by rw [digit_not_letter hd]; exact Bool.false_ne_true
    have h' := h
    unfold tokS at h'
    rw [if_neg hl, if_pos hd] at h'
    split at h'
    · injection h' with _ h'; injection h' with _ h'; injection h' with _ h'; cases h'
    · split at h'
      · injection h' with _ h'; injection h' with _ h'; injection h' with _ h'; cases h'
      · injection h' with _ h'; injection h' with h' _
        have st := scanTo_stopped digitB s _ 0 rfl (by omega)
        rw [show scanTo digitB s 0 = e by omega] at st
        rcases st with h1 | h1
        · omega
        · rw [hi] at h1; cases h1
  · have h' := h
    unfold tokS at h'
    rw [h61] at h'
    rw [if_neg (by decide), if_neg (by decide), if_neg (by decide), if_pos ⟨rfl, by omega, by rw [hn] at hi; exact hi⟩] at h'
    injection h' with _ h'; injection h' with h' _
    omega
theorem glue_len {f c : Int} {n m : Nat} (h : n = m) : glue f n c ↔ glue f m c := by rw [h]
theorem bytes_size' (s : ByteArray) : s.data.toList.length = s.size := rfl
/-- Bytes of a part. -/
theorem part_eq {s : ByteArray} {i : Nat} {a : ByteArray} {rest : List UInt8} (h : s.data.toList.drop i = a.data.toList ++ rest) (hi : i ≤ s.size) : i + a.size ≤ s.size ∧ s.extract i (i + a.size) = a ∧ s.data.toList.drop (i + a.size) = rest := by
  have hl := congrArg List.length h
  simp only [List.length_drop, List.length_append, bytes_size'] at hl
  refine ⟨by omega, ?_, ?_⟩
  · apply ByteArray.ext
    apply Array.ext'
    rw [ByteArray.data_extract, Array.toList_extract, List.extract_eq_take_drop, show i + a.size - i = a.size by omega, h]
    rw [← bytes_size' a, List.take_left]
  · rw [← List.drop_drop, h, ← bytes_size' a, List.drop_left]
end Go.Am
/- LexZb -/
set_option linter.unusedVariables false
set_option linter.unusedSimpArgs false
namespace Go.Am
/-- No two tokens without a lead between them fuse. -/
def Apart (t u : Tok) : Prop := u.2.1.size = 0 → ¬ glue (B t.2.2 0) t.2.2.size (B u.2.2 0)
def Chain : List Tok → Prop
  | [] => True
  | [_] => True
  | t :: u :: L => Apart t u ∧ Chain (u :: L)
theorem B_of_drop {s : ByteArray} {i : Nat} {a : ByteArray} {rest : List UInt8} (h : s.data.toList.drop i = a.data.toList ++ rest) (hi : i ≤ s.size) (h0 : 0 < a.size) : B s i = B a 0 := by
  obtain ⟨h1, h2, _⟩ := part_eq h hi
  have := B_ex (s := s) (n := i) (e := i + a.size) (a := i) (Nat.le_refl _) (by omega) h1
  rw [Nat.sub_self, h2] at this
  exact this.symm
theorem scan_joined {s tail : ByteArray} (htail : trivS tail true = true) : ∀ (L : List Tok) (i : Nat) (acc : List Tok), i ≤ s.size → s.data.toList.drop i = joinL L ++ tail.data.toList → (∀ t ∈ L, TokOk t) → Chain L → scanS s i acc = (acc ++ L, tail, 0, 0) := by
  intro L
  induction L with
  | nil =>
    intro i acc hi hs _ _
    have hs' : s.data.toList.drop i = tail.data.toList ++ [] := by simpa [joinL] using hs
    obtain ⟨h1, h2, h3⟩ := part_eq hs' hi
    have hend : i + tail.size = s.size := by
      have := congrArg List.length h3
      simp only [List.length_drop, bytes_size', List.length_nil] at this
      omega
    rw [hend] at h2
    have hl : leadS s false i = (s.size, false) := by
      have hx : s.extract i s.size = tail := h2
      have := lead_back (s := s) (i0 := i) (n := s.size) (Nat.le_refl _) hi _ i false rfl (Nat.le_refl _) hi (by rw [Nat.sub_self, hx]; exact (triv_iff htail).1)
      rw [this, leadS_end (by omega)]
    rw [scanS_end hl, h2]
    simp
  | cons t L ih =>
    intro i acc hi hs hok hch
    obtain ⟨k, lead, text⟩ := t
    obtain ⟨k0, kc, kt⟩ := hok _ (List.mem_cons_self ..)
    simp only at k0 kc kt
    have hj : joinL ((k, lead, text) :: L) ++ tail.data.toList = lead.data.toList ++ (text.data.toList ++ (joinL L ++ tail.data.toList)) := by
      simp only [joinL, List.flatMap_cons, List.append_assoc]
    rw [hj] at hs
    obtain ⟨a1, a2, a3⟩ := part_eq hs hi
    obtain ⟨b1, b2, b3⟩ := part_eq a3 a1
    obtain ⟨t0, w, ht⟩ := class_iff kc k0
    obtain ⟨f1, f2, f3⟩ := tok_first kc k0
    have hB := B_of_drop a3 a1 t0
    have hl : leadS s false i = (i + lead.size, false) := by
      have h1 := triv_iff kt
      have := lead_back (s := s) (i0 := i) (n := i + lead.size) a1 (by omega) _ i false rfl (Nat.le_refl _) (by omega) (by rw [Nat.sub_self, a2]; exact h1.1)
      rw [Nat.sub_self, a2, h1.2 rfl] at this
      rw [this]
      exact leadS_stop (by omega) (by rw [hB]; exact f2) (by rw [hB]; exact f1)
    have hg : i + lead.size + text.size = s.size ∨ ¬ glue (B s (i + lead.size)) (i + lead.size + text.size - (i + lead.size)) (B s (i + lead.size + text.size)) := by
      rw [hB, show i + lead.size + text.size - (i + lead.size) = text.size by omega]
      cases L with
      | nil =>
        by_cases hz : tail.size = 0
        · left
          have := congrArg List.length b3
          simp only [joinL, List.flatMap_nil, List.nil_append, List.length_drop, bytes_size'] at this
          omega
        · right
          have hs2 : s.data.toList.drop (i + lead.size + text.size) = tail.data.toList ++ [] := by simpa [joinL] using b3
          rw [B_of_drop hs2 b1 (by omega)]
          exact glue_white (triv_first htail (by omega))
      | cons u L =>
        obtain ⟨k2, lead2, text2⟩ := u
        right
        obtain ⟨u0, uc, ut⟩ := hok (k2, lead2, text2) (List.mem_cons_of_mem _ (List.mem_cons_self ..))
        simp only at u0 uc ut
        have hj2 : joinL ((k2, lead2, text2) :: L) ++ tail.data.toList = lead2.data.toList ++ (text2.data.toList ++ (joinL L ++ tail.data.toList)) := by
          simp only [joinL, List.flatMap_cons, List.append_assoc]
        rw [hj2] at b3
        by_cases hz : lead2.size = 0
        · have hd : lead2.data.toList = [] := List.eq_nil_of_length_eq_zero hz
          rw [hd, List.nil_append] at b3
          rw [B_of_drop b3 b1 (class_iff uc u0).1]
          exact hch.1 hz
        · rw [B_of_drop b3 b1 (by omega)]
          exact glue_white (triv_first ut (by omega))
    have hts : tokS s (i + lead.size) = (k, ((i + lead.size + text.size : Nat) : Int), 0, 0) := by
      refine tokS_back (w := w) (by omega) b1 hg ?_
      rw [b2, ht, show i + lead.size + text.size - (i + lead.size) = text.size by omega]
    rw [scanS_tok hl (by omega) hts (by omega), a2, b2]
    have hch2 : Chain L := by
      cases L with
      | nil => trivial
      | cons u L => exact hch.2
    rw [ih (i + lead.size + text.size) _ b1 b3 (fun t ht => hok t (List.mem_cons_of_mem _ ht)) hch2]
    simp
/-- What lex.Fuses says where it says no. -/
theorem Fuses_no {a b : ByteArray} {k k2 : Int} (ha : classS a = k) (hk : k ≠ 0) (hb : classS b = k2) (hk2 : k2 ≠ 0) (hs : a.size + b.size < 2 ^ 62) {σ : AHeap} (hσ : Wf σ) : OptW (G_lex_Fuses a b σ) fun r => (r.1 = false → ¬ glue (B a 0) a.size (B b 0)) ∧ Wf r.2 ∧ Ext σ r.2 := by
  unfold G_lex_Fuses
  obtain ⟨a0, wa, ta⟩ := class_iff ha hk
  obtain ⟨b0, wb, tb⟩ := class_iff hb hk2
  obtain ⟨f1, f2, f3⟩ := tok_first ha hk
  obtain ⟨g1, g2, g3⟩ := tok_first hb hk2
  rw [lex_Class (by omega), ha, bd_some]
  simp only [lt_eq, decide_eq_false hk, Bool.not_false, cond_true]
  rw [lex_Class (by omega), hb, bd_some]
  simp only [decide_eq_false hk2, Bool.or_self, cond_false]
  rw [addS_eq' hs, bd_some]
  have hsz : (a ++ b).size = a.size + b.size := ByteArray.size_append
  refine OptW.bdI (lex_Scan (by omega) hσ) ?_
  rintro ⟨sl, tl, at', er, τ⟩ ⟨L, h1, h2, h3⟩
  simp only at h1 h2 ⊢
  have hn := h2.n
  simp only [hn]
  by_cases hc : er = 0 ∧ L.length = 2
  · obtain ⟨rfl, hL⟩ := hc
    rw [decide_eq_false (by simp), decide_eq_false (show ¬ ((L.length : Int) ≠ 2) by omega)]
    simp only [Bool.or_self, Bool.false_or]
    by_cases ht : tl = (⟨#[]⟩ : ByteArray)
    · rw [decide_eq_false (by simpa using ht)]
      obtain ⟨u0, u1, rfl⟩ : ∃ u0 u1, L = [u0, u1] := by
        match L, hL with
        | [p, q], _ => exact ⟨p, q, rfl⟩
      obtain ⟨q0, i0, _, _, x0⟩ := tok_i h2.rd (i := 0) (by simp)
      obtain ⟨q1, i1, _, y1, x1⟩ := tok_i h2.rd (i := 1) (by simp)
      have i0' : iaSl sl 3 0 = some (some ⟨q0, 0 * 3, none⟩) := i0
      have i1' : iaSl sl 3 1 = some (some ⟨q1, 1 * 3, none⟩) := i1
      simp only [Bool.not_false, cond_true, i0', bd_some, offP_at, x0, List.getElem_cons_zero, Bool.false_or]
      by_cases hx : u0.2.2 = a
      · -- the first token is the first text
        have hno : ¬ glue (B a 0) a.size (B b 0) := by
          have hA := h1.symm
          unfold scanA at hA
          split at hA
          · injection hA with hA _; cases hA
          · have hB0 : B (a ++ b) 0 = B a 0 := B_append_left a0
            have hBe : B (a ++ b) a.size = B b 0 := by rw [B_append_right (Nat.le_refl _), Nat.sub_self]
            have hl : leadS (a ++ b) false 0 = (0, false) := leadS_stop (by omega) (by rw [hB0]; exact f2) (by rw [hB0]; exact f1)
            rw [scanS, hl] at hA
            simp only [Bool.false_eq_true, if_false] at hA
            rw [if_neg (by omega)] at hA
            have hend := tokS_end (s := a ++ b) (i := 0) (by omega)
            generalize htk : tokS (a ++ b) 0 = tk at hA hend
            obtain ⟨kk, ee, ww, rr⟩ := tk
            simp only at hA hend
            by_cases hr : rr = 0
            · subst hr
              obtain ⟨e', rfl, g1', g2'⟩ := hend rfl
              rw [if_neg (by simp), dif_pos ⟨by simp; omega, by omega⟩] at hA
              simp only [Int.toNat_natCast, List.nil_append] at hA
              obtain ⟨L2, p1, _, _, _⟩ := (scanS_keeps _ e' _ rfl g2' _ _ _ _ hA).1 rfl
              simp only [List.singleton_append, List.cons.injEq] at p1
              have he : e' = a.size := by
                have := congrArg (fun t : Tok => t.2.2.size) p1.1
                simp only [hx, size_extract (Nat.zero_le _) g2'] at this
                omega
              rw [he] at htk
              have := no_glue a0 (by omega) htk (by rw [hBe]; exact g3)
              rw [hB0, hBe] at this
              exact this
            · rw [if_pos hr] at hA
              injection hA with hA _; cases hA
        rw [decide_eq_false (by simpa using hx)]
        simp only [Bool.or_self, Bool.not_false, cond_true, i1', bd_some, offP_at, x1, Bool.false_or]
        by_cases hy : u1.2.2 = b
        · rw [decide_eq_false (by simpa using hy)]
          simp only [Bool.not_false, cond_true, i1', bd_some, offP_at, y1, Bool.false_or]
          exact OptW.some_iff.2 ⟨fun _ => hno, h2.wf, h2.ext⟩
        · rw [decide_eq_true (by simpa using hy)]
          simp only [Bool.not_true, cond_false, bd_some, Bool.true_or]
          exact OptW.some_iff.2 ⟨fun h => (by cases h), h2.wf, h2.ext⟩
      · rw [decide_eq_true (by simpa using hx)]
        simp only [Bool.or_true, Bool.not_true, cond_false, bd_some, Bool.true_or]
        exact OptW.some_iff.2 ⟨fun h => (by cases h), h2.wf, h2.ext⟩
    · rw [decide_eq_true (by simpa using ht)]
      simp only [Bool.or_true, Bool.not_true, cond_false, bd_some, Bool.true_or]
      exact OptW.some_iff.2 ⟨fun h => (by cases h), h2.wf, h2.ext⟩
  · have : (decide (er ≠ 0) || decide ((L.length : Int) ≠ 2)) = true := by simp; omega
    rw [this]
    simp only [Bool.true_or, Bool.not_true, cond_false, bd_some]
    exact OptW.some_iff.2 ⟨fun h => (by cases h), h2.wf, h2.ext⟩
end Go.Am
/- LexZc -/
set_option linter.unusedVariables false
set_option linter.unusedSimpArgs false
namespace Go.Am
theorem chain_of : ∀ L : List Tok, (∀ (j : Nat) (h : j + 1 < L.length), Apart (L[j]'(by omega)) L[j + 1]) → Chain L := by
  intro L
  induction L with
  | nil => intro _; trivial
  | cons t L ih =>
    intro h
    cases L with
    | nil => trivial
    | cons u L => exact ⟨h 0 (by simp), ih (fun j hj => h (j + 1) (by simp at hj ⊢; omega))⟩
theorem Same_trueA {σ : AHeap} {a b : Sl} {L : List Tok} (ha : LAt encTok σ 3 a L) (hb : LAt encTok σ 3 b L) (hL : L.length < 2 ^ 62) : G_semvcsref01_Same a b σ = some true := by
  unfold G_semvcsref01_Same
  simp only [lt_eq, ha.1, hb.1]
  simp only [ne_eq, not_true_eq_false, decide_false, cond_false]
  refine OptW.eq (OptW.bdI (C := fun r => r = .inl ()) ?_ (fun r hr => by subst hr; exact OptW.some_iff.2 rfl))
  refine OptW.loopI (fun y => ∃ i : Nat, y = (i : Int) ∧ i ≤ L.length) (fun y => L.length - y.toNat) ?_ _ ⟨0, rfl, by omega⟩
  rintro _ ⟨i, rfl, hi⟩
  unfold G_semvcsref01_Same_l1
  simp only [lt_eq, ha.1]
  by_cases h : i < L.length
  · rw [decide_eq_true (by omega)]
    obtain ⟨b1, o1, i1, e1⟩ := ha.2 i h
    obtain ⟨b2, o2, i2, e2⟩ := hb.2 i h
    simp only [cond_true]
    rw [i1, bd_some, ld_tok e1, bd_some, i2, bd_some, ld_tok e2, bd_some]
    rw [wrap64 (by omega) (by omega)]
    simp only [decide_true, Bool.and_true, Bool.not_true, cond_false]
    exact OptW.some_iff.2 ⟨⟨i + 1, by simp, h⟩, by simp; omega⟩
  · rw [decide_eq_false (by omega)]
    exact OptW.some_iff.2 rfl
theorem LexAgain_true {l : Sl} {L : List Tok} {tail : ByteArray} {σ : AHeap} (hσ : Wf σ) (hL : ∀ τ, Ext σ τ → LAt encTok τ 3 l L) (hn : L.length < 2 ^ 62) (htl : tail.size < 2 ^ 62) (hs0 : L.length ≤ 100 → (joinL L).length + tail.size ≤ 2 ^ 60) : OptW (G_semvcslaw01_LexAgain l tail σ) fun r => r.1 = true := by
  unfold G_semvcslaw01_LexAgain
  have hn0 : l.n = L.length := (hL σ (Ext.refl σ)).1
  simp only [lt_eq, hn0]
  have aw : ∀ τ, Wf τ → OptW (bd (G_semvcslaw01_awake τ) fun (x14, σ15) => some (x14, σ15)) fun r => r.1 = true := fun τ w => OptW.bdI (awake_true w) (fun r hr => OptW.some_iff.2 hr.1)
  have aw2 : ∀ τ, Wf τ → Ext σ τ → OptW (bd (G_semvcslaw01_awake τ) fun (x60, σ61) => some (Sum.inr (α := Int × AHeap) (Sum.inr (α := AHeap) (x60, σ61)))) (Turn (fun z : Int × AHeap => (∃ i : Nat, z.1 = (i : Int) ∧ i ≤ L.length ∧ Wf z.2 ∧ Ext σ z.2 ∧ (∀ j (h : j < L.length), j < i → TokOk L[j]) ∧ ∀ j (h : j + 1 < L.length), j + 1 < i → Apart (L[j]'(by omega)) L[j + 1])
      ∧ True) (fun r : AHeap ⊕ (Bool × AHeap) => match r with
      | .inl τ => Wf τ ∧ Ext σ τ ∧ (∀ t ∈ L, TokOk t) ∧ Chain L
      | .inr b => b.1 = true)) := fun τ w x => OptW.bdI (awake_true w) (fun r hr => OptW.some_iff.2 hr.1)
  by_cases hg : 100 < (L.length : Int)
  · rw [decide_eq_true hg]
    simp only [Bool.not_true, cond_false, bd_some, Bool.true_or, cond_true]
    exact aw σ hσ
  have hs := hs0 (by omega)
  rw [decide_eq_false hg]
  simp only [Bool.not_false, cond_true]
  rw [lex_Trivia (by omega), bd_some]
  cases ht : trivS tail true with
  | false =>
    simp only [Bool.not_false, Bool.or_true, Bool.not_true, cond_false, bd_some, Bool.true_or, cond_true]
    exact aw σ hσ
  | true =>
    simp only [Bool.not_true, Bool.or_self, Bool.not_false, cond_true]
    rw [ref_Join (hL σ (Ext.refl σ)) hn (by omega), bd_some]
    have hjs : (⟨(joinL L ++ tail.data.toList).toArray⟩ : ByteArray).size = (joinL L).length + tail.size := by rw [bytes_sz]; simp only [List.length_append, bytes_size']
    rw [hjs]
    by_cases hz : 4096 < (((joinL L).length + tail.size : Nat) : Int)
    · rw [decide_eq_true hz]
      simp only [Bool.or_true, cond_true]
      exact aw σ hσ
    rw [decide_eq_false hz]
    simp only [Bool.or_self, cond_false]
    refine OptW.bdI (C := fun r => match r with
      | .inl τ => Wf τ ∧ Ext σ τ ∧ (∀ t ∈ L, TokOk t) ∧ Chain L
      | .inr b => b.1 = true) ?_ ?_
    · refine OptW.loopI (fun y => ∃ i : Nat, y.1 = (i : Int) ∧ i ≤ L.length ∧ Wf y.2 ∧ Ext σ y.2 ∧ (∀ j (h : j < L.length), j < i → TokOk L[j]) ∧ ∀ j (h : j + 1 < L.length), j + 1 < i → Apart (L[j]'(by omega)) L[j + 1]) (fun y => L.length - y.1.toNat) ?_ _ ⟨0, rfl, by omega, hσ, Ext.refl σ, fun j _ h => by omega, fun j _ h => by omega⟩
      rintro ⟨p, τ⟩ ⟨i, hp, hi, w, x, hok, hap⟩
      simp only at hp w x
      subst hp
      have awT : OptW (bd (G_semvcslaw01_awake τ) fun (x60, σ61) => some (Sum.inr (α := Int × AHeap) (Sum.inr (α := AHeap) (x60, σ61)))) (Turn (fun z : Int × AHeap => (∃ i : Nat, z.1 = (i : Int) ∧ i ≤ L.length ∧ Wf z.2 ∧ Ext σ z.2 ∧ (∀ j (h : j < L.length), j < i → TokOk L[j]) ∧ ∀ j (h : j + 1 < L.length), j + 1 < i → Apart (L[j]'(by omega)) L[j + 1]) ∧ L.length - z.1.toNat < L.length - ((i : Int), τ).1.toNat) (fun r : AHeap ⊕ (Bool × AHeap) => match r with
        | .inl τ => Wf τ ∧ Ext σ τ ∧ (∀ t ∈ L, TokOk t) ∧ Chain L
        | .inr b => b.1 = true)) := OptW.bdI (awake_true w) (fun r hr => OptW.some_iff.2 hr.1)
      unfold G_semvcslaw01_LexAgain_l1
      simp only [lt_eq, hn0]
      by_cases h : i < L.length
      · rw [decide_eq_true (by omega)]
        obtain ⟨b, o, i0, v0, v1, v2⟩ := tok_iA (hL τ x) h
        have hm := joinL_mem (List.getElem_mem h)
        simp only [cond_true, i0, bd_some, offP_at, v0, v1, v2, lex_Class (s := L[i].2.2) (by omega)]
        by_cases hc : classS L[i].2.2 = L[i].1
        · rw [decide_eq_false (by simpa using hc)]
          simp only [Bool.not_false, cond_true, bd_some, offP_at, v0, Bool.false_or]
          by_cases hk : L[i].1 = 0
          · rw [decide_eq_true hk]
            simp only [Bool.not_true, cond_false, bd_some, Bool.true_or, Bool.false_and, cond_true]
            exact awT
          · rw [decide_eq_false hk]
            simp only [Bool.not_false, cond_true, bd_some, offP_at, v1, lex_Trivia (s := L[i].2.1) (e := false) (by omega), Bool.false_or]
            cases hv : trivS L[i].2.1 false with
            | false =>
              simp only [Bool.not_false, Bool.not_true, Bool.false_and, cond_false, bd_some, Bool.true_or, cond_true]
              exact awT
            | true =>
              have hok' : ∀ j (h : j < L.length), j < i + 1 → TokOk L[j] := by
                intro j hj hj'
                by_cases hji : j = i
                · subst hji; exact ⟨hk, hc, hv⟩
                · exact hok j hj (by omega)
              simp only [Bool.not_true, Bool.not_false, Bool.true_and, Bool.false_or]
              by_cases hi0 : i = 0
              · subst hi0
                rw [decide_eq_false (by simp)]
                simp only [cond_false, bd_some, Bool.false_and]
                rw [wrap64 (x := ((0 : Nat) : Int) + 1) (by omega) (by omega)]
                exact OptW.some_iff.2 ⟨⟨1, rfl, by omega, w, x, hok', fun j _ hj => by omega⟩, by simp; omega⟩
              · rw [decide_eq_true (by omega)]
                simp only [cond_true, bd_some, offP_at, v1, Bool.true_and]
                by_cases hl : L[i].2.1 = (⟨#[]⟩ : ByteArray)
                · rw [decide_eq_true hl]
                  simp only [cond_true, Bool.true_and]
                  rw [wrap64 (x := (i : Int) - 1) (by omega) (by omega)]
                  obtain ⟨b2, o2, j0, _, _, z2⟩ := tok_iA (hL τ x) (i := i - 1) (by omega)
                  have hi1 : ((i - 1 : Nat) : Int) = (i : Int) - 1 := by omega
                  rw [hi1] at j0
                  simp only [j0, bd_some, offP_at, z2, v2]
                  have hm2 := joinL_mem (List.getElem_mem (show i - 1 < L.length by omega))
                  obtain ⟨p1, p2, p3⟩ := hok (i - 1) (by omega) (by omega)
                  refine OptW.bdI (Fuses_no p2 p1 hc hk (by omega) w) ?_
                  rintro ⟨r, τ2⟩ ⟨hr, w2, x2⟩
                  simp only at hr w2 x2 ⊢
                  cases r with
                  | true =>
                    simp only [cond_true]
                    exact OptW.bdI (awake_true w2) (fun r hr => OptW.some_iff.2 hr.1)
                  | false =>
                    simp only [cond_false]
                    rw [wrap64 (x := (i : Int) + 1) (by omega) (by omega)]
                    refine OptW.some_iff.2 ⟨⟨i + 1, by simp, h, w2, x.trans x2, hok', fun j hj hj' => ?_⟩, by simp; omega⟩
                    by_cases hji : j + 1 = i
                    · intro _
                      have := hr rfl
                      have e1 : j = i - 1 := by omega
                      subst e1
                      have e2 : L[i - 1 + 1]'hj = L[i] := by congr 1
                      rw [e2]; exact this
                    · exact hap j hj (by omega)
                · rw [decide_eq_false hl]
                  simp only [cond_false, bd_some, Bool.false_and]
                  rw [wrap64 (x := (i : Int) + 1) (by omega) (by omega)]
                  refine OptW.some_iff.2 ⟨⟨i + 1, by simp, h, w, x, hok', fun j hj hj' => ?_⟩, by simp; omega⟩
                  by_cases hji : j + 1 = i
                  · intro hz0
                    exfalso
                    subst hji
                    exact hl (ByteArray.eq_empty_iff.2 hz0)
                  · exact hap j hj (by omega)
        · rw [decide_eq_true (by simpa using hc)]
          simp only [Bool.not_true, cond_false, bd_some, Bool.true_or, Bool.false_and, cond_true]
          exact awT
      · rw [decide_eq_false (by omega)]
        have : i = L.length := by omega
        subst this
        refine OptW.some_iff.2 ⟨w, x, fun t ht => ?_, chain_of L (fun j hj => hap j hj hj)⟩
        obtain ⟨j, hj, rfl⟩ := List.getElem_of_mem ht
        exact hok j hj hj
    · rintro (τ | ⟨b, τ⟩) hr
      · obtain ⟨w, x, hok, hch⟩ := hr
        simp only
        refine OptW.bdI (lex_JoinA w (fun τ' x' => hL τ' (x.trans x')) hn (by omega)) ?_
        rintro ⟨j, τ1⟩ ⟨hj, w1, x1⟩
        simp only at hj w1 x1 ⊢
        subst hj
        refine OptW.bdI (lex_Scan (by omega) w1) ?_
        rintro ⟨sl, tl, at', er, τ2⟩ ⟨L2, h1, h2, h3⟩
        simp only at h1 h2 ⊢
        have hsc : scanA (⟨(joinL L ++ tail.data.toList).toArray⟩ : ByteArray) = (L, tail, 0, 0) := by
          unfold scanA
          rw [if_neg (by omega)]
          have := scan_joined (s := (⟨(joinL L ++ tail.data.toList).toArray⟩ : ByteArray)) ht L 0 [] (by omega) (by simp) hok hch
          simpa using this
        rw [hsc] at h1
        injection h1 with q1 q2; injection q2 with q2 q3; injection q3 with q3 q4
        subst q1 q2 q3 q4
        refine OptW.bdI (awake_true h2.wf) ?_
        rintro ⟨r, τ3⟩ ⟨hr, w3, x3⟩
        simp only at hr w3 x3 ⊢
        subst hr
        simp only [decide_true, Bool.and_self, cond_true]
        rw [Same_trueA ((h2.rd.ext x3).lat encTok_len) (hL τ3 (((x.trans x1).trans h2.ext).trans x3)) hn, bd_some]
        exact OptW.some_iff.2 rfl
      · simp only at hr
        subst hr
        exact OptW.some_iff.2 rfl
end Go.Am
