/- LexW -/
import Derived.Test.YtfblbkmmjidknaaLexV
set_option linter.unusedVariables false
set_option linter.unusedSimpArgs false
namespace Go.Am
/-- The lead of a token, or a tail, taken out of its source. -/
theorem lead_extract {s : ByteArray} {i0 n : Nat} (hn : n ≤ s.size) (h0 : i0 ≤ n) : ∀ (m j : Nat) (c : Bool), s.size - j = m → i0 ≤ j → j ≤ n → leadS s c j = (n, false) →
    leadS (s.extract i0 n) c (j - i0) = ((s.extract i0 n).size, false) ∧ (n < s.size → flagS (s.extract i0 n) c (j - i0) = false) := by
  have hz : (s.extract i0 n).size = n - i0 := size_extract h0 hn
  intro m
  induction m with
  | zero =>
    intro j c hm hj hjn h
    rw [leadS_end (by omega)] at h
    injection h with h _
    rw [leadS_end (by omega)]
    refine ⟨by rw [hz, h], fun hx => by omega⟩
  | succ m ih =>
    intro j c hm hj hjn h
    by_cases hjn' : j = n
    · subst hjn'
      rw [leadS_end (by omega)]
      refine ⟨by rw [hz], fun hx => ?_⟩
      rw [flagS, dif_neg (by omega)]
      cases c with
      | false => rfl
      | true =>
        exfalso
        rw [leadS, dif_pos hx, if_pos rfl] at h
        split at h
        · have := leadS_ge s (decide (B s j ≠ 10)) (j + 1)
          rw [h] at this; simp only at this; omega
        · cases h
    · have hlt : j < s.size := by omega
      have hB := B_ex (s := s) (n := i0) (e := n) hj (by omega) hn
      rw [leadS, dif_pos hlt] at h
      rw [leadS, dif_pos (by omega), hB]
      rw [flagS, dif_pos (by omega), hB]
      have hs : j + 1 - i0 = j - i0 + 1 := by omega
      cases c with
      | true =>
        rw [if_pos rfl] at h ⊢
        split at h
        · rename_i ha
          rw [if_pos ha]
          have := ih (j + 1) _ (by omega) (by omega) (by omega) h
          rw [hs] at this
          have hf : (if B s j = 35 then true else if B s j = 10 then false else true) = decide (B s j ≠ 10) := by
            by_cases h1 : B s j = 35
            · rw [h1]; rfl
            · by_cases h2 : B s j = 10 <;> simp [h1, h2]
          rw [hf]; exact this
        · cases h
      | false =>
        rw [if_neg Bool.false_ne_true] at h ⊢
        by_cases h35 : B s j = 35
        · rw [if_pos h35] at h ⊢
          rw [if_pos h35]
          have := ih (j + 1) _ (by omega) (by omega) (by omega) h
          rw [hs] at this; exact this
        · rw [if_neg h35] at h ⊢
          rw [if_neg h35]
          have hf : (if B s j = 10 then false else false) = false := by split <;> rfl
          rw [hf]
          by_cases hw : whiteB (B s j) = true
          · rw [if_pos hw] at h ⊢
            have := ih (j + 1) _ (by omega) (by omega) (by omega) h
            rw [hs] at this; exact this
          · rw [if_neg hw] at h
            injection h with h _; omega
theorem triv_lead {s : ByteArray} {i n : Nat} (hi : i ≤ n) (hn : n < s.size) (h : leadS s false i = (n, false)) : trivS (s.extract i n) false = true := by
  obtain ⟨h1, h2⟩ := lead_extract (by omega) hi _ i false rfl (Nat.le_refl _) hi h
  rw [Nat.sub_self] at h1 h2
  unfold trivS
  rw [h1, h2 hn]
  simp
theorem triv_tail {s : ByteArray} {i : Nat} (hi : i ≤ s.size) (h : leadS s false i = (s.size, false)) : trivS (s.extract i s.size) true = true := by
  obtain ⟨h1, _⟩ := lead_extract (Nat.le_refl _) hi _ i false rfl (Nat.le_refl _) hi h
  rw [Nat.sub_self] at h1
  unfold trivS
  rw [h1]
  simp
theorem class_tok {s : ByteArray} {n e : Nat} {k w : Int} (hi : n < s.size) (h : tokS s n = (k, (e : Int), w, 0)) : k ≠ 0 ∧ classS (s.extract n e) = k := by
  have hend := tokS_end hi (by rw [h])
  rw [h] at hend
  obtain ⟨e', q1, q2, q3⟩ := hend
  have hee : e' = e := by simp only at q1; omega
  subst hee
  obtain ⟨h1, h2⟩ := tokS_extract hi h
  refine ⟨h1, ?_⟩
  have hz : (s.extract n e').size = e' - n := size_extract (by omega) q3
  unfold classS
  rw [h2, if_neg (by omega)]
  simp [hz]
def TokOk (t : Tok) : Prop := t.1 ≠ 0 ∧ classS t.2.2 = t.1 ∧ trivS t.2.1 false = true
theorem bytes_extract {s : ByteArray} {i j k : Nat} (h1 : i ≤ j) (h2 : j ≤ k) : (s.extract i j).data.toList ++ (s.extract j k).data.toList = (s.extract i k).data.toList := by
  have : s.extract i j ++ s.extract j k = s.extract i k := by
    rw [ByteArray.extract_append_extract, Nat.min_eq_left h1, Nat.max_eq_right h2]
  have h3 := congrArg (fun b : ByteArray => b.data.toList) this
  simpa only [ByteArray.data_append, Array.toList_append] using h3
theorem scanS_keeps {s : ByteArray} : ∀ (m i : Nat) (acc : List Tok), s.size - i = m → i ≤ s.size → ∀ L tail a er, scanS s i acc = (L, tail, a, er) →
    (er = 0 → ∃ L2, L = acc ++ L2 ∧ (∀ t ∈ L2, TokOk t) ∧ joinL L2 ++ tail.data.toList = (s.extract i s.size).data.toList ∧ trivS tail true = true) ∧ (er ≠ 0 → L = [] ∧ tail = (⟨#[]⟩ : ByteArray)) := by
  intro m
  induction m using Nat.strongRecOn with
  | ind m ih =>
    intro i acc hm hi L tail a er h
    rw [scanS] at h
    have hge := leadS_ge s false i
    have hle := leadS_le s false i hi
    by_cases hb : (leadS s false i).2 = true
    · rw [if_pos hb] at h
      injection h with h1 h2; injection h2 with h2 h3; injection h3 with h3 h4
      subst h1 h2 h4
      exact ⟨fun h => (by cases h), fun _ => ⟨rfl, rfl⟩⟩
    · rw [if_neg hb] at h
      have hR : leadS s false i = ((leadS s false i).1, false) := by
        have : (leadS s false i).2 = false := by simpa using hb
        exact Prod.ext rfl this
      by_cases he : (leadS s false i).1 = s.size
      · rw [if_pos he] at h
        injection h with h1 h2; injection h2 with h2 h3; injection h3 with h3 h4
        subst h1 h2 h4
        rw [he] at hR
        exact ⟨fun _ => ⟨[], by simp, by simp, by simp [joinL], triv_tail hi hR⟩, fun h => absurd rfl h⟩
      · rw [if_neg he] at h
        have hlt : (leadS s false i).1 < s.size := by omega
        have hend := tokS_end hlt
        generalize htk : tokS s (leadS s false i).1 = t at h hend
        obtain ⟨k, e, w, r⟩ := t
        simp only at h hend
        by_cases hr : r = 0
        · subst hr
          obtain ⟨e', rfl, g1, g2⟩ := hend rfl
          rw [if_neg (by simp), dif_pos ⟨by simp; omega, by omega⟩] at h
          simp only [Int.toNat_natCast] at h
          obtain ⟨q1, q2⟩ := ih (s.size - e') (by omega) e' _ rfl g2 L tail a er h
          refine ⟨fun h0 => ?_, q2⟩
          obtain ⟨L2, p1, p2, p3, p4⟩ := q1 h0
          obtain ⟨c1, c2⟩ := class_tok hlt htk
          refine ⟨(k, s.extract i (leadS s false i).1, s.extract (leadS s false i).1 e') :: L2, by rw [p1]; simp, ?_, ?_, p4⟩
          · intro t ht
            rcases List.mem_cons.1 ht with rfl | ht
            · exact ⟨c1, c2, triv_lead hge hlt hR⟩
            · exact p2 t ht
          · unfold joinL at p3 ⊢
            simp only [List.flatMap_cons]
            rw [bytes_extract hge (by omega), List.append_assoc, p3, bytes_extract (by omega) g2]
        · rw [if_pos hr] at h
          injection h with h1 h2; injection h2 with h2 h3; injection h3 with h3 h4
          subst h1 h2 h4
          exact ⟨fun h => absurd h hr, fun _ => ⟨rfl, rfl⟩⟩
theorem scanA_keeps {s : ByteArray} {L : List Tok} {tail : ByteArray} {a er : Int} (h : (L, tail, a, er) = scanA s) :
    (er = 0 → s.size ≤ 4096 ∧ (∀ t ∈ L, TokOk t) ∧ joinL L ++ tail.data.toList = s.data.toList ∧ trivS tail true = true) ∧ (er ≠ 0 → L = [] ∧ tail = (⟨#[]⟩ : ByteArray)) := by
  unfold scanA at h
  by_cases hs : 4096 < s.size
  · rw [if_pos hs] at h
    injection h with h1 h2; injection h2 with h2 h3; injection h3 with h3 h4
    subst h1 h2 h4
    exact ⟨fun h => (by cases h), fun _ => ⟨rfl, rfl⟩⟩
  · rw [if_neg hs] at h
    obtain ⟨q1, q2⟩ := scanS_keeps _ 0 [] rfl (by omega) L tail a er h.symm
    refine ⟨fun h0 => ?_, q2⟩
    obtain ⟨L2, p1, p2, p3, p4⟩ := q1 h0
    rw [List.nil_append] at p1
    subst p1
    rw [extract_all] at p3
    exact ⟨by omega, p2, p3, p4⟩
end Go.Am
/- LexX -/
set_option linter.unusedVariables false
set_option linter.unusedSimpArgs false
namespace Go.Am
theorem tok_i {σ : AHeap} {sl : Sl} {L : List Tok} (h : LRd encTok σ T_semvcs_api_Token sl L) {i : Nat} (hi : i < L.length) : ∃ b, iaSl sl 3 (i : Int) = some (some ⟨b, i * 3, none⟩) ∧ ld_i64 σ (some ⟨b, i * 3 + 0, none⟩) = some L[i].1 ∧ ld_str σ (some ⟨b, i * 3 + 1, none⟩) = some L[i].2.1 ∧ ld_str σ (some ⟨b, i * 3 + 2, none⟩) = some L[i].2.2 := by
  obtain ⟨b, i0, e0⟩ := h.at encTok_len hi
  refine ⟨b, i0, ?_, ?_, ?_⟩
  · unfold ld_i64; rw [e0 0 1 (by omega)]; rfl
  · unfold ld_str; rw [e0 1 1 (by omega)]; rfl
  · unfold ld_str; rw [e0 2 1 (by omega)]; rfl
theorem bytes_size (s : ByteArray) : s.data.toList.length = s.size := rfl
theorem joinL_mem {L : List Tok} {t : Tok} (h : t ∈ L) : t.2.1.size + t.2.2.size ≤ (joinL L).length := by
  induction L with
  | nil => cases h
  | cons a L ih =>
    unfold joinL at ih ⊢
    simp only [List.flatMap_cons, List.length_append, bytes_size]
    rcases List.mem_cons.1 h with rfl | h
    · omega
    · have := ih h; omega
theorem bytes_back (s : ByteArray) : (⟨s.data.toList.toArray⟩ : ByteArray) = s := by
  apply ByteArray.ext; simp
theorem LexKeeps_true {a0 : ByteArray} (hs : a0.size < 2 ^ 62) {σ : AHeap} (hσ : Wf σ) : OptW (G_semvcslaw01_LexKeeps a0 σ) fun r => r.1 = true := by
  unfold G_semvcslaw01_LexKeeps
  refine OptW.bdI (lex_Scan hs hσ) ?_
  rintro ⟨sl, tail, a, er, τ⟩ ⟨L, h1, h2, h3⟩
  simp only at h1 h2 ⊢
  obtain ⟨k1, k2⟩ := scanA_keeps h1
  simp only [lt_eq]
  by_cases he : er = 0
  · subst he
    obtain ⟨m1, m2, m3, m4⟩ := k1 rfl
    simp only [ne_eq, not_true_eq_false, decide_false, cond_false]
    have hlen : (joinL L).length + tail.size = a0.size := by
      have := congrArg List.length m3
      simpa only [List.length_append, bytes_size] using this
    refine OptW.bdI (C := fun r => r = .inl τ) ?_ ?_
    · refine OptW.loopI (fun y => y.2 = τ ∧ ∃ i : Nat, y.1 = (i : Int) ∧ i ≤ L.length) (fun y => L.length - y.1.toNat) ?_ _ ⟨rfl, 0, rfl, by omega⟩
      rintro ⟨p, τ'⟩ ⟨hτ, i, hp, hi⟩
      simp only at hτ hp
      subst hτ hp
      unfold G_semvcslaw01_LexKeeps_l1
      simp only [lt_eq, h2.rd.1]
      by_cases h : i < L.length
      · rw [decide_eq_true (by omega)]
        obtain ⟨b, i0, v0, v1, v2⟩ := tok_i h2.rd h
        obtain ⟨t1, t2, t3⟩ := m2 _ (List.getElem_mem h)
        have hm := joinL_mem (List.getElem_mem h)
        simp only [cond_true, i0, bd_some, offP_at, v0, v1, v2, lex_Class (s := L[i].2.2) (by omega), t2]
        simp only [ne_eq, not_true_eq_false, decide_false, Bool.not_false, cond_true, bd_some, Bool.false_or, decide_eq_false t1, offP_at, v0, v1]
        rw [lex_Trivia (by omega), t3, bd_some]
        simp only [Bool.not_true, cond_false]
        rw [wrap64 (by omega) (by omega)]
        exact OptW.some_iff.2 ⟨⟨rfl, i + 1, by simp, h⟩, by simp; omega⟩
      · rw [decide_eq_false (by omega)]
        exact OptW.some_iff.2 rfl
    · rintro r rfl
      simp only
      refine OptW.bdI (awake_true h2.wf) ?_
      rintro ⟨r, τ2⟩ ⟨hr, w2, x2⟩
      simp only at hr w2 x2
      subst hr
      simp only [cond_true]
      refine OptW.bdI (lex_Join w2 (h2.rd.ext x2) (by omega) (by omega)) ?_
      rintro ⟨j, τ3⟩ ⟨hj, w3, x3⟩
      simp only at hj w3 x3
      rw [m3, bytes_back] at hj
      subst hj
      simp only [decide_true, Bool.and_self, cond_true]
      rw [lex_Trivia (by omega), m4, bd_some]
      exact OptW.some_iff.2 rfl
  · obtain ⟨rfl, rfl⟩ := k2 he
    rw [decide_eq_true he]
    simp only [cond_true]
    refine OptW.bdI (awake_true h2.wf) ?_
    rintro ⟨r, τ2⟩ ⟨hr, w2, x2⟩
    simp only at hr w2 x2
    subst hr
    have hn := h2.n
    simp only [List.length_nil] at hn
    rw [hn]
    exact OptW.some_iff.2 (by simp)
end Go.Am
