/- The tokens of a source, as a plain list; the program's Scan. -/
import Derived.Test.YtfblbkmmjidknaaLexL
set_option linter.unusedVariables false
set_option linter.unusedSimpArgs false
namespace Go.Am
theorem textS_end (s : ByteArray) (i j : Nat) (h : (textS s i j).2.2.2 = 0) : ∃ e : Nat, (textS s i j).2.1 = e ∧ j < e ∧ e ≤ s.size := by
  unfold textS at h ⊢
  split
  · rename_i hj
    rw [dif_pos hj] at h
    split
    · exact ⟨j + 1, rfl, by omega, by omega⟩
    · rename_i h34
      rw [if_neg h34] at h
      split
      · rename_i hx; rw [if_pos hx] at h; cases h
      · rename_i hx
        rw [if_neg hx] at h
        split
        · rename_i ha
          rw [if_pos ha] at h
          obtain ⟨e, h1, h2, h3⟩ := textS_end s i (j + 1) h
          exact ⟨e, h1, by omega, h3⟩
        · rename_i ha; rw [if_neg ha] at h; cases h
  · rename_i hj; rw [dif_neg hj] at h; cases h
termination_by s.size - j
theorem wordT_end {s : ByteArray} {i : Nat} (hi : i < s.size) (hl : letterB (B s i) = true) (h : (wordT s i).2.2.2 = 0) : ∃ e : Nat, (wordT s i).2.1 = e ∧ i < e ∧ e ≤ s.size := by
  have g1 := scanTo_gt (p := innerB) hi (inner_letter hl)
  have l1 := scanTo_le innerB s i (by omega)
  unfold wordT wordS at h ⊢
  split
  · rename_i hq
    rw [if_pos hq] at h
    simp only [Bool.and_eq_true, decide_eq_true_eq] at hq
    obtain ⟨⟨⟨_, hq1⟩, _⟩, hq2⟩ := hq
    have g2 := scanTo_ge innerB s (scanTo innerB s i + 1)
    have l2 := scanTo_le innerB s (scanTo innerB s i + 1) (by omega)
    split
    · rename_i hc; rw [if_pos hc] at h; cases h
    · rename_i hc
      rw [if_neg hc] at h
      split
      · rename_i hr; rw [if_pos hr] at h; cases h
      · split
        · exact ⟨_, rfl, by omega, l2⟩
        · exact ⟨_, rfl, by omega, l2⟩
  · rename_i hq
    rw [if_neg hq] at h
    split
    · exact ⟨_, rfl, g1, l1⟩
    · rename_i hr
      rw [if_neg hr] at h
      split
      · rename_i hc; rw [if_pos hc] at h; cases h
      · split
        · exact ⟨_, rfl, g1, l1⟩
        · exact ⟨_, rfl, g1, l1⟩
theorem tokS_end {s : ByteArray} {i : Nat} (hi : i < s.size) (h : (tokS s i).2.2.2 = 0) : ∃ e : Nat, (tokS s i).2.1 = e ∧ i < e ∧ e ≤ s.size := by
  unfold tokS at h ⊢
  split
  · rename_i hl
    rw [if_pos hl] at h
    exact wordT_end hi hl h
  · rename_i hl
    rw [if_neg hl] at h
    split
    · rename_i hd
      rw [if_pos hd] at h
      have g1 := scanTo_gt (p := digitB) hi hd
      have l1 := scanTo_le digitB s i (by omega)
      split
      · rename_i hc; rw [if_pos hc] at h; cases h
      · rename_i hc; rw [if_neg hc] at h
        split
        · rename_i hc; rw [if_pos hc] at h; cases h
        · exact ⟨_, rfl, g1, l1⟩
    · rename_i hd
      rw [if_neg hd] at h
      split
      · rename_i hq
        rw [if_pos hq] at h
        obtain ⟨e, h1, h2, h3⟩ := textS_end s i (i + 1) h
        exact ⟨e, h1, by omega, h3⟩
      · rename_i hq
        rw [if_neg hq] at h
        split
        · exact ⟨i + 2, rfl, by omega, by omega⟩
        · rename_i hq
          rw [if_neg hq] at h
          split
          · exact ⟨i + 1, rfl, by omega, by omega⟩
          · rename_i hq
            rw [if_neg hq] at h
            split
            · rename_i hq; rw [if_pos hq] at h; cases h
            · rename_i hq; rw [if_neg hq] at h; cases h
abbrev Tok := Int × ByteArray × ByteArray
def encTok (t : Tok) : List Value := [Value.int .i64 t.1, Value.string t.2.1, Value.string t.2.2]
theorem encTok_len (t : Tok) : (encTok t).length = 3 := rfl
noncomputable def scanS (s : ByteArray) (i : Nat) (acc : List Tok) : List Tok × ByteArray × Int × Int :=
  if (leadS s false i).2 = true then ([], (⟨#[]⟩ : ByteArray), (leadS s false i).1, 1)
  else if (leadS s false i).1 = s.size then (acc, s.extract i s.size, 0, 0)
  else if (tokS s (leadS s false i).1).2.2.2 ≠ 0 then ([], (⟨#[]⟩ : ByteArray), (tokS s (leadS s false i).1).2.2.1, (tokS s (leadS s false i).1).2.2.2)
  else if h : i < (tokS s (leadS s false i).1).2.1.toNat ∧ i < s.size then
    scanS s (tokS s (leadS s false i).1).2.1.toNat (acc ++ [((tokS s (leadS s false i).1).1, s.extract i (leadS s false i).1, s.extract (leadS s false i).1 (tokS s (leadS s false i).1).2.1.toNat)])
  else ([], (⟨#[]⟩ : ByteArray), 0, 0)
termination_by s.size - i
noncomputable def scanA (s : ByteArray) : List Tok × ByteArray × Int × Int := if 4096 < s.size then ([], (⟨#[]⟩ : ByteArray), 4096, 3) else scanS s 0 []
def ScanR (σ : AHeap) (s : ByteArray) (r : Sl × ByteArray × Int × Int × AHeap) : Prop := ∃ L, (L, r.2.1, r.2.2.1, r.2.2.2.1) = scanA s ∧ LOw encTok σ r.2.2.2.2 T_semvcs_api_Token r.1 L ∧ L.length ≤ s.size
theorem tokS_not {s : ByteArray} {i : Nat} (h : allowedB (B s i) = false) : tokS s i = (0, 0, (i : Int), 1) := by
  obtain ⟨h1, h2, h3, h4, h5⟩ := not_allowed h
  unfold tokS
  simp [h1, h2, h3, h4, h5, h]
theorem lex_lead {s : ByteArray} (hs : s.size < 2 ^ 62) {i : Nat} (hi : i ≤ s.size) {start : Int} {l : Sl} {σ : AHeap} :
    OptW (loopT (G_lex_Scan_l2 s start) (l, (i : Int), false, σ)) (fun r => match r with
      | .inl r => r = (l, ((leadS s false i).1 : Int), σ) ∧ (leadS s false i).2 = false ∧ ((leadS s false i).1 < s.size → allowedB (B s (leadS s false i).1) = true)
      | .inr r => r = (Sl.nil, (⟨#[]⟩ : ByteArray), ((leadS s false i).1 : Int), 1, σ) ∧ (leadS s false i).1 < s.size ∧ ((leadS s false i).2 = false → allowedB (B s (leadS s false i).1) = false)) := by
  refine OptW.loopI (fun y => ∃ (j : Nat) (c : Bool), y = (l, (j : Int), c, σ) ∧ j ≤ s.size ∧ leadS s c j = leadS s false i) (fun y => s.size - y.2.1.toNat) ?_ _ ⟨i, false, rfl, hi, rfl⟩
  rintro _ ⟨j, c, rfl, h2, h3⟩
  unfold G_lex_Scan_l2
  simp only [lt_eq, sz]
  by_cases h : j < s.size
  · rw [decide_eq_true h]
    rw [leadS, dif_pos h] at h3
    simp only [cond_true, idxS_eq h, bd_some, lex_allowed]
    cases ha : allowedB (B s j) with
    | false =>
      simp only [Bool.not_false, cond_true]
      have h35 : ¬ B s j = 35 := by intro e; rw [e] at ha; cases ha
      have hw : ¬ whiteB (B s j) = true := by intro e; rw [white_allowed e] at ha; cases ha
      cases c with
      | true =>
        rw [if_pos rfl, if_neg (by rw [ha]; exact Bool.false_ne_true)] at h3
        refine OptW.some_iff.2 ?_
        show _ ∧ _
        rw [← h3]
        exact ⟨rfl, h, fun e => by cases e⟩
      | false =>
        rw [if_neg Bool.false_ne_true, if_neg h35, if_neg hw] at h3
        refine OptW.some_iff.2 ?_
        show _ ∧ _
        rw [← h3]
        exact ⟨rfl, h, fun _ => ha⟩
    | true =>
      simp only [Bool.not_true, cond_false, G_lex_Scan_j1, lt_eq]
      rw [wrap64 (x := (j : Int) + 1) (by omega) (by omega)]
      cases c with
      | true =>
        rw [if_pos rfl, if_pos ha] at h3
        exact OptW.some_iff.2 ⟨⟨j + 1, _, by simp, h, h3⟩, by simp; omega⟩
      | false =>
        rw [if_neg Bool.false_ne_true] at h3
        simp only [cond_false]
        by_cases h35 : B s j = 35
        · rw [if_pos h35] at h3
          rw [decide_eq_true h35]
          exact OptW.some_iff.2 ⟨⟨j + 1, _, by simp, h, h3⟩, by simp; omega⟩
        · rw [if_neg h35] at h3
          rw [decide_eq_false h35]
          simp only [cond_false]
          have hww : (decide (B s j ≠ 9) && decide (B s j ≠ 10) && decide (B s j ≠ 13) && decide (B s j ≠ 32)) = !whiteB (B s j) := by
            unfold whiteB
            by_cases h1 : B s j = 9 <;> by_cases h2 : B s j = 10 <;> by_cases h3 : B s j = 13 <;> by_cases h4 : B s j = 32 <;> simp [h1, h2, h3, h4]
          rw [hww]
          cases hw : whiteB (B s j) with
          | true =>
            rw [if_pos hw] at h3
            exact OptW.some_iff.2 ⟨⟨j + 1, _, by simp, h, h3⟩, by simp; omega⟩
          | false =>
            rw [if_neg (by rw [hw]; exact Bool.false_ne_true)] at h3
            refine OptW.some_iff.2 ?_
            show _ ∧ _
            rw [← h3]
            exact ⟨rfl, rfl, fun _ => ha⟩
  · rw [decide_eq_false h]
    rw [leadS, dif_neg h] at h3
    refine OptW.some_iff.2 ?_
    show _ ∧ _
    rw [← h3]
    exact ⟨rfl, rfl, fun e => absurd e h⟩
theorem lex_Scan {s : ByteArray} (hs : s.size < 2 ^ 62) {σ : AHeap} (hσ : Wf σ) : OptW (G_lex_Scan s σ) (ScanR σ s) := by
  unfold G_lex_Scan
  simp only [lt_eq]
  by_cases hb : 4096 < s.size
  · rw [decide_eq_true (by omega)]
    refine OptW.some_iff.2 ⟨[], ?_, LOw.nil hσ (Ext.refl σ), by simp⟩
    unfold scanA; rw [if_pos hb]
  · rw [decide_eq_false (by omega)]
    simp only [cond_false]
    unfold ScanR scanA
    rw [if_neg hb]
    refine OptW.bdI (C := fun r => ∃ L, (L, r.2.1, r.2.2.1, r.2.2.2.1) = scanS s 0 [] ∧ LOw encTok σ r.2.2.2.2 T_semvcs_api_Token r.1 L ∧ L.length ≤ s.size) ?_ (fun a h => OptW.some_iff.2 h)
    refine OptW.loopI (fun y => ∃ (i : Nat) (L : List Tok), y.2.1 = (i : Int) ∧ i ≤ s.size ∧ L.length ≤ i ∧ LOw encTok σ y.2.2 T_semvcs_api_Token y.1 L ∧ scanS s i L = scanS s 0 []) (fun y => s.size - y.2.1.toNat) ?_ _ ⟨0, [], rfl, by omega, by simp, LOw.nil hσ (Ext.refl σ), rfl⟩
    rintro ⟨l, p, τ⟩ ⟨i, L, hp, h1, h2, h3, h4⟩
    simp only at hp h3
    subst hp
    unfold G_lex_Scan_l1
    simp only
    refine OptW.bdI (lex_lead hs h1) ?_
    rw [scanS] at h4
    have hge := leadS_ge s false i
    have hle := leadS_le s false i h1
    rintro (r | r) hr
    · obtain ⟨rfl, hr2, hr3⟩ := hr
      rw [if_neg (by rw [hr2]; exact Bool.false_ne_true)] at h4
      unfold G_lex_Scan_j2
      simp only [lt_eq]
      by_cases he : (leadS s false i).1 = s.size
      · rw [if_pos he] at h4
        rw [decide_eq_true (by omega)]
        simp only [cond_true, slS_end h1, bd_some]
        exact OptW.some_iff.2 ⟨L, h4, h3, by omega⟩
      · rw [if_neg he] at h4
        rw [decide_eq_false (by omega)]
        simp only [cond_false]
        have hlt : (leadS s false i).1 < s.size := by omega
        rw [lex_token hs hlt, bd_some]
        have hend := tokS_end hlt
        generalize tokS s (leadS s false i).1 = t at hend h4 ⊢
        obtain ⟨k, e, w, er⟩ := t
        simp only at hend h4 ⊢
        by_cases her : er = 0
        · subst her
          obtain ⟨e', rfl, g1, g2⟩ := hend rfl
          rw [if_neg (by simp), dif_pos ⟨by simp; omega, by omega⟩] at h4
          simp only [Int.toNat_natCast] at h4
          simp only [ne_eq, not_true_eq_false, decide_false, cond_false]
          rw [slS_eq hge hle, bd_some, slS_eq (by omega) g2, bd_some]
          obtain ⟨sl', σ', q1, q2, q3, q4, q5⟩ := ap_own encTok_len (by omega) h3 (k, s.extract i (leadS s false i).1, s.extract (leadS s false i).1 e') (b := 40) (by omega)
          have q1' : apSl (newSl τ T_semvcs_api_Token 1 [Value.int .i64 k, Value.string (s.extract i (leadS s false i).1), Value.string (s.extract (leadS s false i).1 e')]).2 T_semvcs_api_Token 3 40 l (newSl τ T_semvcs_api_Token 1 [Value.int .i64 k, Value.string (s.extract i (leadS s false i).1), Value.string (s.extract (leadS s false i).1 e')]).1 = some (sl', σ') := q1
          simp only [newSl] at q1' ⊢
          rw [q1', bd_some]
          exact OptW.some_iff.2 ⟨⟨e', _, rfl, g2, by simp; omega, q2, h4⟩, by simp; omega⟩
        · rw [if_pos her] at h4
          rw [decide_eq_true her]
          exact OptW.some_iff.2 ⟨[], h4, LOw.nil h3.wf h3.ext, by simp⟩
    · obtain ⟨rfl, hr2, hr3⟩ := hr
      refine OptW.some_iff.2 ⟨[], ?_, LOw.nil h3.wf h3.ext, by simp⟩
      rw [← h4]
      split
      · rfl
      · rename_i hx
        rw [if_neg (by omega), tokS_not (hr3 (by simpa using hx)), if_pos (by simp)]
end Go.Am
