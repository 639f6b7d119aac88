/- LexM -/
import Derived.Test.YtfblbkmmjidknaaLexJ
set_option linter.unusedVariables false
set_option linter.unusedSimpArgs false
namespace Go.Am
theorem textS_end (s : ByteArray) (i j : Nat) (h : (textS s i j).2.2.2 = 0) : ∃ e : Nat, (textS s i j).2.1 = e ∧ j < e ∧ e ≤ s.size := by
  unfold textS at h ⊢
  split
  · rename_i hj
    rw [dif_pos hj] at h
    split
    · exact ⟨j + 1, rfl, by omega, by omega⟩
    · rename_i h34
      rw [if_neg h34] at h
      split
      · rename_i hx; rw [if_pos hx] at h; cases h
      · rename_i hx
        rw [if_neg hx] at h
        split
        · rename_i ha
          rw [if_pos ha] at h
          obtain ⟨e, h1, h2, h3⟩ := textS_end s i (j + 1) h
          exact ⟨e, h1, by omega, h3⟩
        · rename_i ha; rw [if_neg ha] at h; cases h
  · rename_i hj; rw [dif_neg hj] at h; cases h
termination_by s.size - j
theorem wordT_end {s : ByteArray} {i : Nat} (hi : i < s.size) (hl : letterB (B s i) = true) (h : (wordT s i).2.2.2 = 0) : ∃ e : Nat, (wordT s i).2.1 = e ∧ i < e ∧ e ≤ s.size := by
  have g1 := scanTo_gt (p := innerB) hi (inner_letter hl)
  have l1 := scanTo_le innerB s i (by omega)
  unfold wordT wordS at h ⊢
  split
  · rename_i hq
    rw [if_pos hq] at h
    simp only [Bool.and_eq_true, decide_eq_true_eq] at hq
    obtain ⟨⟨⟨_, hq1⟩, _⟩, hq2⟩ := hq
    have g2 := scanTo_ge innerB s (scanTo innerB s i + 1)
    have l2 := scanTo_le innerB s (scanTo innerB s i + 1) (by omega)
    split
    · rename_i hc; rw [if_pos hc] at h; cases h
    · rename_i hc
      rw [if_neg hc] at h
      split
      · rename_i hr; rw [if_pos hr] at h; cases h
      · split
        · exact ⟨_, rfl, by omega, l2⟩
        · exact ⟨_, rfl, by omega, l2⟩
  · rename_i hq
    rw [if_neg hq] at h
    split
    · exact ⟨_, rfl, g1, l1⟩
    · rename_i hr
      rw [if_neg hr] at h
      split
      · rename_i hc; rw [if_pos hc] at h; cases h
      · split
        · exact ⟨_, rfl, g1, l1⟩
        · exact ⟨_, rfl, g1, l1⟩
theorem tokS_end {s : ByteArray} {i : Nat} (hi : i < s.size) (h : (tokS s i).2.2.2 = 0) : ∃ e : Nat, (tokS s i).2.1 = e ∧ i < e ∧ e ≤ s.size := by
  unfold tokS at h ⊢
  split
  · rename_i hl
    rw [if_pos hl] at h
    exact wordT_end hi hl h
  · rename_i hl
    rw [if_neg hl] at h
    split
    · rename_i hd
      rw [if_pos hd] at h
      have g1 := scanTo_gt (p := digitB) hi hd
      have l1 := scanTo_le digitB s i (by omega)
      split
      · rename_i hc; rw [if_pos hc] at h; cases h
      · rename_i hc; rw [if_neg hc] at h
        split
        · rename_i hc; rw [if_pos hc] at h; cases h
        · exact ⟨_, rfl, g1, l1⟩
    · rename_i hd
      rw [if_neg hd] at h
      split
      · rename_i hq
        rw [if_pos hq] at h
        obtain ⟨e, h1, h2, h3⟩ := textS_end s i (i + 1) h
        exact ⟨e, h1, by omega, h3⟩
      · rename_i hq
        rw [if_neg hq] at h
        split
        · exact ⟨i + 2, rfl, by omega, by omega⟩
        · rename_i hq
          rw [if_neg hq] at h
          split
          · exact ⟨i + 1, rfl, by omega, by omega⟩
          · rename_i hq
            rw [if_neg hq] at h
            split
            · rename_i hq; rw [if_pos hq] at h; cases h
            · rename_i hq; rw [if_neg hq] at h; cases h
abbrev Tok := Int × ByteArray × ByteArray
def encTok (t : Tok) : List Value := [Value.int .i64 t.1, Value.string t.2.1, Value.string t.2.2]
theorem encTok_len (t : Tok) : (encTok t).length = 3 := rfl
noncomputable def scanS (s : ByteArray) (i : Nat) (acc : List Tok) : List Tok × ByteArray × Int × Int :=
  if (leadS s false i).2 = true then ([], (⟨#[]⟩ : ByteArray), (leadS s false i).1, 1)
  else if (leadS s false i).1 = s.size then (acc, s.extract i s.size, 0, 0)
  else if (tokS s (leadS s false i).1).2.2.2 ≠ 0 then ([], (⟨#[]⟩ : ByteArray), (tokS s (leadS s false i).1).2.2.1, (tokS s (leadS s false i).1).2.2.2)
  else if h : i < (tokS s (leadS s false i).1).2.1.toNat ∧ i < s.size then
    scanS s (tokS s (leadS s false i).1).2.1.toNat (acc ++ [((tokS s (leadS s false i).1).1, s.extract i (leadS s false i).1, s.extract (leadS s false i).1 (tokS s (leadS s false i).1).2.1.toNat)])
  else ([], (⟨#[]⟩ : ByteArray), 0, 0)
termination_by s.size - i
noncomputable def scanA (s : ByteArray) : List Tok × ByteArray × Int × Int := if 4096 < s.size then ([], (⟨#[]⟩ : ByteArray), 4096, 3) else scanS s 0 []
def ScanR (σ : AHeap) (s : ByteArray) (r : Sl × ByteArray × Int × Int × AHeap) : Prop := ∃ L, (L, r.2.1, r.2.2.1, r.2.2.2.1) = scanA s ∧ LOw encTok σ r.2.2.2.2 T_semvcs_api_Token r.1 L ∧ L.length ≤ s.size
theorem tokS_not {s : ByteArray} {i : Nat} (h : allowedB (B s i) = false) : tokS s i = (0, 0, (i : Int), 1) := by
  obtain ⟨h1, h2, h3, h4, h5⟩ := not_allowed h
  unfold tokS
  simp [h1, h2, h3, h4, h5, h]
theorem lex_lead {s : ByteArray} (hs : s.size < 2 ^ 62) {i : Nat} (hi : i ≤ s.size) {start : Int} {l : Sl} {σ : AHeap} :
    OptW (loopT (G_lex_Scan_l2 s start) (l, (i : Int), false, σ)) (fun r => match r with
      | .inl r => r = (l, ((leadS s false i).1 : Int), σ) ∧ (leadS s false i).2 = false ∧ ((leadS s false i).1 < s.size → allowedB (B s (leadS s false i).1) = true)
      | .inr r => r = (Sl.nil, (⟨#[]⟩ : ByteArray), ((leadS s false i).1 : Int), 1, σ) ∧ (leadS s false i).1 < s.size ∧ ((leadS s false i).2 = false → allowedB (B s (leadS s false i).1) = false)) := by
  refine OptW.loopI (fun y => ∃ (j : Nat) (c : Bool), y = (l, (j : Int), c, σ) ∧ j ≤ s.size ∧ leadS s c j = leadS s false i) (fun y => s.size - y.2.1.toNat) ?_ _ ⟨i, false, rfl, hi, rfl⟩
  rintro _ ⟨j, c, rfl, h2, h3⟩
  unfold G_lex_Scan_l2
  simp only [lt_eq, sz]
  by_cases h : j < s.size
  · rw [decide_eq_true h]
    rw [leadS, dif_pos h] at h3
    simp only [cond_true, idxS_eq h, bd_some, lex_allowed]
    cases ha : allowedB (B s j) with
    | false =>
      simp only [Bool.not_false, cond_true]
      have h35 : ¬ B s j = 35 := by intro e; rw [e] at ha; cases ha
      have hw : ¬ whiteB (B s j) = true := by intro e; rw [white_allowed e] at ha; cases ha
      cases c with
      | true =>
        rw [if_pos rfl, if_neg (by rw [ha]; exact Bool.false_ne_true)] at h3
        refine OptW.some_iff.2 ?_
        show _ ∧ _
        rw [← h3]
        exact ⟨rfl, h, fun e => by cases e⟩
      | false =>
        rw [if_neg Bool.false_ne_true, if_neg h35, if_neg hw] at h3
        refine OptW.some_iff.2 ?_
        show _ ∧ _
        rw [← h3]
        exact ⟨rfl, h, fun _ => ha⟩
    | true =>
      simp only [Bool.not_true, cond_false, G_lex_Scan_j1, lt_eq]
      rw [wrap64 (x := (j : Int) + 1) (by omega) (by omega)]
      cases c with
      | true =>
        rw [if_pos rfl, if_pos ha] at h3
        exact OptW.some_iff.2 ⟨⟨j + 1, _, by simp, h, h3⟩, by simp; omega⟩
      | false =>
        rw [if_neg Bool.false_ne_true] at h3
        simp only [cond_false]
        by_cases h35 : B s j = 35
        · rw [if_pos h35] at h3
          rw [decide_eq_true h35]
          exact OptW.some_iff.2 ⟨⟨j + 1, _, by simp, h, h3⟩, by simp; omega⟩
        · rw [if_neg h35] at h3
          rw [decide_eq_false h35]
          simp only [cond_false]
          have hww : (decide (B s j ≠ 9) && decide (B s j ≠ 10) && decide (B s j ≠ 13) && decide (B s j ≠ 32)) = !whiteB (B s j) := by
            unfold whiteB
            by_cases h1 : B s j = 9 <;> by_cases h2 : B s j = 10 <;> by_cases h3 : B s j = 13 <;> by_cases h4 : B s j = 32 <;> simp [h1, h2, h3, h4]
          rw [hww]
          cases hw : whiteB (B s j) with
          | true =>
            rw [if_pos hw] at h3
            exact OptW.some_iff.2 ⟨⟨j + 1, _, by simp, h, h3⟩, by simp; omega⟩
          | false =>
            rw [if_neg (by rw [hw]; exact Bool.false_ne_true)] at h3
            refine OptW.some_iff.2 ?_
            show _ ∧ _
            rw [← h3]
            exact ⟨rfl, rfl, fun _ => ha⟩
  · rw [decide_eq_false h]
    rw [leadS, dif_neg h] at h3
    refine OptW.some_iff.2 ?_
    show _ ∧ _
    rw [← h3]
    exact ⟨rfl, rfl, fun e => absurd e h⟩
theorem lex_Scan {s : ByteArray} (hs : s.size < 2 ^ 62) {σ : AHeap} (hσ : Wf σ) : OptW (G_lex_Scan s σ) (ScanR σ s) := by
  unfold G_lex_Scan
  simp only [lt_eq]
  by_cases hb : 4096 < s.size
  · rw [decide_eq_true (by omega)]
    refine OptW.some_iff.2 ⟨[], ?_, LOw.nil hσ (Ext.refl σ), by simp⟩
    unfold scanA; rw [if_pos hb]
  · rw [decide_eq_false (by omega)]
    simp only [cond_false]
    unfold ScanR scanA
    rw [if_neg hb]
    refine OptW.bdI (C := fun r => ∃ L, (L, r.2.1, r.2.2.1, r.2.2.2.1) = scanS s 0 [] ∧ LOw encTok σ r.2.2.2.2 T_semvcs_api_Token r.1 L ∧ L.length ≤ s.size) ?_ (fun a h => OptW.some_iff.2 h)
    refine OptW.loopI (fun y => ∃ (i : Nat) (L : List Tok), y.2.1 = (i : Int) ∧ i ≤ s.size ∧ L.length ≤ i ∧ LOw encTok σ y.2.2 T_semvcs_api_Token y.1 L ∧ scanS s i L = scanS s 0 []) (fun y => s.size - y.2.1.toNat) ?_ _ ⟨0, [], rfl, by omega, by simp, LOw.nil hσ (Ext.refl σ), rfl⟩
    rintro ⟨l, p, τ⟩ ⟨i, L, hp, h1, h2, h3, h4⟩
    simp only at hp h3
    subst hp
    unfold G_lex_Scan_l1
    simp only
    refine OptW.bdI (lex_lead hs h1) ?_
    rw [scanS] at h4
    have hge := leadS_ge s false i
    have hle := leadS_le s false i h1
    rintro (r | r) hr
    · obtain ⟨rfl, hr2, hr3⟩ := hr
      rw [if_neg (by rw [hr2]; exact Bool.false_ne_true)] at h4
      unfold G_lex_Scan_j2
      simp only [lt_eq]
      by_cases he : (leadS s false i).1 = s.size
      · rw [if_pos he] at h4
        rw [decide_eq_true (by omega)]
        simp only [cond_true, slS_end h1, bd_some]
        exact OptW.some_iff.2 ⟨L, h4, h3, by omega⟩
      · rw [if_neg he] at h4
        rw [decide_eq_false (by omega)]
        simp only [cond_false]
        have hlt : (leadS s false i).1 < s.size := by omega
        rw [lex_token hs hlt, bd_some]
        have hend := tokS_end hlt
        generalize tokS s (leadS s false i).1 = t at hend h4 ⊢
        obtain ⟨k, e, w, er⟩ := t
        simp only at hend h4 ⊢
        by_cases her : er = 0
        · subst her
          obtain ⟨e', rfl, g1, g2⟩ := hend rfl
          rw [if_neg (by simp), dif_pos ⟨by simp; omega, by omega⟩] at h4
          simp only [Int.toNat_natCast] at h4
          simp only [ne_eq, not_true_eq_false, decide_false, cond_false]
          rw [slS_eq hge hle, bd_some, slS_eq (by omega) g2, bd_some]
          obtain ⟨sl', σ', q1, q2, q3, q4, q5⟩ := ap_own encTok_len (by omega) h3 (k, s.extract i (leadS s false i).1, s.extract (leadS s false i).1 e') (b := 40) (by omega)
          have q1' : apSl (newSl τ T_semvcs_api_Token 1 [Value.int .i64 k, Value.string (s.extract i (leadS s false i).1), Value.string (s.extract (leadS s false i).1 e')]).2 T_semvcs_api_Token 3 40 l (newSl τ T_semvcs_api_Token 1 [Value.int .i64 k, Value.string (s.extract i (leadS s false i).1), Value.string (s.extract (leadS s false i).1 e')]).1 = some (sl', σ') := q1
          simp only [newSl] at q1' ⊢
          rw [q1', bd_some]
          exact OptW.some_iff.2 ⟨⟨e', _, rfl, g2, by simp; omega, q2, h4⟩, by simp; omega⟩
        · rw [if_pos her] at h4
          rw [decide_eq_true her]
          exact OptW.some_iff.2 ⟨[], h4, LOw.nil h3.wf h3.ext, by simp⟩
    · obtain ⟨rfl, hr2, hr3⟩ := hr
      refine OptW.some_iff.2 ⟨[], ?_, LOw.nil h3.wf h3.ext, by simp⟩
      rw [← h4]
      split
      · rfl
      · rename_i hx
        rw [if_neg (by omega), tokS_not (hr3 (by simpa using hx)), if_pos (by simp)]
end Go.Am
/- LexN -/
set_option linter.unusedVariables false
set_option linter.unusedSimpArgs false
namespace Go.Am
theorem LOw.mono {α : Type} {enc : α → List Value} {σ0 σ1 σ : AHeap} {e : TypeId} {sl : Sl} {l : List α} (h : LOw enc σ1 σ e sl l) (x : Ext σ0 σ1) : LOw enc σ0 σ e sl l := by
  refine ⟨h.wf, x.trans h.ext, h.n, ?_⟩
  rcases h.mem with h1 | ⟨hc, b, ch, h1, h2, h3, h4⟩
  · exact .inl h1
  · exact .inr ⟨hc, b, ch, h1, Nat.le_trans x.next h2, h3, h4⟩
theorem ref_scan {s : ByteArray} (hs : s.size ≤ 4096) {σ : AHeap} (hσ : Wf σ) : OptW (G_semvcsref01_scan s σ) (fun r => ∃ L, (L, r.2.1, r.2.2.1, r.2.2.2.1) = scanS s 0 [] ∧ LOw encTok σ r.2.2.2.2 T_semvcs_api_Token r.1 L ∧ L.length ≤ s.size) := by
  unfold G_semvcsref01_scan
  refine OptW.bdI (C := fun r => ∃ L, (L, r.2.1, r.2.2.1, r.2.2.2.1) = scanS s 0 [] ∧ LOw encTok σ r.2.2.2.2 T_semvcs_api_Token r.1 L ∧ L.length ≤ s.size) ?_ (fun a h => OptW.some_iff.2 h)
  refine OptW.loopI (fun y => ∃ (i : Nat) (L : List Tok), y.2.1 = (i : Int) ∧ i ≤ s.size ∧ L.length ≤ i ∧ LOw encTok σ y.2.2 T_semvcs_api_Token y.1 L ∧ scanS s i L = scanS s 0 []) (fun y => s.size - y.2.1.toNat) ?_ _ ⟨0, [], rfl, by omega, by simp, LOw.nil hσ (Ext.refl σ), rfl⟩
  rintro ⟨l, p, τ⟩ ⟨i, L, hp, h1, h2, h3, h4⟩
  simp only at hp h3
  subst hp
  unfold G_semvcsref01_scan_l1
  simp only [lt_eq, ref_lead (s := s) (by omega) h1, bd_some]
  rw [scanS] at h4
  have hge := leadS_ge s false i
  have hle := leadS_le s false i h1
  cases hb : (leadS s false i).2 with
  | true =>
    rw [if_pos hb] at h4
    rw [if_pos rfl, decide_eq_true (by omega)]
    exact OptW.some_iff.2 ⟨[], h4, LOw.nil h3.wf h3.ext, by simp⟩
  | false =>
    rw [if_neg (by rw [hb]; exact Bool.false_ne_true)] at h4
    rw [if_neg Bool.false_ne_true]
    have hw : IntKind.wrap .i64 ((i : Int) + (((leadS s false i).1 : Int) - i)) = ((leadS s false i).1 : Int) := by rw [wrap64 (by omega) (by omega)]; omega
    simp only [hw]
    simp only [decide_eq_false (show ¬ (0 : Int) ≤ -1 by omega), cond_false]
    by_cases he : (leadS s false i).1 = s.size
    · rw [if_pos he] at h4
      rw [decide_eq_true (by omega)]
      simp only [cond_true, slS_end h1, bd_some]
      exact OptW.some_iff.2 ⟨L, h4, h3, by omega⟩
    · rw [if_neg he] at h4
      rw [decide_eq_false (by omega)]
      simp only [cond_false]
      have hlt : (leadS s false i).1 < s.size := by omega
      refine OptW.bdI (ref_next (by omega) hlt h3.wf) ?_
      rintro ⟨a1, a2, a3, a4, τ1⟩ ⟨ha, w1, x1⟩
      simp only [newC] at ha w1 x1 ⊢
      refine item_let w1 x1 a1 a2 a3 a4 ?_
      intro τ2 w2 x2 hb2 hg2
      have hn1 : τ1.next < τ2.next := (w2.ids _ _ _ _ hg2).2
      obtain ⟨c1, c2, c3, c4⟩ := item_cell hb2 hg2
      have hend := tokS_end hlt
      generalize tokS s (leadS s false i).1 = t at ha hend h4 ⊢
      obtain ⟨k, e, w, er⟩ := t
      unfold itemOf at ha
      simp only at hend h4 ha ⊢
      injection ha with q1 q2; injection q2 with q2 q3; injection q3 with q3 q4
      subst q2 q3 q4
      simp only [offP_own, bd_some, c1, c2, c3, c4]
      by_cases her : a3 = 0
      · subst her
        obtain ⟨e', rfl, g1, g2⟩ := hend rfl
        rw [if_neg (by simp), dif_pos ⟨by simp; omega, by omega⟩] at h4
        rw [if_pos rfl] at q1
        subst q1
        simp only [Int.toNat_natCast] at h4
        have hw2 : IntKind.wrap .i64 (((leadS s false i).1 : Int) + ((e' : Int) - ((leadS s false i).1 : Int))) = (e' : Int) := by rw [wrap64 (by omega) (by omega)]; omega
        simp only [ne_eq, not_true_eq_false, decide_false, cond_false, hw2]
        rw [slS_eq hge hle, bd_some, slS_eq (by omega) g2, bd_some]
        obtain ⟨sl', σ', q1, q2, q3, q4, q5⟩ := ap_own encTok_len (by omega) (h3.ext' w2 x2) (a2, s.extract i (leadS s false i).1, s.extract (leadS s false i).1 e') (b := 40) (by omega)
        have q1' : apSl (newSl τ2 T_semvcs_api_Token 1 [Value.int .i64 a2, Value.string (s.extract i (leadS s false i).1), Value.string (s.extract (leadS s false i).1 e')]).2 T_semvcs_api_Token 3 40 l (newSl τ2 T_semvcs_api_Token 1 [Value.int .i64 a2, Value.string (s.extract i (leadS s false i).1), Value.string (s.extract (leadS s false i).1 e')]).1 = some (sl', σ') := q1
        simp only [newSl] at q1' ⊢
        rw [q1', bd_some]
        have hg3 : σ'.get τ1.next = .cells [(Value.int .i64 ((e' : Int) - ((leadS s false i).1 : Int))), (Value.int .i64 a2), (Value.int .i64 0), (Value.int .i64 a4)] T_semvcs_semvcsref01_Item τ1.next := by
          refine q3 _ _ _ _ hn1 hg2 ?_
          intro b2 c2 e2 ch2 hp hg
          rcases h3.mem with ⟨_, h5⟩ | ⟨_, c5, ch5, h5, h6, h7, h8⟩
          · rw [h5] at hp; cases hp
          · rw [h5] at hp; injection hp with hp; injection hp with hp; subst hp
            have hlt5 := h3.wf.ids _ _ _ _ h8
            rw [x2.same c5 hlt5.2, h8] at hg
            injection hg with _ _ hg
            have := x1.next
            omega
        have hb3 : σ'.base ≤ τ1.next := by unfold AHeap.base; rw [q4]; exact hb2
        obtain ⟨d1, d2, d3, d4⟩ := item_cell hb3 hg3
        simp only [d1, bd_some, hw2]
        exact OptW.some_iff.2 ⟨⟨e', _, rfl, g2, by simp; omega, q2, h4⟩, by simp; omega⟩
      · rw [if_pos her] at h4
        rw [decide_eq_true her]
        exact OptW.some_iff.2 ⟨[], h4, LOw.nil (h3.ext' w2 x2).wf (h3.ext' w2 x2).ext, by simp⟩
end Go.Am
/- LexO -/
set_option linter.unusedVariables false
set_option linter.unusedSimpArgs false
namespace Go.Am
theorem ref_Scan {s : ByteArray} (hs : s.size < 2 ^ 62) {σ : AHeap} (hσ : Wf σ) : OptW (G_semvcsref01_Scan s σ) (ScanR σ s) := by
  unfold G_semvcsref01_Scan
  simp only [lt_eq]
  by_cases hb : 4096 < s.size
  · rw [decide_eq_true (by omega)]
    refine OptW.some_iff.2 ⟨[], ?_, LOw.nil hσ (Ext.refl σ), by simp⟩
    unfold scanA; rw [if_pos hb]
  · rw [decide_eq_false (by omega)]
    simp only [cond_false]
    unfold ScanR scanA
    rw [if_neg hb]
    exact OptW.bdI (ref_scan (by omega) hσ) (fun a h => OptW.some_iff.2 h)
def exT : ByteArray := ⟨#[120, 32, 35, 97, 10, 43, 32, 49, 48, 32]⟩
def exF : ByteArray := ⟨#[120, 49]⟩
theorem scanTo_step {p : Int → Bool} {s : ByteArray} {i : Nat} (h : i < s.size) (hp : p (B s i) = true) : scanTo p s i = scanTo p s (i + 1) := by
  rw [scanTo, dif_pos h, if_pos hp]
theorem scanTo_stop {p : Int → Bool} {s : ByteArray} {i : Nat} (h : i < s.size) (hp : p (B s i) = false) : scanTo p s i = i := by
  rw [scanTo, dif_pos h, if_neg (by rw [hp]; exact Bool.false_ne_true)]
theorem scanTo_end {p : Int → Bool} {s : ByteArray} {i : Nat} (h : ¬ i < s.size) : scanTo p s i = i := by
  rw [scanTo, dif_neg h]
theorem leadS_stop {s : ByteArray} {i : Nat} (h : i < s.size) (h1 : B s i ≠ 35) (h2 : whiteB (B s i) = false) : leadS s false i = (i, false) := by
  rw [leadS, dif_pos h, if_neg Bool.false_ne_true, if_neg h1, if_neg (by rw [h2]; exact Bool.false_ne_true)]
theorem leadS_white {s : ByteArray} {i : Nat} (h : i < s.size) (h1 : B s i ≠ 35) (h2 : whiteB (B s i) = true) : leadS s false i = leadS s false (i + 1) := by
  rw [leadS, dif_pos h, if_neg Bool.false_ne_true, if_neg h1, if_pos h2]
theorem leadS_hash {s : ByteArray} {i : Nat} (h : i < s.size) (h1 : B s i = 35) : leadS s false i = leadS s true (i + 1) := by
  rw [leadS, dif_pos h, if_neg Bool.false_ne_true, if_pos h1]
theorem leadS_in {s : ByteArray} {i : Nat} (h : i < s.size) (h1 : allowedB (B s i) = true) : leadS s true i = leadS s (decide (B s i ≠ 10)) (i + 1) := by
  rw [leadS, dif_pos h, if_pos rfl, if_pos h1]
theorem leadS_end {s : ByteArray} {i : Nat} {c : Bool} (h : ¬ i < s.size) : leadS s c i = (i, false) := by
  rw [leadS, dif_neg h]
theorem scanS_tok {s : ByteArray} {i n e : Nat} {acc : List Tok} {k w : Int} (hl : leadS s false i = (n, false)) (hn : n < s.size) (ht : tokS s n = (k, (e : Int), w, 0)) (hi : i < e) : scanS s i acc = scanS s e (acc ++ [(k, s.extract i n, s.extract n e)]) := by
  have hle := leadS_ge s false i
  rw [hl] at hle
  simp only at hle
  rw [scanS]
  rw [hl]
  simp only [ht, Bool.false_eq_true, if_false]
  rw [if_neg (by omega), if_neg (by simp), dif_pos ⟨by simpa using hi, by omega⟩]
  simp
theorem scanS_end {s : ByteArray} {i : Nat} {acc : List Tok} (hl : leadS s false i = (s.size, false)) : scanS s i acc = (acc, s.extract i s.size, 0, 0) := by
  rw [scanS, hl]
  simp
theorem exT_scan : scanA exT = ([(1, (⟨#[]⟩ : ByteArray), ⟨#[120]⟩), (8, ⟨#[32, 35, 97, 10]⟩, ⟨#[43]⟩), (5, ⟨#[32]⟩, ⟨#[49, 48]⟩)], ⟨#[32]⟩, 0, 0) := by
  unfold scanA
  rw [if_neg (by decide)]
  have s0 : tokS exT 0 = (1, ((1 : Nat) : Int), 0, 0) := by
    unfold tokS
    rw [if_pos (by decide)]
    unfold wordT
    rw [scanTo_step (p := innerB) (i := 0) (by decide) (by decide), scanTo_stop (p := innerB) (i := 1) (by decide) (by decide), show resB (exT.extract 0 1) = false from rfl]
    unfold wordS
    rw [if_neg (by decide), if_neg (by decide), if_neg (by decide), if_neg (by decide)]
  have s1 : tokS exT 5 = (8, ((6 : Nat) : Int), 0, 0) := by
    unfold tokS
    rw [if_neg (by decide), if_neg (by decide), if_neg (by decide), if_neg (by decide), if_pos (by decide)]
  have s2 : tokS exT 7 = (5, ((9 : Nat) : Int), 0, 0) := by
    unfold tokS
    rw [if_neg (by decide), if_pos (by decide)]
    rw [scanTo_step (p := digitB) (i := 7) (by decide) (by decide), scanTo_step (p := digitB) (i := 8) (by decide) (by decide), scanTo_stop (p := digitB) (i := 9) (by decide) (by decide)]
    rw [if_neg (by decide), if_neg (by decide)]
  have l0 : leadS exT false 0 = (0, false) := leadS_stop (by decide) (by decide) (by decide)
  have l1 : leadS exT false 1 = (5, false) := by
    rw [leadS_white (by decide) (by decide) (by decide), leadS_hash (by decide) (by decide), leadS_in (by decide) (by decide), show decide (B exT 3 ≠ 10) = true by decide, leadS_in (by decide) (by decide), show decide (B exT 4 ≠ 10) = false by decide]
    exact leadS_stop (by decide) (by decide) (by decide)
  have l6 : leadS exT false 6 = (7, false) := by
    rw [leadS_white (by decide) (by decide) (by decide)]
    exact leadS_stop (by decide) (by decide) (by decide)
  have l9 : leadS exT false 9 = (10, false) := by
    rw [leadS_white (by decide) (by decide) (by decide)]
    exact leadS_end (by decide)
  rw [scanS_tok l0 (by decide) s0 (by omega), scanS_tok l1 (by decide) s1 (by omega), scanS_tok l6 (by decide) s2 (by omega), scanS_end l9]
  rfl
theorem exF_scan : scanA exF = ([(1, (⟨#[]⟩ : ByteArray), ⟨#[120, 49]⟩)], ⟨#[]⟩, 0, 0) := by
  unfold scanA
  rw [if_neg (by decide)]
  have s0 : tokS exF 0 = (1, ((2 : Nat) : Int), 0, 0) := by
    unfold tokS
    rw [if_pos (by decide)]
    unfold wordT
    rw [scanTo_step (p := innerB) (i := 0) (by decide) (by decide), scanTo_step (p := innerB) (i := 1) (by decide) (by decide), scanTo_end (p := innerB) (i := 2) (by decide), show resB (exF.extract 0 2) = false from rfl]
    unfold wordS
    rw [if_neg (by decide), if_neg (by decide), if_neg (by decide), if_neg (by decide)]
  have l0 : leadS exF false 0 = (0, false) := leadS_stop (by decide) (by decide) (by decide)
  have l2 : leadS exF false 2 = (2, false) := leadS_end (by decide)
  rw [scanS_tok l0 (by decide) s0 (by omega), scanS_end l2]
  rfl
theorem class_x : classS (⟨#[120]⟩ : ByteArray) = 1 := by
  have s0 : tokS (⟨#[120]⟩ : ByteArray) 0 = (1, ((1 : Nat) : Int), 0, 0) := by
    unfold tokS
    rw [if_pos (by decide)]
    unfold wordT
    rw [scanTo_step (p := innerB) (i := 0) (by decide) (by decide), scanTo_end (p := innerB) (i := 1) (by decide), show resB ((⟨#[120]⟩ : ByteArray).extract 0 1) = false from rfl]
    unfold wordS
    rw [if_neg (by decide), if_neg (by decide), if_neg (by decide), if_neg (by decide)]
  unfold classS
  rw [s0]
  rfl
theorem class_1 : classS (⟨#[49]⟩ : ByteArray) = 5 := by
  have s0 : tokS (⟨#[49]⟩ : ByteArray) 0 = (5, ((1 : Nat) : Int), 0, 0) := by
    unfold tokS
    rw [if_neg (by decide), if_pos (by decide)]
    rw [scanTo_step (p := digitB) (i := 0) (by decide) (by decide), scanTo_end (p := digitB) (i := 1) (by decide)]
    rw [if_neg (by decide), if_neg (by decide)]
  unfold classS
  rw [s0]
  rfl
theorem Fuses_x1 {σ : AHeap} (hσ : Wf σ) : OptW (G_lex_Fuses (⟨#[120]⟩ : ByteArray) (⟨#[49]⟩ : ByteArray) σ) fun r => r.1 = true ∧ Wf r.2 ∧ Ext σ r.2 := by
  unfold G_lex_Fuses
  rw [lex_Class (by decide), class_x, bd_some]
  simp only [lt_eq, Int.reduceEq, decide_false, Bool.not_false, cond_true]
  rw [lex_Class (by decide), class_1, bd_some]
  simp only [Int.reduceEq, decide_false, Bool.or_self, cond_false]
  have ha : addS (⟨#[120]⟩ : ByteArray) (⟨#[49]⟩ : ByteArray) = some exF := rfl
  rw [ha, bd_some]
  refine OptW.bdI (lex_Scan (by decide) hσ) ?_
  rintro ⟨a, b, c, d, τ⟩ ⟨L, h1, h2, h3⟩
  rw [exF_scan] at h1
  injection h1 with q1 q2; injection q2 with q2 q3; injection q3 with q3 q4
  simp only at q2 q3 q4
  subst q1 q2 q3 q4
  have hn := h2.n
  simp only [List.length_singleton] at hn
  simp only [hn]
  exact OptW.some_iff.2 ⟨rfl, h2.wf, h2.ext⟩
theorem awake_true {σ : AHeap} (hσ : Wf σ) : OptW (G_semvcslaw01_awake σ) fun r => r.1 = true ∧ Wf r.2 ∧ Ext σ r.2 := by
  unfold G_semvcslaw01_awake
  refine OptW.bdI (lex_Scan (s := exT) (by decide) hσ) ?_
  rintro ⟨a, b, c, d, τ⟩ ⟨L, h1, h2, h3⟩
  rw [exT_scan] at h1
  injection h1 with q1 q2; injection q2 with q2 q3; injection q3 with q3 q4
  simp only at q2 q3 q4
  subst q1 q2 q3 q4
  have hn := h2.n
  obtain ⟨b0, i0, e0⟩ := h2.rd.at encTok_len (i := 0) (by decide)
  obtain ⟨b1, i1, e1⟩ := h2.rd.at encTok_len (i := 1) (by decide)
  obtain ⟨b2, i2, e2⟩ := h2.rd.at encTok_len (i := 2) (by decide)
  simp only [List.length_cons, List.length_nil, Nat.zero_add, Nat.reduceAdd] at hn
  simp only [lt_eq, hn]
  have i0' : iaSl a 3 0 = some (some ⟨b0, 0, none⟩) := i0
  have i1' : iaSl a 3 1 = some (some ⟨b1, 3, none⟩) := i1
  have i2' : iaSl a 3 2 = some (some ⟨b2, 6, none⟩) := i2
  have e0' : ld_i64_str_str τ (some ⟨b0, 0, none⟩) = some (1, (⟨#[]⟩ : ByteArray), ⟨#[120]⟩) := by
    unfold ld_i64_str_str; rw [e0 0 3 (by omega)]; rfl
  have e1' : ld_i64_str_str τ (some ⟨b1, 3, none⟩) = some (8, (⟨#[32, 35, 97, 10]⟩ : ByteArray), ⟨#[43]⟩) := by
    unfold ld_i64_str_str; rw [e1 0 3 (by omega)]; rfl
  have e2' : ld_i64_str_str τ (some ⟨b2, 6, none⟩) = some (5, (⟨#[32]⟩ : ByteArray), ⟨#[49, 48]⟩) := by
    unfold ld_i64_str_str; rw [e2 0 3 (by omega)]; rfl
  simp only [decide_true, Bool.and_true, Bool.true_and, show decide (((3 : Nat) : Int) = 3) = true from rfl, cond_true, i0', bd_some, e0', Int.reduceEq, show (⟨#[]⟩ : ByteArray) = ByteArray.empty from rfl, i1', e1', i2', e2']
  refine OptW.bdI (Fuses_x1 h2.wf) ?_
  rintro ⟨r, τ'⟩ ⟨hr, w, x⟩
  simp only at hr w x
  subst hr
  exact OptW.some_iff.2 ⟨rfl, w, h2.ext.trans x⟩
end Go.Am
/- LexP -/
set_option linter.unusedVariables false
set_option linter.unusedSimpArgs false
namespace Go.Am
theorem Same_true {σ : AHeap} {a b : Sl} {L : List Tok} (ha : LRd encTok σ T_semvcs_api_Token a L) (hb : LRd encTok σ T_semvcs_api_Token b L) (hL : L.length < 2 ^ 62) : G_semvcsref01_Same a b σ = some true := by
  unfold G_semvcsref01_Same
  simp only [lt_eq, ha.1, hb.1]
  simp only [ne_eq, not_true_eq_false, decide_false, cond_false]
  refine OptW.eq (OptW.bdI (C := fun r => r = .inl ()) ?_ (fun r hr => by subst hr; exact OptW.some_iff.2 rfl))
  refine OptW.loopI (fun y => ∃ i : Nat, y = (i : Int) ∧ i ≤ L.length) (fun y => L.length - y.toNat) ?_ _ ⟨0, rfl, by omega⟩
  rintro _ ⟨i, rfl, hi⟩
  unfold G_semvcsref01_Same_l1
  simp only [lt_eq, ha.1]
  by_cases h : i < L.length
  · rw [decide_eq_true (by omega)]
    obtain ⟨b1, i1, e1⟩ := ha.at encTok_len h
    obtain ⟨b2, i2, e2⟩ := hb.at encTok_len h
    simp only [cond_true]
    have q1 : ld_i64_str_str σ (some ⟨b1, i * 3, none⟩) = some L[i] := by
      unfold ld_i64_str_str; rw [show i * 3 = i * 3 + 0 from rfl, e1 0 3 (by omega)]; rfl
    have q2 : ld_i64_str_str σ (some ⟨b2, i * 3, none⟩) = some L[i] := by
      unfold ld_i64_str_str; rw [show i * 3 = i * 3 + 0 from rfl, e2 0 3 (by omega)]; rfl
    rw [i1, bd_some, q1, bd_some, i2, bd_some, q2, bd_some]
    rw [wrap64 (by omega) (by omega)]
    simp only [decide_true, Bool.and_true, Bool.not_true, cond_false]
    exact OptW.some_iff.2 ⟨⟨i + 1, by simp, h⟩, by simp; omega⟩
  · rw [decide_eq_false (by omega)]
    exact OptW.some_iff.2 rfl
theorem LexScans_true {a0 : ByteArray} (hs : a0.size < 2 ^ 62) {σ : AHeap} (hσ : Wf σ) : OptW (G_semvcslaw01_LexScans a0 σ) fun r => r.1 = true := by
  unfold G_semvcslaw01_LexScans
  simp only [lt_eq]
  refine OptW.bifI (fun _ => OptW.bdI (awake_true hσ) (fun r hr => OptW.some_iff.2 hr.1)) (fun _ => ?_)
  refine OptW.bdI (lex_Scan hs hσ) ?_
  rintro ⟨a1, a2, a3, a4, τ1⟩ ⟨L1, h1, o1, l1⟩
  refine OptW.bdI (ref_Scan hs o1.wf) ?_
  rintro ⟨b1, b2, b3, b4, τ2⟩ ⟨L2, h2, o2, l2⟩
  refine OptW.bdI (awake_true o2.wf) ?_
  rintro ⟨r, τ3⟩ ⟨hr, w3, x3⟩
  rw [← h1] at h2
  injection h2 with q1 q2; injection q2 with q2 q3; injection q3 with q3 q4
  simp only at q1 q2 q3 q4 hr w3 x3
  subst q1 q2 q3 q4 hr
  simp only [cond_true]
  rw [Same_true ((o1.rd.ext o2.ext).ext x3) (o2.rd.ext x3) (by omega)]
  exact OptW.some_iff.2 (by simp)
theorem LexClasses_true {a0 : ByteArray} (hs : a0.size < 2 ^ 62) {σ : AHeap} (hσ : Wf σ) : OptW (G_semvcslaw01_LexClasses a0 σ) fun r => r.1 = true := by
  unfold G_semvcslaw01_LexClasses
  refine OptW.bdI (awake_true hσ) ?_
  rintro ⟨r, τ3⟩ ⟨hr, w3, x3⟩
  simp only at hr w3 x3
  subst hr
  simp only [cond_true, lex_Class hs, bd_some]
  refine OptW.bdI (ref_Class hs w3) ?_
  rintro ⟨c, τ4⟩ ⟨hc, _, _⟩
  simp only at hc
  subst hc
  exact OptW.some_iff.2 (by simp [lt_eq])
end Go.Am
