/- Words and numbers up to their limits: the law. -/
import Derived.Test.YtfblbkmmjidknaaLexR
set_option linter.unusedVariables false
set_option linter.unusedSimpArgs false
namespace Go.Am
theorem scan_pair {c : Int} {n : Nat} (hc : 97 ≤ c) (hc' : c ≤ 122) (h1 : 1 ≤ n) (h2 : n ≤ 60) :
    ∃ t : ByteArray, scanA ((⟨#[77, 46]⟩ : ByteArray) ++ repS c n ++ (⟨#[57]⟩ : ByteArray)) = if n + 1 ≤ 24 then ([(3, ⟨#[]⟩, t)], ⟨#[]⟩, 0, 0) else ([], ⟨#[]⟩, 0, 3) := by
  have hr := repS_size c n
  have h32 : (⟨#[77, 46]⟩ : ByteArray).size = 2 := rfl
  have h57 : (⟨#[57]⟩ : ByteArray).size = 1 := rfl
  have hz0 : ((⟨#[77, 46]⟩ : ByteArray) ++ repS c n).size = n + 2 := by rw [ByteArray.size_append, hr, h32]; omega
  have hz : ((⟨#[77, 46]⟩ : ByteArray) ++ repS c n ++ (⟨#[57]⟩ : ByteArray)).size = n + 3 := by rw [ByteArray.size_append, hz0, h57]
  have hB0 : B ((⟨#[77, 46]⟩ : ByteArray) ++ repS c n ++ (⟨#[57]⟩ : ByteArray)) 0 = 77 := by rw [B_append_left (by omega), B_append_left (by decide)]; rfl
  have hB1 : B ((⟨#[77, 46]⟩ : ByteArray) ++ repS c n ++ (⟨#[57]⟩ : ByteArray)) 1 = 46 := by rw [B_append_left (by omega), B_append_left (by decide)]; rfl
  have hBi : ∀ j, 2 ≤ j → j < n + 2 → B ((⟨#[77, 46]⟩ : ByteArray) ++ repS c n ++ (⟨#[57]⟩ : ByteArray)) j = c := by
    intro j hj hj'
    rw [B_append_left (by omega), B_append_right (by rw [h32]; omega), h32, B_repS (by omega) (by omega) (by omega)]
  have hBn : B ((⟨#[77, 46]⟩ : ByteArray) ++ repS c n ++ (⟨#[57]⟩ : ByteArray)) (n + 2) = 57 := by
    rw [B_append_right (by omega), hz0, Nat.sub_self]; rfl
  generalize (⟨#[77, 46]⟩ : ByteArray) ++ repS c n ++ (⟨#[57]⟩ : ByteArray) = s at *
  have hlet : letterB c = true := by unfold letterB; simp [hc, hc']
  have hin : innerB c = true := inner_letter hlet
  have hl : leadS s false 0 = (0, false) := leadS_stop (by omega) (by rw [hB0]; decide) (by rw [hB0]; rfl)
  have he1 : scanTo innerB s 0 = 1 := by
    rw [scanTo_step (by omega) (by rw [hB0]; rfl), scanTo_stop (by omega) (by rw [hB1]; rfl)]
  have he2 : scanTo innerB s 2 = n + 3 := by
    rw [scanTo_all (n + 1) 2 (by omega) (fun j hj hj' => by
      by_cases hjn : j < n + 2
      · rw [hBi j hj hjn]; exact hin
      · rw [show j = n + 2 by omega, hBn]; rfl), hz]
  have hr1 : resB (s.extract 0 1) = false := by
    apply res_same
    right
    rw [ByteArray.size_extract]; omega
  have hr2 : resB (s.extract 2 (n + 3)) = false := by
    apply res_digit
    rw [size_extract (by omega) (by omega), B_extract (by omega) (by omega), show 2 + (n + 3 - 2 - 1) = n + 2 by omega, hBn]
  have ht : tokS s 0 = if n + 1 ≤ 24 then (3, ((n + 3 : Nat) : Int), 0, 0) else (0, 0, 0, 3) := by
    unfold tokS
    rw [hB0, if_pos (by decide)]
    unfold wordT
    rw [he1, he2, hr1, hr2]
    unfold wordS
    rw [hB0, hB1, hBi 2 (by omega) (by omega), hlet]
    rw [if_pos (by simp; omega)]
    rw [if_neg Bool.false_ne_true, if_neg (show ¬ c ≤ 90 by omega)]
    by_cases hn : n + 1 ≤ 24
    · rw [if_pos hn, if_neg (by omega)]
    · rw [if_neg hn, if_pos (by omega)]; rfl
  unfold scanA
  rw [if_neg (by omega)]
  refine ⟨s.extract 0 (n + 3), ?_⟩
  by_cases hn : n + 1 ≤ 24
  · rw [if_pos hn] at ht ⊢
    rw [scanS_tok hl (by omega) ht (by omega)]
    have hend : leadS s false (n + 3) = (s.size, false) := by rw [leadS_end (by omega), hz]
    rw [scanS_end hend, hz]
    have h0 : s.extract (n + 3) (n + 3) = (⟨#[]⟩ : ByteArray) := ByteArray.eq_empty_iff.2 (by rw [ByteArray.size_extract]; omega)
    have h00 : s.extract 0 0 = (⟨#[]⟩ : ByteArray) := ByteArray.eq_empty_iff.2 (by rw [ByteArray.size_extract]; omega)
    rw [h0, h00]; rfl
  · rw [if_neg hn] at ht ⊢
    rw [scanS, hl, ht]
    simp
    omega
theorem Mod60 {n : Int} : ∃ k : Nat, k < 60 ∧ G_semvcsmake_Mod n 60 = some (k : Int) := by
  unfold G_semvcsmake_Mod G_semvcsmake_Mod_j1 remI
  rw [if_neg (by decide), bd_some]
  simp only [lt_eq]
  have h1 : -60 < n.tmod 60 := Int.lt_tmod_of_pos n (by decide)
  have h2 : n.tmod 60 < 60 := Int.tmod_lt_of_pos n (by decide)
  by_cases h : n.tmod 60 < 0
  · rw [decide_eq_true h]
    exact ⟨(n.tmod 60 + 60).toNat, by omega, by simp only [cond_true]; rw [wrap64 (by omega) (by omega)]; congr 1; omega⟩
  · rw [decide_eq_false h]
    exact ⟨(n.tmod 60).toNat, by omega, by simp only [cond_false]; congr 1; omega⟩
theorem u8_range {c : Int} (h : (Lit.int .u8 c).wf = true) : 0 ≤ c ∧ c < 256 := by
  simp [Lit.wf, IntKind.wrap, IntKind.min, IntKind.max, IntKind.bits, IntKind.signed] at h
  omega
theorem tok_at {σ : AHeap} {sl : Sl} {t : Tok} (h : LRd encTok σ T_semvcs_api_Token sl [t]) : ∃ b, iaSl sl 3 0 = some (some ⟨b, 0, none⟩) ∧ ld_i64 σ (some ⟨b, 0, none⟩) = some t.1 ∧ ld_str σ (some ⟨b, 2, none⟩) = some t.2.2 := by
  obtain ⟨b, i0, e0⟩ := h.at encTok_len (i := 0) (by simp)
  refine ⟨b, i0, ?_, ?_⟩
  · have := e0 0 1 (by omega)
    unfold ld_i64
    rw [show (⟨b, 0, none⟩ : Addr) = ⟨b, 0 * 3 + 0, none⟩ from rfl, this]; rfl
  · have := e0 2 1 (by omega)
    unfold ld_str
    rw [show (⟨b, 2, none⟩ : Addr) = ⟨b, 0 * 3 + 2, none⟩ from rfl, this]; rfl
theorem addS_eq {a b : ByteArray} (h : a.size + b.size < 2 ^ 62) : addS a b = some (a ++ b) := by
  unfold addS; rw [if_pos (by omega)]
theorem LexLimits_true {a0 a1 : Int} (w0 : (Lit.int .i64 a0).wf = true) (w1 : (Lit.int .u8 a1).wf = true) {σ : AHeap} (hσ : Wf σ) : OptW (G_semvcslaw01_LexLimits a0 a1 σ) fun r => r.1 = true := by
  obtain ⟨hc0, hc1⟩ := u8_range w1
  unfold G_semvcslaw01_LexLimits
  obtain ⟨k, hk, hm⟩ := Mod60 (n := a0)
  rw [hm, bd_some]
  simp only [lt_eq]
  have t1 : 0 ≤ a1.tmod 26 := Int.tmod_nonneg 26 hc0
  have t2 : a1.tmod 26 < 26 := Int.tmod_lt_of_pos a1 (by decide)
  have t3 : 0 ≤ a1.tmod 9 := Int.tmod_nonneg 9 hc0
  have t4 : a1.tmod 9 < 9 := Int.tmod_lt_of_pos a1 (by decide)
  have e5 : IntKind.wrap .i64 (1 + (k : Int)) = ((k + 1 : Nat) : Int) := by rw [wrap64 (by omega) (by omega)]; omega
  rw [e5, wrap8 (x := 97 + a1.tmod 26) (by omega) (by omega), wrap8 (x := 49 + a1.tmod 9) (by omega) (by omega)]
  have d1 : 97 ≤ 97 + a1.tmod 26 ∧ 97 + a1.tmod 26 ≤ 122 := by omega
  have d2 : 49 ≤ 49 + a1.tmod 9 ∧ 49 + a1.tmod 9 ≤ 57 := by omega
  generalize 97 + a1.tmod 26 = c at d1
  generalize 49 + a1.tmod 9 = d at d2
  have hn : 1 ≤ k + 1 ∧ k + 1 ≤ 60 := by omega
  generalize k + 1 = n at hn
  have s1 := scan_word d1.1 d1.2 hn.1 hn.2
  have s2 := scan_number d2.1 d2.2 hn.1 hn.2
  obtain ⟨t, s3⟩ := scan_pair d1.1 d1.2 hn.1 hn.2
  have z1 := repS_size c n
  have z2 := repS_size d n
  refine OptW.bdI (many_rep (by omega) hσ) ?_
  rintro ⟨x9, σ10⟩ ⟨h1, w1, e1⟩
  simp only at h1 w1 e1
  subst h1
  refine OptW.bdI (many_rep (by omega) w1) ?_
  rintro ⟨x14, σ15⟩ ⟨h2, w2, e2⟩
  simp only at h2 w2 e2 ⊢
  subst h2
  have g32 : (⟨#[32]⟩ : ByteArray).size = 1 := rfl
  have g77 : (⟨#[77, 46]⟩ : ByteArray).size = 2 := rfl
  have g57 : (⟨#[57]⟩ : ByteArray).size = 1 := rfl
  rw [addS_eq (by omega), bd_some]
  refine OptW.bdI (lex_Scan (by rw [ByteArray.size_append]; omega) w2) ?_
  rintro ⟨b1, b2, b3, b4, σ25⟩ ⟨L1, q1, o1, _⟩
  simp only at o1 ⊢
  rw [addS_eq (by omega), bd_some]
  refine OptW.bdI (lex_Scan (by rw [ByteArray.size_append]; omega) o1.wf) ?_
  rintro ⟨b5, b6, b7, b8, σ35⟩ ⟨L2, q2, o2, _⟩
  simp only at o2 ⊢
  rw [addS_eq (by omega), bd_some, addS_eq (by rw [ByteArray.size_append]; omega), bd_some]
  refine OptW.bdI (lex_Scan (by rw [ByteArray.size_append, ByteArray.size_append]; omega) o2.wf) ?_
  rintro ⟨b9, b10, b11, b12, σ46⟩ ⟨L3, q3, o3, _⟩
  simp only at o3 q1 q2 q3 ⊢
  refine OptW.bdI (awake_true o3.wf) ?_
  rintro ⟨r, σ53⟩ ⟨hr, w5, e5⟩
  simp only at hr w5 e5 ⊢
  subst hr
  rw [s1] at q1
  rw [s2] at q2
  rw [s3] at q3
  have r1 := (o1.rd.ext (o2.ext.trans o3.ext)).ext e5
  have r2 := (o2.rd.ext o3.ext).ext e5
  have r3 := o3.rd.ext e5
  rw [wrap64 (x := (n : Int) + 1) (by omega) (by omega)]
  have n1 := r1.1
  have n2 := r2.1
  have n3 := r3.1
  by_cases k1 : n ≤ 24
  · rw [if_pos k1] at q1
    injection q1 with q1 p1; injection p1 with p1 p2; injection p2 with p2 p3
    subst q1 p1 p2 p3
    obtain ⟨f1, i1, _, v1⟩ := tok_at r1
    have K1 : decide ((n : Int) ≤ 24) = true := decide_eq_true (by omega)
    by_cases k2 : n ≤ 15
    · rw [if_pos k2] at q2
      injection q2 with q2 p1; injection p1 with p1 p2; injection p2 with p2 p3
      subst q2 p1 p2 p3
      obtain ⟨f2, i2, _, v2⟩ := tok_at r2
      have K2 : decide ((n : Int) ≤ 15) = true := decide_eq_true (by omega)
      rw [if_pos (by omega)] at q3
      injection q3 with q3 p1; injection p1 with p1 p2; injection p2 with p2 p3
      subst q3 p1 p2 p3
      obtain ⟨f3, i3, v3, _⟩ := tok_at r3
      have K3 : decide ((n : Int) + 1 ≤ 24) = true := decide_eq_true (by omega)
      simp [K1, K2, K3, n1, n2, n3, i1, i2, i3, v1, v2, v3, bd_some, offP_at, OptW]
    · rw [if_neg k2] at q2
      injection q2 with q2 p1; injection p1 with p1 p2; injection p2 with p2 p3
      subst q2 p1 p2 p3
      have K2 : decide ((n : Int) ≤ 15) = false := decide_eq_false (by omega)
      by_cases k3 : n + 1 ≤ 24
      · rw [if_pos k3] at q3
        injection q3 with q3 p1; injection p1 with p1 p2; injection p2 with p2 p3
        subst q3 p1 p2 p3
        obtain ⟨f3, i3, v3, _⟩ := tok_at r3
        have K3 : decide ((n : Int) + 1 ≤ 24) = true := decide_eq_true (by omega)
        simp [K1, K2, K3, n1, n2, n3, i1, i3, v1, v3, bd_some, offP_at, OptW]
      · rw [if_neg k3] at q3
        injection q3 with q3 p1; injection p1 with p1 p2; injection p2 with p2 p3
        subst q3 p1 p2 p3
        have K3 : decide ((n : Int) + 1 ≤ 24) = false := decide_eq_false (by omega)
        simp [K1, K2, K3, n1, n2, n3, i1, v1, bd_some, offP_at, OptW]
  · rw [if_neg k1] at q1
    injection q1 with q1 p1; injection p1 with p1 p2; injection p2 with p2 p3
    subst q1 p1 p2 p3
    rw [if_neg (by omega)] at q2
    injection q2 with q2 p1; injection p1 with p1 p2; injection p2 with p2 p3
    subst q2 p1 p2 p3
    rw [if_neg (by omega)] at q3
    injection q3 with q3 p1; injection p1 with p1 p2; injection p2 with p2 p3
    subst q3 p1 p2 p3
    have K1 : decide ((n : Int) ≤ 24) = false := decide_eq_false (by omega)
    have K2 : decide ((n : Int) ≤ 15) = false := decide_eq_false (by omega)
    have K3 : decide ((n : Int) + 1 ≤ 24) = false := decide_eq_false (by omega)
    simp [K1, K2, K3, n1, n2, n3, bd_some, offP_at, OptW]
end Go.Am
