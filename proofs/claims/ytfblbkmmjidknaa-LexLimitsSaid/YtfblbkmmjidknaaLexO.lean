/- The sanity check of the chapter: the example. -/
import Derived.Test.YtfblbkmmjidknaaLexN
set_option linter.unusedVariables false
set_option linter.unusedSimpArgs false
namespace Go.Am
theorem ref_Scan {s : ByteArray} (hs : s.size < 2 ^ 62) {σ : AHeap} (hσ : Wf σ) : OptW (G_semvcsref01_Scan s σ) (ScanR σ s) := by
  unfold G_semvcsref01_Scan
  simp only [lt_eq]
  by_cases hb : 4096 < s.size
  · rw [decide_eq_true (by omega)]
    refine OptW.some_iff.2 ⟨[], ?_, LOw.nil hσ (Ext.refl σ), by simp⟩
    unfold scanA; rw [if_pos hb]
  · rw [decide_eq_false (by omega)]
    simp only [cond_false]
    unfold ScanR scanA
    rw [if_neg hb]
    exact OptW.bdI (ref_scan (by omega) hσ) (fun a h => OptW.some_iff.2 h)
def exT : ByteArray := ⟨#[120, 32, 35, 97, 10, 43, 32, 49, 48, 32]⟩
def exF : ByteArray := ⟨#[120, 49]⟩
theorem scanTo_step {p : Int → Bool} {s : ByteArray} {i : Nat} (h : i < s.size) (hp : p (B s i) = true) : scanTo p s i = scanTo p s (i + 1) := by
  rw [scanTo, dif_pos h, if_pos hp]
theorem scanTo_stop {p : Int → Bool} {s : ByteArray} {i : Nat} (h : i < s.size) (hp : p (B s i) = false) : scanTo p s i = i := by
  rw [scanTo, dif_pos h, if_neg (by rw [hp]; exact Bool.false_ne_true)]
theorem scanTo_end {p : Int → Bool} {s : ByteArray} {i : Nat} (h : ¬ i < s.size) : scanTo p s i = i := by
  rw [scanTo, dif_neg h]
theorem leadS_stop {s : ByteArray} {i : Nat} (h : i < s.size) (h1 : B s i ≠ 35) (h2 : whiteB (B s i) = false) : leadS s false i = (i, false) := by
  rw [leadS, dif_pos h, if_neg Bool.false_ne_true, if_neg h1, if_neg (by rw [h2]; exact Bool.false_ne_true)]
theorem leadS_white {s : ByteArray} {i : Nat} (h : i < s.size) (h1 : B s i ≠ 35) (h2 : whiteB (B s i) = true) : leadS s false i = leadS s false (i + 1) := by
  rw [leadS, dif_pos h, if_neg Bool.false_ne_true, if_neg h1, if_pos h2]
theorem leadS_hash {s : ByteArray} {i : Nat} (h : i < s.size) (h1 : B s i = 35) : leadS s false i = leadS s true (i + 1) := by
  rw [leadS, dif_pos h, if_neg Bool.false_ne_true, if_pos h1]
theorem leadS_in {s : ByteArray} {i : Nat} (h : i < s.size) (h1 : allowedB (B s i) = true) : leadS s true i = leadS s (decide (B s i ≠ 10)) (i + 1) := by
  rw [leadS, dif_pos h, if_pos rfl, if_pos h1]
theorem leadS_end {s : ByteArray} {i : Nat} {c : Bool} (h : ¬ i < s.size) : leadS s c i = (i, false) := by
  rw [leadS, dif_neg h]
theorem scanS_tok {s : ByteArray} {i n e : Nat} {acc : List Tok} {k w : Int} (hl : leadS s false i = (n, false)) (hn : n < s.size) (ht : tokS s n = (k, (e : Int), w, 0)) (hi : i < e) : scanS s i acc = scanS s e (acc ++ [(k, s.extract i n, s.extract n e)]) := by
  have hle := leadS_ge s false i
  rw [hl] at hle
  simp only at hle
  rw [scanS]
  rw [hl]
  simp only [ht, Bool.false_eq_true, if_false]
  rw [if_neg (by omega), if_neg (by simp), dif_pos ⟨by simpa using hi, by omega⟩]
  simp
theorem scanS_end {s : ByteArray} {i : Nat} {acc : List Tok} (hl : leadS s false i = (s.size, false)) : scanS s i acc = (acc, s.extract i s.size, 0, 0) := by
  rw [scanS, hl]
  simp
theorem exT_scan : scanA exT = ([(1, (⟨#[]⟩ : ByteArray), ⟨#[120]⟩), (8, ⟨#[32, 35, 97, 10]⟩, ⟨#[43]⟩), (5, ⟨#[32]⟩, ⟨#[49, 48]⟩)], ⟨#[32]⟩, 0, 0) := by
  unfold scanA
  rw [if_neg (by decide)]
  have s0 : tokS exT 0 = (1, ((1 : Nat) : Int), 0, 0) := by
    unfold tokS
    rw [if_pos (by decide)]
    unfold wordT
    rw [scanTo_step (p := innerB) (i := 0) (by decide) (by decide), scanTo_stop (p := innerB) (i := 1) (by decide) (by decide), show resB (exT.extract 0 1) = false from rfl]
    unfold wordS
    rw [if_neg (by decide), if_neg (by decide), if_neg (by decide), if_neg (by decide)]
  have s1 : tokS exT 5 = (8, ((6 : Nat) : Int), 0, 0) := by
    unfold tokS
    rw [if_neg (by decide), if_neg (by decide), if_neg (by decide), if_neg (by decide), if_pos (by decide)]
  have s2 : tokS exT 7 = (5, ((9 : Nat) : Int), 0, 0) := by
    unfold tokS
    rw [if_neg (by decide), if_pos (by decide)]
    rw [scanTo_step (p := digitB) (i := 7) (by decide) (by decide), scanTo_step (p := digitB) (i := 8) (by decide) (by decide), scanTo_stop (p := digitB) (i := 9) (by decide) (by decide)]
    rw [if_neg (by decide), if_neg (by decide)]
  have l0 : leadS exT false 0 = (0, false) := leadS_stop (by decide) (by decide) (by decide)
  have l1 : leadS exT false 1 = (5, false) := by
    rw [leadS_white (by decide) (by decide) (by decide), leadS_hash (by decide) (by decide), leadS_in (by decide) (by decide), show decide (B exT 3 ≠ 10) = true by decide, leadS_in (by decide) (by decide), show decide (B exT 4 ≠ 10) = false by decide]
    exact leadS_stop (by decide) (by decide) (by decide)
  have l6 : leadS exT false 6 = (7, false) := by
    rw [leadS_white (by decide) (by decide) (by decide)]
    exact leadS_stop (by decide) (by decide) (by decide)
  have l9 : leadS exT false 9 = (10, false) := by
    rw [leadS_white (by decide) (by decide) (by decide)]
    exact leadS_end (by decide)
  rw [scanS_tok l0 (by decide) s0 (by omega), scanS_tok l1 (by decide) s1 (by omega), scanS_tok l6 (by decide) s2 (by omega), scanS_end l9]
  rfl
theorem exF_scan : scanA exF = ([(1, (⟨#[]⟩ : ByteArray), ⟨#[120, 49]⟩)], ⟨#[]⟩, 0, 0) := by
  unfold scanA
  rw [if_neg (by decide)]
  have s0 : tokS exF 0 = (1, ((2 : Nat) : Int), 0, 0) := by
    unfold tokS
    rw [if_pos (by decide)]
    unfold wordT
    rw [scanTo_step (p := innerB) (i := 0) (by decide) (by decide), scanTo_step (p := innerB) (i := 1) (by decide) (by decide), scanTo_end (p := innerB) (i := 2) (by decide), show resB (exF.extract 0 2) = false from rfl]
    unfold wordS
    rw [if_neg (by decide), if_neg (by decide), if_neg (by decide), if_neg (by decide)]
  have l0 : leadS exF false 0 = (0, false) := leadS_stop (by decide) (by decide) (by decide)
  have l2 : leadS exF false 2 = (2, false) := leadS_end (by decide)
  rw [scanS_tok l0 (by decide) s0 (by omega), scanS_end l2]
  rfl
theorem class_x : classS (⟨#[120]⟩ : ByteArray) = 1 := by
  have s0 : tokS (⟨#[120]⟩ : ByteArray) 0 = (1, ((1 : Nat) : Int), 0, 0) := by
    unfold tokS
    rw [if_pos (by decide)]
    unfold wordT
    rw [scanTo_step (p := innerB) (i := 0) (by decide) (by decide), scanTo_end (p := innerB) (i := 1) (by decide), show resB ((⟨#[120]⟩ : ByteArray).extract 0 1) = false from rfl]
    unfold wordS
    rw [if_neg (by decide), if_neg (by decide), if_neg (by decide), if_neg (by decide)]
  unfold classS
  rw [s0]
  rfl
theorem class_1 : classS (⟨#[49]⟩ : ByteArray) = 5 := by
  have s0 : tokS (⟨#[49]⟩ : ByteArray) 0 = (5, ((1 : Nat) : Int), 0, 0) := by
    unfold tokS
    rw [if_neg (by decide), if_pos (by decide)]
    rw [scanTo_step (p := digitB) (i := 0) (by decide) (by decide), scanTo_end (p := digitB) (i := 1) (by decide)]
    rw [if_neg (by decide), if_neg (by decide)]
  unfold classS
  rw [s0]
  rfl
theorem Fuses_x1 {σ : AHeap} (hσ : Wf σ) : OptW (G_lex_Fuses (⟨#[120]⟩ : ByteArray) (⟨#[49]⟩ : ByteArray) σ) fun r => r.1 = true ∧ Wf r.2 ∧ Ext σ r.2 := by
  unfold G_lex_Fuses
  rw [lex_Class (by decide), class_x, bd_some]
  simp only [lt_eq, Int.reduceEq, decide_false, Bool.not_false, cond_true]
  rw [lex_Class (by decide), class_1, bd_some]
  simp only [Int.reduceEq, decide_false, Bool.or_self, cond_false]
  have ha : addS (⟨#[120]⟩ : ByteArray) (⟨#[49]⟩ : ByteArray) = some exF := rfl
  rw [ha, bd_some]
  refine OptW.bdI (lex_Scan (by decide) hσ) ?_
  rintro ⟨a, b, c, d, τ⟩ ⟨L, h1, h2, h3⟩
  rw [exF_scan] at h1
  injection h1 with q1 q2; injection q2 with q2 q3; injection q3 with q3 q4
  simp only at q2 q3 q4
  subst q1 q2 q3 q4
  have hn := h2.n
  simp only [List.length_singleton] at hn
  simp only [hn]
  exact OptW.some_iff.2 ⟨rfl, h2.wf, h2.ext⟩
theorem awake_true {σ : AHeap} (hσ : Wf σ) : OptW (G_semvcslaw01_awake σ) fun r => r.1 = true ∧ Wf r.2 ∧ Ext σ r.2 := by
  unfold G_semvcslaw01_awake
  refine OptW.bdI (lex_Scan (s := exT) (by decide) hσ) ?_
  rintro ⟨a, b, c, d, τ⟩ ⟨L, h1, h2, h3⟩
  rw [exT_scan] at h1
  injection h1 with q1 q2; injection q2 with q2 q3; injection q3 with q3 q4
  simp only at q2 q3 q4
  subst q1 q2 q3 q4
  have hn := h2.n
  obtain ⟨b0, i0, e0⟩ := h2.rd.at encTok_len (i := 0) (by decide)
  obtain ⟨b1, i1, e1⟩ := h2.rd.at encTok_len (i := 1) (by decide)
  obtain ⟨b2, i2, e2⟩ := h2.rd.at encTok_len (i := 2) (by decide)
  simp only [List.length_cons, List.length_nil, Nat.zero_add, Nat.reduceAdd] at hn
  simp only [lt_eq, hn]
  have i0' : iaSl a 3 0 = some (some ⟨b0, 0, none⟩) := i0
  have i1' : iaSl a 3 1 = some (some ⟨b1, 3, none⟩) := i1
  have i2' : iaSl a 3 2 = some (some ⟨b2, 6, none⟩) := i2
  have e0' : ld_i64_str_str τ (some ⟨b0, 0, none⟩) = some (1, (⟨#[]⟩ : ByteArray), ⟨#[120]⟩) := by
    unfold ld_i64_str_str; rw [e0 0 3 (by omega)]; rfl
  have e1' : ld_i64_str_str τ (some ⟨b1, 3, none⟩) = some (8, (⟨#[32, 35, 97, 10]⟩ : ByteArray), ⟨#[43]⟩) := by
    unfold ld_i64_str_str; rw [e1 0 3 (by omega)]; rfl
  have e2' : ld_i64_str_str τ (some ⟨b2, 6, none⟩) = some (5, (⟨#[32]⟩ : ByteArray), ⟨#[49, 48]⟩) := by
    unfold ld_i64_str_str; rw [e2 0 3 (by omega)]; rfl
  simp only [decide_true, Bool.and_true, Bool.true_and, show decide (((3 : Nat) : Int) = 3) = true from rfl, cond_true, i0', bd_some, e0', Int.reduceEq, show (⟨#[]⟩ : ByteArray) = ByteArray.empty from rfl, i1', e1', i2', e2']
  refine OptW.bdI (Fuses_x1 h2.wf) ?_
  rintro ⟨r, τ'⟩ ⟨hr, w, x⟩
  simp only at hr w x
  subst hr
  exact OptW.some_iff.2 ⟨rfl, w, h2.ext.trans x⟩
end Go.Am
