/- Three laws of layer 1 about the plain functions. -/
import Derived.Test.YtfblbkmmjidknaaLexO
set_option linter.unusedVariables false
set_option linter.unusedSimpArgs false
namespace Go.Am
theorem Same_true {σ : AHeap} {a b : Sl} {L : List Tok} (ha : LRd encTok σ T_semvcs_api_Token a L) (hb : LRd encTok σ T_semvcs_api_Token b L) (hL : L.length < 2 ^ 62) : G_semvcsref01_Same a b σ = some true := by
  unfold G_semvcsref01_Same
  simp only [lt_eq, ha.1, hb.1]
  simp only [ne_eq, not_true_eq_false, decide_false, cond_false]
  refine OptW.eq (OptW.bdI (C := fun r => r = .inl ()) ?_ (fun r hr => by subst hr; exact OptW.some_iff.2 rfl))
  refine OptW.loopI (fun y => ∃ i : Nat, y = (i : Int) ∧ i ≤ L.length) (fun y => L.length - y.toNat) ?_ _ ⟨0, rfl, by omega⟩
  rintro _ ⟨i, rfl, hi⟩
  unfold G_semvcsref01_Same_l1
  simp only [lt_eq, ha.1]
  by_cases h : i < L.length
  · rw [decide_eq_true (by omega)]
    obtain ⟨b1, i1, e1⟩ := ha.at encTok_len h
    obtain ⟨b2, i2, e2⟩ := hb.at encTok_len h
    simp only [cond_true]
    have q1 : ld_i64_str_str σ (some ⟨b1, i * 3, none⟩) = some L[i] := by
      unfold ld_i64_str_str; rw [show i * 3 = i * 3 + 0 from rfl, e1 0 3 (by omega)]; rfl
    have q2 : ld_i64_str_str σ (some ⟨b2, i * 3, none⟩) = some L[i] := by
      unfold ld_i64_str_str; rw [show i * 3 = i * 3 + 0 from rfl, e2 0 3 (by omega)]; rfl
    rw [i1, bd_some, q1, bd_some, i2, bd_some, q2, bd_some]
    rw [wrap64 (by omega) (by omega)]
    simp only [decide_true, Bool.and_true, Bool.not_true, cond_false]
    exact OptW.some_iff.2 ⟨⟨i + 1, by simp, h⟩, by simp; omega⟩
  · rw [decide_eq_false (by omega)]
    exact OptW.some_iff.2 rfl
theorem LexScans_true {a0 : ByteArray} (hs : a0.size < 2 ^ 62) {σ : AHeap} (hσ : Wf σ) : OptW (G_semvcslaw01_LexScans a0 σ) fun r => r.1 = true := by
  unfold G_semvcslaw01_LexScans
  simp only [lt_eq]
  refine OptW.bifI (fun _ => OptW.bdI (awake_true hσ) (fun r hr => OptW.some_iff.2 hr.1)) (fun _ => ?_)
  refine OptW.bdI (lex_Scan hs hσ) ?_
  rintro ⟨a1, a2, a3, a4, τ1⟩ ⟨L1, h1, o1, l1⟩
  refine OptW.bdI (ref_Scan hs o1.wf) ?_
  rintro ⟨b1, b2, b3, b4, τ2⟩ ⟨L2, h2, o2, l2⟩
  refine OptW.bdI (awake_true o2.wf) ?_
  rintro ⟨r, τ3⟩ ⟨hr, w3, x3⟩
  rw [← h1] at h2
  injection h2 with q1 q2; injection q2 with q2 q3; injection q3 with q3 q4
  simp only at q1 q2 q3 q4 hr w3 x3
  subst q1 q2 q3 q4 hr
  simp only [cond_true]
  rw [Same_true ((o1.rd.ext o2.ext).ext x3) (o2.rd.ext x3) (by omega)]
  exact OptW.some_iff.2 (by simp)
theorem LexClasses_true {a0 : ByteArray} (hs : a0.size < 2 ^ 62) {σ : AHeap} (hσ : Wf σ) : OptW (G_semvcslaw01_LexClasses a0 σ) fun r => r.1 = true := by
  unfold G_semvcslaw01_LexClasses
  refine OptW.bdI (awake_true hσ) ?_
  rintro ⟨r, τ3⟩ ⟨hr, w3, x3⟩
  simp only at hr w3 x3
  subst hr
  simp only [cond_true, lex_Class hs, bd_some]
  refine OptW.bdI (ref_Class hs w3) ?_
  rintro ⟨c, τ4⟩ ⟨hc, _, _⟩
  simp only at hc
  subst hc
  exact OptW.some_iff.2 (by simp [lt_eq])
end Go.Am
