/- Words and numbers up to their limits. -/
import Derived.Test.YtfblbkmmjidknaaLexQ
import Derived.Test.YtfblbkmmjidknaaAmP5
set_option linter.unusedVariables false
set_option linter.unusedSimpArgs false
namespace Go.Am
theorem resB_not {w : ByteArray} (p : ByteArray → Bool) (hw : p w = false) (hp : ∀ c, p c = true → decide (w = c) = false)
   (h1 : p ⟨#[109, 111, 100, 117, 108, 101]⟩ = true) (h2 : p ⟨#[100, 101, 102]⟩ = true) (h3 : p ⟨#[116, 121, 112, 101]⟩ = true) (h4 : p ⟨#[108, 101, 116]⟩ = true) (h5 : p ⟨#[105, 110]⟩ = true) (h6 : p ⟨#[105, 102]⟩ = true)
   (h7 : p ⟨#[116, 104, 101, 110]⟩ = true) (h8 : p ⟨#[101, 108, 115, 101]⟩ = true) (h9 : p ⟨#[116, 114, 117, 101]⟩ = true) (h10 : p ⟨#[102, 97, 108, 115, 101]⟩ = true) (h11 : p ⟨#[73, 110, 116]⟩ = true) (h12 : p ⟨#[84, 101, 120, 116]⟩ = true) (h13 : p ⟨#[66, 111, 111, 108]⟩ = true) : resB w = false := by
  have : G_lex_reserved w = some false := by
    unfold G_lex_reserved G_lex_reserved_j1
    simp only [lt_eq, hp _ h1, hp _ h2, hp _ h3, hp _ h4, hp _ h5, hp _ h6, hp _ h7, hp _ h8, hp _ h9, hp _ h10, hp _ h11, hp _ h12, hp _ h13, cond_false]
  rw [lex_reserved] at this
  injection this
theorem ne_of_p {w : ByteArray} (p : ByteArray → Bool) (hw : p w = false) (c : ByteArray) (hc : p c = true) : decide (w = c) = false := by
  apply decide_eq_false
  intro e; subst e; rw [hw] at hc; cases hc
theorem res_same {w : ByteArray} (h : B w 0 = B w 1 ∨ w.size < 2) : resB w = false := by
  have hp : (decide (B w 0 ≠ B w 1) && decide (2 ≤ w.size)) = false := by
    rcases h with h | h
    · simp [h]
    · simp; omega
  refine resB_not (fun c => decide (B c 0 ≠ B c 1) && decide (2 ≤ c.size)) hp (ne_of_p (fun c => decide (B c 0 ≠ B c 1) && decide (2 ≤ c.size)) hp) ?_ ?_ ?_ ?_ ?_ ?_ ?_ ?_ ?_ ?_ ?_ ?_ ?_ <;> decide
theorem res_digit {w : ByteArray} (h : B w (w.size - 1) = 57) : resB w = false := by
  have hp : decide (B w (w.size - 1) ≠ 57) = false := by simp [h]
  refine resB_not (fun c => decide (B c (c.size - 1) ≠ 57)) hp (ne_of_p (fun c => decide (B c (c.size - 1) ≠ 57)) hp) ?_ ?_ ?_ ?_ ?_ ?_ ?_ ?_ ?_ ?_ ?_ ?_ ?_ <;> decide
def repS (c : Int) (n : Nat) : ByteArray := bytesS (List.replicate n c)
theorem repS_size (c : Int) (n : Nat) : (repS c n).size = n := by unfold repS; rw [bytesS_size, List.length_replicate]
theorem B_repS {c : Int} {n i : Nat} (h : i < n) (h0 : 0 ≤ c) (h1 : c < 256) : B (repS c n) i = c := by
  unfold repS
  rw [B_bytesS (by simpa using h) (by simpa using h0) (by simpa using h1)]
  simp
theorem many_rep {c : Int} {n : Nat} (hn : n ≤ 1000) {σ : AHeap} (hσ : Wf σ) : OptW (G_semvcslaw01_many c n σ) fun r => r.1 = repS c n ∧ Wf r.2 ∧ Ext σ r.2 := by
  unfold G_semvcslaw01_many
  refine OptW.bdI (C := fun r => LOw encB σ r.2 T_u8 r.1 (List.replicate n c)) ?_ ?_
  · refine OptW.loopI (fun y => ∃ i : Nat, y.2.1 = (i : Int) ∧ i ≤ n ∧ LOw encB σ y.2.2 T_u8 y.1 (List.replicate i c)) (fun y => n - y.2.1.toNat) ?_ _ ⟨0, rfl, by omega, LOw.nil hσ (Ext.refl σ)⟩
    rintro ⟨b, p, τ⟩ ⟨i, hp, h1, h2⟩
    simp only at hp h2
    subst hp
    unfold G_semvcslaw01_many_l1
    simp only [lt_eq]
    by_cases h : i < n
    · rw [decide_eq_true (by omega)]
      obtain ⟨sl', σ', q1, q2, _⟩ := ap_own encB_len (by omega) h2 c (b := 1) (by simp; omega)
      have q1' : apSl (newSl τ T_u8 1 [Value.int .u8 c]).2 T_u8 1 1 b (newSl τ T_u8 1 [Value.int .u8 c]).1 = some (sl', σ') := q1
      simp only [cond_true, newSl] at q1' ⊢
      rw [q1', bd_some, wrap64 (by omega) (by omega)]
      refine OptW.some_iff.2 ⟨⟨i + 1, by simp, h, ?_⟩, by simp; omega⟩
      rw [List.replicate_succ']; exact q2
    · rw [decide_eq_false (by omega)]
      have : i = n := by omega
      subst this
      exact OptW.some_iff.2 h2
  · rintro ⟨b, τ⟩ h
    simp only at h ⊢
    rw [strOf_enc h.rd, bd_some]
    exact OptW.some_iff.2 ⟨rfl, h.wf, h.ext⟩
theorem scanTo_all {p : Int → Bool} {s : ByteArray} : ∀ (k i : Nat), s.size = i + k → (∀ j, i ≤ j → j < s.size → p (B s j) = true) → scanTo p s i = s.size := by
  intro k
  induction k with
  | zero => intro i h _; rw [scanTo_end (by omega)]; omega
  | succ k ih => intro i h hp; rw [scanTo_step (by omega) (hp i (by omega) (by omega))]; exact ih (i + 1) (by omega) (fun j hj hj' => hp j (by omega) hj')
theorem scan_word {c : Int} {n : Nat} (hc : 97 ≤ c) (hc' : c ≤ 122) (h1 : 1 ≤ n) (h2 : n ≤ 60) :
    scanA ((⟨#[32]⟩ : ByteArray) ++ repS c n) = if n ≤ 24 then ([(1, ⟨#[32]⟩, repS c n)], ⟨#[]⟩, 0, 0) else ([], ⟨#[]⟩, 1, 3) := by
  have hr := repS_size c n
  have h32 : (⟨#[32]⟩ : ByteArray).size = 1 := rfl
  have hz : ((⟨#[32]⟩ : ByteArray) ++ repS c n).size = n + 1 := by rw [ByteArray.size_append, hr, h32]; omega
  have hB0 : B ((⟨#[32]⟩ : ByteArray) ++ repS c n) 0 = 32 := by rw [B_append_left (by decide)]; rfl
  have hBi : ∀ j, 1 ≤ j → j < n + 1 → B ((⟨#[32]⟩ : ByteArray) ++ repS c n) j = c := by
    intro j hj hj'
    rw [B_append_right (by rw [h32]; omega), h32, B_repS (by omega) (by omega) (by omega)]
  have hx1 : ((⟨#[32]⟩ : ByteArray) ++ repS c n).extract 0 1 = ⟨#[32]⟩ := ByteArray.extract_append_eq_left h32.symm
  have hx2 : ((⟨#[32]⟩ : ByteArray) ++ repS c n).extract 1 (n + 1) = repS c n := ByteArray.extract_append_eq_right h32.symm (by rw [h32, hr]; omega)
  generalize (⟨#[32]⟩ : ByteArray) ++ repS c n = s at *
  have hlet : letterB c = true := by unfold letterB; simp [hc, hc']
  have hin : innerB c = true := inner_letter hlet
  have hl : leadS s false 0 = (1, false) := by
    rw [leadS_white (by omega) (by rw [hB0]; decide) (by rw [hB0]; rfl), leadS_stop (by omega) (by rw [hBi 1 (by omega) (by omega)]; omega)]
    rw [hBi 1 (by omega) (by omega)]; unfold whiteB; simp; omega
  have he : scanTo innerB s 1 = n + 1 := by
    rw [scanTo_all n 1 (by omega) (fun j hj hj' => by rw [hBi j hj (by omega)]; exact hin), hz]
  have hres : resB (repS c n) = false := by
    apply res_same
    by_cases hn : n < 2
    · exact .inr (by rw [hr]; exact hn)
    · exact .inl (by rw [B_repS (by omega) (by omega) (by omega), B_repS (by omega) (by omega) (by omega)])
  have ht : tokS s 1 = if n ≤ 24 then (1, ((n + 1 : Nat) : Int), 0, 0) else (0, 0, 1, 3) := by
    unfold tokS
    rw [hBi 1 (by omega) (by omega), if_pos hlet]
    unfold wordT
    rw [he, hx2, hres]
    unfold wordS
    rw [hBi 1 (by omega) (by omega), decide_eq_false (show ¬ c ≤ 90 by omega)]
    rw [if_neg (by simp), if_neg Bool.false_ne_true, if_neg (show ¬ c ≤ 90 by omega)]
    by_cases hn : n ≤ 24
    · rw [if_pos hn, if_neg (by omega)]
    · rw [if_neg hn, if_pos (by omega)]; rfl
  unfold scanA
  rw [if_neg (by omega)]
  by_cases hn : n ≤ 24
  · rw [if_pos hn] at ht ⊢
    rw [scanS_tok hl (by omega) ht (by omega), hx1, hx2]
    have hend : leadS s false (n + 1) = (s.size, false) := by rw [leadS_end (by omega), hz]
    rw [scanS_end hend, hz]
    have : s.extract (n + 1) (n + 1) = (⟨#[]⟩ : ByteArray) := ByteArray.eq_empty_iff.2 (by rw [ByteArray.size_extract]; omega)
    rw [this]; rfl
  · rw [if_neg hn] at ht ⊢
    rw [scanS, hl, ht]
    simp
    omega
theorem scan_number {c : Int} {n : Nat} (hc : 49 ≤ c) (hc' : c ≤ 57) (h1 : 1 ≤ n) (h2 : n ≤ 60) :
    scanA ((⟨#[32]⟩ : ByteArray) ++ repS c n) = if n ≤ 15 then ([(5, ⟨#[32]⟩, repS c n)], ⟨#[]⟩, 0, 0) else ([], ⟨#[]⟩, 1, 3) := by
  have hr := repS_size c n
  have h32 : (⟨#[32]⟩ : ByteArray).size = 1 := rfl
  have hz : ((⟨#[32]⟩ : ByteArray) ++ repS c n).size = n + 1 := by rw [ByteArray.size_append, hr, h32]; omega
  have hB0 : B ((⟨#[32]⟩ : ByteArray) ++ repS c n) 0 = 32 := by rw [B_append_left (by decide)]; rfl
  have hBi : ∀ j, 1 ≤ j → j < n + 1 → B ((⟨#[32]⟩ : ByteArray) ++ repS c n) j = c := by
    intro j hj hj'
    rw [B_append_right (by rw [h32]; omega), h32, B_repS (by omega) (by omega) (by omega)]
  have hx1 : ((⟨#[32]⟩ : ByteArray) ++ repS c n).extract 0 1 = ⟨#[32]⟩ := ByteArray.extract_append_eq_left h32.symm
  have hx2 : ((⟨#[32]⟩ : ByteArray) ++ repS c n).extract 1 (n + 1) = repS c n := ByteArray.extract_append_eq_right h32.symm (by rw [h32, hr]; omega)
  generalize (⟨#[32]⟩ : ByteArray) ++ repS c n = s at *
  have hdig : digitB c = true := by unfold digitB; simp; omega
  have hlet : letterB c = false := digit_not_letter hdig
  have hl : leadS s false 0 = (1, false) := by
    rw [leadS_white (by omega) (by rw [hB0]; decide) (by rw [hB0]; rfl), leadS_stop (by omega) (by rw [hBi 1 (by omega) (by omega)]; omega)]
    rw [hBi 1 (by omega) (by omega)]; unfold whiteB; simp; omega
  have he : scanTo digitB s 1 = n + 1 := by
    rw [scanTo_all n 1 (by omega) (fun j hj hj' => by rw [hBi j hj (by omega)]; exact hdig), hz]
  have ht : tokS s 1 = if n ≤ 15 then (5, ((n + 1 : Nat) : Int), 0, 0) else (0, 0, 1, 3) := by
    unfold tokS
    rw [hBi 1 (by omega) (by omega), hlet, hdig, if_neg Bool.false_ne_true, if_pos rfl, he, if_neg (by omega)]
    by_cases hn : n ≤ 15
    · rw [if_pos hn, if_neg (by omega)]
    · rw [if_neg hn, if_pos (by omega)]; rfl
  unfold scanA
  rw [if_neg (by omega)]
  by_cases hn : n ≤ 15
  · rw [if_pos hn] at ht ⊢
    rw [scanS_tok hl (by omega) ht (by omega), hx1, hx2]
    have hend : leadS s false (n + 1) = (s.size, false) := by rw [leadS_end (by omega), hz]
    rw [scanS_end hend, hz]
    have : s.extract (n + 1) (n + 1) = (⟨#[]⟩ : ByteArray) := ByteArray.eq_empty_iff.2 (by rw [ByteArray.size_extract]; omega)
    rw [this]; rfl
  · rw [if_neg hn] at ht ⊢
    rw [scanS, hl, ht]
    simp
    omega
end Go.Am
