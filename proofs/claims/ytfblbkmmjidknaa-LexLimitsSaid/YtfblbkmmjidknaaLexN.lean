/- The reference's Scan, and lists that are equal. -/
import Derived.Test.YtfblbkmmjidknaaLexM
set_option linter.unusedVariables false
set_option linter.unusedSimpArgs false
namespace Go.Am
theorem LOw.mono {α : Type} {enc : α → List Value} {σ0 σ1 σ : AHeap} {e : TypeId} {sl : Sl} {l : List α} (h : LOw enc σ1 σ e sl l) (x : Ext σ0 σ1) : LOw enc σ0 σ e sl l := by
  refine ⟨h.wf, x.trans h.ext, h.n, ?_⟩
  rcases h.mem with h1 | ⟨hc, b, ch, h1, h2, h3, h4⟩
  · exact .inl h1
  · exact .inr ⟨hc, b, ch, h1, Nat.le_trans x.next h2, h3, h4⟩
theorem ref_scan {s : ByteArray} (hs : s.size ≤ 4096) {σ : AHeap} (hσ : Wf σ) : OptW (G_semvcsref01_scan s σ) (fun r => ∃ L, (L, r.2.1, r.2.2.1, r.2.2.2.1) = scanS s 0 [] ∧ LOw encTok σ r.2.2.2.2 T_semvcs_api_Token r.1 L ∧ L.length ≤ s.size) := by
  unfold G_semvcsref01_scan
  refine OptW.bdI (C := fun r => ∃ L, (L, r.2.1, r.2.2.1, r.2.2.2.1) = scanS s 0 [] ∧ LOw encTok σ r.2.2.2.2 T_semvcs_api_Token r.1 L ∧ L.length ≤ s.size) ?_ (fun a h => OptW.some_iff.2 h)
  refine OptW.loopI (fun y => ∃ (i : Nat) (L : List Tok), y.2.1 = (i : Int) ∧ i ≤ s.size ∧ L.length ≤ i ∧ LOw encTok σ y.2.2 T_semvcs_api_Token y.1 L ∧ scanS s i L = scanS s 0 []) (fun y => s.size - y.2.1.toNat) ?_ _ ⟨0, [], rfl, by omega, by simp, LOw.nil hσ (Ext.refl σ), rfl⟩
  rintro ⟨l, p, τ⟩ ⟨i, L, hp, h1, h2, h3, h4⟩
  simp only at hp h3
  subst hp
  unfold G_semvcsref01_scan_l1
  simp only [lt_eq, ref_lead (s := s) (by omega) h1, bd_some]
  rw [scanS] at h4
  have hge := leadS_ge s false i
  have hle := leadS_le s false i h1
  cases hb : (leadS s false i).2 with
  | true =>
    rw [if_pos hb] at h4
    rw [if_pos rfl, decide_eq_true (by omega)]
    exact OptW.some_iff.2 ⟨[], h4, LOw.nil h3.wf h3.ext, by simp⟩
  | false =>
    rw [if_neg (by rw [hb]; exact Bool.false_ne_true)] at h4
    rw [if_neg Bool.false_ne_true]
    have hw : IntKind.wrap .i64 ((i : Int) + (((leadS s false i).1 : Int) - i)) = ((leadS s false i).1 : Int) := by rw [wrap64 (by omega) (by omega)]; omega
    simp only [hw]
    simp only [decide_eq_false (show ¬ (0 : Int) ≤ -1 by omega), cond_false]
    by_cases he : (leadS s false i).1 = s.size
    · rw [if_pos he] at h4
      rw [decide_eq_true (by omega)]
      simp only [cond_true, slS_end h1, bd_some]
      exact OptW.some_iff.2 ⟨L, h4, h3, by omega⟩
    · rw [if_neg he] at h4
      rw [decide_eq_false (by omega)]
      simp only [cond_false]
      have hlt : (leadS s false i).1 < s.size := by omega
      refine OptW.bdI (ref_next (by omega) hlt h3.wf) ?_
      rintro ⟨a1, a2, a3, a4, τ1⟩ ⟨ha, w1, x1⟩
      simp only [newC] at ha w1 x1 ⊢
      refine item_let w1 x1 a1 a2 a3 a4 ?_
      intro τ2 w2 x2 hb2 hg2
      have hn1 : τ1.next < τ2.next := (w2.ids _ _ _ _ hg2).2
      obtain ⟨c1, c2, c3, c4⟩ := item_cell hb2 hg2
      have hend := tokS_end hlt
      generalize tokS s (leadS s false i).1 = t at ha hend h4 ⊢
      obtain ⟨k, e, w, er⟩ := t
      unfold itemOf at ha
      simp only at hend h4 ha ⊢
      injection ha with q1 q2; injection q2 with q2 q3; injection q3 with q3 q4
      subst q2 q3 q4
      simp only [offP_own, bd_some, c1, c2, c3, c4]
      by_cases her : a3 = 0
      · subst her
        obtain ⟨e', rfl, g1, g2⟩ := hend rfl
        rw [if_neg (by simp), dif_pos ⟨by simp; omega, by omega⟩] at h4
        rw [if_pos rfl] at q1
        subst q1
        simp only [Int.toNat_natCast] at h4
        have hw2 : IntKind.wrap .i64 (((leadS s false i).1 : Int) + ((e' : Int) - ((leadS s false i).1 : Int))) = (e' : Int) := by rw [wrap64 (by omega) (by omega)]; omega
        simp only [ne_eq, not_true_eq_false, decide_false, cond_false, hw2]
        rw [slS_eq hge hle, bd_some, slS_eq (by omega) g2, bd_some]
        obtain ⟨sl', σ', q1, q2, q3, q4, q5⟩ := ap_own encTok_len (by omega) (h3.ext' w2 x2) (a2, s.extract i (leadS s false i).1, s.extract (leadS s false i).1 e') (b := 40) (by omega)
        have q1' : apSl (newSl τ2 T_semvcs_api_Token 1 [Value.int .i64 a2, Value.string (s.extract i (leadS s false i).1), Value.string (s.extract (leadS s false i).1 e')]).2 T_semvcs_api_Token 3 40 l (newSl τ2 T_semvcs_api_Token 1 [Value.int .i64 a2, Value.string (s.extract i (leadS s false i).1), Value.string (s.extract (leadS s false i).1 e')]).1 = some (sl', σ') := q1
        simp only [newSl] at q1' ⊢
        rw [q1', bd_some]
        have hg3 : σ'.get τ1.next = .cells [(Value.int .i64 ((e' : Int) - ((leadS s false i).1 : Int))), (Value.int .i64 a2), (Value.int .i64 0), (Value.int .i64 a4)] T_semvcs_semvcsref01_Item τ1.next := by
          refine q3 _ _ _ _ hn1 hg2 ?_
          intro b2 c2 e2 ch2 hp hg
          rcases h3.mem with ⟨_, h5⟩ | ⟨_, c5, ch5, h5, h6, h7, h8⟩
          · rw [h5] at hp; cases hp
          · rw [h5] at hp; injection hp with hp; injection hp with hp; subst hp
            have hlt5 := h3.wf.ids _ _ _ _ h8
            rw [x2.same c5 hlt5.2, h8] at hg
            injection hg with _ _ hg
            have := x1.next
            omega
        have hb3 : σ'.base ≤ τ1.next := by unfold AHeap.base; rw [q4]; exact hb2
        obtain ⟨d1, d2, d3, d4⟩ := item_cell hb3 hg3
        simp only [d1, bd_some, hw2]
        exact OptW.some_iff.2 ⟨⟨e', _, rfl, g2, by simp; omega, q2, h4⟩, by simp; omega⟩
      · rw [if_pos her] at h4
        rw [decide_eq_true her]
        exact OptW.some_iff.2 ⟨[], h4, LOw.nil (h3.ext' w2 x2).wf (h3.ext' w2 x2).ext, by simp⟩
end Go.Am
