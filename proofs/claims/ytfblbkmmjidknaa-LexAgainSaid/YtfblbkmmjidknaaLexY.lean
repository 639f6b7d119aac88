/- The source of any tokens: both sides. -/
import Derived.Test.YtfblbkmmjidknaaLexOp
import Derived.Test.YtfblbkmmjidknaaLexQ
set_option linter.unusedVariables false
set_option linter.unusedSimpArgs false
namespace Go.Am
theorem addS_eq' {a b : ByteArray} (h : a.size + b.size < 2 ^ 62) : addS a b = some (a ++ b) := by
  unfold addS; rw [if_pos (by omega)]
theorem lex_JoinA {l : Sl} {L : List Tok} {tail : ByteArray} {σ : AHeap} (w : Wf σ) (hL : ∀ τ, Ext σ τ → LAt encTok τ 3 l L) (hn : L.length < 2 ^ 62) (hs : (joinL L).length + tail.size ≤ 2 ^ 44) :
    OptW (G_lex_Join l tail σ) fun r => r.1 = (⟨(joinL L ++ tail.data.toList).toArray⟩ : ByteArray) ∧ Wf r.2 ∧ Ext σ r.2 := by
  unfold G_lex_Join
  have hn0 : l.n = L.length := (hL σ (Ext.refl σ)).1
  simp only [lt_eq, newC]
  have hB := Bld.new (σ0 := σ) w (Ext.refl σ)
  generalize σ.push (.cells [(Value.pointer none), (Sl.v Sl.nil)] T_strings_Builder σ.next) = σ5 at hB
  refine OptW.bdI (C := fun τ => Bld σ τ σ.next (joinL L)) ?_ ?_
  · refine OptW.loopI (fun y => ∃ i : Nat, y.1 = (i : Int) ∧ i ≤ L.length ∧ Bld σ y.2 σ.next (joinL (L.take i))) (fun y => L.length - y.1.toNat) ?_ _ ⟨0, rfl, by omega, by simpa [joinL] using hB⟩
    rintro ⟨p, τ⟩ ⟨i, hp, h1, h2⟩
    simp only at hp h2
    subst hp
    unfold G_lex_Join_l1
    simp only [lt_eq, hn0, newC]
    by_cases h : i < L.length
    · rw [decide_eq_true (by omega)]
      simp only [cond_true]
      obtain ⟨b1, o1, i1, e1⟩ := (hL τ h2.ext).2 i h
      have hld := ld_tok e1
      rw [i1, bd_some, hld, bd_some]
      have hlen := joinL_take h
      have hle := joinL_le (L := L) (i := i + 1)
      rw [hlen] at hle
      simp only [List.length_append, Array.length_toList] at hle
      generalize hτ : τ.push (.cells [(Value.int .i64 0), (Value.string (ByteArray.empty)), (Value.string (ByteArray.empty))] T_semvcs_api_Token τ.next) = τ1
      have w1 : Wf τ1 := by rw [← hτ]; exact h2.wf.push (Nat.le_refl _)
      have x1 : Ext τ τ1 := by rw [← hτ]; exact Ext.push
      have g1 : τ1.get τ.next = .cells [(Value.int .i64 0), (Value.string (ByteArray.empty)), (Value.string (ByteArray.empty))] T_semvcs_api_Token τ.next := by rw [← hτ]; exact push_get
      have b1' : τ1.base ≤ τ.next := by rw [x1.base_eq]; exact h2.wf.base
      obtain ⟨τ2, s1, s2, s3, s4, s5, s6, s7⟩ := set_own w1 x1 (Nat.le_refl _) b1' g1 (off := 0) (vs := [(Value.int .i64 L[i].1), (Value.string L[i].2.1), (Value.string L[i].2.2)]) (by simp)
      have s6' : τ2.get τ.next = .cells [(Value.int .i64 L[i].1), (Value.string L[i].2.1), (Value.string L[i].2.2)] T_semvcs_api_Token τ.next := s6
      have hb2 : τ2.base ≤ τ.next := by rw [s4]; exact b1'
      rw [s1, bd_some, offP_own, bd_some, ld_str_own hb2 s6' rfl, bd_some]
      have hz1 : L[i].2.1.data.size = L[i].2.1.size := rfl
      have hz2 : L[i].2.2.data.size = L[i].2.2.size := rfl
      refine OptW.bdI (WriteString_spec h2 s2 s3 (by omega)) ?_
      rintro ⟨r1, r2, τ3⟩ ⟨k1, k2, k3⟩
      simp only at k1 k2 k3 ⊢
      have hnx : τ.next < τ2.next := (s2.ids _ _ _ _ s6').2
      have hk := k3 _ _ _ _ s6' (Nat.le_refl _) hnx
      rw [offP_own, bd_some, ld_str_own (by rw [k2]; exact hb2) hk rfl, bd_some]
      refine OptW.bdI (WriteString_spec k1 k1.wf (Ext.refl _) (by simp only [List.length_append, Array.length_toList]; omega)) ?_
      rintro ⟨r3, r4, τ4⟩ ⟨m1, m2, m3⟩
      simp only at m1 m2 m3 ⊢
      rw [wrap64 (by omega) (by omega)]
      refine OptW.some_iff.2 ⟨⟨i + 1, by simp, h, ?_⟩, by simp; omega⟩
      rw [hlen]; exact m1
    · rw [decide_eq_false (by omega)]
      have : i = L.length := by omega
      subst this
      rw [List.take_length] at h2
      exact OptW.some_iff.2 h2
  · intro τ hτ
    have ht : tail.data.size = tail.size := rfl
    refine OptW.bdI (WriteString_spec hτ hτ.wf (Ext.refl _) (by omega)) ?_
    rintro ⟨r1, r2, τ3⟩ ⟨k1, k2, k3⟩
    simp only at k1 k2 k3 ⊢
    refine OptW.bdI (String_spec k1 (by simp only [List.length_append, Array.length_toList]; omega)) ?_
    rintro ⟨r3, τ4⟩ ⟨m1, m2, m3⟩
    simp only at m1 m2 m3 ⊢
    exact OptW.some_iff.2 ⟨m1, m2, m3⟩
theorem bytes_app {l : List UInt8} {b : ByteArray} : (⟨l.toArray⟩ : ByteArray) ++ b = ⟨(l ++ b.data.toList).toArray⟩ := by
  apply ByteArray.ext
  simp
theorem bytes_sz {l : List UInt8} : (⟨l.toArray⟩ : ByteArray).size = l.length := by simp [ByteArray.size]
theorem tok_iA {σ : AHeap} {sl : Sl} {L : List Tok} (h : LAt encTok σ 3 sl L) {i : Nat} (hi : i < L.length) : ∃ b o, iaSl sl 3 (i : Int) = some (some ⟨b, o, none⟩) ∧ ld_i64 σ (some ⟨b, o + 0, none⟩) = some L[i].1 ∧ ld_str σ (some ⟨b, o + 1, none⟩) = some L[i].2.1 ∧ ld_str σ (some ⟨b, o + 2, none⟩) = some L[i].2.2 := by
  obtain ⟨b, o, i0, e0⟩ := h.2 i hi
  refine ⟨b, o, i0, ?_, ?_, ?_⟩
  · unfold ld_i64; rw [e0 0 1 (by omega)]; rfl
  · unfold ld_str; rw [e0 1 1 (by omega)]; rfl
  · unfold ld_str; rw [e0 2 1 (by omega)]; rfl
theorem ref_Join {l : Sl} {L : List Tok} {tail : ByteArray} {σ : AHeap} (hL : LAt encTok σ 3 l L) (hn : L.length < 2 ^ 62) (hs : (joinL L).length + tail.size < 2 ^ 62) :
    G_semvcsref01_Join l tail σ = some (⟨(joinL L ++ tail.data.toList).toArray⟩ : ByteArray) := by
  unfold G_semvcsref01_Join
  refine OptW.eq (OptW.bdI (C := fun s => s = (⟨(joinL L).toArray⟩ : ByteArray)) ?_ ?_)
  · refine OptW.loopI (fun y => ∃ i : Nat, y.2 = (i : Int) ∧ i ≤ L.length ∧ y.1 = (⟨(joinL (L.take i)).toArray⟩ : ByteArray)) (fun y => L.length - y.2.toNat) ?_ _ ⟨0, rfl, by omega, rfl⟩
    rintro ⟨s, p⟩ ⟨i, hp, h1, h2⟩
    simp only at hp h2
    subst hp h2
    unfold G_semvcsref01_Join_l1
    simp only [lt_eq, hL.1]
    by_cases h : i < L.length
    · rw [decide_eq_true (by omega)]
      obtain ⟨b, o, i0, v0, v1, v2⟩ := tok_iA hL h
      have hlen := joinL_take h
      have hle := joinL_le (L := L) (i := i + 1)
      rw [hlen] at hle
      simp only [List.length_append, Array.length_toList] at hle
      have hz1 : L[i].2.1.data.size = L[i].2.1.size := rfl
      have hz2 : L[i].2.2.data.size = L[i].2.2.size := rfl
      simp only [cond_true, i0, bd_some, offP_at, v1, v2]
      rw [addS_eq' (by rw [bytes_sz]; omega), bd_some, bytes_app, addS_eq' (by rw [bytes_sz]; simp only [List.length_append, Array.length_toList]; omega), bd_some, bytes_app, wrap64 (by omega) (by omega)]
      exact OptW.some_iff.2 ⟨⟨i + 1, by simp, h, by rw [hlen]⟩, by simp; omega⟩
    · rw [decide_eq_false (by omega)]
      have : i = L.length := by omega
      subst this
      rw [List.take_length]
      exact OptW.some_iff.2 rfl
  · rintro s rfl
    rw [addS_eq' (by rw [bytes_sz]; omega), bd_some, bytes_app]
    exact OptW.some_iff.2 rfl
theorem LexJoins_true {l : Sl} {L : List Tok} {tail : ByteArray} {σ : AHeap} (hσ : Wf σ) (hL : ∀ τ, Ext σ τ → LAt encTok τ 3 l L) (hn : L.length < 2 ^ 62) (hs : (joinL L).length + tail.size ≤ 2 ^ 44) : OptW (G_semvcslaw01_LexJoins l tail σ) fun r => r.1 = true := by
  unfold G_semvcslaw01_LexJoins
  simp only [lt_eq]
  refine OptW.bifI (fun _ => OptW.bdI (awake_true hσ) (fun r hr => OptW.some_iff.2 hr.1)) (fun _ => ?_)
  refine OptW.bdI (awake_true hσ) ?_
  rintro ⟨r, τ⟩ ⟨hr, w, x⟩
  simp only at hr w x
  subst hr
  simp only [cond_true]
  refine OptW.bdI (lex_JoinA w (fun τ' x' => hL τ' (x.trans x')) hn hs) ?_
  rintro ⟨j, τ2⟩ ⟨hj, w2, x2⟩
  simp only at hj w2 x2
  subst hj
  rw [ref_Join (hL τ2 (x.trans x2)) hn (by omega), bd_some]
  exact OptW.some_iff.2 (by simp)
end Go.Am
