/- LexT -/
import Derived.Test.YtfblbkmmjidknaaLexQ
import Derived.Test.YtfblbkmmjidknaaAmP5
set_option linter.unusedVariables false
set_option linter.unusedSimpArgs false
namespace Go.Am
/-- A Builder in a block of its own, made since σ0; no block of the row that it grows has the chain of the block itself. -/
structure Bld (σ0 σ : AHeap) (b : Nat) (u : List UInt8) : Prop where
  lo : σ0.next ≤ b
  base : σ.base ≤ b
  get : ∃ p sl, σ.get b = .cells [.pointer p, Sl.v sl] T_strings_Builder b ∧ (p = none ∨ p = some ⟨b, 0, none⟩) ∧ LOw encU σ0 σ T_u8 sl u ∧ (∀ b2 c2 e2 ch2, sl.p = some ⟨b2, 0, none⟩ → σ.get b2 = .cells c2 e2 ch2 → ch2 ≠ b) ∧ (u = [] → sl.p = none)
theorem Bld.wf {σ0 σ : AHeap} {b : Nat} {u : List UInt8} (h : Bld σ0 σ b u) : Wf σ := by obtain ⟨p, sl, _, _, h, _, _⟩ := h.get; exact h.wf
theorem Bld.ext {σ0 σ : AHeap} {b : Nat} {u : List UInt8} (h : Bld σ0 σ b u) : Ext σ0 σ := by obtain ⟨p, sl, _, _, h, _, _⟩ := h.get; exact h.ext
theorem Bld.ext' {σ0 σ τ : AHeap} {b : Nat} {u : List UInt8} (h : Bld σ0 σ b u) (w : Wf τ) (x : Ext σ τ) : Bld σ0 τ b u := by
  obtain ⟨p, sl, g1, g2, g3, g4, g5⟩ := h.get
  have hb := (h.wf.ids _ _ _ _ g1).2
  refine ⟨h.lo, by rw [x.base_eq]; exact h.base, p, sl, by rw [x.same b hb]; exact g1, g2, g3.ext' w x, fun b2 c2 e2 ch2 h1 h2 => ?_, g5⟩
  rcases g3.mem with ⟨_, h5⟩ | ⟨_, c5, ch5, h5, h6, h7, h8⟩
  · rw [h5] at h1; cases h1
  · have h1' := h1
    rw [h5] at h1'; injection h1' with h1'; injection h1' with h1'; subst h1'
    rw [x.same c5 (h.wf.ids _ _ _ _ h8).2] at h2
    exact g4 c5 _ _ _ h1 h2
/-- A new Builder. -/
theorem Bld.new {σ0 σ : AHeap} (w : Wf σ) (x : Ext σ0 σ) : Bld σ0 (σ.push (.cells [(Value.pointer none), (Sl.v Sl.nil)] T_strings_Builder σ.next)) σ.next [] := by
  have hp : Ext σ (σ.push (.cells [(Value.pointer none), (Sl.v Sl.nil)] T_strings_Builder σ.next)) := Ext.push
  refine ⟨x.next, by rw [hp.base_eq]; exact w.base, none, Sl.nil, push_get, .inl rfl, LOw.nil (w.push (Nat.le_refl _)) (x.trans hp), fun b2 c2 e2 ch2 h => (by cases h), fun _ => rfl⟩
/-- One's own slice, where a block that is not of its row is set. -/
theorem LOw.set {α : Type} {enc : α → List Value} {σ0 σ τ : AHeap} {e : TypeId} {sl : Sl} {l : List α} (h : LOw enc σ0 σ e sl l) (w : Wf τ) (x : Ext σ0 τ) (hs : ∀ b2 c2 e2 ch2, sl.p = some ⟨b2, 0, none⟩ → σ.get b2 = .cells c2 e2 ch2 → τ.get b2 = .cells c2 e2 ch2) (hb : τ.base = σ.base) : LOw enc σ0 τ e sl l := by
  refine ⟨w, x, h.n, ?_⟩
  rcases h.mem with h1 | ⟨hc, b, ch, h1, h2, h3, h4⟩
  · exact .inl h1
  · exact .inr ⟨hc, b, ch, h1, h2, by rw [hb]; exact h3, hs b _ _ _ h1 h4⟩
/-- A cell of a block of one's own is set. -/
theorem set_own {σ0 σ : AHeap} (w : Wf σ) (x : Ext σ0 σ) {b : Nat} {c vs : List Value} {e : TypeId} (hlo : σ0.next ≤ b) (hb : σ.base ≤ b) (hg : σ.get b = .cells c e b) {off : Nat} (hn : off + vs.length ≤ c.length) :
    ∃ τ, stN σ (some ⟨b, off, none⟩) vs = some τ ∧ Wf τ ∧ Ext σ0 τ ∧ τ.base = σ.base ∧ τ.next = σ.next ∧ τ.get b = .cells (splice c off vs) e b ∧ (∀ j c2 e2 ch2, j ≠ b → σ.get j = .cells c2 e2 ch2 → ch2 ≠ b → τ.get j = .cells c2 e2 ch2) := by
  obtain ⟨τ, g1, g2, g3, g4, g5, g6⟩ := stN_own w hb hg hn
  refine ⟨τ, g1, g2, ⟨g4.trans x.old, by rw [g5]; exact x.next, fun j hj => (g6 j (by omega)).trans (x.same j hj)⟩, by unfold AHeap.base; rw [g4], g5, g3, fun j c2 e2 ch2 hj hg2 hne => ?_⟩
  have hst : stN σ (some ⟨b, off, none⟩) vs = some ((σ.kill b b off).put b (.cells (splice c off vs) e b)) := by
    simp only [stN, Option.bind_some, wr]
    rw [if_neg (by simp), if_neg (by omega), hg]
    simp only
    rw [if_pos hn]
  rw [hst] at g1; injection g1 with g1; subst g1
  simp only [AHeap.put, AHeap.kill]
  rw [if_neg hj, hg2]
  simp only
  rw [if_neg (fun h => hne h.1)]
theorem ld_ptr_own {σ : AHeap} {b off : Nat} {c : List Value} {e : TypeId} {ch : Nat} {p : Option Addr} (hb : σ.base ≤ b) (hg : σ.get b = .cells c e ch) (hv : c[off]? = some (.pointer p)) : ld_ptr σ (some ⟨b, off, none⟩) = some p := by
  obtain ⟨hl, hv⟩ := List.getElem?_eq_some_iff.1 hv
  unfold ld_ptr
  rw [ldN_own hb hg (by omega)]
  have : (c.drop off).take 1 = [Value.pointer p] := by rw [List.drop_eq_getElem_cons hl, hv]; rfl
  rw [this]
theorem ld_sl_own {σ : AHeap} {b off : Nat} {c : List Value} {e : TypeId} {ch : Nat} {sl : Sl} (hb : σ.base ≤ b) (hg : σ.get b = .cells c e ch) (hv : c[off]? = some (Sl.v sl)) : ld_sl σ (some ⟨b, off, none⟩) = some sl := by
  obtain ⟨hl, hv⟩ := List.getElem?_eq_some_iff.1 hv
  unfold ld_sl
  rw [ldN_own hb hg (by omega)]
  have : (c.drop off).take 1 = [Sl.v sl] := by rw [List.drop_eq_getElem_cons hl, hv]; rfl
  rw [this]
  rfl
/-- The text that is written. -/
theorem WriteString_spec {σ0 σm σ : AHeap} {b : Nat} {u : List UInt8} {s : ByteArray} (h : Bld σ0 σm b u) (w : Wf σ) (x : Ext σm σ) (hs : (u.length + s.size) * 2 ≤ 2 ^ 46) :
    OptW (G_strings_Builder_WriteString (some ⟨b, 0, none⟩) s σ) fun r => Bld σ0 r.2.2 b (u ++ s.data.toList) ∧ r.2.2.base = σ.base ∧ ∀ j c e ch', σ.get j = .cells c e ch' → σm.next ≤ ch' → j < σ.next → r.2.2.get j = .cells c e ch' := by
  have hσ := h.ext' w x
  have hbm : b < σm.next := by obtain ⟨p, sl, g1, _⟩ := h.get; exact (h.wf.ids _ _ _ _ g1).2
  obtain ⟨p, sl, g1, g2, g3, g4, g5⟩ := hσ.get
  have hchm : ∀ b2 c2 e2 ch2, sl.p = some ⟨b2, 0, none⟩ → σ.get b2 = .cells c2 e2 ch2 → ch2 < σm.next ∧ b2 ≠ b ∧ b2 < σm.next := by
    intro b2 c2 e2 ch2 hp hg
    obtain ⟨pm, slm, m1, m2, m3, m4, m5⟩ := h.get
    rw [x.same b hbm, m1] at g1
    injection g1 with g1 _ _; injection g1 with _ g1; injection g1 with g1 _
    have hsl : slm = sl := by
      obtain ⟨q1, q2, q3⟩ := slm; obtain ⟨r1, r2, r3⟩ := sl
      injection g1 with z1 z2 z3; subst z1 z2 z3; rfl
    subst hsl
    rcases m3.mem with ⟨_, h5⟩ | ⟨_, c5, ch5, h5, h6, h7, h8⟩
    · rw [h5] at hp; cases hp
    · rw [h5] at hp; injection hp with hp; injection hp with hp; subst hp
      have hi := h.wf.ids _ _ _ _ h8
      rw [x.same c5 hi.2, h8] at hg
      injection hg with _ _ hg
      refine ⟨by omega, fun e => ?_, hi.2⟩
      subst e
      rw [h8] at m1; injection m1 with _ _ m1
      exact m4 c5 _ _ _ h5 h8 m1
  unfold G_strings_Builder_WriteString
  -- the check that the Builder wasn't copied
  have hcheck : ∃ τ q, G_strings_Builder_copyCheck (some ⟨b, 0, none⟩) σ = some τ ∧ Wf τ ∧ Ext σ0 τ ∧ τ.base = σ.base ∧ τ.next = σ.next ∧ τ.get b = .cells [.pointer q, Sl.v sl] T_strings_Builder b ∧ (q = none ∨ q = some ⟨b, 0, none⟩) ∧
      (∀ j c2 e2 ch2, j ≠ b → σ.get j = .cells c2 e2 ch2 → ch2 ≠ b → τ.get j = .cells c2 e2 ch2) := by
    unfold G_strings_Builder_copyCheck G_abi_NoEscape
    have hl : ld_ptr σ (some ⟨b, 0, none⟩) = some p := ld_ptr_own hσ.base g1 rfl
    simp only [isP, Option.isSome_some, if_true, bd_some, offP_own, hl, lt_eq]
    rcases g2 with rfl | rfl
    · have hrd : ((rd σ ⟨b, 0, none⟩ 1).isSome) = true := by
        have := ldN_own (off := 0) (n := 1) hσ.base g1 (by simp)
        unfold ldN at this
        simp only [Option.bind_some] at this
        rw [this]; rfl
      have hfrom : fromU σ T_strings_Builder 2 (some ⟨b, 0, none⟩) = some (some ⟨b, 0, none⟩) := by
        simp only [fromU, Option.bind_some]
        rw [if_neg (by have := hσ.base; omega), g1]
        simp
      simp only [Option.isNone_none, cond_true, toU, Option.bind_some, hrd, if_true, bd_some, hfrom]
      obtain ⟨τ, s1, s2, s3, s4, s5, s6, s7⟩ := set_own w hσ.ext hσ.lo hσ.base g1 (off := 0) (vs := [Value.pointer (some ⟨b, 0, none⟩)]) (by simp)
      rw [s1, bd_some]
      exact ⟨τ, _, rfl, s2, s3, s4, s5, s6, .inr rfl, s7⟩
    · have he : eqP (some ⟨b, 0, none⟩) (some ⟨b, 0, none⟩) = some true := by simp [eqP]
      simp only [Option.isNone_some, cond_false, he, bd_some, Bool.not_true]
      exact ⟨σ, _, rfl, w, hσ.ext, rfl, rfl, g1, .inr rfl, fun j c2 e2 ch2 _ hg _ => hg⟩
  obtain ⟨τ, q, c1, c2, c3, c4, c5, c6, c7, c8⟩ := hcheck
  have hbτ : τ.base ≤ b := by rw [c4]; exact hσ.base
  have hl : ld_sl τ (some ⟨b, 1, none⟩) = some sl := ld_sl_own hbτ c6 rfl
  simp only [c1, bd_some, isP, Option.isSome_some, if_true, offP_own, hl]
  -- the append
  have hrow : LOw encU σ0 τ T_u8 sl u := g3.set c2 c3 (fun b2 cc e2 ch2 hp hg => c8 b2 _ _ _ (hchm _ _ _ _ hp hg).2.1 hg (g4 _ _ _ _ hp hg)) c4
  have hrowτ : ∀ b2 cc e2 ch2, sl.p = some ⟨b2, 0, none⟩ → τ.get b2 = .cells cc e2 ch2 → ch2 < σm.next ∧ b2 ≠ b ∧ b2 < σm.next ∧ ch2 ≠ b := by
    intro b2 cc e2 ch2 hp hg
    rcases g3.mem with ⟨_, h5⟩ | ⟨_, c5', ch5, h5, h6, h7, h8⟩
    · rw [h5] at hp; cases hp
    · have hp' := hp
      rw [h5] at hp'; injection hp' with hp'; injection hp' with hp'; subst hp'
      obtain ⟨z1, z2, z3⟩ := hchm _ _ _ _ hp h8
      have z4 := g4 _ _ _ _ hp h8
      rw [c8 c5' _ _ _ z2 h8 z4] at hg
      injection hg with _ _ hg; subst hg
      exact ⟨z1, z2, z3, z4⟩
  have hlen : s.data.toList.length = s.size := rfl
  obtain ⟨sl', τ', a1, a2, a3, a4, a5, a6, a7, a8⟩ := apC_own encU_len (by omega) hrow s.data.toList (b := 1) (by rw [hlen]; exact hs)
  have a1' : apStr τ T_u8 sl s = some (sl', τ') := by unfold apStr; rw [cells_enc, ← hlen]; exact a1
  rw [a1', bd_some]
  have hbn : b < τ.next := (c2.ids _ _ _ _ c6).2
  have hτ'b : τ'.get b = .cells [.pointer q, Sl.v sl] T_strings_Builder b := a3 b _ _ _ hbn c6 (fun b2 cc e2 ch2 hp hg => (hrowτ _ _ _ _ hp hg).2.2.2)
  have hbase' : τ'.base = σ.base := by rw [← c4]; unfold AHeap.base; rw [a4]
  obtain ⟨τ2, s1, s2, s3, s4, s5, s6, s7⟩ := set_own a2.wf a2.ext hσ.lo (by rw [hbase']; exact hσ.base) hτ'b (off := 1) (vs := [Sl.v sl']) (by simp)
  rw [s1, bd_some]
  have hnew : ∀ b2 cc e2 ch2, sl'.p = some ⟨b2, 0, none⟩ → τ'.get b2 = .cells cc e2 ch2 → ch2 ≠ b ∧ b2 ≠ b := by
    intro b2 cc e2 ch2 hp hg
    constructor
    · intro e; subst e
      obtain ⟨b3, c3', e3, hp3, hg3⟩ := a7 b2 _ _ _ hp hg hbn
      exact (hrowτ _ _ _ _ hp3 hg3).2.2.2 rfl
    · intro e; subst e
      have hp3 := a6 b2 hp hbn
      exact (hrowτ _ _ _ _ hp3 c6).2.1 rfl
  refine OptW.some_iff.2 ⟨⟨hσ.lo, by rw [s4, hbase']; exact hσ.base, q, sl', s6, c7, a2.set s2 s3 (fun b2 cc e2 ch2 hp hg => s7 b2 _ _ _ (hnew _ _ _ _ hp hg).2 hg (hnew _ _ _ _ hp hg).1) s4, fun b2 cc e2 ch2 hp hg => ?_, fun he => ?_⟩, s4.trans hbase', fun j c e ch' hg hlt hj => ?_⟩
  · rcases a2.mem with ⟨_, h5⟩ | ⟨_, c5', ch5, h5, h6, h7, h8⟩
    · rw [h5] at hp; cases hp
    · have hp' := hp
      rw [h5] at hp'; injection hp' with hp'; injection hp' with hp'; subst hp'
      rw [s7 c5' _ _ _ (hnew _ _ _ _ hp h8).2 h8 (hnew _ _ _ _ hp h8).1] at hg
      injection hg with _ _ hg; subst hg
      exact (hnew _ _ _ _ hp h8).1
  · obtain ⟨e1, e2⟩ := List.append_eq_nil_iff.1 he
    rw [a8 e2]; exact g5 e1
  · have hjb : j ≠ b := by
      intro e'; subst e'
      rw [g1] at hg; injection hg with _ _ hg; omega
    have hcb : ch' ≠ b := by omega
    refine s7 j _ _ _ hjb (a3 j _ _ _ (by omega) (c8 j _ _ _ hjb hg hcb) (fun b2 cc e2 ch2 hp hg2 => ?_)) hcb
    have := (hrowτ _ _ _ _ hp hg2).1
    omega
/-- The text that a Builder holds. -/
theorem String_spec {σ0 σ : AHeap} {b : Nat} {u : List UInt8} (h : Bld σ0 σ b u) (hu : u.length ≤ 2 ^ 46) : OptW (G_strings_Builder_String (some ⟨b, 0, none⟩) σ) fun r => r.1 = (⟨u.toArray⟩ : ByteArray) ∧ Wf r.2 ∧ Ext σ0 r.2 := by
  obtain ⟨p, sl, g1, g2, g3, g4, g5⟩ := h.get
  unfold G_strings_Builder_String
  have hl : ld_sl σ (some ⟨b, 1, none⟩) = some sl := ld_sl_own h.base g1 rfl
  simp only [isP, Option.isSome_some, if_true, bd_some, offP_own, hl, lt_eq]
  rcases g3.mem with ⟨h1, h2⟩ | ⟨_, c, ch, h1, h2, h3, h4⟩
  · subst h1; subst h2
    exact OptW.some_iff.2 ⟨rfl, g3.wf, g3.ext⟩
  · have hn := g3.n
    by_cases h0 : u.length = 0
    · have : u = [] := List.eq_nil_of_length_eq_zero h0
      rw [g5 this] at h1; cases h1
    · simp only [dataS, h1, hn]
      rw [if_pos (by omega), bd_some]
      have hlen : (u.flatMap encU).length = u.length := by rw [flatMap_len encU_len]; omega
      have hstr : strU σ T_u8 (some ⟨c, 0, none⟩) (u.length : Int) = some (⟨u.toArray⟩, (σ.kill ch c 0).put c .dead) := by
        simp only [strU]
        rw [if_pos ⟨trivial, by omega, by omega, by omega⟩, h4]
        simp only [true_and]
        rw [if_pos (by rw [hlen]; simp)]
        have : ((u.flatMap encU).drop 0).take (u.length : Int).toNat = u.flatMap encU := by
          rw [List.drop_zero, Int.toNat_natCast, ← hlen, List.take_length]
        rw [this, bytes_enc]; rfl
      rw [hstr, bd_some]
      refine OptW.some_iff.2 ⟨rfl, ?_, ?_⟩
      · constructor
        · exact g3.wf.base
        · intro j c' e' ch' hj
          simp only [AHeap.put] at hj
          split at hj
          · cases hj
          · exact (g3.wf.kill ch c 0).ids j _ _ _ hj
        · intro j es cl hj
          simp only [AHeap.put] at hj
          split at hj
          · cases hj
          · exact (g3.wf.kill ch c 0).maps j _ _ hj
      · have hk := g3.ext.kill g3.wf h2 (k := c) (l := 0)
        have hc := (g3.wf.ids _ _ _ _ h4).1
        exact ⟨hk.old, hk.next, fun j hj => by
          have := hk.same j hj
          simp only [AHeap.put]
          rw [if_neg (by omega)]; exact this⟩
end Go.Am
/- LexU -/
set_option linter.unusedVariables false
set_option linter.unusedSimpArgs false
namespace Go.Am
def joinL (L : List Tok) : List UInt8 := L.flatMap fun t => t.2.1.data.toList ++ t.2.2.data.toList
theorem joinL_take {L : List Tok} {i : Nat} (h : i < L.length) : joinL (L.take (i + 1)) = joinL (L.take i) ++ L[i].2.1.data.toList ++ L[i].2.2.data.toList := by
  unfold joinL
  rw [List.take_succ_eq_append_getElem h, List.flatMap_append]
  simp only [List.flatMap_cons, List.flatMap_nil, List.append_nil, List.append_assoc]
theorem joinL_le {L : List Tok} {i : Nat} : (joinL (L.take i)).length ≤ (joinL L).length := by
  have : joinL L = joinL (L.take i) ++ joinL (L.drop i) := by
    unfold joinL
    rw [← List.flatMap_append, List.take_append_drop]
  rw [this]; simp
theorem ld_tok {σ : AHeap} {b o : Nat} {t : Tok} (h : ∀ j m, j + m ≤ 3 → ldN σ (some ⟨b, o + j, none⟩) m = some (((encTok t).drop j).take m)) : ld_i64_str_str σ (some ⟨b, o, none⟩) = some t := by
  have := h 0 3 (by omega)
  unfold ld_i64_str_str
  rw [show (⟨b, o, none⟩ : Addr) = ⟨b, o + 0, none⟩ from rfl, this]; rfl
theorem ld_str_own {σ : AHeap} {b off : Nat} {c : List Value} {e : TypeId} {ch : Nat} {s : ByteArray} (hb : σ.base ≤ b) (hg : σ.get b = .cells c e ch) (hv : c[off]? = some (.string s)) : ld_str σ (some ⟨b, off, none⟩) = some s := by
  obtain ⟨hl, hv⟩ := List.getElem?_eq_some_iff.1 hv
  unfold ld_str
  rw [ldN_own hb hg (by omega)]
  have : (c.drop off).take 1 = [Value.string s] := by rw [List.drop_eq_getElem_cons hl, hv]; rfl
  rw [this]
theorem lex_Join {l : Sl} {L : List Tok} {tail : ByteArray} {σ : AHeap} (w : Wf σ) (hL : LRd encTok σ T_semvcs_api_Token l L) (hn : L.length < 2 ^ 62) (hs : (joinL L).length + tail.size ≤ 2 ^ 44) :
    OptW (G_lex_Join l tail σ) fun r => r.1 = (⟨(joinL L ++ tail.data.toList).toArray⟩ : ByteArray) ∧ Wf r.2 ∧ Ext σ r.2 := by
  unfold G_lex_Join
  simp only [lt_eq, newC]
  have hB := Bld.new (σ0 := σ) w (Ext.refl σ)
  generalize σ.push (.cells [(Value.pointer none), (Sl.v Sl.nil)] T_strings_Builder σ.next) = σ5 at hB
  refine OptW.bdI (C := fun τ => Bld σ τ σ.next (joinL L)) ?_ ?_
  · refine OptW.loopI (fun y => ∃ i : Nat, y.1 = (i : Int) ∧ i ≤ L.length ∧ Bld σ y.2 σ.next (joinL (L.take i))) (fun y => L.length - y.1.toNat) ?_ _ ⟨0, rfl, by omega, by simpa [joinL] using hB⟩
    rintro ⟨p, τ⟩ ⟨i, hp, h1, h2⟩
    simp only at hp h2
    subst hp
    unfold G_lex_Join_l1
    simp only [lt_eq, hL.1, newC]
    by_cases h : i < L.length
    · rw [decide_eq_true (by omega)]
      simp only [cond_true]
      obtain ⟨b1, i1, e1⟩ := (hL.ext h2.ext).at encTok_len h
      have hld := ld_tok e1
      rw [i1, bd_some, hld, bd_some]
      have hlen := joinL_take h
      have hle := joinL_le (L := L) (i := i + 1)
      rw [hlen] at hle
      simp only [List.length_append, Array.length_toList] at hle
      generalize hτ : τ.push (.cells [(Value.int .i64 0), (Value.string (ByteArray.empty)), (Value.string (ByteArray.empty))] T_semvcs_api_Token τ.next) = τ1
      have w1 : Wf τ1 := by rw [← hτ]; exact h2.wf.push (Nat.le_refl _)
      have x1 : Ext τ τ1 := by rw [← hτ]; exact Ext.push
      have g1 : τ1.get τ.next = .cells [(Value.int .i64 0), (Value.string (ByteArray.empty)), (Value.string (ByteArray.empty))] T_semvcs_api_Token τ.next := by rw [← hτ]; exact push_get
      have b1' : τ1.base ≤ τ.next := by rw [x1.base_eq]; exact h2.wf.base
      obtain ⟨τ2, s1, s2, s3, s4, s5, s6, s7⟩ := set_own w1 x1 (Nat.le_refl _) b1' g1 (off := 0) (vs := [(Value.int .i64 L[i].1), (Value.string L[i].2.1), (Value.string L[i].2.2)]) (by simp)
      have s6' : τ2.get τ.next = .cells [(Value.int .i64 L[i].1), (Value.string L[i].2.1), (Value.string L[i].2.2)] T_semvcs_api_Token τ.next := s6
      have hb2 : τ2.base ≤ τ.next := by rw [s4]; exact b1'
      rw [s1, bd_some, offP_own, bd_some, ld_str_own hb2 s6' rfl, bd_some]
      have hz1 : L[i].2.1.data.size = L[i].2.1.size := rfl
      have hz2 : L[i].2.2.data.size = L[i].2.2.size := rfl
      refine OptW.bdI (WriteString_spec h2 s2 s3 (by omega)) ?_
      rintro ⟨r1, r2, τ3⟩ ⟨k1, k2, k3⟩
      simp only at k1 k2 k3 ⊢
      have hnx : τ.next < τ2.next := (s2.ids _ _ _ _ s6').2
      have hk := k3 _ _ _ _ s6' (Nat.le_refl _) hnx
      rw [offP_own, bd_some, ld_str_own (by rw [k2]; exact hb2) hk rfl, bd_some]
      refine OptW.bdI (WriteString_spec k1 k1.wf (Ext.refl _) (by simp only [List.length_append, Array.length_toList]; omega)) ?_
      rintro ⟨r3, r4, τ4⟩ ⟨m1, m2, m3⟩
      simp only at m1 m2 m3 ⊢
      rw [wrap64 (by omega) (by omega)]
      refine OptW.some_iff.2 ⟨⟨i + 1, by simp, h, ?_⟩, by simp; omega⟩
      rw [hlen]; exact m1
    · rw [decide_eq_false (by omega)]
      have : i = L.length := by omega
      subst this
      rw [List.take_length] at h2
      exact OptW.some_iff.2 h2
  · intro τ hτ
    have ht : tail.data.size = tail.size := rfl
    refine OptW.bdI (WriteString_spec hτ hτ.wf (Ext.refl _) (by omega)) ?_
    rintro ⟨r1, r2, τ3⟩ ⟨k1, k2, k3⟩
    simp only at k1 k2 k3 ⊢
    refine OptW.bdI (String_spec k1 (by simp only [List.length_append, Array.length_toList]; omega)) ?_
    rintro ⟨r3, τ4⟩ ⟨m1, m2, m3⟩
    simp only at m1 m2 m3 ⊢
    exact OptW.some_iff.2 ⟨m1, m2, m3⟩
end Go.Am
