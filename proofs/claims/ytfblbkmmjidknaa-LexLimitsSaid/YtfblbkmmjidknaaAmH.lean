/- The abstract machine: each operation does what the model's does. Fourth part: comparison, arithmetic, conversions. -/
import Derived.Test.YtfblbkmmjidknaaAmG
set_option linter.unusedVariables false
set_option linter.unusedSimpArgs false
namespace Go.Am
section
variable {P : Program} {σ : AHeap} {γ : Gm} {w : World}

theorem beq_bytes (a b : ByteArray) : (a == b) = decide (a = b) := by
  rw [beq_toListBytes, ByteArray.toList_eq, ByteArray.toList_eq]
  obtain ⟨⟨x⟩⟩ := a
  obtain ⟨⟨y⟩⟩ := b
  by_cases h : x = y
  · subst h; simp
  · have : ¬ ((⟨⟨x⟩⟩ : ByteArray) = ⟨⟨y⟩⟩) := by intro e; injection e with e; injection e with e; exact h e
    simp [h, this]

theorem foldlM_false {α : Type} (f : Bool → α → Option Bool) (hf : ∀ x, f false x = some false) : ∀ (l : List α), l.foldlM f false = some false
  | [] => rfl
  | x :: l => by simp only [List.foldlM_cons, hf, Option.bind_eq_bind, Option.bind_some]; exact foldlM_false f hf l

set_option maxHeartbeats 4000000 in
theorem eq_sound {base : Nat} : ∀ (d : Nat) {t : TypeId} {x x' y y' : Value} {b : Bool}, VR base γ x x' → VR base γ y y' → aEq P d t x y = some b → (Op.equalIn d t x' y').run P w = .ok b w := by
  intro d
  induction d with
  | zero => intro t x x' y y' b _ _ h; simp [aEq] at h
  | succ d ih =>
    intro t x x' y y' b hx hy h
    unfold aEq at h
    split at h
    · rename_i hu
      obtain rfl := hx.eq_of_const rfl; obtain rfl := hy.eq_of_const rfl
      injection h with h; subst h
      simp only [Op.equalIn, Sem.run_bind, run_underlying hu, Result.andThen_ok, Sem.run_pure]
    · rename_i hu
      obtain rfl := hx.eq_of_const rfl; obtain rfl := hy.eq_of_const rfl
      split at h
      · rename_i hk
        injection h with h; subst h
        simp only [Op.equalIn, Sem.run_bind, run_underlying hu, Result.andThen_ok, if_pos hk, Sem.run_pure]
        congr 1
      · cases h
    · rename_i hu
      obtain rfl := hx.eq_of_const rfl; obtain rfl := hy.eq_of_const rfl
      injection h with h; subst h
      simp only [Op.equalIn, Sem.run_bind, run_underlying hu, Result.andThen_ok, Sem.run_pure, beq_bytes]
    · rename_i hu
      injection h with h; subst h
      cases hx; cases hy <;> (simp only [Op.equalIn, Sem.run_bind, run_underlying hu, Result.andThen_ok, Sem.run_pure]; try rfl)
    · rename_i hu
      injection h with h; subst h
      cases hy; cases hx <;> (simp only [Op.equalIn, Sem.run_bind, run_underlying hu, Result.andThen_ok, Sem.run_pure]; try rfl)
    · rename_i hu
      injection h with h; subst h
      cases hx; cases hy <;> (simp only [Op.equalIn, Sem.run_bind, run_underlying hu, Result.andThen_ok, Sem.run_pure]; try rfl)
    · rename_i hu
      injection h with h; subst h
      cases hy; cases hx <;> (simp only [Op.equalIn, Sem.run_bind, run_underlying hu, Result.andThen_ok, Sem.run_pure]; try rfl)
    · rename_i hu
      injection h with h; subst h
      cases hx; cases hy <;> (simp only [Op.equalIn, Sem.run_bind, run_underlying hu, Result.andThen_ok, Sem.run_pure]; try rfl)
    · rename_i hu
      injection h with h; subst h
      cases hy; cases hx <;> (simp only [Op.equalIn, Sem.run_bind, run_underlying hu, Result.andThen_ok, Sem.run_pure]; try rfl)
    · rename_i hu
      injection h with h; subst h
      cases hx; cases hy; (simp only [Op.equalIn, Sem.run_bind, run_underlying hu, Result.andThen_ok, Sem.run_pure]; try rfl)
    · rename_i hu
      injection h with h; subst h
      cases hx; cases hy; (simp only [Op.equalIn, Sem.run_bind, run_underlying hu, Result.andThen_ok, Sem.run_pure]; try rfl)
    · rename_i hu
      injection h with h; subst h
      cases hx; cases hy; (simp only [Op.equalIn, Sem.run_bind, run_underlying hu, Result.andThen_ok, Sem.run_pure]; try rfl)
    · rename_i fs xs ys hu
      obtain ⟨xs', rfl, hLx, h1x⟩ := hx.aggInv
      obtain ⟨ys', rfl, hLy, h1y⟩ := hy.aggInv
      split at h
      · cases h
      · rename_i hst
        have hst' : P.stoodInHeld t = false := by simpa using hst
        simp only [Op.equalIn, Sem.run_bind, run_underlying hu, Result.andThen_ok, run_program, hst', Bool.false_eq_true, if_false]
        rw [← Array.forIn_toList]
        generalize fs.toList = l at h ⊢
        clear hu
        induction l with
        | nil => simp at h; subst h; simp
        | cons f l ihl =>
          simp only [List.foldlM_cons] at h
          simp only [List.forIn_cons, Sem.run_bind]
          by_cases hf : f.name = "_"
          · simp only [hf, decide_true, Bool.or_true, if_true, Option.bind_eq_bind, Option.bind_some] at h
            simp only [hf, ne_eq, not_true_eq_false, if_false, Sem.run_pure, Result.andThen_ok]
            exact ihl h
          · simp only [hf, Bool.not_true, decide_false, Bool.or_false, Bool.false_eq_true, if_false, Option.bind_eq_bind] at h
            rw [Option.bind_eq_some_iff] at h
            obtain ⟨q, hq, h⟩ := h
            rw [Option.bind_eq_some_iff] at hq
            obtain ⟨u, hu, hq⟩ := hq
            rw [Option.bind_eq_some_iff] at hq
            obtain ⟨v, hv, hq⟩ := hq
            obtain ⟨u', hru, hvu⟩ := part_sound (w := w) hLx h1x hu
            obtain ⟨v', hrv, hvv⟩ := part_sound (w := w) hLy h1y hv
            have he := ih hvu hvv hq
            simp only [ne_eq, hf, not_false_eq_true, if_true, Sem.run_bind, hru, Result.andThen_ok, hrv, he]
            cases q with
            | true =>
              simp only [Bool.not_true, Bool.false_eq_true, if_false, Sem.run_pure, Result.andThen_ok]
              exact ihl h
            | false =>
              rw [foldlM_false _ (by intro x; simp)] at h
              injection h with h; subst h
              simp only [Bool.not_false, if_true, Sem.run_pure, Result.andThen_ok]
    · rename_i len e xs ys hu
      obtain ⟨xs', rfl, hLx, h1x⟩ := hx.aggInv
      obtain ⟨ys', rfl, hLy, h1y⟩ := hy.aggInv
      rw [Option.bind_eq_some_iff] at h
      obtain ⟨n, hn, h⟩ := h
      simp only [Op.equalIn, Sem.run_bind, run_underlying hu, Result.andThen_ok, run_size hn]
      simp only [Std.Legacy.Range.forIn_eq_forIn_range', Std.Legacy.Range.size, Nat.sub_zero, Nat.add_one_sub_one, Nat.div_one]
      rw [List.range_eq_range'] at h
      generalize List.range' 0 len = l at h ⊢
      clear hu
      induction l with
      | nil => simp at h; subst h; simp
      | cons i l ihl =>
        simp only [List.foldlM_cons, Bool.not_true, Bool.false_eq_true, if_false, Option.bind_eq_bind] at h
        simp only [List.forIn_cons, Sem.run_bind]
        rw [Option.bind_eq_some_iff] at h
        obtain ⟨q, hq, h⟩ := h
        rw [Option.bind_eq_some_iff] at hq
        obtain ⟨u, hu, hq⟩ := hq
        rw [Option.bind_eq_some_iff] at hq
        obtain ⟨v, hv, hq⟩ := hq
        obtain ⟨u', hru, hvu⟩ := part_sound (w := w) hLx h1x hu
        obtain ⟨v', hrv, hvv⟩ := part_sound (w := w) hLy h1y hv
        have he := ih hvu hvv hq
        simp only [Sem.run_bind, hru, Result.andThen_ok, hrv, he]
        cases q with
        | true =>
          simp only [Bool.not_true, Bool.false_eq_true, if_false, Sem.run_pure, Result.andThen_ok]
          exact ihl h
        | false =>
          rw [foldlM_false _ (by intro x; simp)] at h
          injection h with h; subst h
          simp only [Bool.not_false, if_true, Sem.run_pure, Result.andThen_ok]
    · cases h

/-! ### Arithmetic -/
theorem int_sound {op : BinOp} {k : IntKind} {a b : Int} {v : Value} {t : TypeId} (hs : op ≠ .shl) (hs' : op ≠ .shr) (h : aInt op k a b = some v) :
    (binOp op t (.int k a) (.int k b)).run P w = .ok v w ∧ constCell v = true := by
  cases op <;> simp only [aInt] at h <;> first
    | (cases h; done)
    | exact absurd rfl hs
    | exact absurd rfl hs'
    | (injection h with h; subst h; refine ⟨?_, rfl⟩; simp only [binOp, ne_eq, not_true_eq_false, if_false, Op.intArith, Op.intBits, Op.intCmp, Sem.run_pure, gt_iff_lt, ge_iff_le]; done)
    | (injection h with h; subst h; refine ⟨?_, rfl⟩; simp only [binOp, ne_eq, not_true_eq_false, if_false, Op.intCmp, Sem.run_pure, decide_not]; rfl)
    | (split at h
       · cases h
       · rename_i hb
         injection h with h; subst h; refine ⟨?_, rfl⟩; simp only [binOp, ne_eq, not_true_eq_false, if_false, Op.intDiv, if_neg hb, Sem.run_pure])

theorem str_sound {op : BinOp} {a b : ByteArray} {v : Value} {t : TypeId} (hs : op ≠ .shl) (hs' : op ≠ .shr) (h : aStr op a b = some v) :
    (binOp op t (.string a) (.string b)).run P w = .ok v w ∧ constCell v = true := by
  have he : (a.toList == b.toList) = decide (a = b) := by rw [← beq_toListBytes, beq_bytes]
  cases op <;> simp only [aStr] at h <;> first
    | (cases h; done)
    | (injection h with h; subst h; refine ⟨?_, rfl⟩; simp only [binOp, Op.stringOp, he, Sem.run_pure]; done)
    | (injection h with h; subst h; refine ⟨?_, rfl⟩; simp only [binOp, Op.stringOp, he, Sem.run_pure, ne_eq, decide_not]; done)
    | (split at h
       · rename_i hb
         injection h with h; subst h; refine ⟨?_, rfl⟩
         have : ¬ (((a.size + b.size : Nat) : Int) > IntKind.i64.max) := by
           have : IntKind.i64.max = 9223372036854775807 := rfl
           omega
         simp only [binOp, Op.stringOp, if_neg this, Sem.run_pure]
       · cases h)

theorem shift_sound {op : BinOp} {k k' : IntKind} {a b : Int} {v : Value} {t : TypeId} (hs : op = .shl ∨ op = .shr) (h : aShift op k a b = some v) :
    (binOp op t (.int k a) (.int k' b)).run P w = .ok v w ∧ constCell v = true := by
  unfold aShift at h
  split at h
  · cases h
  · rename_i hb
    rcases hs with rfl | rfl <;> simp only at h <;> injection h with h <;> subst h <;> refine ⟨?_, rfl⟩ <;>
      simp only [binOp, Op.shift, if_neg hb, Sem.run_pure]

theorem eqGuard_int {op : BinOp} {t : TypeId} {x y : Operand} {a b : Value} (h : a ≠ .nilIface) (h' : ∀ xs ys, ¬ (a = .agg xs ∧ b = .agg ys)) : (eqGuard op t x y a b).run P w = .ok () w := by
  cases op <;> first
    | rfl
    | (simp only [eqGuard, Bool.not_true, Bool.false_eq_true, if_false]
       split
       · exact absurd rfl h
       · exact absurd ⟨rfl, rfl⟩ (h' _ _)
       · rfl)

/-- The binary operators, with what is asked ahead of '=='. -/
theorem bin_sound (R : Rel P σ γ w) {op : BinOp} {t : TypeId} {x y : Operand} {a a' b b' v : Value} (ha : VR σ.base γ a a') (hb : VR σ.base γ b b') (h : aBin P op t a b = some v) :
    OpPure P σ γ w v (do eqGuard op t x y a' b'; binOp op t a' b') := by
  have fin : ∀ {v : Value} {S : Sem Unit} {T : Sem Value}, S.run P w = .ok () w → T.run P w = .ok v w → constCell v = true → OpPure P σ γ w v (do S; T) := by
    intro v S T hS hT hc
    exact OpPure.intro R (v' := v) (by simp only [Sem.run_bind, hS, Result.andThen_ok, hT]) (VR.ofConstCell hc)
  have cmp : ∀ {a a' b b' : Value} {r : Bool}, VR σ.base γ a a' → VR σ.base γ b b' → (∀ k n, a ≠ .int k n ∨ ∀ j m, b ≠ .int j m) → (∀ s, a ≠ .string s ∨ ∀ u, b ≠ .string u) → (∀ k n, a ≠ .float k n) → (∀ k n m, a ≠ .complex k n m) →
      aEq P Op.maxDepth t a b = some r → (binOp .eql t a' b').run P w = .ok (.bool r) w ∧ (binOp .neq t a' b').run P w = .ok (.bool !r) w := by
    intro a a' b b' r ha hb hni hns hnf hnc hr
    have e := eq_sound (P := P) (w := w) _ ha hb hr
    have e1 : (do pure (Value.bool (← Op.equal t a' b')) : Sem Value).run P w = .ok (.bool r) w := by simp [Op.equal, e]
    have e2 : (do pure (Value.bool (!(← Op.equal t a' b'))) : Sem Value).run P w = .ok (.bool !r) w := by simp [Op.equal, e]
    cases ha <;> cases hb <;> first
      | exact ⟨e1, e2⟩
      | (exfalso; rcases hni _ _ with h | h <;> exact h _ _ rfl)
      | (exfalso; rcases hni _ _ with h | h; exact h rfl; exact h _ _ rfl)
      | (exfalso; rcases hns _ with h | h; exact h rfl; exact h _ rfl)
      | (exfalso; exact hnf _ _ rfl)
      | (exfalso; exact hnc _ _ _ rfl)
  unfold aBin at h
  split at h
  · obtain rfl := ha.eq_of_const rfl; obtain rfl := hb.eq_of_const rfl
    have hg := eqGuard_int (P := P) (w := w) (op := op) (t := t) (x := x) (y := y) (a := Value.int ‹_› ‹_›) (b := Value.int ‹_› ‹_›) (by simp) (by simp)
    split at h
    · exact fin (eqGuard_int (by simp) (by simp)) (shift_sound (.inl rfl) h).1 (shift_sound (P := P) (w := w) (t := t) (k' := ‹_›) (.inl rfl) h).2
    · exact fin (eqGuard_int (by simp) (by simp)) (shift_sound (.inr rfl) h).1 (shift_sound (P := P) (w := w) (t := t) (k' := ‹_›) (.inr rfl) h).2
    · rename_i h1 h2
      split at h
      · rename_i hk
        subst hk
        exact fin (eqGuard_int (by simp) (by simp)) (int_sound h1 h2 h).1 (int_sound (P := P) (w := w) (t := t) h1 h2 h).2
      · cases h
  · obtain rfl := ha.eq_of_const rfl; obtain rfl := hb.eq_of_const rfl
    split at h
    · cases h
    · cases h
    · rename_i h1 h2
      exact fin (eqGuard_int (by simp) (by simp)) (str_sound h1 h2 h).1 (str_sound (P := P) (w := w) (t := t) h1 h2 h).2
  · cases h
  · rename_i xs ys
    split at h
    · cases h
    · rename_i hgd
      obtain ⟨xs', rfl, _⟩ := ha.aggInv
      obtain ⟨ys', rfl, _⟩ := hb.aggInv
      have hg : (eqGuard op t x y (.agg xs') (.agg ys')).run P w = .ok () w := run_eqGuard_agg w op t x y xs' ys' (by simpa using hgd)
      split at h
      · rw [Option.map_eq_some_iff] at h
        obtain ⟨r, hr, rfl⟩ := h
        exact fin hg (cmp ha hb (by simp) (by simp) (by simp) (by simp) hr).1 rfl
      · rw [Option.map_eq_some_iff] at h
        obtain ⟨r, hr, rfl⟩ := h
        exact fin hg (cmp ha hb (by simp) (by simp) (by simp) (by simp) hr).2 rfl
      · cases h
  · rename_i hn hi hs hag
    have ha' : a' ≠ .nilIface := by intro e; subst e; cases ha; exact hn rfl
    have hnag : ∀ xs ys, ¬ (a' = .agg xs ∧ b' = .agg ys) := by
      rintro xs ys ⟨rfl, rfl⟩
      cases ha; cases hb
      exact hag _ _ rfl rfl
    have hflt : ∀ r, aEq P Op.maxDepth t a b = some r → (∀ k n, a ≠ .float k n) ∧ (∀ k n m, a ≠ .complex k n m) := by
      intro r hr
      constructor
      · rintro k n rfl
        unfold aEq Op.maxDepth at hr
        simp at hr
      · rintro k n m rfl
        unfold aEq Op.maxDepth at hr
        simp at hr
    have hni : ∀ k n, a ≠ .int k n ∨ ∀ j m, b ≠ .int j m := by
      intro k n
      by_cases e : a = .int k n
      · exact .inr fun j m e' => hi k n j m e e'
      · exact .inl e
    have hns : ∀ s, a ≠ .string s ∨ ∀ u, b ≠ .string u := by
      intro s
      by_cases e : a = .string s
      · exact .inr fun u e' => hs s u e e'
      · exact .inl e
    split at h
    · rw [Option.map_eq_some_iff] at h
      obtain ⟨r, hr, rfl⟩ := h
      exact fin (eqGuard_int ha' hnag) (cmp ha hb hni hns (hflt r hr).1 (hflt r hr).2 hr).1 rfl
    · rw [Option.map_eq_some_iff] at h
      obtain ⟨r, hr, rfl⟩ := h
      exact fin (eqGuard_int ha' hnag) (cmp ha hb hni hns (hflt r hr).1 (hflt r hr).2 hr).2 rfl
    · cases h

theorem un_sound (R : Rel P σ γ w) {op : UnOp} {x x' v : Value} (hx : VR σ.base γ x x') (h : aUn op x = some v) : OpPure P σ γ w v (Op.unary op x') := by
  unfold aUn at h
  split at h
  · obtain rfl := hx.eq_of_const rfl
    injection h with h; subst h
    exact OpPure.intro R rfl (.int _ _)
  · obtain rfl := hx.eq_of_const rfl
    injection h with h; subst h
    exact OpPure.intro R rfl (.bool _)
  · cases h

end
end Go.Am
