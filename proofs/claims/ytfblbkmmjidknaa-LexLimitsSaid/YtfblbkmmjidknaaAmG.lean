/- The abstract machine: each operation does what the model's does. Third part: cuts, comparison, arithmetic. -/
import Derived.Test.YtfblbkmmjidknaaAmF
set_option linter.unusedVariables false
set_option linter.unusedSimpArgs false
namespace Go.Am
section
variable {P : Program} {σ : AHeap} {γ : Gm} {w : World}

def OV (base : Nat) (γ : Gm) (x x' : Option Value) : Prop := (x = none ∧ x' = none) ∨ ∃ v v', x = some v ∧ x' = some v' ∧ VR base γ v v'

theorem bound_spec {base : Nat} {x x' : Option Value} {d l : Nat} (hx : OV base γ x x') (h : aBound x d = some l) :
    x' = x ∧ ((x = none ∧ l = d) ∨ ∃ k i, x = some (.int k i) ∧ 0 ≤ i ∧ l = i.toNat) := by
  rcases hx with ⟨rfl, rfl⟩ | ⟨v, v', rfl, rfl, hv⟩
  · simp [aBound] at h; exact ⟨rfl, .inl ⟨rfl, h.symm⟩⟩
  · cases v <;> simp [aBound] at h
    rename_i k i
    have := hv.eq_of_const rfl
    subst this
    exact ⟨rfl, .inr ⟨k, i, rfl, h.1, h.2.symm⟩⟩

theorem run_bounds {isS : Bool} {len cap : Nat} {lo hi : Option Value} {l h : Nat} (hl : (lo = none ∧ l = 0) ∨ ∃ k i, lo = some (.int k i) ∧ 0 ≤ i ∧ l = i.toNat)
    (hh : (hi = none ∧ h = len) ∨ ∃ k i, hi = some (.int k i) ∧ 0 ≤ i ∧ h = i.toNat) (h1 : l ≤ h) (h2 : h ≤ cap) :
    (Instr.sliceBounds isS len cap lo hi none).run P w = .ok (l, h, cap) w := by
  rcases hl with ⟨rfl, rfl⟩ | ⟨kl, il, rfl, l0, rfl⟩ <;> rcases hh with ⟨rfl, rfl⟩ | ⟨kh, ih, rfl, h0, rfl⟩
  · simp only [Instr.sliceBounds, Sem.run_bind, Sem.run_pure, Result.andThen_ok]
  · simp only [Instr.sliceBounds, Sem.run_bind, Sem.run_pure, Result.andThen_ok, run_sliceBound _ kh ih cap _ h0 (by omega)]
  · simp only [Instr.sliceBounds, Sem.run_bind, Sem.run_pure, Result.andThen_ok, run_sliceBound _ kl il h _ l0 (by omega)]
  · simp only [Instr.sliceBounds, Sem.run_bind, Sem.run_pure, Result.andThen_ok, run_sliceBound _ kh ih cap _ h0 (by omega), run_sliceBound _ kl il ih.toNat _ l0 (by omega)]

theorem run_bounds3 {len cap : Nat} {lo : Option Value} {kh km : IntKind} {ih im : Int} {l h m : Nat} (hl : (lo = none ∧ l = 0) ∨ ∃ k i, lo = some (.int k i) ∧ 0 ≤ i ∧ l = i.toNat)
    (h0 : 0 ≤ ih) (hh : h = ih.toNat) (m0 : 0 ≤ im) (hm : m = im.toNat) (h1 : l ≤ h) (h2 : h ≤ m) (h3 : m ≤ cap) :
    (Instr.sliceBounds true len cap lo (some (.int kh ih)) (some (.int km im))).run P w = .ok (l, h, m) w := by
  subst hh; subst hm
  rcases hl with ⟨rfl, rfl⟩ | ⟨kl, il, rfl, l0, rfl⟩
  · simp only [Instr.sliceBounds, Sem.run_bind, Sem.run_pure, Result.andThen_ok, run_sliceBound _ km im cap _ m0 (by omega), run_sliceBound _ kh ih im.toNat _ h0 (by omega)]
  · simp only [Instr.sliceBounds, Sem.run_bind, Sem.run_pure, Result.andThen_ok, run_sliceBound _ km im cap _ m0 (by omega), run_sliceBound _ kh ih im.toNat _ h0 (by omega), run_sliceBound _ kl il ih.toNat _ l0 (by omega)]

theorem sliceAt_run {t e : TypeId} (hu : P.underlying t = some (.slice e)) (x : Value) (lo hi mx : Option Value) : (Instr.sliceAt t x lo hi mx).run P w = (Instr.slice t x lo hi mx).run P w := by
  simp only [Instr.sliceAt, Sem.run_bind, run_underlying hu, Result.andThen_ok]

set_option maxHeartbeats 2000000 in
theorem slice_sound (R : Rel P σ γ w) {t : TypeId} {x x' v : Value} {lo lo' hi hi' mx mx' : Option Value} (hx : VR σ.base γ x x') (hlo : OV σ.base γ lo lo') (hhi : OV σ.base γ hi hi') (hmx : OV σ.base γ mx mx')
    (h : aSlice P σ t x lo hi mx = some v) : OpPure P σ γ w v (Instr.sliceAt t x' lo' hi' mx') := by
  unfold aSlice at h
  split at h
  · -- a string
    rename_i s hu
    obtain rfl := hx.eq_of_const rfl
    split at h
    · cases h
    · obtain rfl : mx' = none := by rcases hmx with ⟨_, h⟩ | ⟨_, _, h, _⟩; exact h; cases h
      rw [Option.bind_eq_some_iff] at h
      obtain ⟨l, hl, h⟩ := h
      rw [Option.bind_eq_some_iff] at h
      obtain ⟨hh, hhh, h⟩ := h
      split at h
      · rename_i hc
        injection h with h; subst h
        obtain ⟨rfl, hl⟩ := bound_spec hlo hl
        obtain ⟨rfl, hhh⟩ := bound_spec hhi hhh
        refine OpPure.intro R (v' := .string (s.extract l hh)) ?_ (.string _)
        have hb := run_bounds (P := P) (w := w) (isS := false) (len := s.size) (cap := s.size) hl hhh hc.1 hc.2
        simp only [Instr.sliceAt, Instr.slice, Sem.run_bind, run_underlying hu, Result.andThen_ok, Option.isSome_none, Bool.false_eq_true, if_false, hb, Sem.run_pure]
      · cases h
  · -- nil
    rename_i e n0 c0 hu
    split at h
    · cases h
    · obtain rfl : mx' = none := by rcases hmx with ⟨_, h⟩ | ⟨_, _, h, _⟩; exact h; cases h
      rw [Option.bind_eq_some_iff] at h
      obtain ⟨n, hn, h⟩ := h
      rw [Option.bind_eq_some_iff] at h
      obtain ⟨l, hl, h⟩ := h
      rw [Option.bind_eq_some_iff] at h
      obtain ⟨hh, hhh, h⟩ := h
      split at h
      · rename_i hc
        obtain ⟨rfl, rfl⟩ := hc
        injection h with h; subst h
        obtain ⟨rfl, hl⟩ := bound_spec hlo hl
        obtain ⟨rfl, hhh⟩ := bound_spec hhi hhh
        cases hx
        refine OpPure.intro R (v' := .slice none 0 0) ?_ .sl0
        have hb := run_bounds (P := P) (w := w) (isS := true) (len := 0) (cap := 0) hl hhh (Nat.le_refl _) (Nat.le_refl _)
        simp only [sliceAt_run hu, Instr.slice, Sem.run_bind, run_underlying hu, Result.andThen_ok, hb, run_size hn, Sem.run_pure]
        rfl
      · cases h
  · rename_i e a len cap hu
    rw [Option.bind_eq_some_iff] at h
    obtain ⟨n, hn, h⟩ := h
    rw [Option.bind_eq_some_iff] at h
    obtain ⟨l, hl, h⟩ := h
    rw [Option.bind_eq_some_iff] at h
    obtain ⟨hh, hhh, h⟩ := h
    obtain ⟨rfl, hl⟩ := bound_spec hlo hl
    obtain ⟨rfl, hhh⟩ := bound_spec hhi hhh
    split at h
    · rename_i hc
      obtain ⟨h1, h2, hsp, hss⟩ := hc
      obtain ⟨b, o, sp⟩ := a
      simp only at hsp
      subst hsp
      split at h
      · -- two indexes
        injection h with h
        obtain rfl : mx' = none := by rcases hmx with ⟨_, h⟩ | ⟨_, _, h, _⟩; exact h; cases h
        have run : ∀ (a' : Addr) (c' : Nat), hh ≤ c' → (Instr.sliceAt t (.slice (some a') len c') lo' hi' none).run P w = .ok (.slice (some (if c' = l then a' else a'.add (l * n))) (hh - l) (c' - l)) w := by
          intro a' c' hle
          have hb := run_bounds (P := P) (w := w) (isS := true) (len := len) (cap := c') hl hhh h1 hle
          simp only [sliceAt_run hu, Instr.slice, Sem.run_bind, run_underlying hu, Result.andThen_ok, hb, run_size hn, Sem.run_pure]
          congr 2
          split <;> rfl
        cases hx with
        | slOld _ _ _ hb hs hle =>
          simp only at hb
          rw [if_pos hb] at h
          subst h
          refine OpPure.intro R (run _ cap (by omega)) ?_
          by_cases hcl : cap = l
          · subst hcl
            rw [if_pos rfl, show hh - cap = 0 by omega, show cap - cap = 0 by omega]
            exact .slEmpty _ _ _ rfl rfl
          · rw [if_neg hcl, addr_add]
            exact .slOld _ _ _ hb rfl (by omega)
        | slNew _ _ _ _ c' e' hb hg hle hcc hN =>
          rw [if_neg (show ¬ b < σ.base by omega)] at h
          subst h
          refine OpPure.intro R (run _ c' (by omega)) ?_
          have hE : n = e'.E := by
            unfold sameSize at hss
            simp only [Bool.or_eq_true, decide_eq_true_eq] at hss
            rcases hss with hss | hss
            · omega
            · split at hss
              · rename_i c el ch hget
                obtain ⟨_, _, _, _, hE, _⟩ := R.cells _ _ _ _ _ hget hg
                rw [hE] at hss
                simp at hss; exact hss.symm
              · cases hss
          by_cases hcl : c' = l
          · subst hcl
            rw [if_pos rfl, show hh - c' = 0 by omega, show c' - c' = 0 by omega]
            exact .slEmpty _ _ _ rfl rfl
          · rw [if_neg hcl, addr_add, show o + e'.s + l * n = o + l * n + e'.s by omega]
            refine .slNew b (o + l * n) (hh - l) _ (c' - l) e' hb hg (by omega) ?_ ?_
            · intro hq
              split at hq
              · rename_i hq2; have := hcc hq2.1; omega
              · omega
            · subst hE
              have : l * e'.E + (c' - l) * e'.E = c' * e'.E := by rw [← Nat.add_mul, show l + (c' - l) = c' by omega]
              omega
        | slEmpty _ a' _ hs hs' =>
          have hl0 : l = 0 := by omega
          have hh0 : hh = 0 := by omega
          subst hl0; subst hh0
          have := run a' 0 (Nat.le_refl _)
          rw [if_pos rfl] at this
          subst h
          exact OpPure.intro R this (.slEmpty _ _ _ rfl hs')
      · -- three indexes
        rename_i mv
        rw [Option.bind_eq_some_iff] at h
        obtain ⟨m, hm, h⟩ := h
        obtain ⟨rfl, hm⟩ := bound_spec hmx hm
        split at h
        · rename_i hmh
          obtain ⟨rfl, his⟩ := hmh
          injection h with h
          rcases hhh with ⟨rfl, _⟩ | ⟨kh, ih, rfl, hi0, hhi'⟩
          · simp at his
          · rcases hm with ⟨hm, _⟩ | ⟨km, im, hm, m0, hmi⟩
            · cases hm
            · injection hm with hm; subst hm
              have run : ∀ (a' : Addr) (c' : Nat), m ≤ c' → (Instr.sliceAt t (.slice (some a') len c') lo' (some (.int kh ih)) (some (.int km im))).run P w = .ok (.slice (some (if m = l then a' else a'.add (l * n))) (m - l) (m - l)) w := by
                intro a' c' hle
                have hb := run_bounds3 (P := P) (w := w) (len := len) (cap := c') (kh := kh) (km := km) hl hi0 hhi' m0 hmi h1 (Nat.le_refl _) hle
                simp only [sliceAt_run hu, Instr.slice, Sem.run_bind, run_underlying hu, Result.andThen_ok, hb, run_size hn, Sem.run_pure]
                congr 2
                split <;> rfl
              cases hx with
              | slOld _ _ _ hb hs hle =>
                subst h
                refine OpPure.intro R (run _ cap (by omega)) ?_
                by_cases hcl : m = l
                · subst hcl
                  rw [if_pos rfl, show m - m = 0 by omega]
                  exact .slEmpty _ _ _ rfl rfl
                · rw [if_neg hcl, addr_add]
                  exact .slOld _ _ _ hb rfl (Nat.le_refl _)
              | slNew _ _ _ _ c' e' hb hg hle hcc hN =>
                subst h
                refine OpPure.intro R (run _ c' (by omega)) ?_
                have hE : n = e'.E := by
                  unfold sameSize at hss
                  simp only [Bool.or_eq_true, decide_eq_true_eq] at hss
                  rcases hss with hss | hss
                  · omega
                  · split at hss
                    · rename_i c el ch hget
                      obtain ⟨_, _, _, _, hE, _⟩ := R.cells _ _ _ _ _ hget hg
                      rw [hE] at hss
                      simp at hss; exact hss.symm
                    · cases hss
                by_cases hcl : m = l
                · subst hcl
                  rw [if_pos rfl, show m - m = 0 by omega]
                  exact .slEmpty _ _ _ rfl rfl
                · rw [if_neg hcl, addr_add, show o + e'.s + l * n = o + l * n + e'.s by omega]
                  refine .slNew b (o + l * n) (m - l) _ (m - l) e' hb hg (Nat.le_refl _) (fun h => h) ?_
                  subst hE
                  have h5 : l * e'.E + (m - l) * e'.E = m * e'.E := by rw [← Nat.add_mul, show l + (m - l) = m by omega]
                  have h6 : m * e'.E ≤ c' * e'.E := Nat.mul_le_mul_right _ (by omega)
                  omega
              | slEmpty _ a' _ hs hs' =>
                have hl0 : l = 0 := by omega
                have hh0 : m = 0 := by omega
                subst hl0; subst hh0
                have := run a' 0 (Nat.le_refl _)
                rw [if_pos rfl] at this
                subst h
                exact OpPure.intro R this (.slEmpty _ _ _ rfl hs')
        · cases h
    · cases h
  · cases h

end
end Go.Am
