/- The abstract machine: regions whose order is drawn. First part: what the run in one order leaves behind. -/
import Derived.Test.YtfblbkmmjidknaaAmM
set_option linter.unusedVariables false
set_option linter.unusedSimpArgs false
namespace Go.Am
section
variable {P : Program} {σ : AHeap} {γ : Gm} {w : World}

/-- The run of a list of operations, place by place. -/
structure Tr (P : Program) (call : CallR) (ops : Array Oper) (l : List (Oper × Nat)) (f0 : Fr) (σ0 : AHeap) (f1 : Fr) (σ1 : AHeap) where
  fs : Nat → Fr
  hs : Nat → AHeap
  vs : Nat → Value
  f0_eq : fs 0 = f0
  s0_eq : hs 0 = σ0
  f1_eq : fs l.length = f1
  s1_eq : hs l.length = σ1
  step : ∀ p o x, l[p]? = some (o, x) → fs (p + 1) = (fs p).put o.dst (vs p) ∧
    ((Region.wanted o (yieldF ops (fs p)) = true ∧ opV P call (fs p) (hs p) o = some (vs p, hs (p + 1))) ∨ (Region.wanted o (yieldF ops (fs p)) = false ∧ vs p = undef ∧ hs (p + 1) = hs p))
  pre : ∀ p q u x o y, l[p]? = some (u, x) → l[q]? = some (o, y) → p < q → clsOf u.op = .act → clsOf o.op = .read → Region.wanted u (yieldF ops (fs p)) = true → Region.wanted o (yieldF ops (fs q)) = true →
    orderedIn ops x y = true ∨ aop P (fs q) (hs p) o.op = some (vs q, hs p)

structure TrFrom (P : Program) (call : CallR) (ops : Array Oper) (l : List (Oper × Nat)) (ps : List (Nat × AHeap)) (f0 : Fr) (σ0 : AHeap) (f1 : Fr) (σ1 : AHeap) extends Tr P call ops l f0 σ0 f1 σ1 where
  pre0 : ∀ p ∈ ps, ∀ q o y, l[q]? = some (o, y) → clsOf o.op = .read → Region.wanted o (yieldF ops (fs q)) = true → orderedIn ops p.1 y = true ∨ aop P (fs q) p.2 o.op = some (vs q, p.2)

/-- One step ahead of a run. -/
def TrFrom.cons {call : CallR} {ops : Array Oper} {l : List (Oper × Nat)} {ps ps' : List (Nat × AHeap)} {f0 f1 f2 : Fr} {σ0 σ1 σ2 : AHeap} {o : Oper} {x : Nat} {v : Value}
    (T : TrFrom P call ops l ps' f1 σ1 f2 σ2) (hf : f1 = f0.put o.dst v)
    (hstep : (Region.wanted o (yieldF ops f0) = true ∧ opV P call f0 σ0 o = some (v, σ1)) ∨ (Region.wanted o (yieldF ops f0) = false ∧ v = undef ∧ σ1 = σ0))
    (hps : ∀ p ∈ ps, p ∈ ps') (hact : clsOf o.op = .act → Region.wanted o (yieldF ops f0) = true → (x, σ0) ∈ ps')
    (hread : clsOf o.op = .read → Region.wanted o (yieldF ops f0) = true → ∀ p ∈ ps, orderedIn ops p.1 x = true ∨ aop P f0 p.2 o.op = some (v, p.2)) :
    TrFrom P call ops ((o, x) :: l) ps f0 σ0 f2 σ2 where
  fs := fun | 0 => f0 | i + 1 => T.fs i
  hs := fun | 0 => σ0 | i + 1 => T.hs i
  vs := fun | 0 => v | i + 1 => T.vs i
  f0_eq := rfl
  s0_eq := rfl
  f1_eq := T.f1_eq
  s1_eq := T.s1_eq
  step p u y hp := by
    cases p with
    | zero =>
      simp only [List.getElem?_cons_zero, Option.some.injEq, Prod.mk.injEq] at hp
      obtain ⟨rfl, rfl⟩ := hp
      simp only [T.f0_eq, T.s0_eq]
      exact ⟨hf, hstep⟩
    | succ p => exact T.step p u y (by simpa using hp)
  pre p q u y o2 z hp hq hpq ha hr hwp hwq := by
    cases q with
    | zero => omega
    | succ q =>
      cases p with
      | zero =>
        simp only [List.getElem?_cons_zero, Option.some.injEq, Prod.mk.injEq] at hp
        obtain ⟨rfl, rfl⟩ := hp
        exact T.pre0 _ (hact ha hwp) q o2 z (by simpa using hq) hr hwq
      | succ p => exact T.pre p q u y o2 z (by simpa using hp) (by simpa using hq) (by omega) ha hr hwp hwq
  pre0 p hp q o2 z hq hr hwq := by
    cases q with
    | zero =>
      simp only [List.getElem?_cons_zero, Option.some.injEq, Prod.mk.injEq] at hq
      obtain ⟨rfl, rfl⟩ := hq
      exact hread hr hwq p hp
    | succ q => exact T.pre0 p (hps p hp) q o2 z (by simpa using hq) hr hwq

theorem draw_trace {call : CallR} {ops : Array Oper} : ∀ {l : List (Oper × Nat)} {ps : List (Nat × AHeap)} {f f' : Fr} {σ σ' : AHeap},
    drawF P call ops l ps f σ = some (f', σ') → Nonempty (TrFrom P call ops l ps f σ f' σ') := by
  intro l
  induction l with
  | nil =>
    intro ps f f' σ σ' h
    simp only [drawF, Option.some.injEq, Prod.mk.injEq] at h
    obtain ⟨rfl, rfl⟩ := h
    exact ⟨{ fs := fun _ => f, hs := fun _ => σ, vs := fun _ => undef, f0_eq := rfl, s0_eq := rfl, f1_eq := rfl, s1_eq := rfl
             step := fun p o x hp => by simp at hp
             pre := fun p q u x o y hp => by simp at hp
             pre0 := fun p hp q o y hq => by simp at hq }⟩
  | cons x l ih =>
    intro ps f f' σ σ' h
    obtain ⟨o, k⟩ := x
    unfold drawF at h
    split at h
    · rename_i hw
      split at h
      · rename_i hc
        rw [Option.bind_eq_some_iff] at h
        obtain ⟨r, hr, h⟩ := h
        obtain ⟨T⟩ := ih h
        exact ⟨T.cons rfl (.inl ⟨hw, hr⟩) (fun p hp => hp) (fun e => by rw [hc] at e; cases e) (fun e => by rw [hc] at e; cases e)⟩
      · rename_i hc
        rw [Option.bind_eq_some_iff] at h
        obtain ⟨r, hr, h⟩ := h
        obtain ⟨T⟩ := ih h
        exact ⟨T.cons rfl (.inl ⟨hw, hr⟩) (fun p hp => hp) (fun e => by rw [hc] at e; cases e) (fun e => by rw [hc] at e; cases e)⟩
      · rename_i hc
        rw [Option.bind_eq_some_iff] at h
        obtain ⟨r, hr, h⟩ := h
        split at h
        · rename_i hck
          obtain ⟨T⟩ := ih h
          exact ⟨T.cons rfl (.inl ⟨hw, hr⟩) (fun p hp => hp) (fun e => by rw [hc] at e; cases e) (fun _ _ => hck)⟩
        · cases h
      · rename_i hc
        rw [Option.bind_eq_some_iff] at h
        obtain ⟨r, hr, h⟩ := h
        obtain ⟨T⟩ := ih h
        exact ⟨T.cons rfl (.inl ⟨hw, hr⟩) (fun p hp => List.mem_cons_of_mem _ hp) (fun _ _ => List.mem_cons_self) (fun e => by rw [hc] at e; cases e)⟩
    · rename_i hw
      obtain ⟨T⟩ := ih h
      have hw' : Region.wanted o (yieldF ops f) = false := by simpa using hw
      exact ⟨T.cons rfl (.inr ⟨hw', rfl, rfl⟩) (fun p hp => hp) (fun _ e => absurd e hw) (fun _ e => absurd e hw)⟩

theorem trace_of_draw {call : CallR} {ops : Array Oper} {l : List (Oper × Nat)} {f f' : Fr} {σ σ' : AHeap} (h : drawF P call ops l [] f σ = some (f', σ')) : Nonempty (Tr P call ops l f σ f' σ') := by
  obtain ⟨T⟩ := draw_trace h
  exact ⟨T.toTr⟩

/-! ### The static look -/
theorem fold_bits {acc : Array Nat} {i : Nat} : ∀ {l : List Edge} {s : Nat}, (l.foldl (fun s e => if Region.binds .any e then s ||| 2 ^ e.on ||| acc.getD e.on 0 else s) s).testBit i = true →
    s.testBit i = true ∨ ∃ e ∈ l, Region.binds .any e = true ∧ (e.on = i ∨ (acc.getD e.on 0).testBit i = true) := by
  intro l
  induction l with
  | nil => intro s h; exact .inl h
  | cons e l ih =>
    intro s h
    simp only [List.foldl_cons] at h
    rcases ih h with h | ⟨e', he, hb, hx⟩
    · split at h
      · rename_i hb
        simp only [Nat.testBit_or, Bool.or_eq_true] at h
        rcases h with (h | h) | h
        · exact .inl h
        · rw [Nat.testBit_two_pow] at h
          exact .inr ⟨e, by simp, hb, .inl (by simpa using h)⟩
        · exact .inr ⟨e, by simp, hb, .inr h⟩
      · exact .inl h
    · exact .inr ⟨e', by simp [he], hb, hx⟩

theorem before_spec {ops : Array Oper} {i j : Nat} (h : orderedIn ops i j = true) :
    ∃ o, ops[j]? = some o ∧ ∃ e ∈ o.after.toList, Region.binds .any e = true ∧ (e.on = i ∨ orderedIn ops i e.on = true) := by
  have key : ∀ (l : List Oper) (acc : Array Nat) (done : List Oper), done ++ l = ops.toList → acc.size = done.length →
      (∀ j i, (acc.getD j 0).testBit i = true → ∃ o, ops[j]? = some o ∧ ∃ e ∈ o.after.toList, Region.binds .any e = true ∧ (e.on = i ∨ (acc.getD e.on 0).testBit i = true)) →
      ∀ j i, ((l.foldl (fun acc o => acc.push (o.after.foldl (fun s e => if Region.binds .any e then s ||| 2 ^ e.on ||| acc.getD e.on 0 else s) 0)) acc).getD j 0).testBit i = true →
        ∃ o, ops[j]? = some o ∧ ∃ e ∈ o.after.toList, Region.binds .any e = true ∧
          (e.on = i ∨ ((l.foldl (fun acc o => acc.push (o.after.foldl (fun s e => if Region.binds .any e then s ||| 2 ^ e.on ||| acc.getD e.on 0 else s) 0)) acc).getD e.on 0).testBit i = true) := by
    intro l
    induction l with
    | nil => intro acc done hd hs hi; exact hi
    | cons o l ih =>
      intro acc done hd hs hi
      simp only [List.foldl_cons]
      refine ih _ (done ++ [o]) (by simpa using hd) (by simp [hs]) ?_
      have hup : ∀ (a : Nat) (v i : Nat), (acc.getD a 0).testBit i = true → ((acc.push v).getD a 0).testBit i = true := by
        intro a v i ha
        have hlt : a < acc.size := by
          rcases Nat.lt_or_ge a acc.size with h | h
          · exact h
          · simp [Array.getD, Nat.not_lt.2 h] at ha
        simp only [Array.getD, Array.size_push, hlt, dif_pos, show a < acc.size + 1 by omega] at ha ⊢
        simpa [Array.getElem_push, hlt] using ha
      intro j i hji
      by_cases hj : j < acc.size
      · have : (acc.getD j 0).testBit i = true := by
          simp only [Array.getD, Array.size_push, hj, dif_pos, show j < acc.size + 1 by omega] at hji ⊢
          simpa [Array.getElem_push, hj] using hji
        obtain ⟨o', ho', e, he, hb, hx⟩ := hi j i this
        exact ⟨o', ho', e, he, hb, hx.imp id (hup _ _ _)⟩
      · by_cases hj2 : j = acc.size
        · subst hj2
          have hbit : (o.after.foldl (fun s e => if Region.binds .any e then s ||| 2 ^ e.on ||| acc.getD e.on 0 else s) 0).testBit i = true := by
            simpa [Array.getD] using hji
          rw [← Array.foldl_toList] at hbit
          have ho' : ops[acc.size]? = some o := by
            rw [← Array.getElem?_toList, ← hd, hs]
            simp
          rcases fold_bits hbit with h0 | ⟨e, he, hb, hx⟩
          · simp at h0
          · exact ⟨o, ho', e, he, hb, hx.imp id (hup _ _ _)⟩
        · exfalso
          have : ¬ (j < acc.size + 1) := by omega
          simp [Array.getD, this] at hji
  have := key ops.toList #[] [] rfl rfl (fun j i h => by simp [Array.getD] at h) j i
  unfold orderedIn befores Region.before at h ⊢
  rw [← Array.foldl_toList] at h ⊢
  exact this h

end
end Go.Am
