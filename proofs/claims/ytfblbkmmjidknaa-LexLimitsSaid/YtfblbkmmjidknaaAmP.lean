/- The abstract machine: its heaps only grow. -/
import Derived.Test.YtfblbkmmjidknaaAmO
set_option linter.unusedVariables false
set_option linter.unusedSimpArgs false
namespace Go.Am
section
variable {P : Program} {σ : AHeap}

def Fresh (σ : AHeap) : Prop := ∀ i, σ.next ≤ i → σ.get i = .dead
structure AMono (σ σ' : AHeap) : Prop where
  old : σ'.old = σ.old
  next : σ.next ≤ σ'.next
  fresh : Fresh σ → Fresh σ'

theorem AMono.refl (σ : AHeap) : AMono σ σ := ⟨rfl, Nat.le_refl _, fun h => h⟩
theorem AMono.trans {a b c : AHeap} (h : AMono a b) (k : AMono b c) : AMono a c := ⟨k.old.trans h.old, Nat.le_trans h.next k.next, fun f => k.fresh (h.fresh f)⟩
theorem AMono.push (σ : AHeap) (o : AObj) : AMono σ (σ.push o) := ⟨rfl, by simp [AHeap.push], fun f i hi => by
  have : i ≠ σ.next := by simp [AHeap.push] at hi; omega
  rw [push_get_old _ _ this]; exact f i (by simp [AHeap.push] at hi; omega)⟩
theorem AMono.kill (σ : AHeap) (ch keep lim : Nat) : AMono σ (σ.kill ch keep lim) := ⟨rfl, Nat.le_refl _, fun f i hi => kill_dead (f i hi)⟩
theorem AMono.put {j : Nat} (o : AObj) (h : σ.get j ≠ .dead) : AMono σ (σ.put j o) := ⟨rfl, Nat.le_refl _, fun f i hi => by
  have : i ≠ j := by intro e; subst e; exact h (f i hi)
  rw [put_get_other _ _ this]; exact f i hi⟩

theorem wr_mono {a : Addr} {vs : List Value} {σ' : AHeap} (h : wr σ a vs = some σ') : AMono σ σ' := by
  unfold wr at h
  split at h
  · cases h
  · split at h
    · cases h
    · split at h
      · rename_i c el ch hget
        split at h
        · injection h with h; subst h
          refine (AMono.kill σ ch a.block a.off).trans ⟨rfl, Nat.le_refl _, fun f i hi => ?_⟩
          have : i ≠ a.block := by
            intro e; subst e
            have := f a.block hi
            unfold AHeap.kill at this
            simp [hget] at this
          rw [put_get_other _ _ this]; exact f i hi
        · cases h
      · cases h

theorem map_mono {α : Type} {x : Option α} {r : α × AHeap} (h : x.map (·, σ) = some r) : AMono σ r.2 := by
  rw [(map_fst h).1]; exact AMono.refl σ

theorem mapU_mono {x : Option AHeap} {r : Value × AHeap} (h : x.map (undef, ·) = some r) (hx : ∀ σ', x = some σ' → AMono σ σ') : AMono σ r.2 := by
  rw [Option.map_eq_some_iff] at h
  obtain ⟨σ', h1, rfl⟩ := h
  exact hx _ h1

theorem mapUpdate_mono {t : TypeId} {x k v : Value} {σ' : AHeap} (h : aMapUpdate P σ t x k v = some σ') : AMono σ σ' := by
  unfold aMapUpdate at h
  split at h
  · split at h
    · split at h
      · cases h
      · split at h
        · rename_i es clock hget
          rw [Option.bind_eq_some_iff] at h
          obtain ⟨q, _, h⟩ := h
          cases q with
          | none => simp only [Option.some.injEq] at h; subst h; exact AMono.put _ (by rw [hget]; simp)
          | some q =>
            simp only at h
            split at h
            · injection h with h; subst h; exact AMono.put _ (by rw [hget]; simp)
            · cases h
        · cases h
    · cases h
  · cases h

theorem append_mono {st xt : TypeId} {s x : Value} {r : Value × AHeap} (h : aAppend P σ st xt s x = some r) : AMono σ r.2 := by
  unfold aAppend at h
  split at h
  · cases h
  · rw [Option.bind_eq_some_iff] at h
    obtain ⟨_, _, h⟩ := h
    rw [Option.bind_eq_some_iff] at h
    obtain ⟨_, _, h⟩ := h
    rw [Option.bind_eq_some_iff] at h
    obtain ⟨_, _, h⟩ := h
    rw [Option.bind_eq_some_iff] at h
    obtain ⟨_, _, h⟩ := h
    rw [Option.bind_eq_some_iff] at h
    obtain ⟨_, _, h⟩ := h
    split at h
    · injection h with h; subst h; exact AMono.refl σ
    · split at h
      · split at h
        · injection h with h; subst h; exact AMono.push _ _
        · split at h
          · injection h with h; subst h; exact AMono.push _ _
          · split at h
            · cases h
            · split at h
              · split at h
                · split at h
                  · injection h with h; subst h; exact (AMono.kill _ _ _ _).trans (AMono.push _ _)
                  · injection h with h; subst h; exact (AMono.kill _ _ _ _).trans (AMono.push _ _)
                · cases h
              · cases h
      · cases h
  · cases h

theorem aop_mono {f : Fr} {op : Op} {r : Value × AHeap} (h : aop P f σ op = some r) : AMono σ r.2 := by
  cases op <;> simp only [aop] at h
  case alloc e =>
    rw [Option.bind_eq_some_iff] at h
    obtain ⟨z, _, h⟩ := h
    unfold aNew at h
    split at h
    · injection h with h; subst h; exact AMono.push _ _
    · cases h
  case box e x =>
    split at h
    · unfold aNew at h
      split at h
      · injection h with h; subst h; exact AMono.push _ _
      · cases h
    · cases h
  case buildSlice t len ps =>
    unfold aBuildSlice at h
    split at h
    · split at h
      · rw [Option.bind_eq_some_iff] at h
        obtain ⟨_, _, h⟩ := h
        rw [Option.bind_eq_some_iff] at h
        obtain ⟨_, _, h⟩ := h
        split at h
        · rw [Option.map_eq_some_iff] at h
          obtain ⟨_, _, rfl⟩ := h
          exact AMono.push _ _
        · cases h
      · cases h
    · cases h
  case store t a x =>
    refine mapU_mono h (fun σ' hs => ?_)
    unfold aStore at hs
    split at hs
    · split at hs
      · exact wr_mono hs
      · cases hs
    · cases hs
  case convert s d x =>
    unfold aConv at h
    split at h
    · injection h with h; subst h; exact AMono.refl σ
    · injection h with h; subst h; exact AMono.refl σ
    · split at h
      · injection h with h; subst h; exact AMono.refl σ
      · cases h
    · split at h
      · rw [Option.bind_eq_some_iff] at h
        obtain ⟨_, _, h⟩ := h
        rw [Option.map_eq_some_iff] at h
        obtain ⟨_, _, rfl⟩ := h
        exact AMono.refl σ
      · cases h
    · split at h
      · split at h
        · injection h with h; subst h; exact AMono.push _ _
        · cases h
      · cases h
    · cases h
  case makeMap t r =>
    split at h
    · injection h with h; subst h; exact AMono.push _ _
    · injection h with h; subst h; exact AMono.push _ _
    · cases h
  case makeSlice t l c =>
    unfold aMakeSlice at h
    split at h
    · rw [Option.bind_eq_some_iff] at h
      obtain ⟨_, _, h⟩ := h
      rw [Option.bind_eq_some_iff] at h
      obtain ⟨_, _, h⟩ := h
      split at h
      · injection h with h; subst h; exact AMono.push _ _
      · cases h
    · cases h
  case mapUpdate t m k x => exact mapU_mono h (fun σ' hs => mapUpdate_mono hs)
  case insert t m k x => exact mapU_mono h (fun σ' hs => mapUpdate_mono hs)
  case mapEntry t m k =>
    unfold aMapEntry at h
    split at h
    · split at h
      · split at h
        · cases h
        · split at h
          · rename_i es clock hget
            rw [Option.bind_eq_some_iff] at h
            obtain ⟨q, _, h⟩ := h
            cases q with
            | none =>
              simp only at h
              rw [Option.map_eq_some_iff] at h
              obtain ⟨_, _, rfl⟩ := h
              exact AMono.put _ (by rw [hget]; simp)
            | some q =>
              simp only at h
              split at h
              · injection h with h; subst h; exact AMono.put _ (by rw [hget]; simp)
              · cases h
          · cases h
      · cases h
    · cases h
  case entryStore t m s x =>
    refine mapU_mono h (fun σ' hs => ?_)
    unfold aEntryStore at hs
    split at hs
    · split at hs
      · split at hs
        · cases hs
        · split at hs
          · rename_i es clock hget
            rw [Option.map_eq_some_iff] at hs
            obtain ⟨_, _, rfl⟩ := hs
            exact AMono.put _ (by rw [hget]; simp)
          · cases hs
      · cases hs
    · cases hs
  case call c =>
    obtain ⟨callee, args, ats⟩ := c
    cases callee with
    | builtin b =>
      simp only at h
      unfold aBuiltin at h
      split at h
      · split at h
        · exact append_mono h
        · cases h
      · split at h
        · unfold aCopy at h
          split at h
          · rw [Option.bind_eq_some_iff] at h
            obtain ⟨_, _, h⟩ := h
            rw [Option.bind_eq_some_iff] at h
            obtain ⟨_, _, h⟩ := h
            rw [Option.bind_eq_some_iff] at h
            obtain ⟨_, _, h⟩ := h
            split at h
            · injection h with h; subst h; exact AMono.refl σ
            · split at h
              · injection h with h; subst h; exact AMono.refl σ
              · rw [Option.map_eq_some_iff] at h
                obtain ⟨_, hw, rfl⟩ := h
                exact wr_mono hw
          · cases h
        · cases h
      · split at h
        · exact map_mono h
        · cases h
      · split at h
        · unfold aDelete at h
          split at h
          · split at h
            · split at h
              · cases h
              · split at h
                · rename_i es clock hget
                  rw [Option.bind_eq_some_iff] at h
                  obtain ⟨q, _, h⟩ := h
                  cases q with
                  | none => simp only [Option.some.injEq] at h; subst h; exact AMono.refl σ
                  | some q => simp only [Option.some.injEq] at h; subst h; exact AMono.put _ (by rw [hget]; simp)
                · cases h
            · cases h
          · cases h
        · cases h
      · split at h
        · exact map_mono h
        · cases h
      · split at h
        · exact map_mono h
        · cases h
      · cases h
    | _ => simp at h
  all_goals first
    | exact map_mono h
    | (injection h with h; subst h; exact AMono.refl σ)
    | (split at h <;> first
        | (cases h; done)
        | exact map_mono h
        | (injection h with h; subst h; exact AMono.refl σ))
    | (cases h; done)

def CallMono (call : CallR) : Prop := ∀ g args σ r, call g args σ = some r → AMono σ r.2

theorem opV_mono {call : CallR} (hc : CallMono call) {f : Fr} {o : Oper} {r : Value × AHeap} (h : opV P call f σ o = some r) : AMono σ r.2 := by
  unfold opV at h
  split at h
  · rw [Option.bind_eq_some_iff] at h
    obtain ⟨_, _, h⟩ := h
    exact hc _ _ _ _ h
  · exact aop_mono h

theorem opsF_mono {call : CallR} (hc : CallMono call) {ops : Array Oper} : ∀ {l : List Oper} {f : Fr} {σ : AHeap} {r : Fr × AHeap}, opsF P call ops l f σ = some r → AMono σ r.2 := by
  intro l
  induction l with
  | nil => intro f σ r h; simp [opsF] at h; subst h; exact AMono.refl σ
  | cons o l ih =>
    intro f σ r h
    unfold opsF at h
    split at h
    · rw [Option.bind_eq_some_iff] at h
      obtain ⟨x, hx, h⟩ := h
      exact (opV_mono hc hx).trans (ih h)
    · exact ih h

theorem drawF_mono {call : CallR} (hc : CallMono call) {ops : Array Oper} : ∀ {l : List (Oper × Nat)} {ps : List (Nat × AHeap)} {f : Fr} {σ : AHeap} {r : Fr × AHeap}, drawF P call ops l ps f σ = some r → AMono σ r.2 := by
  intro l
  induction l with
  | nil => intro ps f σ r h; simp [drawF] at h; subst h; exact AMono.refl σ
  | cons o l ih =>
    intro ps f σ r h
    obtain ⟨o, i⟩ := o
    unfold drawF at h
    split at h
    · split at h
      · rw [Option.bind_eq_some_iff] at h
        obtain ⟨x, hx, h⟩ := h
        exact (opV_mono hc hx).trans (ih h)
      · rw [Option.bind_eq_some_iff] at h
        obtain ⟨x, hx, h⟩ := h
        exact (opV_mono hc hx).trans (ih h)
      · rw [Option.bind_eq_some_iff] at h
        obtain ⟨x, hx, h⟩ := h
        split at h
        · exact (opV_mono hc hx).trans (ih h)
        · cases h
      · rw [Option.bind_eq_some_iff] at h
        obtain ⟨x, hx, h⟩ := h
        exact (opV_mono hc hx).trans (ih h)
    · exact ih h

theorem codeF_mono {call : CallR} (hc : CallMono call) {N : Nat} : ∀ {c : Code} {f : Fr} {σ : AHeap} {e : AExit} {f' : Fr} {σ' : AHeap}, codeF P call N c f σ = some (e, f', σ') → AMono σ σ' := by
  intro c
  induction c with
  | skip => intro f σ e f' σ' h; simp [codeF] at h; obtain ⟨_, _, rfl⟩ := h; exact AMono.refl σ
  | region id ops draw =>
    intro f σ e f' σ' h
    unfold codeF at h
    split at h
    · split at h
      · rw [Option.map_eq_some_iff] at h
        obtain ⟨r, hr, h⟩ := h
        injection h with h1 h2; injection h2 with h2 h3; subst h3
        exact drawF_mono hc hr
      · cases h
    · rw [Option.map_eq_some_iff] at h
      obtain ⟨r, hr, h⟩ := h
      injection h with h1 h2; injection h2 with h2 h3; subst h3
      exact opsF_mono hc hr
  | seq a b iha ihb =>
    intro f σ e f' σ' h
    unfold codeF at h
    split at h
    · rename_i f1 σ1 h1
      exact (iha h1).trans (ihb h)
    · exact iha h
  | cond c a b iha ihb =>
    intro f σ e f' σ' h
    unfold codeF at h
    split at h
    · split at h
      · exact iha h
      · exact ihb h
    · cases h
  | block id c ih =>
    intro f σ e f' σ' h
    unfold codeF at h
    split at h
    · rename_i i f1 σ1 h1
      split at h
      · injection h with h; injection h with _ h; injection h with _ h; subst h; exact ih h1
      · injection h with h; injection h with _ h; injection h with _ h; subst h; exact ih h1
    · exact ih h
  | loop c ih =>
    intro f σ e f' σ' h
    unfold codeF at h
    have : ∀ (n : Nat) (f : Fr) (σ : AHeap), iter (codeF P call N c) n f σ = some (e, f', σ') → AMono σ σ' := by
      intro n
      induction n with
      | zero => intro f σ h; simp [iter] at h
      | succ n ihn =>
        intro f σ h
        unfold iter at h
        split at h
        · rename_i f1 σ1 h1
          exact (ih h1).trans (ihn _ _ h)
        · exact ih h
    exact this _ _ _ h
  | exit id => intro f σ e f' σ' h; simp [codeF] at h; obtain ⟨_, _, rfl⟩ := h; exact AMono.refl σ
  | scope c ih => intro f σ e f' σ' h; unfold codeF at h; exact ih h
  | label l => intro f σ e f' σ' h; simp [codeF] at h; obtain ⟨_, _, rfl⟩ := h; exact AMono.refl σ
  | ret => intro f σ e f' σ' h; simp [codeF] at h; obtain ⟨_, _, rfl⟩ := h; exact AMono.refl σ
  | _ => intro f σ e f' σ' h; simp [codeF] at h

theorem externF_same {fn : Func} {args : List Value} {r : Value × AHeap} (h : externF fn args σ = some r) : r.2 = σ := by
  unfold externF at h
  split at h
  · split at h
    · injection h with h; subst h; rfl
    · cases h
  · cases h

theorem callF_mono (n : Nat) : CallMono (callF P n) := by
  induction n with
  | zero => intro g args σ r h; simp [callF] at h
  | succ n ih =>
    intro g args σ r h
    unfold callF at h
    split at h
    · cases h
    · split at h
      · rw [externF_same h]; exact AMono.refl σ
      · split at h
        · cases h
        · split at h
          · rename_i f σ' h1
            rw [(map_fst h).1]; exact codeF_mono ih h1
          · rename_i f σ' h1
            rw [(map_fst h).1]; exact codeF_mono ih h1
          · cases h

end
end Go.Am
