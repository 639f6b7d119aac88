/- The abstract machine: frames, calls, regions in the text's order, code. -/
import Derived.Test.YtfblbkmmjidknaaAmL
set_option linter.unusedVariables false
set_option linter.unusedSimpArgs false
namespace Go.Am
section
variable {P : Program} {σ : AHeap} {γ : Gm} {w : World}

/-- A step's outcome, as far as memory goes. -/
structure Post (P : Program) (σ : AHeap) (γ : Gm) (w : World) (σ' : AHeap) (γ' : Gm) (w' : World) : Prop where
  rel : Rel P σ' γ' w'
  fram : Fram σ γ w w'
  grows : Grows σ σ' γ γ'
  newB : NewB σ γ γ' w

theorem Post.refl (R : Rel P σ γ w) : Post P σ γ w σ γ w := ⟨R, Fram.refl σ γ w, Grows.refl σ γ, NewB.refl σ γ w⟩

theorem Post.trans {σ2 σ3 : AHeap} {γ2 γ3 : Gm} {w2 w3 : World} (R : Rel P σ γ w) (h : Post P σ γ w σ2 γ2 w2) (k : Post P σ2 γ2 w2 σ3 γ3 w3) : Post P σ γ w σ3 γ3 w3 where
  rel := k.rel
  fram := h.fram.trans k.fram h.newB h.grows.dead (fun i e he => (R.dom i e he).2.1) h.grows.le
  grows := h.grows.trans k.grows
  newB := fun i e he hn => by
    cases h2 : γ2 i with
    | some e2 =>
      have := k.grows.le i e2 h2
      rw [he] at this; injection this with this; subst this
      exact h.newB i e h2 hn
    | none =>
      rcases k.newB i e he h2 with h1 | ⟨j, ej, hj, hjd, hje⟩
      · exact .inl (Nat.le_trans h.fram.size h1)
      · cases h3 : γ j with
        | some e3 =>
          have := h.grows.le j e3 h3
          rw [hj] at this; injection this with this; subst this
          exact .inr ⟨j, ej, h3, fun hd => hjd (h.grows.dead j (R.dom j ej h3).2.1 hd), hje⟩
        | none =>
          rcases h.newB j ej hj h3 with h1 | ⟨j2, e2, a, b, c⟩
          · exact .inl (by rw [← hje]; exact h1)
          · exact .inr ⟨j2, e2, a, b, c.trans hje⟩

theorem Post.base {σ2 : AHeap} {γ2 : Gm} {w2 : World} (h : Post P σ γ w σ2 γ2 w2) : σ2.base = σ.base := h.grows.base

/-! ### Frames -/
structure FrR (base : Nat) (γ : Gm) (f : Fr) (a : Act) (N : Nat) : Prop where
  defers : a.defers = []
  size : a.tmps.size = N
  val : ∀ t, VR base γ (f t) (a.tmps.getD t undef)

theorem FrR.mono {base : Nat} {γ' : Gm} {f : Fr} {a : Act} {N : Nat} (h : FrR base γ f a N) (hg : γ.le γ') : FrR base γ' f a N := ⟨h.defers, h.size, fun t => (h.val t).mono hg⟩

theorem getD_set (x : Array Value) (t i : Nat) (v d : Value) (h : t < x.size) : (x.setIfInBounds t v).getD i d = if i = t then v else x.getD i d := by
  by_cases hi : i = t
  · subst hi; simp [Array.getD, h]
  · simp only [hi, if_false, Array.getD, Array.size_setIfInBounds]
    split
    · rename_i h2
      show (x.setIfInBounds t v)[i]'(by simpa using h2) = x[i]
      rw [Array.getElem_setIfInBounds]
      rw [if_neg (Ne.symm hi)]
    · rfl

theorem FrR.put {base : Nat} {f : Fr} {a : Act} {N : Nat} (h : FrR base γ f a N) {d : Option Tmp} (hd : ∀ t, d = some t → t < N) {v v' : Value} (hv : VR base γ v v') : FrR base γ (f.put d v) (a.put d v') N := by
  cases d with
  | none => exact h
  | some t =>
    have ht : t < a.tmps.size := by rw [h.size]; exact hd t rfl
    refine ⟨h.defers, by simp [Act.put, h.size], fun i => ?_⟩
    simp only [Act.put, Fr.put, Fr.set]
    rw [getD_set _ _ _ _ _ ht]
    split
    · exact hv
    · exact h.val i

theorem FrR.eval {base : Nat} {f : Fr} {a : Act} {N : Nat} (h : FrR base γ f a N) {x : Operand} (hx : operandOk x = true) : VR base γ (ev f x) (a.eval x) := by
  cases x with
  | tmp t => exact h.val t
  | const v => exact VR.ofConst (v := v) hx
  | global g => simp [operandOk] at hx
  | func g => exact .func _ _ _ _ _ rfl rfl (fun i v v' hv => by simp at hv) (fun i v v' hv => by simp at hv)

theorem FrR.yielded {base : Nat} {f : Fr} {a : Act} {N : Nat} (h : FrR base γ f a N) (ops : Array Oper) : yieldF ops f = yielded ops a.tmps := by
  funext j
  unfold yieldF Go.yielded
  cases hd : (ops[j]?).bind (·.dst) with
  | none => rfl
  | some t =>
    simp only [Option.bind_some]
    have hv := h.val t
    by_cases ht : t < a.tmps.size
    · have e : a.tmps[t]? = some (a.tmps.getD t undef) := by simp [Array.getD, ht]
      rw [e]
      generalize a.tmps.getD t undef = x at hv
      generalize f t = y at hv
      cases hv <;> rfl
    · have e : a.tmps[t]? = none := Array.getElem?_eq_none (Nat.le_of_not_lt ht)
      have e2 : a.tmps.getD t undef = undef := by simp [Array.getD, ht]
      rw [e]
      rw [e2] at hv
      generalize f t = y at hv
      unfold undef at hv
      cases hv
      rfl

/-! ### Calls -/
/-- What becomes of a call of a function, whichever it is. -/
def CallK (P : Program) (g : FuncId) (args : Array Value) (w : World) (K : Value → World → Prop) : Prop :=
  match (callFunc g args).run P w with
  | .ok (.value v) w' => K v w'
  | .ok (.enter f as) w' => Calls P f as w' fun e w'' => ∃ v, e = .returned v ∧ K v w''
  | _ => False

def CallOk (P : Program) (call : CallR) : Prop :=
  ∀ g args σ r, call g args σ = some r → ∀ γ w args', Rel P σ γ w → LR σ.base γ args args' →
    CallK P g args'.toArray w fun v' w' => ∃ γ', VR σ.base γ' r.1 v' ∧ Post P σ γ w r.2 γ' w'

theorem NextOk.post {r : Value × AHeap} {S : Sem Next} (h : NextOk P σ γ w r S) : ∃ γ' w' n, S.run P w = .ok n w' ∧ ((∃ v', n = .value v' ∧ VR σ.base γ' r.1 v') ∨ (n = .skip ∧ r.1 = undef)) ∧ Post P σ γ w r.2 γ' w' := by
  obtain ⟨γ', w', n, h1, h2, h3, h4, h5, h6⟩ := h
  exact ⟨γ', w', n, h1, h2, h3, h4, h5, h6⟩

/-- One operation, Go functions called too. -/
theorem opV_sound (hz : ZeroOk P) {call : CallR} (hc : CallOk P call) (R : Rel P σ γ w) {f : Fr} {a : Act} {o : Oper} (hρ : ∀ x ∈ o.op.operands.toList, VR σ.base γ (ev f x) (a.eval x)) {r : Value × AHeap} (h : opV P call f σ o = some r)
    {K : Act → World → Prop} {Q : Exit → Act → World → Prop} (hK : ∀ v' γ' w', VR σ.base γ' r.1 v' → Post P σ γ w r.2 γ' w' → K (a.put o.dst v') w') : o.wp P a w K Q := by
  have nocall : aop P f σ o.op = some r → o.wp P a w K Q := by
    intro h
    obtain ⟨γ', w', n, h1, h2, h3⟩ := (aop_sound hz R hρ h).post
    unfold Oper.wp
    rw [h1]
    rcases h2 with ⟨v', rfl, hv⟩ | ⟨rfl, hu⟩
    · rw [Oper.upon_value]; exact hK v' γ' w' hv h3
    · rw [Oper.upon_skip]; exact hK undef γ' w' (by rw [hu]; exact VR.undef) h3
  unfold opV at h
  split at h
  · rename_i g args ats ho
    rw [Option.bind_eq_some_iff] at h
    obtain ⟨p, hp, h⟩ := h
    unfold aCallee at hp
    simp only at hp
    split at hp
    · rename_i hf first cap he
      injection hp with hp; subst hp
      simp only at h
      have hg := hρ g (by rw [ho]; simp [Op.operands, Call.operands])
      rw [he] at hg
      have hargs : LR σ.base γ (args.toList.map (ev f)) (args.toList.map a.eval) := LR.map _ _ _ (fun x hx => hρ x (by rw [ho]; simp only [Op.operands, Call.operands, Array.toList_append, List.mem_append]; exact .inr hx))
      generalize hy : a.eval g = y at hg
      cases hg with
      | func _ _ fi' _ ca' h1 h2 h3 h4 =>
        have hL : LR σ.base γ (first.toList ++ args.toList.map (ev f) ++ cap.toList) (fi'.toList ++ args.toList.map a.eval ++ ca'.toList) := ((LR.arr h1 h3).append hargs).append (LR.arr h2 h4)
        have hcall := hc _ _ _ _ h γ w _ R hL
        have hex : (execOp a.eval o).run P w = (callFunc hf (fi'.toList ++ args.toList.map a.eval ++ ca'.toList).toArray).run P w := by
          obtain ⟨dst, op, ty, pos, after, guard⟩ := o
          simp only at ho
          subst ho
          have e2 : (fi'.toList ++ args.toList.map a.eval ++ ca'.toList).toArray = fi' ++ args.map a.eval ++ ca' := by apply Array.ext'; simp
          simp only [execOp, resolve, hy, Deferred.ofValue, Sem.run_bind, Sem.run_pure, Result.andThen_ok, invoke, e2]
        unfold Oper.wp
        rw [hex]
        unfold CallK at hcall
        split at hcall
        · rename_i v w' hr
          rw [hr, Oper.upon_value]
          obtain ⟨γ', hv, hp⟩ := hcall
          exact hK v γ' w' hv hp
        · rename_i f' as w' hr
          rw [hr, Oper.upon_enter]
          refine hcall.mono (fun e w'' he => ?_)
          obtain ⟨v, rfl, γ', hv, hp⟩ := he
          exact hK v γ' w'' hv hp
        · exact hcall.elim
    · cases hp
  · exact nocall h

/-! ### A region in the text's order -/
theorem operOk_dst {N : Nat} {o : Oper} (h : operOk N o = true) : ∀ t, o.dst = some t → t < N := by
  intro t ht
  unfold operOk at h
  rw [ht] at h
  simp at h
  exact h.1
theorem operOk_operand {N : Nat} {o : Oper} (h : operOk N o = true) : ∀ x ∈ o.op.operands.toList, operandOk x = true := by
  intro x hx
  unfold operOk at h
  simp only [Bool.and_eq_true, Array.all_eq_true_iff_forall_mem] at h
  exact h.2 x (by simpa using hx)

theorem ops_sound (hz : ZeroOk P) {call : CallR} (hc : CallOk P call) {N : Nat} {ops : Array Oper} {Q : Exit → Act → World → Prop} : ∀ {l : List Oper} {f f' : Fr} {σ σ' : AHeap} {γ : Gm} {a : Act} {w : World},
    (∀ o ∈ l, operOk N o = true) → Rel P σ γ w → FrR σ.base γ f a N → opsF P call ops l f σ = some (f', σ') →
    (∀ a' γ' w', FrR σ.base γ' f' a' N → Post P σ γ w σ' γ' w' → Q .normal a' w') → wpList P ops Q l a w := by
  intro l
  induction l with
  | nil =>
    intro f f' σ σ' γ a w hl R F h hQ
    simp only [opsF, Option.some.injEq, Prod.mk.injEq] at h
    obtain ⟨rfl, rfl⟩ := h
    exact hQ a γ w F (Post.refl R)
  | cons o l ih =>
    intro f f' σ σ' γ a w hl R F h hQ
    have hok := hl o (by simp)
    unfold opsF at h
    rw [F.yielded ops] at h
    unfold wpList
    split at h
    · rename_i hw
      rw [if_pos hw]
      rw [Option.bind_eq_some_iff] at h
      obtain ⟨r, hr, h⟩ := h
      refine .inl (opV_sound hz hc R (fun x hx => F.eval (operOk_operand hok x hx)) hr (fun v' γ' w' hv hp => ?_))
      have hb := hp.base
      refine ih (fun o ho => hl o (by simp [ho])) hp.rel (by rw [hb]; exact (F.mono hp.grows.le).put (operOk_dst hok) hv) h (fun a' γ2 w2 F2 p2 => hQ a' γ2 w2 (by rw [hb] at F2; exact F2) (hp.trans R p2))
    · rename_i hw
      rw [if_neg hw]
      exact ih (fun o ho => hl o (by simp [ho])) R (F.put (operOk_dst hok) VR.undef) h hQ

end
end Go.Am
