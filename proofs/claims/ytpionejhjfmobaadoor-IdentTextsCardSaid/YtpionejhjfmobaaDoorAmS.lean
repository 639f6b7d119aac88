/- AmS -/
import Derived.Test.YtpionejhjfmobaaDoorAmR
import Derived.LoopN
set_option linter.unusedVariables false
set_option linter.unusedSimpArgs false
namespace Go.Am
section
variable {P : Program} {call : CallR} {ops : Array Oper} {l : List (Oper × Nat)} {f0 f1 : Fr} {σ0 σ1 : AHeap} {γ0 γ : Gm} {w0 w : World} {N m : Nat} {S : Nat → Bool} {a : Act} {T : Tr P call ops l f0 σ0 f1 σ1}

theorem pure_bump {f : Fr} {op : Op} {v : Value} {σ : AHeap} (k : Nat) (hc : clsOf op = .pure ∨ clsOf op = .read) (h : aop P f σ op = some (v, σ)) : aop P f (σ.bump k) op = some (v, σ.bump k) := by
  rcases hc with hc | hc
  · exact (pure_any hc h).2 _
  · cases op <;> simp only [clsOf] at hc <;> (try (cases hc; done)) <;> simp only [aop] at h ⊢
    case load t x => obtain ⟨_, h2⟩ := map_fst h; have : aLoad P (σ.bump k) t (ev f x) = some v := h2; rw [this]; rfl
    case lookup t x y ok => obtain ⟨_, h2⟩ := map_fst h; have : aLookup P (σ.bump k) t (ev f x) (ev f y) ok = some v := h2; rw [this]; rfl
    case slice t x lo hi mx => obtain ⟨_, h2⟩ := map_fst h; have : aSlice P (σ.bump k) t (ev f x) (lo.map (ev f)) (hi.map (ev f)) (mx.map (ev f)) = some v := h2; rw [this]; rfl
    case call c =>
      obtain ⟨callee, args, ats⟩ := c
      cases callee with
      | builtin b =>
        cases b <;> simp at hc
        simp only [aBuiltin] at h ⊢
        generalize (args.map (ev f)).toList = l at h ⊢
        generalize ats.toList = ts at h ⊢
        cases ts with
        | nil => cases h
        | cons t ts =>
          cases l with
          | nil => cases h
          | cons x rest =>
            simp only at h ⊢
            obtain ⟨_, h2⟩ := map_fst h
            have : aLen P (σ.bump k) t x = some v := h2
            rw [this]; rfl
      | _ => simp at hc

theorem mem_looksAt_operand {o : Oper} {t : Tmp} (h : .tmp t ∈ o.op.operands.toList) : t ∈ o.looksAt ops := by
  unfold Oper.looksAt
  rw [List.mem_append]
  left
  rw [List.mem_filterMap]
  exact ⟨.tmp t, h, rfl⟩

theorem mem_looksAt_guard {o : Oper} {g : Nat} {b : Bool} {t : Tmp} (h : o.guard = some (g, b)) (ht : (ops[g]?).bind (·.dst) = some t) : t ∈ o.looksAt ops := by
  unfold Oper.looksAt
  rw [List.mem_append]
  right
  rw [h]
  simp [ht]

theorem yield_one {base : Nat} {f : Fr} {tmps : Array Value} {g : Nat} (h : ∀ t, (ops[g]?).bind (·.dst) = some t → VR base γ (f t) (tmps.getD t undef)) : yieldF ops f g = yielded ops tmps g := by
  unfold yieldF Go.yielded
  cases hd : (ops[g]?).bind (·.dst) with
  | none => rfl
  | some t =>
    simp only [Option.bind_some]
    have hv := h t hd
    by_cases ht : t < tmps.size
    · have e : tmps[t]? = some (tmps.getD t undef) := by simp [Array.getD, ht]
      rw [e]
      generalize tmps.getD t undef = x at hv
      generalize f t = y at hv
      cases hv <;> rfl
    · have e : tmps[t]? = none := Array.getElem?_eq_none (Nat.le_of_not_lt ht)
      have e2 : tmps.getD t undef = undef := by simp [Array.getD, ht]
      rw [e]
      rw [e2] at hv
      generalize f t = y at hv
      unfold undef at hv
      cases hv
      rfl

structure Closed (l : List (Oper × Nat)) (S : Nat → Bool) : Prop where
  cl : ∀ (p : Nat) (o : Oper) (x : Nat), l[p]? = some (o, x) → S x = true → ∀ e ∈ o.after.toList, Region.binds .any e = true → S e.on = true

theorem Closed.ins (C : Closed l S) (L : LOk ops l) {p : Nat} {o : Oper} {x : Nat} (hp : l[p]? = some (o, x)) (hed : ∀ e ∈ o.after.toList, Region.binds .any e = true → S e.on = true) : Closed l (ins S x) :=
  ⟨fun q u y hq hy e he hb => by
    by_cases h : y = x
    · subst h
      have := L.get q u y hq
      have h2 := L.get p o y hp
      rw [this] at h2; injection h2 with h2; subst h2
      exact ins_mono (hed e he hb)
    · rw [ins_other h] at hy
      exact ins_mono (C.cl q u y hq hy e he hb)⟩

/-- One operation, at whatever time it is ready. -/
theorem Inv.step (hz : ZeroOk P) (hc : CallOk P call) (hm : CallMono call) (R0 : Rel P σ0 γ0 w0) (L : LOk ops l) (C : Closed l S) (I : Inv T γ0 w0 N S m γ a w) {p : Nat} {o : Oper} {x : Nat} (hp : l[p]? = some (o, x))
    (hx : S x = false) (hed : ∀ e ∈ o.after.toList, Region.binds .any e = true → S e.on = true) (hok : operOk N o = true) {K : Act → World → Prop} {Q : Exit → Act → World → Prop}
    (hK : ∀ m' γ' a' w', Inv T γ0 w0 N (ins S x) m' γ' a' w' → K a' w') :
    if Region.wanted o (yielded ops a.tmps) then o.wp P a w K Q else K (a.put o.dst undef) w := by
  have hlt : p < l.length := (List.getElem?_eq_some_iff.1 hp).1
  have hmp : m ≤ p := by
    rcases Nat.lt_or_ge p m with h | h
    · have := I.allL p o x h hp; rw [hx] at this; cases this
    · exact h
  have huniq : ∀ (q : Nat) (u : Oper) (y : Nat), l[q]? = some (u, y) → y = x → q = p := by
    intro q u y hq hy
    rcases Nat.lt_trichotomy q p with h | h | h
    · exact absurd hy (L.nodup q p u y o x hq hp h)
    · exact h
    · exact absurd hy.symm (L.nodup p q o x u y hp hq h)
  have hbp : (T.hs p).base = σ0.base := T.base hm (Nat.le_of_lt hlt)
  have hnmp : (T.hs m).next ≤ (T.hs p).next := (T.mono hm hmp (Nat.le_of_lt hlt)).next
  have hnp1 : (T.hs p).next ≤ (T.hs (p + 1)).next := (T.mono hm (i := p) (j := p + 1) (by omega) (by omega)).next
  -- what the operation looks at
  have hlook : ∀ t, t ∈ o.looksAt ops → VR σ0.base (rst γ (T.hs p).next) (T.fs p t) (a.tmps.getD t undef) := by
    intro t ht
    obtain ⟨h1, h2⟩ := agree L T hm C.cl hp hx hed ht
    rw [← h1]
    exact (I.env t).mono (rst_le (by omega))
  have hwant : Region.wanted o (yielded ops a.tmps) = Region.wanted o (yieldF ops (T.fs p)) := by
    unfold Region.wanted
    cases hg : o.guard with
    | none => rfl
    | some gb =>
      obtain ⟨g, b⟩ := gb
      simp only
      rw [yield_one (γ := rst γ (T.hs p).next) (base := σ0.base) (f := T.fs p) (tmps := a.tmps) (fun t ht => hlook t (mem_looksAt_guard hg ht))]
  have hρ : ∀ y ∈ o.op.operands.toList, VR σ0.base (rst γ (T.hs p).next) (ev (T.fs p) y) (a.eval y) := by
    intro y hy
    have hyo := operOk_operand hok y hy
    cases y with
    | tmp t => exact hlook t (mem_looksAt_operand hy)
    | const v => exact VR.ofConst (v := v) hyo
    | global g => simp [operandOk] at hyo
    | func g => exact .func _ _ _ _ _ rfl rfl (fun i v v' hv => by simp at hv) (fun i v v' hv => by simp at hv)
  have hnoact : ∀ (q : Nat) (u : Oper) (y : Nat), m ≤ q → l[q]? = some (u, y) → ¬ (q = p) → clsOf u.op = .act → T.want q u → ins S x y = false := by
    intro q u y hmq hq hqp hcu hw
    rw [ins_other (fun h => hqp (huniq q u y hq h))]
    exact I.noact q u y hmq hq hcu hw
  -- a step that is no act and makes nothing
  have still : ∀ (v' : Value), ¬ T.act p → ¬ (clsOf o.op = .alloc ∧ T.want p o) → VR σ0.base (rst γ (T.hs p).next) (T.vs p) v' → Inv T γ0 w0 N (ins S x) m γ (a.put o.dst v') w := by
    intro v' hna hnal hv
    exact {
      mle := I.mle
      allL := fun q u y hq hu => ins_mono (I.allL q u y hq hu)
      noact := fun q u y hmq hq hcu hw => hnoact q u y hmq hq (fun h => by
        subst h; rw [hp] at hq; injection hq with hq; injection hq with h1 h2; subst h1
        exact hna ⟨o, x, hp, hcu, hw⟩) hcu hw
      post := I.post
      early := fun q u y hmq hq hSy hcu hw => by
        have hqp : q ≠ p := fun h => by
          subst h; rw [hp] at hq; injection hq with hq; injection hq with h1 h2; subst h1
          exact hnal ⟨hcu, hw⟩
        rw [ins_other (fun h => hqp (huniq q u y hq h))] at hSy
        exact I.early q u y hmq hq hSy hcu hw
      dom := fun i e h => (I.dom i e h).imp id (fun ⟨q, u, y, h1, h2, h3, h4⟩ => ⟨q, u, y, h1, h2, ins_mono h3, h4⟩)
      env := cur_put L T C.cl hp hx I.env I.size (operOk_dst hok) (fun n => Gm.le_refl _) (hv.mono (rst_le (by omega)))
      size := by rw [Act.put_size]; exact I.size
      defers := by rw [Act.put_def]; exact I.defers }
  rw [hwant]
  rcases (T.step p o x hp).2 with ⟨hw, h1⟩ | ⟨hw, hvu, h1⟩
  · rw [if_pos hw]
    cases hcls : clsOf o.op with
    | act =>
      -- an act: all ahead of it is listed
      have hbefore : ∀ (q : Nat) (u : Oper) (y : Nat), m ≤ q → q < p → l[q]? = some (u, y) → S y = true := by
        intro q u y _ hqp hq
        cases hord : orderedIn ops y x with
        | true => exact closed_ordered L C.cl p o x hp hed y hord
        | false =>
          have := (pairOk_apart (L.pair q p u y o x hq hp hqp) hord).1
          unfold isActC at this
          rw [hcls] at this; simp at this
      have I2 := I.advanceTo hz hm R0 hmp (Nat.le_of_lt hlt) hbefore
      have hlookp : ∀ y ∈ o.op.operands.toList, VR (T.hs p).base (rst γ (T.hs p).next) (ev (T.fs p) y) (a.eval y) := by rw [hbp]; exact hρ
      refine opV_sound hz hc I2.post.rel hlookp h1 (fun v' γ' w' hv hpst => ?_)
      rw [hbp] at hv
      -- the names from here on
      let γ1 : Gm := fun i => if i < (T.hs (p + 1)).next then γ' i else γ i
      have hr1 : rst γ1 (T.hs (p + 1)).next = γ' := by
        funext i
        unfold rst
        by_cases h : i < (T.hs (p + 1)).next
        · simp [γ1, h]
        · simp only [h, if_false]
          cases hg : γ' i with
          | none => rfl
          | some e => exact absurd (hpst.rel.dom i e hg).2.1 h
      have hearly_ge : ∀ (q : Nat) (u : Oper) (y : Nat), p + 1 ≤ q → l[q]? = some (u, y) → (T.hs (p + 1)).next ≤ (T.hs q).next := fun q u y hq hu =>
        (T.mono hm hq (Nat.le_of_lt (List.getElem?_eq_some_iff.1 hu).1)).next
      have hdom1 : ∀ i e, γ i = some e → ¬ i < (T.hs p).next → ∃ (q : Nat) (u : Oper) (y : Nat), p + 1 ≤ q ∧ l[q]? = some (u, y) ∧ S y = true ∧ clsOf u.op = .alloc ∧ T.want q u ∧ i = (T.hs q).next := by
        intro i e h hi
        rcases I2.dom i e h with h2 | ⟨q, u, y, h2, h3, h4, h5, h6, h7⟩
        · exact absurd h2 hi
        · refine ⟨q, u, y, ?_, h3, h4, h5, h6, h7⟩
          rcases Nat.lt_or_ge p q with h8 | h8
          · exact h8
          · have : q = p := by omega
            subst this
            rw [hp] at h3; injection h3 with h3; injection h3 with h9 _; subst h9
            rw [hcls] at h5; cases h5
      have hle1 : ∀ n, (rst γ (max n (T.hs p).next)).le (rst γ1 (max n (T.hs (p + 1)).next)) := by
        intro n i e h
        rw [rst_some] at h ⊢
        refine ⟨by omega, ?_⟩
        by_cases hi : i < (T.hs p).next
        · have : γ' i = some e := hpst.grows.le i e (rst_some.2 ⟨hi, h.2⟩)
          simp [γ1, show i < (T.hs (p + 1)).next by omega, this]
        · obtain ⟨q, u, y, h2, h3, h4, h5, h6, h7⟩ := hdom1 i e h.2 hi
          have := hearly_ge q u y h2 h3
          simp [γ1, show ¬ (i < (T.hs (p + 1)).next) by omega, h.2]
      refine hK (p + 1) γ1 _ w' {
        mle := hlt
        allL := fun q u y hq hu => by
          by_cases h : q = p
          · subst h; rw [hp] at hu; injection hu with hu; injection hu with _ h2; subst h2; exact ins_same S x
          · exact ins_mono (I2.allL q u y (by omega) hu)
        noact := fun q u y hmq hq hcu hw => hnoact q u y (by omega) hq (by omega) hcu hw
        post := by rw [hr1]; exact I2.post.trans R0 hpst
        early := fun q u y hmq hq hSy hcu hw => by
          have hqp : q ≠ p := by omega
          rw [ins_other (fun h => hqp (huniq q u y hq h))] at hSy
          obtain ⟨obj, obj', ent, e1, e2, e3, e4, e5, e6⟩ := I2.early q u y (by omega) hq hSy hcu hw
          have hge := hearly_ge q u y hmq hq
          have hlB : ent.B < w.heap.size := (Array.getElem?_eq_some_iff.1 e3).1
          refine ⟨obj, obj', ent, e1, by simp [γ1, show ¬ ((T.hs q).next < (T.hs (p + 1)).next) by omega, e2], ?_, e4.mono ?_, e5, ?_⟩
          · rw [hpst.fram.same ent.B hlB (fun i e he _ hB => by
              rw [rst_some] at he
              have := e6 i e he.2 hB
              omega)]
            exact e3
          · intro i e h
            have := hle1 (T.hs q).next i e (by rw [rst_some] at h ⊢; exact ⟨by omega, h.2⟩)
            rw [rst_some] at this h ⊢
            exact ⟨h.1, this.2⟩
          · intro i e h hB
            by_cases hi : i < (T.hs (p + 1)).next
            · simp only [γ1, hi, if_true] at h
              cases hg : rst γ (T.hs p).next i with
              | some e' =>
                have := hpst.grows.le i e' hg
                rw [h] at this; injection this with this; subst this
                rw [rst_some] at hg
                exact e6 i e hg.2 hB
              | none =>
                rcases hpst.newB i e h hg with h5 | ⟨j, ej, hj, _, hje⟩
                · omega
                · rw [rst_some] at hj
                  have := e6 j ej hj.2 (hje.trans hB)
                  omega
            · simp only [γ1, hi, if_false] at h
              exact e6 i e h hB
        dom := fun i e h => by
          by_cases hi : i < (T.hs (p + 1)).next
          · exact .inl hi
          · simp only [γ1, hi, if_false] at h
            obtain ⟨q, u, y, h2, h3, h4, h5, h6, h7⟩ := hdom1 i e h (by omega)
            exact .inr ⟨q, u, y, h2, h3, ins_mono h4, h5, h6, h7⟩
        env := cur_put L T C.cl hp hx I2.env I2.size (operOk_dst hok) hle1 (by
          rw [show max (T.hs (p + 1)).next (T.hs (p + 1)).next = (T.hs (p + 1)).next by omega, hr1]; exact hv)
        size := by rw [Act.put_size]; exact I2.size
        defers := by rw [Act.put_def]; exact I2.defers }
    | alloc =>
      rw [opV_aop (by rw [hcls]; simp)] at h1
      obtain ⟨obj, h2, h3, h4, h5⟩ := alloc_core hz hcls h1
      obtain ⟨Sm, hex, obj', ent, v', hrun, hB, hO, hv⟩ := h5 σ0.base (rst γ (T.hs p).next) w a.eval hρ
      have hnx : (T.hs (p + 1)).next = (T.hs p).next + 1 := by rw [h2]; rfl
      have hnone : γ (T.hs p).next = none := by
        cases hg : γ (T.hs p).next with
        | none => rfl
        | some e =>
          exfalso
          rcases I.dom _ e hg with h6 | ⟨q, u, y, h6, h7, h8, h9, h10, h11⟩
          · omega
          · rcases Nat.lt_trichotomy q p with h12 | h12 | h12
            · have hq1 : (T.hs q).next + 1 ≤ (T.hs (q + 1)).next := by
                rcases (T.step q u y h7).2 with ⟨_, h13⟩ | ⟨h13, _⟩
                · rw [opV_aop (by rw [h9]; simp)] at h13
                  obtain ⟨obj3, h14, _⟩ := alloc_core hz h9 h13
                  rw [h14]; simp [AHeap.push]
                · unfold Tr.want at h10; rw [h13] at h10; cases h10
              have := (T.mono hm (i := q + 1) (j := p) (by omega) (Nat.le_of_lt hlt)).next
              omega
            · subst h12; rw [hp] at h7; injection h7 with h7; injection h7 with _ h13; subst h13; rw [hx] at h8; cases h8
            · have := (T.mono hm (i := p + 1) (j := q) (by omega) (Nat.le_of_lt (List.getElem?_eq_some_iff.1 h7).1)).next
              omega
      have hbs : σ0.base ≤ w.heap.size := by have := R0.size; have := I.post.fram.size; omega
      have hw' : ∀ B, B < w.heap.size → (w.alloc obj').heap[B]? = w.heap[B]? := fun B hB' => by
        show (w.heap.push obj')[B]? = _
        rw [Array.getElem?_push, if_neg (by omega)]
      unfold Oper.wp
      rw [hex]
      simp only [Sem.run_bind, hrun, Result.andThen_ok, Sem.run_pure]
      rw [Oper.upon_value]
      have hle1 : ∀ n, (rst γ n).le (rst (γ.put (T.hs p).next ent) n) := fun n i e h => by
        rw [rst_some] at h ⊢
        exact ⟨h.1, Gm.put_le hnone i e h.2⟩
      have hrm : ∀ k, k ≤ (T.hs p).next → rst (γ.put (T.hs p).next ent) k = rst γ k := by
        intro k hk
        funext i
        unfold rst Gm.put
        by_cases h : i < k
        · simp [h, show i ≠ (T.hs p).next by omega]
        · simp [h]
      refine hK m (γ.put (T.hs p).next ent) _ (w.alloc obj') {
        mle := I.mle
        allL := fun q u y hq hu => ins_mono (I.allL q u y hq hu)
        noact := fun q u y hmq hq hcu hw => hnoact q u y hmq hq (fun h => by
          subst h; rw [hp] at hq; injection hq with hq; injection hq with h1 h2; subst h1
          rw [hcls] at hcu; cases hcu) hcu hw
        post := by
          rw [hrm _ hnmp]
          exact {
            rel := I.post.rel.worldPush obj'
            fram := ⟨by have := I.post.fram.size; simp only [World.size_alloc]; omega, fun B hB' hne => by
              rw [hw' B (by have := I.post.fram.size; omega)]; exact I.post.fram.same B hB' hne⟩
            grows := I.post.grows
            newB := I.post.newB }
        early := fun q u y hmq hq hSy hcu hw => by
          by_cases hqp : q = p
          · subst hqp
            rw [hp] at hq; injection hq with hq; injection hq with h6 h7; subst h6
            refine ⟨obj, obj', ent, h2, Gm.put_same .., ?_, by rw [hrm _ (Nat.le_refl _)]; exact hO, by rw [hB]; exact I.post.fram.size, ?_⟩
            · rw [hB]; show (w.heap.push obj')[w.heap.size]? = _; exact Array.getElem?_push_size
            · intro i e h hBe
              by_cases hi : i = (T.hs q).next
              · exact hi
              · rw [Gm.put_other _ _ hi] at h
                exfalso
                have hlt2 : e.B < w.heap.size := by
                  rcases I.dom i e h with h6 | ⟨q2, u2, y2, h6, h7, h8, h9, h10, h11⟩
                  · exact (I.post.rel.dom i e (rst_some.2 ⟨h6, h⟩)).2.2.2
                  · obtain ⟨_, _, ent2, _, e2, e3, _⟩ := I.early q2 u2 y2 h6 h7 h8 h9 h10
                    rw [← h11, h] at e2; injection e2 with e2; subst e2
                    exact (Array.getElem?_eq_some_iff.1 e3).1
                omega
          · rw [ins_other (fun h => hqp (huniq q u y hq h))] at hSy
            obtain ⟨ob, ob', en, e1, e2, e3, e4, e5, e6⟩ := I.early q u y hmq hq hSy hcu hw
            have hlB : en.B < w.heap.size := (Array.getElem?_eq_some_iff.1 e3).1
            refine ⟨ob, ob', en, e1, Gm.put_le hnone _ _ e2, by rw [hw' _ hlB]; exact e3, e4.mono (hle1 _), e5, fun i e h hBe => ?_⟩
            by_cases hi : i = (T.hs p).next
            · subst hi
              rw [Gm.put_same] at h; injection h with h; subst h
              omega
            · rw [Gm.put_other _ _ hi] at h; exact e6 i e h hBe
        dom := fun i e h => by
          by_cases hi : i = (T.hs p).next
          · exact .inr ⟨p, o, x, hmp, hp, ins_same S x, hcls, hw, hi⟩
          · rw [Gm.put_other _ _ hi] at h
            exact (I.dom i e h).imp id (fun ⟨q, u, y, h1, h2, h3, h4⟩ => ⟨q, u, y, h1, h2, ins_mono h3, h4⟩)
        env := cur_put L T C.cl hp hx I.env I.size (operOk_dst hok) (fun n => hle1 _) (by
          refine hv _ ?_ (by rw [← hbp]; exact Nat.le_trans (by have := T.mono hm (i := 0) (j := p) (Nat.zero_le _) (Nat.le_of_lt hlt); have h7 := R0.next; rw [T.s0_eq] at this; have := this.next; rw [hbp]; omega) (Nat.le_refl _))
          rw [rst_some]
          exact ⟨by omega, Gm.put_same ..⟩)
        size := by rw [Act.put_size]; exact I.size
        defers := by rw [Act.put_def]; exact I.defers }
    | pure =>
      rw [opV_aop (by rw [hcls]; simp)] at h1
      have hna : ¬ T.act p := by rintro ⟨o', x', hp', hc', _⟩; rw [hp] at hp'; injection hp' with hp'; injection hp' with h6 _; subst h6; rw [hcls] at hc'; cases hc'
      have hdd : ∀ i e, γ i = some e → i < (T.hs p).next → (T.hs m).base ≤ i ∧ (T.hs m).base ≤ e.B ∧ e.B < w.heap.size := by
        intro i e h _
        rcases I.dom i e h with h6 | ⟨q2, u2, y2, h6, h7, h8, h9, h10, h11⟩
        · have := I.post.rel.dom i e (rst_some.2 ⟨h6, h⟩); exact ⟨this.1, this.2.2.1, this.2.2.2⟩
        · obtain ⟨_, _, ent2, _, e2, e3, _, e5, _⟩ := I.early q2 u2 y2 h6 h7 h8 h9 h10
          rw [← h11, h] at e2; injection e2 with e2; subst e2
          have hbm : (T.hs m).base = σ0.base := T.base hm I.mle
          have h12 := R0.size
          have h13 := I.post.rel.next
          have h14 := (T.mono hm h6 (Nat.le_of_lt (List.getElem?_eq_some_iff.1 h7).1)).next
          exact ⟨by omega, by omega, (Array.getElem?_eq_some_iff.1 e3).1⟩
      have Rb := I.post.rel.bump hnmp hdd
      obtain ⟨h6, h7⟩ := pure_any hcls h1
      have hbm : ((T.hs m).bump (T.hs p).next).base = σ0.base := T.base hm I.mle
      obtain ⟨v', hr, hv⟩ := pr_sound hz Rb (by rw [hbm]; exact hρ) (.inl hcls) (h7 _)
      rw [hbm] at hv
      unfold Oper.wp
      rw [hr, Oper.upon_value]
      exact hK m γ _ w (still v' hna (by rw [hcls]; simp) hv)
    | read =>
      rw [opV_aop (by rw [hcls]; simp)] at h1
      have hna : ¬ T.act p := by rintro ⟨o', x', hp', hc', _⟩; rw [hp] at hp'; injection hp' with hp'; injection hp' with h6 _; subst h6; rw [hcls] at hc'; cases hc'
      -- the first act that lies between, if there is one
      obtain ⟨k, hk1, hk2, hkna, hread⟩ : ∃ k, m ≤ k ∧ k ≤ p ∧ (∀ q, m ≤ q → q < k → ¬ T.act q) ∧ aop P (T.fs p) (T.hs k) o.op = some (T.vs p, T.hs k) := by
        by_cases hex : ∃ q, m ≤ q ∧ q < p ∧ T.act q
        · have hfind : ∀ n, ∀ q, q < n → m ≤ q → q < p → T.act q → ∃ k, m ≤ k ∧ k < p ∧ T.act k ∧ ∀ r, m ≤ r → r < k → ¬ T.act r := by
            intro n
            induction n with
            | zero => intro q h; omega
            | succ n ih =>
              intro q hq h6 h7 h8
              by_cases h9 : ∃ r, m ≤ r ∧ r < q ∧ T.act r
              · obtain ⟨r, h10, h11, h12⟩ := h9
                exact ih r (by omega) h10 (by omega) h12
              · exact ⟨q, h6, h7, h8, fun r h10 h11 h12 => h9 ⟨r, h10, h11, h12⟩⟩
          obtain ⟨q, h6, h7, h8⟩ := hex
          obtain ⟨k, h9, h10, ⟨u, y, hku, hkc, hkw⟩, h12⟩ := hfind (q + 1) q (by omega) h6 h7 h8
          refine ⟨k, h9, by omega, h12, ?_⟩
          rcases T.pre k p u y o x hku hp h10 hkc hcls hkw hw with h13 | h13
          · have := closed_ordered L C.cl p o x hp hed y h13
            rw [I.noact k u y h9 hku hkc hkw] at this; cases this
          · exact h13
        · refine ⟨p, hmp, Nat.le_refl _, fun q h6 h7 h8 => hex ⟨q, h6, h7, h8⟩, ?_⟩
          have := read_same hcls h1
          simp only at this
          rw [this] at h1
          exact h1
      have Rk := I.relAt hz hm R0 hk1 (by omega) hkna
      have hnkp : (T.hs k).next ≤ (T.hs p).next := (T.mono hm hk2 (Nat.le_of_lt hlt)).next
      have hbk : (T.hs k).base = σ0.base := T.base hm (by omega)
      have hdd : ∀ i e, γ i = some e → i < (T.hs p).next → (T.hs k).base ≤ i ∧ (T.hs k).base ≤ e.B ∧ e.B < w.heap.size := by
        intro i e h _
        have hbm : (T.hs m).base = σ0.base := T.base hm I.mle
        rcases I.dom i e h with h6 | ⟨q2, u2, y2, h6, h7, h8, h9, h10, h11⟩
        · have := I.post.rel.dom i e (rst_some.2 ⟨h6, h⟩); exact ⟨by omega, by omega, this.2.2.2⟩
        · obtain ⟨_, _, ent2, _, e2, e3, _, e5, _⟩ := I.early q2 u2 y2 h6 h7 h8 h9 h10
          rw [← h11, h] at e2; injection e2 with e2; subst e2
          have h12 := R0.size
          have h13 := I.post.rel.next
          have h14 := (T.mono hm h6 (Nat.le_of_lt (List.getElem?_eq_some_iff.1 h7).1)).next
          exact ⟨by omega, by omega, (Array.getElem?_eq_some_iff.1 e3).1⟩
      have Rb := Rk.bump hnkp hdd
      have hbm : ((T.hs k).bump (T.hs p).next).base = σ0.base := hbk
      obtain ⟨v', hr, hv⟩ := pr_sound hz Rb (by rw [hbm]; exact hρ) (.inr hcls) (pure_bump (T.hs p).next (.inr hcls) hread)
      rw [hbm] at hv
      unfold Oper.wp
      rw [hr, Oper.upon_value]
      exact hK m γ _ w (still v' hna (by rw [hcls]; simp) hv)
  · rw [if_neg (by rw [hw]; simp)]
    refine hK m γ _ w (still undef (by rintro ⟨o', x', hp', _, hw'⟩; rw [hp] at hp'; injection hp' with hp'; injection hp' with h6 _; subst h6; unfold Tr.want at hw'; rw [hw] at hw'; cases hw') (by
      rintro ⟨_, hw'⟩; unfold Tr.want at hw'; rw [hw] at hw'; cases hw') (by rw [hvu]; exact VR.undef))

end
end Go.Am
/- AmT -/
set_option linter.unusedVariables false
set_option linter.unusedSimpArgs false
namespace Go.Am
section
variable {P : Program} {call : CallR} {ops : Array Oper} {l : List (Oper × Nat)} {f0 f1 : Fr} {σ0 σ1 : AHeap} {γ0 γ : Gm} {w0 w : World} {N m : Nat} {a : Act} {T : Tr P call ops l f0 σ0 f1 σ1}

def Ls (listed : Array Bool) : Nat → Bool := fun x => listed.getD x false

theorem Ls_set {listed : Array Bool} {i : Nat} (h : i < listed.size) : Ls (listed.setIfInBounds i true) = ins (Ls listed) i := by
  funext x
  unfold Ls ins
  by_cases hx : x = i
  · subst hx; simp [h]
  · simp [hx, getD_set_ne false (Ne.symm hx)]

theorem ready_nil (L : LOk ops l) {listed : Array Bool} (hsz : listed.size = ops.size) (h : Region.ready .any ops listed = []) : ∀ (p : Nat) (o : Oper) (x : Nat), l[p]? = some (o, x) → Ls listed x = true := by
  intro p
  induction p using Nat.strongRecOn with
  | _ p ih =>
    intro o x hp
    cases hx : Ls listed x with
    | true => rfl
    | false =>
      exfalso
      have ho := L.get p o x hp
      have hlt : x < ops.size := (Array.getElem?_eq_some_iff.1 ho).1
      have : x ∈ Region.ready .any ops listed := by
        rw [mem_ready]
        refine ⟨?_, o, ho, fun e he hb => ?_⟩
        · unfold Ls at hx
          simp only [Array.getD, hsz, hlt, dif_pos] at hx ⊢
          exact hx
        · obtain ⟨h1, h2⟩ := L.self p o x hp e (by simpa using he) hb
          obtain ⟨r, u, hr⟩ := L.all e.on h1
          have hrq : r < p := by
            rcases Nat.lt_trichotomy r p with h3 | h3 | h3
            · exact h3
            · subst h3; rw [hp] at hr; injection hr with hr; injection hr with _ hr; exact absurd hr.symm h2
            · exact absurd rfl (L.edge p r o x u e.on hp hr h3 e (by simpa using he) hb)
          exact ih r hrq u e.on hr
      rw [h] at this; cases this

theorem any_sound (hz : ZeroOk P) (hc : CallOk P call) (hm : CallMono call) (R0 : Rel P σ0 γ0 w0) (L : LOk ops l) (hops : ∀ (p : Nat) (o : Oper) (x : Nat), l[p]? = some (o, x) → operOk N o = true) {Q : Exit → Act → World → Prop}
    (hQ : ∀ a' γ' w', FrR σ0.base γ' f1 a' N → Post P σ0 γ0 w0 σ1 γ' w' → Q .normal a' w') :
    ∀ (fuel : Nat) (listed : Array Bool) (m : Nat) (γ : Gm) (a : Act) (w : World), listed.size = ops.size → Closed l (Ls listed) → (l.filter fun q => !Ls listed q.2).length ≤ fuel → Inv T γ0 w0 N (Ls listed) m γ a w →
      wpAny P .any ops Q fuel listed a w := by
  have fin : ∀ (listed : Array Bool) (m : Nat) (γ : Gm) (a : Act) (w : World), (∀ (p : Nat) (o : Oper) (x : Nat), l[p]? = some (o, x) → Ls listed x = true) → Inv T γ0 w0 N (Ls listed) m γ a w → Q .normal a w := by
    intro listed m γ a w hall I
    have I2 := I.advanceTo hz hm R0 I.mle (Nat.le_refl _) (fun p o x _ _ hp => hall p o x hp)
    have hlw : ∀ t, lw l (Ls listed) l.length t = lw l (fun _ => true) l.length t := fun t => lw_congr (fun p o x _ hp _ => hall p o x hp)
    refine hQ a (rst γ (T.hs l.length).next) w ⟨I2.defers, I2.size, fun t => ?_⟩ ?_
    · have hcur : T.cur (Ls listed) t = f1 t := by
        have h1 := congrFun T.f1_eq t
        rw [fs_lw T t (Nat.le_refl _)] at h1
        unfold Tr.cur
        rw [hlw, ← h1]
        cases lw l (fun _ => true) l.length t <;> rfl
      have hlev : T.lev (Ls listed) t ≤ (T.hs l.length).next := by
        unfold Tr.lev
        cases hh : lw l (Ls listed) l.length t with
        | none => have := (T.mono hm (Nat.zero_le l.length) (Nat.le_refl _)).next; rw [T.s0_eq] at this; exact this
        | some q => exact (T.mono hm (i := q + 1) (j := l.length) (by have := (lw_lt hh).1; omega) (Nat.le_refl _)).next
      rw [← hcur]
      exact (I2.env t).mono (rst_le (by omega))
    · exact Eq.mp (congrArg (fun s => Post P σ0 γ0 w0 s (rst γ (T.hs l.length).next) w) T.s1_eq) I2.post
  intro fuel
  induction fuel with
  | zero =>
    intro listed m γ a w hsz C hcnt I
    have hall : ∀ (p : Nat) (o : Oper) (x : Nat), l[p]? = some (o, x) → Ls listed x = true := by
      intro p o x hp
      have hnil : (l.filter fun q => !Ls listed q.2) = [] := List.eq_nil_of_length_eq_zero (by omega)
      rw [List.filter_eq_nil_iff] at hnil
      have := hnil (o, x) (List.mem_of_getElem? hp)
      simpa using this
    refine ⟨?_, fin listed m γ a w hall I⟩
    cases hr : Region.ready .any ops listed with
    | nil => rfl
    | cons i rest =>
      have hi : i ∈ Region.ready .any ops listed := by rw [hr]; simp
      rw [mem_ready] at hi
      obtain ⟨h0, o, ho, _⟩ := hi
      have hlt : i < ops.size := (Array.getElem?_eq_some_iff.1 ho).1
      obtain ⟨p, u, hp⟩ := L.all i hlt
      have := hall p u i hp
      unfold Ls at this
      simp only [Array.getD, hsz, hlt, dif_pos] at this h0
      rw [h0] at this; cases this
  | succ fuel ih =>
    intro listed m γ a w hsz C hcnt I
    refine ⟨fun hnil => fin listed m γ a w (ready_nil L hsz hnil) I, fun i hi => ?_⟩
    rw [mem_ready] at hi
    obtain ⟨h0, o, ho, hed⟩ := hi
    have hlt : i < ops.size := (Array.getElem?_eq_some_iff.1 ho).1
    obtain ⟨p, u, hp⟩ := L.all i hlt
    have := L.get p u i hp
    rw [ho] at this; injection this with this; subst this
    have hx : Ls listed i = false := by
      unfold Ls
      simp only [Array.getD, hsz, hlt, dif_pos] at h0 ⊢
      exact h0
    have hed' : ∀ e ∈ o.after.toList, Region.binds .any e = true → Ls listed e.on = true := fun e he hb => hed e (by simpa using he) hb
    have hset : Ls (listed.setIfInBounds i true) = ins (Ls listed) i := Ls_set (by omega)
    have hstep := I.step hz hc hm R0 L C hp hx hed' (hops p o i hp) (K := wpAny P .any ops Q fuel (listed.setIfInBounds i true)) (Q := Q) (fun m' γ' a' w' I' => by
      refine ih (listed.setIfInBounds i true) m' γ' a' w' (by simpa using hsz) (by rw [hset]; exact C.ins L hp hed') ?_ (by rw [hset]; exact I')
      rw [hset]
      have hlt2 : (l.filter fun q => !ins (Ls listed) i q.2).length < (l.filter fun q => !Ls listed q.2).length := by
        have hsub : (l.filter fun q => !ins (Ls listed) i q.2) = (l.filter fun q => !Ls listed q.2).filter fun q => q.2 != i := by
          rw [List.filter_filter]
          apply List.filter_congr
          intro q _
          unfold ins
          by_cases h : q.2 = i <;> simp [h]
        rw [hsub]
        exact List.length_filter_lt_length_iff_exists.2 ⟨(o, i), List.mem_filter.2 ⟨List.mem_of_getElem? hp, by simp [hx]⟩, by simp⟩
      omega)
    unfold wpOp
    rw [ho]
    simp only
    split
    · rename_i hw
      rw [if_pos hw] at hstep
      exact .inl hstep
    · rename_i hw
      rw [if_neg hw] at hstep
      exact hstep

theorem Post.drew (R : Rel P σ0 γ0 w) : Rel P σ0 γ0 w.drew ∧ Fram σ0 γ0 w w.drew :=
  ⟨⟨R.os, R.tape, R.out, R.size, R.old, R.next, R.fresh, R.chain, R.dom, R.cells, R.map, R.sep⟩, ⟨Nat.le_refl _, fun _ _ _ => rfl⟩⟩

theorem canon_oper {o : Oper} {x p : Nat} (h : (canonOps ops)[p]? = some (o, x)) : o ∈ ops.toList := by
  have := List.mem_of_getElem? h
  unfold canonOps at this
  rw [List.mem_filterMap] at this
  obtain ⟨i, _, hi⟩ := this
  rw [Option.map_eq_some_iff] at hi
  obtain ⟨o', ho, he⟩ := hi
  injection he with e1 e2; subst e1
  simpa using Array.mem_of_getElem? ho

theorem canon_length (h : regionOk ops = true) : (canonOps ops).length ≤ ops.size := by
  unfold regionOk at h
  simp only [Bool.and_eq_true, decide_eq_true_eq] at h
  exact h.2

/-! ### Regions -/
theorem region_sound (hz : ZeroOk P) (hx : P.follows .mixedOrders = true) (hc : CallOk P call) (hm : CallMono call) {σ σ' : AHeap} {f f' : Fr} {id : Nat} {draw : Bool} (R : Rel P σ γ w) (F : FrR σ.base γ f a N) (hops : ops.all (operOk N) = true)
    (h : (if draw then (if regionOk ops then drawF P call ops (canonOps ops) [] f σ else none) else opsF P call ops ops.toList f σ) = some (f', σ')) {Q : Exit → Act → World → Prop}
    (hQ : ∀ a' γ' w', FrR σ.base γ' f' a' N → Post P σ γ w σ' γ' w' → Q .normal a' w') : (Code.region id ops draw).wp P Q a w := by
  have hall : ∀ o ∈ ops.toList, operOk N o = true := fun o ho => by
    rw [Array.all_eq_true_iff_forall_mem] at hops; exact hops o (by simpa using ho)
  cases draw with
  | false =>
    simp only [Bool.false_eq_true, if_false] at h
    exact wp_region_list (ops_sound hz hc hall R F h hQ)
  | true =>
    simp only [if_true] at h
    split at h
    · rename_i hok
      have L := LOk.of hok
      obtain ⟨T⟩ := trace_of_draw h
      refine wp_region_any hx ?_
      obtain ⟨Rd, Fd⟩ := Post.drew (w := w) R
      have hw : ({ w with drawn := w.drawn + 1 } : World) = w.drew := rfl
      rw [hw]
      have hmono : ∀ i e, γ i = some e → i < σ.next := fun i e he => (R.dom i e he).2.1
      have hrst : rst γ σ.next = γ := by
        funext i
        unfold rst
        split
        · rfl
        · rename_i hi
          cases hg : γ i with
          | none => rfl
          | some e => exact absurd (hmono i e hg) hi
      have hS : Ls (Array.replicate ops.size false) = fun _ => false := by
        funext x
        unfold Ls
        simp only [Array.getD, Array.size_replicate]
        split <;> simp
      have hlw : ∀ t, lw (canonOps ops) (fun _ => false) (canonOps ops).length t = none := by
        intro t
        cases hh : lw (canonOps ops) (fun _ => false) (canonOps ops).length t with
        | none => rfl
        | some q => obtain ⟨_, o, x, _, h1, _⟩ := lw_lt hh; cases h1
      refine any_sound (T := T) hz hc hm Rd L (fun p o x hp => hall o (canon_oper hp)) (fun a' γ' w' F' p' => hQ a' γ' w' F' ⟨p'.rel, ?_, p'.grows, p'.newB⟩) ops.size (Array.replicate ops.size false) 0 γ a w.drew (by simp) ?_ ?_ ?_
      · exact ⟨p'.fram.size, p'.fram.same⟩
      · exact ⟨fun p o x _ hp => by rw [hS] at hp; cases hp⟩
      · exact Nat.le_trans (List.length_filter_le _ _) (canon_length hok)
      · rw [hS]
        exact {
          mle := Nat.zero_le _
          allL := fun p o x hp => by omega
          noact := fun _ _ _ _ _ _ _ => rfl
          post := by
            have h1 : Post P σ γ w.drew σ (rst γ σ.next) w.drew := by rw [hrst]; exact Post.refl Rd
            exact Eq.mp (congrArg (fun s => Post P σ γ w.drew s (rst γ s.next) w.drew) T.s0_eq.symm) h1
          early := fun p o x _ _ hp => by cases hp
          dom := fun i e he => .inl (by have := hmono i e he; rw [T.s0_eq]; exact this)
          env := fun t => by
            have h1 : T.cur (fun _ => false) t = f t := by unfold Tr.cur; rw [hlw]
            have h2 : T.lev (fun _ => false) t = σ.next := by unfold Tr.lev; rw [hlw]
            have h3 : max σ.next (T.hs 0).next = σ.next := by rw [T.s0_eq]; omega
            rw [h1, h2, h3, hrst]
            exact F.val t
          size := F.size
          defers := F.defers }
    · cases h

/-! ### Code -/
def AExit.conv : AExit → Exit
  | .normal => .normal
  | .exit i => .exit i
  | .ret => .ret

/-- What a piece of code comes to. -/
def CodePost (P : Program) (σ : AHeap) (γ : Gm) (w : World) (e : AExit) (f' : Fr) (σ' : AHeap) (N : Nat) : Exit → Act → World → Prop :=
  fun ex a' w' => ex = e.conv ∧ ∃ γ', FrR σ.base γ' f' a' N ∧ Post P σ γ w σ' γ' w'

theorem CodePost.trans {σ σ2 σ3 : AHeap} {γ2 : Gm} {w2 : World} {e : AExit} {f' : Fr} (R : Rel P σ γ w) (p : Post P σ γ w σ2 γ2 w2) {ex : Exit} {a' : Act} {w' : World} (h : CodePost P σ2 γ2 w2 e f' σ3 N ex a' w') :
    CodePost P σ γ w e f' σ3 N ex a' w' := by
  obtain ⟨h1, γ', h2, h3⟩ := h
  exact ⟨h1, γ', by rw [p.base] at h2; exact h2, p.trans R h3⟩

theorem code_sound (hz : ZeroOk P) (hx : P.follows .mixedOrders = true) (hc : CallOk P call) (hm : CallMono call) {M : Nat} : ∀ {c : Code} {f f' : Fr} {σ σ' : AHeap} {γ : Gm} {a : Act} {w : World} {e : AExit}, codeOk N c = true → Rel P σ γ w → FrR σ.base γ f a N →
    codeF P call M c f σ = some (e, f', σ') → c.wp P (CodePost P σ γ w e f' σ' N) a w := by
  intro c
  induction c with
  | skip =>
    intro f f' σ σ' γ a w e _ R F h
    simp only [codeF, Option.some.injEq, Prod.mk.injEq] at h
    obtain ⟨rfl, rfl, rfl⟩ := h
    exact wp_skip ⟨rfl, γ, F, Post.refl R⟩
  | label l =>
    intro f f' σ σ' γ a w e _ R F h
    simp only [codeF, Option.some.injEq, Prod.mk.injEq] at h
    obtain ⟨rfl, rfl, rfl⟩ := h
    exact wp_label ⟨rfl, γ, F, Post.refl R⟩
  | exit id =>
    intro f f' σ σ' γ a w e _ R F h
    simp only [codeF, Option.some.injEq, Prod.mk.injEq] at h
    obtain ⟨rfl, rfl, rfl⟩ := h
    exact wp_exit ⟨rfl, γ, F, Post.refl R⟩
  | ret =>
    intro f f' σ σ' γ a w e _ R F h
    simp only [codeF, Option.some.injEq, Prod.mk.injEq] at h
    obtain ⟨rfl, rfl, rfl⟩ := h
    exact wp_ret ⟨rfl, γ, F, Post.refl R⟩
  | region id ops draw =>
    intro f f' σ σ' γ a w e hok R F h
    unfold codeF at h
    by_cases hg : noGlob ops = true
    case neg => rw [if_neg hg] at h; cases h
    rw [if_pos hg] at h
    have h2 : ∃ r, (if draw then (if regionOk ops then drawF P call ops (canonOps ops) [] f σ else none) else opsF P call ops ops.toList f σ) = some r ∧ (AExit.normal, r.1, r.2) = (e, f', σ') := by
      cases draw with
      | true =>
        simp only [if_true] at h ⊢
        split at h
        · rename_i hr
          rw [Option.map_eq_some_iff] at h
          obtain ⟨r, hr2, h3⟩ := h
          exact ⟨r, by rw [if_pos hr]; exact hr2, h3⟩
        · cases h
      | false =>
        simp only [Bool.false_eq_true, if_false] at h ⊢
        rw [Option.map_eq_some_iff] at h
        exact h
    obtain ⟨r, hr, he⟩ := h2
    injection he with e1 e2; injection e2 with e2 e3; subst e1; subst e2; subst e3
    exact region_sound hz hx hc hm R F (operOk_of hok hg) hr (fun a' γ' w' F' p' => ⟨rfl, γ', F', p'⟩)
  | seq x y ihx ihy =>
    intro f f' σ σ' γ a w e hok R F h
    simp only [codeOk, Bool.and_eq_true] at hok
    unfold codeF at h
    refine wp_seq ?_
    split at h
    · rename_i f1 σ1 h1
      refine wp_mono (ihx hok.1 R F h1) (fun ex a1 w1 hp => ?_)
      obtain ⟨rfl, γ1, F1, p1⟩ := hp
      exact wp_mono (ihy hok.2 p1.rel (by rw [p1.base]; exact F1) h) (fun ex a2 w2 hp2 => CodePost.trans R p1 hp2)
    · rename_i hne
      refine wp_mono (ihx hok.1 R F h) (fun ex a1 w1 hp => ?_)
      obtain ⟨he, γ1, F1, p1⟩ := hp
      cases e with
      | normal => exact absurd h (hne f' σ')
      | exit i => subst he; exact ⟨rfl, γ1, F1, p1⟩
      | ret => subst he; exact ⟨rfl, γ1, F1, p1⟩
  | cond c x y ihx ihy =>
    intro f f' σ σ' γ a w e hok R F h
    simp only [codeOk, Bool.and_eq_true] at hok
    unfold codeF at h
    split at h
    · rename_i t ht
      have hv := F.eval hok.1.1
      rw [ht] at hv
      have hv' := hv.eq_of_const rfl
      refine wp_cond hv' ?_
      cases t with
      | true => exact ihx hok.1.2 R F (by simpa using h)
      | false => exact ihy hok.2 R F (by simpa using h)
    · cases h
  | block id c ih =>
    intro f f' σ σ' γ a w e hok R F h
    unfold codeF at h
    refine wp_block ?_
    split at h
    · rename_i i f1 σ1 h1
      refine wp_mono (ih hok R F h1) (fun ex a1 w1 hp => ?_)
      obtain ⟨rfl, γ1, F1, p1⟩ := hp
      simp only [AExit.conv, Exit.inBlock]
      split at h
      · rename_i hi
        injection h with h; injection h with h2 h3; injection h3 with h3 h4; subst h2; subst h3; subst h4
        rw [if_pos hi]
        exact ⟨rfl, γ1, F1, p1⟩
      · rename_i hi
        injection h with h; injection h with h2 h3; injection h3 with h3 h4; subst h2; subst h3; subst h4
        rw [if_neg hi]
        exact ⟨rfl, γ1, F1, p1⟩
    · rename_i hne
      refine wp_mono (ih hok R F h) (fun ex a1 w1 hp => ?_)
      obtain ⟨he, γ1, F1, p1⟩ := hp
      cases e with
      | normal => subst he; exact ⟨rfl, γ1, F1, p1⟩
      | exit i => exact absurd h (hne i f' σ')
      | ret => subst he; exact ⟨rfl, γ1, F1, p1⟩
  | loop c ih =>
    intro f f' σ σ' γ a w e hok R F h
    unfold codeF at h
    refine wp_loop_rounds M ?_
    have key : ∀ (n : Nat) (f1 : Fr) (σ2 : AHeap) (γ1 : Gm) (a1 : Act) (w1 : World), iter (codeF P call M c) n f1 σ2 = some (e, f', σ') → FrR σ.base γ1 f1 a1 N → Post P σ γ w σ2 γ1 w1 →
        Code.rounds P c (CodePost P σ γ w e f' σ' N) n a1 w1 := by
      intro n
      induction n with
      | zero => intro f1 σ2 γ1 a1 w1 h1; simp [iter] at h1
      | succ n ihn =>
        intro f1 σ2 γ1 a1 w1 h1 F1 p1
        rw [rounds_succ]
        unfold iter at h1
        split at h1
        · rename_i f3 σ3 h3
          refine wp_mono (ih hok p1.rel (by rw [p1.base]; exact F1) h3) (fun ex a2 w2 hp => ?_)
          obtain ⟨rfl, γ2, F2, p2⟩ := hp
          exact ihn f3 σ3 γ2 a2 w2 h1 (by rw [p1.base] at F2; exact F2) (p1.trans R p2)
        · rename_i hne
          refine wp_mono (ih hok p1.rel (by rw [p1.base]; exact F1) h1) (fun ex a2 w2 hp => ?_)
          obtain ⟨he, γ2, F2, p2⟩ := hp
          have fin : CodePost P σ γ w e f' σ' N ex a2 w2 := ⟨he, γ2, by rw [p1.base] at F2; exact F2, p1.trans R p2⟩
          cases e with
          | normal => exact absurd h1 (hne f' σ')
          | exit i => subst he; exact fin
          | ret => subst he; exact fin
    exact key M f σ γ a w h F (Post.refl R)
  | scope c ih =>
    intro f f' σ σ' γ a w e hok R F h
    unfold codeF at h
    refine wp_scope_straight (wp_mono (ih hok R F h) (fun ex a1 w1 hp => ?_))
    obtain ⟨rfl, hp⟩ := hp
    cases e <;> exact ⟨rfl, hp⟩
  | _ => intro f f' σ σ' γ a w e hok R F h; simp [codeF] at h

end
end Go.Am
