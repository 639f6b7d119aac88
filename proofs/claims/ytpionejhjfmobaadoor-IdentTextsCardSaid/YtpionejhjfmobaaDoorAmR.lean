/- The abstract machine: regions whose order is drawn. Last part. -/
import Derived.Test.YtpionejhjfmobaaDoorAmQ
set_option linter.unusedVariables false
set_option linter.unusedSimpArgs false
namespace Go.Am
section
variable {P : Program} {call : CallR} {ops : Array Oper} {l : List (Oper × Nat)} {f0 f1 : Fr} {σ0 σ1 : AHeap} {γ0 γ : Gm} {w0 w : World} {N m : Nat} {S : Nat → Bool} {a : Act} {T : Tr P call ops l f0 σ0 f1 σ1}

theorem rst_put {id : Nat} {ent : GEnt} (h : γ id = some ent) : (rst γ id).put id ent = rst γ (id + 1) := by
  funext i
  unfold Gm.put rst
  by_cases h1 : i = id
  · subst h1; simp [h]
  · by_cases h2 : i < id
    · simp [h1, h2, show i < id + 1 by omega]
    · simp [h1, h2, show ¬ (i < id + 1) by omega]

theorem Tr.base (T : Tr P call ops l f0 σ0 f1 σ1) (hm : CallMono call) {i : Nat} (h : i ≤ l.length) : (T.hs i).base = σ0.base := by
  have := (T.mono hm (Nat.zero_le i) h).old
  unfold AHeap.base; rw [this, T.s0_eq]

theorem Inv.advance (hz : ZeroOk P) (hm : CallMono call) (R0 : Rel P σ0 γ0 w0) (I : Inv T γ0 w0 N S m γ a w) (hlt : m < l.length) (hS : ∀ (o : Oper) (x : Nat), l[m]? = some (o, x) → S x = true) :
    Inv T γ0 w0 N S (m + 1) γ a w := by
  obtain ⟨o, x, hp⟩ : ∃ (o : Oper) (x : Nat), l[m]? = some (o, x) := ⟨l[m].1, l[m].2, List.getElem?_eq_getElem hlt⟩
  have hna : ¬ T.act m := by
    rintro ⟨o', x', hp', hc, hw⟩
    have := I.noact m o' x' (Nat.le_refl _) hp' hc hw
    rw [hS o' x' hp'] at this; cases this
  have hall : ∀ (p : Nat) (o : Oper) (x : Nat), p < m + 1 → l[p]? = some (o, x) → S x = true := by
    intro p o' x' h1 h2
    by_cases h3 : p = m
    · subst h3; exact hS o' x' h2
    · exact I.allL p o' x' (by omega) h2
  have hno : ∀ (p : Nat) (o : Oper) (x : Nat), m + 1 ≤ p → l[p]? = some (o, x) → clsOf o.op = .act → T.want p o → S x = false := fun p o x h => I.noact p o x (by omega)
  rcases T.quiet hz hp hna with ⟨heq, hnal⟩ | ⟨hcl, hwa, obj, heq, _, _⟩
  · exact {
      mle := hlt
      allL := hall
      noact := hno
      post := by rw [heq]; exact I.post
      early := fun p o x h => I.early p o x (by omega)
      dom := fun i e h => by
        rw [heq]
        rcases I.dom i e h with h1 | ⟨p, o', x', h1, h2, h3, h4, h5, h6⟩
        · exact .inl h1
        · refine .inr ⟨p, o', x', ?_, h2, h3, h4, h5, h6⟩
          rcases Nat.lt_or_ge m p with h7 | h7
          · exact h7
          · have : p = m := by omega
            subst this
            rw [hp] at h2; injection h2 with h2; injection h2 with h8 h9; subst h8
            exact absurd ⟨h4, h5⟩ hnal
      env := by rw [heq]; exact I.env
      size := I.size
      defers := I.defers }
  · obtain ⟨obj2, obj', ent, e1, e2, e3, e4, e5, e6⟩ := I.early m o x (Nat.le_refl _) hp (hS o x hp) hcl hwa
    have hb : (T.hs m).base = σ0.base := T.base hm (by omega)
    have hnx : (T.hs (m + 1)).next = (T.hs m).next + 1 := by rw [e1]; rfl
    have hR := I.post.rel.pushLate (o := obj2) (obj' := obj') (ent := ent) (by rw [hb]; exact e4) e3 (by have := R0.size; rw [hb]; omega) (fun i e hi hB => by
      rw [rst_some] at hi
      have := e6 i e hi.2 hB
      omega)
    rw [rst_put e2] at hR
    have hP : Post P σ0 γ0 w0 (T.hs (m + 1)) (rst γ (T.hs (m + 1)).next) w := by
      rw [hnx, e1]
      exact {
        rel := hR
        fram := I.post.fram
        grows := {
          old := I.post.grows.old
          next := by have := I.post.grows.next; simp [AHeap.push]; omega
          le := Gm.le_trans I.post.grows.le (rst_le (by omega))
          new := fun i e h => by
            rw [rst_some] at h
            by_cases hi : i < (T.hs m).next
            · exact I.post.grows.new i e (rst_some.2 ⟨hi, h.2⟩)
            · right; have := I.post.grows.next; omega
          dead := fun i hi hd => by
            have := I.post.grows.next
            rw [push_get_old _ _ (by omega)]
            exact I.post.grows.dead i hi hd }
        newB := fun i e h hn => by
          rw [rst_some] at h
          by_cases hi : i < (T.hs m).next
          · exact I.post.newB i e (rst_some.2 ⟨hi, h.2⟩) hn
          · have : i = (T.hs m).next := by omega
            subst this
            rw [e2] at h
            have h2 := h.2
            injection h2 with h2; subst h2
            exact .inl e5 }
    exact {
      mle := hlt
      allL := hall
      noact := hno
      post := hP
      early := fun p o x h => I.early p o x (by omega)
      dom := fun i e h => by
        rw [hnx]
        rcases I.dom i e h with h1 | ⟨p, o', x', h1, h2, h3, h4, h5, h6⟩
        · exact .inl (by omega)
        · rcases Nat.lt_or_ge m p with h7 | h7
          · exact .inr ⟨p, o', x', h7, h2, h3, h4, h5, h6⟩
          · have : p = m := by omega
            subst this
            exact .inl (by omega)
      env := fun t => (I.env t).mono (rst_le (by rw [hnx]; omega))
      size := I.size
      defers := I.defers }

/-- All places up to k are listed: the reading may go on to k. -/
theorem Inv.advanceTo (hz : ZeroOk P) (hm : CallMono call) (R0 : Rel P σ0 γ0 w0) {k : Nat} (I : Inv T γ0 w0 N S m γ a w) (hk : m ≤ k) (hkl : k ≤ l.length)
    (hS : ∀ (p : Nat) (o : Oper) (x : Nat), m ≤ p → p < k → l[p]? = some (o, x) → S x = true) : Inv T γ0 w0 N S k γ a w := by
  induction k with
  | zero => have : m = 0 := by omega
            subst this; exact I
  | succ k ih =>
    by_cases h : m = k + 1
    · subst h; exact I
    · have := ih (by omega) (by omega) (fun p o x h1 h2 => hS p o x h1 (by omega))
      exact this.advance hz hm R0 (by omega) (fun o x hp => hS k o x (by omega) (by omega) hp)

/-- The heap at a later place, as long as no act lies between: what is not listed has no block yet. -/
theorem Inv.relAt (hz : ZeroOk P) (hm : CallMono call) (R0 : Rel P σ0 γ0 w0) (I : Inv T γ0 w0 N S m γ a w) : ∀ {k : Nat}, m ≤ k → k ≤ l.length → (∀ p, m ≤ p → p < k → ¬ T.act p) →
    Rel P (T.hs k) (rst γ (T.hs k).next) w := by
  intro k
  induction k with
  | zero => intro hk _ _; have : m = 0 := by omega
            subst this; exact I.post.rel
  | succ k ih =>
    intro hk hkl hna
    by_cases h : m = k + 1
    · subst h; exact I.post.rel
    · have R := ih (by omega) (by omega) (fun p h1 h2 => hna p h1 (by omega))
      have hlt : k < l.length := by omega
      obtain ⟨o, x, hp⟩ : ∃ (o : Oper) (x : Nat), l[k]? = some (o, x) := ⟨l[k].1, l[k].2, List.getElem?_eq_getElem hlt⟩
      rcases T.quiet hz hp (hna k (by omega) (by omega)) with ⟨heq, _⟩ | ⟨hcl, hwa, obj, heq, hnd, hch⟩
      · rw [heq]; exact R
      · have hnx : (T.hs (k + 1)).next = (T.hs k).next + 1 := by rw [heq]; rfl
        have hb : (T.hs k).base = σ0.base := T.base hm (by omega)
        by_cases hSx : S x = true
        · obtain ⟨obj2, obj', ent, e1, e2, e3, e4, e5, e6⟩ := I.early k o x (by omega) hp hSx hcl hwa
          have hR := R.pushLate (o := obj2) (obj' := obj') (ent := ent) (by rw [hb]; exact e4) e3 (by have := R0.size; rw [hb]; omega) (fun i e hi hB => by
            rw [rst_some] at hi
            have := e6 i e hi.2 hB
            omega)
          rw [rst_put e2] at hR
          rw [hnx, e1]; exact hR
        · have hnone : γ (T.hs k).next = none := by
            cases hg : γ (T.hs k).next with
            | none => rfl
            | some e =>
              exfalso
              rcases I.dom _ e hg with h1 | ⟨p, o', x', h1, h2, h3, h4, h5, h6⟩
              · have := (T.mono hm (i := m) (j := k) (by omega) (by omega)).next; omega
              · rcases Nat.lt_trichotomy p k with h7 | h7 | h7
                · -- a new object at p: the next number is greater
                  have h8 : ∃ obj, T.hs (p + 1) = (T.hs p).push obj := by
                    rcases T.quiet hz h2 (hna p (by omega) (by omega)) with ⟨_, hx⟩ | ⟨_, _, obj, hx, _⟩
                    · exact absurd ⟨h4, h5⟩ hx
                    · exact ⟨obj, hx⟩
                  obtain ⟨obj3, h8⟩ := h8
                  have h9 := (T.mono hm (i := p + 1) (j := k) (by omega) (by omega)).next
                  rw [h8] at h9
                  simp [AHeap.push] at h9
                  omega
                · subst h7; rw [hp] at h2; injection h2 with h2; injection h2 with _ h8; subst h8; exact hSx h3
                · have h9 := (T.mono hm (i := k + 1) (j := p) (by omega) (Nat.le_of_lt (List.getElem?_eq_some_iff.1 h2).1)).next
                  omega
          have hskip : rst γ ((T.hs k).next + 1) = rst γ (T.hs k).next := by
            funext i
            unfold rst
            by_cases h1 : i < (T.hs k).next
            · simp [h1, show i < (T.hs k).next + 1 by omega]
            · by_cases h2 : i = (T.hs k).next
              · subst h2; simp [hnone]
              · simp [h1, show ¬ (i < (T.hs k).next + 1) by omega]
          rw [hnx, hskip, heq]
          exact R.pushSkip (by simp [rst]) hch

theorem fs_lw (T : Tr P call ops l f0 σ0 f1 σ1) (t : Tmp) : ∀ {p : Nat}, p ≤ l.length → T.fs p t = match lw l (fun _ => true) p t with | some q => T.vs q | none => f0 t := by
  intro p
  induction p with
  | zero => intro _; rw [T.f0_eq]; rfl
  | succ p ih =>
    intro h
    have hlt : p < l.length := by omega
    have hp : l[p]? = some (l[p].1, l[p].2) := List.getElem?_eq_getElem hlt
    rw [(T.step p _ _ hp).1, lw_succ, hp]
    simp only [Bool.true_and]
    cases hd : l[p].1.dst with
    | none =>
      simp only [Fr.put, hd]
      rw [ih (by omega)]
      simp
    | some d =>
      simp only [Fr.put, Fr.set]
      by_cases ht : t = d
      · subst ht; simp
      · simp only [ht, if_false]
        rw [ih (by omega)]
        have : (some d == some t) = false := by simpa using Ne.symm ht
        simp [this]

/-- What a place looks at is, once its edges are listed, what it looked at in the canonical run. -/
theorem agree (L : LOk ops l) (T : Tr P call ops l f0 σ0 f1 σ1) (hm : CallMono call) (hcl : ∀ (p : Nat) (o : Oper) (x : Nat), l[p]? = some (o, x) → S x = true → ∀ e ∈ o.after.toList, Region.binds .any e = true → S e.on = true)
    {p : Nat} {o : Oper} {x : Nat} (hp : l[p]? = some (o, x)) (hx : S x = false) (hed : ∀ e ∈ o.after.toList, Region.binds .any e = true → S e.on = true) {t : Tmp} (ht : t ∈ o.looksAt ops) :
    T.cur S t = T.fs p t ∧ T.lev S t ≤ (T.hs p).next := by
  have hlt : p < l.length := (List.getElem?_eq_some_iff.1 hp).1
  have h1 : lw l S l.length t = lw l S p t := lw_cut (Nat.le_of_lt hlt) (fun q u y hq _ hu hSy hd => by
    rcases Nat.lt_or_ge p q with h | h
    · cases hord : orderedIn ops x y with
      | true =>
        have := closed_ordered L hcl q u y hu (hcl q u y hu hSy) x hord
        rw [hx] at this; cases this
      | false => exact (pairOk_apart (L.pair p q o x u y hp hu h) hord).2.2 t hd ht
    · have : q = p := by omega
      subst this
      rw [hp] at hu; injection hu with hu; injection hu with _ h3; subst h3
      rw [hx] at hSy; cases hSy)
  have h2 : lw l S p t = lw l (fun _ => true) p t := lw_congr (fun q u y hq hu hd => by
    cases hord : orderedIn ops y x with
    | true => exact closed_ordered L hcl p o x hp hed y hord
    | false => exact absurd ht ((pairOk_apart (L.pair q p u y o x hu hp hq) hord).2.1 t hd).1)
  refine ⟨?_, ?_⟩
  · unfold Tr.cur
    rw [h1, h2, fs_lw T t (Nat.le_of_lt hlt)]
    cases lw l (fun _ => true) p t <;> rfl
  · unfold Tr.lev
    rw [h1]
    cases hlw : lw l S p t with
    | none =>
      have := (T.mono hm (Nat.zero_le p) (Nat.le_of_lt hlt)).next
      rw [T.s0_eq] at this; exact this
    | some q => exact (T.mono hm (i := q + 1) (j := p) (by have := (lw_lt hlw).1; omega) (Nat.le_of_lt hlt)).next

/-- One more place is listed. -/
def ins (S : Nat → Bool) (x : Nat) : Nat → Bool := fun y => if y = x then true else S y
theorem ins_same (S : Nat → Bool) (x : Nat) : ins S x x = true := by simp [ins]
theorem ins_mono {S : Nat → Bool} {x y : Nat} (h : S y = true) : ins S x y = true := by unfold ins; split <;> simp_all
theorem ins_other {S : Nat → Bool} {x y : Nat} (h : y ≠ x) : ins S x y = S y := by simp [ins, h]

/-- The names behind one more step. -/
theorem cur_put (L : LOk ops l) (T : Tr P call ops l f0 σ0 f1 σ1) (hcl : ∀ (p : Nat) (o : Oper) (x : Nat), l[p]? = some (o, x) → S x = true → ∀ e ∈ o.after.toList, Region.binds .any e = true → S e.on = true)
    {p : Nat} {o : Oper} {x : Nat} (hp : l[p]? = some (o, x)) (hx : S x = false) {base : Nat} {γ2 : Gm} {k k2 : Nat} {v' : Value}
    (henv : ∀ t, VR base (rst γ (max (T.lev S t) k)) (T.cur S t) (a.tmps.getD t undef)) (hsz : a.tmps.size = N) (hdst : ∀ t, o.dst = some t → t < N)
    (hle : ∀ n, (rst γ (max n k)).le (rst γ2 (max n k2))) (hv : VR base (rst γ2 (max (T.hs (p + 1)).next k2)) (T.vs p) v') :
    ∀ t, VR base (rst γ2 (max (T.lev (ins S x) t) k2)) (T.cur (ins S x) t) ((a.put o.dst v').tmps.getD t undef) := by
  have hlt : p < l.length := (List.getElem?_eq_some_iff.1 hp).1
  have huniq : ∀ (q : Nat) (u : Oper) (y : Nat), l[q]? = some (u, y) → y = x → q = p := by
    intro q u y hq hy
    rcases Nat.lt_trichotomy q p with h | h | h
    · exact absurd hy (L.nodup q p u y o x hq hp h)
    · exact h
    · exact absurd hy.symm (L.nodup p q o x u y hp hq h)
  intro t
  by_cases hd : o.dst = some t
  · have hl : lw l (ins S x) l.length t = some p := lw_put hp hd (fun q u y hpq hu hSy hud => by
      have hyx : y ≠ x := fun h => by have := huniq q u y hu h; omega
      rw [ins_other hyx] at hSy
      cases hord : orderedIn ops x y with
      | true =>
        have := closed_ordered L hcl q u y hu (hcl q u y hu hSy) x hord
        rw [hx] at this; cases this
      | false => exact ((pairOk_apart (L.pair p q o x u y hp hu hpq) hord).2.1 t hd).2 hud) (ins_same S x)
    unfold Tr.lev Tr.cur
    rw [hl]
    simp only
    have hg : (a.put o.dst v').tmps.getD t undef = v' := by
      simp only [Act.put, hd]
      rw [getD_set _ _ _ _ _ (by rw [hsz]; exact hdst t hd)]
      simp
    rw [hg]
    exact hv
  · have hl : lw l (ins S x) l.length t = lw l S l.length t := lw_congr (fun q u y hq hu hud => by
      have hyx : y ≠ x := fun h => by
        have := huniq q u y hu h
        subst this
        rw [hp] at hu; injection hu with hu; injection hu with h1 _; subst h1; exact hd hud
      exact ins_other hyx)
    have hg : (a.put o.dst v').tmps.getD t undef = a.tmps.getD t undef := by
      cases hod : o.dst with
      | none => rfl
      | some d =>
        simp only [Act.put]
        rw [getD_set _ _ _ _ _ (by rw [hsz]; exact hdst d hod)]
        rw [if_neg (by intro h; subst h; exact hd hod)]
    unfold Tr.lev Tr.cur
    rw [hl, hg]
    exact (henv t).mono (hle _)

theorem Act.put_size (a : Act) (d : Option Tmp) (v : Value) : (a.put d v).tmps.size = a.tmps.size := by cases d <;> simp [Act.put]
theorem Act.put_def (a : Act) (d : Option Tmp) (v : Value) : (a.put d v).defers = a.defers := by cases d <;> rfl

end
end Go.Am
