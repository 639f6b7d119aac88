/- The abstract machine: a region whose order is drawn comes, in any order, to what it comes to in the canonical one. -/
import Derived.Test.YtpionejhjfmobaaDoorAmO
set_option linter.unusedVariables false
set_option linter.unusedSimpArgs false
namespace Go.Am
section
variable {P : Program} {σ : AHeap} {γ : Gm} {w : World}

def rst (γ : Gm) (k : Nat) : Gm := fun i => if i < k then γ i else none
theorem rst_some {k i : Nat} {e : GEnt} : rst γ k i = some e ↔ i < k ∧ γ i = some e := by
  unfold rst; split <;> simp_all; intros; omega
theorem rst_le {a b : Nat} (h : a ≤ b) : (rst γ a).le (rst γ b) := fun i e hi => by
  rw [rst_some] at hi ⊢; exact ⟨by omega, hi.2⟩
theorem rst_le_self (k : Nat) : (rst γ k).le γ := fun i e hi => (rst_some.1 hi).2

/-- The world has a further block, that stands for nothing yet. -/
theorem Rel.worldPush (R : Rel P σ γ w) (o : Obj) : Rel P σ γ (w.alloc o) where
  os := R.os
  tape := R.tape
  out := R.out
  size := by have := R.size; simp only [World.size_alloc]; omega
  old i hi := by
    have := R.size
    show (w.heap.push o)[i]? = _
    rw [Array.getElem?_push, if_neg (by omega)]; exact R.old i hi
  next := R.next
  fresh := R.fresh
  chain := R.chain
  dom i e h := by obtain ⟨a, b, c, d⟩ := R.dom i e h; exact ⟨a, b, c, by simp only [World.size_alloc]; omega⟩
  cells i c el ch e h he := by
    obtain ⟨C, fz, a1, rest⟩ := R.cells i c el ch e h he
    have hlt := (R.dom i e he).2.2.2
    refine ⟨C, fz, ?_, rest⟩
    show (w.heap.push o)[e.B]? = _
    rw [Array.getElem?_push, if_neg (by omega)]; exact a1
  map i es k e h he := by
    obtain ⟨es', a1, rest⟩ := R.map i es k e h he
    have hlt := (R.dom i e he).2.2.2
    refine ⟨es', ?_, rest⟩
    show (w.heap.push o)[e.B]? = _
    rw [Array.getElem?_push, if_neg (by omega)]; exact a1
  sep := R.sep

/-- More names may be given, for blocks that lie further on. -/
def AHeap.bump (σ : AHeap) (L : Nat) : AHeap := { σ with next := L }
theorem Rel.bump {k : Nat} (R : Rel P σ (rst γ σ.next) w) (hk : σ.next ≤ k) (hd : ∀ i e, γ i = some e → i < k → σ.base ≤ i ∧ σ.base ≤ e.B ∧ e.B < w.heap.size) : Rel P (σ.bump k) (rst γ k) w where
  os := R.os
  tape := R.tape
  out := R.out
  size := R.size
  old := R.old
  next := Nat.le_trans R.next hk
  fresh i hi := R.fresh i (Nat.le_trans hk hi)
  chain := R.chain
  dom i e h := by
    rw [rst_some] at h
    obtain ⟨a, b, c⟩ := hd i e h.2 h.1
    exact ⟨a, h.1, b, c⟩
  cells i c el ch e h he := by
    have hlt : i < σ.next := R.alive_lt (by show σ.get i ≠ .dead; rw [show σ.get i = .cells c el ch from h]; simp)
    rw [rst_some] at he
    obtain ⟨C, fz, a1, a2, a3, a4, a5, a6, a7⟩ := R.cells i c el ch e h (rst_some.2 ⟨hlt, he.2⟩)
    exact ⟨C, fz, a1, a2, a3, a4, a5, a6.mono (rst_le hk), a7⟩
  map i es m e h he := by
    have hlt : i < σ.next := R.alive_lt (by show σ.get i ≠ .dead; rw [show σ.get i = .map es m from h]; simp)
    rw [rst_some] at he
    obtain ⟨es', a1, a2⟩ := R.map i es m e h (rst_some.2 ⟨hlt, he.2⟩)
    exact ⟨es', a1, a2.mono (rst_le hk)⟩
  sep i j e e' he he' hB hij hi hj := by
    rw [rst_some] at he he'
    exact R.sep i j e e' (rst_some.2 ⟨R.alive_lt hi, he.2⟩) (rst_some.2 ⟨R.alive_lt hj, he'.2⟩) hB hij hi hj

/-- A new object with no block yet. -/
theorem Rel.pushSkip (R : Rel P σ γ w) (hn : γ σ.next = none) {o : AObj} (hch : ∀ c el ch, o = .cells c el ch → ch ≤ σ.next) : Rel P (σ.push o) γ w where
  os := R.os
  tape := R.tape
  out := R.out
  size := R.size
  old := R.old
  next := Nat.le_succ_of_le R.next
  fresh i hi := by
    have : i ≠ σ.next := by simp [AHeap.push] at hi; omega
    rw [push_get_old _ _ this]; exact R.fresh i (by simp [AHeap.push] at hi; omega)
  chain i c el ch h := by
    by_cases hi : i = σ.next
    · subst hi; rw [push_get_new] at h; exact hch c el ch h
    · rw [push_get_old _ _ hi] at h; exact R.chain i c el ch h
  dom i e h := by obtain ⟨a, b, c, d⟩ := R.dom i e h; exact ⟨a, by simp [AHeap.push]; omega, c, d⟩
  cells i c el ch e h he := by
    have hi : i ≠ σ.next := by intro h; subst h; rw [hn] at he; cases he
    rw [push_get_old _ _ hi] at h; exact R.cells i c el ch e h he
  map i es k e h he := by
    have hi : i ≠ σ.next := by intro h; subst h; rw [hn] at he; cases he
    rw [push_get_old _ _ hi] at h; exact R.map i es k e h he
  sep i j e e' he he' hB hij hi hj := by
    have h1 : i ≠ σ.next := by intro h; subst h; rw [hn] at he; cases he
    have h2 : j ≠ σ.next := by intro h; subst h; rw [hn] at he'; cases he'
    rw [push_get_old _ _ h1] at hi ⊢
    rw [push_get_old _ _ h2] at hj ⊢
    exact R.sep i j e e' he he' hB hij hi hj

/-- A new object whose block is there already. -/
theorem Rel.pushLate (R : Rel P σ γ w) {o : AObj} {obj' : Obj} {ent : GEnt} (ho : ObjR P σ.base γ σ.next o obj' ent) (hw : w.heap[ent.B]? = some obj') (hb : σ.base ≤ ent.B)
    (hu : ∀ i e, γ i = some e → e.B ≠ ent.B) : Rel P (σ.push o) (γ.put σ.next ent) w where
  os := R.os
  tape := R.tape
  out := R.out
  size := R.size
  old := R.old
  next := Nat.le_succ_of_le R.next
  fresh i hi := by
    have : i ≠ σ.next := by simp [AHeap.push] at hi; omega
    rw [push_get_old _ _ this]; exact R.fresh i (by simp [AHeap.push] at hi; omega)
  chain i c el ch h := by
    by_cases hi : i = σ.next
    · subst hi; rw [push_get_new] at h; subst h
      rcases ho with ⟨_, _, _, h1, _⟩ | ⟨h1, _⟩
      · injection h1 with _ _ h3; omega
      · cases h1
    · rw [push_get_old _ _ hi] at h; exact R.chain i c el ch h
  dom i e h := by
    by_cases hi : i = σ.next
    · subst hi; rw [Gm.put_same] at h; injection h with h; subst h
      exact ⟨R.next, by simp [AHeap.push], hb, (Array.getElem?_eq_some_iff.1 hw).1⟩
    · rw [Gm.put_other _ _ hi] at h
      obtain ⟨a, b, c, d⟩ := R.dom i e h; exact ⟨a, by simp [AHeap.push]; omega, c, d⟩
  cells i c el ch e h he := by
    by_cases hi : i = σ.next
    · subst hi
      rw [push_get_new] at h; subst h
      rw [Gm.put_same] at he; injection he with he; subst he
      rcases ho with ⟨c', e', C, h1, h2, h3, h4, h5, h6, h7, h8⟩ | ⟨h1, _⟩
      · injection h1 with a1 a2 a3; subst a1; subst a2
        refine ⟨C, (0, 0), by rw [hw, h2], h3, h5, by omega, fun o _ => by simp, ?_, h8⟩
        rw [h4, List.drop_zero]
        exact h7.mono (Gm.put_le R.next_none)
      · cases h1
    · rw [push_get_old _ _ hi] at h
      rw [Gm.put_other _ _ hi] at he
      obtain ⟨C, fz, a1, a2, a3, a4, a5, a6, a7⟩ := R.cells i c el ch e h he
      exact ⟨C, fz, a1, a2, a3, a4, a5, a6.mono (Gm.put_le R.next_none), a7⟩
  map i es k e h he := by
    by_cases hi : i = σ.next
    · subst hi
      rw [push_get_new] at h; subst h
      rw [Gm.put_same] at he; injection he with he; subst he
      rcases ho with ⟨_, _, _, h1, _⟩ | ⟨h1, h2⟩
      · cases h1
      · injection h1 with a1 a2; subst a1; subst a2
        exact ⟨#[], by rw [hw, h2], rfl, fun i e e' h => by simp at h⟩
    · rw [push_get_old _ _ hi] at h
      rw [Gm.put_other _ _ hi] at he
      obtain ⟨es', a1, a2⟩ := R.map i es k e h he
      exact ⟨es', a1, a2.mono (Gm.put_le R.next_none)⟩
  sep i j e e' he he' hB hij hi hj := by
    by_cases h1 : i = σ.next
    · subst h1
      rw [Gm.put_same] at he; injection he with he; subst he
      rw [Gm.put_other _ _ (Ne.symm hij)] at he'
      exact absurd hB.symm (hu j e' he')
    · by_cases h2 : j = σ.next
      · subst h2
        rw [Gm.put_same] at he'; injection he' with he'; subst he'
        rw [Gm.put_other _ _ h1] at he
        exact absurd hB (hu i e he)
      · rw [Gm.put_other _ _ h1] at he
        rw [Gm.put_other _ _ h2] at he'
        rw [push_get_old _ _ h1] at hi ⊢
        rw [push_get_old _ _ h2] at hj ⊢
        exact R.sep i j e e' he he' hB hij hi hj

/-! ### The list and its places -/
structure LOk (ops : Array Oper) (l : List (Oper × Nat)) : Prop where
  get : ∀ (p : Nat) (o : Oper) (x : Nat), l[p]? = some (o, x) → ops[x]? = some o
  pair : ∀ (p q : Nat) (u : Oper) (x : Nat) (o : Oper) (y : Nat), l[p]? = some (u, x) → l[q]? = some (o, y) → p < q → pairOk ops (u, x) (o, y) = true
  nodup : ∀ (p q : Nat) (u : Oper) (x : Nat) (o : Oper) (y : Nat), l[p]? = some (u, x) → l[q]? = some (o, y) → p < q → x ≠ y
  edge : ∀ (p q : Nat) (u : Oper) (x : Nat) (o : Oper) (y : Nat), l[p]? = some (u, x) → l[q]? = some (o, y) → p < q → ∀ e ∈ u.after.toList, Region.binds .any e = true → e.on ≠ y
  self : ∀ (p : Nat) (u : Oper) (x : Nat), l[p]? = some (u, x) → ∀ e ∈ u.after.toList, Region.binds .any e = true → e.on < ops.size ∧ e.on ≠ x
  all : ∀ (x : Nat), x < ops.size → ∃ (p : Nat) (o : Oper), l[p]? = some (o, x)

theorem pairsOk_spec {ops : Array Oper} : ∀ {l : List (Oper × Nat)}, pairsOk ops l = true → ∀ (p q : Nat) (u : Oper) (x : Nat) (o : Oper) (y : Nat), l[p]? = some (u, x) → l[q]? = some (o, y) → p < q →
    pairOk ops (u, x) (o, y) = true ∧ x ≠ y ∧ ∀ e ∈ u.after.toList, Region.binds .any e = true → e.on ≠ y := by
  intro l
  induction l with
  | nil => intro _ p q u x o y hp; simp at hp
  | cons a l ih =>
    intro h p q u x o y hp hq hpq
    unfold pairsOk at h
    simp only [Bool.and_eq_true, List.all_eq_true] at h
    cases q with
    | zero => omega
    | succ q =>
      cases p with
      | zero =>
        simp only [List.getElem?_cons_zero, Option.some.injEq] at hp
        subst hp
        have := h.1 (o, y) (List.mem_of_getElem? (by simpa using hq))
        simp only [Bool.and_eq_true, bne_iff_ne, ne_eq] at this
        refine ⟨this.1.1, this.1.2, fun e he hb heq => ?_⟩
        have h3 := this.2
        rw [Array.all_eq_true_iff_forall_mem] at h3
        have := h3 e (by simpa using he)
        simp [hb, heq] at this
      | succ p => exact ih h.2 p q u x o y (by simpa using hp) (by simpa using hq) (by omega)

theorem LOk.of {ops : Array Oper} (h : regionOk ops = true) : LOk ops (canonOps ops) := by
  unfold regionOk at h
  simp only [Bool.and_eq_true, List.all_eq_true] at h
  obtain ⟨⟨⟨h1, h2⟩, h3⟩, _⟩ := h
  refine ⟨fun p o x hp => ?_, fun p q u x o y hp hq hpq => (pairsOk_spec h1 p q u x o y hp hq hpq).1, fun p q u x o y hp hq hpq => (pairsOk_spec h1 p q u x o y hp hq hpq).2.1,
    fun p q u x o y hp hq hpq => (pairsOk_spec h1 p q u x o y hp hq hpq).2.2, fun p u x hp e he hb => ?_, fun x hx => ?_⟩
  · have := List.mem_of_getElem? hp
    unfold canonOps at this
    rw [List.mem_filterMap] at this
    obtain ⟨i, _, hi⟩ := this
    rw [Option.map_eq_some_iff] at hi
    obtain ⟨o', ho, he⟩ := hi
    injection he with e1 e2; subst e1; subst e2
    exact ho
  · have := h3 (u, x) (List.mem_of_getElem? hp)
    rw [Array.all_eq_true_iff_forall_mem] at this
    have := this e (by simpa using he)
    simp [hb] at this
    exact this
  · have := h2 x (by simpa using hx)
    rw [List.any_eq_true] at this
    obtain ⟨⟨o, y⟩, hm, he⟩ := this
    obtain ⟨p, hp⟩ := List.getElem?_of_mem hm
    simp at he; subst he
    exact ⟨p, o, hp⟩

/-- What must be listed ahead of a place, if its edges are. -/
theorem closed_ordered {ops : Array Oper} {l : List (Oper × Nat)} (L : LOk ops l) {S : Nat → Bool}
    (hcl : ∀ (p : Nat) (o : Oper) (x : Nat), l[p]? = some (o, x) → S x = true → ∀ e ∈ o.after.toList, Region.binds .any e = true → S e.on = true) :
    ∀ (q : Nat) (o : Oper) (y : Nat), l[q]? = some (o, y) → (∀ e ∈ o.after.toList, Region.binds .any e = true → S e.on = true) → ∀ x, orderedIn ops x y = true → S x = true := by
  intro q
  induction q using Nat.strongRecOn with
  | _ q ih =>
    intro o y hq hed x hx
    obtain ⟨o', ho', e, he, hb, h⟩ := before_spec hx
    have := L.get q o y hq
    rw [ho'] at this; injection this with this; subst this
    rcases h with h | h
    · rw [← h]; exact hed e he hb
    · obtain ⟨h1, h2⟩ := L.self q o' y hq e he hb
      obtain ⟨r, u, hr⟩ := L.all e.on h1
      have hrq : r < q := by
        rcases Nat.lt_trichotomy r q with h3 | h3 | h3
        · exact h3
        · subst h3; rw [hq] at hr; injection hr with hr; injection hr with _ hr; exact absurd hr.symm h2
        · exact absurd rfl (L.edge q r o' y u e.on hq hr h3 e he hb)
      exact ih r hrq u e.on hr (hcl r u e.on hr (hed e he hb)) x h

theorem pairOk_apart {ops : Array Oper} {u o : Oper} {x y : Nat} (h : pairOk ops (u, x) (o, y) = true) (hn : orderedIn ops x y = false) :
    isActC o = false ∧ (∀ d, u.dst = some d → d ∉ o.looksAt ops ∧ o.dst ≠ some d) ∧ (∀ d, o.dst = some d → d ∉ u.looksAt ops) := by
  unfold pairOk at h
  rw [hn] at h
  simp only [Bool.false_or, Bool.and_eq_true, Bool.not_eq_true'] at h
  refine ⟨h.1.1, fun d hd => ?_, fun d hd => ?_⟩
  · have := h.1.2
    rw [hd] at this
    simp at this
    exact ⟨this.1, this.2⟩
  · have := h.2
    rw [hd] at this
    simpa using this

/-- The place that wrote a name last, among those listed. -/
def lw (l : List (Oper × Nat)) (S : Nat → Bool) : Nat → Tmp → Option Nat
  | 0, _ => none
  | k + 1, t => match l[k]? with
    | some (o, x) => if S x && o.dst == some t then some k else lw l S k t
    | none => lw l S k t

theorem lw_succ (l : List (Oper × Nat)) (S : Nat → Bool) (k : Nat) (t : Tmp) : lw l S (k + 1) t = match l[k]? with
    | some (o, x) => if S x && o.dst == some t then some k else lw l S k t
    | none => lw l S k t := rfl

theorem lw_congr {l : List (Oper × Nat)} {S S' : Nat → Bool} {t : Tmp} : ∀ {k : Nat}, (∀ (p : Nat) (o : Oper) (x : Nat), p < k → l[p]? = some (o, x) → o.dst = some t → S x = S' x) → lw l S k t = lw l S' k t := by
  intro k
  induction k with
  | zero => intro _; rfl
  | succ k ih =>
    intro h
    unfold lw
    have ih' := ih (fun p o x hp hl hd => h p o x (by omega) hl hd)
    cases hk : l[k]? with
    | none => exact ih'
    | some a =>
      obtain ⟨o, x⟩ := a
      simp only
      by_cases hd : o.dst = some t
      · rw [h k o x (by omega) hk hd, ih']
      · have : (o.dst == some t) = false := by simpa using hd
        rw [this, Bool.and_false, Bool.and_false]
        simpa using ih'

theorem lw_cut {l : List (Oper × Nat)} {S : Nat → Bool} {t : Tmp} {k : Nat} : ∀ {n : Nat}, k ≤ n → (∀ (p : Nat) (o : Oper) (x : Nat), k ≤ p → p < n → l[p]? = some (o, x) → S x = true → o.dst ≠ some t) → lw l S n t = lw l S k t := by
  intro n
  induction n with
  | zero => intro h _; have : k = 0 := by omega
            subst this; rfl
  | succ n ih =>
    intro h hn
    by_cases hk : k = n + 1
    · subst hk; rfl
    · have ih' := ih (by omega) (fun p o x h1 h2 h3 h4 => hn p o x h1 (by omega) h3 h4)
      rw [lw_succ]
      cases hl : l[n]? with
      | none => exact ih'
      | some a =>
        obtain ⟨o, x⟩ := a
        simp only
        by_cases hS : S x = true
        · have := hn n o x (by omega) (by omega) hl hS
          have : (o.dst == some t) = false := by simpa using this
          rw [this, Bool.and_false]
          simpa using ih'
        · simp only [hS, Bool.false_and, Bool.false_eq_true, if_false]; exact ih'

theorem lw_lt {l : List (Oper × Nat)} {S : Nat → Bool} {t : Tmp} {p : Nat} : ∀ {n : Nat}, lw l S n t = some p → p < n ∧ ∃ (o : Oper) (x : Nat), l[p]? = some (o, x) ∧ S x = true ∧ o.dst = some t := by
  intro n
  induction n with
  | zero => intro h; simp [lw] at h
  | succ n ih =>
    intro h
    unfold lw at h
    cases hl : l[n]? with
    | none => rw [hl] at h; obtain ⟨a, b⟩ := ih h; exact ⟨by omega, b⟩
    | some a =>
      obtain ⟨o, x⟩ := a
      rw [hl] at h
      simp only at h
      split at h
      · rename_i hc
        injection h with h; subst h
        simp only [Bool.and_eq_true, beq_iff_eq] at hc
        exact ⟨by omega, o, x, hl, hc.1, hc.2⟩
      · obtain ⟨a, b⟩ := ih h; exact ⟨by omega, b⟩

theorem lw_put {l : List (Oper × Nat)} {S : Nat → Bool} {p : Nat} {o : Oper} {x : Nat} (hp : l[p]? = some (o, x)) {t : Tmp} (hd : o.dst = some t)
    (hlater : ∀ (q : Nat) (u : Oper) (y : Nat), p < q → l[q]? = some (u, y) → S y = true → u.dst ≠ some t) (hx : S x = true) : lw l S l.length t = some p := by
  have hlt : p < l.length := (List.getElem?_eq_some_iff.1 hp).1
  rw [lw_cut (k := p + 1) (by omega) (fun q u y h1 _ h3 h4 => hlater q u y (by omega) h3 h4), lw_succ, hp]
  simp [hx, hd]

/-! ### The order does not matter -/
variable {call : CallR} {ops : Array Oper} {l : List (Oper × Nat)} {f0 f1 : Fr} {σ0 σ1 : AHeap} {γ0 : Gm} {w0 : World} {N : Nat}

def Tr.want (T : Tr P call ops l f0 σ0 f1 σ1) (p : Nat) (o : Oper) : Prop := Region.wanted o (yieldF ops (T.fs p)) = true
def Tr.act (T : Tr P call ops l f0 σ0 f1 σ1) (p : Nat) : Prop := ∃ (o : Oper) (x : Nat), l[p]? = some (o, x) ∧ clsOf o.op = .act ∧ T.want p o
def Tr.cur (T : Tr P call ops l f0 σ0 f1 σ1) (S : Nat → Bool) (t : Tmp) : Value := match lw l S l.length t with | some p => T.vs p | none => f0 t
def Tr.lev (T : Tr P call ops l f0 σ0 f1 σ1) (S : Nat → Bool) (t : Tmp) : Nat := match lw l S l.length t with | some p => (T.hs (p + 1)).next | none => σ0.next

structure Inv (T : Tr P call ops l f0 σ0 f1 σ1) (γ0 : Gm) (w0 : World) (N : Nat) (S : Nat → Bool) (m : Nat) (γ : Gm) (a : Act) (w : World) : Prop where
  mle : m ≤ l.length
  allL : ∀ (p : Nat) (o : Oper) (x : Nat), p < m → l[p]? = some (o, x) → S x = true
  noact : ∀ (p : Nat) (o : Oper) (x : Nat), m ≤ p → l[p]? = some (o, x) → clsOf o.op = .act → T.want p o → S x = false
  post : Post P σ0 γ0 w0 (T.hs m) (rst γ (T.hs m).next) w
  early : ∀ (p : Nat) (o : Oper) (x : Nat), m ≤ p → l[p]? = some (o, x) → S x = true → clsOf o.op = .alloc → T.want p o →
    ∃ obj obj' ent, T.hs (p + 1) = (T.hs p).push obj ∧ γ (T.hs p).next = some ent ∧ w.heap[ent.B]? = some obj' ∧ ObjR P σ0.base (rst γ (T.hs p).next) (T.hs p).next obj obj' ent ∧
      w0.heap.size ≤ ent.B ∧ ∀ i e, γ i = some e → e.B = ent.B → i = (T.hs p).next
  dom : ∀ i e, γ i = some e → i < (T.hs m).next ∨ ∃ (p : Nat) (o : Oper) (x : Nat), m ≤ p ∧ l[p]? = some (o, x) ∧ S x = true ∧ clsOf o.op = .alloc ∧ T.want p o ∧ i = (T.hs p).next
  env : ∀ t, VR σ0.base (rst γ (max (T.lev S t) (T.hs m).next)) (T.cur S t) (a.tmps.getD t undef)
  size : a.tmps.size = N
  defers : a.defers = []

theorem Tr.mono (T : Tr P call ops l f0 σ0 f1 σ1) (hm : CallMono call) : ∀ {i j : Nat}, i ≤ j → j ≤ l.length → AMono (T.hs i) (T.hs j) := by
  intro i j hij hj
  induction j with
  | zero => have : i = 0 := by omega
            subst this; exact AMono.refl _
  | succ j ih =>
    by_cases h : i = j + 1
    · subst h; exact AMono.refl _
    · have hlt : j < l.length := by omega
      have hp : l[j]? = some (l[j].1, l[j].2) := List.getElem?_eq_getElem hlt
      refine (ih (by omega) (by omega)).trans ?_
      rcases (T.step j _ _ hp).2 with ⟨_, h1⟩ | ⟨_, _, h1⟩
      · exact opV_mono hm h1
      · rw [h1]; exact AMono.refl _

/-- A step that is no act: what it makes of the heap. -/
theorem Tr.quiet (T : Tr P call ops l f0 σ0 f1 σ1) (hz : ZeroOk P) {p : Nat} {o : Oper} {x : Nat} (hp : l[p]? = some (o, x)) (hna : ¬ T.act p) :
    (T.hs (p + 1) = T.hs p ∧ ¬ (clsOf o.op = .alloc ∧ T.want p o)) ∨ (clsOf o.op = .alloc ∧ T.want p o ∧ ∃ obj, T.hs (p + 1) = (T.hs p).push obj ∧ obj ≠ .dead ∧ ∀ c el ch, obj = .cells c el ch → ch ≤ (T.hs p).next) := by
  rcases (T.step p o x hp).2 with ⟨hw, h1⟩ | ⟨hw, _, h1⟩
  · cases hc : clsOf o.op with
    | act => exact absurd ⟨o, x, hp, hc, hw⟩ hna
    | pure =>
      rw [opV_aop (by rw [hc]; simp)] at h1
      exact .inl ⟨(pure_any hc h1).1, by simp⟩
    | read =>
      rw [opV_aop (by rw [hc]; simp)] at h1
      exact .inl ⟨read_same hc h1, by simp⟩
    | alloc =>
      rw [opV_aop (by rw [hc]; simp)] at h1
      obtain ⟨obj, h2, h3, h5, h4⟩ := alloc_core hz hc h1
      exact .inr ⟨rfl, hw, obj, h2, h3, fun c el ch he => by rw [h5 c el ch he]; exact Nat.le_refl _⟩
  · exact .inl ⟨h1, fun h => by have := h.2; unfold Tr.want at this; rw [hw] at this; cases this⟩

end
end Go.Am
