/- AmD -/
import Derived.Test.YtpionejhjfmobaaDoorAmA
set_option linter.unusedVariables false
set_option linter.unusedSimpArgs false
namespace Go.Am
section
variable {P : Program} {σ : AHeap} {γ : Gm} {w : World}

theorem splice_length {c : List Value} {off : Nat} {vs : List Value} (h : off + vs.length ≤ c.length) : (splice c off vs).length = c.length := by
  unfold splice; simp; omega

theorem splice_nil (c : List Value) (off : Nat) : splice c off [] = c := by
  unfold splice; simp

theorem splice_cons {c : List Value} {off : Nat} {v : Value} {vs : List Value} (h : off + (vs.length + 1) ≤ c.length) :
    splice (c.set off v) (off + 1) vs = splice c off (v :: vs) := by
  unfold splice
  apply List.ext_getElem?
  intro k
  simp only [List.getElem?_append, List.length_append, List.length_take, List.length_set, List.length_cons, List.getElem?_take, List.getElem?_drop, List.getElem?_set, List.getElem?_cons]
  by_cases h1 : k < off
  · simp [h1, show k < min (off + 1) c.length + vs.length by omega, show k < min (off + 1) c.length by omega, show k < off + 1 by omega, show off ≠ k by omega,
      show k < min off c.length + (vs.length + 1) by omega, show k < min off c.length by omega]
  · by_cases h2 : k = off
    · subst h2
      simp [show k < min (k + 1) c.length + vs.length by omega, show k < min (k + 1) c.length by omega, show k < c.length by omega, show k < min k c.length + (vs.length + 1) by omega,
        show k - min k c.length = 0 by omega, show ¬ (k < min k c.length) by omega]
    · by_cases h3 : k < off + 1 + vs.length
      · simp [show k < min (off + 1) c.length + vs.length by omega, show ¬ (k < min (off + 1) c.length) by omega, show k < min off c.length + (vs.length + 1) by omega, show ¬ (k < min off c.length) by omega,
          show k - min off c.length ≠ 0 by omega, show k - min (off + 1) c.length = k - min off c.length - 1 by omega]
      · simp [show ¬ (k < min (off + 1) c.length + vs.length) by omega, show ¬ (k < min off c.length + (vs.length + 1)) by omega,
          show off + 1 + vs.length + (k - (min (off + 1) c.length + vs.length)) = off + (vs.length + 1) + (k - (min off c.length + (vs.length + 1))) by omega,
          show off ≠ off + (vs.length + 1) + (k - (min off c.length + (vs.length + 1))) by omega]

theorem run_storeCells_at (B : Nat) (el : TypeId) (fz : Nat × Nat) (N : Nat) (hfz : ∀ o, o < N → ¬ (fz.1 ≤ o ∧ o < fz.2)) :
    ∀ (vs : List Value) (o i : Nat) (C : Array Value) (w : World), w.heap[B]? = some (.cells C el fz) → C.size = N → o + i + vs.length ≤ C.size → (∀ v ∈ vs, v.oneC = true) →
    (storeCells ⟨B, o, none⟩ vs i).run P w = .ok () (w.setRow B (splice C.toList (o + i) vs).toArray)
  | [], o, i, C, w, hg, hN, hl, h1 => by
    have hlt : B < w.heap.size := (Array.getElem?_eq_some_iff.1 hg).1
    have hv : w.heap[B] = .cells C el fz := (Array.getElem?_eq_some_iff.1 hg).2
    simp only [storeCells, splice_nil, Array.toArray_toList]
    show Result.ok () w = _
    congr 1
    unfold World.setRow
    cases w with
    | mk heap tape drawn os output =>
      congr 1
      apply Array.ext
      · simp
      · intro k h1 h2
        simp only [Array.getElem_modify]
        split
        · rename_i hk; subst hk; simp at hv; simp [hv]
        · rfl
  | v :: vs, o, i, C, w, hg, hN, hl, h1 => by
    have hi : o + i < C.size := by simp at hl; omega
    have hcell : w.cell? ⟨B, o + i, none⟩ = some C[o + i] := by simp [World.cell?, hg, hi]
    have hfro : w.frozen? ⟨B, o + i, none⟩ = false := by
      have := hfz (o + i) (by omega)
      simp only [World.frozen?, hg]
      simpa using this
    have hst : (store ((⟨B, o, none⟩ : Addr).add i) v).run P w = .ok () (w.setRow B (C.setIfInBounds (o + i) v)) := by
      rw [addr_add, run_store P w _ v _ (by rw [← oneC_eq]; exact h1 v (by simp)), hcell]
      simp [hfro, setCell_eq_setRow w B (o + i) C el fz v hg]
    have ih := run_storeCells_at B el fz N hfz vs o (i + 1) (C.setIfInBounds (o + i) v) (w.setRow B (C.setIfInBounds (o + i) v)) (setRow_heap w B C _ el _ hg) (by simpa using hN) (by simp at hl ⊢; omega) (fun x hx => h1 x (by simp [hx]))
    simp only [storeCells, Sem.run_bind, hst, Result.andThen_ok, ih, setRow_setRow]
    rw [show o + (i + 1) = o + i + 1 by omega, Array.toList_setIfInBounds, splice_cons (by simp at hl ⊢; omega)]

theorem setRow_get (w : World) (B k : Nat) (cs : Array Value) (h : k ≠ B) : (w.setRow B cs).heap[k]? = w.heap[k]? := setRow_other w B k cs h

theorem setRow_nop {w : World} {B : Nat} {C : Array Value} {el : TypeId} {fz : Nat × Nat} (hg : w.heap[B]? = some (.cells C el fz)) : w.setRow B C = w := by
  have hlt : B < w.heap.size := (Array.getElem?_eq_some_iff.1 hg).1
  have hv : w.heap[B] = .cells C el fz := (Array.getElem?_eq_some_iff.1 hg).2
  unfold World.setRow
  cases w with
  | mk heap tape drawn os output =>
    congr 1
    apply Array.ext
    · simp
    · intro k h1 h2
      simp only [Array.getElem_modify]
      split
      · rename_i hk; subst hk; simp at hv; simp [hv]
      · rfl

/-! ### Killing -/
theorem kill_get (σ : AHeap) (ch keep lim i : Nat) : (σ.kill ch keep lim).get i = σ.get i ∨ (σ.kill ch keep lim).get i = .dead := by
  unfold AHeap.kill
  simp only
  split
  · split
    · exact .inr rfl
    · rename_i h _; exact .inl h.symm
  · exact .inl rfl

theorem kill_dead {σ : AHeap} {ch keep lim i : Nat} (h : σ.get i = .dead) : (σ.kill ch keep lim).get i = .dead := by
  rcases kill_get σ ch keep lim i with h1 | h1
  · rw [h1, h]
  · exact h1

theorem kill_alive {σ : AHeap} {ch keep lim i : Nat} (h : (σ.kill ch keep lim).get i ≠ .dead) : (σ.kill ch keep lim).get i = σ.get i := by
  rcases kill_get σ ch keep lim i with h1 | h1
  · exact h1
  · exact absurd h1 h

/-- What is left of a chain lies before the limit. -/
theorem kill_short {σ : AHeap} {ch keep lim i : Nat} {c : List Value} {el : TypeId} (h : (σ.kill ch keep lim).get i = .cells c el ch) (hne : i ≠ keep) : c.length ≤ lim ∧ lim ≠ 0 := by
  have h0 := kill_alive (σ := σ) (ch := ch) (keep := keep) (lim := lim) (i := i) (by rw [h]; simp)
  rw [h] at h0
  have h' := h
  unfold AHeap.kill at h'
  simp only [← h0] at h'
  by_cases hl : lim < c.length ∨ lim = 0
  · simp [hl] at h'
    exact absurd h' hne
  · omega

theorem Rel.kill (R : Rel P σ γ w) (ch keep lim : Nat) : Rel P (σ.kill ch keep lim) γ w where
  os := R.os
  tape := R.tape
  out := R.out
  size := R.size
  old := R.old
  next := R.next
  fresh i hi := kill_dead (R.fresh i hi)
  chain i c el ch' h := R.chain i c el ch' (by rw [← h]; exact (kill_alive (by rw [h]; simp)).symm)
  dom := R.dom
  cells i c el ch' e h he := R.cells i c el ch' e (by rw [← h]; exact (kill_alive (by rw [h]; simp)).symm) he
  map i es k e h he := R.map i es k e (by rw [← h]; exact (kill_alive (by rw [h]; simp)).symm) he
  sep i j e e' he he' hB hij hi hj := by
    rw [kill_alive hi, kill_alive hj]
    exact R.sep i j e e' he he' hB hij (by rw [← kill_alive hi]; exact hi) (by rw [← kill_alive hj]; exact hj)

theorem Grows.kill (σ : AHeap) (γ : Gm) (ch keep lim : Nat) : Grows σ (σ.kill ch keep lim) γ γ := ⟨rfl, Nat.le_refl _, Gm.le_refl γ, fun _ _ h => .inl h, fun _ _ h => kill_dead h⟩

/-! ### New names -/
def Gm.put (γ : Gm) (i : Nat) (e : GEnt) : Gm := fun j => if j = i then some e else γ j
theorem Gm.put_le {γ : Gm} {i : Nat} {e : GEnt} (h : γ i = none) : γ.le (γ.put i e) := fun j x hj => by
  unfold Gm.put
  split
  · rename_i hji; subst hji; rw [h] at hj; cases hj
  · exact hj
theorem Rel.next_none (R : Rel P σ γ w) : γ σ.next = none := by
  cases h : γ σ.next with
  | none => rfl
  | some e => have := R.dom _ _ h; omega
theorem Gm.put_same (γ : Gm) (i : Nat) (e : GEnt) : γ.put i e i = some e := by simp [Gm.put]
theorem Gm.put_other (γ : Gm) {i j : Nat} (e : GEnt) (h : j ≠ i) : γ.put i e j = γ j := by simp [Gm.put, h]

theorem push_get_new (σ : AHeap) (o : AObj) : (σ.push o).get σ.next = o := by simp [AHeap.push]
theorem push_get_old (σ : AHeap) (o : AObj) {i : Nat} (h : i ≠ σ.next) : (σ.push o).get i = σ.get i := by simp [AHeap.push, h]
theorem put_get_same (σ : AHeap) (j : Nat) (o : AObj) : (σ.put j o).get j = o := by simp [AHeap.put]
theorem put_get_other (σ : AHeap) {j i : Nat} (o : AObj) (h : i ≠ j) : (σ.put j o).get i = σ.get i := by simp [AHeap.put, h]

theorem Grows.push (R : Rel P σ γ w) (o : AObj) (e : GEnt) : Grows σ (σ.push o) γ (γ.put σ.next e) :=
  ⟨rfl, by simp [AHeap.push], Gm.put_le R.next_none, fun i x h => by
    unfold Gm.put at h
    split at h
    · rename_i hi; exact .inr (by omega)
    · exact .inl h, fun i hi hd => by rw [push_get_old _ _ (by omega)]; exact hd⟩

/-- A new row of cells in a new block. -/
theorem Rel.pushNew (R : Rel P σ γ w) {w' : World} {C : Array Value} {el : TypeId} {fz : Nat × Nat} {c : List Value} {ch E : Nat}
    (hh : w'.heap = w.heap.push (.cells C el fz)) (ho : w'.os = w.os) (ht : w'.tape = w.tape) (hout : w'.output = w.output)
    (hE : szOf P el = some E) (hch : ch ≤ σ.next) (hc : c.length ≤ C.size) (hfz : ∀ o, o < C.size → ¬ (fz.1 ≤ o ∧ o < fz.2))
    (hL : LR σ.base γ c (C.toList.take c.length)) (h1 : ∀ v ∈ c, v.oneC = true) :
    Rel P (σ.push (.cells c el ch)) (γ.put σ.next ⟨w.heap.size, 0, C.size, E, Nat.zero_mod _⟩) w' where
  os := ho.trans R.os
  tape := ht.trans R.tape
  out := hout.trans R.out
  size := by have := R.size; rw [hh]; simp; exact Nat.le_succ_of_le this
  old i hi := by
    have := R.size
    rw [hh, Array.getElem?_push]
    have h2 : i < σ.base := hi
    rw [if_neg (by omega)]
    exact R.old i hi
  next := Nat.le_succ_of_le R.next
  fresh i hi := by
    have : i ≠ σ.next := by simp [AHeap.push] at hi; omega
    rw [push_get_old _ _ this]
    exact R.fresh i (by simp [AHeap.push] at hi; omega)
  chain i c' el' ch' h := by
    by_cases hi : i = σ.next
    · subst hi; rw [push_get_new] at h; injection h with _ _ h3; omega
    · rw [push_get_old _ _ hi] at h; exact R.chain i c' el' ch' h
  dom i e h := by
    by_cases hi : i = σ.next
    · subst hi; rw [Gm.put_same] at h; injection h with h; subst h
      have := R.next; have := R.size
      exact ⟨this |> fun _ => R.next, by simp [AHeap.push], R.size, by rw [hh]; simp⟩
    · rw [Gm.put_other _ _ hi] at h
      obtain ⟨a, b, c, d⟩ := R.dom i e h
      exact ⟨a, by simp [AHeap.push]; omega, c, by rw [hh]; simp; omega⟩
  cells i c' el' ch' e h he := by
    by_cases hi : i = σ.next
    · subst hi
      rw [push_get_new] at h; injection h with h1' h2' h3'; subst h1'; subst h2'
      rw [Gm.put_same] at he; injection he with he; subst he
      refine ⟨C, fz, by rw [hh]; simp, rfl, hE, by simpa using hc, hfz, ?_, h1⟩
      have h3 := hL.mono (Gm.put_le (e := (⟨w.heap.size, 0, C.size, E, Nat.zero_mod _⟩ : GEnt)) R.next_none)
      simpa [AHeap.base, AHeap.push] using h3
    · rw [push_get_old _ _ hi] at h
      rw [Gm.put_other _ _ hi] at he
      obtain ⟨C', fz', a, b, c, d, f, g, k⟩ := R.cells i c' el' ch' e h he
      have hlt := (R.dom i e he).2.2.2
      refine ⟨C', fz', ?_, b, c, d, f, g.mono (Gm.put_le R.next_none), k⟩
      rw [hh, Array.getElem?_push, if_neg (by omega)]
      exact a
  map i es k e h he := by
    by_cases hi : i = σ.next
    · subst hi; rw [push_get_new] at h; cases h
    · rw [push_get_old _ _ hi] at h
      rw [Gm.put_other _ _ hi] at he
      obtain ⟨es', a, b⟩ := R.map i es k e h he
      have hlt := (R.dom i e he).2.2.2
      refine ⟨es', ?_, b.mono (Gm.put_le R.next_none)⟩
      rw [hh, Array.getElem?_push, if_neg (by omega)]
      exact a
  sep i j e e' he he' hB hij hi hj := by
    by_cases h1 : i = σ.next
    · subst h1
      rw [Gm.put_same] at he; injection he with he; subst he
      rw [Gm.put_other _ _ (Ne.symm hij)] at he'
      have := (R.dom j e' he').2.2.2
      simp at hB; omega
    · by_cases h2 : j = σ.next
      · subst h2
        rw [Gm.put_same] at he'; injection he' with he'; subst he'
        rw [Gm.put_other _ _ h1] at he
        have := (R.dom i e he).2.2.2
        simp at hB; omega
      · rw [Gm.put_other _ _ h1] at he
        rw [Gm.put_other _ _ h2] at he'
        rw [push_get_old _ _ h1] at hi
        rw [push_get_old _ _ h2] at hj
        rw [push_get_old _ _ h1, push_get_old _ _ h2]
        exact R.sep i j e e' he he' hB hij hi hj

theorem Fram.pushNew {w' : World} {o : Obj} (hh : w'.heap = w.heap.push o) : Fram σ γ w w' :=
  ⟨by rw [hh]; simp, fun B hB _ => by rw [hh, Array.getElem?_push, if_neg (by omega)]⟩
theorem NewB.put {σ : AHeap} {γ : Gm} {w : World} {i : Nat} {e : GEnt} (h : w.heap.size ≤ e.B) : NewB σ γ (γ.put i e) w := fun j x hj hn => by
  unfold Gm.put at hj
  split at hj
  · injection hj with hj; subst hj; exact .inl h
  · rw [hn] at hj; cases hj

/-- A new map. -/
theorem Rel.pushMap (R : Rel P σ γ w) {w' : World} (hh : w'.heap = w.heap.push (.map #[] 0)) (ho : w'.os = w.os) (ht : w'.tape = w.tape) (hout : w'.output = w.output) :
    Rel P (σ.push (.map [] 0)) (γ.put σ.next ⟨w.heap.size, 0, 0, 0, Nat.zero_mod _⟩) w' where
  os := ho.trans R.os
  tape := ht.trans R.tape
  out := hout.trans R.out
  size := by have := R.size; rw [hh]; simp; exact Nat.le_succ_of_le this
  old i hi := by
    have := R.size
    rw [hh, Array.getElem?_push]
    have h2 : i < σ.base := hi
    rw [if_neg (by omega)]
    exact R.old i hi
  next := Nat.le_succ_of_le R.next
  fresh i hi := by
    have : i ≠ σ.next := by simp [AHeap.push] at hi; omega
    rw [push_get_old _ _ this]
    exact R.fresh i (by simp [AHeap.push] at hi; omega)
  chain i c' el' ch' h := by
    by_cases hi : i = σ.next
    · subst hi; rw [push_get_new] at h; cases h
    · rw [push_get_old _ _ hi] at h; exact R.chain i c' el' ch' h
  dom i e h := by
    by_cases hi : i = σ.next
    · subst hi; rw [Gm.put_same] at h; injection h with h; subst h
      exact ⟨R.next, by simp [AHeap.push], R.size, by rw [hh]; simp⟩
    · rw [Gm.put_other _ _ hi] at h
      obtain ⟨a, b, c, d⟩ := R.dom i e h
      exact ⟨a, by simp [AHeap.push]; omega, c, by rw [hh]; simp; omega⟩
  cells i c' el' ch' e h he := by
    by_cases hi : i = σ.next
    · subst hi; rw [push_get_new] at h; cases h
    · rw [push_get_old _ _ hi] at h
      rw [Gm.put_other _ _ hi] at he
      obtain ⟨C', fz', a, b, c, d, f, g, k⟩ := R.cells i c' el' ch' e h he
      have hlt := (R.dom i e he).2.2.2
      refine ⟨C', fz', ?_, b, c, d, f, g.mono (Gm.put_le R.next_none), k⟩
      rw [hh, Array.getElem?_push, if_neg (by omega)]
      exact a
  map i es k e h he := by
    by_cases hi : i = σ.next
    · subst hi; rw [push_get_new] at h; injection h with h1 h2; subst h1; subst h2
      rw [Gm.put_same] at he; injection he with he; subst he
      exact ⟨#[], by rw [hh]; simp, rfl, fun i e e' h => by simp at h⟩
    · rw [push_get_old _ _ hi] at h
      rw [Gm.put_other _ _ hi] at he
      obtain ⟨es', a, b⟩ := R.map i es k e h he
      have hlt := (R.dom i e he).2.2.2
      refine ⟨es', ?_, b.mono (Gm.put_le R.next_none)⟩
      rw [hh, Array.getElem?_push, if_neg (by omega)]
      exact a
  sep i j e e' he he' hB hij hi hj := by
    by_cases h1 : i = σ.next
    · subst h1
      rw [Gm.put_same] at he; injection he with he; subst he
      rw [Gm.put_other _ _ (Ne.symm hij)] at he'
      have := (R.dom j e' he').2.2.2
      simp at hB; omega
    · by_cases h2 : j = σ.next
      · subst h2
        rw [Gm.put_same] at he'; injection he' with he'; subst he'
        rw [Gm.put_other _ _ h1] at he
        have := (R.dom i e he).2.2.2
        simp at hB; omega
      · rw [Gm.put_other _ _ h1] at he
        rw [Gm.put_other _ _ h2] at he'
        rw [push_get_old _ _ h1] at hi
        rw [push_get_old _ _ h2] at hj
        rw [push_get_old _ _ h1, push_get_old _ _ h2]
        exact R.sep i j e e' he he' hB hij hi hj

/-- Cells of a block turn, where nothing else alive of its memory reaches. -/
theorem Rel.write (R : Rel P σ γ w) {b : Nat} {c c' : List Value} {el : TypeId} {ch : Nat} {e : GEnt} {C C' : Array Value} {fz : Nat × Nat} {p : Nat}
    (hg : σ.get b = .cells c el ch) (he : γ b = some e) (hC : w.heap[e.B]? = some (.cells C el fz)) (hs : C'.size = C.size) (hl : c'.length = c.length)
    (hpre : ∀ k, k < p → C'.toList[e.s + k]? = C.toList[e.s + k]?)
    (hL : LR σ.base γ c' ((C'.toList.drop e.s).take c'.length)) (h1 : ∀ v ∈ c', v.oneC = true) :
    Rel P ((σ.kill ch b p).put b (.cells c' el ch)) γ (w.setRow e.B C') := by
  have K := R.kill ch b p
  have hsz : (w.setRow e.B C').heap.size = w.heap.size := setRow_size w e.B C'
  have hB := R.dom b e he
  have hne : ∀ i, i ≠ b → ∀ e', γ i = some e' → e'.B = e.B → (σ.kill ch b p).get i ≠ .dead → ∃ ci eli, (σ.kill ch b p).get i = .cells ci eli ch ∧ ci.length ≤ p ∧ e'.s = e.s := by
    intro i hi e' hge hBB hnd
    have hnb : (σ.kill ch b p).get b = .cells c el ch := by
      rw [← hg]
      unfold AHeap.kill
      simp [hg]
    obtain ⟨ci, eli, cb, elb, chh, h2, h3, h4⟩ := K.sep i b e' e hge he hBB hi hnd (by rw [hnb]; simp)
    rw [hnb] at h3; injection h3 with _ _ h5; subst h5
    exact ⟨ci, eli, h2, (kill_short h2 hi).1, h4⟩
  exact {
    os := R.os
    tape := R.tape
    out := R.out
    size := by rw [hsz]; exact R.size
    old := fun i hi => by
      rw [setRow_get w e.B i C' (by have := hB.2.2.1; have h2 : i < σ.base := hi; omega)]
      exact R.old i hi
    next := R.next
    fresh := fun i hi => by
      have : i ≠ b := by have := hB.2.1; simp [AHeap.put, AHeap.kill] at hi; omega
      rw [put_get_other _ _ this]; exact K.fresh i hi
    chain := fun i ci eli chi h => by
      by_cases hi : i = b
      · subst hi; rw [put_get_same] at h; injection h with _ _ h3; subst h3; exact R.chain i c el ch hg
      · rw [put_get_other _ _ hi] at h; exact K.chain i ci eli chi h
    dom := fun i e' h => by rw [hsz]; exact R.dom i e' h
    cells := fun i ci eli chi e' h hge => by
      by_cases hi : i = b
      · subst hi; rw [put_get_same] at h; injection h with h2 h3 h4; subst h2; subst h3
        rw [he] at hge; injection hge with hge; subst hge
        obtain ⟨C0, fz0, a1, a2, a3, a4, a5, a6, a7⟩ := R.cells _ _ _ _ _ hg he
        rw [hC] at a1; injection a1 with a1; injection a1 with a1 a1e a1f; subst a1; subst a1f
        exact ⟨C', fz, setRow_heap w e.B C C' el fz hC, by omega, a3, by omega, a5, hL, h1⟩
      · rw [put_get_other _ _ hi] at h
        obtain ⟨Ci, fzi, a1, a2, a3, a4, a5, a6, a7⟩ := K.cells i ci eli chi e' h hge
        by_cases hBB : e'.B = e.B
        · obtain ⟨ci', eli', h2, h3, h4⟩ := hne i hi e' hge hBB (by rw [h]; simp)
          rw [h] at h2; injection h2 with h5 h6 h7; subst h5
          rw [hBB, hC] at a1; injection a1 with a1; injection a1 with b1 b2 b3; subst b1; subst b2; subst b3
          refine ⟨C', fz, by rw [hBB]; exact setRow_heap w e.B C C' el fz hC, by omega, a3, a4, a5, ?_, a7⟩
          refine ⟨by have := a6.1; simp only [List.length_take, List.length_drop, Array.length_toList] at this ⊢; omega, fun k v v' hv hv' => a6.2 k v v' hv ?_⟩
          simp only [List.getElem?_take, List.getElem?_drop] at hv' ⊢
          by_cases hk : k < ci.length
          · simp only [hk, if_true] at hv' ⊢
            rw [h4] at hv' ⊢
            rw [← hpre k (by omega)]
            exact hv'
          · simp [hk] at hv'
        · exact ⟨Ci, fzi, by rw [setRow_get w e.B e'.B C' hBB]; exact a1, a2, a3, a4, a5, a6, a7⟩
    map := fun i es k e' h hge => by
      by_cases hi : i = b
      · subst hi; rw [put_get_same] at h; cases h
      · rw [put_get_other _ _ hi] at h
        obtain ⟨es', a1, a2⟩ := K.map i es k e' h hge
        have hBB : e'.B ≠ e.B := by
          intro hBB
          obtain ⟨ci, eli, h2, _⟩ := hne i hi e' hge hBB (by rw [h]; simp)
          rw [h] at h2; cases h2
        exact ⟨es', by rw [setRow_get w e.B e'.B C' hBB]; exact a1, a2⟩
    sep := fun i j ei ej hei hej hBB hij hi hj => by
      by_cases h2 : i = b
      · subst h2
        rw [he] at hei; injection hei with hei; subst hei
        rw [put_get_same]
        rw [put_get_other _ _ (Ne.symm hij)] at hj ⊢
        obtain ⟨ci, eli, h3, _, h4⟩ := hne j (Ne.symm hij) ej hej hBB.symm hj
        exact ⟨c', el, ci, eli, ch, rfl, h3, h4.symm⟩
      · rw [put_get_other _ _ h2] at hi ⊢
        by_cases h3 : j = b
        · subst h3
          rw [he] at hej; injection hej with hej; subst hej
          rw [put_get_same]
          obtain ⟨ci, eli, h3, _, h4⟩ := hne i h2 ei hei hBB hi
          exact ⟨ci, eli, c', el, ch, h3, rfl, h4⟩
        · rw [put_get_other _ _ h3] at hj ⊢
          exact K.sep i j ei ej hei hej hBB hij hi hj }

theorem setRow_Fram {e : GEnt} {b : Nat} {C' : Array Value} (he : γ b = some e) (hnd : σ.get b ≠ .dead) : Fram σ γ w (w.setRow e.B C') :=
  ⟨by rw [setRow_size]; exact Nat.le_refl _, fun B _ hne => setRow_get w e.B B C' (fun h => hne b e he hnd h.symm)⟩

theorem splice_get {c : List Value} {off : Nat} {vs : List Value} (h : off + vs.length ≤ c.length) (k : Nat) :
    (splice c off vs)[k]? = if k < off then c[k]? else if k < off + vs.length then vs[k - off]? else c[k]? := by
  unfold splice
  simp only [List.getElem?_append, List.length_append, List.length_take, List.getElem?_take, List.getElem?_drop]
  by_cases h1 : k < off
  · simp [h1, show k < min off c.length + vs.length by omega, show k < min off c.length by omega]
  · by_cases h2 : k < off + vs.length
    · simp [h1, h2, show k < min off c.length + vs.length by omega, show ¬ (k < min off c.length) by omega, show min off c.length = off by omega]
    · simp [h1, h2, show ¬ (k < min off c.length + vs.length) by omega, show off + vs.length + (k - (min off c.length + vs.length)) = k by omega]

/-- A store. -/
theorem wr_sound (R : Rel P σ γ w) {a a' : Addr} (hA : AR σ γ a a') {vs vs' : List Value} (hL : LR σ.base γ vs vs') (h1 : ∀ v ∈ vs, v.oneC = true) {σ' : AHeap} (h : wr σ a vs = some σ') :
    ∃ w', (storeCells a' vs').run P w = .ok () w' ∧ Rel P σ' γ w' ∧ Fram σ γ w w' ∧ Grows σ σ' γ γ := by
  obtain ⟨hs, hs'⟩ := hA.spot
  unfold wr at h
  rw [if_neg (by simp [hs])] at h
  split at h
  · cases h
  · rename_i hb
    have hb := Nat.le_of_not_lt hb
    split at h
    · rename_i c el ch hget
      split at h
      · rename_i hlen
        injection h with h
        subst h
        obtain ⟨b, o, e, hge, rfl, rfl⟩ : ∃ b o e, γ b = some e ∧ a = ⟨b, o, none⟩ ∧ a' = ⟨e.B, o + e.s, none⟩ := by
          unfold AR at hA
          cases hA with
          | ptrOld _ hbb _ => exact absurd hbb (Nat.not_lt_of_le hb)
          | ptrNew b o e hbb he => exact ⟨b, o, e, he, rfl, rfl⟩
        obtain ⟨C, fz, hC, hsz, hE, hfit, hfz, hCL, hc1⟩ := R.cells _ _ _ _ _ hget hge
        simp only at hlen hget ⊢
        have hvl : vs'.length = vs.length := hL.1.symm
        have h1' : ∀ v ∈ vs', v.oneC = true := by
          intro v hv
          obtain ⟨j, hj⟩ := List.getElem?_of_mem hv
          have hjl : j < vs.length := by
            rcases Nat.lt_or_ge j vs.length with h | h
            · exact h
            · rw [List.getElem?_eq_none (by omega)] at hj; cases hj
          have := hL.2 j _ _ (List.getElem?_eq_getElem hjl) hj
          rw [this.oneCell]; exact h1 _ (List.getElem_mem hjl)
        have hfit' : o + e.s + vs'.length ≤ C.toList.length := by simp; omega
        have hrun := run_storeCells_at (P := P) e.B el fz e.N hfz vs' (o + e.s) 0 C w hC hsz (by simp at hfit'; omega) h1'
        rw [Nat.add_zero] at hrun
        refine ⟨_, hrun, R.write (p := o) hget hge hC (by simp only [List.size_toArray, splice_length hfit', Array.length_toList]) (splice_length hlen) ?_ ?_ ?_, setRow_Fram hge (by rw [hget]; simp), ?_⟩
        · intro k hk
          simp only
          rw [splice_get hfit', if_pos (by omega)]
        · refine ⟨by simp only [List.length_take, List.length_drop, splice_length hfit', splice_length hlen, Array.length_toList]; omega, fun k v v' hv hv' => ?_⟩
          rw [splice_get hlen] at hv
          simp only [List.getElem?_take, List.getElem?_drop, splice_length hlen] at hv'
          rw [splice_get hfit'] at hv'
          by_cases hk : k < c.length
          · simp only [hk, if_true] at hv'
            by_cases h2 : k < o
            · simp only [h2, if_true, show e.s + k < o + e.s by omega] at hv hv'
              refine hCL.2 k v v' hv ?_
              simp only [List.getElem?_take, List.getElem?_drop, hk, if_true]
              exact hv'
            · by_cases h3 : k < o + vs.length
              · simp only [h2, h3, if_true, if_false, show ¬ (e.s + k < o + e.s) by omega, show e.s + k < o + e.s + vs'.length by omega] at hv hv'
                rw [show e.s + k - (o + e.s) = k - o by omega] at hv'
                exact hL.2 _ v v' hv hv'
              · simp only [h2, h3, if_false, show ¬ (e.s + k < o + e.s) by omega, show ¬ (e.s + k < o + e.s + vs'.length) by omega] at hv hv'
                refine hCL.2 k v v' hv ?_
                simp only [List.getElem?_take, List.getElem?_drop, hk, if_true]
                exact hv'
          · simp [hk] at hv'
        · intro v hv
          unfold splice at hv
          simp only [List.mem_append] at hv
          rcases hv with (hv | hv) | hv
          · exact hc1 v (List.mem_of_mem_take hv)
          · exact h1 v hv
          · exact hc1 v (List.mem_of_mem_drop hv)
        · exact ⟨rfl, Nat.le_refl _, Gm.le_refl γ, fun _ _ h => .inl h, fun i hi hd => by
            have : i ≠ b := by intro h; subst h; rw [hget] at hd; cases hd
            rw [put_get_other _ _ this]; exact kill_dead hd⟩
      · cases h
    · cases h

end
end Go.Am
/- AmE -/
set_option linter.unusedVariables false
set_option linter.unusedSimpArgs false
namespace Go.Am

/-- The zero values of all types, and all constants, hold no address. -/
def ZeroOk (P : Program) : Prop := ∀ t i z, infoOf P t = some i → i.zero = some z → constOk z = true ∧ z.cells.size = i.size
theorem infoOf_info {P : Program} {t : TypeId} {i : TypeInfo} (h : infoOf P t = some i) : P.info? t = some i := by
  unfold infoOf at h; rw [Option.filter_eq_some_iff] at h; exact h.1
theorem zeroOk (P : Program) : ZeroOk P := by
  intro t i z hi hz
  unfold infoOf at hi; rw [Option.filter_eq_some_iff] at hi
  have h := hi.2
  rw [hz] at h
  simpa using h
theorem ZeroOk.const {P : Program} (h : ZeroOk P) {t : TypeId} {z : Value} (hz : zeroOf P t = some z) : constOk z = true := by
  unfold zeroOf at hz; rw [Option.bind_eq_some_iff] at hz; obtain ⟨i, hi, hzz⟩ := hz; exact (h t i z hi hzz).1
theorem ZeroOk.size {P : Program} (h : ZeroOk P) {t : TypeId} {z : Value} {n : Nat} (hz : zeroOf P t = some z) (hn : szOf P t = some n) : z.cells.size = n := by
  unfold zeroOf at hz; rw [Option.bind_eq_some_iff] at hz; obtain ⟨i, hi, hzz⟩ := hz
  unfold szOf at hn; rw [infoOf_info hi] at hn; injection hn with hn; rw [(h t i z hi hzz).2]; exact hn

section
variable {P : Program} {σ : AHeap} {γ : Gm} {w : World}

/-- What an operation comes to. -/
def OpOk (P : Program) (σ : AHeap) (γ : Gm) (w : World) (r : Value × AHeap) (S : Sem Value) : Prop :=
  ∃ γ' w' v', S.run P w = .ok v' w' ∧ VR σ.base γ' r.1 v' ∧ Rel P r.2 γ' w' ∧ Fram σ γ w w' ∧ Grows σ r.2 γ γ' ∧ NewB σ γ γ' w

theorem OpOk.pure (R : Rel P σ γ w) {v v' : Value} {S : Sem Value} (h : S.run P w = .ok v' w) (hv : VR σ.base γ v v') : OpOk P σ γ w (v, σ) S :=
  ⟨γ, w, v', h, hv, R, Fram.refl σ γ w, Grows.refl σ γ, NewB.refl σ γ w⟩

/-- The same of what makes nothing and changes nothing. -/
def OpPure (P : Program) (σ : AHeap) (γ : Gm) (w : World) (v : Value) (S : Sem Value) : Prop := ∃ v', S.run P w = .ok v' w ∧ VR σ.base γ v v'
theorem OpPure.intro (R : Rel P σ γ w) {v v' : Value} {S : Sem Value} (h : S.run P w = .ok v' w) (hv : VR σ.base γ v v') : OpPure P σ γ w v S := ⟨v', h, hv⟩
theorem OpPure.ok (R : Rel P σ γ w) {v : Value} {S : Sem Value} (h : OpPure P σ γ w v S) : OpOk P σ γ w (v, σ) S := let ⟨v', h1, h2⟩ := h; OpOk.pure R h1 h2

theorem szOf_some {t : TypeId} {n : Nat} (h : szOf P t = some n) : ∃ i, P.info? t = some i ∧ i.size = n := by
  unfold szOf at h; rw [Option.map_eq_some_iff] at h; exact h
theorem run_size {t : TypeId} {n : Nat} (h : szOf P t = some n) (w : World) : (sizeOf t).run P w = .ok n w := by
  obtain ⟨i, hi, rfl⟩ := szOf_some h
  simp [sizeOf, typeInfo, hi]
theorem zeroOf_some {t : TypeId} {z : Value} (h : zeroOf P t = some z) : ∃ i, P.info? t = some i ∧ i.zero = some z := by
  unfold zeroOf at h; rw [Option.bind_eq_some_iff] at h; obtain ⟨i, hi, hz⟩ := h; exact ⟨i, infoOf_info hi, hz⟩
theorem run_zero {t : TypeId} {z : Value} (h : zeroOf P t = some z) (w : World) : (zeroValue t).run P w = .ok z w := by
  obtain ⟨i, hi, hz⟩ := zeroOf_some h
  simp [zeroValue, typeInfo, hi, hz]
theorem run_info {t : TypeId} {i : TypeInfo} (h : P.info? t = some i) (w : World) : (typeInfo t).run P w = .ok i w := by
  simp [typeInfo, h]
theorem run_agg {t : TypeId} {b : Bool} (h : aggOf P t = some b) (w : World) : (isAgg t).run P w = .ok b w := by
  unfold aggOf at h
  cases hu : P.underlying t with
  | none => rw [hu] at h; cases h
  | some d => rw [hu] at h; cases d <;> simp at h <;> subst h <;> simp [isAgg, run_underlying hu]

theorem ptr_inv {a : Addr} {v : Value} {base : Nat} (h : VR base γ (.pointer (some a)) v) : ∃ a', v = .pointer (some a') := by
  cases h with
  | ptrOld _ h hs => exact ⟨_, rfl⟩
  | ptrNew b o e h he => exact ⟨_, rfl⟩

theorem run_sureAddr (a : Addr) (w : World) : (Instr.sureAddr (.pointer (some a))).run P w = .ok a w := rfl

theorem load_sound (R : Rel P σ γ w) {t : TypeId} {x x' v : Value} (hx : VR σ.base γ x x') (h : aLoad P σ t x = some v) : OpPure P σ γ w v (Instr.loadAt t x') := by
  unfold aLoad at h
  split at h
  · rename_i a
    obtain ⟨a', rfl⟩ := ptr_inv hx
    split at h
    · rename_i hag
      rw [Option.bind_eq_some_iff] at h
      obtain ⟨n, hn, h⟩ := h
      rw [Option.map_eq_some_iff] at h
      obtain ⟨cs, hcs, rfl⟩ := h
      obtain ⟨hl, h1, cs', hL, hc⟩ := rd_sound R hx hcs
      have hl' : cs'.length = n := by rw [← hL.1, hl]
      have hr := run_loadCells_list (P := P) w a' cs' hc
      rw [hl'] at hr
      refine OpPure.intro R (v' := .agg cs'.toArray) ?_ (VR.aggL hL h1)
      simp [Instr.loadAt, run_sureAddr, loadVar, run_agg hag, run_size hn, hr]
    · rename_i hag
      rw [Option.bind_eq_some_iff] at h
      obtain ⟨cs, hcs, h⟩ := h
      obtain ⟨hl, h1, cs', hL, hc⟩ := rd_sound R hx hcs
      cases cs with
      | nil => simp at h
      | cons u r =>
        simp at h; subst h
        obtain ⟨v', r', rfl, hv, _⟩ := hL.uncons
        have h0 := hc 0 v' (by simp)
        have hadd : a'.add 0 = a' := by unfold Addr.add; simp
        rw [hadd] at h0
        refine OpPure.intro R (v' := v') ?_ hv
        simp [Instr.loadAt, run_sureAddr, loadVar, run_agg hag, h0]
    · cases h
  · cases h

theorem store_sound (R : Rel P σ γ w) {t : TypeId} {x x' v v' : Value} (hx : VR σ.base γ x x') (hv : VR σ.base γ v v') {σ' : AHeap} (h : aStore P σ t x v = some σ') :
    ∃ w', (Instr.storeAt t x' v').run P w = .ok () w' ∧ Rel P σ' γ w' ∧ Fram σ γ w w' ∧ Grows σ σ' γ γ := by
  unfold aStore at h
  split at h
  · rename_i a
    obtain ⟨a', rfl⟩ := ptr_inv hx
    split at h
    · rename_i hc
      obtain ⟨hL, h1⟩ := hv.cells hc.1
      obtain ⟨w', hr, rest⟩ := wr_sound R hx hL h1 h
      have hs : v'.cells.size = v.cells.size := by have := hL.1; simpa using this.symm
      refine ⟨w', ?_, rest⟩
      simp [Instr.storeAt, run_sureAddr, storeVar, run_size hc.2, hs, hr]
    · cases h
  · cases h

theorem new_sound (R : Rel P σ γ w) {e : TypeId} {n : Nat} (he : szOf P e = some n) {v v' : Value} (hv : VR σ.base γ v v') {r : Value × AHeap} (h : aNew σ e v = some r) :
    ∃ γ' w' a, (newVar e v').run P w = .ok a w' ∧ VR σ.base γ' r.1 (.pointer (some a)) ∧ Rel P r.2 γ' w' ∧ Fram σ γ w w' ∧ Grows σ r.2 γ γ' ∧ NewB σ γ γ' w := by
  unfold aNew at h
  split at h
  · rename_i hn
    injection h with h; subst h
    obtain ⟨hL, h1⟩ := hv.cells hn
    refine ⟨γ.put σ.next ⟨w.heap.size, 0, v'.cells.size, n, Nat.zero_mod _⟩, w.alloc (.cells v'.cells e), ⟨w.heap.size, 0, none⟩, by simp [newVar, newRow], ?_, ?_, Fram.pushNew rfl, Grows.push R _ _, NewB.put (Nat.le_refl _)⟩
    · have := VR.ptrNew (base := σ.base) (γ := γ.put σ.next ⟨w.heap.size, 0, v'.cells.size, n, Nat.zero_mod _⟩) σ.next 0 ⟨w.heap.size, 0, v'.cells.size, n, Nat.zero_mod _⟩ R.next (Gm.put_same ..)
      simpa using this
    · refine R.pushNew rfl rfl rfl rfl he (Nat.le_refl _) (by have := hL.1; simp at this ⊢; omega) (fun o _ => by simp) ?_ h1
      have : v.cells.toList.length = v'.cells.toList.length := hL.1
      rw [this, List.take_length]
      exact hL
  · cases h

/-! ### Building values -/
theorem fold_zip (off : Nat) (a d : Array Value) : (a.zipIdx.foldl (fun cs (x : Value × Nat) => cs.setIfInBounds (off + x.2) x.1) d) =
    a.toList.zipIdx.foldl (fun cs (x : Value × Nat) => cs.setIfInBounds (off + x.2) x.1) d := by
  rw [← Array.foldl_toList, Array.toList_zipIdx]

theorem fill_sound {base : Nat} {place : Nat → Option (Nat × Nat)} : ∀ {parts parts' : List (Nat × Value)} {c c' : Array Value} {r : Array Value},
    parts.length = parts'.length → (∀ (i : Nat) p p', parts[i]? = some p → parts'[i]? = some p' → p'.1 = p.1 ∧ VR base γ p.2 p'.2) → (∀ p ∈ parts, noTuple p.2 = true) →
    LR base γ c.toList c'.toList → (∀ v ∈ c.toList, v.oneC = true) → Instr.fill place c parts = some r →
    ∃ r', Instr.fill place c' parts' = some r' ∧ LR base γ r.toList r'.toList ∧ ∀ v ∈ r.toList, v.oneC = true := by
  intro parts
  induction parts with
  | nil =>
    intro parts' c c' r hl hp hn hL h1 h
    cases parts' with
    | nil => simp [Instr.fill] at h ⊢; subst h; exact ⟨hL, by simpa using h1⟩
    | cons p r => simp at hl
  | cons p parts ih =>
    intro parts' c c' r hl hp hn hL h1 h
    cases parts' with
    | nil => simp at hl
    | cons p' parts' =>
      obtain ⟨i, v⟩ := p
      obtain ⟨i', v'⟩ := p'
      have h0 := hp 0 (i, v) (i', v') (by simp) (by simp)
      simp only at h0
      obtain ⟨rfl, hv⟩ := h0
      obtain ⟨hVL, hV1⟩ := hv.cells (hn (i', v) (by simp))
      simp only [Instr.fill] at h ⊢
      cases hpl : place i' with
      | none => rw [hpl] at h; cases h
      | some q =>
        obtain ⟨off, size⟩ := q
        rw [hpl] at h
        simp only at h ⊢
        have hsz : v'.cells.size = v.cells.size := by have := hVL.1; simpa using this.symm
        have hcs : c'.size = c.size := by have := hL.1; simpa using this.symm
        rw [hsz, hcs]
        split at h
        · cases h
        · rename_i hcond
          rw [if_neg hcond]
          refine ih (by simpa using hl) (fun j q q' hq hq' => hp (j + 1) q q' (by simpa using hq) (by simpa using hq')) (fun q hq => hn q (by simp [hq])) ?_ ?_ h
          · have key : ∀ (l l' : List Value) (k : Nat) (d d' : Array Value), LR base γ l l' → LR base γ d.toList d'.toList →
                LR base γ ((l.zipIdx k).foldl (fun cs (x : Value × Nat) => cs.setIfInBounds (off + x.2) x.1) d).toList ((l'.zipIdx k).foldl (fun cs (x : Value × Nat) => cs.setIfInBounds (off + x.2) x.1) d').toList := by
              intro l
              induction l with
              | nil => intro l' k d d' hl hd; cases l' with
                | nil => simpa using hd
                | cons x r => have := hl.1; simp at this
              | cons x l ihl =>
                intro l' k d d' hl hd
                obtain ⟨x', r', rfl, hx, hr⟩ := hl.uncons
                simp only [List.zipIdx_cons, List.foldl_cons]
                refine ihl r' (k + 1) _ _ hr ?_
                simp only [Array.toList_setIfInBounds]
                refine ⟨by simp [hd.1], fun j u u' hu hu' => ?_⟩
                rw [List.getElem?_set] at hu hu'
                by_cases hj : off + k = j
                · subst hj
                  rw [if_pos rfl] at hu hu'
                  split at hu
                  · split at hu'
                    · injection hu with hu; injection hu' with hu'; subst hu; subst hu'; exact hx
                    · cases hu'
                  · cases hu
                · rw [if_neg hj] at hu hu'
                  exact hd.2 j u u' hu hu'
            have := key v.cells.toList v'.cells.toList 0 c c' hVL hL
            rw [fold_zip, fold_zip]
            exact this
          · have key : ∀ (l : List Value) (k : Nat) (d : Array Value), (∀ v ∈ l, v.oneC = true) → (∀ v ∈ d.toList, v.oneC = true) →
                ∀ u ∈ ((l.zipIdx k).foldl (fun cs (x : Value × Nat) => cs.setIfInBounds (off + x.2) x.1) d).toList, u.oneC = true := by
              intro l
              induction l with
              | nil => intro k d _ hd; simpa using hd
              | cons x l ihl =>
                intro k d hl hd
                simp only [List.zipIdx_cons, List.foldl_cons]
                refine ihl (k + 1) _ (fun v hv => hl v (by simp [hv])) ?_
                intro u hu
                simp only [Array.toList_setIfInBounds] at hu
                rcases List.mem_or_eq_of_mem_set hu with h3 | h3
                · exact hd u h3
                · subst h3; exact hl u (by simp)
            rw [fold_zip]
            exact key v.cells.toList 0 c hV1 h1

/-- Parts of a value that is built. -/
def PR (base : Nat) (γ : Gm) (l l' : Array (Nat × Value)) : Prop :=
  l.size = l'.size ∧ ∀ (i : Nat) p p', l[i]? = some p → l'[i]? = some p' → p'.1 = p.1 ∧ VR base γ p.2 p'.2

theorem run_mapPlaces (fs : Array Field) {places : Array (Nat × Nat)} (h : aPlaces P fs = some places) (w : World) :
    (fs.mapM fun f => do pure (f.offset, ← sizeOf f.type) : Sem (Array (Nat × Nat))).run P w = .ok places w := by
  have h2 : (fs.toList.mapM fun f => (szOf P f.type).map fun n => (f.offset, n)) = some places.toList := by
    unfold aPlaces at h
    rw [Array.mapM_eq_mapM_toList] at h
    cases hx : (fs.toList.mapM fun f => (szOf P f.type).map fun n => (f.offset, n)) with
    | none => rw [hx] at h; simp at h
    | some l => rw [hx] at h; simp at h; rw [← h]
  rw [Array.mapM_eq_mapM_toList]
  have key : ∀ (l : List Field) (r : List (Nat × Nat)), (l.mapM fun f => (szOf P f.type).map fun n => (f.offset, n)) = some r →
      (l.mapM fun f => do pure (f.offset, ← sizeOf f.type) : Sem (List (Nat × Nat))).run P w = .ok r w := by
    intro l
    induction l with
    | nil => intro r hr; simp at hr; subst hr; simp
    | cons f l ih =>
      intro r hr
      simp only [List.mapM_cons, Option.bind_eq_bind, Option.pure_def] at hr
      rw [Option.bind_eq_some_iff] at hr
      obtain ⟨q, hq, hr⟩ := hr
      rw [Option.bind_eq_some_iff] at hr
      obtain ⟨s, hs, hr⟩ := hr
      injection hr with hr; subst hr
      rw [Option.map_eq_some_iff] at hq
      obtain ⟨n, hn, rfl⟩ := hq
      simp only [List.mapM_cons, Sem.run_bind, run_size hn, Result.andThen_ok, Sem.run_pure, ih s hs]
  simp only [Sem.run_map, key _ _ h2, Result.andThen_ok, Array.toArray_toList]

theorem build_sound (hz : ZeroOk P) (R : Rel P σ γ w) {t : TypeId} {ps ps' : Array (Nat × Value)} (hp : PR σ.base γ ps ps') {v : Value} (h : aBuild P t ps = some v) :
    OpPure P σ γ w v (Instr.build t ps') := by
  unfold aBuild at h
  split at h
  · rename_i hn
    rw [Option.bind_eq_some_iff] at h
    obtain ⟨z, hzz, h⟩ := h
    have hzc := hz.const hzz
    have hzL : LR σ.base γ z.cells.toList z.cells.toList := LR.ofConst (constOk_cells hzc)
    have hz1 : ∀ u ∈ z.cells.toList, u.oneC = true := fun u hu => by rw [oneC_eq]; have := constOk_cells hzc u hu; cases u <;> simp_all [constCell, Value.oneCell']
    have hn' : ∀ p ∈ ps.toList, noTuple p.2 = true := fun p hp => by
      rw [Array.all_eq_true_iff_forall_mem] at hn; exact hn p (by simpa using hp)
    have hpl : ps.toList.length = ps'.toList.length := by simpa using hp.1
    have hpp : ∀ (i : Nat) p p', ps.toList[i]? = some p → ps'.toList[i]? = some p' → p'.1 = p.1 ∧ VR σ.base γ p.2 p'.2 := fun i p p' a b => hp.2 i p p' (by simpa using a) (by simpa using b)
    split at h
    · rename_i fs hu
      rw [Option.bind_eq_some_iff] at h
      obtain ⟨places, hpc, h⟩ := h
      rw [Option.map_eq_some_iff] at h
      obtain ⟨r, hr, rfl⟩ := h
      obtain ⟨r', hr', hL, h1⟩ := fill_sound hpl hpp hn' hzL hz1 hr
      refine OpPure.intro R (v' := .agg r') ?_ (.agg _ _ (by simpa using hL.1) (fun i v hv => h1 v (List.mem_of_getElem? (by simpa using hv))) (fun i v v' a b => hL.2 i v v' (by simpa using a) (by simpa using b)))
      simp only [Instr.build, Sem.run_bind, run_zero hzz, Result.andThen_ok, run_underlying hu, run_mapPlaces fs hpc, hr']
      rfl
    · rename_i e hu
      rw [Option.bind_eq_some_iff] at h
      obtain ⟨n, hsn, h⟩ := h
      rw [Option.map_eq_some_iff] at h
      obtain ⟨r, hr, rfl⟩ := h
      obtain ⟨r', hr', hL, h1⟩ := fill_sound hpl hpp hn' hzL hz1 hr
      refine OpPure.intro R (v' := .agg r') ?_ (.agg _ _ (by simpa using hL.1) (fun i v hv => h1 v (List.mem_of_getElem? (by simpa using hv))) (fun i v v' a b => hL.2 i v v' (by simpa using a) (by simpa using b)))
      simp only [Instr.build, Sem.run_bind, run_zero hzz, Result.andThen_ok, run_underlying hu, run_size hsn, hr']
      rfl
    · cases h
  · cases h

end
end Go.Am
