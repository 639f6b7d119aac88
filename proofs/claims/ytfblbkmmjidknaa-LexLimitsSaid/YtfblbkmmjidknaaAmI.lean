/- The abstract machine: each operation does what the model's does. Fifth part: append, copy, conversions. -/
import Derived.Test.YtfblbkmmjidknaaAmH
set_option linter.unusedVariables false
set_option linter.unusedSimpArgs false
namespace Go.Am
section
variable {P : Program} {σ : AHeap} {γ : Gm} {w : World}

theorem cellsOfBytes_const (s : ByteArray) : ∀ u ∈ cellsOfBytes s, constCell u = true := by
  intro u hu
  simp only [cellsOfBytes, List.mem_map] at hu
  obtain ⟨b, _, rfl⟩ := hu
  rfl

theorem cell_heap {w0 : World} (h : w0.heap = w.heap) (a : Addr) : w0.cell? a = w.cell? a := by unfold World.cell?; rw [h]

theorem first_sound (R : Rel P σ γ w) {sz n : Nat} {x x' : Value} {cs : List Value} (hx : VR σ.base γ x x') (h : firstOf σ sz n x = some cs) :
    ∃ cs' : List Value, LR σ.base γ cs cs' ∧ (∀ v ∈ cs, v.oneC = true) ∧ ∀ w0 : World, w0.heap = w.heap → (Builtin.firstCells sz n x').run P w0 = .ok cs'.toArray w0 := by
  unfold firstOf at h
  split at h
  · injection h with h; subst h
    cases hx
    exact ⟨[], LR.nil, by simp, fun w0 _ => rfl⟩
  · rename_i a m c
    obtain ⟨a', m', c', rfl, har⟩ : ∃ a' m' c', x' = .slice (some a') m' c' ∧ ((n * sz = 0) ∨ m = 0 ∨ AR σ γ a a') := by
      cases hx with
      | slOld _ _ _ hbb hs hn => exact ⟨_, _, _, rfl, .inr (.inr (.ptrOld _ hbb hs))⟩
      | slNew b o _ _ c' e hbb hg hn hc hN => exact ⟨_, _, _, rfl, .inr (.inr (.ptrNew b o e hbb hg))⟩
      | slEmpty _ a' _ hs hs' => exact ⟨_, _, _, rfl, .inr (.inl rfl)⟩
    split at h
    · rename_i h0
      injection h with h; subst h
      refine ⟨[], LR.nil, by simp, fun w0 _ => ?_⟩
      simp only [Builtin.firstCells, h0, loadCells, loadCellsFrom, Sem.run_pure]
    · rename_i h0
      split at h
      · rename_i hnm
        rcases har with hz | hm | hA
        · exact absurd hz h0
        · exfalso; apply h0; rw [show n = 0 by omega]; simp
        · obtain ⟨hl, h1, cs', hL, hc⟩ := rd_sound R hA h
          refine ⟨cs', hL, h1, fun w0 hw => ?_⟩
          have hr := run_loadCells_list (P := P) w0 a' cs' (fun j v hv => by rw [cell_heap hw]; exact hc j v hv)
          have hl' : cs'.length = n * sz := by rw [← hL.1, hl]
          rw [hl'] at hr
          simp only [Builtin.firstCells, hr]
      · cases h
  · rename_i s
    obtain rfl := hx.eq_of_const rfl
    injection h with h; subst h
    refine ⟨_, LR.ofConst (cellsOfBytes_const _), fun v hv => ?_, fun w0 _ => ?_⟩
    · have := cellsOfBytes_const _ v hv; cases v <;> simp_all [constCell, Value.oneC]
    · simp only [Builtin.firstCells, Sem.run_pure]
      congr 1
      apply Array.ext'
      simp [cellsOfBytes]
  · cases h

theorem lenOf_sound {base : Nat} {x x' : Value} {n : Nat} (hx : VR base γ x x') (h : lenOfV x = some n) (w0 : World) : (Builtin.lenOf x').run P w0 = .ok n w0 := by
  unfold lenOfV at h
  split at h
  · injection h with h; subst h; cases hx <;> rfl
  · obtain rfl := hx.eq_of_const rfl; injection h with h; subst h; rfl
  · cases h

def growCap (w : World) (need old : Nat) (e : TypeId) : Nat := need + w.tape w.drawn (.appendCap need old e) % (2 ^ 63 - need)

theorem append_grow {st xt e : TypeId} {inf : TypeInfo} {z : Value} {d : TypeDesc} (ty : TypeId) (hst : P.underlying st = some (.slice e)) (hxt : P.underlying xt = some d) (hd : ∀ k, d ≠ .int k)
    (hI : infoOf P e = some inf) (hz : inf.zero = some z) {x' : Value} {base : Option Addr} {len cap n : Nat} (hn : ∀ w0 : World, (Builtin.lenOf x').run P w0 = .ok n w0) (hgt : cap < len + n)
    (hb : (len + n) * (inf.bytes + 1) ≤ 2 ^ 46) {old new : List Value}
    (ho : ∀ w0 : World, w0.heap = w.heap → (Builtin.firstCells inf.size len (.slice base len cap)).run P w0 = .ok old.toArray w0)
    (hw : ∀ w0 : World, w0.heap = w.heap → (Builtin.firstCells inf.size n x').run P w0 = .ok new.toArray w0) :
    (Builtin.append_ #[st, xt] ty #[.slice base len cap, x']).run P w = .ok (.slice (some ⟨w.heap.size, 0, none⟩) (len + n) (growCap w (len + n) cap e))
      (w.drew.alloc (.cells (old.toArray ++ new.toArray ++ Builtin.zeroCells z.cells (growCap w (len + n) cap e - (len + n))) e)) := by
  have hi := infoOf_info hI
  have hzero : (d matches .int _) = false := by
    cases d with
    | int k => exact absurd rfl (hd k)
    | _ => rfl
  have h1 : (len + n) * (inf.bytes + 1) = (len + n) * inf.bytes + (len + n) := by rw [Nat.mul_add]; omega
  have hle : (len + n) * inf.bytes ≤ 140737488355328 := by omega
  have hfit := growslice_fits hgt hle
  have hs : szOf P e = some inf.size := by simp [szOf, hi]
  have hzz : zeroOf P e = some z := by simp [zeroOf, hI, hz]
  have hmax : IntKind.i64.max = 9223372036854775807 := rfl
  simp only [Builtin.append_]
  simp only [List.getElem?_toArray, List.getElem?_cons_zero, List.getElem?_cons_succ, Sem.run_bind, run_underlying hst, Result.andThen_ok, run_size hs, run_underlying hxt, Sem.run_pure, hzero, Bool.false_eq_true, if_false, hn]
  rw [if_neg (by omega)]
  simp only [Sem.run_bind, run_info hi, Result.andThen_ok, Sem.run_pure, Bool.not_false, if_true]
  rw [if_neg (by rw [hmax]; omega)]
  simp only [Sem.run_bind, run_info hi, Result.andThen_ok]
  rw [if_neg (by omega)]
  have hch : (choose (.appendCap (len + n) cap e)).run P w = .ok (growCap w (len + n) cap e) w.drew := by
    rw [run_choose, if_neg (by simp [Question.forced])]
    rfl
  simp only [Sem.run_bind, hch, Result.andThen_ok, run_info hi, run_askRoom, ho w.drew rfl, hw w.drew rfl, run_zero hzz, newRow, run_newObj, Sem.run_pure, World.alloc_eq]
  rfl

theorem append_room {st xt e : TypeId} {inf : TypeInfo} {d : TypeDesc} (ty : TypeId) (hst : P.underlying st = some (.slice e)) (hxt : P.underlying xt = some d) (hd : ∀ k, d ≠ .int k)
    (hi : P.info? e = some inf) {x' : Value} {base : Option Addr} {len cap n : Nat} (hn : ∀ w0 : World, (Builtin.lenOf x').run P w0 = .ok n w0) (hle : len + n ≤ cap) {new : List Value} {w' : World}
    (hw : (Builtin.firstCells inf.size n x').run P w = .ok new.toArray w) (hst' : ∀ a, base = some a → (storeCells (a.add (len * inf.size)) new).run P w = .ok () w') (hnb : base = none → w' = w) :
    (Builtin.append_ #[st, xt] ty #[.slice base len cap, x']).run P w = .ok (.slice base (len + n) cap) w' := by
  have hzero : (d matches .int _) = false := by
    cases d with
    | int k => exact absurd rfl (hd k)
    | _ => rfl
  have hs : szOf P e = some inf.size := by simp [szOf, hi]
  simp only [Builtin.append_]
  simp only [List.getElem?_toArray, List.getElem?_cons_zero, List.getElem?_cons_succ, Sem.run_bind, run_underlying hst, Result.andThen_ok, run_size hs, run_underlying hxt, Sem.run_pure, hzero, Bool.false_eq_true, if_false, hn]
  rw [if_pos hle]
  simp only [Bool.not_false, if_true, Sem.run_bind, hw, Result.andThen_ok]
  cases base with
  | none => rw [hnb rfl]; rfl
  | some a => simp only [Sem.run_bind, hst' a rfl, Result.andThen_ok, Sem.run_pure]

/-- A longer version of a row, in the row's own block. -/
theorem Rel.appendIn (R : Rel P σ γ w) {b : Nat} {c cn : List Value} {el : TypeId} {ch chn : Nat} {e : GEnt} {C C' : Array Value} {fz : Nat × Nat} {lim sn : Nat}
    (hg : σ.get b = .cells c el ch) (he : γ b = some e) (hC : w.heap[e.B]? = some (.cells C el fz)) (hs : C'.size = C.size)
    (hpre : ∀ k, k < lim → C'.toList[e.s + k]? = C.toList[e.s + k]?) (hchn : (chn = ch ∧ sn = e.s) ∨ (chn = σ.next ∧ lim = 0)) (hfit : sn + cn.length ≤ e.N)
    (hL : LR σ.base γ cn ((C'.toList.drop sn).take cn.length)) (h1 : ∀ v ∈ cn, v.oneC = true) :
    Rel P ((σ.kill ch σ.next lim).push (.cells cn el chn)) (γ.put σ.next ⟨e.B, sn, e.N, e.E⟩) (w.setRow e.B C') := by
  have K := R.kill ch σ.next lim
  have hsz : (w.setRow e.B C').heap.size = w.heap.size := setRow_size w e.B C'
  have hB := R.dom b e he
  have hbn : σ.get b ≠ .dead := by rw [hg]; simp
  -- whatever is alive in this block is short, and of the chain
  have hne : ∀ i, ∀ e', γ i = some e' → e'.B = e.B → (σ.kill ch σ.next lim).get i ≠ .dead → ∃ ci eli, (σ.kill ch σ.next lim).get i = .cells ci eli ch ∧ ci.length ≤ lim ∧ lim ≠ 0 ∧ e'.s = e.s := by
    intro i e' hge hBB hnd
    have hi := kill_alive hnd
    have hin : i ≠ σ.next := by have := (R.dom i e' hge).2.1; omega
    by_cases hib : i = b
    · subst hib
      rw [he] at hge; injection hge with hge; subst hge
      have h3 : (σ.kill ch σ.next lim).get i = .cells c el ch := by rw [hi, hg]
      exact ⟨c, el, h3, (kill_short h3 hin).1, (kill_short h3 hin).2, rfl⟩
    · obtain ⟨ci, eli, cb, elb, chh, h2, h3, h4⟩ := R.sep i b e' e hge he hBB hib (by rw [← hi]; exact hnd) hbn
      rw [hg] at h3; injection h3 with _ _ h5; subst h5
      have h3 : (σ.kill ch σ.next lim).get i = .cells ci eli ch := by rw [hi, h2]
      exact ⟨ci, eli, h3, (kill_short h3 hin).1, (kill_short h3 hin).2, h4⟩
  have hnext : (σ.kill ch σ.next lim).next = σ.next := rfl
  have hnew : ((σ.kill ch σ.next lim).push (.cells cn el chn)).get σ.next = .cells cn el chn := push_get_new (σ.kill ch σ.next lim) _
  exact {
    os := R.os
    tape := R.tape
    out := R.out
    size := by rw [hsz]; exact R.size
    old := fun i hi => by
      rw [setRow_get w e.B i C' (by have := hB.2.2.1; have h2 : i < σ.base := hi; omega)]
      exact R.old i hi
    next := Nat.le_succ_of_le R.next
    fresh := fun i hi => by
      have : i ≠ σ.next := by simp [AHeap.push, AHeap.kill] at hi; omega
      rw [push_get_old _ _ (by rw [hnext]; exact this)]
      exact K.fresh i (by simp [AHeap.push, AHeap.kill] at hi ⊢; omega)
    chain := fun i ci eli chi h => by
      by_cases hi : i = σ.next
      · subst hi
        rw [hnew] at h
        injection h with _ _ h3; subst h3
        rcases hchn with ⟨rfl, _⟩ | ⟨rfl, _⟩
        · have := R.chain b c el chn hg; have := hB.2.1; simp [AHeap.kill]; omega
        · simp [AHeap.kill]
      · rw [push_get_old _ _ (by rw [hnext]; exact hi)] at h; exact K.chain i ci eli chi h
    dom := fun i e' h => by
      rw [hsz]
      by_cases hi : i = σ.next
      · subst hi; rw [Gm.put_same] at h; injection h with h; subst h
        exact ⟨R.next, by simp [AHeap.push, AHeap.kill], hB.2.2.1, hB.2.2.2⟩
      · rw [Gm.put_other _ _ hi] at h
        obtain ⟨a, b, c, d⟩ := R.dom i e' h
        exact ⟨a, by simp [AHeap.push, AHeap.kill]; omega, c, d⟩
    cells := fun i ci eli chi e' h hge => by
      obtain ⟨C0, fz0, a1, a2, a3, a4, a5, a6, a7⟩ := R.cells _ _ _ _ _ hg he
      rw [hC] at a1; injection a1 with a1; injection a1 with a1 a1e a1f; subst a1; subst a1f
      by_cases hi : i = σ.next
      · subst hi
        rw [hnew] at h
        injection h with h2 h3 h4; subst h2; subst h3
        rw [Gm.put_same] at hge; injection hge with hge; subst hge
        exact ⟨C', fz, setRow_heap w e.B C C' el fz hC, by simp only; omega, a3, hfit, a5, hL.mono (Gm.put_le R.next_none), h1⟩
      · rw [push_get_old _ _ (by rw [hnext]; exact hi)] at h
        rw [Gm.put_other _ _ hi] at hge
        obtain ⟨Ci, fzi, b1, b2, b3, b4, b5, b6, b7⟩ := K.cells i ci eli chi e' h hge
        have b6' := b6.mono (Gm.put_le (e := (⟨e.B, sn, e.N, e.E⟩ : GEnt)) R.next_none)
        by_cases hBB : e'.B = e.B
        · obtain ⟨ci', eli', h2, h3, h3', h4⟩ := hne i e' hge hBB (by rw [h]; simp)
          rw [h] at h2; injection h2 with h5 h6 h7; subst h5
          rw [hBB, hC] at b1; injection b1 with b1; injection b1 with c1 c2 c3; subst c1; subst c2; subst c3
          refine ⟨C', fz, by rw [hBB]; exact setRow_heap w e.B C C' el fz hC, by omega, b3, b4, b5, ?_, b7⟩
          refine ⟨by have := b6.1; simp only [List.length_take, List.length_drop, Array.length_toList] at this ⊢; omega, fun k v v' hv hv' => b6'.2 k v v' hv ?_⟩
          simp only [List.getElem?_take, List.getElem?_drop] at hv' ⊢
          by_cases hk : k < ci.length
          · simp only [hk, if_true] at hv' ⊢
            rw [h4] at hv' ⊢
            rw [← hpre k (by omega)]
            exact hv'
          · simp [hk] at hv'
        · exact ⟨Ci, fzi, by rw [setRow_get w e.B e'.B C' hBB]; exact b1, b2, b3, b4, b5, b6', b7⟩
    map := fun i es k e' h hge => by
      by_cases hi : i = σ.next
      · subst hi
        rw [hnew] at h
        cases h
      · rw [push_get_old _ _ (by rw [hnext]; exact hi)] at h
        rw [Gm.put_other _ _ hi] at hge
        obtain ⟨es', a1, a2⟩ := K.map i es k e' h hge
        have hBB : e'.B ≠ e.B := by
          intro hBB
          obtain ⟨ci, eli, h2, _⟩ := hne i e' hge hBB (by rw [h]; simp)
          rw [h] at h2; cases h2
        exact ⟨es', by rw [setRow_get w e.B e'.B C' hBB]; exact a1, a2.mono (Gm.put_le R.next_none)⟩
    sep := fun i j ei ej hei hej hBB hij hi hj => by
      have new : ∀ j ej, j ≠ σ.next → γ j = some ej → ej.B = e.B → (σ.kill ch σ.next lim).get j ≠ .dead → ∃ cj elj, (σ.kill ch σ.next lim).get j = .cells cj elj chn ∧ ej.s = sn := by
        intro j ej hj hej hBB hnd
        obtain ⟨cj, elj, h3, h5, h6, h4⟩ := hne j ej hej hBB hnd
        rcases hchn with ⟨rfl, rfl⟩ | ⟨_, h7⟩
        · exact ⟨cj, elj, h3, h4⟩
        · exact absurd h7 h6
      by_cases h2 : i = σ.next
      · subst h2
        rw [Gm.put_same] at hei; injection hei with hei; subst hei
        rw [Gm.put_other _ _ (Ne.symm hij)] at hej
        have hold : ((σ.kill ch σ.next lim).push (.cells cn el chn)).get j = (σ.kill ch σ.next lim).get j := push_get_old _ _ (by rw [hnext]; exact Ne.symm hij)
        rw [hold] at hj
        obtain ⟨cj, elj, h3, h4⟩ := new j ej (Ne.symm hij) hej hBB.symm hj
        exact ⟨cn, el, cj, elj, chn, hnew, hold.trans h3, h4.symm⟩
      · rw [Gm.put_other _ _ h2] at hei
        rw [push_get_old _ _ (by rw [hnext]; exact h2)] at hi ⊢
        by_cases h3 : j = σ.next
        · subst h3
          rw [Gm.put_same] at hej; injection hej with hej; subst hej
          obtain ⟨cj, elj, h3, h4⟩ := new i ei h2 hei hBB hi
          exact ⟨cj, elj, cn, el, chn, h3, push_get_new (σ.kill ch σ.next lim) _, h4⟩
        · rw [Gm.put_other _ _ h3] at hej
          rw [push_get_old _ _ (by rw [hnext]; exact h3)] at hj ⊢
          exact K.sep i j ei ej hei hej hBB hij hi hj }

end
end Go.Am
