/- AmI -/
import Derived.Test.YtpionejhjfmobaaDoorAmF
set_option linter.unusedVariables false
set_option linter.unusedSimpArgs false
namespace Go.Am
section
variable {P : Program} {σ : AHeap} {γ : Gm} {w : World}

theorem cellsOfBytes_const (s : ByteArray) : ∀ u ∈ cellsOfBytes s, constCell u = true := by
  intro u hu
  simp only [cellsOfBytes, List.mem_map] at hu
  obtain ⟨b, _, rfl⟩ := hu
  rfl

theorem cell_heap {w0 : World} (h : w0.heap = w.heap) (a : Addr) : w0.cell? a = w.cell? a := by unfold World.cell?; rw [h]

theorem first_sound (R : Rel P σ γ w) {sz n : Nat} {x x' : Value} {cs : List Value} (hx : VR σ.base γ x x') (h : firstOf σ sz n x = some cs) :
    ∃ cs' : List Value, LR σ.base γ cs cs' ∧ (∀ v ∈ cs, v.oneC = true) ∧ ∀ w0 : World, w0.heap = w.heap → (Builtin.firstCells sz n x').run P w0 = .ok cs'.toArray w0 := by
  unfold firstOf at h
  split at h
  · injection h with h; subst h
    cases hx
    exact ⟨[], LR.nil, by simp, fun w0 _ => rfl⟩
  · rename_i a m c
    obtain ⟨a', m', c', rfl, har⟩ : ∃ a' m' c', x' = .slice (some a') m' c' ∧ ((n * sz = 0) ∨ m = 0 ∨ AR σ γ a a') := by
      cases hx with
      | slOld _ _ _ hbb hs hn => exact ⟨_, _, _, rfl, .inr (.inr (.ptrOld _ hbb hs))⟩
      | slNew b o _ _ c' e hbb hg hn hc hN => exact ⟨_, _, _, rfl, .inr (.inr (.ptrNew b o e hbb hg))⟩
      | slEmpty _ a' _ hs hs' => exact ⟨_, _, _, rfl, .inr (.inl rfl)⟩
    split at h
    · rename_i h0
      injection h with h; subst h
      refine ⟨[], LR.nil, by simp, fun w0 _ => ?_⟩
      simp only [Builtin.firstCells, h0, loadCells, loadCellsFrom, Sem.run_pure]
    · rename_i h0
      split at h
      · rename_i hnm
        rcases har with hz | hm | hA
        · exact absurd hz h0
        · exfalso; apply h0; rw [show n = 0 by omega]; simp
        · obtain ⟨hl, h1, cs', hL, hc⟩ := rd_sound R hA h
          refine ⟨cs', hL, h1, fun w0 hw => ?_⟩
          have hr := run_loadCells_list (P := P) w0 a' cs' (fun j v hv => by rw [cell_heap hw]; exact hc j v hv)
          have hl' : cs'.length = n * sz := by rw [← hL.1, hl]
          rw [hl'] at hr
          simp only [Builtin.firstCells, hr]
      · cases h
  · rename_i s
    obtain rfl := hx.eq_of_const rfl
    injection h with h; subst h
    refine ⟨_, LR.ofConst (cellsOfBytes_const _), fun v hv => ?_, fun w0 _ => ?_⟩
    · have := cellsOfBytes_const _ v hv; cases v <;> simp_all [constCell, Value.oneC]
    · simp only [Builtin.firstCells, Sem.run_pure]
      congr 1
      apply Array.ext'
      simp [cellsOfBytes]
  · cases h

theorem lenOf_sound {base : Nat} {x x' : Value} {n : Nat} (hx : VR base γ x x') (h : lenOfV x = some n) (w0 : World) : (Builtin.lenOf x').run P w0 = .ok n w0 := by
  unfold lenOfV at h
  split at h
  · injection h with h; subst h; cases hx <;> rfl
  · obtain rfl := hx.eq_of_const rfl; injection h with h; subst h; rfl
  · cases h

def growCap (w : World) (need old : Nat) (e : TypeId) : Nat := need + w.tape w.drawn (.appendCap need old e) % (2 ^ 63 - need)

theorem append_grow {st xt e : TypeId} {inf : TypeInfo} {z : Value} {d : TypeDesc} (ty : TypeId) (hst : P.underlying st = some (.slice e)) (hxt : P.underlying xt = some d) (hd : ∀ k, d ≠ .int k)
    (hI : infoOf P e = some inf) (hz : inf.zero = some z) {x' : Value} {base : Option Addr} {len cap n : Nat} (hn : ∀ w0 : World, (Builtin.lenOf x').run P w0 = .ok n w0) (hgt : cap < len + n)
    (hb : (len + n) * (inf.bytes + 1) ≤ 2 ^ 46) {old new : List Value}
    (ho : ∀ w0 : World, w0.heap = w.heap → (Builtin.firstCells inf.size len (.slice base len cap)).run P w0 = .ok old.toArray w0)
    (hw : ∀ w0 : World, w0.heap = w.heap → (Builtin.firstCells inf.size n x').run P w0 = .ok new.toArray w0) :
    (Builtin.append_ #[st, xt] ty #[.slice base len cap, x']).run P w = .ok (.slice (some ⟨w.heap.size, 0, none⟩) (len + n) (growCap w (len + n) cap e))
      (w.drew.alloc (.cells (old.toArray ++ new.toArray ++ Builtin.zeroCells z.cells (growCap w (len + n) cap e - (len + n))) e)) := by
  have hi := infoOf_info hI
  have hzero : (d matches .int _) = false := by
    cases d with
    | int k => exact absurd rfl (hd k)
    | _ => rfl
  have h1 : (len + n) * (inf.bytes + 1) = (len + n) * inf.bytes + (len + n) := by rw [Nat.mul_add]; omega
  have hle : (len + n) * inf.bytes ≤ 140737488355328 := by omega
  have hfit := growslice_fits hgt hle
  have hs : szOf P e = some inf.size := by simp [szOf, hi]
  have hzz : zeroOf P e = some z := by simp [zeroOf, hI, hz]
  have hmax : IntKind.i64.max = 9223372036854775807 := rfl
  simp only [Builtin.append_]
  simp only [List.getElem?_toArray, List.getElem?_cons_zero, List.getElem?_cons_succ, Sem.run_bind, run_underlying hst, Result.andThen_ok, run_size hs, run_underlying hxt, Sem.run_pure, hzero, Bool.false_eq_true, if_false, hn]
  rw [if_neg (by omega)]
  simp only [Sem.run_bind, run_info hi, Result.andThen_ok, Sem.run_pure, Bool.not_false, if_true]
  rw [if_neg (by rw [hmax]; omega)]
  simp only [Sem.run_bind, run_info hi, Result.andThen_ok]
  rw [if_neg (by omega)]
  have hch : (choose (.appendCap (len + n) cap e)).run P w = .ok (growCap w (len + n) cap e) w.drew := by
    rw [run_choose, if_neg (by simp [Question.forced])]
    rfl
  simp only [Sem.run_bind, hch, Result.andThen_ok, run_info hi, run_askRoom, ho w.drew rfl, hw w.drew rfl, run_zero hzz, newRow, run_newObj, Sem.run_pure, World.alloc_eq]
  rfl

theorem append_room {st xt e : TypeId} {inf : TypeInfo} {d : TypeDesc} (ty : TypeId) (hst : P.underlying st = some (.slice e)) (hxt : P.underlying xt = some d) (hd : ∀ k, d ≠ .int k)
    (hi : P.info? e = some inf) {x' : Value} {base : Option Addr} {len cap n : Nat} (hn : ∀ w0 : World, (Builtin.lenOf x').run P w0 = .ok n w0) (hle : len + n ≤ cap) {new : List Value} {w' : World}
    (hw : (Builtin.firstCells inf.size n x').run P w = .ok new.toArray w) (hst' : ∀ a, base = some a → (storeCells (a.add (len * inf.size)) new).run P w = .ok () w') (hnb : base = none → w' = w) :
    (Builtin.append_ #[st, xt] ty #[.slice base len cap, x']).run P w = .ok (.slice base (len + n) cap) w' := by
  have hzero : (d matches .int _) = false := by
    cases d with
    | int k => exact absurd rfl (hd k)
    | _ => rfl
  have hs : szOf P e = some inf.size := by simp [szOf, hi]
  simp only [Builtin.append_]
  simp only [List.getElem?_toArray, List.getElem?_cons_zero, List.getElem?_cons_succ, Sem.run_bind, run_underlying hst, Result.andThen_ok, run_size hs, run_underlying hxt, Sem.run_pure, hzero, Bool.false_eq_true, if_false, hn]
  rw [if_pos hle]
  simp only [Bool.not_false, if_true, Sem.run_bind, hw, Result.andThen_ok]
  cases base with
  | none => rw [hnb rfl]; rfl
  | some a => simp only [Sem.run_bind, hst' a rfl, Result.andThen_ok, Sem.run_pure]

/-- A longer version of a row, in the row's own block. -/
theorem Rel.appendIn (R : Rel P σ γ w) {b : Nat} {c cn : List Value} {el : TypeId} {ch chn : Nat} {e : GEnt} {C C' : Array Value} {fz : Nat × Nat} {lim sn : Nat} (hal : sn % e.E = 0)
    (hg : σ.get b = .cells c el ch) (he : γ b = some e) (hC : w.heap[e.B]? = some (.cells C el fz)) (hs : C'.size = C.size)
    (hpre : ∀ k, k < lim → C'.toList[e.s + k]? = C.toList[e.s + k]?) (hchn : (chn = ch ∧ sn = e.s) ∨ (chn = σ.next ∧ lim = 0)) (hfit : sn + cn.length ≤ e.N)
    (hL : LR σ.base γ cn ((C'.toList.drop sn).take cn.length)) (h1 : ∀ v ∈ cn, v.oneC = true) :
    Rel P ((σ.kill ch σ.next lim).push (.cells cn el chn)) (γ.put σ.next ⟨e.B, sn, e.N, e.E, hal⟩) (w.setRow e.B C') := by
  have K := R.kill ch σ.next lim
  have hsz : (w.setRow e.B C').heap.size = w.heap.size := setRow_size w e.B C'
  have hB := R.dom b e he
  have hbn : σ.get b ≠ .dead := by rw [hg]; simp
  -- whatever is alive in this block is short, and of the chain
  have hne : ∀ i, ∀ e', γ i = some e' → e'.B = e.B → (σ.kill ch σ.next lim).get i ≠ .dead → ∃ ci eli, (σ.kill ch σ.next lim).get i = .cells ci eli ch ∧ ci.length ≤ lim ∧ lim ≠ 0 ∧ e'.s = e.s := by
    intro i e' hge hBB hnd
    have hi := kill_alive hnd
    have hin : i ≠ σ.next := by have := (R.dom i e' hge).2.1; omega
    by_cases hib : i = b
    · subst hib
      rw [he] at hge; injection hge with hge; subst hge
      have h3 : (σ.kill ch σ.next lim).get i = .cells c el ch := by rw [hi, hg]
      exact ⟨c, el, h3, (kill_short h3 hin).1, (kill_short h3 hin).2, rfl⟩
    · obtain ⟨ci, eli, cb, elb, chh, h2, h3, h4⟩ := R.sep i b e' e hge he hBB hib (by rw [← hi]; exact hnd) hbn
      rw [hg] at h3; injection h3 with _ _ h5; subst h5
      have h3 : (σ.kill ch σ.next lim).get i = .cells ci eli ch := by rw [hi, h2]
      exact ⟨ci, eli, h3, (kill_short h3 hin).1, (kill_short h3 hin).2, h4⟩
  have hnext : (σ.kill ch σ.next lim).next = σ.next := rfl
  have hnew : ((σ.kill ch σ.next lim).push (.cells cn el chn)).get σ.next = .cells cn el chn := push_get_new (σ.kill ch σ.next lim) _
  exact {
    os := R.os
    tape := R.tape
    out := R.out
    size := by rw [hsz]; exact R.size
    old := fun i hi => by
      rw [setRow_get w e.B i C' (by have := hB.2.2.1; have h2 : i < σ.base := hi; omega)]
      exact R.old i hi
    next := Nat.le_succ_of_le R.next
    fresh := fun i hi => by
      have : i ≠ σ.next := by simp [AHeap.push, AHeap.kill] at hi; omega
      rw [push_get_old _ _ (by rw [hnext]; exact this)]
      exact K.fresh i (by simp [AHeap.push, AHeap.kill] at hi ⊢; omega)
    chain := fun i ci eli chi h => by
      by_cases hi : i = σ.next
      · subst hi
        rw [hnew] at h
        injection h with _ _ h3; subst h3
        rcases hchn with ⟨rfl, _⟩ | ⟨rfl, _⟩
        · have := R.chain b c el chn hg; have := hB.2.1; simp [AHeap.kill]; omega
        · simp [AHeap.kill]
      · rw [push_get_old _ _ (by rw [hnext]; exact hi)] at h; exact K.chain i ci eli chi h
    dom := fun i e' h => by
      rw [hsz]
      by_cases hi : i = σ.next
      · subst hi; rw [Gm.put_same] at h; injection h with h; subst h
        exact ⟨R.next, by simp [AHeap.push, AHeap.kill], hB.2.2.1, hB.2.2.2⟩
      · rw [Gm.put_other _ _ hi] at h
        obtain ⟨a, b, c, d⟩ := R.dom i e' h
        exact ⟨a, by simp [AHeap.push, AHeap.kill]; omega, c, d⟩
    cells := fun i ci eli chi e' h hge => by
      obtain ⟨C0, fz0, a1, a2, a3, a4, a5, a6, a7⟩ := R.cells _ _ _ _ _ hg he
      rw [hC] at a1; injection a1 with a1; injection a1 with a1 a1e a1f; subst a1; subst a1f
      by_cases hi : i = σ.next
      · subst hi
        rw [hnew] at h
        injection h with h2 h3 h4; subst h2; subst h3
        rw [Gm.put_same] at hge; injection hge with hge; subst hge
        exact ⟨C', fz, setRow_heap w e.B C C' el fz hC, by simp only; omega, a3, hfit, a5, hL.mono (Gm.put_le R.next_none), h1⟩
      · rw [push_get_old _ _ (by rw [hnext]; exact hi)] at h
        rw [Gm.put_other _ _ hi] at hge
        obtain ⟨Ci, fzi, b1, b2, b3, b4, b5, b6, b7⟩ := K.cells i ci eli chi e' h hge
        have b6' := b6.mono (Gm.put_le (e := (⟨e.B, sn, e.N, e.E, hal⟩ : GEnt)) R.next_none)
        by_cases hBB : e'.B = e.B
        · obtain ⟨ci', eli', h2, h3, h3', h4⟩ := hne i e' hge hBB (by rw [h]; simp)
          rw [h] at h2; injection h2 with h5 h6 h7; subst h5
          rw [hBB, hC] at b1; injection b1 with b1; injection b1 with c1 c2 c3; subst c1; subst c2; subst c3
          refine ⟨C', fz, by rw [hBB]; exact setRow_heap w e.B C C' el fz hC, by omega, b3, b4, b5, ?_, b7⟩
          refine ⟨by have := b6.1; simp only [List.length_take, List.length_drop, Array.length_toList] at this ⊢; omega, fun k v v' hv hv' => b6'.2 k v v' hv ?_⟩
          simp only [List.getElem?_take, List.getElem?_drop] at hv' ⊢
          by_cases hk : k < ci.length
          · simp only [hk, if_true] at hv' ⊢
            rw [h4] at hv' ⊢
            rw [← hpre k (by omega)]
            exact hv'
          · simp [hk] at hv'
        · exact ⟨Ci, fzi, by rw [setRow_get w e.B e'.B C' hBB]; exact b1, b2, b3, b4, b5, b6', b7⟩
    map := fun i es k e' h hge => by
      by_cases hi : i = σ.next
      · subst hi
        rw [hnew] at h
        cases h
      · rw [push_get_old _ _ (by rw [hnext]; exact hi)] at h
        rw [Gm.put_other _ _ hi] at hge
        obtain ⟨es', a1, a2⟩ := K.map i es k e' h hge
        have hBB : e'.B ≠ e.B := by
          intro hBB
          obtain ⟨ci, eli, h2, _⟩ := hne i e' hge hBB (by rw [h]; simp)
          rw [h] at h2; cases h2
        exact ⟨es', by rw [setRow_get w e.B e'.B C' hBB]; exact a1, a2.mono (Gm.put_le R.next_none)⟩
    sep := fun i j ei ej hei hej hBB hij hi hj => by
      have new : ∀ j ej, j ≠ σ.next → γ j = some ej → ej.B = e.B → (σ.kill ch σ.next lim).get j ≠ .dead → ∃ cj elj, (σ.kill ch σ.next lim).get j = .cells cj elj chn ∧ ej.s = sn := by
        intro j ej hj hej hBB hnd
        obtain ⟨cj, elj, h3, h5, h6, h4⟩ := hne j ej hej hBB hnd
        rcases hchn with ⟨rfl, rfl⟩ | ⟨_, h7⟩
        · exact ⟨cj, elj, h3, h4⟩
        · exact absurd h7 h6
      by_cases h2 : i = σ.next
      · subst h2
        rw [Gm.put_same] at hei; injection hei with hei; subst hei
        rw [Gm.put_other _ _ (Ne.symm hij)] at hej
        have hold : ((σ.kill ch σ.next lim).push (.cells cn el chn)).get j = (σ.kill ch σ.next lim).get j := push_get_old _ _ (by rw [hnext]; exact Ne.symm hij)
        rw [hold] at hj
        obtain ⟨cj, elj, h3, h4⟩ := new j ej (Ne.symm hij) hej hBB.symm hj
        exact ⟨cn, el, cj, elj, chn, hnew, hold.trans h3, h4.symm⟩
      · rw [Gm.put_other _ _ h2] at hei
        rw [push_get_old _ _ (by rw [hnext]; exact h2)] at hi ⊢
        by_cases h3 : j = σ.next
        · subst h3
          rw [Gm.put_same] at hej; injection hej with hej; subst hej
          obtain ⟨cj, elj, h3, h4⟩ := new i ei h2 hei hBB hi
          exact ⟨cj, elj, cn, el, chn, h3, push_get_new (σ.kill ch σ.next lim) _, h4⟩
        · rw [Gm.put_other _ _ h3] at hej
          rw [push_get_old _ _ (by rw [hnext]; exact h3)] at hj ⊢
          exact K.sep i j ei ej hei hej hBB hij hi hj }

end
end Go.Am
/- AmJ -/
set_option linter.unusedVariables false
set_option linter.unusedSimpArgs false
namespace Go.Am
section
variable {P : Program} {σ σ1 : AHeap} {γ : Gm} {w : World}

theorem LR.oneC {base : Nat} {l l' : List Value} (h : LR base γ l l') (h1 : ∀ v ∈ l, v.oneC = true) : ∀ v ∈ l', v.oneC = true := by
  intro v hv
  obtain ⟨j, hj⟩ := List.getElem?_of_mem hv
  have hjl : j < l.length := by
    rcases Nat.lt_or_ge j l.length with h' | h'
    · exact h'
    · rw [List.getElem?_eq_none (by have := h.1; omega)] at hj; cases hj
  have := h.2 j _ _ (List.getElem?_eq_getElem hjl) hj
  rw [this.oneCell]; exact h1 _ (List.getElem_mem hjl)

theorem zeroCells_size (z : Array Value) (n : Nat) : (Builtin.zeroCells z n).size = n * z.size := size_zeroCells z n

/-- An append that makes a new block. -/
theorem realloc_sound (hz : ZeroOk P) (R : Rel P σ1 γ w) {st xt e : TypeId} {inf : TypeInfo} {z : Value} {d : TypeDesc} {ty : TypeId} (hst : P.underlying st = some (.slice e)) (hxt : P.underlying xt = some d) (hd : ∀ k, d ≠ .int k)
    (hI : infoOf P e = some inf) (hzz : inf.zero = some z) {x' : Value} {base : Option Addr} {len cap n ch : Nat} (hn : ∀ w0 : World, (Builtin.lenOf x').run P w0 = .ok n w0) (hgt : cap < len + n)
    (hb : (len + n) * (inf.bytes + 1) ≤ 2 ^ 46) {old new old' new' : List Value} (hlo : old.length = len * inf.size) (hln : new.length = n * inf.size)
    (ho : ∀ w0 : World, w0.heap = w.heap → (Builtin.firstCells inf.size len (.slice base len cap)).run P w0 = .ok old'.toArray w0)
    (hw : ∀ w0 : World, w0.heap = w.heap → (Builtin.firstCells inf.size n x').run P w0 = .ok new'.toArray w0)
    (hLo : LR σ1.base γ old old') (hLn : LR σ1.base γ new new') (h1o : ∀ v ∈ old, v.oneC = true) (h1n : ∀ v ∈ new, v.oneC = true) (hch : ch ≤ σ1.next) :
    ∃ γ' w' v', (Builtin.append_ #[st, xt] ty #[.slice base len cap, x']).run P w = .ok v' w' ∧ VR σ1.base γ' (.slice (some ⟨σ1.next, 0, none⟩) (len + n) (len + n + 1)) v' ∧
      Rel P (σ1.push (.cells (old ++ new) e ch)) γ' w' ∧ Fram σ1 γ w w' ∧ Grows σ1 (σ1.push (.cells (old ++ new) e ch)) γ γ' ∧ NewB σ1 γ γ' w := by
  have hrun := append_grow ty hst hxt hd hI hzz hn hgt hb ho hw
  obtain ⟨hzc, hzs⟩ := hz e inf z hI hzz
  have hi := infoOf_info hI
  have hE : szOf P e = some inf.size := by simp [szOf, hi]
  have hcap : len + n ≤ growCap w (len + n) cap e := by unfold growCap; omega
  generalize hC : growCap w (len + n) cap e = nc at *
  have hsize : (old'.toArray ++ new'.toArray ++ Builtin.zeroCells z.cells (nc - (len + n))).size = nc * inf.size := by
    have h1 := hLo.1; have h2 := hLn.1
    simp only [Array.size_append, List.size_toArray, zeroCells_size, hzs]
    rw [← h1, ← h2, hlo, hln, ← Nat.add_mul, ← Nat.add_mul]
    congr 1; omega
  have hLen : (old ++ new).length = (old' ++ new').length := by simp [hLo.1, hLn.1]
  obtain ⟨γ', R', F, G, N, hg⟩ := newRow_sound R (E := inf.size) hE (c := old ++ new) (C := old'.toArray ++ new'.toArray ++ Builtin.zeroCells z.cells (nc - (len + n))) (ch := ch) hch
    (by rw [hLen]; simp) (by
      rw [hLen]
      have : (old'.toArray ++ new'.toArray ++ Builtin.zeroCells z.cells (nc - (len + n))).toList = (old' ++ new') ++ (Builtin.zeroCells z.cells (nc - (len + n))).toList := by simp
      rw [this, List.take_left]
      exact hLo.append hLn) (by intro v hv; rw [List.mem_append] at hv; rcases hv with hv | hv; exact h1o v hv; exact h1n v hv) (w0 := w.drew) rfl rfl rfl rfl
  refine ⟨γ', _, _, hrun, ?_, R', F, G, N⟩
  have := VR.slNew (base := σ1.base) (γ := γ') σ1.next 0 (len + n) (len + n + 1) nc _ R.next hg hcap (fun h => by omega) (by simp only [Nat.zero_add]; omega)
  simpa using this

theorem Fram.ofKill {ch keep lim : Nat} {w' : World} (h : Fram (σ.kill ch keep lim) γ w w') : Fram σ γ w w' :=
  ⟨h.size, fun B hB hne => h.same B hB (fun i e he hnd => hne i e he (by rw [kill_alive hnd] at hnd; exact hnd))⟩
theorem NewB.ofKill {ch keep lim : Nat} {γ' : Gm} (h : NewB (σ.kill ch keep lim) γ γ' w) : NewB σ γ γ' w := fun i e he hn => by
  rcases h i e he hn with h | ⟨j, ej, hj, hjd, hje⟩
  · exact .inl h
  · exact .inr ⟨j, ej, hj, by rw [kill_alive hjd] at hjd; exact hjd, hje⟩

set_option maxHeartbeats 4000000 in
theorem append_sound (hz : ZeroOk P) (R : Rel P σ γ w) {st xt : TypeId} {ty : TypeId} {s s' x x' : Value} (hs : VR σ.base γ s s') (hx : VR σ.base γ x x') {r : Value × AHeap} (h : aAppend P σ st xt s x = some r) :
    OpOk P σ γ w r (Builtin.append_ #[st, xt] ty #[s', x']) := by
  unfold aAppend at h
  split at h
  · cases h
  · rename_i e d base len cap hni hst hxt
    have hd : ∀ k, d ≠ .int k := fun k hk => hni k hk
    rw [Option.bind_eq_some_iff] at h
    obtain ⟨inf, hi, h⟩ := h
    rw [Option.bind_eq_some_iff] at h
    have hI := hi
    replace hi := infoOf_info hi
    obtain ⟨z, hzz, h⟩ := h
    rw [Option.bind_eq_some_iff] at h
    obtain ⟨n, hn, h⟩ := h
    rw [Option.bind_eq_some_iff] at h
    obtain ⟨new, hnew, h⟩ := h
    rw [Option.bind_eq_some_iff] at h
    obtain ⟨old, hold, h⟩ := h
    have hnr : ∀ w0 : World, (Builtin.lenOf x').run P w0 = .ok n w0 := fun w0 => lenOf_sound hx hn w0
    obtain ⟨new', hLn, h1n, hrn⟩ := first_sound R hx hnew
    obtain ⟨old', hLo, h1o, hro⟩ := first_sound R hs hold
    obtain ⟨base', cap', rfl⟩ : ∃ base' cap', s' = .slice base' len cap' := by cases hs <;> exact ⟨_, _, rfl⟩
    split at h
    · -- nothing to append
      rename_i hn0
      subst hn0
      injection h with h; subst h
      have hnil : new' = [] := by
        have hl : new.length = 0 := by
          unfold firstOf at hnew
          split at hnew
          · injection hnew with hnew; subst hnew; rfl
          · simp at hnew; subst hnew; rfl
          · injection hnew with hnew; subst hnew; simp [cellsOfBytes]
          · cases hnew
        have := hLn.1
        exact List.eq_nil_of_length_eq_zero (by omega)
      subst hnil
      have hle : len + 0 ≤ cap' := by cases hs <;> omega
      have hrun := append_room (P := P) (w := w) (w' := w) ty hst hxt hd hi (base := base') hnr hle (hrn w rfl) (fun a _ => rfl) (fun _ => rfl)
      exact OpOk.pure R hrun (by simpa using hs)
    · rename_i hn0
      split at h
      · rename_i hc
        obtain ⟨hzs, hpos, hb, hlo, hln⟩ := hc
        have hE : szOf P e = some inf.size := by simp [szOf, hi]
        have realloc : ∀ (σ1 : AHeap) (ch : Nat), Rel P σ1 γ w → σ1.base = σ.base → ch ≤ σ1.next → cap' < len + n →
            ∃ γ' w' v', (Builtin.append_ #[st, xt] ty #[.slice base' len cap', x']).run P w = .ok v' w' ∧ VR σ.base γ' (.slice (some ⟨σ1.next, 0, none⟩) (len + n) (len + n + 1)) v' ∧
              Rel P (σ1.push (.cells (old ++ new) e ch)) γ' w' ∧ Fram σ1 γ w w' ∧ Grows σ1 (σ1.push (.cells (old ++ new) e ch)) γ γ' ∧ NewB σ1 γ γ' w := by
          intro σ1 ch R1 hbase hch hgt
          have := realloc_sound (ty := ty) hz R1 hst hxt hd hI hzz (base := base') hnr hgt hb hlo.symm hln.symm hro hrn (by rw [hbase]; exact hLo) (by rw [hbase]; exact hLn) h1o h1n hch
          rw [hbase] at this
          exact this
        split at h
        · -- nil
          injection h with h; subst h
          have hgt : cap' < len + n := by cases hs; omega
          exact realloc σ σ.next R rfl (Nat.le_refl _) hgt
        · rename_i a
          split at h
          · -- full
            rename_i hcl
            injection h with h; subst h
            have hgt : cap' < len + n := by
              cases hs with
              | slOld _ _ _ _ _ _ => omega
              | slNew _ _ _ _ _ _ _ _ _ hcc _ => have := hcc hcl; omega
              | slEmpty _ _ _ _ _ => omega
            exact realloc σ σ.next R rfl (Nat.le_refl _) hgt
          · rename_i hcl
            split at h
            · cases h
            · rename_i hbn
              have hbn := Nat.le_of_not_lt hbn
              split at h
              · rename_i c el ch hget
                split at h
                · rename_i hel
                  subst hel
                  have hchn : ch ≤ σ.next := by
                    have h1 := R.chain _ _ _ _ hget
                    have h2 := R.alive_lt (i := a.block) (by rw [hget]; simp)
                    omega
                  by_cases hgt : cap' < len + n
                  · -- a new block all the same
                    split at h
                    · injection h with h; subst h
                      obtain ⟨γ', w', v', a1, a2, a3, a4, a5, a6⟩ := realloc (σ.kill ch σ.next (len * inf.size)) ch (R.kill ..) rfl hchn hgt
                      exact ⟨γ', w', v', a1, a2, a3, a4.ofKill, (Grows.kill σ γ ch σ.next _).trans a5, a6.ofKill⟩
                    · split at h
                      · injection h with h; subst h
                        obtain ⟨γ', w', v', a1, a2, a3, a4, a5, a6⟩ := realloc (σ.kill ch σ.next 0) σ.next (R.kill ..) rfl (Nat.le_refl _) hgt
                        exact ⟨γ', w', v', a1, a2, a3, a4.ofKill, (Grows.kill σ γ ch σ.next _).trans a5, a6.ofKill⟩
                      · cases h
                  · -- in place
                    have hle : len + n ≤ cap' := Nat.le_of_not_lt hgt
                    cases hs with
                    | slOld _ _ _ h5 _ _ => omega
                    | slEmpty _ _ _ _ _ => omega
                    | slNew b o _ _ _ ge h5 hg h6 h7 hN =>
                      simp only at hget h hbn
                      obtain ⟨C, fz, hC, hsz, hEe, hfit, hfz, hCL, hc1⟩ := R.cells _ _ _ _ _ hget hg
                      have hEE : ge.E = inf.size := by rw [hE] at hEe; injection hEe with hEe; exact hEe.symm
                      have hmul : (len + n) * inf.size ≤ cap' * inf.size := Nat.mul_le_mul_right _ hle
                      rw [Nat.add_mul] at hmul
                      rw [hEE] at hN
                      have hnl : new'.length = n * inf.size := by rw [← hLn.1, hln]
                      have hfitn : (o + ge.s + len * inf.size) + new'.length ≤ C.toList.length := by simp; omega
                      have h1n' := hLn.oneC h1n
                      have hst2 := run_storeCells_at (P := P) ge.B el fz ge.N hfz new' (o + ge.s + len * inf.size) 0 C w hC hsz (by simp at hfitn ⊢; omega) h1n'
                      rw [Nat.add_zero] at hst2
                      have hrun := append_room (P := P) (w := w) ty hst hxt hd hi (base := some ⟨ge.B, o + ge.s, none⟩) hnr hle (hrn w rfl) (fun a ha => by
                        injection ha with ha; subst ha; rw [addr_add]; exact hst2) (fun hh => by cases hh)
                      generalize hCC : (splice C.toList (o + ge.s + len * inf.size) new').toArray = C' at hrun hst2
                      have hCs : C'.size = C.size := by rw [← hCC]; simp only [List.size_toArray, splice_length hfitn, Array.length_toList]
                      have hpre : ∀ k, k < o + ge.s + len * inf.size → C'.toList[k]? = C.toList[k]? := fun k hk => by
                        rw [← hCC]; simp only; rw [splice_get hfitn, if_pos hk]
                      -- the old elements, as they lie
                      have holdL : ∀ k v, old[k]? = some v → ∃ v', C.toList[o + ge.s + k]? = some v' ∧ VR σ.base γ v v' := by
                        intro k v hv
                        unfold firstOf at hold
                        simp only at hold
                        split at hold
                        · injection hold with hold; subst hold; simp at hv
                        · rw [if_pos (Nat.le_refl _)] at hold
                          unfold rd at hold
                          rw [if_neg (by simp), if_neg (by simp only; omega)] at hold
                          simp only [hget] at hold
                          split at hold
                          · injection hold with hold; subst hold
                            simp only [List.getElem?_take, List.getElem?_drop] at hv
                            split at hv
                            · obtain ⟨v', hv', hvr⟩ := hCL.get hv
                              refine ⟨v', ?_, hvr⟩
                              simp only [List.getElem?_take, List.getElem?_drop] at hv'
                              split at hv'
                              · rw [show o + ge.s + k = ge.s + (o + k) by omega]; exact hv'
                              · cases hv'
                            · cases hv
                          · cases hold
                      have hLnew : LR σ.base γ (old ++ new) ((C'.toList.drop (o + ge.s)).take (old ++ new).length) := by
                        have hlen : (old ++ new).length = len * inf.size + n * inf.size := by simp; omega
                        refine ⟨by simp only [List.length_take, List.length_drop, Array.length_toList, hlen]; simp at hfitn; omega, fun k v v' hv hv' => ?_⟩
                        simp only [List.getElem?_take, List.getElem?_drop] at hv'
                        split at hv'
                        · rename_i hk
                          by_cases hk2 : k < len * inf.size
                          · rw [List.getElem?_append_left (by omega)] at hv
                            obtain ⟨u, hu, hvr⟩ := holdL k v hv
                            rw [hpre _ (by omega)] at hv'
                            rw [hu] at hv'; injection hv' with hv'; subst hv'; exact hvr
                          · rw [List.getElem?_append_right (by omega)] at hv
                            rw [← hCC] at hv'
                            simp only at hv'
                            rw [splice_get hfitn, if_neg (by omega), if_pos (by omega)] at hv'
                            rw [show o + ge.s + k - (o + ge.s + len * inf.size) = k - old.length by omega] at hv'
                            exact hLn.2 _ v v' hv hv'
                        · cases hv'
                      have h1all : ∀ v ∈ old ++ new, v.oneC = true := fun v hv => by
                        rw [List.mem_append] at hv; rcases hv with hv | hv
                        · exact h1o v hv
                        · exact h1n v hv
                      have hfitall : (o + ge.s) + (old ++ new).length ≤ ge.N := by simp; omega
                      have hnd : σ.get b ≠ .dead := by rw [hget]; simp
                      have fin : ∀ (lim chn : Nat) (hal : (o + ge.s) % ge.E = 0), Rel P ((σ.kill ch σ.next lim).push (.cells (old ++ new) el chn)) (γ.put σ.next ⟨ge.B, o + ge.s, ge.N, ge.E, hal⟩) (w.setRow ge.B C') →
                          OpOk P σ γ w (.slice (some ⟨σ.next, 0, none⟩) (len + n) (len + n + 1), (σ.kill ch σ.next lim).push (.cells (old ++ new) el chn)) (Builtin.append_ #[st, xt] ty #[.slice (some ⟨ge.B, o + ge.s, none⟩) len cap', x']) := by
                        intro lim chn hal R'
                        refine ⟨_, _, _, hrun, ?_, R', setRow_Fram hg hnd, ?_, ?_⟩
                        · have := VR.slNew (base := σ.base) (γ := γ.put σ.next ⟨ge.B, o + ge.s, ge.N, ge.E, hal⟩) σ.next 0 (len + n) (len + n + 1) cap' _ R.next (Gm.put_same ..) hle (fun h => by omega) (by simp only [Nat.zero_add]; rw [hEE]; exact hN)
                          simpa using this
                        · exact (Grows.kill σ γ ch σ.next lim).trans (Grows.push (R.kill ch σ.next lim) _ _)
                        · intro i e' he' hnone
                          unfold Gm.put at he'
                          split at he'
                          · injection he' with he'; subst he'
                            exact .inr ⟨b, ge, hg, hnd, rfl⟩
                          · rw [hnone] at he'; cases he'
                      split at h
                      · rename_i ho0
                        injection h with h; subst h
                        have hal : (o + ge.s) % ge.E = 0 := by
                          have h0 : o = 0 := ho0
                          rw [h0, Nat.zero_add]; exact ge.al
                        refine fin _ _ hal (R.appendIn hal hget hg hC hCs (fun k hk => hpre _ (by omega)) (.inl ⟨rfl, by omega⟩) hfitall hLnew h1all)
                      · split at h
                        · rename_i ho0 hom
                          injection h with h; subst h
                          have hal : (o + ge.s) % ge.E = 0 := by
                            have h0 : o % ge.E = 0 := by rw [hEE]; exact hom
                            rw [Nat.add_mod, h0, ge.al]; simp
                          refine fin _ _ hal (R.appendIn hal hget hg hC hCs (fun k hk => by omega) (.inr ⟨rfl, rfl⟩) hfitall hLnew h1all)
                        · cases h
                · cases h
              · cases h
      · cases h
  · cases h

end
end Go.Am
