/- The abstract machine: each operation does what the model's does. First part. -/
import Derived.Test.YtfblbkmmjidknaaAmD
set_option linter.unusedVariables false
set_option linter.unusedSimpArgs false
namespace Go.Am

/-- The zero values of all types, and all constants, hold no address. -/
def ZeroOk (P : Program) : Prop := ∀ t i z, infoOf P t = some i → i.zero = some z → constOk z = true ∧ z.cells.size = i.size
theorem infoOf_info {P : Program} {t : TypeId} {i : TypeInfo} (h : infoOf P t = some i) : P.info? t = some i := by
  unfold infoOf at h; rw [Option.filter_eq_some_iff] at h; exact h.1
theorem zeroOk (P : Program) : ZeroOk P := by
  intro t i z hi hz
  unfold infoOf at hi; rw [Option.filter_eq_some_iff] at hi
  have h := hi.2
  rw [hz] at h
  simpa using h
theorem ZeroOk.const {P : Program} (h : ZeroOk P) {t : TypeId} {z : Value} (hz : zeroOf P t = some z) : constOk z = true := by
  unfold zeroOf at hz; rw [Option.bind_eq_some_iff] at hz; obtain ⟨i, hi, hzz⟩ := hz; exact (h t i z hi hzz).1
theorem ZeroOk.size {P : Program} (h : ZeroOk P) {t : TypeId} {z : Value} {n : Nat} (hz : zeroOf P t = some z) (hn : szOf P t = some n) : z.cells.size = n := by
  unfold zeroOf at hz; rw [Option.bind_eq_some_iff] at hz; obtain ⟨i, hi, hzz⟩ := hz
  unfold szOf at hn; rw [infoOf_info hi] at hn; injection hn with hn; rw [(h t i z hi hzz).2]; exact hn

section
variable {P : Program} {σ : AHeap} {γ : Gm} {w : World}

/-- What an operation comes to. -/
def OpOk (P : Program) (σ : AHeap) (γ : Gm) (w : World) (r : Value × AHeap) (S : Sem Value) : Prop :=
  ∃ γ' w' v', S.run P w = .ok v' w' ∧ VR σ.base γ' r.1 v' ∧ Rel P r.2 γ' w' ∧ Fram σ γ w w' ∧ Grows σ r.2 γ γ' ∧ NewB σ γ γ' w

theorem OpOk.pure (R : Rel P σ γ w) {v v' : Value} {S : Sem Value} (h : S.run P w = .ok v' w) (hv : VR σ.base γ v v') : OpOk P σ γ w (v, σ) S :=
  ⟨γ, w, v', h, hv, R, Fram.refl σ γ w, Grows.refl σ γ, NewB.refl σ γ w⟩

/-- The same of what makes nothing and changes nothing. -/
def OpPure (P : Program) (σ : AHeap) (γ : Gm) (w : World) (v : Value) (S : Sem Value) : Prop := ∃ v', S.run P w = .ok v' w ∧ VR σ.base γ v v'
theorem OpPure.intro (R : Rel P σ γ w) {v v' : Value} {S : Sem Value} (h : S.run P w = .ok v' w) (hv : VR σ.base γ v v') : OpPure P σ γ w v S := ⟨v', h, hv⟩
theorem OpPure.ok (R : Rel P σ γ w) {v : Value} {S : Sem Value} (h : OpPure P σ γ w v S) : OpOk P σ γ w (v, σ) S := let ⟨v', h1, h2⟩ := h; OpOk.pure R h1 h2

theorem szOf_some {t : TypeId} {n : Nat} (h : szOf P t = some n) : ∃ i, P.info? t = some i ∧ i.size = n := by
  unfold szOf at h; rw [Option.map_eq_some_iff] at h; exact h
theorem run_size {t : TypeId} {n : Nat} (h : szOf P t = some n) (w : World) : (sizeOf t).run P w = .ok n w := by
  obtain ⟨i, hi, rfl⟩ := szOf_some h
  simp [sizeOf, typeInfo, hi]
theorem zeroOf_some {t : TypeId} {z : Value} (h : zeroOf P t = some z) : ∃ i, P.info? t = some i ∧ i.zero = some z := by
  unfold zeroOf at h; rw [Option.bind_eq_some_iff] at h; obtain ⟨i, hi, hz⟩ := h; exact ⟨i, infoOf_info hi, hz⟩
theorem run_zero {t : TypeId} {z : Value} (h : zeroOf P t = some z) (w : World) : (zeroValue t).run P w = .ok z w := by
  obtain ⟨i, hi, hz⟩ := zeroOf_some h
  simp [zeroValue, typeInfo, hi, hz]
theorem run_info {t : TypeId} {i : TypeInfo} (h : P.info? t = some i) (w : World) : (typeInfo t).run P w = .ok i w := by
  simp [typeInfo, h]
theorem run_agg {t : TypeId} {b : Bool} (h : aggOf P t = some b) (w : World) : (isAgg t).run P w = .ok b w := by
  unfold aggOf at h
  cases hu : P.underlying t with
  | none => rw [hu] at h; cases h
  | some d => rw [hu] at h; cases d <;> simp at h <;> subst h <;> simp [isAgg, run_underlying hu]

theorem ptr_inv {a : Addr} {v : Value} {base : Nat} (h : VR base γ (.pointer (some a)) v) : ∃ a', v = .pointer (some a') := by
  cases h with
  | ptrOld _ h hs => exact ⟨_, rfl⟩
  | ptrNew b o e h he => exact ⟨_, rfl⟩

theorem run_sureAddr (a : Addr) (w : World) : (Instr.sureAddr (.pointer (some a))).run P w = .ok a w := rfl

theorem load_sound (R : Rel P σ γ w) {t : TypeId} {x x' v : Value} (hx : VR σ.base γ x x') (h : aLoad P σ t x = some v) : OpPure P σ γ w v (Instr.loadAt t x') := by
  unfold aLoad at h
  split at h
  · rename_i a
    obtain ⟨a', rfl⟩ := ptr_inv hx
    split at h
    · rename_i hag
      rw [Option.bind_eq_some_iff] at h
      obtain ⟨n, hn, h⟩ := h
      rw [Option.map_eq_some_iff] at h
      obtain ⟨cs, hcs, rfl⟩ := h
      obtain ⟨hl, h1, cs', hL, hc⟩ := rd_sound R hx hcs
      have hl' : cs'.length = n := by rw [← hL.1, hl]
      have hr := run_loadCells_list (P := P) w a' cs' hc
      rw [hl'] at hr
      refine OpPure.intro R (v' := .agg cs'.toArray) ?_ (VR.aggL hL h1)
      simp [Instr.loadAt, run_sureAddr, loadVar, run_agg hag, run_size hn, hr]
    · rename_i hag
      rw [Option.bind_eq_some_iff] at h
      obtain ⟨cs, hcs, h⟩ := h
      obtain ⟨hl, h1, cs', hL, hc⟩ := rd_sound R hx hcs
      cases cs with
      | nil => simp at h
      | cons u r =>
        simp at h; subst h
        obtain ⟨v', r', rfl, hv, _⟩ := hL.uncons
        have h0 := hc 0 v' (by simp)
        have hadd : a'.add 0 = a' := by unfold Addr.add; simp
        rw [hadd] at h0
        refine OpPure.intro R (v' := v') ?_ hv
        simp [Instr.loadAt, run_sureAddr, loadVar, run_agg hag, h0]
    · cases h
  · cases h

theorem store_sound (R : Rel P σ γ w) {t : TypeId} {x x' v v' : Value} (hx : VR σ.base γ x x') (hv : VR σ.base γ v v') {σ' : AHeap} (h : aStore P σ t x v = some σ') :
    ∃ w', (Instr.storeAt t x' v').run P w = .ok () w' ∧ Rel P σ' γ w' ∧ Fram σ γ w w' ∧ Grows σ σ' γ γ := by
  unfold aStore at h
  split at h
  · rename_i a
    obtain ⟨a', rfl⟩ := ptr_inv hx
    split at h
    · rename_i hc
      obtain ⟨hL, h1⟩ := hv.cells hc.1
      obtain ⟨w', hr, rest⟩ := wr_sound R hx hL h1 h
      have hs : v'.cells.size = v.cells.size := by have := hL.1; simpa using this.symm
      refine ⟨w', ?_, rest⟩
      simp [Instr.storeAt, run_sureAddr, storeVar, run_size hc.2, hs, hr]
    · cases h
  · cases h

theorem new_sound (R : Rel P σ γ w) {e : TypeId} {n : Nat} (he : szOf P e = some n) {v v' : Value} (hv : VR σ.base γ v v') {r : Value × AHeap} (h : aNew σ e v = some r) :
    ∃ γ' w' a, (newVar e v').run P w = .ok a w' ∧ VR σ.base γ' r.1 (.pointer (some a)) ∧ Rel P r.2 γ' w' ∧ Fram σ γ w w' ∧ Grows σ r.2 γ γ' ∧ NewB σ γ γ' w := by
  unfold aNew at h
  split at h
  · rename_i hn
    injection h with h; subst h
    obtain ⟨hL, h1⟩ := hv.cells hn
    refine ⟨γ.put σ.next ⟨w.heap.size, 0, v'.cells.size, n⟩, w.alloc (.cells v'.cells e), ⟨w.heap.size, 0, none⟩, by simp [newVar, newRow], ?_, ?_, Fram.pushNew rfl, Grows.push R _ _, NewB.put (Nat.le_refl _)⟩
    · have := VR.ptrNew (base := σ.base) (γ := γ.put σ.next ⟨w.heap.size, 0, v'.cells.size, n⟩) σ.next 0 ⟨w.heap.size, 0, v'.cells.size, n⟩ R.next (Gm.put_same ..)
      simpa using this
    · refine R.pushNew rfl rfl rfl rfl he (Nat.le_refl _) (by have := hL.1; simp at this ⊢; omega) (fun o _ => by simp) ?_ h1
      have : v.cells.toList.length = v'.cells.toList.length := hL.1
      rw [this, List.take_length]
      exact hL
  · cases h

/-! ### Building values -/
theorem fold_zip (off : Nat) (a d : Array Value) : (a.zipIdx.foldl (fun cs (x : Value × Nat) => cs.setIfInBounds (off + x.2) x.1) d) =
    a.toList.zipIdx.foldl (fun cs (x : Value × Nat) => cs.setIfInBounds (off + x.2) x.1) d := by
  rw [← Array.foldl_toList, Array.toList_zipIdx]

theorem fill_sound {base : Nat} {place : Nat → Option (Nat × Nat)} : ∀ {parts parts' : List (Nat × Value)} {c c' : Array Value} {r : Array Value},
    parts.length = parts'.length → (∀ (i : Nat) p p', parts[i]? = some p → parts'[i]? = some p' → p'.1 = p.1 ∧ VR base γ p.2 p'.2) → (∀ p ∈ parts, noTuple p.2 = true) →
    LR base γ c.toList c'.toList → (∀ v ∈ c.toList, v.oneC = true) → Instr.fill place c parts = some r →
    ∃ r', Instr.fill place c' parts' = some r' ∧ LR base γ r.toList r'.toList ∧ ∀ v ∈ r.toList, v.oneC = true := by
  intro parts
  induction parts with
  | nil =>
    intro parts' c c' r hl hp hn hL h1 h
    cases parts' with
    | nil => simp [Instr.fill] at h ⊢; subst h; exact ⟨hL, by simpa using h1⟩
    | cons p r => simp at hl
  | cons p parts ih =>
    intro parts' c c' r hl hp hn hL h1 h
    cases parts' with
    | nil => simp at hl
    | cons p' parts' =>
      obtain ⟨i, v⟩ := p
      obtain ⟨i', v'⟩ := p'
      have h0 := hp 0 (i, v) (i', v') (by simp) (by simp)
      simp only at h0
      obtain ⟨rfl, hv⟩ := h0
      obtain ⟨hVL, hV1⟩ := hv.cells (hn (i', v) (by simp))
      simp only [Instr.fill] at h ⊢
      cases hpl : place i' with
      | none => rw [hpl] at h; cases h
      | some q =>
        obtain ⟨off, size⟩ := q
        rw [hpl] at h
        simp only at h ⊢
        have hsz : v'.cells.size = v.cells.size := by have := hVL.1; simpa using this.symm
        have hcs : c'.size = c.size := by have := hL.1; simpa using this.symm
        rw [hsz, hcs]
        split at h
        · cases h
        · rename_i hcond
          rw [if_neg hcond]
          refine ih (by simpa using hl) (fun j q q' hq hq' => hp (j + 1) q q' (by simpa using hq) (by simpa using hq')) (fun q hq => hn q (by simp [hq])) ?_ ?_ h
          · have key : ∀ (l l' : List Value) (k : Nat) (d d' : Array Value), LR base γ l l' → LR base γ d.toList d'.toList →
                LR base γ ((l.zipIdx k).foldl (fun cs (x : Value × Nat) => cs.setIfInBounds (off + x.2) x.1) d).toList ((l'.zipIdx k).foldl (fun cs (x : Value × Nat) => cs.setIfInBounds (off + x.2) x.1) d').toList := by
              intro l
              induction l with
              | nil => intro l' k d d' hl hd; cases l' with
                | nil => simpa using hd
                | cons x r => have := hl.1; simp at this
              | cons x l ihl =>
                intro l' k d d' hl hd
                obtain ⟨x', r', rfl, hx, hr⟩ := hl.uncons
                simp only [List.zipIdx_cons, List.foldl_cons]
                refine ihl r' (k + 1) _ _ hr ?_
                simp only [Array.toList_setIfInBounds]
                refine ⟨by simp [hd.1], fun j u u' hu hu' => ?_⟩
                rw [List.getElem?_set] at hu hu'
                by_cases hj : off + k = j
                · subst hj
                  rw [if_pos rfl] at hu hu'
                  split at hu
                  · split at hu'
                    · injection hu with hu; injection hu' with hu'; subst hu; subst hu'; exact hx
                    · cases hu'
                  · cases hu
                · rw [if_neg hj] at hu hu'
                  exact hd.2 j u u' hu hu'
            have := key v.cells.toList v'.cells.toList 0 c c' hVL hL
            rw [fold_zip, fold_zip]
            exact this
          · have key : ∀ (l : List Value) (k : Nat) (d : Array Value), (∀ v ∈ l, v.oneC = true) → (∀ v ∈ d.toList, v.oneC = true) →
                ∀ u ∈ ((l.zipIdx k).foldl (fun cs (x : Value × Nat) => cs.setIfInBounds (off + x.2) x.1) d).toList, u.oneC = true := by
              intro l
              induction l with
              | nil => intro k d _ hd; simpa using hd
              | cons x l ihl =>
                intro k d hl hd
                simp only [List.zipIdx_cons, List.foldl_cons]
                refine ihl (k + 1) _ (fun v hv => hl v (by simp [hv])) ?_
                intro u hu
                simp only [Array.toList_setIfInBounds] at hu
                rcases List.mem_or_eq_of_mem_set hu with h3 | h3
                · exact hd u h3
                · subst h3; exact hl u (by simp)
            rw [fold_zip]
            exact key v.cells.toList 0 c hV1 h1

/-- Parts of a value that is built. -/
def PR (base : Nat) (γ : Gm) (l l' : Array (Nat × Value)) : Prop :=
  l.size = l'.size ∧ ∀ (i : Nat) p p', l[i]? = some p → l'[i]? = some p' → p'.1 = p.1 ∧ VR base γ p.2 p'.2

theorem run_mapPlaces (fs : Array Field) {places : Array (Nat × Nat)} (h : aPlaces P fs = some places) (w : World) :
    (fs.mapM fun f => do pure (f.offset, ← sizeOf f.type) : Sem (Array (Nat × Nat))).run P w = .ok places w := by
  have h2 : (fs.toList.mapM fun f => (szOf P f.type).map fun n => (f.offset, n)) = some places.toList := by
    unfold aPlaces at h
    rw [Array.mapM_eq_mapM_toList] at h
    cases hx : (fs.toList.mapM fun f => (szOf P f.type).map fun n => (f.offset, n)) with
    | none => rw [hx] at h; simp at h
    | some l => rw [hx] at h; simp at h; rw [← h]
  rw [Array.mapM_eq_mapM_toList]
  have key : ∀ (l : List Field) (r : List (Nat × Nat)), (l.mapM fun f => (szOf P f.type).map fun n => (f.offset, n)) = some r →
      (l.mapM fun f => do pure (f.offset, ← sizeOf f.type) : Sem (List (Nat × Nat))).run P w = .ok r w := by
    intro l
    induction l with
    | nil => intro r hr; simp at hr; subst hr; simp
    | cons f l ih =>
      intro r hr
      simp only [List.mapM_cons, Option.bind_eq_bind, Option.pure_def] at hr
      rw [Option.bind_eq_some_iff] at hr
      obtain ⟨q, hq, hr⟩ := hr
      rw [Option.bind_eq_some_iff] at hr
      obtain ⟨s, hs, hr⟩ := hr
      injection hr with hr; subst hr
      rw [Option.map_eq_some_iff] at hq
      obtain ⟨n, hn, rfl⟩ := hq
      simp only [List.mapM_cons, Sem.run_bind, run_size hn, Result.andThen_ok, Sem.run_pure, ih s hs]
  simp only [Sem.run_map, key _ _ h2, Result.andThen_ok, Array.toArray_toList]

theorem build_sound (hz : ZeroOk P) (R : Rel P σ γ w) {t : TypeId} {ps ps' : Array (Nat × Value)} (hp : PR σ.base γ ps ps') {v : Value} (h : aBuild P t ps = some v) :
    OpPure P σ γ w v (Instr.build t ps') := by
  unfold aBuild at h
  split at h
  · rename_i hn
    rw [Option.bind_eq_some_iff] at h
    obtain ⟨z, hzz, h⟩ := h
    have hzc := hz.const hzz
    have hzL : LR σ.base γ z.cells.toList z.cells.toList := LR.ofConst (constOk_cells hzc)
    have hz1 : ∀ u ∈ z.cells.toList, u.oneC = true := fun u hu => by rw [oneC_eq]; have := constOk_cells hzc u hu; cases u <;> simp_all [constCell, Value.oneCell']
    have hn' : ∀ p ∈ ps.toList, noTuple p.2 = true := fun p hp => by
      rw [Array.all_eq_true_iff_forall_mem] at hn; exact hn p (by simpa using hp)
    have hpl : ps.toList.length = ps'.toList.length := by simpa using hp.1
    have hpp : ∀ (i : Nat) p p', ps.toList[i]? = some p → ps'.toList[i]? = some p' → p'.1 = p.1 ∧ VR σ.base γ p.2 p'.2 := fun i p p' a b => hp.2 i p p' (by simpa using a) (by simpa using b)
    split at h
    · rename_i fs hu
      rw [Option.bind_eq_some_iff] at h
      obtain ⟨places, hpc, h⟩ := h
      rw [Option.map_eq_some_iff] at h
      obtain ⟨r, hr, rfl⟩ := h
      obtain ⟨r', hr', hL, h1⟩ := fill_sound hpl hpp hn' hzL hz1 hr
      refine OpPure.intro R (v' := .agg r') ?_ (.agg _ _ (by simpa using hL.1) (fun i v hv => h1 v (List.mem_of_getElem? (by simpa using hv))) (fun i v v' a b => hL.2 i v v' (by simpa using a) (by simpa using b)))
      simp only [Instr.build, Sem.run_bind, run_zero hzz, Result.andThen_ok, run_underlying hu, run_mapPlaces fs hpc, hr']
      rfl
    · rename_i e hu
      rw [Option.bind_eq_some_iff] at h
      obtain ⟨n, hsn, h⟩ := h
      rw [Option.map_eq_some_iff] at h
      obtain ⟨r, hr, rfl⟩ := h
      obtain ⟨r', hr', hL, h1⟩ := fill_sound hpl hpp hn' hzL hz1 hr
      refine OpPure.intro R (v' := .agg r') ?_ (.agg _ _ (by simpa using hL.1) (fun i v hv => h1 v (List.mem_of_getElem? (by simpa using hv))) (fun i v v' a b => hL.2 i v v' (by simpa using a) (by simpa using b)))
      simp only [Instr.build, Sem.run_bind, run_zero hzz, Result.andThen_ok, run_underlying hu, run_size hsn, hr']
      rfl
    · cases h
  · cases h

end
end Go.Am
