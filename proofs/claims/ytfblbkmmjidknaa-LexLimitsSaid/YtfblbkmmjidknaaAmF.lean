/- The abstract machine: each operation does what the model's does. Second part: slices, fields, indexes. -/
import Derived.Test.YtfblbkmmjidknaaAmE
import Derived.IntWalk
set_option linter.unusedVariables false
set_option linter.unusedSimpArgs false
namespace Go.Am
section
variable {P : Program} {σ : AHeap} {γ : Gm} {w : World}

theorem constOk_cells1 {z : Value} (h : constOk z = true) : ∀ u ∈ z.cells.toList, u.oneC = true := fun u hu => by
  rw [oneC_eq]; have := constOk_cells h u hu; cases u <;> simp_all [constCell, Value.oneCell']

theorem zero_row {base : Nat} {z : Value} (h : constOk z = true) (m : Nat) (hm : 0 < z.cells.size ∨ m = 0) :
    LR base γ ((Array.range m).map (z.cells[· % z.cells.size]!)).toList ((Array.range m).map (z.cells[· % z.cells.size]!)).toList ∧
    ∀ u ∈ ((Array.range m).map (z.cells[· % z.cells.size]!)).toList, u.oneC = true := by
  have key : ∀ u ∈ ((Array.range m).map (z.cells[· % z.cells.size]!)).toList, constCell u = true := by
    intro u hu
    simp only [Array.toList_map, List.mem_map] at hu
    obtain ⟨i, hi, rfl⟩ := hu
    rcases hm with hm | hm
    · have hlt : i % z.cells.size < z.cells.size := Nat.mod_lt _ hm
      rw [getElem!_pos z.cells _ hlt]
      exact constOk_cells h _ (by simp)
    · subst hm; simp at hi
  exact ⟨LR.ofConst key, fun u hu => by have := key u hu; cases u <;> simp_all [constCell, Value.oneC]⟩

/-- A new block, as the value that leads to it. -/
theorem newRow_sound (R : Rel P σ γ w) {e : TypeId} {E : Nat} (hE : szOf P e = some E) {c : List Value} {C : Array Value} {ch : Nat} (hch : ch ≤ σ.next) (hc : c.length ≤ C.size)
    (hL : LR σ.base γ c (C.toList.take c.length)) (h1 : ∀ v ∈ c, v.oneC = true) {w0 : World} (hh : w0.heap = w.heap) (ho : w0.os = w.os) (ht : w0.tape = w.tape) (hout : w0.output = w.output) :
    ∃ γ', Rel P (σ.push (.cells c e ch)) γ' (w0.alloc (.cells C e)) ∧ Fram σ γ w (w0.alloc (.cells C e)) ∧ Grows σ (σ.push (.cells c e ch)) γ γ' ∧ NewB σ γ γ' w ∧
      γ' σ.next = some ⟨w.heap.size, 0, C.size, E⟩ := by
  have hp : (w0.alloc (.cells C e)).heap = w.heap.push (.cells C e) := by rw [← hh]; rfl
  exact ⟨γ.put σ.next ⟨w.heap.size, 0, C.size, E⟩, R.pushNew hp ho ht hout hE hch hc (fun o _ => by simp) hL h1, Fram.pushNew hp, Grows.push R _ _, NewB.put (Nat.le_refl _), Gm.put_same ..⟩

theorem buildSlice_sound (hz : ZeroOk P) (R : Rel P σ γ w) {t : TypeId} {len : Nat} {ps ps' : Array (Nat × Value)} (hp : PR σ.base γ ps ps') {r : Value × AHeap} (h : aBuildSlice P σ t len ps = some r) :
    OpOk P σ γ w r (Instr.buildSlice t len ps') := by
  unfold aBuildSlice at h
  split at h
  · rename_i hn
    split at h
    · rename_i e hu
      rw [Option.bind_eq_some_iff] at h
      obtain ⟨n, hsn, h⟩ := h
      rw [Option.bind_eq_some_iff] at h
      obtain ⟨z, hzz, h⟩ := h
      split at h
      · rename_i hle
        rw [Option.map_eq_some_iff] at h
        obtain ⟨C, hC, rfl⟩ := h
        have hzc := hz.const hzz
        have hzs := hz.size hzz hsn
        have hn' : ∀ p ∈ ps.toList, noTuple p.2 = true := fun p hp => by
          rw [Array.all_eq_true_iff_forall_mem] at hn; exact hn p (by simpa using hp)
        have hpl : ps.toList.length = ps'.toList.length := by simpa using hp.1
        have hpp : ∀ (i : Nat) p p', ps.toList[i]? = some p → ps'.toList[i]? = some p' → p'.1 = p.1 ∧ VR σ.base γ p.2 p'.2 := fun i p p' a b => hp.2 i p p' (by simpa using a) (by simpa using b)
        by_cases h0 : len * n = 0
        · -- no cells at all
          have hb : ((Array.range (len * n)).map (z.cells[· % z.cells.size]!)) = #[] := by rw [h0]; simp
          rw [hb] at hC
          obtain ⟨C', hC', hL, h1⟩ := fill_sound (base := σ.base) hpl hpp hn' LR.nil (by simp) hC
          have hlen : C.size = C'.size := by simpa using hL.1
          obtain ⟨γ', R', F, G, N, hg⟩ := newRow_sound R (E := n) hsn (c := C.toList) (C := C') (ch := σ.next) (Nat.le_refl _) (by simp [hlen]) (by rw [Array.length_toList, hlen, ← Array.length_toList, List.take_length]; exact hL) h1 rfl rfl rfl rfl
          have hcs : ∀ {x : Array Value}, Instr.fill (fun i => some (i * n, n)) #[] ps.toList = some x → x.size = 0 := by
            intro x
            have : ∀ (l : List (Nat × Value)) (d x : Array Value), Instr.fill (fun i => some (i * n, n)) d l = some x → x.size = d.size := by
              intro l
              induction l with
              | nil => intro d x h; simp [Instr.fill] at h; rw [h]
              | cons p l ih =>
                intro d x h
                simp only [Instr.fill] at h
                split at h
                · cases h
                · have := ih _ _ h
                  rw [this, fold_zip]
                  have key : ∀ (l : List (Value × Nat)) (d : Array Value), (l.foldl (fun cs (x : Value × Nat) => cs.setIfInBounds (p.1 * n + x.2) x.1) d).size = d.size := by
                    intro l; induction l with
                    | nil => intro d; rfl
                    | cons y l ihl => intro d; simp [ihl]
                  exact key _ _
            intro h; simpa using this _ _ _ h
          have hs0 : C'.size = 0 := by rw [← hlen]; exact hcs hC
          refine ⟨γ', _, .slice (some ⟨w.heap.size, 0, none⟩) len len, ?_, ?_, R', F, G, N⟩
          · have hbb : Array.map (fun x => (#[] : Array Value)[x % (#[] : Array Value).size]!) (Array.range 0) = #[] := by simp
            simp only [Instr.buildSlice, Sem.run_bind, run_underlying hu, Result.andThen_ok, run_size hsn]
            rw [if_neg (by omega)]
            simp only [h0, if_true, Sem.run_bind, Sem.run_pure, Result.andThen_ok, hbb, hC', newRow, run_newObj, World.alloc_eq]
          · have := VR.slNew (base := σ.base) (γ := γ') σ.next 0 len len len _ R.next hg (Nat.le_refl _) (fun h => h) (by simp only [Nat.zero_add]; rw [h0]; exact Nat.zero_le _)
            simpa using this
        · have hpos : 0 < n := by rcases Nat.eq_zero_or_pos n with h | h; (subst h; simp at h0); exact h
          obtain ⟨i0, hi0, hsz0⟩ := szOf_some hsn
          by_cases hcz : 0 < z.cells.size
          · obtain ⟨hzr, hz1⟩ := zero_row (base := σ.base) (γ := γ) hzc (len * n) (.inl hcz)
            obtain ⟨C', hC', hL, h1⟩ := fill_sound (base := σ.base) hpl hpp hn' hzr hz1 hC
            have hlen : C.size = C'.size := by simpa using hL.1
            obtain ⟨γ', R', F, G, N, hg⟩ := newRow_sound R (E := n) hsn (c := C.toList) (C := C') (ch := σ.next) (Nat.le_refl _) (by simp [hlen]) (by rw [Array.length_toList, hlen, ← Array.length_toList, List.take_length]; exact hL) h1 rfl rfl rfl rfl
            have hsize : C.size = len * n := by
              have : ∀ (l : List (Nat × Value)) (d x : Array Value), Instr.fill (fun i => some (i * n, n)) d l = some x → x.size = d.size := by
                intro l
                induction l with
                | nil => intro d x h; simp [Instr.fill] at h; rw [h]
                | cons p l ih =>
                  intro d x h
                  simp only [Instr.fill] at h
                  split at h
                  · cases h
                  · have := ih _ _ h
                    rw [this, fold_zip]
                    have key : ∀ (l : List (Value × Nat)) (d : Array Value), (l.foldl (fun cs (x : Value × Nat) => cs.setIfInBounds (p.1 * n + x.2) x.1) d).size = d.size := by
                      intro l; induction l with
                      | nil => intro d; rfl
                      | cons y l ihl => intro d; simp [ihl]
                    exact key _ _
              rw [this _ _ _ hC]; simp
            refine ⟨γ', _, .slice (some ⟨w.heap.size, 0, none⟩) len len, ?_, ?_, R', F, G, N⟩
            · simp only [Instr.buildSlice, Sem.run_bind, run_underlying hu, Result.andThen_ok, run_size hsn]
              rw [if_neg (by omega)]
              simp only [if_neg h0, Sem.run_bind, run_zero hzz, Sem.run_pure, Result.andThen_ok, hC', newRow, run_newObj, World.alloc_eq]
            · have := VR.slNew (base := σ.base) (γ := γ') σ.next 0 len len len _ R.next hg (Nat.le_refl _) (fun h => h) (by simp only [Nat.zero_add]; omega)
              simpa using this
          · omega
      · cases h
    · cases h
  · cases h

theorem makeSlice_sound (hz : ZeroOk P) (R : Rel P σ γ w) {t : TypeId} {l l' c c' : Value} (hl : VR σ.base γ l l') (hc : VR σ.base γ c c') {r : Value × AHeap} (h : aMakeSlice P σ t l c = some r) :
    OpOk P σ γ w r (Instr.makeSlice t l' c') := by
  unfold aMakeSlice at h
  split at h
  · rename_i e kl n kc m hu
    obtain rfl := hl.eq_of_const rfl
    obtain rfl := hc.eq_of_const rfl
    rw [Option.bind_eq_some_iff] at h
    obtain ⟨i, hi, h⟩ := h
    rw [Option.bind_eq_some_iff] at h
    obtain ⟨z, hzz, h⟩ := h
    split at h
    · rename_i hb
      obtain ⟨h0, h1, h2, h3⟩ := hb
      injection h with h; subst h
      obtain ⟨hzc, hzs⟩ := hz e i z hi hzz
      have hI := hi
      replace hi := infoOf_info hi
      have hwn : IntKind.i64.wrap n = n := IntWalk.i64_in _ (by omega)
      have hwm : IntKind.i64.wrap m = m := IntWalk.i64_in _ (by omega)
      have hE : szOf P e = some i.size := by simp [szOf, hi]
      have hbm : ¬ ((i.bytes : Int) * m > 2 ^ 48) := by
        have : (i.bytes : Int) * m ≤ 2 ^ 47 := h3
        omega
      by_cases hm0 : m.toNat * i.size = 0
      · obtain ⟨γ', R', F, G, N, hg⟩ := newRow_sound R (E := i.size) hE (c := ((Array.range (m.toNat * i.size)).map (z.cells[· % z.cells.size]!)).toList) (C := #[]) (ch := σ.next) (Nat.le_refl _) (by simp [hm0]) (by simp [hm0]; exact LR.nil) (by simp [hm0]) rfl rfl rfl rfl
        refine ⟨γ', _, .slice (some ⟨w.heap.size, 0, none⟩) n.toNat m.toNat, ?_, ?_, R', F, G, N⟩
        · have hb0 : Array.map (fun x => (#[] : Array Value)[x % (#[] : Array Value).size]!) (Array.range 0) = #[] := by simp
          simp only [Instr.makeSlice, Sem.run_bind, run_underlying hu, Result.andThen_ok, asInt, asIntOf, Sem.run_pure, run_info hi, hwn, hwm]
          rw [if_neg (by simp only [Bool.or_eq_true, decide_eq_true_eq, not_or]; omega)]
          simp only [Sem.run_bind, run_askRoom, Result.andThen_ok, run_size hE, hm0, if_true, Sem.run_pure, hb0, newRow, run_newObj, World.alloc_eq]
        · have := VR.slNew (base := σ.base) (γ := γ') σ.next 0 n.toNat m.toNat m.toNat _ R.next hg (by omega) (fun h => h) (by simp only [Nat.zero_add]; rw [hm0]; exact Nat.zero_le _)
          simpa using this
      · have hzpos : 0 < z.cells.size := by
          rw [hzs]; rcases Nat.eq_zero_or_pos i.size with h | h
          · rw [h] at hm0; simp at hm0
          · exact h
        obtain ⟨hzr, hz1⟩ := zero_row (base := σ.base) (γ := γ) hzc (m.toNat * i.size) (.inl hzpos)
        obtain ⟨γ', R', F, G, N, hg⟩ := newRow_sound R (E := i.size) hE (c := ((Array.range (m.toNat * i.size)).map (z.cells[· % z.cells.size]!)).toList) (C := (Array.range (m.toNat * i.size)).map (z.cells[· % z.cells.size]!)) (ch := σ.next) (Nat.le_refl _) (by simp) (by rw [List.take_of_length_le (by simp)]; exact hzr) hz1 rfl rfl rfl rfl
        refine ⟨γ', _, .slice (some ⟨w.heap.size, 0, none⟩) n.toNat m.toNat, ?_, ?_, R', F, G, N⟩
        · simp only [Instr.makeSlice, Sem.run_bind, run_underlying hu, Result.andThen_ok, asInt, asIntOf, Sem.run_pure, run_info hi, hwn, hwm]
          rw [if_neg (by simp only [Bool.or_eq_true, decide_eq_true_eq, not_or]; omega)]
          have hzz' : zeroOf P e = some z := by simp [zeroOf, hI, hzz]
          simp only [Sem.run_bind, run_askRoom, Result.andThen_ok, run_size hE, if_neg hm0, run_zero hzz', Sem.run_pure, newRow, run_newObj, World.alloc_eq]
        · have := VR.slNew (base := σ.base) (γ := γ') σ.next 0 n.toNat m.toNat m.toNat _ R.next hg (by omega) (fun h => h) (by simp)
          simpa using this
    · cases h
  · cases h

/-! ### Parts, fields, indexes -/
theorem part_sound {base : Nat} {t : TypeId} {cs cs' : Array Value} {off : Nat} {v : Value} (hL : LR base γ cs.toList cs'.toList) (h1 : ∀ u ∈ cs.toList, u.oneC = true) (h : aPart P t cs off = some v) :
    ∃ v', (part t cs' off).run P w = .ok v' w ∧ VR base γ v v' := by
  unfold aPart at h
  split at h
  · rename_i hag
    rw [Option.map_eq_some_iff] at h
    obtain ⟨n, hn, rfl⟩ := h
    refine ⟨.agg (cs'.extract off (off + n)), by simp [part, run_agg hag, run_size hn], ?_⟩
    have := VR.aggL (base := base) (γ := γ) ((hL.drop off).take n) (fun u hu => h1 u (List.mem_of_mem_drop (List.mem_of_mem_take hu)))
    have e : ∀ (a : Array Value), ((a.toList.drop off).take n).toArray = a.extract off (off + n) := fun a => by
      apply Array.ext'
      simp [List.extract_eq_take_drop]
    rw [e, e] at this
    exact this
  · rename_i hag
    obtain ⟨v', hv', hvr⟩ := hL.get (i := off) (v := v) (by simpa using h)
    refine ⟨v', ?_, hvr⟩
    simp only [part, Sem.run_bind, run_agg hag, Result.andThen_ok]
    have : cs'[off]? = some v' := by simpa using hv'
    simp [this]
  · cases h

theorem field_sound (R : Rel P σ γ w) {t : TypeId} {x x' v : Value} {i : Nat} (hx : VR σ.base γ x x') (h : aField P t x i = some v) : OpPure P σ γ w v (Instr.field t x' i) := by
  unfold aField at h
  split at h
  · rename_i fs cs hu
    obtain ⟨cs', rfl, hL, h1⟩ := hx.aggInv
    rw [Option.bind_eq_some_iff] at h
    obtain ⟨f, hf, h⟩ := h
    obtain ⟨v', hr, hv⟩ := part_sound (w := w) hL h1 h
    exact OpPure.intro R (by simp [Instr.field, run_underlying hu, hf, asAgg, hr]) hv
  · cases h

theorem ptr_add {base : Nat} {a a' : Addr} (h : VR base γ (.pointer (some a)) (.pointer (some a'))) (n : Nat) :
    VR base γ (.pointer (some ⟨a.block, a.off + n, none⟩)) (.pointer (some (a'.add n))) := by
  cases h with
  | ptrOld _ h hs =>
    have : a.add n = ⟨a.block, a.off + n, none⟩ := by
      have : a = ⟨a.block, a.off, none⟩ := by cases a; simp_all
      rw [this, addr_add]
    rw [this]
    exact .ptrOld _ h rfl
  | ptrNew b o e h he =>
    rw [addr_add, show o + e.s + n = o + n + e.s by omega]
    exact .ptrNew b (o + n) e h he

theorem fieldAddr_sound (R : Rel P σ γ w) {t : TypeId} {x x' v : Value} {i : Nat} (hx : VR σ.base γ x x') (h : aFieldAddr P t x i = some v) : OpPure P σ γ w v (Instr.fieldAt t x' i) := by
  unfold aFieldAddr at h
  split at h
  · rename_i fs a hu
    obtain ⟨a', rfl⟩ := ptr_inv hx
    rw [Option.bind_eq_some_iff] at h
    obtain ⟨f, hf, h⟩ := h
    split at h
    · rename_i hc
      injection h with h; subst h
      obtain ⟨n, hn⟩ := Option.ne_none_iff_exists'.1 hc.2.1
      have hn0 : n ≠ 0 := fun h0 => hc.2.2 (by rw [hn, h0])
      refine OpPure.intro R (v' := .pointer (some (a'.add f.offset))) ?_ (ptr_add hx _)
      simp only [Instr.fieldAt, Sem.run_bind, run_underlying hu, Result.andThen_ok, hf, run_sureAddr, fieldPlace, run_size hn, if_neg hn0, Sem.run_pure]
    · cases h
  · cases h

theorem indexAddr_sound (R : Rel P σ γ w) {t : TypeId} {x x' i i' v : Value} (hx : VR σ.base γ x x') (hi : VR σ.base γ i i') (h : aIndexAddr P t x i = some v) :
    OpPure P σ γ w v (Instr.indexAt t x' i') := by
  unfold aIndexAddr at h
  split at h
  · rename_i e a len cap k j hu
    obtain rfl := hi.eq_of_const rfl
    rw [Option.bind_eq_some_iff] at h
    obtain ⟨n, hn, h⟩ := h
    split at h
    · rename_i hc
      injection h with h; subst h
      cases hx with
      | slOld _ _ _ hb hs hle =>
        refine OpPure.intro R (v' := .pointer (some (a.add (j.toNat * n)))) ?_ (ptr_add (.ptrOld a hb hs) _)
        simp only [Instr.indexAt, asIntOf, Sem.run_bind, Sem.run_pure, Result.andThen_ok, run_underlying hu]
        rw [if_pos ⟨hc.2.1, hc.2.2⟩]
        simp [run_size hn]
      | slNew b o _ _ c' e' hb hg hle hcc hN =>
        refine OpPure.intro R (v' := .pointer (some ((⟨e'.B, o + e'.s, none⟩ : Addr).add (j.toNat * n)))) ?_ (ptr_add (.ptrNew b o e' hb hg) _)
        simp only [Instr.indexAt, asIntOf, Sem.run_bind, Sem.run_pure, Result.andThen_ok, run_underlying hu]
        rw [if_pos ⟨hc.2.1, hc.2.2⟩]
        simp [run_size hn]
      | slEmpty _ a' _ _ _ => have := hc.2; simp at this; omega
    · cases h
  · rename_i len e a k j hu
    obtain rfl := hi.eq_of_const rfl
    obtain ⟨a', rfl⟩ := ptr_inv hx
    rw [Option.bind_eq_some_iff] at h
    obtain ⟨n, hn, h⟩ := h
    split at h
    · rename_i hc
      injection h with h; subst h
      refine OpPure.intro R (v' := .pointer (some (a'.add (j.toNat * n)))) ?_ (ptr_add hx _)
      simp only [Instr.indexAt, asIntOf, Sem.run_bind, Sem.run_pure, Result.andThen_ok, run_underlying hu, run_sureAddr]
      rw [if_pos ⟨hc.2.1, hc.2.2⟩]
      simp [run_size hn]
    · cases h
  · cases h

theorem index_sound (R : Rel P σ γ w) {t : TypeId} {x x' i i' v : Value} (hx : VR σ.base γ x x') (hi : VR σ.base γ i i') (h : aIndex P t x i = some v) :
    OpPure P σ γ w v (Instr.index t x' i') := by
  unfold aIndex at h
  split at h
  · rename_i s k j hu
    obtain rfl := hi.eq_of_const rfl
    obtain rfl := hx.eq_of_const rfl
    split at h
    · rename_i hc
      injection h with h; subst h
      refine OpPure.intro R ?_ (.int .u8 _)
      simp only [Instr.index, asIntOf, Sem.run_bind, Sem.run_pure, Result.andThen_ok, run_underlying hu, if_pos hc.1]
      have : s[j.toNat]? = some (s[j.toNat]'hc.2) := by simp [getElem?_pos, hc.2]
      simp [this]
    · cases h
  · rename_i len e cs k j hu
    obtain rfl := hi.eq_of_const rfl
    obtain ⟨cs', rfl, hL, h1⟩ := hx.aggInv
    rw [Option.bind_eq_some_iff] at h
    obtain ⟨n, hn, h⟩ := h
    split at h
    · rename_i hc
      obtain ⟨v', hr, hv⟩ := part_sound (w := w) hL h1 h
      refine OpPure.intro R (v' := v') ?_ hv
      simp only [Instr.index, asIntOf, Sem.run_bind, Sem.run_pure, Result.andThen_ok, run_underlying hu, if_pos hc, run_size hn, hr]
    · cases h
  · cases h

end
end Go.Am
