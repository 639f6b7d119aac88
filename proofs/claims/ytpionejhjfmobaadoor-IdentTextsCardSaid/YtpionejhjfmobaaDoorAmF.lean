/- AmF -/
import Derived.Test.YtpionejhjfmobaaDoorAmD
import Derived.IntWalk
set_option linter.unusedVariables false
set_option linter.unusedSimpArgs false
namespace Go.Am
section
variable {P : Program} {σ : AHeap} {γ : Gm} {w : World}

theorem constOk_cells1 {z : Value} (h : constOk z = true) : ∀ u ∈ z.cells.toList, u.oneC = true := fun u hu => by
  rw [oneC_eq]; have := constOk_cells h u hu; cases u <;> simp_all [constCell, Value.oneCell']

theorem zero_row {base : Nat} {z : Value} (h : constOk z = true) (m : Nat) (hm : 0 < z.cells.size ∨ m = 0) :
    LR base γ ((Array.range m).map (z.cells[· % z.cells.size]!)).toList ((Array.range m).map (z.cells[· % z.cells.size]!)).toList ∧
    ∀ u ∈ ((Array.range m).map (z.cells[· % z.cells.size]!)).toList, u.oneC = true := by
  have key : ∀ u ∈ ((Array.range m).map (z.cells[· % z.cells.size]!)).toList, constCell u = true := by
    intro u hu
    simp only [Array.toList_map, List.mem_map] at hu
    obtain ⟨i, hi, rfl⟩ := hu
    rcases hm with hm | hm
    · have hlt : i % z.cells.size < z.cells.size := Nat.mod_lt _ hm
      rw [getElem!_pos z.cells _ hlt]
      exact constOk_cells h _ (by simp)
    · subst hm; simp at hi
  exact ⟨LR.ofConst key, fun u hu => by have := key u hu; cases u <;> simp_all [constCell, Value.oneC]⟩

/-- A new block, as the value that leads to it. -/
theorem newRow_sound (R : Rel P σ γ w) {e : TypeId} {E : Nat} (hE : szOf P e = some E) {c : List Value} {C : Array Value} {ch : Nat} (hch : ch ≤ σ.next) (hc : c.length ≤ C.size)
    (hL : LR σ.base γ c (C.toList.take c.length)) (h1 : ∀ v ∈ c, v.oneC = true) {w0 : World} (hh : w0.heap = w.heap) (ho : w0.os = w.os) (ht : w0.tape = w.tape) (hout : w0.output = w.output) :
    ∃ γ', Rel P (σ.push (.cells c e ch)) γ' (w0.alloc (.cells C e)) ∧ Fram σ γ w (w0.alloc (.cells C e)) ∧ Grows σ (σ.push (.cells c e ch)) γ γ' ∧ NewB σ γ γ' w ∧
      γ' σ.next = some ⟨w.heap.size, 0, C.size, E, Nat.zero_mod _⟩ := by
  have hp : (w0.alloc (.cells C e)).heap = w.heap.push (.cells C e) := by rw [← hh]; rfl
  exact ⟨γ.put σ.next ⟨w.heap.size, 0, C.size, E, Nat.zero_mod _⟩, R.pushNew hp ho ht hout hE hch hc (fun o _ => by simp) hL h1, Fram.pushNew hp, Grows.push R _ _, NewB.put (Nat.le_refl _), Gm.put_same ..⟩

theorem buildSlice_sound (hz : ZeroOk P) (R : Rel P σ γ w) {t : TypeId} {len : Nat} {ps ps' : Array (Nat × Value)} (hp : PR σ.base γ ps ps') {r : Value × AHeap} (h : aBuildSlice P σ t len ps = some r) :
    OpOk P σ γ w r (Instr.buildSlice t len ps') := by
  unfold aBuildSlice at h
  split at h
  · rename_i hn
    split at h
    · rename_i e hu
      rw [Option.bind_eq_some_iff] at h
      obtain ⟨n, hsn, h⟩ := h
      rw [Option.bind_eq_some_iff] at h
      obtain ⟨z, hzz, h⟩ := h
      split at h
      · rename_i hle
        rw [Option.map_eq_some_iff] at h
        obtain ⟨C, hC, rfl⟩ := h
        have hzc := hz.const hzz
        have hzs := hz.size hzz hsn
        have hn' : ∀ p ∈ ps.toList, noTuple p.2 = true := fun p hp => by
          rw [Array.all_eq_true_iff_forall_mem] at hn; exact hn p (by simpa using hp)
        have hpl : ps.toList.length = ps'.toList.length := by simpa using hp.1
        have hpp : ∀ (i : Nat) p p', ps.toList[i]? = some p → ps'.toList[i]? = some p' → p'.1 = p.1 ∧ VR σ.base γ p.2 p'.2 := fun i p p' a b => hp.2 i p p' (by simpa using a) (by simpa using b)
        by_cases h0 : len * n = 0
        · -- no cells at all
          have hb : ((Array.range (len * n)).map (z.cells[· % z.cells.size]!)) = #[] := by rw [h0]; simp
          rw [hb] at hC
          obtain ⟨C', hC', hL, h1⟩ := fill_sound (base := σ.base) hpl hpp hn' LR.nil (by simp) hC
          have hlen : C.size = C'.size := by simpa using hL.1
          obtain ⟨γ', R', F, G, N, hg⟩ := newRow_sound R (E := n) hsn (c := C.toList) (C := C') (ch := σ.next) (Nat.le_refl _) (by simp [hlen]) (by rw [Array.length_toList, hlen, ← Array.length_toList, List.take_length]; exact hL) h1 rfl rfl rfl rfl
          have hcs : ∀ {x : Array Value}, Instr.fill (fun i => some (i * n, n)) #[] ps.toList = some x → x.size = 0 := by
            intro x
            have : ∀ (l : List (Nat × Value)) (d x : Array Value), Instr.fill (fun i => some (i * n, n)) d l = some x → x.size = d.size := by
              intro l
              induction l with
              | nil => intro d x h; simp [Instr.fill] at h; rw [h]
              | cons p l ih =>
                intro d x h
                simp only [Instr.fill] at h
                split at h
                · cases h
                · have := ih _ _ h
                  rw [this, fold_zip]
                  have key : ∀ (l : List (Value × Nat)) (d : Array Value), (l.foldl (fun cs (x : Value × Nat) => cs.setIfInBounds (p.1 * n + x.2) x.1) d).size = d.size := by
                    intro l; induction l with
                    | nil => intro d; rfl
                    | cons y l ihl => intro d; simp [ihl]
                  exact key _ _
            intro h; simpa using this _ _ _ h
          have hs0 : C'.size = 0 := by rw [← hlen]; exact hcs hC
          refine ⟨γ', _, .slice (some ⟨w.heap.size, 0, none⟩) len len, ?_, ?_, R', F, G, N⟩
          · have hbb : Array.map (fun x => (#[] : Array Value)[x % (#[] : Array Value).size]!) (Array.range 0) = #[] := by simp
            simp only [Instr.buildSlice, Sem.run_bind, run_underlying hu, Result.andThen_ok, run_size hsn]
            rw [if_neg (by omega)]
            simp only [h0, if_true, Sem.run_bind, Sem.run_pure, Result.andThen_ok, hbb, hC', newRow, run_newObj, World.alloc_eq]
          · have := VR.slNew (base := σ.base) (γ := γ') σ.next 0 len len len _ R.next hg (Nat.le_refl _) (fun h => h) (by simp only [Nat.zero_add]; rw [h0]; exact Nat.zero_le _)
            simpa using this
        · have hpos : 0 < n := by rcases Nat.eq_zero_or_pos n with h | h; (subst h; simp at h0); exact h
          obtain ⟨i0, hi0, hsz0⟩ := szOf_some hsn
          by_cases hcz : 0 < z.cells.size
          · obtain ⟨hzr, hz1⟩ := zero_row (base := σ.base) (γ := γ) hzc (len * n) (.inl hcz)
            obtain ⟨C', hC', hL, h1⟩ := fill_sound (base := σ.base) hpl hpp hn' hzr hz1 hC
            have hlen : C.size = C'.size := by simpa using hL.1
            obtain ⟨γ', R', F, G, N, hg⟩ := newRow_sound R (E := n) hsn (c := C.toList) (C := C') (ch := σ.next) (Nat.le_refl _) (by simp [hlen]) (by rw [Array.length_toList, hlen, ← Array.length_toList, List.take_length]; exact hL) h1 rfl rfl rfl rfl
            have hsize : C.size = len * n := by
              have : ∀ (l : List (Nat × Value)) (d x : Array Value), Instr.fill (fun i => some (i * n, n)) d l = some x → x.size = d.size := by
                intro l
                induction l with
                | nil => intro d x h; simp [Instr.fill] at h; rw [h]
                | cons p l ih =>
                  intro d x h
                  simp only [Instr.fill] at h
                  split at h
                  · cases h
                  · have := ih _ _ h
                    rw [this, fold_zip]
                    have key : ∀ (l : List (Value × Nat)) (d : Array Value), (l.foldl (fun cs (x : Value × Nat) => cs.setIfInBounds (p.1 * n + x.2) x.1) d).size = d.size := by
                      intro l; induction l with
                      | nil => intro d; rfl
                      | cons y l ihl => intro d; simp [ihl]
                    exact key _ _
              rw [this _ _ _ hC]; simp
            refine ⟨γ', _, .slice (some ⟨w.heap.size, 0, none⟩) len len, ?_, ?_, R', F, G, N⟩
            · simp only [Instr.buildSlice, Sem.run_bind, run_underlying hu, Result.andThen_ok, run_size hsn]
              rw [if_neg (by omega)]
              simp only [if_neg h0, Sem.run_bind, run_zero hzz, Sem.run_pure, Result.andThen_ok, hC', newRow, run_newObj, World.alloc_eq]
            · have := VR.slNew (base := σ.base) (γ := γ') σ.next 0 len len len _ R.next hg (Nat.le_refl _) (fun h => h) (by simp only [Nat.zero_add]; omega)
              simpa using this
          · omega
      · cases h
    · cases h
  · cases h

theorem makeSlice_sound (hz : ZeroOk P) (R : Rel P σ γ w) {t : TypeId} {l l' c c' : Value} (hl : VR σ.base γ l l') (hc : VR σ.base γ c c') {r : Value × AHeap} (h : aMakeSlice P σ t l c = some r) :
    OpOk P σ γ w r (Instr.makeSlice t l' c') := by
  unfold aMakeSlice at h
  split at h
  · rename_i e kl n kc m hu
    obtain rfl := hl.eq_of_const rfl
    obtain rfl := hc.eq_of_const rfl
    rw [Option.bind_eq_some_iff] at h
    obtain ⟨i, hi, h⟩ := h
    rw [Option.bind_eq_some_iff] at h
    obtain ⟨z, hzz, h⟩ := h
    split at h
    · rename_i hb
      obtain ⟨h0, h1, h2, h3⟩ := hb
      injection h with h; subst h
      obtain ⟨hzc, hzs⟩ := hz e i z hi hzz
      have hI := hi
      replace hi := infoOf_info hi
      have hwn : IntKind.i64.wrap n = n := IntWalk.i64_in _ (by omega)
      have hwm : IntKind.i64.wrap m = m := IntWalk.i64_in _ (by omega)
      have hE : szOf P e = some i.size := by simp [szOf, hi]
      have hbm : ¬ ((i.bytes : Int) * m > 2 ^ 48) := by
        have : (i.bytes : Int) * m ≤ 2 ^ 47 := h3
        omega
      by_cases hm0 : m.toNat * i.size = 0
      · obtain ⟨γ', R', F, G, N, hg⟩ := newRow_sound R (E := i.size) hE (c := ((Array.range (m.toNat * i.size)).map (z.cells[· % z.cells.size]!)).toList) (C := #[]) (ch := σ.next) (Nat.le_refl _) (by simp [hm0]) (by simp [hm0]; exact LR.nil) (by simp [hm0]) rfl rfl rfl rfl
        refine ⟨γ', _, .slice (some ⟨w.heap.size, 0, none⟩) n.toNat m.toNat, ?_, ?_, R', F, G, N⟩
        · have hb0 : Array.map (fun x => (#[] : Array Value)[x % (#[] : Array Value).size]!) (Array.range 0) = #[] := by simp
          simp only [Instr.makeSlice, Sem.run_bind, run_underlying hu, Result.andThen_ok, asInt, asIntOf, Sem.run_pure, run_info hi, hwn, hwm]
          rw [if_neg (by simp only [Bool.or_eq_true, decide_eq_true_eq, not_or]; omega)]
          simp only [Sem.run_bind, run_askRoom, Result.andThen_ok, run_size hE, hm0, if_true, Sem.run_pure, hb0, newRow, run_newObj, World.alloc_eq]
        · have := VR.slNew (base := σ.base) (γ := γ') σ.next 0 n.toNat m.toNat m.toNat _ R.next hg (by omega) (fun h => h) (by simp only [Nat.zero_add]; rw [hm0]; exact Nat.zero_le _)
          simpa using this
      · have hzpos : 0 < z.cells.size := by
          rw [hzs]; rcases Nat.eq_zero_or_pos i.size with h | h
          · rw [h] at hm0; simp at hm0
          · exact h
        obtain ⟨hzr, hz1⟩ := zero_row (base := σ.base) (γ := γ) hzc (m.toNat * i.size) (.inl hzpos)
        obtain ⟨γ', R', F, G, N, hg⟩ := newRow_sound R (E := i.size) hE (c := ((Array.range (m.toNat * i.size)).map (z.cells[· % z.cells.size]!)).toList) (C := (Array.range (m.toNat * i.size)).map (z.cells[· % z.cells.size]!)) (ch := σ.next) (Nat.le_refl _) (by simp) (by rw [List.take_of_length_le (by simp)]; exact hzr) hz1 rfl rfl rfl rfl
        refine ⟨γ', _, .slice (some ⟨w.heap.size, 0, none⟩) n.toNat m.toNat, ?_, ?_, R', F, G, N⟩
        · simp only [Instr.makeSlice, Sem.run_bind, run_underlying hu, Result.andThen_ok, asInt, asIntOf, Sem.run_pure, run_info hi, hwn, hwm]
          rw [if_neg (by simp only [Bool.or_eq_true, decide_eq_true_eq, not_or]; omega)]
          have hzz' : zeroOf P e = some z := by simp [zeroOf, hI, hzz]
          simp only [Sem.run_bind, run_askRoom, Result.andThen_ok, run_size hE, if_neg hm0, run_zero hzz', Sem.run_pure, newRow, run_newObj, World.alloc_eq]
        · have := VR.slNew (base := σ.base) (γ := γ') σ.next 0 n.toNat m.toNat m.toNat _ R.next hg (by omega) (fun h => h) (by simp)
          simpa using this
    · cases h
  · cases h

/-! ### Parts, fields, indexes -/
theorem part_sound {base : Nat} {t : TypeId} {cs cs' : Array Value} {off : Nat} {v : Value} (hL : LR base γ cs.toList cs'.toList) (h1 : ∀ u ∈ cs.toList, u.oneC = true) (h : aPart P t cs off = some v) :
    ∃ v', (part t cs' off).run P w = .ok v' w ∧ VR base γ v v' := by
  unfold aPart at h
  split at h
  · rename_i hag
    rw [Option.map_eq_some_iff] at h
    obtain ⟨n, hn, rfl⟩ := h
    refine ⟨.agg (cs'.extract off (off + n)), by simp [part, run_agg hag, run_size hn], ?_⟩
    have := VR.aggL (base := base) (γ := γ) ((hL.drop off).take n) (fun u hu => h1 u (List.mem_of_mem_drop (List.mem_of_mem_take hu)))
    have e : ∀ (a : Array Value), ((a.toList.drop off).take n).toArray = a.extract off (off + n) := fun a => by
      apply Array.ext'
      simp [List.extract_eq_take_drop]
    rw [e, e] at this
    exact this
  · rename_i hag
    obtain ⟨v', hv', hvr⟩ := hL.get (i := off) (v := v) (by simpa using h)
    refine ⟨v', ?_, hvr⟩
    simp only [part, Sem.run_bind, run_agg hag, Result.andThen_ok]
    have : cs'[off]? = some v' := by simpa using hv'
    simp [this]
  · cases h

theorem field_sound (R : Rel P σ γ w) {t : TypeId} {x x' v : Value} {i : Nat} (hx : VR σ.base γ x x') (h : aField P t x i = some v) : OpPure P σ γ w v (Instr.field t x' i) := by
  unfold aField at h
  split at h
  · rename_i fs cs hu
    obtain ⟨cs', rfl, hL, h1⟩ := hx.aggInv
    rw [Option.bind_eq_some_iff] at h
    obtain ⟨f, hf, h⟩ := h
    obtain ⟨v', hr, hv⟩ := part_sound (w := w) hL h1 h
    exact OpPure.intro R (by simp [Instr.field, run_underlying hu, hf, asAgg, hr]) hv
  · cases h

theorem ptr_add {base : Nat} {a a' : Addr} (h : VR base γ (.pointer (some a)) (.pointer (some a'))) (n : Nat) :
    VR base γ (.pointer (some ⟨a.block, a.off + n, none⟩)) (.pointer (some (a'.add n))) := by
  cases h with
  | ptrOld _ h hs =>
    have : a.add n = ⟨a.block, a.off + n, none⟩ := by
      have : a = ⟨a.block, a.off, none⟩ := by cases a; simp_all
      rw [this, addr_add]
    rw [this]
    exact .ptrOld _ h rfl
  | ptrNew b o e h he =>
    rw [addr_add, show o + e.s + n = o + n + e.s by omega]
    exact .ptrNew b (o + n) e h he

theorem fieldAddr_sound (R : Rel P σ γ w) {t : TypeId} {x x' v : Value} {i : Nat} (hx : VR σ.base γ x x') (h : aFieldAddr P t x i = some v) : OpPure P σ γ w v (Instr.fieldAt t x' i) := by
  unfold aFieldAddr at h
  split at h
  · rename_i fs a hu
    obtain ⟨a', rfl⟩ := ptr_inv hx
    rw [Option.bind_eq_some_iff] at h
    obtain ⟨f, hf, h⟩ := h
    split at h
    · rename_i hc
      injection h with h; subst h
      obtain ⟨n, hn⟩ := Option.ne_none_iff_exists'.1 hc.2.1
      have hn0 : n ≠ 0 := fun h0 => hc.2.2 (by rw [hn, h0])
      refine OpPure.intro R (v' := .pointer (some (a'.add f.offset))) ?_ (ptr_add hx _)
      simp only [Instr.fieldAt, Sem.run_bind, run_underlying hu, Result.andThen_ok, hf, run_sureAddr, fieldPlace, run_size hn, if_neg hn0, Sem.run_pure]
    · cases h
  · cases h

theorem indexAddr_sound (R : Rel P σ γ w) {t : TypeId} {x x' i i' v : Value} (hx : VR σ.base γ x x') (hi : VR σ.base γ i i') (h : aIndexAddr P t x i = some v) :
    OpPure P σ γ w v (Instr.indexAt t x' i') := by
  unfold aIndexAddr at h
  split at h
  · rename_i e a len cap k j hu
    obtain rfl := hi.eq_of_const rfl
    rw [Option.bind_eq_some_iff] at h
    obtain ⟨n, hn, h⟩ := h
    split at h
    · rename_i hc
      injection h with h; subst h
      cases hx with
      | slOld _ _ _ hb hs hle =>
        refine OpPure.intro R (v' := .pointer (some (a.add (j.toNat * n)))) ?_ (ptr_add (.ptrOld a hb hs) _)
        simp only [Instr.indexAt, asIntOf, Sem.run_bind, Sem.run_pure, Result.andThen_ok, run_underlying hu]
        rw [if_pos ⟨hc.2.1, hc.2.2⟩]
        simp [run_size hn]
      | slNew b o _ _ c' e' hb hg hle hcc hN =>
        refine OpPure.intro R (v' := .pointer (some ((⟨e'.B, o + e'.s, none⟩ : Addr).add (j.toNat * n)))) ?_ (ptr_add (.ptrNew b o e' hb hg) _)
        simp only [Instr.indexAt, asIntOf, Sem.run_bind, Sem.run_pure, Result.andThen_ok, run_underlying hu]
        rw [if_pos ⟨hc.2.1, hc.2.2⟩]
        simp [run_size hn]
      | slEmpty _ a' _ _ _ => have := hc.2; simp at this; omega
    · cases h
  · rename_i len e a k j hu
    obtain rfl := hi.eq_of_const rfl
    obtain ⟨a', rfl⟩ := ptr_inv hx
    rw [Option.bind_eq_some_iff] at h
    obtain ⟨n, hn, h⟩ := h
    split at h
    · rename_i hc
      injection h with h; subst h
      refine OpPure.intro R (v' := .pointer (some (a'.add (j.toNat * n)))) ?_ (ptr_add hx _)
      simp only [Instr.indexAt, asIntOf, Sem.run_bind, Sem.run_pure, Result.andThen_ok, run_underlying hu, run_sureAddr]
      rw [if_pos ⟨hc.2.1, hc.2.2⟩]
      simp [run_size hn]
    · cases h
  · cases h

theorem index_sound (R : Rel P σ γ w) {t : TypeId} {x x' i i' v : Value} (hx : VR σ.base γ x x') (hi : VR σ.base γ i i') (h : aIndex P t x i = some v) :
    OpPure P σ γ w v (Instr.index t x' i') := by
  unfold aIndex at h
  split at h
  · rename_i s k j hu
    obtain rfl := hi.eq_of_const rfl
    obtain rfl := hx.eq_of_const rfl
    split at h
    · rename_i hc
      injection h with h; subst h
      refine OpPure.intro R ?_ (.int .u8 _)
      simp only [Instr.index, asIntOf, Sem.run_bind, Sem.run_pure, Result.andThen_ok, run_underlying hu, if_pos hc.1]
      have : s[j.toNat]? = some (s[j.toNat]'hc.2) := by simp [getElem?_pos, hc.2]
      simp [this]
    · cases h
  · rename_i len e cs k j hu
    obtain rfl := hi.eq_of_const rfl
    obtain ⟨cs', rfl, hL, h1⟩ := hx.aggInv
    rw [Option.bind_eq_some_iff] at h
    obtain ⟨n, hn, h⟩ := h
    split at h
    · rename_i hc
      obtain ⟨v', hr, hv⟩ := part_sound (w := w) hL h1 h
      refine OpPure.intro R (v' := v') ?_ hv
      simp only [Instr.index, asIntOf, Sem.run_bind, Sem.run_pure, Result.andThen_ok, run_underlying hu, if_pos hc, run_size hn, hr]
    · cases h
  · cases h

end
end Go.Am
/- AmG -/
set_option linter.unusedVariables false
set_option linter.unusedSimpArgs false
namespace Go.Am
section
variable {P : Program} {σ : AHeap} {γ : Gm} {w : World}

def OV (base : Nat) (γ : Gm) (x x' : Option Value) : Prop := (x = none ∧ x' = none) ∨ ∃ v v', x = some v ∧ x' = some v' ∧ VR base γ v v'

theorem bound_spec {base : Nat} {x x' : Option Value} {d l : Nat} (hx : OV base γ x x') (h : aBound x d = some l) :
    x' = x ∧ ((x = none ∧ l = d) ∨ ∃ k i, x = some (.int k i) ∧ 0 ≤ i ∧ l = i.toNat) := by
  rcases hx with ⟨rfl, rfl⟩ | ⟨v, v', rfl, rfl, hv⟩
  · simp [aBound] at h; exact ⟨rfl, .inl ⟨rfl, h.symm⟩⟩
  · cases v <;> simp [aBound] at h
    rename_i k i
    have := hv.eq_of_const rfl
    subst this
    exact ⟨rfl, .inr ⟨k, i, rfl, h.1, h.2.symm⟩⟩

theorem run_bounds {isS : Bool} {len cap : Nat} {lo hi : Option Value} {l h : Nat} (hl : (lo = none ∧ l = 0) ∨ ∃ k i, lo = some (.int k i) ∧ 0 ≤ i ∧ l = i.toNat)
    (hh : (hi = none ∧ h = len) ∨ ∃ k i, hi = some (.int k i) ∧ 0 ≤ i ∧ h = i.toNat) (h1 : l ≤ h) (h2 : h ≤ cap) :
    (Instr.sliceBounds isS len cap lo hi none).run P w = .ok (l, h, cap) w := by
  rcases hl with ⟨rfl, rfl⟩ | ⟨kl, il, rfl, l0, rfl⟩ <;> rcases hh with ⟨rfl, rfl⟩ | ⟨kh, ih, rfl, h0, rfl⟩
  · simp only [Instr.sliceBounds, Sem.run_bind, Sem.run_pure, Result.andThen_ok]
  · simp only [Instr.sliceBounds, Sem.run_bind, Sem.run_pure, Result.andThen_ok, run_sliceBound _ kh ih cap _ h0 (by omega)]
  · simp only [Instr.sliceBounds, Sem.run_bind, Sem.run_pure, Result.andThen_ok, run_sliceBound _ kl il h _ l0 (by omega)]
  · simp only [Instr.sliceBounds, Sem.run_bind, Sem.run_pure, Result.andThen_ok, run_sliceBound _ kh ih cap _ h0 (by omega), run_sliceBound _ kl il ih.toNat _ l0 (by omega)]

theorem run_bounds3 {len cap : Nat} {lo : Option Value} {kh km : IntKind} {ih im : Int} {l h m : Nat} (hl : (lo = none ∧ l = 0) ∨ ∃ k i, lo = some (.int k i) ∧ 0 ≤ i ∧ l = i.toNat)
    (h0 : 0 ≤ ih) (hh : h = ih.toNat) (m0 : 0 ≤ im) (hm : m = im.toNat) (h1 : l ≤ h) (h2 : h ≤ m) (h3 : m ≤ cap) :
    (Instr.sliceBounds true len cap lo (some (.int kh ih)) (some (.int km im))).run P w = .ok (l, h, m) w := by
  subst hh; subst hm
  rcases hl with ⟨rfl, rfl⟩ | ⟨kl, il, rfl, l0, rfl⟩
  · simp only [Instr.sliceBounds, Sem.run_bind, Sem.run_pure, Result.andThen_ok, run_sliceBound _ km im cap _ m0 (by omega), run_sliceBound _ kh ih im.toNat _ h0 (by omega)]
  · simp only [Instr.sliceBounds, Sem.run_bind, Sem.run_pure, Result.andThen_ok, run_sliceBound _ km im cap _ m0 (by omega), run_sliceBound _ kh ih im.toNat _ h0 (by omega), run_sliceBound _ kl il ih.toNat _ l0 (by omega)]

theorem sliceAt_run {t e : TypeId} (hu : P.underlying t = some (.slice e)) (x : Value) (lo hi mx : Option Value) : (Instr.sliceAt t x lo hi mx).run P w = (Instr.slice t x lo hi mx).run P w := by
  simp only [Instr.sliceAt, Sem.run_bind, run_underlying hu, Result.andThen_ok]

set_option maxHeartbeats 2000000 in
theorem slice_sound (R : Rel P σ γ w) {t : TypeId} {x x' v : Value} {lo lo' hi hi' mx mx' : Option Value} (hx : VR σ.base γ x x') (hlo : OV σ.base γ lo lo') (hhi : OV σ.base γ hi hi') (hmx : OV σ.base γ mx mx')
    (h : aSlice P σ t x lo hi mx = some v) : OpPure P σ γ w v (Instr.sliceAt t x' lo' hi' mx') := by
  unfold aSlice at h
  split at h
  · -- a string
    rename_i s hu
    obtain rfl := hx.eq_of_const rfl
    split at h
    · cases h
    · obtain rfl : mx' = none := by rcases hmx with ⟨_, h⟩ | ⟨_, _, h, _⟩; exact h; cases h
      rw [Option.bind_eq_some_iff] at h
      obtain ⟨l, hl, h⟩ := h
      rw [Option.bind_eq_some_iff] at h
      obtain ⟨hh, hhh, h⟩ := h
      split at h
      · rename_i hc
        injection h with h; subst h
        obtain ⟨rfl, hl⟩ := bound_spec hlo hl
        obtain ⟨rfl, hhh⟩ := bound_spec hhi hhh
        refine OpPure.intro R (v' := .string (s.extract l hh)) ?_ (.string _)
        have hb := run_bounds (P := P) (w := w) (isS := false) (len := s.size) (cap := s.size) hl hhh hc.1 hc.2
        simp only [Instr.sliceAt, Instr.slice, Sem.run_bind, run_underlying hu, Result.andThen_ok, Option.isSome_none, Bool.false_eq_true, if_false, hb, Sem.run_pure]
      · cases h
  · -- nil
    rename_i e n0 c0 hu
    split at h
    · cases h
    · obtain rfl : mx' = none := by rcases hmx with ⟨_, h⟩ | ⟨_, _, h, _⟩; exact h; cases h
      rw [Option.bind_eq_some_iff] at h
      obtain ⟨n, hn, h⟩ := h
      rw [Option.bind_eq_some_iff] at h
      obtain ⟨l, hl, h⟩ := h
      rw [Option.bind_eq_some_iff] at h
      obtain ⟨hh, hhh, h⟩ := h
      split at h
      · rename_i hc
        obtain ⟨rfl, rfl⟩ := hc
        injection h with h; subst h
        obtain ⟨rfl, hl⟩ := bound_spec hlo hl
        obtain ⟨rfl, hhh⟩ := bound_spec hhi hhh
        cases hx
        refine OpPure.intro R (v' := .slice none 0 0) ?_ .sl0
        have hb := run_bounds (P := P) (w := w) (isS := true) (len := 0) (cap := 0) hl hhh (Nat.le_refl _) (Nat.le_refl _)
        simp only [sliceAt_run hu, Instr.slice, Sem.run_bind, run_underlying hu, Result.andThen_ok, hb, run_size hn, Sem.run_pure]
        rfl
      · cases h
  · rename_i e a len cap hu
    rw [Option.bind_eq_some_iff] at h
    obtain ⟨n, hn, h⟩ := h
    rw [Option.bind_eq_some_iff] at h
    obtain ⟨l, hl, h⟩ := h
    rw [Option.bind_eq_some_iff] at h
    obtain ⟨hh, hhh, h⟩ := h
    obtain ⟨rfl, hl⟩ := bound_spec hlo hl
    obtain ⟨rfl, hhh⟩ := bound_spec hhi hhh
    split at h
    · rename_i hc
      obtain ⟨h1, h2, hsp, hss⟩ := hc
      obtain ⟨b, o, sp⟩ := a
      simp only at hsp
      subst hsp
      split at h
      · -- two indexes
        injection h with h
        obtain rfl : mx' = none := by rcases hmx with ⟨_, h⟩ | ⟨_, _, h, _⟩; exact h; cases h
        have run : ∀ (a' : Addr) (c' : Nat), hh ≤ c' → (Instr.sliceAt t (.slice (some a') len c') lo' hi' none).run P w = .ok (.slice (some (if c' = l then a' else a'.add (l * n))) (hh - l) (c' - l)) w := by
          intro a' c' hle
          have hb := run_bounds (P := P) (w := w) (isS := true) (len := len) (cap := c') hl hhh h1 hle
          simp only [sliceAt_run hu, Instr.slice, Sem.run_bind, run_underlying hu, Result.andThen_ok, hb, run_size hn, Sem.run_pure]
          congr 2
          split <;> rfl
        cases hx with
        | slOld _ _ _ hb hs hle =>
          simp only at hb
          rw [if_pos hb] at h
          subst h
          refine OpPure.intro R (run _ cap (by omega)) ?_
          by_cases hcl : cap = l
          · subst hcl
            rw [if_pos rfl, show hh - cap = 0 by omega, show cap - cap = 0 by omega]
            exact .slEmpty _ _ _ rfl rfl
          · rw [if_neg hcl, addr_add]
            exact .slOld _ _ _ hb rfl (by omega)
        | slNew _ _ _ _ c' e' hb hg hle hcc hN =>
          rw [if_neg (show ¬ b < σ.base by omega)] at h
          subst h
          refine OpPure.intro R (run _ c' (by omega)) ?_
          have hE : n = e'.E := by
            unfold sameSize at hss
            simp only [Bool.or_eq_true, decide_eq_true_eq] at hss
            rcases hss with hss | hss
            · omega
            · split at hss
              · rename_i c el ch hget
                obtain ⟨_, _, _, _, hE, _⟩ := R.cells _ _ _ _ _ hget hg
                rw [hE] at hss
                simp at hss; exact hss.symm
              · cases hss
          by_cases hcl : c' = l
          · subst hcl
            rw [if_pos rfl, show hh - c' = 0 by omega, show c' - c' = 0 by omega]
            exact .slEmpty _ _ _ rfl rfl
          · rw [if_neg hcl, addr_add, show o + e'.s + l * n = o + l * n + e'.s by omega]
            refine .slNew b (o + l * n) (hh - l) _ (c' - l) e' hb hg (by omega) ?_ ?_
            · intro hq
              split at hq
              · rename_i hq2; have := hcc hq2.1; omega
              · omega
            · subst hE
              have : l * e'.E + (c' - l) * e'.E = c' * e'.E := by rw [← Nat.add_mul, show l + (c' - l) = c' by omega]
              omega
        | slEmpty _ a' _ hs hs' =>
          have hl0 : l = 0 := by omega
          have hh0 : hh = 0 := by omega
          subst hl0; subst hh0
          have := run a' 0 (Nat.le_refl _)
          rw [if_pos rfl] at this
          subst h
          exact OpPure.intro R this (.slEmpty _ _ _ rfl hs')
      · -- three indexes
        rename_i mv
        rw [Option.bind_eq_some_iff] at h
        obtain ⟨m, hm, h⟩ := h
        obtain ⟨rfl, hm⟩ := bound_spec hmx hm
        split at h
        · rename_i hmh
          obtain ⟨rfl, his⟩ := hmh
          injection h with h
          rcases hhh with ⟨rfl, _⟩ | ⟨kh, ih, rfl, hi0, hhi'⟩
          · simp at his
          · rcases hm with ⟨hm, _⟩ | ⟨km, im, hm, m0, hmi⟩
            · cases hm
            · injection hm with hm; subst hm
              have run : ∀ (a' : Addr) (c' : Nat), m ≤ c' → (Instr.sliceAt t (.slice (some a') len c') lo' (some (.int kh ih)) (some (.int km im))).run P w = .ok (.slice (some (if m = l then a' else a'.add (l * n))) (m - l) (m - l)) w := by
                intro a' c' hle
                have hb := run_bounds3 (P := P) (w := w) (len := len) (cap := c') (kh := kh) (km := km) hl hi0 hhi' m0 hmi h1 (Nat.le_refl _) hle
                simp only [sliceAt_run hu, Instr.slice, Sem.run_bind, run_underlying hu, Result.andThen_ok, hb, run_size hn, Sem.run_pure]
                congr 2
                split <;> rfl
              cases hx with
              | slOld _ _ _ hb hs hle =>
                subst h
                refine OpPure.intro R (run _ cap (by omega)) ?_
                by_cases hcl : m = l
                · subst hcl
                  rw [if_pos rfl, show m - m = 0 by omega]
                  exact .slEmpty _ _ _ rfl rfl
                · rw [if_neg hcl, addr_add]
                  exact .slOld _ _ _ hb rfl (Nat.le_refl _)
              | slNew _ _ _ _ c' e' hb hg hle hcc hN =>
                subst h
                refine OpPure.intro R (run _ c' (by omega)) ?_
                have hE : n = e'.E := by
                  unfold sameSize at hss
                  simp only [Bool.or_eq_true, decide_eq_true_eq] at hss
                  rcases hss with hss | hss
                  · omega
                  · split at hss
                    · rename_i c el ch hget
                      obtain ⟨_, _, _, _, hE, _⟩ := R.cells _ _ _ _ _ hget hg
                      rw [hE] at hss
                      simp at hss; exact hss.symm
                    · cases hss
                by_cases hcl : m = l
                · subst hcl
                  rw [if_pos rfl, show m - m = 0 by omega]
                  exact .slEmpty _ _ _ rfl rfl
                · rw [if_neg hcl, addr_add, show o + e'.s + l * n = o + l * n + e'.s by omega]
                  refine .slNew b (o + l * n) (m - l) _ (m - l) e' hb hg (Nat.le_refl _) (fun h => h) ?_
                  subst hE
                  have h5 : l * e'.E + (m - l) * e'.E = m * e'.E := by rw [← Nat.add_mul, show l + (m - l) = m by omega]
                  have h6 : m * e'.E ≤ c' * e'.E := Nat.mul_le_mul_right _ (by omega)
                  omega
              | slEmpty _ a' _ hs hs' =>
                have hl0 : l = 0 := by omega
                have hh0 : m = 0 := by omega
                subst hl0; subst hh0
                have := run a' 0 (Nat.le_refl _)
                rw [if_pos rfl] at this
                subst h
                exact OpPure.intro R this (.slEmpty _ _ _ rfl hs')
        · cases h
    · cases h
  · cases h

end
end Go.Am
/- AmH -/
set_option linter.unusedVariables false
set_option linter.unusedSimpArgs false
namespace Go.Am
section
variable {P : Program} {σ : AHeap} {γ : Gm} {w : World}

theorem beq_bytes (a b : ByteArray) : (a == b) = decide (a = b) := by
  rw [beq_toListBytes, ByteArray.toList_eq, ByteArray.toList_eq]
  obtain ⟨⟨x⟩⟩ := a
  obtain ⟨⟨y⟩⟩ := b
  by_cases h : x = y
  · subst h; simp
  · have : ¬ ((⟨⟨x⟩⟩ : ByteArray) = ⟨⟨y⟩⟩) := by intro e; injection e with e; injection e with e; exact h e
    simp [h, this]

theorem foldlM_false {α : Type} (f : Bool → α → Option Bool) (hf : ∀ x, f false x = some false) : ∀ (l : List α), l.foldlM f false = some false
  | [] => rfl
  | x :: l => by simp only [List.foldlM_cons, hf, Option.bind_eq_bind, Option.bind_some]; exact foldlM_false f hf l

theorem VR.ptr_same {base : Nat} {a b : Addr} {x y : Value} (hx : VR base γ (.pointer (some a)) x) (hy : VR base γ (.pointer (some b)) y) (hb : a.block = b.block) :
    ∃ a' b', x = .pointer (some a') ∧ y = .pointer (some b') ∧ a'.block = b'.block ∧ (a' = b' ↔ a = b) := by
  cases hx with
  | ptrOld _ h hs =>
    cases hy with
    | ptrOld _ h' hs' => exact ⟨a, b, rfl, rfl, hb, Iff.rfl⟩
    | ptrNew b1 o1 e1 h1 g1 => simp only at hb; omega
  | ptrNew b0 o0 e0 h0 g0 =>
    cases hy with
    | ptrOld _ h' hs' => simp only at hb; omega
    | ptrNew b1 o1 e1 h1 g1 =>
      simp only at hb
      subst hb
      rw [g0] at g1; injection g1 with g1; subst g1
      refine ⟨_, _, rfl, rfl, rfl, ?_⟩
      simp only [Addr.mk.injEq]
      constructor
      · rintro ⟨_, h, _⟩; exact ⟨trivial, by omega, trivial⟩
      · rintro ⟨_, h, _⟩; exact ⟨trivial, by omega, trivial⟩

set_option maxHeartbeats 4000000 in
theorem eq_sound {base : Nat} : ∀ (d : Nat) {t : TypeId} {x x' y y' : Value} {b : Bool}, VR base γ x x' → VR base γ y y' → aEq P d t x y = some b → (Op.equalIn d t x' y').run P w = .ok b w := by
  intro d
  induction d with
  | zero => intro t x x' y y' b _ _ h; simp [aEq] at h
  | succ d ih =>
    intro t x x' y y' b hx hy h
    unfold aEq at h
    split at h
    · rename_i hu
      obtain rfl := hx.eq_of_const rfl; obtain rfl := hy.eq_of_const rfl
      injection h with h; subst h
      simp only [Op.equalIn, Sem.run_bind, run_underlying hu, Result.andThen_ok, Sem.run_pure]
    · rename_i hu
      obtain rfl := hx.eq_of_const rfl; obtain rfl := hy.eq_of_const rfl
      split at h
      · rename_i hk
        injection h with h; subst h
        simp only [Op.equalIn, Sem.run_bind, run_underlying hu, Result.andThen_ok, if_pos hk, Sem.run_pure]
        congr 1
      · cases h
    · rename_i hu
      obtain rfl := hx.eq_of_const rfl; obtain rfl := hy.eq_of_const rfl
      injection h with h; subst h
      simp only [Op.equalIn, Sem.run_bind, run_underlying hu, Result.andThen_ok, Sem.run_pure, beq_bytes]
    · rename_i hu
      injection h with h; subst h
      cases hx; cases hy <;> (simp only [Op.equalIn, Sem.run_bind, run_underlying hu, Result.andThen_ok, Sem.run_pure]; try rfl)
    · rename_i hu
      injection h with h; subst h
      cases hy; cases hx <;> (simp only [Op.equalIn, Sem.run_bind, run_underlying hu, Result.andThen_ok, Sem.run_pure]; try rfl)
    · rename_i hu
      injection h with h; subst h
      cases hx; cases hy <;> (simp only [Op.equalIn, Sem.run_bind, run_underlying hu, Result.andThen_ok, Sem.run_pure]; try rfl)
    · rename_i hu
      injection h with h; subst h
      cases hy; cases hx <;> (simp only [Op.equalIn, Sem.run_bind, run_underlying hu, Result.andThen_ok, Sem.run_pure]; try rfl)
    · rename_i hu
      injection h with h; subst h
      cases hx; cases hy <;> (simp only [Op.equalIn, Sem.run_bind, run_underlying hu, Result.andThen_ok, Sem.run_pure]; try rfl)
    · rename_i hu
      injection h with h; subst h
      cases hy; cases hx <;> (simp only [Op.equalIn, Sem.run_bind, run_underlying hu, Result.andThen_ok, Sem.run_pure]; try rfl)
    · rename_i hu
      injection h with h; subst h
      cases hx; cases hy; (simp only [Op.equalIn, Sem.run_bind, run_underlying hu, Result.andThen_ok, Sem.run_pure]; try rfl)
    · rename_i hu
      injection h with h; subst h
      cases hx; cases hy; (simp only [Op.equalIn, Sem.run_bind, run_underlying hu, Result.andThen_ok, Sem.run_pure]; try rfl)
    · rename_i hu
      injection h with h; subst h
      cases hx; cases hy; (simp only [Op.equalIn, Sem.run_bind, run_underlying hu, Result.andThen_ok, Sem.run_pure]; try rfl)
    · rename_i fs xs ys hu
      obtain ⟨xs', rfl, hLx, h1x⟩ := hx.aggInv
      obtain ⟨ys', rfl, hLy, h1y⟩ := hy.aggInv
      split at h
      · cases h
      · rename_i hst
        have hst' : P.stoodInHeld t = false := by simpa using hst
        simp only [Op.equalIn, Sem.run_bind, run_underlying hu, Result.andThen_ok, run_program, hst', Bool.false_eq_true, if_false]
        rw [← Array.forIn_toList]
        generalize fs.toList = l at h ⊢
        clear hu
        induction l with
        | nil => simp at h; subst h; simp
        | cons f l ihl =>
          simp only [List.foldlM_cons] at h
          simp only [List.forIn_cons, Sem.run_bind]
          by_cases hf : f.name = "_"
          · simp only [hf, decide_true, Bool.or_true, if_true, Option.bind_eq_bind, Option.bind_some] at h
            simp only [hf, ne_eq, not_true_eq_false, if_false, Sem.run_pure, Result.andThen_ok]
            exact ihl h
          · simp only [hf, Bool.not_true, decide_false, Bool.or_false, Bool.false_eq_true, if_false, Option.bind_eq_bind] at h
            rw [Option.bind_eq_some_iff] at h
            obtain ⟨q, hq, h⟩ := h
            rw [Option.bind_eq_some_iff] at hq
            obtain ⟨u, hu, hq⟩ := hq
            rw [Option.bind_eq_some_iff] at hq
            obtain ⟨v, hv, hq⟩ := hq
            obtain ⟨u', hru, hvu⟩ := part_sound (w := w) hLx h1x hu
            obtain ⟨v', hrv, hvv⟩ := part_sound (w := w) hLy h1y hv
            have he := ih hvu hvv hq
            simp only [ne_eq, hf, not_false_eq_true, if_true, Sem.run_bind, hru, Result.andThen_ok, hrv, he]
            cases q with
            | true =>
              simp only [Bool.not_true, Bool.false_eq_true, if_false, Sem.run_pure, Result.andThen_ok]
              exact ihl h
            | false =>
              rw [foldlM_false _ (by intro x; simp)] at h
              injection h with h; subst h
              simp only [Bool.not_false, if_true, Sem.run_pure, Result.andThen_ok]
    · rename_i len e xs ys hu
      obtain ⟨xs', rfl, hLx, h1x⟩ := hx.aggInv
      obtain ⟨ys', rfl, hLy, h1y⟩ := hy.aggInv
      rw [Option.bind_eq_some_iff] at h
      obtain ⟨n, hn, h⟩ := h
      simp only [Op.equalIn, Sem.run_bind, run_underlying hu, Result.andThen_ok, run_size hn]
      simp only [Std.Legacy.Range.forIn_eq_forIn_range', Std.Legacy.Range.size, Nat.sub_zero, Nat.add_one_sub_one, Nat.div_one]
      rw [List.range_eq_range'] at h
      generalize List.range' 0 len = l at h ⊢
      clear hu
      induction l with
      | nil => simp at h; subst h; simp
      | cons i l ihl =>
        simp only [List.foldlM_cons, Bool.not_true, Bool.false_eq_true, if_false, Option.bind_eq_bind] at h
        simp only [List.forIn_cons, Sem.run_bind]
        rw [Option.bind_eq_some_iff] at h
        obtain ⟨q, hq, h⟩ := h
        rw [Option.bind_eq_some_iff] at hq
        obtain ⟨u, hu, hq⟩ := hq
        rw [Option.bind_eq_some_iff] at hq
        obtain ⟨v, hv, hq⟩ := hq
        obtain ⟨u', hru, hvu⟩ := part_sound (w := w) hLx h1x hu
        obtain ⟨v', hrv, hvv⟩ := part_sound (w := w) hLy h1y hv
        have he := ih hvu hvv hq
        simp only [Sem.run_bind, hru, Result.andThen_ok, hrv, he]
        cases q with
        | true =>
          simp only [Bool.not_true, Bool.false_eq_true, if_false, Sem.run_pure, Result.andThen_ok]
          exact ihl h
        | false =>
          rw [foldlM_false _ (by intro x; simp)] at h
          injection h with h; subst h
          simp only [Bool.not_false, if_true, Sem.run_pure, Result.andThen_ok]
    · rename_i el a b hu
      rw [Option.bind_eq_some_iff] at h
      obtain ⟨n, hn, h⟩ := h
      split at h
      · rename_i hb
        injection h with h; subst h
        obtain ⟨a', b', rfl, rfl, hbb, hiff⟩ := VR.ptr_same hx hy hb.2
        simp only [Op.equalIn, Sem.run_bind, run_underlying hu, Result.andThen_ok, run_size hn]
        rw [if_pos hb.1]
        have : (a' == b') = decide (a = b) := by
          by_cases hab : a = b
          · rw [decide_eq_true hab, beq_iff_eq]; exact hiff.2 hab
          · rw [decide_eq_false hab]; rw [beq_eq_false_iff_ne]; exact fun e => hab (hiff.1 e)
        simp only [sameAddr, hbb, beq_self_eq_true, if_true, this]
        rfl
      · cases h
    · cases h

/-! ### Arithmetic -/
theorem int_sound {op : BinOp} {k : IntKind} {a b : Int} {v : Value} {t : TypeId} (hs : op ≠ .shl) (hs' : op ≠ .shr) (h : aInt op k a b = some v) :
    (binOp op t (.int k a) (.int k b)).run P w = .ok v w ∧ constCell v = true := by
  cases op <;> simp only [aInt] at h <;> first
    | (cases h; done)
    | exact absurd rfl hs
    | exact absurd rfl hs'
    | (injection h with h; subst h; refine ⟨?_, rfl⟩; simp only [binOp, ne_eq, not_true_eq_false, if_false, Op.intArith, Op.intBits, Op.intCmp, Sem.run_pure, gt_iff_lt, ge_iff_le]; done)
    | (injection h with h; subst h; refine ⟨?_, rfl⟩; simp only [binOp, ne_eq, not_true_eq_false, if_false, Op.intCmp, Sem.run_pure, decide_not]; rfl)
    | (split at h
       · cases h
       · rename_i hb
         injection h with h; subst h; refine ⟨?_, rfl⟩; simp only [binOp, ne_eq, not_true_eq_false, if_false, Op.intDiv, if_neg hb, Sem.run_pure])

theorem str_sound {op : BinOp} {a b : ByteArray} {v : Value} {t : TypeId} (hs : op ≠ .shl) (hs' : op ≠ .shr) (h : aStr op a b = some v) :
    (binOp op t (.string a) (.string b)).run P w = .ok v w ∧ constCell v = true := by
  have he : (a.toList == b.toList) = decide (a = b) := by rw [← beq_toListBytes, beq_bytes]
  cases op <;> simp only [aStr] at h <;> first
    | (cases h; done)
    | (injection h with h; subst h; refine ⟨?_, rfl⟩; simp only [binOp, Op.stringOp, he, Sem.run_pure]; done)
    | (injection h with h; subst h; refine ⟨?_, rfl⟩; simp only [binOp, Op.stringOp, he, Sem.run_pure, ne_eq, decide_not]; done)
    | (split at h
       · rename_i hb
         injection h with h; subst h; refine ⟨?_, rfl⟩
         have : ¬ (((a.size + b.size : Nat) : Int) > IntKind.i64.max) := by
           have : IntKind.i64.max = 9223372036854775807 := rfl
           omega
         simp only [binOp, Op.stringOp, if_neg this, Sem.run_pure]
       · cases h)

theorem shift_sound {op : BinOp} {k k' : IntKind} {a b : Int} {v : Value} {t : TypeId} (hs : op = .shl ∨ op = .shr) (h : aShift op k a b = some v) :
    (binOp op t (.int k a) (.int k' b)).run P w = .ok v w ∧ constCell v = true := by
  unfold aShift at h
  split at h
  · cases h
  · rename_i hb
    rcases hs with rfl | rfl <;> simp only at h <;> injection h with h <;> subst h <;> refine ⟨?_, rfl⟩ <;>
      simp only [binOp, Op.shift, if_neg hb, Sem.run_pure]

theorem eqGuard_int {op : BinOp} {t : TypeId} {x y : Operand} {a b : Value} (h : a ≠ .nilIface) (h' : ∀ xs ys, ¬ (a = .agg xs ∧ b = .agg ys)) : (eqGuard op t x y a b).run P w = .ok () w := by
  cases op <;> first
    | rfl
    | (simp only [eqGuard, Bool.not_true, Bool.false_eq_true, if_false]
       split
       · exact absurd rfl h
       · exact absurd ⟨rfl, rfl⟩ (h' _ _)
       · rfl)

/-- The binary operators, with what is asked ahead of '=='. -/
theorem bin_sound (R : Rel P σ γ w) {op : BinOp} {t : TypeId} {x y : Operand} {a a' b b' v : Value} (ha : VR σ.base γ a a') (hb : VR σ.base γ b b') (h : aBin P op t a b = some v) :
    OpPure P σ γ w v (do eqGuard op t x y a' b'; binOp op t a' b') := by
  have fin : ∀ {v : Value} {S : Sem Unit} {T : Sem Value}, S.run P w = .ok () w → T.run P w = .ok v w → constCell v = true → OpPure P σ γ w v (do S; T) := by
    intro v S T hS hT hc
    exact OpPure.intro R (v' := v) (by simp only [Sem.run_bind, hS, Result.andThen_ok, hT]) (VR.ofConstCell hc)
  have cmp : ∀ {a a' b b' : Value} {r : Bool}, VR σ.base γ a a' → VR σ.base γ b b' → (∀ k n, a ≠ .int k n ∨ ∀ j m, b ≠ .int j m) → (∀ s, a ≠ .string s ∨ ∀ u, b ≠ .string u) → (∀ k n, a ≠ .float k n) → (∀ k n m, a ≠ .complex k n m) →
      aEq P Op.maxDepth t a b = some r → (binOp .eql t a' b').run P w = .ok (.bool r) w ∧ (binOp .neq t a' b').run P w = .ok (.bool !r) w := by
    intro a a' b b' r ha hb hni hns hnf hnc hr
    have e := eq_sound (P := P) (w := w) _ ha hb hr
    have e1 : (do pure (Value.bool (← Op.equal t a' b')) : Sem Value).run P w = .ok (.bool r) w := by simp [Op.equal, e]
    have e2 : (do pure (Value.bool (!(← Op.equal t a' b'))) : Sem Value).run P w = .ok (.bool !r) w := by simp [Op.equal, e]
    cases ha <;> cases hb <;> first
      | exact ⟨e1, e2⟩
      | (exfalso; rcases hni _ _ with h | h <;> exact h _ _ rfl)
      | (exfalso; rcases hni _ _ with h | h; exact h rfl; exact h _ _ rfl)
      | (exfalso; rcases hns _ with h | h; exact h rfl; exact h _ rfl)
      | (exfalso; exact hnf _ _ rfl)
      | (exfalso; exact hnc _ _ _ rfl)
  unfold aBin at h
  split at h
  · obtain rfl := ha.eq_of_const rfl; obtain rfl := hb.eq_of_const rfl
    have hg := eqGuard_int (P := P) (w := w) (op := op) (t := t) (x := x) (y := y) (a := Value.int ‹_› ‹_›) (b := Value.int ‹_› ‹_›) (by simp) (by simp)
    split at h
    · exact fin (eqGuard_int (by simp) (by simp)) (shift_sound (.inl rfl) h).1 (shift_sound (P := P) (w := w) (t := t) (k' := ‹_›) (.inl rfl) h).2
    · exact fin (eqGuard_int (by simp) (by simp)) (shift_sound (.inr rfl) h).1 (shift_sound (P := P) (w := w) (t := t) (k' := ‹_›) (.inr rfl) h).2
    · rename_i h1 h2
      split at h
      · rename_i hk
        subst hk
        exact fin (eqGuard_int (by simp) (by simp)) (int_sound h1 h2 h).1 (int_sound (P := P) (w := w) (t := t) h1 h2 h).2
      · cases h
  · obtain rfl := ha.eq_of_const rfl; obtain rfl := hb.eq_of_const rfl
    split at h
    · cases h
    · cases h
    · rename_i h1 h2
      exact fin (eqGuard_int (by simp) (by simp)) (str_sound h1 h2 h).1 (str_sound (P := P) (w := w) (t := t) h1 h2 h).2
  · cases h
  · rename_i xs ys
    split at h
    · cases h
    · rename_i hgd
      obtain ⟨xs', rfl, _⟩ := ha.aggInv
      obtain ⟨ys', rfl, _⟩ := hb.aggInv
      have hg : (eqGuard op t x y (.agg xs') (.agg ys')).run P w = .ok () w := run_eqGuard_agg w op t x y xs' ys' (by simpa using hgd)
      split at h
      · rw [Option.map_eq_some_iff] at h
        obtain ⟨r, hr, rfl⟩ := h
        exact fin hg (cmp ha hb (by simp) (by simp) (by simp) (by simp) hr).1 rfl
      · rw [Option.map_eq_some_iff] at h
        obtain ⟨r, hr, rfl⟩ := h
        exact fin hg (cmp ha hb (by simp) (by simp) (by simp) (by simp) hr).2 rfl
      · cases h
  · rename_i hn hi hs hag
    have ha' : a' ≠ .nilIface := by intro e; subst e; cases ha; exact hn rfl
    have hnag : ∀ xs ys, ¬ (a' = .agg xs ∧ b' = .agg ys) := by
      rintro xs ys ⟨rfl, rfl⟩
      cases ha; cases hb
      exact hag _ _ rfl rfl
    have hflt : ∀ r, aEq P Op.maxDepth t a b = some r → (∀ k n, a ≠ .float k n) ∧ (∀ k n m, a ≠ .complex k n m) := by
      intro r hr
      constructor
      · rintro k n rfl
        unfold aEq Op.maxDepth at hr
        simp at hr
      · rintro k n m rfl
        unfold aEq Op.maxDepth at hr
        simp at hr
    have hni : ∀ k n, a ≠ .int k n ∨ ∀ j m, b ≠ .int j m := by
      intro k n
      by_cases e : a = .int k n
      · exact .inr fun j m e' => hi k n j m e e'
      · exact .inl e
    have hns : ∀ s, a ≠ .string s ∨ ∀ u, b ≠ .string u := by
      intro s
      by_cases e : a = .string s
      · exact .inr fun u e' => hs s u e e'
      · exact .inl e
    split at h
    · rw [Option.map_eq_some_iff] at h
      obtain ⟨r, hr, rfl⟩ := h
      exact fin (eqGuard_int ha' hnag) (cmp ha hb hni hns (hflt r hr).1 (hflt r hr).2 hr).1 rfl
    · rw [Option.map_eq_some_iff] at h
      obtain ⟨r, hr, rfl⟩ := h
      exact fin (eqGuard_int ha' hnag) (cmp ha hb hni hns (hflt r hr).1 (hflt r hr).2 hr).2 rfl
    · cases h

theorem un_sound (R : Rel P σ γ w) {op : UnOp} {x x' v : Value} (hx : VR σ.base γ x x') (h : aUn op x = some v) : OpPure P σ γ w v (Op.unary op x') := by
  unfold aUn at h
  split at h
  · obtain rfl := hx.eq_of_const rfl
    injection h with h; subst h
    exact OpPure.intro R rfl (.int _ _)
  · obtain rfl := hx.eq_of_const rfl
    injection h with h; subst h
    exact OpPure.intro R rfl (.bool _)
  · cases h

end
end Go.Am
