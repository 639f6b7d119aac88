/- The abstract machine: each operation does what the model's does. Sixth part: append and copy. -/
import Derived.Test.YtfblbkmmjidknaaAmI
set_option linter.unusedVariables false
set_option linter.unusedSimpArgs false
namespace Go.Am
section
variable {P : Program} {σ σ1 : AHeap} {γ : Gm} {w : World}

theorem LR.oneC {base : Nat} {l l' : List Value} (h : LR base γ l l') (h1 : ∀ v ∈ l, v.oneC = true) : ∀ v ∈ l', v.oneC = true := by
  intro v hv
  obtain ⟨j, hj⟩ := List.getElem?_of_mem hv
  have hjl : j < l.length := by
    rcases Nat.lt_or_ge j l.length with h' | h'
    · exact h'
    · rw [List.getElem?_eq_none (by have := h.1; omega)] at hj; cases hj
  have := h.2 j _ _ (List.getElem?_eq_getElem hjl) hj
  rw [this.oneCell]; exact h1 _ (List.getElem_mem hjl)

theorem zeroCells_size (z : Array Value) (n : Nat) : (Builtin.zeroCells z n).size = n * z.size := size_zeroCells z n

/-- An append that makes a new block. -/
theorem realloc_sound (hz : ZeroOk P) (R : Rel P σ1 γ w) {st xt e : TypeId} {inf : TypeInfo} {z : Value} {d : TypeDesc} {ty : TypeId} (hst : P.underlying st = some (.slice e)) (hxt : P.underlying xt = some d) (hd : ∀ k, d ≠ .int k)
    (hI : infoOf P e = some inf) (hzz : inf.zero = some z) {x' : Value} {base : Option Addr} {len cap n ch : Nat} (hn : ∀ w0 : World, (Builtin.lenOf x').run P w0 = .ok n w0) (hgt : cap < len + n)
    (hb : (len + n) * (inf.bytes + 1) ≤ 2 ^ 46) {old new old' new' : List Value} (hlo : old.length = len * inf.size) (hln : new.length = n * inf.size)
    (ho : ∀ w0 : World, w0.heap = w.heap → (Builtin.firstCells inf.size len (.slice base len cap)).run P w0 = .ok old'.toArray w0)
    (hw : ∀ w0 : World, w0.heap = w.heap → (Builtin.firstCells inf.size n x').run P w0 = .ok new'.toArray w0)
    (hLo : LR σ1.base γ old old') (hLn : LR σ1.base γ new new') (h1o : ∀ v ∈ old, v.oneC = true) (h1n : ∀ v ∈ new, v.oneC = true) (hch : ch ≤ σ1.next) :
    ∃ γ' w' v', (Builtin.append_ #[st, xt] ty #[.slice base len cap, x']).run P w = .ok v' w' ∧ VR σ1.base γ' (.slice (some ⟨σ1.next, 0, none⟩) (len + n) (len + n + 1)) v' ∧
      Rel P (σ1.push (.cells (old ++ new) e ch)) γ' w' ∧ Fram σ1 γ w w' ∧ Grows σ1 (σ1.push (.cells (old ++ new) e ch)) γ γ' ∧ NewB σ1 γ γ' w := by
  have hrun := append_grow ty hst hxt hd hI hzz hn hgt hb ho hw
  obtain ⟨hzc, hzs⟩ := hz e inf z hI hzz
  have hi := infoOf_info hI
  have hE : szOf P e = some inf.size := by simp [szOf, hi]
  have hcap : len + n ≤ growCap w (len + n) cap e := by unfold growCap; omega
  generalize hC : growCap w (len + n) cap e = nc at *
  have hsize : (old'.toArray ++ new'.toArray ++ Builtin.zeroCells z.cells (nc - (len + n))).size = nc * inf.size := by
    have h1 := hLo.1; have h2 := hLn.1
    simp only [Array.size_append, List.size_toArray, zeroCells_size, hzs]
    rw [← h1, ← h2, hlo, hln, ← Nat.add_mul, ← Nat.add_mul]
    congr 1; omega
  have hLen : (old ++ new).length = (old' ++ new').length := by simp [hLo.1, hLn.1]
  obtain ⟨γ', R', F, G, N, hg⟩ := newRow_sound R (E := inf.size) hE (c := old ++ new) (C := old'.toArray ++ new'.toArray ++ Builtin.zeroCells z.cells (nc - (len + n))) (ch := ch) hch
    (by rw [hLen]; simp) (by
      rw [hLen]
      have : (old'.toArray ++ new'.toArray ++ Builtin.zeroCells z.cells (nc - (len + n))).toList = (old' ++ new') ++ (Builtin.zeroCells z.cells (nc - (len + n))).toList := by simp
      rw [this, List.take_left]
      exact hLo.append hLn) (by intro v hv; rw [List.mem_append] at hv; rcases hv with hv | hv; exact h1o v hv; exact h1n v hv) (w0 := w.drew) rfl rfl rfl rfl
  refine ⟨γ', _, _, hrun, ?_, R', F, G, N⟩
  have := VR.slNew (base := σ1.base) (γ := γ') σ1.next 0 (len + n) (len + n + 1) nc _ R.next hg hcap (fun h => by omega) (by simp only [Nat.zero_add]; omega)
  simpa using this

theorem Fram.ofKill {ch keep lim : Nat} {w' : World} (h : Fram (σ.kill ch keep lim) γ w w') : Fram σ γ w w' :=
  ⟨h.size, fun B hB hne => h.same B hB (fun i e he hnd => hne i e he (by rw [kill_alive hnd] at hnd; exact hnd))⟩
theorem NewB.ofKill {ch keep lim : Nat} {γ' : Gm} (h : NewB (σ.kill ch keep lim) γ γ' w) : NewB σ γ γ' w := fun i e he hn => by
  rcases h i e he hn with h | ⟨j, ej, hj, hjd, hje⟩
  · exact .inl h
  · exact .inr ⟨j, ej, hj, by rw [kill_alive hjd] at hjd; exact hjd, hje⟩

set_option maxHeartbeats 4000000 in
theorem append_sound (hz : ZeroOk P) (R : Rel P σ γ w) {st xt : TypeId} {ty : TypeId} {s s' x x' : Value} (hs : VR σ.base γ s s') (hx : VR σ.base γ x x') {r : Value × AHeap} (h : aAppend P σ st xt s x = some r) :
    OpOk P σ γ w r (Builtin.append_ #[st, xt] ty #[s', x']) := by
  unfold aAppend at h
  split at h
  · cases h
  · rename_i e d base len cap hni hst hxt
    have hd : ∀ k, d ≠ .int k := fun k hk => hni k hk
    rw [Option.bind_eq_some_iff] at h
    obtain ⟨inf, hi, h⟩ := h
    rw [Option.bind_eq_some_iff] at h
    have hI := hi
    replace hi := infoOf_info hi
    obtain ⟨z, hzz, h⟩ := h
    rw [Option.bind_eq_some_iff] at h
    obtain ⟨n, hn, h⟩ := h
    rw [Option.bind_eq_some_iff] at h
    obtain ⟨new, hnew, h⟩ := h
    rw [Option.bind_eq_some_iff] at h
    obtain ⟨old, hold, h⟩ := h
    have hnr : ∀ w0 : World, (Builtin.lenOf x').run P w0 = .ok n w0 := fun w0 => lenOf_sound hx hn w0
    obtain ⟨new', hLn, h1n, hrn⟩ := first_sound R hx hnew
    obtain ⟨old', hLo, h1o, hro⟩ := first_sound R hs hold
    obtain ⟨base', cap', rfl⟩ : ∃ base' cap', s' = .slice base' len cap' := by cases hs <;> exact ⟨_, _, rfl⟩
    split at h
    · -- nothing to append
      rename_i hn0
      subst hn0
      injection h with h; subst h
      have hnil : new' = [] := by
        have hl : new.length = 0 := by
          unfold firstOf at hnew
          split at hnew
          · injection hnew with hnew; subst hnew; rfl
          · simp at hnew; subst hnew; rfl
          · injection hnew with hnew; subst hnew; simp [cellsOfBytes]
          · cases hnew
        have := hLn.1
        exact List.eq_nil_of_length_eq_zero (by omega)
      subst hnil
      have hle : len + 0 ≤ cap' := by cases hs <;> omega
      have hrun := append_room (P := P) (w := w) (w' := w) ty hst hxt hd hi (base := base') hnr hle (hrn w rfl) (fun a _ => rfl) (fun _ => rfl)
      exact OpOk.pure R hrun (by simpa using hs)
    · rename_i hn0
      split at h
      · rename_i hc
        obtain ⟨hzs, hpos, hb, hlo, hln⟩ := hc
        have hE : szOf P e = some inf.size := by simp [szOf, hi]
        have realloc : ∀ (σ1 : AHeap) (ch : Nat), Rel P σ1 γ w → σ1.base = σ.base → ch ≤ σ1.next → cap' < len + n →
            ∃ γ' w' v', (Builtin.append_ #[st, xt] ty #[.slice base' len cap', x']).run P w = .ok v' w' ∧ VR σ.base γ' (.slice (some ⟨σ1.next, 0, none⟩) (len + n) (len + n + 1)) v' ∧
              Rel P (σ1.push (.cells (old ++ new) e ch)) γ' w' ∧ Fram σ1 γ w w' ∧ Grows σ1 (σ1.push (.cells (old ++ new) e ch)) γ γ' ∧ NewB σ1 γ γ' w := by
          intro σ1 ch R1 hbase hch hgt
          have := realloc_sound (ty := ty) hz R1 hst hxt hd hI hzz (base := base') hnr hgt hb hlo.symm hln.symm hro hrn (by rw [hbase]; exact hLo) (by rw [hbase]; exact hLn) h1o h1n hch
          rw [hbase] at this
          exact this
        split at h
        · -- nil
          injection h with h; subst h
          have hgt : cap' < len + n := by cases hs; omega
          exact realloc σ σ.next R rfl (Nat.le_refl _) hgt
        · rename_i a
          split at h
          · -- full
            rename_i hcl
            injection h with h; subst h
            have hgt : cap' < len + n := by
              cases hs with
              | slOld _ _ _ _ _ _ => omega
              | slNew _ _ _ _ _ _ _ _ _ hcc _ => have := hcc hcl; omega
              | slEmpty _ _ _ _ _ => omega
            exact realloc σ σ.next R rfl (Nat.le_refl _) hgt
          · rename_i hcl
            split at h
            · cases h
            · rename_i hbn
              have hbn := Nat.le_of_not_lt hbn
              split at h
              · rename_i c el ch hget
                split at h
                · rename_i hel
                  subst hel
                  have hchn : ch ≤ σ.next := by
                    have h1 := R.chain _ _ _ _ hget
                    have h2 := R.alive_lt (i := a.block) (by rw [hget]; simp)
                    omega
                  by_cases hgt : cap' < len + n
                  · -- a new block all the same
                    split at h
                    · injection h with h; subst h
                      obtain ⟨γ', w', v', a1, a2, a3, a4, a5, a6⟩ := realloc (σ.kill ch σ.next (len * inf.size)) ch (R.kill ..) rfl hchn hgt
                      exact ⟨γ', w', v', a1, a2, a3, a4.ofKill, (Grows.kill σ γ ch σ.next _).trans a5, a6.ofKill⟩
                    · injection h with h; subst h
                      obtain ⟨γ', w', v', a1, a2, a3, a4, a5, a6⟩ := realloc (σ.kill ch σ.next 0) σ.next (R.kill ..) rfl (Nat.le_refl _) hgt
                      exact ⟨γ', w', v', a1, a2, a3, a4.ofKill, (Grows.kill σ γ ch σ.next _).trans a5, a6.ofKill⟩
                  · -- in place
                    have hle : len + n ≤ cap' := Nat.le_of_not_lt hgt
                    cases hs with
                    | slOld _ _ _ h5 _ _ => omega
                    | slEmpty _ _ _ _ _ => omega
                    | slNew b o _ _ _ ge h5 hg h6 h7 hN =>
                      simp only at hget h hbn
                      obtain ⟨C, fz, hC, hsz, hEe, hfit, hfz, hCL, hc1⟩ := R.cells _ _ _ _ _ hget hg
                      have hEE : ge.E = inf.size := by rw [hE] at hEe; injection hEe with hEe; exact hEe.symm
                      have hmul : (len + n) * inf.size ≤ cap' * inf.size := Nat.mul_le_mul_right _ hle
                      rw [Nat.add_mul] at hmul
                      rw [hEE] at hN
                      have hnl : new'.length = n * inf.size := by rw [← hLn.1, hln]
                      have hfitn : (o + ge.s + len * inf.size) + new'.length ≤ C.toList.length := by simp; omega
                      have h1n' := hLn.oneC h1n
                      have hst2 := run_storeCells_at (P := P) ge.B el fz ge.N hfz new' (o + ge.s + len * inf.size) 0 C w hC hsz (by simp at hfitn ⊢; omega) h1n'
                      rw [Nat.add_zero] at hst2
                      have hrun := append_room (P := P) (w := w) ty hst hxt hd hi (base := some ⟨ge.B, o + ge.s, none⟩) hnr hle (hrn w rfl) (fun a ha => by
                        injection ha with ha; subst ha; rw [addr_add]; exact hst2) (fun hh => by cases hh)
                      generalize hCC : (splice C.toList (o + ge.s + len * inf.size) new').toArray = C' at hrun hst2
                      have hCs : C'.size = C.size := by rw [← hCC]; simp only [List.size_toArray, splice_length hfitn, Array.length_toList]
                      have hpre : ∀ k, k < o + ge.s + len * inf.size → C'.toList[k]? = C.toList[k]? := fun k hk => by
                        rw [← hCC]; simp only; rw [splice_get hfitn, if_pos hk]
                      -- the old elements, as they lie
                      have holdL : ∀ k v, old[k]? = some v → ∃ v', C.toList[o + ge.s + k]? = some v' ∧ VR σ.base γ v v' := by
                        intro k v hv
                        unfold firstOf at hold
                        simp only at hold
                        split at hold
                        · injection hold with hold; subst hold; simp at hv
                        · rw [if_pos (Nat.le_refl _)] at hold
                          unfold rd at hold
                          rw [if_neg (by simp), if_neg (by simp only; omega)] at hold
                          simp only [hget] at hold
                          split at hold
                          · injection hold with hold; subst hold
                            simp only [List.getElem?_take, List.getElem?_drop] at hv
                            split at hv
                            · obtain ⟨v', hv', hvr⟩ := hCL.get hv
                              refine ⟨v', ?_, hvr⟩
                              simp only [List.getElem?_take, List.getElem?_drop] at hv'
                              split at hv'
                              · rw [show o + ge.s + k = ge.s + (o + k) by omega]; exact hv'
                              · cases hv'
                            · cases hv
                          · cases hold
                      have hLnew : LR σ.base γ (old ++ new) ((C'.toList.drop (o + ge.s)).take (old ++ new).length) := by
                        have hlen : (old ++ new).length = len * inf.size + n * inf.size := by simp; omega
                        refine ⟨by simp only [List.length_take, List.length_drop, Array.length_toList, hlen]; simp at hfitn; omega, fun k v v' hv hv' => ?_⟩
                        simp only [List.getElem?_take, List.getElem?_drop] at hv'
                        split at hv'
                        · rename_i hk
                          by_cases hk2 : k < len * inf.size
                          · rw [List.getElem?_append_left (by omega)] at hv
                            obtain ⟨u, hu, hvr⟩ := holdL k v hv
                            rw [hpre _ (by omega)] at hv'
                            rw [hu] at hv'; injection hv' with hv'; subst hv'; exact hvr
                          · rw [List.getElem?_append_right (by omega)] at hv
                            rw [← hCC] at hv'
                            simp only at hv'
                            rw [splice_get hfitn, if_neg (by omega), if_pos (by omega)] at hv'
                            rw [show o + ge.s + k - (o + ge.s + len * inf.size) = k - old.length by omega] at hv'
                            exact hLn.2 _ v v' hv hv'
                        · cases hv'
                      have h1all : ∀ v ∈ old ++ new, v.oneC = true := fun v hv => by
                        rw [List.mem_append] at hv; rcases hv with hv | hv
                        · exact h1o v hv
                        · exact h1n v hv
                      have hfitall : (o + ge.s) + (old ++ new).length ≤ ge.N := by simp; omega
                      have hnd : σ.get b ≠ .dead := by rw [hget]; simp
                      have fin : ∀ (lim chn : Nat), Rel P ((σ.kill ch σ.next lim).push (.cells (old ++ new) el chn)) (γ.put σ.next ⟨ge.B, o + ge.s, ge.N, ge.E⟩) (w.setRow ge.B C') →
                          OpOk P σ γ w (.slice (some ⟨σ.next, 0, none⟩) (len + n) (len + n + 1), (σ.kill ch σ.next lim).push (.cells (old ++ new) el chn)) (Builtin.append_ #[st, xt] ty #[.slice (some ⟨ge.B, o + ge.s, none⟩) len cap', x']) := by
                        intro lim chn R'
                        refine ⟨_, _, _, hrun, ?_, R', setRow_Fram hg hnd, ?_, ?_⟩
                        · have := VR.slNew (base := σ.base) (γ := γ.put σ.next ⟨ge.B, o + ge.s, ge.N, ge.E⟩) σ.next 0 (len + n) (len + n + 1) cap' _ R.next (Gm.put_same ..) hle (fun h => by omega) (by simp only [Nat.zero_add]; rw [hEE]; exact hN)
                          simpa using this
                        · exact (Grows.kill σ γ ch σ.next lim).trans (Grows.push (R.kill ch σ.next lim) _ _)
                        · intro i e' he' hnone
                          unfold Gm.put at he'
                          split at he'
                          · injection he' with he'; subst he'
                            exact .inr ⟨b, ge, hg, hnd, rfl⟩
                          · rw [hnone] at he'; cases he'
                      split at h
                      · rename_i ho0
                        injection h with h; subst h
                        refine fin _ _ (R.appendIn hget hg hC hCs (fun k hk => hpre _ (by omega)) (.inl ⟨rfl, by omega⟩) hfitall hLnew h1all)
                      · injection h with h; subst h
                        refine fin _ _ (R.appendIn hget hg hC hCs (fun k hk => by omega) (.inr ⟨rfl, rfl⟩) hfitall hLnew h1all)
                · cases h
              · cases h
      · cases h
  · cases h

end
end Go.Am
