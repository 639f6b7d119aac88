/- The abstract machine: each operation does what the model's does. Last part: all of them. -/
import Derived.Test.YtfblbkmmjidknaaAmK
set_option linter.unusedVariables false
set_option linter.unusedSimpArgs false
namespace Go.Am
section
variable {P : Program} {σ : AHeap} {γ : Gm} {w : World}

/-- What carrying out an operation comes to. -/
def NextOk (P : Program) (σ : AHeap) (γ : Gm) (w : World) (r : Value × AHeap) (S : Sem Next) : Prop :=
  ∃ γ' w' n, S.run P w = .ok n w' ∧ ((∃ v', n = .value v' ∧ VR σ.base γ' r.1 v') ∨ (n = .skip ∧ r.1 = undef)) ∧ Rel P r.2 γ' w' ∧ Fram σ γ w w' ∧ Grows σ r.2 γ γ' ∧ NewB σ γ γ' w

theorem NextOk.ofOp {r : Value × AHeap} {S : Sem Value} (h : OpOk P σ γ w r S) : NextOk P σ γ w r (do pure (.value (← S))) := by
  obtain ⟨γ', w', v', h1, h2, h3⟩ := h
  refine ⟨γ', w', .value v', ?_, .inl ⟨v', rfl, h2⟩, h3⟩
  simp only [Sem.run_bind, h1, Result.andThen_ok, Sem.run_pure]

theorem NextOk.ofUnit {σ' : AHeap} {S : Sem Unit} (h : ∃ w', S.run P w = .ok () w' ∧ Rel P σ' γ w' ∧ Fram σ γ w w' ∧ Grows σ σ' γ γ) : NextOk P σ γ w (undef, σ') (do S; pure .skip) := by
  obtain ⟨w', h1, h2, h3, h4⟩ := h
  refine ⟨γ, w', .skip, ?_, .inr ⟨rfl, rfl⟩, h2, h3, h4, NewB.refl σ γ w⟩
  simp only [Sem.run_bind, h1, Result.andThen_ok, Sem.run_pure]

theorem NextOk.ofMap (R : Rel P σ γ w) {x : Option Value} {r : Value × AHeap} {S : Sem Value} (h : x.map (·, σ) = some r) (hs : ∀ v, x = some v → OpPure P σ γ w v S) : NextOk P σ γ w r (do pure (.value (← S))) := by
  rw [Option.map_eq_some_iff] at h
  obtain ⟨v, hv, rfl⟩ := h
  exact .ofOp ((hs v hv).ok R)

theorem NextOk.ofMapU {x : Option AHeap} {r : Value × AHeap} {S : Sem Unit} (h : x.map (undef, ·) = some r)
    (hs : ∀ σ', x = some σ' → ∃ w', S.run P w = .ok () w' ∧ Rel P σ' γ w' ∧ Fram σ γ w w' ∧ Grows σ σ' γ γ) : NextOk P σ γ w r (do S; pure .skip) := by
  rw [Option.map_eq_some_iff] at h
  obtain ⟨v, hv, rfl⟩ := h
  exact .ofUnit (hs v hv)

theorem OV.map {base : Nat} {f : Fr} {ρ : Operand → Value} {x : Option Operand} (h : ∀ o, x = some o → VR base γ (ev f o) (ρ o)) : OV base γ (x.map (ev f)) (x.map ρ) := by
  cases x with
  | none => exact .inl ⟨rfl, rfl⟩
  | some o => exact .inr ⟨_, _, rfl, rfl, h o rfl⟩

theorem PR.map {base : Nat} {f : Fr} {ρ : Operand → Value} {ps : Array (Nat × Operand)} (h : ∀ p ∈ ps.toList, VR base γ (ev f p.2) (ρ p.2)) :
    PR base γ (ps.map fun p => (p.1, ev f p.2)) (ps.map fun (i, x) => (i, ρ x)) := by
  refine ⟨by simp, fun i p p' hp hp' => ?_⟩
  simp only [Array.getElem?_map, Option.map_eq_some_iff] at hp hp'
  obtain ⟨a, ha, rfl⟩ := hp
  obtain ⟨b, hb, rfl⟩ := hp'
  rw [ha] at hb; injection hb with hb; subst hb
  exact ⟨rfl, h a (by simpa using Array.mem_of_getElem? ha)⟩

theorem arr_map {base : Nat} {f : Fr} {ρ : Operand → Value} {xs : Array Operand} (h : ∀ x ∈ xs.toList, VR base γ (ev f x) (ρ x)) :
    (xs.map (ev f)).size = (xs.map ρ).size ∧ ∀ (i : Nat) v v', (xs.map (ev f))[i]? = some v → (xs.map ρ)[i]? = some v' → VR base γ v v' := by
  refine ⟨by simp, fun i v v' hv hv' => ?_⟩
  simp only [Array.getElem?_map, Option.map_eq_some_iff] at hv hv'
  obtain ⟨a, ha, rfl⟩ := hv
  obtain ⟨b, hb, rfl⟩ := hv'
  rw [ha] at hb; injection hb with hb; subst hb
  exact h a (by simpa using Array.mem_of_getElem? ha)

theorem max_sound {v : Value} : ∀ {l l' : List Value} {x x' : Value} {base : Nat}, VR base γ x x' → LR base γ l l' → l.foldlM (m := Option) aMax x = some v →
    ∃ v', (l'.foldlM Builtin.max2 x').run P w = .ok v' w ∧ VR base γ v v' := by
  intro l
  induction l with
  | nil =>
    intro l' x x' base hx hl h
    cases l' with
    | nil => simp at h; subst h; exact ⟨x', rfl, hx⟩
    | cons a b => have := hl.1; simp at this
  | cons a l ih =>
    intro l' x x' base hx hl h
    obtain ⟨a', r', rfl, ha, hr⟩ := hl.uncons
    simp only [List.foldlM_cons, Option.bind_eq_bind] at h
    rw [Option.bind_eq_some_iff] at h
    obtain ⟨y, hy, h⟩ := h
    unfold aMax at hy
    split at hy
    · obtain rfl := hx.eq_of_const rfl; obtain rfl := ha.eq_of_const rfl
      injection hy with hy; subst hy
      obtain ⟨v', h1, h2⟩ := ih (.int _ _) hr h
      exact ⟨v', by simp only [List.foldlM_cons, Sem.run_bind, Builtin.max2, Sem.run_pure, Result.andThen_ok, h1], h2⟩
    · cases hy

theorem min_sound {v : Value} : ∀ {l l' : List Value} {x x' : Value} {base : Nat}, VR base γ x x' → LR base γ l l' → l.foldlM (m := Option) aMin x = some v →
    ∃ v', (l'.foldlM Builtin.min2 x').run P w = .ok v' w ∧ VR base γ v v' := by
  intro l
  induction l with
  | nil =>
    intro l' x x' base hx hl h
    cases l' with
    | nil => simp at h; subst h; exact ⟨x', rfl, hx⟩
    | cons a b => have := hl.1; simp at this
  | cons a l ih =>
    intro l' x x' base hx hl h
    obtain ⟨a', r', rfl, ha, hr⟩ := hl.uncons
    simp only [List.foldlM_cons, Option.bind_eq_bind] at h
    rw [Option.bind_eq_some_iff] at h
    obtain ⟨y, hy, h⟩ := h
    unfold aMin at hy
    split at hy
    · obtain rfl := hx.eq_of_const rfl; obtain rfl := ha.eq_of_const rfl
      injection hy with hy; subst hy
      obtain ⟨v', h1, h2⟩ := ih (.int _ _) hr h
      exact ⟨v', by simp only [List.foldlM_cons, Sem.run_bind, Builtin.min2, Sem.run_pure, Result.andThen_ok, h1], h2⟩
    · cases hy

theorem arr_of_list {α : Type} {a : Array α} {l : List α} (h : a.toList = l) : a = l.toArray := Array.ext' (by simpa using h)

theorem builtin_sound (hz : ZeroOk P) (R : Rel P σ γ w) {b : Builtin} {ts : Array TypeId} {ty : TypeId} {cs : Array Bool} {xs xs' : Array Value} (hs : xs.size = xs'.size)
    (hx : ∀ (i : Nat) v v', xs[i]? = some v → xs'[i]? = some v' → VR σ.base γ v v') {r : Value × AHeap} (h : aBuiltin P σ b ts xs = some r) : NextOk P σ γ w r (builtin b ts ty cs xs') := by
  have hL := LR.arr hs hx
  unfold aBuiltin at h
  split at h
  · split at h
    · rename_i st xt s x ht hxs
      rw [hxs] at hL
      obtain ⟨s', r1, e1, hvs, hL⟩ := hL.uncons
      obtain ⟨x', r2, rfl, hvx, hL⟩ := hL.uncons
      obtain rfl : r2 = [] := List.eq_nil_of_length_eq_zero hL.1.symm
      rw [arr_of_list ht, arr_of_list e1]
      exact .ofOp (append_sound hz R hvs hvx h)
    · cases h
  · split at h
    · rename_i dt ts' d x ht hxs
      rw [hxs] at hL
      obtain ⟨s', r1, e1, hvs, hL⟩ := hL.uncons
      obtain ⟨x', r2, rfl, hvx, hL⟩ := hL.uncons
      obtain rfl : r2 = [] := List.eq_nil_of_length_eq_zero hL.1.symm
      rw [arr_of_list ht, arr_of_list e1]
      exact .ofOp (copy_sound (xt := 0) R hvs hvx h)
    · cases h
  · split at h
    · rename_i t ts' x xs0 ht hxs
      rw [hxs] at hL
      obtain ⟨x', r1, e1, hvx, hL⟩ := hL.uncons
      rw [arr_of_list ht, arr_of_list e1]
      exact .ofMap R h (fun v hv => len_sound R hvx hv)
    · cases h
  · split at h
    · rename_i t ts' x k xs0 ht hxs
      rw [hxs] at hL
      obtain ⟨x', r1, e1, hvx, hL⟩ := hL.uncons
      obtain ⟨k', r2, rfl, hvk, hL⟩ := hL.uncons
      rw [arr_of_list ht, arr_of_list e1]
      exact .ofOp (delete_sound R hvx hvk h)
    · cases h
  · split at h
    · rename_i x rest hxs
      rw [hxs] at hL
      obtain ⟨x', r1, e1, hvx, hL⟩ := hL.uncons
      refine .ofMap R h (fun v hv => ?_)
      obtain ⟨v', h1, h2⟩ := max_sound (P := P) (w := w) hvx hL hv
      refine OpPure.intro R (v' := v') ?_ h2
      simp only [Builtin.max_, e1, h1]
    · cases h
  · split at h
    · rename_i x rest hxs
      rw [hxs] at hL
      obtain ⟨x', r1, e1, hvx, hL⟩ := hL.uncons
      refine .ofMap R h (fun v hv => ?_)
      obtain ⟨v', h1, h2⟩ := min_sound (P := P) (w := w) hvx hL hv
      refine OpPure.intro R (v' := v') ?_ h2
      simp only [Builtin.min_, e1, h1]
    · cases h
  · cases h

set_option maxHeartbeats 1000000 in
theorem aop_sound (hz : ZeroOk P) (R : Rel P σ γ w) {f : Fr} {ρ : Operand → Value} {o : Oper} (hρ : ∀ x ∈ o.op.operands.toList, VR σ.base γ (ev f x) (ρ x)) {r : Value × AHeap} (h : aop P f σ o.op = some r) :
    NextOk P σ γ w r (execOp ρ o) := by
  obtain ⟨dst, op, ty, pos, after, guard⟩ := o
  simp only at h hρ
  have one : ∀ {v v' : Value}, VR σ.base γ v v' → NextOk P σ γ w (v, σ) (pure (.value v')) := fun {v v'} hv =>
    ⟨γ, w, .value v', rfl, .inl ⟨v', rfl, hv⟩, R, Fram.refl σ γ w, Grows.refl σ γ, NewB.refl σ γ w⟩
  cases op <;> simp only [aop] at h <;> simp only [execOp]
  case move x =>
    injection h with h; subst h
    exact one (hρ x (by simp [Op.operands]))
  case assign x =>
    injection h with h; subst h
    exact one (hρ x (by simp [Op.operands]))
  case pick c a b =>
    have hc := hρ c (by simp [Op.operands])
    have ha := hρ a (by simp [Op.operands])
    have hb := hρ b (by simp [Op.operands])
    split at h
    · rename_i t he
      injection h with h; subst h
      rw [he] at hc
      have hc' := hc.eq_of_const rfl
      obtain ⟨γ', w', n, h1, h2⟩ := one (v := if t then ev f a else ev f b) (v' := if t then ρ a else ρ b) (by cases t <;> simp [ha, hb])
      refine ⟨γ', w', n, ?_, h2⟩
      rw [← h1]
      simp only [hc', asBool, Sem.run_bind, Sem.run_pure, Result.andThen_ok]
    · cases h
  case alloc e =>
    rw [Option.bind_eq_some_iff] at h
    obtain ⟨z, hzz, h⟩ := h
    obtain ⟨i, hi, hi2⟩ := zeroOf_some hzz
    refine .ofOp ?_
    obtain ⟨γ', w', a, h1, h2, h3⟩ := new_sound R (e := e) (n := i.size) (by simp [szOf, hi]) (VR.ofConst (hz.const hzz)) h
    refine ⟨γ', w', _, ?_, h2, h3⟩
    simp only [Instr.alloc, Sem.run_bind, run_zero hzz, Result.andThen_ok, h1, Sem.run_pure]
  case box e x =>
    have hx := hρ x (by simp [Op.operands])
    refine .ofOp ?_
    split at h
    · rename_i n hn
      obtain ⟨γ', w', a, h1, h2, h3⟩ := new_sound R (e := e) hn hx h
      refine ⟨γ', w', _, ?_, h2, h3⟩
      simp only [Instr.box, Sem.run_bind, h1, Result.andThen_ok, Sem.run_pure]
    · cases h
  case build t ps =>
    exact .ofMap R h (fun v hv => build_sound hz R (PR.map fun p hp => hρ p.2 (by simp only [Op.operands, List.mem_map]; exact ⟨p, hp, rfl⟩)) hv)
  case buildSlice t len ps =>
    exact .ofOp (buildSlice_sound hz R (PR.map fun p hp => hρ p.2 (by simp only [Op.operands, List.mem_map]; exact ⟨p, hp, rfl⟩)) h)
  case load t a => exact .ofMap R h (fun v hv => load_sound R (hρ a (by simp [Op.operands])) hv)
  case store t a x => exact .ofMapU h (fun σ' hs => store_sound R (hρ a (by simp [Op.operands])) (hρ x (by simp [Op.operands])) hs)
  case nilCheck x =>
    have hx := hρ x (by simp [Op.operands])
    split at h
    · rename_i a he
      injection h with h; subst h
      rw [he] at hx
      obtain ⟨a', e'⟩ := ptr_inv hx
      rw [e'] at hx ⊢
      exact one hx
    · rename_i g a b he
      injection h with h; subst h
      rw [he] at hx
      generalize ρ x = y at hx ⊢
      cases hx with
      | func _ _ a' _ c' h1 h2 h3 h4 => exact one (.func _ _ _ _ _ h1 h2 h3 h4)
    · cases h
  case binOp op t x y yt => exact .ofMap R h (fun v hv => bin_sound R (hρ x (by simp [Op.operands])) (hρ y (by simp [Op.operands])) hv)
  case unOp op t x => exact .ofMap R h (fun v hv => un_sound R (hρ x (by simp [Op.operands])) hv)
  case convert s d x => exact .ofOp (conv_sound R (hρ x (by simp [Op.operands])) h)
  case makeInterface t x =>
    have hx := hρ x (by simp [Op.operands])
    split at h
    · cases h
    · cases h
    · rename_i d hni hu
      injection h with h; subst h
      refine .ofOp (OpOk.pure R (v' := .iface t (ρ x)) ?_ (.iface _ _ _ hx))
      simp only [Instr.makeInterface, Sem.run_bind, run_underlying hu, Result.andThen_ok]
      cases d <;> first | rfl | exact absurd rfl (hni _)
  case makeFunc fn a b =>
    injection h with h; subst h
    obtain ⟨ha, hva⟩ := arr_map (γ := γ) (base := σ.base) (f := f) (ρ := ρ) (xs := a) (fun x hx => hρ x (by simp only [Op.operands, Array.toList_append, List.mem_append]; exact .inl hx))
    obtain ⟨hb, hvb⟩ := arr_map (γ := γ) (base := σ.base) (f := f) (ρ := ρ) (xs := b) (fun x hx => hρ x (by simp only [Op.operands, Array.toList_append, List.mem_append]; exact .inr hx))
    exact .ofOp (OpOk.pure R (v' := .func fn (a.map ρ) (b.map ρ)) rfl (.func _ _ _ _ _ ha hb hva hvb))
  case makeMap t r =>
    have fin : ∀ {S : Sem Value}, S.run P w = .ok (.map (some w.heap.size)) (w.alloc (.map #[] 0)) → OpOk P σ γ w (.map (some σ.next), σ.push (.map [] 0)) S := by
      intro S hS
      refine ⟨_, _, _, hS, .map σ.next ⟨w.heap.size, 0, 0, 0⟩ R.next (Gm.put_same ..), R.pushMap rfl rfl rfl rfl, Fram.pushNew rfl, Grows.push R _ _, NewB.put (Nat.le_refl _)⟩
    split at h
    · rename_i hu hr
      injection h with h; subst h
      have : r = none := by cases r <;> simp_all
      subst this
      exact .ofOp (fin (by simp only [Instr.makeMap, Option.map_none, Sem.run_bind, run_newObj, Result.andThen_ok, Sem.run_pure, World.alloc_eq]))
    · rename_i k n hu hr
      injection h with h; subst h
      obtain ⟨x, rfl, hx⟩ : ∃ x, r = some x ∧ ev f x = .int ‹_› ‹_› := by
        rw [Option.map_eq_some_iff] at hr
        obtain ⟨x, h1, h2⟩ := hr
        exact ⟨x, h1, h2⟩
      have hv := hρ x (by simp [Op.operands])
      rw [hx] at hv
      have hv' := hv.eq_of_const rfl
      exact .ofOp (fin (by simp only [Instr.makeMap, Option.map_some, hv', Sem.run_bind, run_underlying hu, run_newObj, Result.andThen_ok, Sem.run_pure, World.alloc_eq, asInt, asIntOf]))
    · cases h
  case makeSlice t l c => exact .ofOp (makeSlice_sound hz R (hρ l (by simp [Op.operands])) (hρ c (by simp [Op.operands])) h)
  case slice t x lo hi mx =>
    refine .ofMap R h (fun v hv => slice_sound R (hρ x (by simp [Op.operands])) (OV.map fun o ho => hρ o ?_) (OV.map fun o ho => hρ o ?_) (OV.map fun o ho => hρ o ?_) hv)
    · subst ho; simp [Op.operands]
    · subst ho; simp [Op.operands]
    · subst ho; simp [Op.operands]
  case fieldAddr t x i => exact .ofMap R h (fun v hv => fieldAddr_sound R (hρ x (by simp [Op.operands])) hv)
  case field t x i => exact .ofMap R h (fun v hv => field_sound R (hρ x (by simp [Op.operands])) hv)
  case indexAddr t x i => exact .ofMap R h (fun v hv => indexAddr_sound R (hρ x (by simp [Op.operands])) (hρ i (by simp [Op.operands])) hv)
  case index t x i => exact .ofMap R h (fun v hv => index_sound R (hρ x (by simp [Op.operands])) (hρ i (by simp [Op.operands])) hv)
  case lookup t x k ok => exact .ofMap R h (fun v hv => lookup_sound hz R (hρ x (by simp [Op.operands])) (hρ k (by simp [Op.operands])) hv)
  case mapUpdate t m k x => exact .ofMapU h (fun σ' hs => mapUpdate_sound R (hρ m (by simp [Op.operands])) (hρ k (by simp [Op.operands])) (hρ x (by simp [Op.operands])) hs)
  case insert t m k x => exact .ofMapU h (fun σ' hs => mapUpdate_sound R (hρ m (by simp [Op.operands])) (hρ k (by simp [Op.operands])) (hρ x (by simp [Op.operands])) hs)
  case mapEntry t m k => exact .ofOp (mapEntry_sound hz R (hρ m (by simp [Op.operands])) (hρ k (by simp [Op.operands])) h)
  case entryStore t m s x => exact .ofMapU h (fun σ' hs => entryStore_sound R (hρ m (by simp [Op.operands])) (hρ s (by simp [Op.operands])) (hρ x (by simp [Op.operands])) hs)
  case extract t i =>
    have ht := hρ t (by simp [Op.operands])
    split at h
    · rename_i vs he
      rw [he] at ht
      generalize ρ t = y at ht ⊢
      cases ht with
      | tuple _ vs' h1 h2 =>
        refine .ofMap R h (fun v hv => ?_)
        have hlt : i < vs.size := by
          rcases Nat.lt_or_ge i vs.size with h | h
          · exact h
          · simp [Array.getElem?_eq_none h] at hv
        have hv' : vs'[i]? = some vs'[i] := by simp [Array.getElem?_eq_getElem, show i < vs'.size by omega]
        exact ⟨vs'[i], by simp only [Instr.extract, hv', Sem.run_pure], h2 i v _ hv hv'⟩
    · cases h
  case call c =>
    obtain ⟨callee, args, ats⟩ := c
    cases callee with
    | builtin b =>
      try simp only at h
      obtain ⟨hs, hx⟩ := arr_map (γ := γ) (base := σ.base) (f := f) (ρ := ρ) (xs := args) (fun x hx => hρ x (by simp only [Op.operands, Call.operands, Array.toList_append, List.mem_append]; exact .inr hx))
      obtain ⟨γ', w', n, h1, h2⟩ := builtin_sound (ty := ty) (cs := args.map fun | .const _ => true | _ => false) hz R hs hx h
      refine ⟨γ', w', n, ?_, h2⟩
      simp only [resolve, Sem.run_bind, Sem.run_pure, Result.andThen_ok, invoke]
      exact h1
    | _ => simp at h
  all_goals first | (cases h; done) | (simp at h; done)

end
end Go.Am
