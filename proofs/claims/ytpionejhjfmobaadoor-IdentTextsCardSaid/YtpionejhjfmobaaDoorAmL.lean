/- AmL -/
import Derived.Test.YtpionejhjfmobaaDoorAmK
set_option linter.unusedVariables false
set_option linter.unusedSimpArgs false
namespace Go.Am
section
variable {P : Program} {σ : AHeap} {γ : Gm} {w : World}

/-- What carrying out an operation comes to. -/
def NextOk (P : Program) (σ : AHeap) (γ : Gm) (w : World) (r : Value × AHeap) (S : Sem Next) : Prop :=
  ∃ γ' w' n, S.run P w = .ok n w' ∧ ((∃ v', n = .value v' ∧ VR σ.base γ' r.1 v') ∨ (n = .skip ∧ r.1 = undef)) ∧ Rel P r.2 γ' w' ∧ Fram σ γ w w' ∧ Grows σ r.2 γ γ' ∧ NewB σ γ γ' w

theorem NextOk.ofOp {r : Value × AHeap} {S : Sem Value} (h : OpOk P σ γ w r S) : NextOk P σ γ w r (do pure (.value (← S))) := by
  obtain ⟨γ', w', v', h1, h2, h3⟩ := h
  refine ⟨γ', w', .value v', ?_, .inl ⟨v', rfl, h2⟩, h3⟩
  simp only [Sem.run_bind, h1, Result.andThen_ok, Sem.run_pure]

theorem NextOk.ofUnit {σ' : AHeap} {S : Sem Unit} (h : ∃ w', S.run P w = .ok () w' ∧ Rel P σ' γ w' ∧ Fram σ γ w w' ∧ Grows σ σ' γ γ) : NextOk P σ γ w (undef, σ') (do S; pure .skip) := by
  obtain ⟨w', h1, h2, h3, h4⟩ := h
  refine ⟨γ, w', .skip, ?_, .inr ⟨rfl, rfl⟩, h2, h3, h4, NewB.refl σ γ w⟩
  simp only [Sem.run_bind, h1, Result.andThen_ok, Sem.run_pure]

theorem NextOk.ofMap (R : Rel P σ γ w) {x : Option Value} {r : Value × AHeap} {S : Sem Value} (h : x.map (·, σ) = some r) (hs : ∀ v, x = some v → OpPure P σ γ w v S) : NextOk P σ γ w r (do pure (.value (← S))) := by
  rw [Option.map_eq_some_iff] at h
  obtain ⟨v, hv, rfl⟩ := h
  exact .ofOp ((hs v hv).ok R)

theorem NextOk.ofMapU {x : Option AHeap} {r : Value × AHeap} {S : Sem Unit} (h : x.map (undef, ·) = some r)
    (hs : ∀ σ', x = some σ' → ∃ w', S.run P w = .ok () w' ∧ Rel P σ' γ w' ∧ Fram σ γ w w' ∧ Grows σ σ' γ γ) : NextOk P σ γ w r (do S; pure .skip) := by
  rw [Option.map_eq_some_iff] at h
  obtain ⟨v, hv, rfl⟩ := h
  exact .ofUnit (hs v hv)

theorem OV.map {base : Nat} {f : Fr} {ρ : Operand → Value} {x : Option Operand} (h : ∀ o, x = some o → VR base γ (ev f o) (ρ o)) : OV base γ (x.map (ev f)) (x.map ρ) := by
  cases x with
  | none => exact .inl ⟨rfl, rfl⟩
  | some o => exact .inr ⟨_, _, rfl, rfl, h o rfl⟩

theorem PR.map {base : Nat} {f : Fr} {ρ : Operand → Value} {ps : Array (Nat × Operand)} (h : ∀ p ∈ ps.toList, VR base γ (ev f p.2) (ρ p.2)) :
    PR base γ (ps.map fun p => (p.1, ev f p.2)) (ps.map fun (i, x) => (i, ρ x)) := by
  refine ⟨by simp, fun i p p' hp hp' => ?_⟩
  simp only [Array.getElem?_map, Option.map_eq_some_iff] at hp hp'
  obtain ⟨a, ha, rfl⟩ := hp
  obtain ⟨b, hb, rfl⟩ := hp'
  rw [ha] at hb; injection hb with hb; subst hb
  exact ⟨rfl, h a (by simpa using Array.mem_of_getElem? ha)⟩

theorem arr_map {base : Nat} {f : Fr} {ρ : Operand → Value} {xs : Array Operand} (h : ∀ x ∈ xs.toList, VR base γ (ev f x) (ρ x)) :
    (xs.map (ev f)).size = (xs.map ρ).size ∧ ∀ (i : Nat) v v', (xs.map (ev f))[i]? = some v → (xs.map ρ)[i]? = some v' → VR base γ v v' := by
  refine ⟨by simp, fun i v v' hv hv' => ?_⟩
  simp only [Array.getElem?_map, Option.map_eq_some_iff] at hv hv'
  obtain ⟨a, ha, rfl⟩ := hv
  obtain ⟨b, hb, rfl⟩ := hv'
  rw [ha] at hb; injection hb with hb; subst hb
  exact h a (by simpa using Array.mem_of_getElem? ha)

theorem max_sound {v : Value} : ∀ {l l' : List Value} {x x' : Value} {base : Nat}, VR base γ x x' → LR base γ l l' → l.foldlM (m := Option) aMax x = some v →
    ∃ v', (l'.foldlM Builtin.max2 x').run P w = .ok v' w ∧ VR base γ v v' := by
  intro l
  induction l with
  | nil =>
    intro l' x x' base hx hl h
    cases l' with
    | nil => simp at h; subst h; exact ⟨x', rfl, hx⟩
    | cons a b => have := hl.1; simp at this
  | cons a l ih =>
    intro l' x x' base hx hl h
    obtain ⟨a', r', rfl, ha, hr⟩ := hl.uncons
    simp only [List.foldlM_cons, Option.bind_eq_bind] at h
    rw [Option.bind_eq_some_iff] at h
    obtain ⟨y, hy, h⟩ := h
    unfold aMax at hy
    split at hy
    · obtain rfl := hx.eq_of_const rfl; obtain rfl := ha.eq_of_const rfl
      injection hy with hy; subst hy
      obtain ⟨v', h1, h2⟩ := ih (.int _ _) hr h
      exact ⟨v', by simp only [List.foldlM_cons, Sem.run_bind, Builtin.max2, Sem.run_pure, Result.andThen_ok, h1], h2⟩
    · cases hy

theorem min_sound {v : Value} : ∀ {l l' : List Value} {x x' : Value} {base : Nat}, VR base γ x x' → LR base γ l l' → l.foldlM (m := Option) aMin x = some v →
    ∃ v', (l'.foldlM Builtin.min2 x').run P w = .ok v' w ∧ VR base γ v v' := by
  intro l
  induction l with
  | nil =>
    intro l' x x' base hx hl h
    cases l' with
    | nil => simp at h; subst h; exact ⟨x', rfl, hx⟩
    | cons a b => have := hl.1; simp at this
  | cons a l ih =>
    intro l' x x' base hx hl h
    obtain ⟨a', r', rfl, ha, hr⟩ := hl.uncons
    simp only [List.foldlM_cons, Option.bind_eq_bind] at h
    rw [Option.bind_eq_some_iff] at h
    obtain ⟨y, hy, h⟩ := h
    unfold aMin at hy
    split at hy
    · obtain rfl := hx.eq_of_const rfl; obtain rfl := ha.eq_of_const rfl
      injection hy with hy; subst hy
      obtain ⟨v', h1, h2⟩ := ih (.int _ _) hr h
      exact ⟨v', by simp only [List.foldlM_cons, Sem.run_bind, Builtin.min2, Sem.run_pure, Result.andThen_ok, h1], h2⟩
    · cases hy

theorem arr_of_list {α : Type} {a : Array α} {l : List α} (h : a.toList = l) : a = l.toArray := Array.ext' (by simpa using h)

theorem builtin_sound (hz : ZeroOk P) (R : Rel P σ γ w) {b : Builtin} {ts : Array TypeId} {ty : TypeId} {cs : Array Bool} {xs xs' : Array Value} (hs : xs.size = xs'.size)
    (hx : ∀ (i : Nat) v v', xs[i]? = some v → xs'[i]? = some v' → VR σ.base γ v v') {r : Value × AHeap} (h : aBuiltin P σ b ts xs = some r) : NextOk P σ γ w r (builtin b ts ty cs xs') := by
  have hL := LR.arr hs hx
  unfold aBuiltin at h
  split at h
  · split at h
    · rename_i st xt s x ht hxs
      rw [hxs] at hL
      obtain ⟨s', r1, e1, hvs, hL⟩ := hL.uncons
      obtain ⟨x', r2, rfl, hvx, hL⟩ := hL.uncons
      obtain rfl : r2 = [] := List.eq_nil_of_length_eq_zero hL.1.symm
      rw [arr_of_list ht, arr_of_list e1]
      exact .ofOp (append_sound hz R hvs hvx h)
    · cases h
  · split at h
    · rename_i dt ts' d x ht hxs
      rw [hxs] at hL
      obtain ⟨s', r1, e1, hvs, hL⟩ := hL.uncons
      obtain ⟨x', r2, rfl, hvx, hL⟩ := hL.uncons
      obtain rfl : r2 = [] := List.eq_nil_of_length_eq_zero hL.1.symm
      rw [arr_of_list ht, arr_of_list e1]
      exact .ofOp (copy_sound (xt := 0) R hvs hvx h)
    · cases h
  · split at h
    · rename_i t ts' x xs0 ht hxs
      rw [hxs] at hL
      obtain ⟨x', r1, e1, hvx, hL⟩ := hL.uncons
      rw [arr_of_list ht, arr_of_list e1]
      exact .ofMap R h (fun v hv => len_sound R hvx hv)
    · cases h
  · split at h
    · rename_i t ts' x k xs0 ht hxs
      rw [hxs] at hL
      obtain ⟨x', r1, e1, hvx, hL⟩ := hL.uncons
      obtain ⟨k', r2, rfl, hvk, hL⟩ := hL.uncons
      rw [arr_of_list ht, arr_of_list e1]
      exact .ofOp (delete_sound R hvx hvk h)
    · cases h
  · split at h
    · rename_i x rest hxs
      rw [hxs] at hL
      obtain ⟨x', r1, e1, hvx, hL⟩ := hL.uncons
      refine .ofMap R h (fun v hv => ?_)
      obtain ⟨v', h1, h2⟩ := max_sound (P := P) (w := w) hvx hL hv
      refine OpPure.intro R (v' := v') ?_ h2
      simp only [Builtin.max_, e1, h1]
    · cases h
  · split at h
    · rename_i x rest hxs
      rw [hxs] at hL
      obtain ⟨x', r1, e1, hvx, hL⟩ := hL.uncons
      refine .ofMap R h (fun v hv => ?_)
      obtain ⟨v', h1, h2⟩ := min_sound (P := P) (w := w) hvx hL hv
      refine OpPure.intro R (v' := v') ?_ h2
      simp only [Builtin.min_, e1, h1]
    · cases h
  · split at h
    · rename_i x hxs
      rw [hxs] at hL
      obtain ⟨x', r1, e1, hvx, hL⟩ := hL.uncons
      obtain rfl : r1 = [] := List.eq_nil_of_length_eq_zero hL.1.symm
      rw [arr_of_list e1]
      exact .ofMap R h (fun v hv => sliceData_sound R hvx hv)
    · cases h
  · split at h
    · rename_i pt ts' p n ht hxs
      rw [hxs] at hL
      obtain ⟨p', r1, e1, hvp, hL⟩ := hL.uncons
      obtain ⟨n', r2, rfl, hvn, hL⟩ := hL.uncons
      obtain rfl : r2 = [] := List.eq_nil_of_length_eq_zero hL.1.symm
      rw [arr_of_list ht, arr_of_list e1]
      exact .ofOp (unsafeString_sound R hvp hvn h)
    · cases h
  · cases h

set_option maxHeartbeats 1000000 in
theorem aop_sound (hz : ZeroOk P) (R : Rel P σ γ w) {f : Fr} {ρ : Operand → Value} {o : Oper} (hρ : ∀ x ∈ o.op.operands.toList, VR σ.base γ (ev f x) (ρ x)) {r : Value × AHeap} (h : aop P f σ o.op = some r) :
    NextOk P σ γ w r (execOp ρ o) := by
  obtain ⟨dst, op, ty, pos, after, guard⟩ := o
  simp only at h hρ
  have one : ∀ {v v' : Value}, VR σ.base γ v v' → NextOk P σ γ w (v, σ) (pure (.value v')) := fun {v v'} hv =>
    ⟨γ, w, .value v', rfl, .inl ⟨v', rfl, hv⟩, R, Fram.refl σ γ w, Grows.refl σ γ, NewB.refl σ γ w⟩
  cases op <;> simp only [aop] at h <;> simp only [execOp]
  case move x =>
    injection h with h; subst h
    exact one (hρ x (by simp [Op.operands]))
  case assign x =>
    injection h with h; subst h
    exact one (hρ x (by simp [Op.operands]))
  case pick c a b =>
    have hc := hρ c (by simp [Op.operands])
    have ha := hρ a (by simp [Op.operands])
    have hb := hρ b (by simp [Op.operands])
    split at h
    · rename_i t he
      injection h with h; subst h
      rw [he] at hc
      have hc' := hc.eq_of_const rfl
      obtain ⟨γ', w', n, h1, h2⟩ := one (v := if t then ev f a else ev f b) (v' := if t then ρ a else ρ b) (by cases t <;> simp [ha, hb])
      refine ⟨γ', w', n, ?_, h2⟩
      rw [← h1]
      simp only [hc', asBool, Sem.run_bind, Sem.run_pure, Result.andThen_ok]
    · cases h
  case alloc e =>
    rw [Option.bind_eq_some_iff] at h
    obtain ⟨z, hzz, h⟩ := h
    obtain ⟨i, hi, hi2⟩ := zeroOf_some hzz
    refine .ofOp ?_
    obtain ⟨γ', w', a, h1, h2, h3⟩ := new_sound R (e := e) (n := i.size) (by simp [szOf, hi]) (VR.ofConst (hz.const hzz)) h
    refine ⟨γ', w', _, ?_, h2, h3⟩
    simp only [Instr.alloc, Sem.run_bind, run_zero hzz, Result.andThen_ok, h1, Sem.run_pure]
  case box e x =>
    have hx := hρ x (by simp [Op.operands])
    refine .ofOp ?_
    split at h
    · rename_i n hn
      obtain ⟨γ', w', a, h1, h2, h3⟩ := new_sound R (e := e) hn hx h
      refine ⟨γ', w', _, ?_, h2, h3⟩
      simp only [Instr.box, Sem.run_bind, h1, Result.andThen_ok, Sem.run_pure]
    · cases h
  case build t ps =>
    exact .ofMap R h (fun v hv => build_sound hz R (PR.map fun p hp => hρ p.2 (by simp only [Op.operands, List.mem_map]; exact ⟨p, hp, rfl⟩)) hv)
  case buildSlice t len ps =>
    exact .ofOp (buildSlice_sound hz R (PR.map fun p hp => hρ p.2 (by simp only [Op.operands, List.mem_map]; exact ⟨p, hp, rfl⟩)) h)
  case load t a => exact .ofMap R h (fun v hv => load_sound R (hρ a (by simp [Op.operands])) hv)
  case store t a x => exact .ofMapU h (fun σ' hs => store_sound R (hρ a (by simp [Op.operands])) (hρ x (by simp [Op.operands])) hs)
  case nilCheck x =>
    have hx := hρ x (by simp [Op.operands])
    split at h
    · rename_i a he
      injection h with h; subst h
      rw [he] at hx
      obtain ⟨a', e'⟩ := ptr_inv hx
      rw [e'] at hx ⊢
      exact one hx
    · rename_i g a b he
      injection h with h; subst h
      rw [he] at hx
      generalize ρ x = y at hx ⊢
      cases hx with
      | func _ _ a' _ c' h1 h2 h3 h4 => exact one (.func _ _ _ _ _ h1 h2 h3 h4)
    · cases h
  case binOp op t x y yt => exact .ofMap R h (fun v hv => bin_sound R (hρ x (by simp [Op.operands])) (hρ y (by simp [Op.operands])) hv)
  case unOp op t x => exact .ofMap R h (fun v hv => un_sound R (hρ x (by simp [Op.operands])) hv)
  case convert s d x => exact .ofOp (conv_sound R (hρ x (by simp [Op.operands])) h)
  case makeInterface t x =>
    have hx := hρ x (by simp [Op.operands])
    split at h
    · cases h
    · cases h
    · rename_i d hni hu
      injection h with h; subst h
      refine .ofOp (OpOk.pure R (v' := .iface t (ρ x)) ?_ (.iface _ _ _ hx))
      simp only [Instr.makeInterface, Sem.run_bind, run_underlying hu, Result.andThen_ok]
      cases d <;> first | rfl | exact absurd rfl (hni _)
  case makeFunc fn a b =>
    injection h with h; subst h
    obtain ⟨ha, hva⟩ := arr_map (γ := γ) (base := σ.base) (f := f) (ρ := ρ) (xs := a) (fun x hx => hρ x (by simp only [Op.operands, Array.toList_append, List.mem_append]; exact .inl hx))
    obtain ⟨hb, hvb⟩ := arr_map (γ := γ) (base := σ.base) (f := f) (ρ := ρ) (xs := b) (fun x hx => hρ x (by simp only [Op.operands, Array.toList_append, List.mem_append]; exact .inr hx))
    exact .ofOp (OpOk.pure R (v' := .func fn (a.map ρ) (b.map ρ)) rfl (.func _ _ _ _ _ ha hb hva hvb))
  case makeMap t r =>
    have fin : ∀ {S : Sem Value}, S.run P w = .ok (.map (some w.heap.size)) (w.alloc (.map #[] 0)) → OpOk P σ γ w (.map (some σ.next), σ.push (.map [] 0)) S := by
      intro S hS
      refine ⟨_, _, _, hS, .map σ.next ⟨w.heap.size, 0, 0, 0, Nat.zero_mod _⟩ R.next (Gm.put_same ..), R.pushMap rfl rfl rfl rfl, Fram.pushNew rfl, Grows.push R _ _, NewB.put (Nat.le_refl _)⟩
    split at h
    · rename_i hu hr
      injection h with h; subst h
      have : r = none := by cases r <;> simp_all
      subst this
      exact .ofOp (fin (by simp only [Instr.makeMap, Option.map_none, Sem.run_bind, run_newObj, Result.andThen_ok, Sem.run_pure, World.alloc_eq]))
    · rename_i k n hu hr
      injection h with h; subst h
      obtain ⟨x, rfl, hx⟩ : ∃ x, r = some x ∧ ev f x = .int ‹_› ‹_› := by
        rw [Option.map_eq_some_iff] at hr
        obtain ⟨x, h1, h2⟩ := hr
        exact ⟨x, h1, h2⟩
      have hv := hρ x (by simp [Op.operands])
      rw [hx] at hv
      have hv' := hv.eq_of_const rfl
      exact .ofOp (fin (by simp only [Instr.makeMap, Option.map_some, hv', Sem.run_bind, run_underlying hu, run_newObj, Result.andThen_ok, Sem.run_pure, World.alloc_eq, asInt, asIntOf]))
    · cases h
  case makeSlice t l c => exact .ofOp (makeSlice_sound hz R (hρ l (by simp [Op.operands])) (hρ c (by simp [Op.operands])) h)
  case slice t x lo hi mx =>
    refine .ofMap R h (fun v hv => slice_sound R (hρ x (by simp [Op.operands])) (OV.map fun o ho => hρ o ?_) (OV.map fun o ho => hρ o ?_) (OV.map fun o ho => hρ o ?_) hv)
    · subst ho; simp [Op.operands]
    · subst ho; simp [Op.operands]
    · subst ho; simp [Op.operands]
  case fieldAddr t x i => exact .ofMap R h (fun v hv => fieldAddr_sound R (hρ x (by simp [Op.operands])) hv)
  case field t x i => exact .ofMap R h (fun v hv => field_sound R (hρ x (by simp [Op.operands])) hv)
  case indexAddr t x i => exact .ofMap R h (fun v hv => indexAddr_sound R (hρ x (by simp [Op.operands])) (hρ i (by simp [Op.operands])) hv)
  case index t x i => exact .ofMap R h (fun v hv => index_sound R (hρ x (by simp [Op.operands])) (hρ i (by simp [Op.operands])) hv)
  case lookup t x k ok => exact .ofMap R h (fun v hv => lookup_sound hz R (hρ x (by simp [Op.operands])) (hρ k (by simp [Op.operands])) hv)
  case mapUpdate t m k x => exact .ofMapU h (fun σ' hs => mapUpdate_sound R (hρ m (by simp [Op.operands])) (hρ k (by simp [Op.operands])) (hρ x (by simp [Op.operands])) hs)
  case insert t m k x => exact .ofMapU h (fun σ' hs => mapUpdate_sound R (hρ m (by simp [Op.operands])) (hρ k (by simp [Op.operands])) (hρ x (by simp [Op.operands])) hs)
  case mapEntry t m k => exact .ofOp (mapEntry_sound hz R (hρ m (by simp [Op.operands])) (hρ k (by simp [Op.operands])) h)
  case entryStore t m s x => exact .ofMapU h (fun σ' hs => entryStore_sound R (hρ m (by simp [Op.operands])) (hρ s (by simp [Op.operands])) (hρ x (by simp [Op.operands])) hs)
  case extract t i =>
    have ht := hρ t (by simp [Op.operands])
    split at h
    · rename_i vs he
      rw [he] at ht
      generalize ρ t = y at ht ⊢
      cases ht with
      | tuple _ vs' h1 h2 =>
        refine .ofMap R h (fun v hv => ?_)
        have hlt : i < vs.size := by
          rcases Nat.lt_or_ge i vs.size with h | h
          · exact h
          · simp [Array.getElem?_eq_none h] at hv
        have hv' : vs'[i]? = some vs'[i] := by simp [Array.getElem?_eq_getElem, show i < vs'.size by omega]
        exact ⟨vs'[i], by simp only [Instr.extract, hv', Sem.run_pure], h2 i v _ hv hv'⟩
    · cases h
  case call c =>
    obtain ⟨callee, args, ats⟩ := c
    cases callee with
    | builtin b =>
      try simp only at h
      obtain ⟨hs, hx⟩ := arr_map (γ := γ) (base := σ.base) (f := f) (ρ := ρ) (xs := args) (fun x hx => hρ x (by simp only [Op.operands, Call.operands, Array.toList_append, List.mem_append]; exact .inr hx))
      obtain ⟨γ', w', n, h1, h2⟩ := builtin_sound (ty := ty) (cs := args.map fun | .const _ => true | _ => false) hz R hs hx h
      refine ⟨γ', w', n, ?_, h2⟩
      simp only [resolve, Sem.run_bind, Sem.run_pure, Result.andThen_ok, invoke]
      exact h1
    | _ => simp at h
  all_goals first | (cases h; done) | (simp at h; done)

end
end Go.Am
/- AmM -/
set_option linter.unusedVariables false
set_option linter.unusedSimpArgs false
namespace Go.Am
section
variable {P : Program} {σ : AHeap} {γ : Gm} {w : World}

/-- A step's outcome, as far as memory goes. -/
structure Post (P : Program) (σ : AHeap) (γ : Gm) (w : World) (σ' : AHeap) (γ' : Gm) (w' : World) : Prop where
  rel : Rel P σ' γ' w'
  fram : Fram σ γ w w'
  grows : Grows σ σ' γ γ'
  newB : NewB σ γ γ' w

theorem Post.refl (R : Rel P σ γ w) : Post P σ γ w σ γ w := ⟨R, Fram.refl σ γ w, Grows.refl σ γ, NewB.refl σ γ w⟩

theorem Post.trans {σ2 σ3 : AHeap} {γ2 γ3 : Gm} {w2 w3 : World} (R : Rel P σ γ w) (h : Post P σ γ w σ2 γ2 w2) (k : Post P σ2 γ2 w2 σ3 γ3 w3) : Post P σ γ w σ3 γ3 w3 where
  rel := k.rel
  fram := h.fram.trans k.fram h.newB h.grows.dead (fun i e he => (R.dom i e he).2.1) h.grows.le
  grows := h.grows.trans k.grows
  newB := fun i e he hn => by
    cases h2 : γ2 i with
    | some e2 =>
      have := k.grows.le i e2 h2
      rw [he] at this; injection this with this; subst this
      exact h.newB i e h2 hn
    | none =>
      rcases k.newB i e he h2 with h1 | ⟨j, ej, hj, hjd, hje⟩
      · exact .inl (Nat.le_trans h.fram.size h1)
      · cases h3 : γ j with
        | some e3 =>
          have := h.grows.le j e3 h3
          rw [hj] at this; injection this with this; subst this
          exact .inr ⟨j, ej, h3, fun hd => hjd (h.grows.dead j (R.dom j ej h3).2.1 hd), hje⟩
        | none =>
          rcases h.newB j ej hj h3 with h1 | ⟨j2, e2, a, b, c⟩
          · exact .inl (by rw [← hje]; exact h1)
          · exact .inr ⟨j2, e2, a, b, c.trans hje⟩

theorem Post.base {σ2 : AHeap} {γ2 : Gm} {w2 : World} (h : Post P σ γ w σ2 γ2 w2) : σ2.base = σ.base := h.grows.base

/-! ### Frames -/
structure FrR (base : Nat) (γ : Gm) (f : Fr) (a : Act) (N : Nat) : Prop where
  defers : a.defers = []
  size : a.tmps.size = N
  val : ∀ t, VR base γ (f t) (a.tmps.getD t undef)

theorem FrR.mono {base : Nat} {γ' : Gm} {f : Fr} {a : Act} {N : Nat} (h : FrR base γ f a N) (hg : γ.le γ') : FrR base γ' f a N := ⟨h.defers, h.size, fun t => (h.val t).mono hg⟩

theorem getD_set (x : Array Value) (t i : Nat) (v d : Value) (h : t < x.size) : (x.setIfInBounds t v).getD i d = if i = t then v else x.getD i d := by
  by_cases hi : i = t
  · subst hi; simp [Array.getD, h]
  · simp only [hi, if_false, Array.getD, Array.size_setIfInBounds]
    split
    · rename_i h2
      show (x.setIfInBounds t v)[i]'(by simpa using h2) = x[i]
      rw [Array.getElem_setIfInBounds]
      rw [if_neg (Ne.symm hi)]
    · rfl

theorem FrR.put {base : Nat} {f : Fr} {a : Act} {N : Nat} (h : FrR base γ f a N) {d : Option Tmp} (hd : ∀ t, d = some t → t < N) {v v' : Value} (hv : VR base γ v v') : FrR base γ (f.put d v) (a.put d v') N := by
  cases d with
  | none => exact h
  | some t =>
    have ht : t < a.tmps.size := by rw [h.size]; exact hd t rfl
    refine ⟨h.defers, by simp [Act.put, h.size], fun i => ?_⟩
    simp only [Act.put, Fr.put, Fr.set]
    rw [getD_set _ _ _ _ _ ht]
    split
    · exact hv
    · exact h.val i

theorem FrR.eval {base : Nat} {f : Fr} {a : Act} {N : Nat} (h : FrR base γ f a N) {x : Operand} (hx : operandOk x = true) : VR base γ (ev f x) (a.eval x) := by
  cases x with
  | tmp t => exact h.val t
  | const v => exact VR.ofConst (v := v) hx
  | global g => simp [operandOk] at hx
  | func g => exact .func _ _ _ _ _ rfl rfl (fun i v v' hv => by simp at hv) (fun i v v' hv => by simp at hv)

theorem FrR.yielded {base : Nat} {f : Fr} {a : Act} {N : Nat} (h : FrR base γ f a N) (ops : Array Oper) : yieldF ops f = yielded ops a.tmps := by
  funext j
  unfold yieldF Go.yielded
  cases hd : (ops[j]?).bind (·.dst) with
  | none => rfl
  | some t =>
    simp only [Option.bind_some]
    have hv := h.val t
    by_cases ht : t < a.tmps.size
    · have e : a.tmps[t]? = some (a.tmps.getD t undef) := by simp [Array.getD, ht]
      rw [e]
      generalize a.tmps.getD t undef = x at hv
      generalize f t = y at hv
      cases hv <;> rfl
    · have e : a.tmps[t]? = none := Array.getElem?_eq_none (Nat.le_of_not_lt ht)
      have e2 : a.tmps.getD t undef = undef := by simp [Array.getD, ht]
      rw [e]
      rw [e2] at hv
      generalize f t = y at hv
      unfold undef at hv
      cases hv
      rfl

/-! ### Calls -/
/-- What becomes of a call of a function, whichever it is. -/
def CallK (P : Program) (g : FuncId) (args : Array Value) (w : World) (K : Value → World → Prop) : Prop :=
  match (callFunc g args).run P w with
  | .ok (.value v) w' => K v w'
  | .ok (.enter f as) w' => Calls P f as w' fun e w'' => ∃ v, e = .returned v ∧ K v w''
  | _ => False

def CallOk (P : Program) (call : CallR) : Prop :=
  ∀ g args σ r, call g args σ = some r → ∀ γ w args', Rel P σ γ w → LR σ.base γ args args' →
    CallK P g args'.toArray w fun v' w' => ∃ γ', VR σ.base γ' r.1 v' ∧ Post P σ γ w r.2 γ' w'

theorem NextOk.post {r : Value × AHeap} {S : Sem Next} (h : NextOk P σ γ w r S) : ∃ γ' w' n, S.run P w = .ok n w' ∧ ((∃ v', n = .value v' ∧ VR σ.base γ' r.1 v') ∨ (n = .skip ∧ r.1 = undef)) ∧ Post P σ γ w r.2 γ' w' := by
  obtain ⟨γ', w', n, h1, h2, h3, h4, h5, h6⟩ := h
  exact ⟨γ', w', n, h1, h2, h3, h4, h5, h6⟩

/-- One operation, Go functions called too. -/
theorem opV_sound (hz : ZeroOk P) {call : CallR} (hc : CallOk P call) (R : Rel P σ γ w) {f : Fr} {a : Act} {o : Oper} (hρ : ∀ x ∈ o.op.operands.toList, VR σ.base γ (ev f x) (a.eval x)) {r : Value × AHeap} (h : opV P call f σ o = some r)
    {K : Act → World → Prop} {Q : Exit → Act → World → Prop} (hK : ∀ v' γ' w', VR σ.base γ' r.1 v' → Post P σ γ w r.2 γ' w' → K (a.put o.dst v') w') : o.wp P a w K Q := by
  have nocall : aop P f σ o.op = some r → o.wp P a w K Q := by
    intro h
    obtain ⟨γ', w', n, h1, h2, h3⟩ := (aop_sound hz R hρ h).post
    unfold Oper.wp
    rw [h1]
    rcases h2 with ⟨v', rfl, hv⟩ | ⟨rfl, hu⟩
    · rw [Oper.upon_value]; exact hK v' γ' w' hv h3
    · rw [Oper.upon_skip]; exact hK undef γ' w' (by rw [hu]; exact VR.undef) h3
  unfold opV at h
  split at h
  · rename_i g args ats ho
    rw [Option.bind_eq_some_iff] at h
    obtain ⟨p, hp, h⟩ := h
    unfold aCallee at hp
    simp only at hp
    split at hp
    · rename_i hf first cap he
      injection hp with hp; subst hp
      simp only at h
      have hg := hρ g (by rw [ho]; simp [Op.operands, Call.operands])
      rw [he] at hg
      have hargs : LR σ.base γ (args.toList.map (ev f)) (args.toList.map a.eval) := LR.map _ _ _ (fun x hx => hρ x (by rw [ho]; simp only [Op.operands, Call.operands, Array.toList_append, List.mem_append]; exact .inr hx))
      generalize hy : a.eval g = y at hg
      cases hg with
      | func _ _ fi' _ ca' h1 h2 h3 h4 =>
        have hL : LR σ.base γ (first.toList ++ args.toList.map (ev f) ++ cap.toList) (fi'.toList ++ args.toList.map a.eval ++ ca'.toList) := ((LR.arr h1 h3).append hargs).append (LR.arr h2 h4)
        have hcall := hc _ _ _ _ h γ w _ R hL
        have hex : (execOp a.eval o).run P w = (callFunc hf (fi'.toList ++ args.toList.map a.eval ++ ca'.toList).toArray).run P w := by
          obtain ⟨dst, op, ty, pos, after, guard⟩ := o
          simp only at ho
          subst ho
          have e2 : (fi'.toList ++ args.toList.map a.eval ++ ca'.toList).toArray = fi' ++ args.map a.eval ++ ca' := by apply Array.ext'; simp
          simp only [execOp, resolve, hy, Deferred.ofValue, Sem.run_bind, Sem.run_pure, Result.andThen_ok, invoke, e2]
        unfold Oper.wp
        rw [hex]
        unfold CallK at hcall
        split at hcall
        · rename_i v w' hr
          rw [hr, Oper.upon_value]
          obtain ⟨γ', hv, hp⟩ := hcall
          exact hK v γ' w' hv hp
        · rename_i f' as w' hr
          rw [hr, Oper.upon_enter]
          refine hcall.mono (fun e w'' he => ?_)
          obtain ⟨v, rfl, γ', hv, hp⟩ := he
          exact hK v γ' w'' hv hp
        · exact hcall.elim
    · cases hp
  · exact nocall h

/-! ### A region in the text's order -/
theorem operOk_dst {N : Nat} {o : Oper} (h : operOk N o = true) : ∀ t, o.dst = some t → t < N := by
  intro t ht
  unfold operOk at h
  rw [ht] at h
  simp at h
  exact h.1
theorem operOk_operand {N : Nat} {o : Oper} (h : operOk N o = true) : ∀ x ∈ o.op.operands.toList, operandOk x = true := by
  intro x hx
  unfold operOk at h
  simp only [Bool.and_eq_true, Array.all_eq_true_iff_forall_mem] at h
  exact h.2 x (by simpa using hx)

theorem ops_sound (hz : ZeroOk P) {call : CallR} (hc : CallOk P call) {N : Nat} {ops : Array Oper} {Q : Exit → Act → World → Prop} : ∀ {l : List Oper} {f f' : Fr} {σ σ' : AHeap} {γ : Gm} {a : Act} {w : World},
    (∀ o ∈ l, operOk N o = true) → Rel P σ γ w → FrR σ.base γ f a N → opsF P call ops l f σ = some (f', σ') →
    (∀ a' γ' w', FrR σ.base γ' f' a' N → Post P σ γ w σ' γ' w' → Q .normal a' w') → wpList P ops Q l a w := by
  intro l
  induction l with
  | nil =>
    intro f f' σ σ' γ a w hl R F h hQ
    simp only [opsF, Option.some.injEq, Prod.mk.injEq] at h
    obtain ⟨rfl, rfl⟩ := h
    exact hQ a γ w F (Post.refl R)
  | cons o l ih =>
    intro f f' σ σ' γ a w hl R F h hQ
    have hok := hl o (by simp)
    unfold opsF at h
    rw [F.yielded ops] at h
    unfold wpList
    split at h
    · rename_i hw
      rw [if_pos hw]
      rw [Option.bind_eq_some_iff] at h
      obtain ⟨r, hr, h⟩ := h
      refine .inl (opV_sound hz hc R (fun x hx => F.eval (operOk_operand hok x hx)) hr (fun v' γ' w' hv hp => ?_))
      have hb := hp.base
      refine ih (fun o ho => hl o (by simp [ho])) hp.rel (by rw [hb]; exact (F.mono hp.grows.le).put (operOk_dst hok) hv) h (fun a' γ2 w2 F2 p2 => hQ a' γ2 w2 (by rw [hb] at F2; exact F2) (hp.trans R p2))
    · rename_i hw
      rw [if_neg hw]
      exact ih (fun o ho => hl o (by simp [ho])) R (F.put (operOk_dst hok) VR.undef) h hQ

end
end Go.Am
/- AmN -/
set_option linter.unusedVariables false
set_option linter.unusedSimpArgs false
namespace Go.Am
section
variable {P : Program} {σ : AHeap} {γ : Gm} {w : World}

/-- The run of a list of operations, place by place. -/
structure Tr (P : Program) (call : CallR) (ops : Array Oper) (l : List (Oper × Nat)) (f0 : Fr) (σ0 : AHeap) (f1 : Fr) (σ1 : AHeap) where
  fs : Nat → Fr
  hs : Nat → AHeap
  vs : Nat → Value
  f0_eq : fs 0 = f0
  s0_eq : hs 0 = σ0
  f1_eq : fs l.length = f1
  s1_eq : hs l.length = σ1
  step : ∀ p o x, l[p]? = some (o, x) → fs (p + 1) = (fs p).put o.dst (vs p) ∧
    ((Region.wanted o (yieldF ops (fs p)) = true ∧ opV P call (fs p) (hs p) o = some (vs p, hs (p + 1))) ∨ (Region.wanted o (yieldF ops (fs p)) = false ∧ vs p = undef ∧ hs (p + 1) = hs p))
  pre : ∀ p q u x o y, l[p]? = some (u, x) → l[q]? = some (o, y) → p < q → clsOf u.op = .act → clsOf o.op = .read → Region.wanted u (yieldF ops (fs p)) = true → Region.wanted o (yieldF ops (fs q)) = true →
    orderedIn ops x y = true ∨ aop P (fs q) (hs p) o.op = some (vs q, hs p)

structure TrFrom (P : Program) (call : CallR) (ops : Array Oper) (l : List (Oper × Nat)) (ps : List (Nat × AHeap)) (f0 : Fr) (σ0 : AHeap) (f1 : Fr) (σ1 : AHeap) extends Tr P call ops l f0 σ0 f1 σ1 where
  pre0 : ∀ p ∈ ps, ∀ q o y, l[q]? = some (o, y) → clsOf o.op = .read → Region.wanted o (yieldF ops (fs q)) = true → orderedIn ops p.1 y = true ∨ aop P (fs q) p.2 o.op = some (vs q, p.2)

/-- One step ahead of a run. -/
def TrFrom.cons {call : CallR} {ops : Array Oper} {l : List (Oper × Nat)} {ps ps' : List (Nat × AHeap)} {f0 f1 f2 : Fr} {σ0 σ1 σ2 : AHeap} {o : Oper} {x : Nat} {v : Value}
    (T : TrFrom P call ops l ps' f1 σ1 f2 σ2) (hf : f1 = f0.put o.dst v)
    (hstep : (Region.wanted o (yieldF ops f0) = true ∧ opV P call f0 σ0 o = some (v, σ1)) ∨ (Region.wanted o (yieldF ops f0) = false ∧ v = undef ∧ σ1 = σ0))
    (hps : ∀ p ∈ ps, p ∈ ps') (hact : clsOf o.op = .act → Region.wanted o (yieldF ops f0) = true → (x, σ0) ∈ ps')
    (hread : clsOf o.op = .read → Region.wanted o (yieldF ops f0) = true → ∀ p ∈ ps, orderedIn ops p.1 x = true ∨ aop P f0 p.2 o.op = some (v, p.2)) :
    TrFrom P call ops ((o, x) :: l) ps f0 σ0 f2 σ2 where
  fs := fun | 0 => f0 | i + 1 => T.fs i
  hs := fun | 0 => σ0 | i + 1 => T.hs i
  vs := fun | 0 => v | i + 1 => T.vs i
  f0_eq := rfl
  s0_eq := rfl
  f1_eq := T.f1_eq
  s1_eq := T.s1_eq
  step p u y hp := by
    cases p with
    | zero =>
      simp only [List.getElem?_cons_zero, Option.some.injEq, Prod.mk.injEq] at hp
      obtain ⟨rfl, rfl⟩ := hp
      simp only [T.f0_eq, T.s0_eq]
      exact ⟨hf, hstep⟩
    | succ p => exact T.step p u y (by simpa using hp)
  pre p q u y o2 z hp hq hpq ha hr hwp hwq := by
    cases q with
    | zero => omega
    | succ q =>
      cases p with
      | zero =>
        simp only [List.getElem?_cons_zero, Option.some.injEq, Prod.mk.injEq] at hp
        obtain ⟨rfl, rfl⟩ := hp
        exact T.pre0 _ (hact ha hwp) q o2 z (by simpa using hq) hr hwq
      | succ p => exact T.pre p q u y o2 z (by simpa using hp) (by simpa using hq) (by omega) ha hr hwp hwq
  pre0 p hp q o2 z hq hr hwq := by
    cases q with
    | zero =>
      simp only [List.getElem?_cons_zero, Option.some.injEq, Prod.mk.injEq] at hq
      obtain ⟨rfl, rfl⟩ := hq
      exact hread hr hwq p hp
    | succ q => exact T.pre0 p (hps p hp) q o2 z (by simpa using hq) hr hwq

theorem draw_trace {call : CallR} {ops : Array Oper} : ∀ {l : List (Oper × Nat)} {ps : List (Nat × AHeap)} {f f' : Fr} {σ σ' : AHeap},
    drawF P call ops l ps f σ = some (f', σ') → Nonempty (TrFrom P call ops l ps f σ f' σ') := by
  intro l
  induction l with
  | nil =>
    intro ps f f' σ σ' h
    simp only [drawF, Option.some.injEq, Prod.mk.injEq] at h
    obtain ⟨rfl, rfl⟩ := h
    exact ⟨{ fs := fun _ => f, hs := fun _ => σ, vs := fun _ => undef, f0_eq := rfl, s0_eq := rfl, f1_eq := rfl, s1_eq := rfl
             step := fun p o x hp => by simp at hp
             pre := fun p q u x o y hp => by simp at hp
             pre0 := fun p hp q o y hq => by simp at hq }⟩
  | cons x l ih =>
    intro ps f f' σ σ' h
    obtain ⟨o, k⟩ := x
    unfold drawF at h
    split at h
    · rename_i hw
      split at h
      · rename_i hc
        rw [Option.bind_eq_some_iff] at h
        obtain ⟨r, hr, h⟩ := h
        obtain ⟨T⟩ := ih h
        exact ⟨T.cons rfl (.inl ⟨hw, hr⟩) (fun p hp => hp) (fun e => by rw [hc] at e; cases e) (fun e => by rw [hc] at e; cases e)⟩
      · rename_i hc
        rw [Option.bind_eq_some_iff] at h
        obtain ⟨r, hr, h⟩ := h
        obtain ⟨T⟩ := ih h
        exact ⟨T.cons rfl (.inl ⟨hw, hr⟩) (fun p hp => hp) (fun e => by rw [hc] at e; cases e) (fun e => by rw [hc] at e; cases e)⟩
      · rename_i hc
        rw [Option.bind_eq_some_iff] at h
        obtain ⟨r, hr, h⟩ := h
        split at h
        · rename_i hck
          obtain ⟨T⟩ := ih h
          exact ⟨T.cons rfl (.inl ⟨hw, hr⟩) (fun p hp => hp) (fun e => by rw [hc] at e; cases e) (fun _ _ => hck)⟩
        · cases h
      · rename_i hc
        rw [Option.bind_eq_some_iff] at h
        obtain ⟨r, hr, h⟩ := h
        obtain ⟨T⟩ := ih h
        exact ⟨T.cons rfl (.inl ⟨hw, hr⟩) (fun p hp => List.mem_cons_of_mem _ hp) (fun _ _ => List.mem_cons_self) (fun e => by rw [hc] at e; cases e)⟩
    · rename_i hw
      obtain ⟨T⟩ := ih h
      have hw' : Region.wanted o (yieldF ops f) = false := by simpa using hw
      exact ⟨T.cons rfl (.inr ⟨hw', rfl, rfl⟩) (fun p hp => hp) (fun _ e => absurd e hw) (fun _ e => absurd e hw)⟩

theorem trace_of_draw {call : CallR} {ops : Array Oper} {l : List (Oper × Nat)} {f f' : Fr} {σ σ' : AHeap} (h : drawF P call ops l [] f σ = some (f', σ')) : Nonempty (Tr P call ops l f σ f' σ') := by
  obtain ⟨T⟩ := draw_trace h
  exact ⟨T.toTr⟩

/-! ### The static look -/
theorem fold_bits {acc : Array Nat} {i : Nat} : ∀ {l : List Edge} {s : Nat}, (l.foldl (fun s e => if Region.binds .any e then s ||| 2 ^ e.on ||| acc.getD e.on 0 else s) s).testBit i = true →
    s.testBit i = true ∨ ∃ e ∈ l, Region.binds .any e = true ∧ (e.on = i ∨ (acc.getD e.on 0).testBit i = true) := by
  intro l
  induction l with
  | nil => intro s h; exact .inl h
  | cons e l ih =>
    intro s h
    simp only [List.foldl_cons] at h
    rcases ih h with h | ⟨e', he, hb, hx⟩
    · split at h
      · rename_i hb
        simp only [Nat.testBit_or, Bool.or_eq_true] at h
        rcases h with (h | h) | h
        · exact .inl h
        · rw [Nat.testBit_two_pow] at h
          exact .inr ⟨e, by simp, hb, .inl (by simpa using h)⟩
        · exact .inr ⟨e, by simp, hb, .inr h⟩
      · exact .inl h
    · exact .inr ⟨e', by simp [he], hb, hx⟩

theorem before_spec {ops : Array Oper} {i j : Nat} (h : orderedIn ops i j = true) :
    ∃ o, ops[j]? = some o ∧ ∃ e ∈ o.after.toList, Region.binds .any e = true ∧ (e.on = i ∨ orderedIn ops i e.on = true) := by
  have key : ∀ (l : List Oper) (acc : Array Nat) (done : List Oper), done ++ l = ops.toList → acc.size = done.length →
      (∀ j i, (acc.getD j 0).testBit i = true → ∃ o, ops[j]? = some o ∧ ∃ e ∈ o.after.toList, Region.binds .any e = true ∧ (e.on = i ∨ (acc.getD e.on 0).testBit i = true)) →
      ∀ j i, ((l.foldl (fun acc o => acc.push (o.after.foldl (fun s e => if Region.binds .any e then s ||| 2 ^ e.on ||| acc.getD e.on 0 else s) 0)) acc).getD j 0).testBit i = true →
        ∃ o, ops[j]? = some o ∧ ∃ e ∈ o.after.toList, Region.binds .any e = true ∧
          (e.on = i ∨ ((l.foldl (fun acc o => acc.push (o.after.foldl (fun s e => if Region.binds .any e then s ||| 2 ^ e.on ||| acc.getD e.on 0 else s) 0)) acc).getD e.on 0).testBit i = true) := by
    intro l
    induction l with
    | nil => intro acc done hd hs hi; exact hi
    | cons o l ih =>
      intro acc done hd hs hi
      simp only [List.foldl_cons]
      refine ih _ (done ++ [o]) (by simpa using hd) (by simp [hs]) ?_
      have hup : ∀ (a : Nat) (v i : Nat), (acc.getD a 0).testBit i = true → ((acc.push v).getD a 0).testBit i = true := by
        intro a v i ha
        have hlt : a < acc.size := by
          rcases Nat.lt_or_ge a acc.size with h | h
          · exact h
          · simp [Array.getD, Nat.not_lt.2 h] at ha
        simp only [Array.getD, Array.size_push, hlt, dif_pos, show a < acc.size + 1 by omega] at ha ⊢
        simpa [Array.getElem_push, hlt] using ha
      intro j i hji
      by_cases hj : j < acc.size
      · have : (acc.getD j 0).testBit i = true := by
          simp only [Array.getD, Array.size_push, hj, dif_pos, show j < acc.size + 1 by omega] at hji ⊢
          simpa [Array.getElem_push, hj] using hji
        obtain ⟨o', ho', e, he, hb, hx⟩ := hi j i this
        exact ⟨o', ho', e, he, hb, hx.imp id (hup _ _ _)⟩
      · by_cases hj2 : j = acc.size
        · subst hj2
          have hbit : (o.after.foldl (fun s e => if Region.binds .any e then s ||| 2 ^ e.on ||| acc.getD e.on 0 else s) 0).testBit i = true := by
            simpa [Array.getD] using hji
          rw [← Array.foldl_toList] at hbit
          have ho' : ops[acc.size]? = some o := by
            rw [← Array.getElem?_toList, ← hd, hs]
            simp
          rcases fold_bits hbit with h0 | ⟨e, he, hb, hx⟩
          · simp at h0
          · exact ⟨o, ho', e, he, hb, hx.imp id (hup _ _ _)⟩
        · exfalso
          have : ¬ (j < acc.size + 1) := by omega
          simp [Array.getD, this] at hji
  have := key ops.toList #[] [] rfl rfl (fun j i h => by simp [Array.getD] at h) j i
  unfold orderedIn befores Region.before at h ⊢
  rw [← Array.foldl_toList] at h ⊢
  exact this h

end
end Go.Am
