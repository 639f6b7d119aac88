/- The abstract machine: calls. -/
import Derived.Test.YtfblbkmmjidknaaAmT
import Derived.Laws.Externs
set_option linter.unusedVariables false
set_option linter.unusedSimpArgs false
namespace Go.Am
section
variable {P : Program} {σ : AHeap} {γ : Gm} {w : World}

/-! ### Calls -/
/-- One result, as the model takes it. -/
def resS (tmps : Array Value) : ResultVar → Sem Value
  | .tmp t => pure (tmps.getD t undef)
  | .cell a t => do loadVar t (← asAddr (tmps.getD a undef))

theorem results_eq (fn : Func) (tmps : Array Value) : results fn tmps = (do
    let vs ← fn.results.mapM (resS tmps)
    pure (if h : vs.size = 1 then vs[0] else .tuple vs)) := by
  have : (fun r => resS tmps r) = (fun r => match r with
    | .tmp t => pure (tmps.getD t undef)
    | .cell a t => do loadVar t (← asAddr (tmps.getD a undef)) : ResultVar → Sem Value) := by
    funext r; cases r <;> rfl
  show _ = (do
    let vs ← fn.results.mapM (fun r => resS tmps r)
    pure (if h : vs.size = 1 then vs[0] else .tuple vs))
  rw [this]
  rfl

theorem resultV_sound (R : Rel P σ γ w) {f : Fr} {a : Act} {N : Nat} (F : FrR σ.base γ f a N) {r : ResultVar} {v : Value} (h : resultV P f σ r = some v) :
    ∃ v', (resS a.tmps r).run P w = .ok v' w ∧ VR σ.base γ v v' := by
  cases r with
  | tmp t => simp only [resultV, Option.some.injEq] at h; subst h; exact ⟨_, rfl, F.val t⟩
  | cell x t =>
    simp only [resultV] at h
    have hv := F.val x
    obtain ⟨v', h1, h2⟩ := load_sound R hv h
    refine ⟨v', ?_, h2⟩
    unfold aLoad at h
    split at h
    · rename_i a0 hfx
      rw [hfx] at hv
      obtain ⟨a', ha'⟩ := ptr_inv hv
      rw [ha'] at h1
      simp only [resS, ha']
      simpa only [Instr.loadAt, Sem.run_bind, run_sureAddr, Result.andThen_ok, asAddr, Sem.run_pure] using h1
    · cases h

theorem results_sound (R : Rel P σ γ w) {f : Fr} {a : Act} {N : Nat} (F : FrR σ.base γ f a N) {fn : Func} {v : Value} (h : resultsF P fn f σ = some v) : ∃ v', (results fn a.tmps).run P w = .ok v' w ∧ VR σ.base γ v v' := by
  have key : ∀ (l : List ResultVar) (vs : List Value), l.mapM (m := Option) (resultV P f σ) = some vs →
      ∃ vs' : List Value, (l.mapM (resS a.tmps)).run P w = .ok vs' w ∧ LR σ.base γ vs vs' := by
    intro l
    induction l with
    | nil => intro vs h; simp at h; subst h; exact ⟨[], rfl, LR.nil⟩
    | cons r l ih =>
      intro vs h
      simp only [List.mapM_cons, Option.bind_eq_bind, Option.pure_def] at h
      rw [Option.bind_eq_some_iff] at h
      obtain ⟨u, hu, h⟩ := h
      rw [Option.bind_eq_some_iff] at h
      obtain ⟨us, hus, h⟩ := h
      injection h with h; subst h
      obtain ⟨u', h1, h2⟩ := resultV_sound R F hu
      obtain ⟨us', h3, h4⟩ := ih us hus
      exact ⟨u' :: us', by simp only [List.mapM_cons, Sem.run_bind, h1, Result.andThen_ok, h3, Sem.run_pure], LR.cons h2 h4⟩
  have fin : ∀ (vs : List Value), fn.results.toList.mapM (m := Option) (resultV P f σ) = some vs → ∃ vs' : List Value, LR σ.base γ vs vs' ∧
      (results fn a.tmps).run P w = .ok (if h : vs'.toArray.size = 1 then vs'.toArray[0] else .tuple vs'.toArray) w := by
    intro vs hvs
    obtain ⟨vs', h1, h2⟩ := key _ vs hvs
    refine ⟨vs', h2, ?_⟩
    rw [results_eq]
    simp only [Sem.run_bind]
    rw [Array.mapM_eq_mapM_toList]
    simp only [Sem.run_map, h1, Result.andThen_ok, Sem.run_pure]
  unfold resultsF at h
  split at h
  · rename_i r hr
    obtain ⟨vs', h1, h2⟩ := fin [v] (by rw [hr]; simp [h])
    obtain ⟨v', r', rfl, hv, hnil⟩ := h1.uncons
    obtain rfl : r' = [] := List.eq_nil_of_length_eq_zero hnil.1.symm
    exact ⟨v', by rw [h2]; rfl, hv⟩
  · rename_i hne
    rw [Option.map_eq_some_iff] at h
    obtain ⟨vs, hvs, rfl⟩ := h
    obtain ⟨vs', h1, h2⟩ := fin vs hvs
    have hlen : fn.results.toList.length = vs.length := by
      have : ∀ (l : List ResultVar) (vs : List Value), l.mapM (m := Option) (resultV P f σ) = some vs → l.length = vs.length := by
        intro l
        induction l with
        | nil => intro vs h; simp at h; subst h; rfl
        | cons r l ih =>
          intro vs h
          simp only [List.mapM_cons, Option.bind_eq_bind, Option.pure_def] at h
          rw [Option.bind_eq_some_iff] at h
          obtain ⟨u, _, h⟩ := h
          rw [Option.bind_eq_some_iff] at h
          obtain ⟨us, hus, h⟩ := h
          injection h with h; subst h
          simp [ih us hus]
      exact this _ _ hvs
    have hne1 : vs'.toArray.size ≠ 1 := by
      intro h3
      have h4 : fn.results.toList.length = 1 := by rw [hlen, h1.1]; simpa using h3
      match hrr : fn.results.toList with
      | [] => rw [hrr] at h4; cases h4
      | [r] => exact hne r hrr
      | _ :: _ :: _ => rw [hrr] at h4; simp at h4
    rw [dif_neg hne1] at h2
    exact ⟨.tuple vs'.toArray, h2, .tuple _ _ (by simpa using h1.1) h1.toArr⟩

/-- The functions without a Go body that are read here are the model's own. -/
def ExtOk (P : Program) : Prop := ∀ (g : Nat) (fn : Func), P.funcs[g]? = some fn → fn.body = none → fn.name = "internal/bytealg.IndexByteString" → Extern.findNext fn = none ∧ Extern.find fn = some Extern.BytealgIndexByte.indexByte

theorem extern_sound (hE : ExtOk P) (R : Rel P σ γ w) {g : FuncId} {fn : Func} (hfn : P.funcs[g]? = some fn) (hb : fn.body = none) {args args' : List Value} (hL : LR σ.base γ args args') {r : Value × AHeap} (h : externF fn args σ = some r) :
    CallK P g args'.toArray w fun v' w' => ∃ γ', VR σ.base γ' r.1 v' ∧ Post P σ γ w r.2 γ' w' := by
  unfold externF at h
  split at h
  · rename_i s c
    split at h
    · rename_i hc
      injection h with h; subst h
      obtain ⟨s', r1, rfl, hs, hL⟩ := hL.uncons
      obtain ⟨c', r2, rfl, hcv, hL⟩ := hL.uncons
      obtain rfl : r2 = [] := List.eq_nil_of_length_eq_zero hL.1.symm
      obtain rfl := hs.eq_of_const rfl
      obtain rfl := hcv.eq_of_const rfl
      obtain ⟨h1, h2⟩ := hE g fn hfn hb hc
      have hname : (fn.name == "runtime.NumGoroutine") = false := by rw [hc]; decide
      have hrun := run_callFunc_extern hfn hname (by simp [hb]) h1 h2 #[.string s, .int .u8 c] w
      rw [run_indexByte_string] at hrun
      unfold CallK
      rw [hrun]
      exact ⟨γ, .int _ _, Post.refl R⟩
    · cases h
  · cases h

theorem bodyPost_code {fn : Func} {e : AExit} {f' : Fr} {σ' : AHeap} {N : Nat} {v : Value} (he : e = .normal ∨ e = .ret) (hr : resultsF P fn f' σ' = some v) {ex : Exit} {a' : Act} {w' : World} (h : CodePost P σ γ w e f' σ' N ex a' w') :
    bodyPost P fn (fun e w'' => ∃ v', e = .returned v' ∧ ∃ γ', VR σ.base γ' v v' ∧ Post P σ γ w σ' γ' w'') ex a' w' := by
  obtain ⟨rfl, γ', F, p⟩ := h
  obtain ⟨v', h1, h2⟩ := results_sound p.rel (by rw [p.base]; exact F) hr
  rw [p.base] at h2
  rcases he with rfl | rfl <;> exact ⟨F.defers, v', h1, v', rfl, γ', h2, p⟩

theorem callF_sound (hz : ZeroOk P) (hx : P.follows .mixedOrders = true) (hE : ExtOk P) : ∀ n, CallOk P (callF P n) := by
  intro n
  induction n with
  | zero => intro g args σ r h; simp [callF] at h
  | succ n ih =>
    intro g args σ r h γ w args' R hL
    unfold callF at h
    split at h
    · cases h
    · rename_i fn hfn
      split at h
      · rename_i hb
        exact extern_sound hE R hfn hb hL h
      · rename_i c hb
        split at h
        · cases h
        · rename_i hok
          have hok' : funcOk fn = true := by simp at hok; exact hok.1
          unfold funcOk at hok'
          rw [hb] at hok'
          simp only [Bool.and_eq_true, bne_iff_ne, ne_eq] at hok'
          have hrun : (callFunc g args'.toArray).run P w = .ok (.enter g args'.toArray) w := by
            simp only [callFunc, Sem.run_bind, run_program, Result.andThen_ok, hfn]
            rw [if_neg (by simpa using hok'.1)]
            simp [hb]
          unfold CallK
          rw [hrun]
          simp only
          have hok3 : funcOk fn = true ∧ args.length ≤ fn.ntmps := by simpa using hok
          have hlen : args.length ≤ fn.ntmps := hok3.2
          have hsize : args'.toArray.size = args.length := by simp [hL.1]
          -- the frame as the call begins
          have F : FrR σ.base γ (fun t => args.getD t undef) { tmps := args'.toArray ++ Array.replicate (fn.ntmps - args'.toArray.size) undef, defers := [] } fn.ntmps := by
            refine ⟨rfl, by simp only [Array.size_append, Array.size_replicate, hsize]; omega, fun t => ?_⟩
            simp only
            by_cases ht : t < args.length
            · have h1 : args.getD t undef = args[t] := by simp [List.getD, List.getElem?_eq_getElem ht]
              have ht' : t < args'.length := by have := hL.1; omega
              have h2 : (args'.toArray ++ Array.replicate (fn.ntmps - args'.toArray.size) undef).getD t undef = args'[t] := by
                have h3 : t < (args'.toArray ++ Array.replicate (fn.ntmps - args'.toArray.size) undef).size := by simp; omega
                rw [Array.getD, dif_pos h3]
                show (args'.toArray ++ Array.replicate (fn.ntmps - args'.toArray.size) undef)[t] = _
                rw [Array.getElem_append_left (by simpa using ht')]
                simp
              rw [h1, h2]
              exact hL.2 t _ _ (List.getElem?_eq_getElem ht) (List.getElem?_eq_getElem ht')
            · have h1 : args.getD t undef = undef := by simp [List.getD, List.getElem?_eq_none (Nat.le_of_not_lt ht)]
              have h2 : (args'.toArray ++ Array.replicate (fn.ntmps - args'.toArray.size) undef).getD t undef = undef := by
                by_cases h3 : t < (args'.toArray ++ Array.replicate (fn.ntmps - args'.toArray.size) undef).size
                · rw [Array.getD, dif_pos h3]
                  show (args'.toArray ++ Array.replicate (fn.ntmps - args'.toArray.size) undef)[t] = _
                  rw [Array.getElem_append_right (by simp; have := hL.1; omega)]
                  simp
                · rw [Array.getD, dif_neg h3]
              rw [h1, h2]
              exact VR.undef
          have fin : ∀ (e : AExit) (f' : Fr) (σ' : AHeap), (e = .normal ∨ e = .ret) → codeF P (callF P n) n c (fun t => args.getD t undef) σ = some (e, f', σ') → (resultsF P fn f' σ').map (·, σ') = some r →
              Calls P g args'.toArray w fun e w'' => ∃ v, e = .returned v ∧ ∃ γ', VR σ.base γ' r.1 v ∧ Post P σ γ w r.2 γ' w'' := by
            intro e f' σ' he hcode hres
            rw [Option.map_eq_some_iff] at hres
            obtain ⟨v, hv, rfl⟩ := hres
            refine calls_of_wp hfn hb ?_
            exact wp_mono (code_sound hz hx ih (callF_mono n) hok'.2 R F hcode) (fun ex a' w' hp => bodyPost_code he hv hp)
          split at h
          · rename_i f' σ' hcode
            exact fin _ f' σ' (.inl rfl) hcode h
          · rename_i f' σ' hcode
            exact fin _ f' σ' (.inr rfl) hcode h
          · cases h

/-! ### The abstract machine at the beginning: all that lies there is old -/
def AHeap.start (w : World) : AHeap := { old := w, next := w.heap.size, get := fun _ => .dead }

theorem Rel.start (P : Program) (w : World) : Rel P (AHeap.start w) (fun _ => none) w where
  os := rfl
  tape := rfl
  out := rfl
  size := Nat.le_refl _
  old := fun _ _ => rfl
  next := Nat.le_refl _
  fresh := fun _ _ => rfl
  chain := fun i c el ch h => by cases h
  dom := fun i e h => by cases h
  cells := fun i c el ch e h => by cases h
  map := fun i es k e h => by cases h
  sep := fun i j e e' h => by cases h

/-- Values that are old through and through. -/
def oldVal (base : Nat) (v : Value) : Bool := oldOk base v

/-- What the abstract machine comes to with old arguments, the model's call comes to; what was there before is as it was. -/
theorem calls_of_callF (hz : ZeroOk P) (hx : P.follows .mixedOrders = true) (hE : ExtOk P) {n : Nat} {g : FuncId} {args : List Value} {v : Value} {σ' : AHeap} {fn : Func} {c : Code} (hfn : P.funcs[g]? = some fn) (hb : fn.body = some c)
    (hargs : ∀ a ∈ args, oldOk w.heap.size a = true) (hv : constCell v = true) (h : callF P n g args (AHeap.start w) = some (v, σ')) :
    Calls P g args.toArray w fun e w' => e = .returned v ∧ RowKit.Below w.heap.size w w' := by
  have hL : LR (AHeap.start w).base (fun _ => none) args args := by
    refine ⟨rfl, fun i u u' hu hu' => ?_⟩
    rw [hu] at hu'; injection hu' with hu'; subst hu'
    exact (oldOk_VR (hargs u (List.mem_of_getElem? hu))).1
  have hk := callF_sound hz hx hE n g args _ _ h _ w args (Rel.start P w) hL
  have hfo : fn.name ≠ "runtime.NumGoroutine" := by
    cases n with
    | zero => simp [callF] at h
    | succ n =>
      unfold callF at h
      rw [hfn] at h
      simp only [hb] at h
      split at h
      · cases h
      · rename_i hok
        have hok' : funcOk fn = true := by simp at hok; exact hok.1
        unfold funcOk at hok'
        simp only [Bool.and_eq_true, bne_iff_ne, ne_eq] at hok'
        exact hok'.1
  have hrun : (callFunc g args.toArray).run P w = .ok (.enter g args.toArray) w := by
    simp only [callFunc, Sem.run_bind, run_program, Result.andThen_ok, hfn]
    rw [if_neg (by simpa using hfo)]
    simp [hb]
  unfold CallK at hk
  rw [hrun] at hk
  simp only at hk
  refine hk.mono (fun e w' he => ?_)
  obtain ⟨v', rfl, γ', hvr, hp⟩ := he
  rw [hvr.eq_of_const hv]
  have hold : σ'.old = w := hp.grows.old
  have hbase : σ'.base = w.heap.size := by unfold AHeap.base; rw [hold]
  refine ⟨rfl, ⟨by rw [hp.rel.os, hold], by rw [hp.rel.tape, hold], by rw [hp.rel.out, hold], hp.fram.size, fun k hk => ?_⟩⟩
  rw [hp.rel.old k (by rw [hbase]; exact hk), hold]

end
end Go.Am
