/- AmU -/
import Derived.Test.YtpionejhjfmobaaDoorAmS
import Derived.Laws.Externs
set_option linter.unusedVariables false
set_option linter.unusedSimpArgs false
namespace Go.Am
section
variable {P : Program} {σ : AHeap} {γ : Gm} {w : World}

/-! ### Calls -/
/-- One result, as the model takes it. -/
def resS (tmps : Array Value) : ResultVar → Sem Value
  | .tmp t => pure (tmps.getD t undef)
  | .cell a t => do loadVar t (← asAddr (tmps.getD a undef))

theorem results_eq (fn : Func) (tmps : Array Value) : results fn tmps = (do
    let vs ← fn.results.mapM (resS tmps)
    pure (if h : vs.size = 1 then vs[0] else .tuple vs)) := by
  have : (fun r => resS tmps r) = (fun r => match r with
    | .tmp t => pure (tmps.getD t undef)
    | .cell a t => do loadVar t (← asAddr (tmps.getD a undef)) : ResultVar → Sem Value) := by
    funext r; cases r <;> rfl
  show _ = (do
    let vs ← fn.results.mapM (fun r => resS tmps r)
    pure (if h : vs.size = 1 then vs[0] else .tuple vs))
  rw [this]
  rfl

theorem resultV_sound (R : Rel P σ γ w) {f : Fr} {a : Act} {N : Nat} (F : FrR σ.base γ f a N) {r : ResultVar} {v : Value} (h : resultV P f σ r = some v) :
    ∃ v', (resS a.tmps r).run P w = .ok v' w ∧ VR σ.base γ v v' := by
  cases r with
  | tmp t => simp only [resultV, Option.some.injEq] at h; subst h; exact ⟨_, rfl, F.val t⟩
  | cell x t =>
    simp only [resultV] at h
    have hv := F.val x
    obtain ⟨v', h1, h2⟩ := load_sound R hv h
    refine ⟨v', ?_, h2⟩
    unfold aLoad at h
    split at h
    · rename_i a0 hfx
      rw [hfx] at hv
      obtain ⟨a', ha'⟩ := ptr_inv hv
      rw [ha'] at h1
      simp only [resS, ha']
      simpa only [Instr.loadAt, Sem.run_bind, run_sureAddr, Result.andThen_ok, asAddr, Sem.run_pure] using h1
    · cases h

theorem results_sound (R : Rel P σ γ w) {f : Fr} {a : Act} {N : Nat} (F : FrR σ.base γ f a N) {fn : Func} {v : Value} (h : resultsF P fn f σ = some v) : ∃ v', (results fn a.tmps).run P w = .ok v' w ∧ VR σ.base γ v v' := by
  have key : ∀ (l : List ResultVar) (vs : List Value), l.mapM (m := Option) (resultV P f σ) = some vs →
      ∃ vs' : List Value, (l.mapM (resS a.tmps)).run P w = .ok vs' w ∧ LR σ.base γ vs vs' := by
    intro l
    induction l with
    | nil => intro vs h; simp at h; subst h; exact ⟨[], rfl, LR.nil⟩
    | cons r l ih =>
      intro vs h
      simp only [List.mapM_cons, Option.bind_eq_bind, Option.pure_def] at h
      rw [Option.bind_eq_some_iff] at h
      obtain ⟨u, hu, h⟩ := h
      rw [Option.bind_eq_some_iff] at h
      obtain ⟨us, hus, h⟩ := h
      injection h with h; subst h
      obtain ⟨u', h1, h2⟩ := resultV_sound R F hu
      obtain ⟨us', h3, h4⟩ := ih us hus
      exact ⟨u' :: us', by simp only [List.mapM_cons, Sem.run_bind, h1, Result.andThen_ok, h3, Sem.run_pure], LR.cons h2 h4⟩
  have fin : ∀ (vs : List Value), fn.results.toList.mapM (m := Option) (resultV P f σ) = some vs → ∃ vs' : List Value, LR σ.base γ vs vs' ∧
      (results fn a.tmps).run P w = .ok (if h : vs'.toArray.size = 1 then vs'.toArray[0] else .tuple vs'.toArray) w := by
    intro vs hvs
    obtain ⟨vs', h1, h2⟩ := key _ vs hvs
    refine ⟨vs', h2, ?_⟩
    rw [results_eq]
    simp only [Sem.run_bind]
    rw [Array.mapM_eq_mapM_toList]
    simp only [Sem.run_map, h1, Result.andThen_ok, Sem.run_pure]
  unfold resultsF at h
  split at h
  · rename_i r hr
    obtain ⟨vs', h1, h2⟩ := fin [v] (by rw [hr]; simp [h])
    obtain ⟨v', r', rfl, hv, hnil⟩ := h1.uncons
    obtain rfl : r' = [] := List.eq_nil_of_length_eq_zero hnil.1.symm
    exact ⟨v', by rw [h2]; rfl, hv⟩
  · rename_i hne
    rw [Option.map_eq_some_iff] at h
    obtain ⟨vs, hvs, rfl⟩ := h
    obtain ⟨vs', h1, h2⟩ := fin vs hvs
    have hlen : fn.results.toList.length = vs.length := by
      have : ∀ (l : List ResultVar) (vs : List Value), l.mapM (m := Option) (resultV P f σ) = some vs → l.length = vs.length := by
        intro l
        induction l with
        | nil => intro vs h; simp at h; subst h; rfl
        | cons r l ih =>
          intro vs h
          simp only [List.mapM_cons, Option.bind_eq_bind, Option.pure_def] at h
          rw [Option.bind_eq_some_iff] at h
          obtain ⟨u, _, h⟩ := h
          rw [Option.bind_eq_some_iff] at h
          obtain ⟨us, hus, h⟩ := h
          injection h with h; subst h
          simp [ih us hus]
      exact this _ _ hvs
    have hne1 : vs'.toArray.size ≠ 1 := by
      intro h3
      have h4 : fn.results.toList.length = 1 := by rw [hlen, h1.1]; simpa using h3
      match hrr : fn.results.toList with
      | [] => rw [hrr] at h4; cases h4
      | [r] => exact hne r hrr
      | _ :: _ :: _ => rw [hrr] at h4; simp at h4
    rw [dif_neg hne1] at h2
    exact ⟨.tuple vs'.toArray, h2, .tuple _ _ (by simpa using h1.1) h1.toArr⟩

/-- The functions without a Go body that are read here are the model's own. -/
def ExtOk (P : Program) : Prop := ∀ (g : Nat) (fn : Func), P.funcs[g]? = some fn → fn.body = none → fn.name = "internal/bytealg.IndexByteString" ∨ fn.name = "internal/abi.NoEscape" →
  Extern.findNext fn = none ∧ Extern.find fn = some (if fn.name = "internal/abi.NoEscape" then Extern.AbiNoEscape.same else Extern.BytealgIndexByte.indexByte)

theorem extern_sound (hE : ExtOk P) (R : Rel P σ γ w) {g : FuncId} {fn : Func} (hfn : P.funcs[g]? = some fn) (hb : fn.body = none) {args args' : List Value} (hL : LR σ.base γ args args') {r : Value × AHeap} (h : externF fn args σ = some r) :
    CallK P g args'.toArray w fun v' w' => ∃ γ', VR σ.base γ' r.1 v' ∧ Post P σ γ w r.2 γ' w' := by
  unfold externF at h
  split at h
  · rename_i s c
    split at h
    · rename_i hc
      injection h with h; subst h
      obtain ⟨s', r1, rfl, hs, hL⟩ := hL.uncons
      obtain ⟨c', r2, rfl, hcv, hL⟩ := hL.uncons
      obtain rfl : r2 = [] := List.eq_nil_of_length_eq_zero hL.1.symm
      obtain rfl := hs.eq_of_const rfl
      obtain rfl := hcv.eq_of_const rfl
      obtain ⟨h1, h2⟩ := hE g fn hfn hb (.inl hc)
      rw [if_neg (by rw [hc]; decide)] at h2
      have hname : (fn.name == "runtime.NumGoroutine") = false := by rw [hc]; decide
      have hrun := run_callFunc_extern hfn hname (by simp [hb]) h1 h2 #[.string s, .int .u8 c] w
      rw [run_indexByte_string] at hrun
      unfold CallK
      rw [hrun]
      exact ⟨γ, .int _ _, Post.refl R⟩
    · cases h
  · rename_i p
    split at h
    · rename_i hc
      injection h with h; subst h
      obtain ⟨p', r1, rfl, hp, hL⟩ := hL.uncons
      obtain rfl : r1 = [] := List.eq_nil_of_length_eq_zero hL.1.symm
      obtain ⟨h1, h2⟩ := hE g fn hfn hb (.inr hc)
      rw [if_pos hc] at h2
      have hname : (fn.name == "runtime.NumGoroutine") = false := by rw [hc]; decide
      have hrun := run_callFunc_extern hfn hname (by simp [hb]) h1 h2 #[p'] w
      unfold CallK
      rw [hrun]
      exact ⟨γ, hp, Post.refl R⟩
    · cases h
  · cases h

theorem bodyPost_code {fn : Func} {e : AExit} {f' : Fr} {σ' : AHeap} {N : Nat} {v : Value} (he : e = .normal ∨ e = .ret) (hr : resultsF P fn f' σ' = some v) {ex : Exit} {a' : Act} {w' : World} (h : CodePost P σ γ w e f' σ' N ex a' w') :
    bodyPost P fn (fun e w'' => ∃ v', e = .returned v' ∧ ∃ γ', VR σ.base γ' v v' ∧ Post P σ γ w σ' γ' w'') ex a' w' := by
  obtain ⟨rfl, γ', F, p⟩ := h
  obtain ⟨v', h1, h2⟩ := results_sound p.rel (by rw [p.base]; exact F) hr
  rw [p.base] at h2
  rcases he with rfl | rfl <;> exact ⟨F.defers, v', h1, v', rfl, γ', h2, p⟩

theorem Rel.quiet {w' : World} (R : Rel P σ γ w) (q : QuietW w w') : Rel P σ γ w' where
  os := q.os.trans R.os
  tape := q.tape.trans R.tape
  out := q.out.trans R.out
  size := Nat.le_trans R.size q.size
  old := fun i hi => (q.same i (Nat.lt_of_lt_of_le hi R.size)).trans (R.old i hi)
  next := R.next
  fresh := R.fresh
  chain := R.chain
  dom := fun i e he => by obtain ⟨h1, h2, h3, h4⟩ := R.dom i e he; exact ⟨h1, h2, h3, Nat.lt_of_lt_of_le h4 q.size⟩
  cells := fun i c el ch e hg he => by
    obtain ⟨C, fz, h1, h2⟩ := R.cells i c el ch e hg he
    exact ⟨C, fz, (q.same _ (R.dom i e he).2.2.2).trans h1, h2⟩
  map := fun i es k e hg he => by
    obtain ⟨es', h1, h2⟩ := R.map i es k e hg he
    exact ⟨es', (q.same _ (R.dom i e he).2.2.2).trans h1, h2⟩
  sep := R.sep
theorem known_sound (R : Rel P σ γ w) {g : FuncId} {fn : Func} {c : Code} (hfn : P.funcs[g]? = some fn) (hb : fn.body = some c) (hkn : isKnown fn.name = true) {args args' : List Value} {v : Value} (hv : knownV fn.name args = some v) (hp : PureAt P g args v σ.old) (hL : LR σ.base γ args args') :
    CallK P g args'.toArray w fun v' w' => ∃ γ', VR σ.base γ' v v' ∧ Post P σ γ w σ γ' w' := by
  have hname : (fn.name == "runtime.NumGoroutine") = false := by
    unfold isKnown at hkn; rw [beq_iff_eq] at hkn; rw [hkn]; decide
  have hrun : (callFunc g args'.toArray).run P w = .ok (.enter g args'.toArray) w := by
    simp only [callFunc, Sem.run_bind, run_program, Result.andThen_ok, hfn, hname]
    simp [hb]
  unfold CallK
  rw [hrun]
  simp only
  unfold knownV at hv
  split at hv
  · rename_i n
    split at hv
    · injection hv with hv; subst hv
      obtain ⟨a', r1, rfl, ha, hL⟩ := hL.uncons
      obtain rfl : r1 = [] := List.eq_nil_of_length_eq_zero hL.1.symm
      obtain rfl := ha.eq_of_const rfl
      refine (hp w R.size R.old).mono (fun e w' he => ?_)
      obtain ⟨rfl, q⟩ := he
      exact ⟨_, rfl, γ, .string _, ⟨R.quiet q, ⟨q.size, fun B hB _ => q.same B hB⟩, Grows.refl σ γ, NewB.refl σ γ w⟩⟩
    · cases hv
  · cases hv

theorem callF_sound (hz : ZeroOk P) (hx : P.follows .mixedOrders = true) (hE : ExtOk P) : ∀ n, CallOk P (callF P n) := by
  intro n
  induction n with
  | zero => intro g args σ r h; simp [callF] at h
  | succ n ih =>
    intro g args σ r h γ w args' R hL
    unfold callF at h
    split at h
    · cases h
    · rename_i fn hfn
      split at h
      · rename_i hb
        exact extern_sound hE R hfn hb hL h
      · rename_i c hb
        by_cases hkn : isKnown fn.name = true
        · rw [if_pos hkn] at h
          split at h
          · rename_i v hv
            split at h
            · rename_i hp
              injection h with h; subst h
              exact known_sound R hfn hb hkn hv hp hL
            · cases h
          · cases h
        rw [if_neg hkn] at h
        split at h
        · cases h
        · rename_i hok
          have hok' : funcOk fn = true := by simp at hok; exact hok.1
          unfold funcOk at hok'
          rw [hb] at hok'
          simp only [Bool.and_eq_true, bne_iff_ne, ne_eq] at hok'
          have hrun : (callFunc g args'.toArray).run P w = .ok (.enter g args'.toArray) w := by
            simp only [callFunc, Sem.run_bind, run_program, Result.andThen_ok, hfn]
            rw [if_neg (by simpa using hok'.1.1)]
            simp [hb]
          unfold CallK
          rw [hrun]
          simp only
          have hok3 : funcOk fn = true ∧ args.length ≤ fn.ntmps := by simpa using hok
          have hlen : args.length ≤ fn.ntmps := hok3.2
          have hsize : args'.toArray.size = args.length := by simp [hL.1]
          -- the frame as the call begins
          have F : FrR σ.base γ (fun t => args.getD t undef) { tmps := args'.toArray ++ Array.replicate (fn.ntmps - args'.toArray.size) undef, defers := [] } fn.ntmps := by
            refine ⟨rfl, by simp only [Array.size_append, Array.size_replicate, hsize]; omega, fun t => ?_⟩
            simp only
            by_cases ht : t < args.length
            · have h1 : args.getD t undef = args[t] := by simp [List.getD, List.getElem?_eq_getElem ht]
              have ht' : t < args'.length := by have := hL.1; omega
              have h2 : (args'.toArray ++ Array.replicate (fn.ntmps - args'.toArray.size) undef).getD t undef = args'[t] := by
                have h3 : t < (args'.toArray ++ Array.replicate (fn.ntmps - args'.toArray.size) undef).size := by simp; omega
                rw [Array.getD, dif_pos h3]
                show (args'.toArray ++ Array.replicate (fn.ntmps - args'.toArray.size) undef)[t] = _
                rw [Array.getElem_append_left (by simpa using ht')]
                simp
              rw [h1, h2]
              exact hL.2 t _ _ (List.getElem?_eq_getElem ht) (List.getElem?_eq_getElem ht')
            · have h1 : args.getD t undef = undef := by simp [List.getD, List.getElem?_eq_none (Nat.le_of_not_lt ht)]
              have h2 : (args'.toArray ++ Array.replicate (fn.ntmps - args'.toArray.size) undef).getD t undef = undef := by
                by_cases h3 : t < (args'.toArray ++ Array.replicate (fn.ntmps - args'.toArray.size) undef).size
                · rw [Array.getD, dif_pos h3]
                  show (args'.toArray ++ Array.replicate (fn.ntmps - args'.toArray.size) undef)[t] = _
                  rw [Array.getElem_append_right (by simp; have := hL.1; omega)]
                  simp
                · rw [Array.getD, dif_neg h3]
              rw [h1, h2]
              exact VR.undef
          have fin : ∀ (e : AExit) (f' : Fr) (σ' : AHeap), (e = .normal ∨ e = .ret) → codeF P (callF P n) n c (fun t => args.getD t undef) σ = some (e, f', σ') → (resultsF P fn f' σ').map (·, σ') = some r →
              Calls P g args'.toArray w fun e w'' => ∃ v, e = .returned v ∧ ∃ γ', VR σ.base γ' r.1 v ∧ Post P σ γ w r.2 γ' w'' := by
            intro e f' σ' he hcode hres
            rw [Option.map_eq_some_iff] at hres
            obtain ⟨v, hv, rfl⟩ := hres
            refine calls_of_wp hfn hb ?_
            exact wp_mono (code_sound hz hx ih (callF_mono n) hok'.2 R F hcode) (fun ex a' w' hp => bodyPost_code he hv hp)
          split at h
          · rename_i f' σ' hcode
            exact fin _ f' σ' (.inl rfl) hcode h
          · rename_i f' σ' hcode
            exact fin _ f' σ' (.inr rfl) hcode h
          · cases h

/-! ### The abstract machine at the beginning: all that lies there is old -/
def AHeap.start (w : World) : AHeap := { old := w, next := w.heap.size, get := fun _ => .dead }

theorem Rel.start (P : Program) (w : World) : Rel P (AHeap.start w) (fun _ => none) w where
  os := rfl
  tape := rfl
  out := rfl
  size := Nat.le_refl _
  old := fun _ _ => rfl
  next := Nat.le_refl _
  fresh := fun _ _ => rfl
  chain := fun i c el ch h => by cases h
  dom := fun i e h => by cases h
  cells := fun i c el ch e h => by cases h
  map := fun i es k e h => by cases h
  sep := fun i j e e' h => by cases h

/-- Values that are old through and through. -/
def oldVal (base : Nat) (v : Value) : Bool := oldOk base v

/-- What the abstract machine comes to with old arguments, the model's call comes to; what was there before is as it was. -/
theorem calls_of_callF (hz : ZeroOk P) (hx : P.follows .mixedOrders = true) (hE : ExtOk P) {n : Nat} {g : FuncId} {args : List Value} {v : Value} {σ' : AHeap} {fn : Func} {c : Code} (hfn : P.funcs[g]? = some fn) (hb : fn.body = some c)
    (hargs : ∀ a ∈ args, oldOk w.heap.size a = true) (hv : constCell v = true) (h : callF P n g args (AHeap.start w) = some (v, σ')) :
    Calls P g args.toArray w fun e w' => e = .returned v ∧ RowKit.Below w.heap.size w w' := by
  have hL : LR (AHeap.start w).base (fun _ => none) args args := by
    refine ⟨rfl, fun i u u' hu hu' => ?_⟩
    rw [hu] at hu'; injection hu' with hu'; subst hu'
    exact (oldOk_VR (hargs u (List.mem_of_getElem? hu))).1
  have hk := callF_sound hz hx hE n g args _ _ h _ w args (Rel.start P w) hL
  have hfo : fn.name ≠ "runtime.NumGoroutine" := by
    cases n with
    | zero => simp [callF] at h
    | succ n =>
      unfold callF at h
      rw [hfn] at h
      simp only [hb] at h
      by_cases hkn : isKnown fn.name = true
      · unfold isKnown at hkn
        rw [beq_iff_eq] at hkn
        rw [hkn]; decide
      rw [if_neg hkn] at h
      split at h
      · cases h
      · rename_i hok
        have hok' : funcOk fn = true := by simp at hok; exact hok.1
        unfold funcOk at hok'
        simp only [Bool.and_eq_true, bne_iff_ne, ne_eq] at hok'
        exact hok'.1.1
  have hrun : (callFunc g args.toArray).run P w = .ok (.enter g args.toArray) w := by
    simp only [callFunc, Sem.run_bind, run_program, Result.andThen_ok, hfn]
    rw [if_neg (by simpa using hfo)]
    simp [hb]
  unfold CallK at hk
  rw [hrun] at hk
  simp only at hk
  refine hk.mono (fun e w' he => ?_)
  obtain ⟨v', rfl, γ', hvr, hp⟩ := he
  rw [hvr.eq_of_const hv]
  have hold : σ'.old = w := hp.grows.old
  have hbase : σ'.base = w.heap.size := by unfold AHeap.base; rw [hold]
  refine ⟨rfl, ⟨by rw [hp.rel.os, hold], by rw [hp.rel.tape, hold], by rw [hp.rel.out, hold], hp.fram.size, fun k hk => ?_⟩⟩
  rw [hp.rel.old k (by rw [hbase]; exact hk), hold]

end
end Go.Am
/- AmV -/
set_option linter.unusedVariables false
set_option linter.unusedSimpArgs false
namespace Go.Am
section
variable {P : Program}

def CallLe (c d : CallR) : Prop := ∀ g a σ r, c g a σ = some r → d g a σ = some r

theorem opV_le {c d : CallR} (h : CallLe c d) {f : Fr} {σ : AHeap} {o : Oper} {r : Value × AHeap} (hr : opV P c f σ o = some r) : opV P d f σ o = some r := by
  unfold opV at hr ⊢
  split at hr
  · rw [Option.bind_eq_some_iff] at hr ⊢
    obtain ⟨p, hp, hr⟩ := hr
    exact ⟨p, hp, h _ _ _ _ hr⟩
  · exact hr

theorem opsF_le {c d : CallR} (h : CallLe c d) {ops : Array Oper} : ∀ {l : List Oper} {f : Fr} {σ : AHeap} {r : Fr × AHeap}, opsF P c ops l f σ = some r → opsF P d ops l f σ = some r := by
  intro l
  induction l with
  | nil => intro f σ r hr; exact hr
  | cons o l ih =>
    intro f σ r hr
    unfold opsF at hr ⊢
    split at hr
    · rename_i hw
      rw [if_pos hw]
      rw [Option.bind_eq_some_iff] at hr ⊢
      obtain ⟨p, hp, hr⟩ := hr
      exact ⟨p, opV_le h hp, ih hr⟩
    · rename_i hw
      rw [if_neg hw]; exact ih hr

theorem drawF_le {c d : CallR} (h : CallLe c d) {ops : Array Oper} : ∀ {l : List (Oper × Nat)} {ps : List (Nat × AHeap)} {f : Fr} {σ : AHeap} {r : Fr × AHeap}, drawF P c ops l ps f σ = some r → drawF P d ops l ps f σ = some r := by
  intro l
  induction l with
  | nil => intro ps f σ r hr; exact hr
  | cons o l ih =>
    intro ps f σ r hr
    obtain ⟨o, i⟩ := o
    unfold drawF at hr ⊢
    split at hr
    · rename_i hw
      rw [if_pos hw]
      split at hr
      · rename_i hc
        rw [Option.bind_eq_some_iff] at hr
        obtain ⟨p, hp, hr⟩ := hr
        try simp only [hc]
        rw [Option.bind_eq_some_iff]
        exact ⟨p, opV_le h hp, ih hr⟩
      · rename_i hc
        rw [Option.bind_eq_some_iff] at hr
        obtain ⟨p, hp, hr⟩ := hr
        try simp only [hc]
        rw [Option.bind_eq_some_iff]
        exact ⟨p, opV_le h hp, ih hr⟩
      · rename_i hc
        rw [Option.bind_eq_some_iff] at hr
        obtain ⟨p, hp, hr⟩ := hr
        try simp only [hc]
        rw [Option.bind_eq_some_iff]
        refine ⟨p, opV_le h hp, ?_⟩
        split at hr
        · rename_i hk; rw [if_pos hk]; exact ih hr
        · cases hr
      · rename_i hc
        rw [Option.bind_eq_some_iff] at hr
        obtain ⟨p, hp, hr⟩ := hr
        try simp only [hc]
        rw [Option.bind_eq_some_iff]
        exact ⟨p, opV_le h hp, ih hr⟩
    · rename_i hw
      rw [if_neg hw]; exact ih hr

def COutLe (x y : Fr → AHeap → COut) : Prop := ∀ f σ r, x f σ = some r → y f σ = some r

theorem iter_le {x y : Fr → AHeap → COut} (h : COutLe x y) : ∀ {n m : Nat} {f : Fr} {σ : AHeap} {r : AExit × Fr × AHeap}, n ≤ m → iter x n f σ = some r → iter y m f σ = some r := by
  intro n
  induction n with
  | zero => intro m f σ r _ hr; simp [iter] at hr
  | succ n ih =>
    intro m f σ r hm hr
    obtain ⟨m, rfl⟩ : ∃ k, m = k + 1 := ⟨m - 1, by omega⟩
    unfold iter at hr ⊢
    split at hr
    · rename_i f' σ' hx
      rw [h _ _ _ hx]
      exact ih (by omega) hr
    · rename_i hne
      rw [h _ _ _ hr]
      obtain ⟨e, f', σ'⟩ := r
      cases e with
      | normal => exact absurd hr (hne f' σ')
      | _ => rfl

theorem codeF_le {c d : CallR} (h : CallLe c d) {N M : Nat} (hN : N ≤ M) : ∀ {x : Code}, COutLe (codeF P c N x) (codeF P d M x) := by
  intro x
  induction x with
  | region id ops draw =>
    intro f σ r hr
    unfold codeF at hr ⊢
    by_cases hg : noGlob ops = true
    case neg => rw [if_neg hg] at hr; cases hr
    rw [if_pos hg] at hr ⊢
    split at hr
    · rename_i hd
      rw [if_pos hd]
      split at hr
      · rename_i hk
        rw [if_pos hk]
        rw [Option.map_eq_some_iff] at hr ⊢
        obtain ⟨p, hp, hr⟩ := hr
        exact ⟨p, drawF_le h hp, hr⟩
      · cases hr
    · rename_i hd
      rw [if_neg hd]
      rw [Option.map_eq_some_iff] at hr ⊢
      obtain ⟨p, hp, hr⟩ := hr
      exact ⟨p, opsF_le h hp, hr⟩
  | seq a b iha ihb =>
    intro f σ r hr
    unfold codeF at hr ⊢
    split at hr
    · rename_i f' σ' hx
      rw [iha _ _ _ hx]
      exact ihb _ _ _ hr
    · rename_i hne
      rw [iha _ _ _ hr]
      obtain ⟨e, f', σ'⟩ := r
      cases e with
      | normal => exact absurd hr (hne f' σ')
      | _ => rfl
  | cond c a b iha ihb =>
    intro f σ r hr
    unfold codeF at hr ⊢
    split at hr
    · rename_i t ht
      try simp only [ht]
      split at hr
      · rename_i h1; rw [if_pos h1]; exact iha _ _ _ hr
      · rename_i h1; rw [if_neg h1]; exact ihb _ _ _ hr
    · cases hr
  | block id c ih =>
    intro f σ r hr
    unfold codeF at hr ⊢
    split at hr
    · rename_i i f' σ' hx
      rw [ih _ _ _ hx]
      exact hr
    · rename_i hne
      rw [ih _ _ _ hr]
      obtain ⟨e, f', σ'⟩ := r
      cases e with
      | exit i => exact absurd hr (hne i f' σ')
      | _ => rfl
  | loop c ih =>
    intro f σ r hr
    unfold codeF at hr ⊢
    exact iter_le ih hN hr
  | scope c ih =>
    intro f σ r hr
    unfold codeF at hr ⊢
    exact ih _ _ _ hr
  | _ => intro f σ r hr; unfold codeF at hr ⊢; exact hr

theorem callF_succ (n : Nat) : CallLe (callF P n) (callF P (n + 1)) := by
  induction n with
  | zero => intro g a σ r h; simp [callF] at h
  | succ n ih =>
    intro g a σ r h
    unfold callF at h
    rw [callF]
    split at h
    · cases h
    · rename_i fn hfn
      try rw [hfn]
      try simp only
      split at h
      · rename_i hb; (try simp only [hb]); exact h
      · rename_i c hb
        try simp only [hb]
        by_cases hkn : isKnown fn.name = true
        · rw [if_pos hkn] at h ⊢; exact h
        rw [if_neg hkn] at h ⊢
        split at h
        · cases h
        · rename_i hok
          rw [if_neg hok]
          split at h
          · rename_i f' σ' hc
            rw [codeF_le ih (Nat.le_succ n) _ _ _ hc]; exact h
          · rename_i f' σ' hc
            rw [codeF_le ih (Nat.le_succ n) _ _ _ hc]; exact h
          · cases h

theorem callF_mono_n {n m : Nat} (h : n ≤ m) : CallLe (callF P n) (callF P m) := by
  induction m with
  | zero => have : n = 0 := by omega
            subst this; exact fun _ _ _ _ h => h
  | succ m ih =>
    by_cases hn : n = m + 1
    · subst hn; exact fun _ _ _ _ h => h
    · exact fun g a σ r hr => callF_succ m g a σ r (ih (by omega) g a σ r hr)

/-! ### The limit -/
open Classical in
noncomputable def callL (P : Program) : CallR := fun g a σ => if h : ∃ r, ∃ n, callF P n g a σ = some r then some h.choose else none

theorem callL_some {g : FuncId} {a : List Value} {σ : AHeap} {r : Value × AHeap} : callL P g a σ = some r ↔ ∃ n, callF P n g a σ = some r := by
  unfold callL
  constructor
  · intro h
    split at h
    · rename_i hx
      injection h with h
      rw [← h]; exact hx.choose_spec
    · cases h
  · rintro ⟨n, hn⟩
    have hx : ∃ r, ∃ n, callF P n g a σ = some r := ⟨r, n, hn⟩
    rw [dif_pos hx]
    obtain ⟨m, hm⟩ := hx.choose_spec
    have h1 := callF_mono_n (Nat.le_max_left n m) g a σ r hn
    have h2 := callF_mono_n (Nat.le_max_right n m) g a σ _ hm
    rw [h1] at h2
    injection h2 with h2
    rw [← h2]

open Classical in
noncomputable def loopL (body : Fr → AHeap → COut) : Fr → AHeap → COut := fun f σ => if h : ∃ r, ∃ n, iter body n f σ = some r then some h.choose else none

theorem loopL_some {body : Fr → AHeap → COut} {f : Fr} {σ : AHeap} {r : AExit × Fr × AHeap} : loopL body f σ = some r ↔ ∃ n, iter body n f σ = some r := by
  unfold loopL
  constructor
  · intro h
    split at h
    · rename_i hx
      injection h with h
      rw [← h]; exact hx.choose_spec
    · cases h
  · rintro ⟨n, hn⟩
    have hx : ∃ r, ∃ n, iter body n f σ = some r := ⟨r, n, hn⟩
    rw [dif_pos hx]
    obtain ⟨m, hm⟩ := hx.choose_spec
    have h1 := iter_le (fun _ _ _ h => h) (Nat.le_max_left n m) hn
    have h2 := iter_le (fun _ _ _ h => h) (Nat.le_max_right n m) hm
    rw [h1] at h2
    injection h2 with h2
    rw [← h2]

/-- One round of a loop. -/
theorem loopL_eq (body : Fr → AHeap → COut) (f : Fr) (σ : AHeap) : loopL body f σ = match body f σ with
    | some (.normal, f', σ') => loopL body f' σ'
    | r => r := by
  cases hb : body f σ with
  | none =>
    simp only
    cases hl : loopL body f σ with
    | none => rfl
    | some r =>
      rw [loopL_some] at hl
      obtain ⟨n, hn⟩ := hl
      cases n with
      | zero => simp [iter] at hn
      | succ n => rw [iter, hb] at hn; cases hn
  | some x =>
    obtain ⟨e, f', σ'⟩ := x
    cases e with
    | normal =>
      simp only
      cases hl : loopL body f' σ' with
      | none =>
        cases hl2 : loopL body f σ with
        | none => rfl
        | some r =>
          rw [loopL_some] at hl2
          obtain ⟨n, hn⟩ := hl2
          cases n with
          | zero => simp [iter] at hn
          | succ n =>
            rw [iter, hb] at hn
            have := loopL_some.2 ⟨n, hn⟩
            rw [hl] at this; cases this
      | some r =>
        rw [loopL_some] at hl ⊢
        obtain ⟨n, hn⟩ := hl
        exact ⟨n + 1, by rw [iter, hb]; exact hn⟩
    | exit i => simp only; rw [loopL_some]; exact ⟨1, by rw [iter, hb]⟩
    | ret => simp only; rw [loopL_some]; exact ⟨1, by rw [iter, hb]⟩

noncomputable def codeL (P : Program) : Code → Fr → AHeap → COut
  | .skip, f, σ => some (.normal, f, σ)
  | .region _ ops draw, f, σ =>
    if noGlob ops then
      if draw then (if regionOk ops then (drawF P (callL P) ops (canonOps ops) [] f σ).map fun r => (.normal, r.1, r.2) else none)
      else (opsF P (callL P) ops ops.toList f σ).map fun r => (.normal, r.1, r.2)
    else none
  | .seq a b, f, σ =>
    match codeL P a f σ with
    | some (.normal, f', σ') => codeL P b f' σ'
    | r => r
  | .cond c a b, f, σ =>
    match ev f c with
    | .bool t => if t then codeL P a f σ else codeL P b f σ
    | _ => none
  | .block id c, f, σ =>
    match codeL P c f σ with
    | some (.exit i, f', σ') => if i = id then some (.normal, f', σ') else some (.exit i, f', σ')
    | r => r
  | .loop c, f, σ => loopL (codeL P c) f σ
  | .exit id, f, σ => some (.exit id, f, σ)
  | .scope c, f, σ => codeL P c f σ
  | .label _, f, σ => some (.normal, f, σ)
  | .ret, f, σ => some (.ret, f, σ)
  | _, _, _ => none

theorem opV_lim {f : Fr} {σ : AHeap} {o : Oper} {r : Value × AHeap} (hr : opV P (callL P) f σ o = some r) : ∃ n, opV P (callF P n) f σ o = some r := by
  unfold opV at hr ⊢
  split at hr
  · rename_i g args ats ho
    rw [Option.bind_eq_some_iff] at hr
    obtain ⟨p, hp, hr⟩ := hr
    rw [callL_some] at hr
    obtain ⟨n, hn⟩ := hr
    exact ⟨n, by (try simp only); rw [hp]; exact hn⟩
  · exact ⟨0, hr⟩

theorem opsF_lim {ops : Array Oper} : ∀ {l : List Oper} {f : Fr} {σ : AHeap} {r : Fr × AHeap}, opsF P (callL P) ops l f σ = some r → ∃ n, opsF P (callF P n) ops l f σ = some r := by
  intro l
  induction l with
  | nil => intro f σ r hr; exact ⟨0, hr⟩
  | cons o l ih =>
    intro f σ r hr
    unfold opsF at hr
    split at hr
    · rename_i hw
      rw [Option.bind_eq_some_iff] at hr
      obtain ⟨p, hp, hr⟩ := hr
      obtain ⟨n, hn⟩ := opV_lim hp
      obtain ⟨m, hm⟩ := ih hr
      refine ⟨max n m, ?_⟩
      unfold opsF
      rw [if_pos hw, Option.bind_eq_some_iff]
      exact ⟨p, opV_le (callF_mono_n (Nat.le_max_left n m)) hn, opsF_le (callF_mono_n (Nat.le_max_right n m)) hm⟩
    · rename_i hw
      obtain ⟨m, hm⟩ := ih hr
      exact ⟨m, by unfold opsF; rw [if_neg hw]; exact hm⟩

theorem drawF_lim {ops : Array Oper} : ∀ {l : List (Oper × Nat)} {ps : List (Nat × AHeap)} {f : Fr} {σ : AHeap} {r : Fr × AHeap}, drawF P (callL P) ops l ps f σ = some r → ∃ n, drawF P (callF P n) ops l ps f σ = some r := by
  intro l
  induction l with
  | nil => intro ps f σ r hr; exact ⟨0, hr⟩
  | cons o l ih =>
    intro ps f σ r hr
    obtain ⟨o, i⟩ := o
    unfold drawF at hr
    split at hr
    · rename_i hw
      split at hr
      · rename_i hc
        rw [Option.bind_eq_some_iff] at hr
        obtain ⟨p, hp, hr⟩ := hr
        obtain ⟨n, hn⟩ := opV_lim hp
        obtain ⟨m, hm⟩ := ih hr
        refine ⟨max n m, ?_⟩
        unfold drawF
        simp only [hw, if_true, hc]
        rw [Option.bind_eq_some_iff]
        exact ⟨p, opV_le (callF_mono_n (Nat.le_max_left n m)) hn, drawF_le (callF_mono_n (Nat.le_max_right n m)) hm⟩
      · rename_i hc
        rw [Option.bind_eq_some_iff] at hr
        obtain ⟨p, hp, hr⟩ := hr
        obtain ⟨n, hn⟩ := opV_lim hp
        obtain ⟨m, hm⟩ := ih hr
        refine ⟨max n m, ?_⟩
        unfold drawF
        simp only [hw, if_true, hc]
        rw [Option.bind_eq_some_iff]
        exact ⟨p, opV_le (callF_mono_n (Nat.le_max_left n m)) hn, drawF_le (callF_mono_n (Nat.le_max_right n m)) hm⟩
      · rename_i hc
        rw [Option.bind_eq_some_iff] at hr
        obtain ⟨p, hp, hr⟩ := hr
        obtain ⟨n, hn⟩ := opV_lim hp
        split at hr
        · rename_i hk
          obtain ⟨m, hm⟩ := ih hr
          refine ⟨max n m, ?_⟩
          unfold drawF
          simp only [hw, if_true, hc]
          rw [Option.bind_eq_some_iff]
          exact ⟨p, opV_le (callF_mono_n (Nat.le_max_left n m)) hn, by rw [if_pos hk]; exact drawF_le (callF_mono_n (Nat.le_max_right n m)) hm⟩
        · cases hr
      · rename_i hc
        rw [Option.bind_eq_some_iff] at hr
        obtain ⟨p, hp, hr⟩ := hr
        obtain ⟨n, hn⟩ := opV_lim hp
        obtain ⟨m, hm⟩ := ih hr
        refine ⟨max n m, ?_⟩
        unfold drawF
        simp only [hw, if_true, hc]
        rw [Option.bind_eq_some_iff]
        exact ⟨p, opV_le (callF_mono_n (Nat.le_max_left n m)) hn, drawF_le (callF_mono_n (Nat.le_max_right n m)) hm⟩
    · rename_i hw
      obtain ⟨m, hm⟩ := ih hr
      exact ⟨m, by unfold drawF; rw [if_neg hw]; exact hm⟩

theorem codeL_lim : ∀ {x : Code} {f : Fr} {σ : AHeap} {r : AExit × Fr × AHeap}, codeL P x f σ = some r → ∃ n, codeF P (callF P n) n x f σ = some r := by
  intro x
  induction x with
  | region id ops draw =>
    intro f σ r hr
    unfold codeL at hr
    by_cases hg : noGlob ops = true
    case neg => rw [if_neg hg] at hr; cases hr
    rw [if_pos hg] at hr
    split at hr
    · rename_i hd
      split at hr
      · rename_i hk
        rw [Option.map_eq_some_iff] at hr
        obtain ⟨p, hp, hr⟩ := hr
        obtain ⟨n, hn⟩ := drawF_lim hp
        exact ⟨n, by unfold codeF; rw [if_pos hg, if_pos hd, if_pos hk, hn]; simp [hr]⟩
      · cases hr
    · rename_i hd
      rw [Option.map_eq_some_iff] at hr
      obtain ⟨p, hp, hr⟩ := hr
      obtain ⟨n, hn⟩ := opsF_lim hp
      exact ⟨n, by unfold codeF; rw [if_pos hg, if_neg hd, hn]; simp [hr]⟩
  | seq a b iha ihb =>
    intro f σ r hr
    unfold codeL at hr
    split at hr
    · rename_i f' σ' hx
      obtain ⟨n, hn⟩ := iha hx
      obtain ⟨m, hm⟩ := ihb hr
      refine ⟨max n m, ?_⟩
      unfold codeF
      rw [codeF_le (callF_mono_n (Nat.le_max_left n m)) (Nat.le_max_left n m) _ _ _ hn]
      exact codeF_le (callF_mono_n (Nat.le_max_right n m)) (Nat.le_max_right n m) _ _ _ hm
    · rename_i hne
      obtain ⟨n, hn⟩ := iha hr
      refine ⟨n, ?_⟩
      unfold codeF
      rw [hn]
      obtain ⟨e, f', σ'⟩ := r
      cases e with
      | normal => exact absurd hr (hne f' σ')
      | _ => rfl
  | cond c a b iha ihb =>
    intro f σ r hr
    unfold codeL at hr
    split at hr
    · rename_i t ht
      split at hr
      · rename_i h1; obtain ⟨n, hn⟩ := iha hr; exact ⟨n, by unfold codeF; simp only [ht]; rw [if_pos h1]; exact hn⟩
      · rename_i h1; obtain ⟨n, hn⟩ := ihb hr; exact ⟨n, by unfold codeF; simp only [ht]; rw [if_neg h1]; exact hn⟩
    · cases hr
  | block id c ih =>
    intro f σ r hr
    unfold codeL at hr
    split at hr
    · rename_i i f' σ' hx
      obtain ⟨n, hn⟩ := ih hx
      exact ⟨n, by unfold codeF; rw [hn]; exact hr⟩
    · rename_i hne
      obtain ⟨n, hn⟩ := ih hr
      refine ⟨n, ?_⟩
      unfold codeF
      rw [hn]
      obtain ⟨e, f', σ'⟩ := r
      cases e with
      | exit i => exact absurd hr (hne i f' σ')
      | _ => rfl
  | loop c ih =>
    intro f σ r hr
    unfold codeL at hr
    rw [loopL_some] at hr
    obtain ⟨k, hk⟩ := hr
    have key : ∀ (k : Nat) (f : Fr) (σ : AHeap), iter (codeL P c) k f σ = some r → ∃ n, k ≤ n ∧ iter (codeF P (callF P n) n c) k f σ = some r := by
      intro k
      induction k with
      | zero => intro f σ h; simp [iter] at h
      | succ k ihk =>
        intro f σ h
        unfold iter at h
        split at h
        · rename_i f' σ' hx
          obtain ⟨n, hn⟩ := ih hx
          obtain ⟨m, hkm, hm⟩ := ihk _ _ h
          refine ⟨max (n + 1) (m + 1), by omega, ?_⟩
          unfold iter
          rw [codeF_le (callF_mono_n (show n ≤ max (n + 1) (m + 1) by omega)) (show n ≤ max (n + 1) (m + 1) by omega) _ _ _ hn]
          exact iter_le (codeF_le (callF_mono_n (show m ≤ max (n + 1) (m + 1) by omega)) (show m ≤ max (n + 1) (m + 1) by omega)) (Nat.le_refl _) hm
        · rename_i hne
          obtain ⟨n, hn⟩ := ih h
          refine ⟨max n (k + 1), by omega, ?_⟩
          unfold iter
          rw [codeF_le (callF_mono_n (show n ≤ max n (k + 1) by omega)) (show n ≤ max n (k + 1) by omega) _ _ _ hn]
          obtain ⟨e, f', σ'⟩ := r
          cases e with
          | normal => exact absurd h (hne f' σ')
          | _ => rfl
    obtain ⟨n, h1, h2⟩ := key k f σ hk
    exact ⟨n, by unfold codeF; exact iter_le (fun _ _ _ h => h) h1 h2⟩
  | scope c ih =>
    intro f σ r hr
    unfold codeL at hr
    obtain ⟨n, hn⟩ := ih hr
    exact ⟨n, by unfold codeF; exact hn⟩
  | _ => intro f σ r hr; unfold codeL at hr; exact ⟨0, by unfold codeF; exact hr⟩

/-- A call, by what its body comes to. -/
theorem callL_body {g : FuncId} {fn : Func} {c : Code} {args : List Value} {σ σ' : AHeap} {f' : Fr} {e : AExit} {v : Value} (hfn : P.funcs[g]? = some fn) (hb : fn.body = some c) (hok : funcOk fn = true) (hl : decide (fn.ntmps < args.length) = false)
    (he : e = .normal ∨ e = .ret) (hc : codeL P c (fun t => args.getD t undef) σ = some (e, f', σ')) (hr : resultsF P fn f' σ' = some v) : callL P g args σ = some (v, σ') := by
  rw [callL_some]
  obtain ⟨n, hn⟩ := codeL_lim hc
  refine ⟨n + 1, ?_⟩
  have hkn : ¬ isKnown fn.name = true := by
    intro hk
    unfold funcOk at hok
    rw [hk] at hok
    simp at hok
  rw [callF, hfn]
  simp only [hb]
  rw [if_neg hkn]
  simp only [hok, hl, Bool.not_true, Bool.false_or, Bool.false_eq_true, if_false]
  rw [hn]
  rcases he with rfl | rfl <;> simp [hr]

theorem callL_extern {g : FuncId} {fn : Func} {args : List Value} {σ : AHeap} {r : Value × AHeap} (hfn : P.funcs[g]? = some fn) (hb : fn.body = none) (h : externF fn args σ = some r) : callL P g args σ = some r := by
  rw [callL_some]
  exact ⟨1, by rw [callF, hfn]; simp only [hb]; exact h⟩

theorem callL_known {g : FuncId} {fn : Func} {c : Code} {args : List Value} {σ : AHeap} {v : Value} (hfn : P.funcs[g]? = some fn) (hb : fn.body = some c) (hk : isKnown fn.name = true) (hv : knownV fn.name args = some v) (hp : PureAt P g args v σ.old) : callL P g args σ = some (v, σ) := by
  rw [callL_some]
  exact ⟨1, by rw [callF, hfn]; simp only [hb]; rw [if_pos hk, hv]; simp only; rw [if_pos hp]⟩

theorem calls_of_callL (hz : ZeroOk P) (hx : P.follows .mixedOrders = true) (hE : ExtOk P) {w : World} {g : FuncId} {args : List Value} {v : Value} {σ' : AHeap} {fn : Func} {c : Code} (hfn : P.funcs[g]? = some fn) (hb : fn.body = some c)
    (hargs : ∀ a ∈ args, oldOk w.heap.size a = true) (hv : constCell v = true) (h : callL P g args (AHeap.start w) = some (v, σ')) :
    Calls P g args.toArray w fun e w' => e = .returned v ∧ RowKit.Below w.heap.size w w' := by
  rw [callL_some] at h
  obtain ⟨n, hn⟩ := h
  exact calls_of_callF hz hx hE hfn hb hargs hv hn

end
end Go.Am
