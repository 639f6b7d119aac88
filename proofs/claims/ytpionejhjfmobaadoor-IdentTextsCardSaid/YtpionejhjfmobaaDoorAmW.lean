/- AmW -/
import Derived.Test.YtpionejhjfmobaaDoorAmU
import Derived.KernelRfl
set_option linter.unusedVariables false
set_option linter.unusedSimpArgs false
namespace Go.Am

/-! ### Words of the plain functions -/
/-- An answer with a property. -/
def OptW {α : Type} (x : Option α) (C : α → Prop) : Prop := ∃ a, x = some a ∧ C a
def lt {α β : Type} (a : α) (f : α → β) : β := f a
def bd {α β : Type} (o : Option α) (f : α → Option β) : Option β := o.bind f
def ck {β : Type} (b : Prop) [Decidable b] (x : Option β) : Option β := if b then x else none

theorem OptW.lt {α β : Type} {a : α} {f : α → Option β} {C : β → Prop} (h : OptW (Go.Am.lt a f) C) : ∃ x, x = a ∧ OptW (f x) C := ⟨a, rfl, h⟩
theorem OptW.bd {α β : Type} {o : Option α} {f : α → Option β} {C : β → Prop} (h : OptW (Go.Am.bd o f) C) : ∃ x, o = some x ∧ OptW (f x) C := by
  obtain ⟨b, hb, hC⟩ := h
  unfold Go.Am.bd at hb
  rw [Option.bind_eq_some_iff] at hb
  obtain ⟨x, hx, hf⟩ := hb
  exact ⟨x, hx, b, hf, hC⟩
theorem OptW.ck {β : Type} {b : Prop} [Decidable b] {x : Option β} {C : β → Prop} (h : OptW (Go.Am.ck b x) C) : b ∧ OptW x C := by
  obtain ⟨a, ha, hC⟩ := h
  unfold Go.Am.ck at ha
  split at ha
  · exact ⟨by assumption, a, ha, hC⟩
  · cases ha
theorem OptW.sm {α : Type} {a : α} {C : α → Prop} (h : OptW (some a) C) : C a := by
  obtain ⟨x, hx, hC⟩ := h
  injection hx with hx; subst hx; exact hC
theorem OptW.nn {α : Type} {C : α → Prop} (h : OptW (none : Option α) C) : False := by
  obtain ⟨x, hx, _⟩ := h; cases hx
theorem OptW.eqs {α : Type} {x : Option α} {a : α} {C : α → Prop} (h : OptW x C) (hx : x = some a) : C a := by
  obtain ⟨b, hb, hC⟩ := h
  rw [hx] at hb; injection hb with hb; subst hb; exact hC
theorem OptW.imp {α : Type} {x : Option α} {C D : α → Prop} (h : OptW x C) (hi : ∀ a, C a → D a) : OptW x D := by
  obtain ⟨b, hb, hC⟩ := h
  exact ⟨b, hb, hi b hC⟩
theorem OptW.of {α : Type} {x : Option α} {a : α} (hx : x = some a) : OptW x fun b => b = a := ⟨a, hx, rfl⟩

/-! ### Loops of the plain functions -/
def iterT {S B : Type} (body : S → Option (S ⊕ B)) : Nat → S → Option B
  | 0, _ => none
  | n + 1, x =>
    match body x with
    | some (.inl y) => iterT body n y
    | some (.inr b) => some b
    | none => none

theorem iterT_le {S B : Type} {body : S → Option (S ⊕ B)} : ∀ {n m : Nat} {x : S} {b : B}, n ≤ m → iterT body n x = some b → iterT body m x = some b := by
  intro n
  induction n with
  | zero => intro m x b _ h; cases h
  | succ n ih =>
    intro m x b hm h
    obtain ⟨m, rfl⟩ : ∃ k, m = k + 1 := ⟨m - 1, by omega⟩
    unfold iterT at h ⊢
    cases hb : body x with
    | none => rw [hb] at h; cases h
    | some r =>
      rw [hb] at h
      cases r with
      | inl y => exact ih (by omega) h
      | inr c => exact h

open Classical in
noncomputable def loopT {S B : Type} (body : S → Option (S ⊕ B)) (x : S) : Option B :=
  if h : ∃ b, ∃ n, iterT body n x = some b then some h.choose else none

theorem loopT_some {S B : Type} {body : S → Option (S ⊕ B)} {x : S} {b : B} : loopT body x = some b ↔ ∃ n, iterT body n x = some b := by
  unfold loopT
  constructor
  · intro h
    split at h
    · rename_i hx
      injection h with h
      rw [← h]; exact hx.choose_spec
    · cases h
  · rintro ⟨n, hn⟩
    have hx : ∃ b, ∃ n, iterT body n x = some b := ⟨b, n, hn⟩
    rw [dif_pos hx]
    obtain ⟨m, hm⟩ := hx.choose_spec
    have h1 := iterT_le (Nat.le_max_left n m) hn
    have h2 := iterT_le (Nat.le_max_right n m) hm
    rw [h1] at h2
    injection h2 with h2
    rw [← h2]

theorem loopT_eq {S B : Type} (body : S → Option (S ⊕ B)) (x : S) : loopT body x = match body x with
    | some (.inl y) => loopT body y
    | some (.inr b) => some b
    | none => none := by
  cases hb : body x with
  | none =>
    simp only
    cases hl : loopT body x with
    | none => rfl
    | some r =>
      rw [loopT_some] at hl
      obtain ⟨n, hn⟩ := hl
      cases n with
      | zero => cases hn
      | succ n => rw [iterT, hb] at hn; cases hn
  | some r =>
    cases r with
    | inl y =>
      simp only
      cases hl : loopT body y with
      | none =>
        cases hl2 : loopT body x with
        | none => rfl
        | some r =>
          rw [loopT_some] at hl2
          obtain ⟨n, hn⟩ := hl2
          cases n with
          | zero => cases hn
          | succ n =>
            rw [iterT, hb] at hn
            have := loopT_some.2 ⟨n, hn⟩
            rw [hl] at this; cases this
      | some r =>
        rw [loopT_some] at hl ⊢
        obtain ⟨n, hn⟩ := hl
        exact ⟨n + 1, by rw [iterT, hb]; exact hn⟩
    | inr b => simp only; rw [loopT_some]; exact ⟨1, by rw [iterT, hb]⟩

/-- What a loop keeps, seen from its end. -/
theorem loopT_ind {S B : Type} {body : S → Option (S ⊕ B)} {x : S} {b : B} (h : loopT body x = some b) (M : S → Prop) (D : B → Prop) (hD : D b)
    (hs : ∀ x, OptW (body x) (fun r => match r with | .inl y => M y | .inr b => D b) → M x) : M x := by
  rw [loopT_some] at h
  obtain ⟨n, hn⟩ := h
  induction n generalizing x with
  | zero => cases hn
  | succ n ih =>
    unfold iterT at hn
    cases hb : body x with
    | none => rw [hb] at hn; cases hn
    | some r =>
      rw [hb] at hn
      cases r with
      | inl y => exact hs x ⟨_, hb, ih hn⟩
      | inr c =>
        injection hn with hn; subst hn
        exact hs x ⟨_, hb, hD⟩

theorem OptW.loop {S B α : Type} {body : S → Option (S ⊕ B)} {x : S} {k : B → Option α} {C : α → Prop} (h : OptW (Go.Am.bd (loopT body x) k) C) (M : S → Prop)
    (hs : ∀ x, OptW (body x) (fun r => match r with | .inl y => M y | .inr b => OptW (k b) C) → M x) : M x := by
  obtain ⟨b, hb, hC⟩ := h.bd
  exact loopT_ind hb M (fun b => OptW (k b) C) hC hs

/-! ### What is left to run -/
inductive KI where
  | code (c : Code)
  | blk (id : Nat)

def resL (P : Program) (rs : List ResultVar) (f : Fr) (σ : AHeap) : Option Value :=
  match rs with
  | [r] => resultV P f σ r
  | rs => (rs.mapM (m := Option) (resultV P f σ)).map fun vs => .tuple vs.toArray

noncomputable def Fx (P : Program) (rs : List ResultVar) : List KI → AExit → Fr → AHeap → Option (Value × AHeap)
  | [], .normal, f, σ => (resL P rs f σ).map (·, σ)
  | [], .ret, f, σ => (resL P rs f σ).map (·, σ)
  | [], .exit _, _, _ => none
  | _ :: _, .ret, f, σ => (resL P rs f σ).map (·, σ)
  | .blk j :: k, .exit i, f, σ => if i = j then Fx P rs k .normal f σ else Fx P rs k (.exit i) f σ
  | .code _ :: k, .exit i, f, σ => Fx P rs k (.exit i) f σ
  | .blk _ :: k, .normal, f, σ => Fx P rs k .normal f σ
  | .code c :: k, .normal, f, σ =>
    match codeL P c f σ with
    | some (e, f', σ') => Fx P rs k e f' σ'
    | none => none

noncomputable def Ro (P : Program) (rs : List ResultVar) (ops : Array Oper) (l : List Oper) (k : List KI) (f : Fr) (σ : AHeap) : Option (Value × AHeap) :=
  match opsF P (callL P) ops l f σ with
  | some (f', σ') => Fx P rs k .normal f' σ'
  | none => none
noncomputable def Rd (P : Program) (rs : List ResultVar) (ops : Array Oper) (l : List (Oper × Nat)) (ps : List (Nat × AHeap)) (k : List KI) (f : Fr) (σ : AHeap) : Option (Value × AHeap) :=
  match drawF P (callL P) ops l ps f σ with
  | some (f', σ') => Fx P rs k .normal f' σ'
  | none => none

section
variable {P : Program} {rs : List ResultVar} {k : List KI} {f : Fr} {σ : AHeap} {out : Option (Value × AHeap)}

theorem Fx_ret_any : Fx P rs k .ret f σ = (resL P rs f σ).map (·, σ) := by
  cases k with
  | nil => rfl
  | cons a k => cases a <;> rfl

theorem Fx_seq {c a b : Code} (hc : c = .seq a b) (h : Fx P rs (.code a :: .code b :: k) .normal f σ = out) : Fx P rs (.code c :: k) .normal f σ = out := by
  subst hc
  rw [← h]
  show (match codeL P (.seq a b) f σ with | some (e, f', σ') => Fx P rs k e f' σ' | none => none) = match codeL P a f σ with | some (e, f', σ') => Fx P rs (.code b :: k) e f' σ' | none => none
  rw [codeL]
  cases ha : codeL P a f σ with
  | none => rfl
  | some r =>
    obtain ⟨e, f', σ'⟩ := r
    cases e with
    | normal => simp only; rfl
    | exit i => rfl
    | ret => simp only [Fx_ret_any]

theorem Fx_block {c b : Code} {id : Nat} (hc : c = .block id b) (h : Fx P rs (.code b :: .blk id :: k) .normal f σ = out) : Fx P rs (.code c :: k) .normal f σ = out := by
  subst hc
  rw [← h]
  show (match codeL P (.block id b) f σ with | some (e, f', σ') => Fx P rs k e f' σ' | none => none) = match codeL P b f σ with | some (e, f', σ') => Fx P rs (.blk id :: k) e f' σ' | none => none
  rw [codeL]
  cases ha : codeL P b f σ with
  | none => rfl
  | some r =>
    obtain ⟨e, f', σ'⟩ := r
    cases e with
    | normal => rfl
    | exit i =>
      simp only
      by_cases hi : i = id
      · rw [if_pos hi]; subst hi
        show _ = if i = i then _ else _
        rw [if_pos rfl]
      · rw [if_neg hi]
        show _ = if i = id then _ else _
        rw [if_neg hi]
    | ret => simp only [Fx_ret_any]

theorem Fx_loop {c b : Code} (hc : c = .loop b) (h : Fx P rs (.code b :: .code c :: k) .normal f σ = out) : Fx P rs (.code c :: k) .normal f σ = out := by
  subst hc
  rw [← h]
  show (match codeL P (.loop b) f σ with | some (e, f', σ') => Fx P rs k e f' σ' | none => none) = match codeL P b f σ with | some (e, f', σ') => Fx P rs (.code (.loop b) :: k) e f' σ' | none => none
  rw [codeL, loopL_eq]
  cases ha : codeL P b f σ with
  | none => rfl
  | some r =>
    obtain ⟨e, f', σ'⟩ := r
    cases e with
    | normal =>
      show _ = match codeL P (.loop b) f' σ' with | some (e, f', σ') => Fx P rs k e f' σ' | none => none
      rw [codeL]
    | exit i => rfl
    | ret => simp only [Fx_ret_any]

theorem Fx_cond {c a b : Code} {x : Operand} {t : Bool} (hc : c = .cond x a b) (hx : ev f x = .bool t)
    (ha : t = true → Fx P rs (.code a :: k) .normal f σ = out) (hb : t = false → Fx P rs (.code b :: k) .normal f σ = out) : Fx P rs (.code c :: k) .normal f σ = out := by
  subst hc
  show (match codeL P (.cond x a b) f σ with | some (e, f', σ') => Fx P rs k e f' σ' | none => none) = out
  rw [codeL, hx]
  cases t with
  | true => exact ha rfl
  | false => exact hb rfl

theorem Fx_skip {c : Code} (hc : c = .skip) (h : Fx P rs k .normal f σ = out) : Fx P rs (.code c :: k) .normal f σ = out := by subst hc; exact h
theorem Fx_label {c : Code} {l : Nat} (hc : c = .label l) (h : Fx P rs k .normal f σ = out) : Fx P rs (.code c :: k) .normal f σ = out := by subst hc; exact h
theorem Fx_blk {j : Nat} (h : Fx P rs k .normal f σ = out) : Fx P rs (.blk j :: k) .normal f σ = out := h
theorem Fx_scope {c b : Code} (hc : c = .scope b) (h : Fx P rs (.code b :: k) .normal f σ = out) : Fx P rs (.code c :: k) .normal f σ = out := by
  subst hc
  rw [← h]
  show (match codeL P (.scope b) f σ with | some (e, f', σ') => Fx P rs k e f' σ' | none => none) = match codeL P b f σ with | some (e, f', σ') => Fx P rs k e f' σ' | none => none
  rw [codeL]
theorem Fx_exit {c : Code} {i : Nat} (hc : c = .exit i) (h : Fx P rs k (.exit i) f σ = out) : Fx P rs (.code c :: k) .normal f σ = out := by subst hc; exact h
theorem Fx_ret {c : Code} {v : Value} (hc : c = .ret) (hr : resL P rs f σ = some v) (h : some (v, σ) = out) : Fx P rs (.code c :: k) .normal f σ = out := by
  subst hc
  rw [← h]
  show Fx P rs k .ret f σ = _
  rw [Fx_ret_any, hr]; rfl
theorem Fx_end {v : Value} (hr : resL P rs f σ = some v) (h : some (v, σ) = out) : Fx P rs [] .normal f σ = out := by
  rw [← h]
  show (resL P rs f σ).map (·, σ) = _
  rw [hr]; rfl
theorem Fx_out_code {c : Code} {i : Nat} (h : Fx P rs k (.exit i) f σ = out) : Fx P rs (.code c :: k) (.exit i) f σ = out := h
theorem Fx_out_ne {i j : Nat} (hij : Nat.beq i j = false) (h : Fx P rs k (.exit i) f σ = out) : Fx P rs (.blk j :: k) (.exit i) f σ = out := by
  show (if i = j then _ else _) = out
  rw [if_neg (Nat.ne_of_beq_eq_false hij)]; exact h
theorem Fx_out_eq {i : Nat} (h : Fx P rs k .normal f σ = out) : Fx P rs (.blk i :: k) (.exit i) f σ = out := by
  show (if i = i then _ else _) = out
  rw [if_pos rfl]; exact h

theorem Fx_text {c : Code} {id : Nat} {ops : Array Oper} (hc : c = .region id ops false) (hg : noGlob ops = true) (h : Ro P rs ops ops.toList k f σ = out) : Fx P rs (.code c :: k) .normal f σ = out := by
  subst hc
  rw [← h]
  show (match codeL P (.region id ops false) f σ with | some (e, f', σ') => Fx P rs k e f' σ' | none => none) = _
  rw [codeL, if_pos hg, Ro]
  cases opsF P (callL P) ops ops.toList f σ with
  | none => rfl
  | some r => rfl
theorem Fx_draw {c : Code} {id : Nat} {ops : Array Oper} {l : List (Oper × Nat)} (hc : c = .region id ops true) (hg : noGlob ops = true) (hr : regionOk ops = true) (hl : canonOps ops = l) (h : Rd P rs ops l [] k f σ = out) : Fx P rs (.code c :: k) .normal f σ = out := by
  subst hc hl
  rw [← h]
  show (match codeL P (.region id ops true) f σ with | some (e, f', σ') => Fx P rs k e f' σ' | none => none) = _
  rw [codeL, if_pos hg, Rd]
  simp only [hr, if_true]
  cases drawF P (callL P) ops (canonOps ops) [] f σ with
  | none => rfl
  | some r => rfl

/-- The frame as far as it is needed. -/
theorem Fr.set_id {f : Fr} {t : Nat} {v : Value} (h : f t = v) : f.set t v = f := by
  funext i; unfold Fr.set; split
  · rename_i hi; rw [hi, h]
  · rfl
theorem Fx_forget {g : Fr} (hg : g = f) (h : Fx P rs k .normal g σ = out) : Fx P rs k .normal f σ = out := by subst hg; exact h

/-! ### Steps in a region -/
variable {ops : Array Oper} {l : List Oper} {ld : List (Oper × Nat)} {ps : List (Nat × AHeap)} {σ' : AHeap} {v : Value} {d : Nat} {op : Op} {ty : TypeId} {pos : String} {af : Array Edge} {g : Option (Nat × Bool)} {i : Nat}

theorem Ro_nil (h : Fx P rs k .normal f σ = out) : Ro P rs ops [] k f σ = out := h
theorem Rd_nil (h : Fx P rs k .normal f σ = out) : Rd P rs ops [] ps k f σ = out := h

theorem Ro_set {t : Bool} {o : Oper} (ho : o = ⟨some d, op, ty, pos, af, g⟩) (hw : Region.wanted o (yieldF ops f) = t) (hv : t = true → opV P (callL P) f σ o = some (v, σ')) (hn : t = false → v = undef ∧ σ' = σ)
    (h : Ro P rs ops l k (f.set d v) σ' = out) : Ro P rs ops (o :: l) k f σ = out := by
  rw [← h]
  unfold Ro
  rw [opsF]
  cases t with
  | true =>
    rw [if_pos hw, hv rfl]; subst ho; rfl
  | false =>
    obtain ⟨h1, h2⟩ := hn rfl
    rw [if_neg (by rw [hw]; decide)]; subst ho h1 h2; rfl
theorem Ro_do {t : Bool} {o : Oper} (ho : o = ⟨none, op, ty, pos, af, g⟩) (hw : Region.wanted o (yieldF ops f) = t) (hv : t = true → opV P (callL P) f σ o = some (v, σ')) (hn : t = false → σ' = σ)
    (h : Ro P rs ops l k f σ' = out) : Ro P rs ops (o :: l) k f σ = out := by
  rw [← h]
  unfold Ro
  rw [opsF]
  cases t with
  | true =>
    rw [if_pos hw, hv rfl]; subst ho; rfl
  | false =>
    have h2 := hn rfl
    rw [if_neg (by rw [hw]; decide)]; subst ho h2; rfl
/-- without a guard -/
theorem Ro_v {o : Oper} (ho : o = ⟨some d, op, ty, pos, af, none⟩) (hv : opV P (callL P) f σ o = some (v, σ')) (h : Ro P rs ops l k (f.set d v) σ' = out) : Ro P rs ops (o :: l) k f σ = out :=
  Ro_set (t := true) ho (by subst ho; rfl) (fun _ => hv) (fun h => nomatch h) h
theorem Ro_d {o : Oper} (ho : o = ⟨none, op, ty, pos, af, none⟩) (hv : opV P (callL P) f σ o = some (v, σ')) (h : Ro P rs ops l k f σ' = out) : Ro P rs ops (o :: l) k f σ = out :=
  Ro_do (t := true) ho (by subst ho; rfl) (fun _ => hv) (fun h => nomatch h) h

/-- What a step does to the acts so far. -/
def psOf (o : Oper) (i : Nat) (σ : AHeap) (ps : List (Nat × AHeap)) : List (Nat × AHeap) := match clsOf o.op with | .act => (i, σ) :: ps | _ => ps
def readsOk (P : Program) (ops : Array Oper) (f : Fr) (o : Oper) (i : Nat) (v : Value) (ps : List (Nat × AHeap)) : Prop := clsOf o.op = .read → ∀ p ∈ ps, orderedIn ops p.1 i = true ∨ aop P f p.2 o.op = some (v, p.2)

theorem Rd_step {o : Oper} (hw : Region.wanted o (yieldF ops f) = true) (hv : opV P (callL P) f σ o = some (v, σ')) (hp : readsOk P ops f o i v ps) :
    Rd P rs ops ((o, i) :: ld) ps k f σ = Rd P rs ops ld (psOf o i σ ps) k (f.put o.dst v) σ' := by
  unfold Rd
  rw [drawF, if_pos hw, hv]
  unfold psOf
  unfold readsOk at hp
  cases hc : clsOf o.op with
  | pure => rfl
  | alloc => rfl
  | act => rfl
  | read =>
    simp only [Option.bind_some]
    rw [if_pos (hp hc)]
theorem Rd_skip {o : Oper} (hw : Region.wanted o (yieldF ops f) = false) : Rd P rs ops ((o, i) :: ld) ps k f σ = Rd P rs ops ld ps k (f.put o.dst undef) σ := by
  unfold Rd
  rw [drawF, if_neg (by rw [hw]; decide)]
theorem Rd_v {o : Oper} (ho : o = ⟨some d, op, ty, pos, af, none⟩) (hv : opV P (callL P) f σ o = some (v, σ')) (hp : readsOk P ops f o i v ps) {ps' : List (Nat × AHeap)} (hps : psOf o i σ ps = ps')
    (h : Rd P rs ops ld ps' k (f.set d v) σ' = out) : Rd P rs ops ((o, i) :: ld) ps k f σ = out := by
  rw [Rd_step (by subst ho; rfl) hv hp, hps]; subst ho; exact h
theorem Rd_d {o : Oper} (ho : o = ⟨none, op, ty, pos, af, none⟩) (hv : opV P (callL P) f σ o = some (v, σ')) (hp : readsOk P ops f o i v ps) {ps' : List (Nat × AHeap)} (hps : psOf o i σ ps = ps')
    (h : Rd P rs ops ld ps' k f σ' = out) : Rd P rs ops ((o, i) :: ld) ps k f σ = out := by
  rw [Rd_step (by subst ho; rfl) hv hp, hps]; subst ho; exact h
/-- The two ways of a guarded step that draws, where it doesn't act. -/
theorem Rd_set {t : Bool} {o : Oper} (ho : o = ⟨some d, op, ty, pos, af, g⟩) (hw : Region.wanted o (yieldF ops f) = t) (hv : t = true → opV P (callL P) f σ o = some (v, σ')) (hn : t = false → v = undef ∧ σ' = σ)
    (hp : t = true → readsOk P ops f o i v ps) (hps : psOf o i σ ps = ps)
    (h : Rd P rs ops ld ps k (f.set d v) σ' = out) : Rd P rs ops ((o, i) :: ld) ps k f σ = out := by
  cases t with
  | true => rw [Rd_step hw (hv rfl) (hp rfl), hps]; subst ho; exact h
  | false =>
    obtain ⟨h1, h2⟩ := hn rfl
    rw [Rd_skip hw]; subst ho h1 h2; exact h
/-- A guarded step that acts, at a heap that it leaves as it is, or not. -/
theorem Rd_act {t : Bool} {o : Oper} (ho : o = ⟨some d, op, ty, pos, af, g⟩) (hw : Region.wanted o (yieldF ops f) = t) (hv : t = true → opV P (callL P) f σ o = some (v, σ')) (hn : t = false → v = undef ∧ σ' = σ)
    (hp : clsOf o.op = .act) (h1 : t = true → Rd P rs ops ld ((i, σ) :: ps) k (f.set d v) σ' = out) (h0 : t = false → Rd P rs ops ld ps k (f.set d v) σ' = out) : Rd P rs ops ((o, i) :: ld) ps k f σ = out := by
  cases t with
  | true =>
    rw [Rd_step hw (hv rfl) (fun h => by rw [hp] at h; cases h)]
    have : psOf o i σ ps = (i, σ) :: ps := by unfold psOf; rw [hp]
    rw [this]; subst ho; exact h1 rfl
  | false =>
    obtain ⟨h2, h3⟩ := hn rfl
    rw [Rd_skip hw]; subst ho h2 h3; exact h0 rfl

/-! ### Calls -/
theorem callL_walk {n : FuncId} {fn : Func} {c : Code} {args : List Value} (hfn : P.funcs[n]? = some fn) (hb : fn.body = some c) (hok : funcOk fn = true) (hl : decide (fn.ntmps < args.length) = false) (hrs : fn.results.toList = rs)
    {r : Value × AHeap} (h : Fx P rs [.code c] .normal (fun t => args.getD t undef) σ = some r) : callL P n args σ = some r := by
  have hF : resultsF P fn = resL P rs := by
    subst hrs; funext f σ
    unfold resultsF resL
    cases fn.results.toList with
    | nil => rfl
    | cons a l => cases l <;> rfl
  have h' : (match codeL P c (fun t => args.getD t undef) σ with | some (e, f', σ') => Fx P rs [] e f' σ' | none => none) = some r := h
  cases hc : codeL P c (fun t => args.getD t undef) σ with
  | none => rw [hc] at h'; cases h'
  | some x =>
    obtain ⟨e, f', σ'⟩ := x
    rw [hc] at h'
    have key : ∀ {e : AExit}, e = .normal ∨ e = .ret → codeL P c (fun t => args.getD t undef) σ = some (e, f', σ') → (resL P rs f' σ').map (·, σ') = some r → callL P n args σ = some r := by
      intro e he hc hr
      rw [Option.map_eq_some_iff] at hr
      obtain ⟨v, hv, hr⟩ := hr
      subst hr
      exact callL_body hfn hb hok hl he hc (by rw [hF]; exact hv)
    cases e with
    | normal => exact key (.inl rfl) hc h'
    | ret => exact key (.inr rfl) hc h'
    | exit i => cases h'
end
end Go.Am
/- AmX -/
set_option linter.unusedVariables false
set_option linter.unusedSimpArgs false
namespace Go.Am

/-! ### Plain words -/
structure Sl where
  p : Option Addr
  n : Nat
  c : Nat
def Sl.v (s : Sl) : Value := .slice s.p s.n s.c
abbrev Sl.nil : Sl := ⟨none, 0, 0⟩

def idxS (s : ByteArray) (i : Int) : Option Int := if h : 0 ≤ i ∧ i.toNat < s.size then some ((s[i.toNat]'h.2).toNat : Int) else none
def slS (s : ByteArray) (lo hi : Option Int) : Option ByteArray :=
  let l := lo.getD 0
  let h := hi.getD s.size
  if 0 ≤ l ∧ l ≤ h ∧ h ≤ s.size then some (s.extract l.toNat h.toNat) else none
def lessS (a b : ByteArray) : Bool := Op.bytesLess a.toList b.toList
/-- The cells behind an address. -/
def ldN (σ : AHeap) (p : Option Addr) (n : Nat) : Option (List Value) := p.bind fun a => rd σ a n
def stN (σ : AHeap) (p : Option Addr) (vs : List Value) : Option AHeap := p.bind fun a => wr σ a vs
def offP (p : Option Addr) (n : Nat) : Option (Option Addr) := p.bind fun a => if a.spot = none then some (some ⟨a.block, a.off + n, none⟩) else none
def iaSl (s : Sl) (n : Nat) (i : Int) : Option (Option Addr) := s.p.bind fun a => if a.spot = none ∧ 0 ≤ i ∧ i < s.n then some (some ⟨a.block, a.off + i.toNat * n, none⟩) else none
def iaAr (p : Option Addr) (len n : Nat) (i : Int) : Option (Option Addr) := p.bind fun a => if a.spot = none ∧ 0 ≤ i ∧ i < len then some (some ⟨a.block, a.off + i.toNat * n, none⟩) else none
/-- A block of such elements, or an old one. -/
def elemOk (σ : AHeap) (e : TypeId) (b : Nat) : Bool := decide (b < σ.base) || match σ.get b with
  | .cells _ e' _ => decide (e' = e)
  | _ => false
def slSl (σ : AHeap) (e : TypeId) (n : Nat) (s : Sl) (lo hi : Option Int) : Option Sl :=
  let l := lo.getD 0
  let h := hi.getD s.n
  match s.p with
  | none => if l = 0 ∧ h = 0 then some Sl.nil else none
  | some a => if 0 ≤ l ∧ l ≤ h ∧ h ≤ s.n ∧ a.spot = none ∧ elemOk σ e a.block = true then
      some ⟨some ⟨a.block, a.off + l.toNat * n, none⟩, h.toNat - l.toNat, if a.block < σ.base then s.c - l.toNat else if s.c = s.n ∧ h.toNat = s.n then h.toNat - l.toNat else h.toNat - l.toNat + 1⟩
    else none
def newC (σ : AHeap) (e : TypeId) (vs : List Value) : Option Addr × AHeap := (some ⟨σ.next, 0, none⟩, σ.push (.cells vs e σ.next))
/-- The elements of a slice, as cells. -/
def slCells (σ : AHeap) (n : Nat) (s : Sl) : Option (List Value) :=
  match s.p with
  | none => some []
  | some a => if s.n * n = 0 then some [] else rd σ a (s.n * n)
/-- append, at elements of n cells and b bytes. -/
def apC (σ : AHeap) (e : TypeId) (n b : Nat) (s : Sl) (m : Nat) (new : List Value) : Option (Sl × AHeap) :=
  (slCells σ n s).bind fun old =>
    if m = 0 then some (s, σ) else
    if (s.n + m) * (b + 1) ≤ 2 ^ 46 ∧ s.n * n = old.length ∧ m * n = new.length then
      let res : Sl := ⟨some ⟨σ.next, 0, none⟩, s.n + m, s.n + m + 1⟩
      match s.p with
      | none => some (res, σ.push (.cells (old ++ new) e σ.next))
      | some a =>
        if s.c = s.n then some (res, σ.push (.cells (old ++ new) e σ.next))
        else if a.block < σ.base then none
        else
          match σ.get a.block with
          | .cells _ e' ch =>
            if e' = e then
              if a.off = 0 then some (res, (σ.kill ch σ.next (s.n * n)).push (.cells (old ++ new) e ch))
              else if a.off % n = 0 then some (res, (σ.kill ch σ.next 0).push (.cells (old ++ new) e σ.next))
              else none
            else none
          | _ => none
    else none

section
variable {P : Program} {f : Fr} {σ σ' : AHeap} {o : Oper} {x y z w : Operand} {k k' : IntKind} {a b c i j : Int} {s s' u : ByteArray} {p q r : Bool} {t t' e : TypeId} {v v' : Value} {call : CallR} {n m : Nat} {A B D : Option Addr} {X Y : Sl}

theorem opV_ao (h : ∀ g args ats, o.op ≠ .call { callee := .value g, args := args, argTypes := ats }) : opV P call f σ o = aop P f σ o.op := by
  unfold opV
  split
  · rename_i g args ats ho; exact absurd ho (h _ _ _)
  · rfl

theorem o_move (ho : o.op = .move x) (hx : ev f x = v) : opV P call f σ o = some (v, σ) := by
  rw [opV_ao (by rw [ho]; intros; simp), ho, aop, hx]
theorem o_assign (ho : o.op = .assign x) (hx : ev f x = v) : opV P call f σ o = some (v, σ) := by
  rw [opV_ao (by rw [ho]; intros; simp), ho, aop, hx]
theorem o_pick (ho : o.op = .pick x y z) (hx : ev f x = .bool p) (hy : p = true → ev f y = v) (hz : p = false → ev f z = v) : opV P call f σ o = some (v, σ) := by
  rw [opV_ao (by rw [ho]; intros; simp), ho, aop, hx]
  cases p with
  | true => simp [hy rfl]
  | false => simp [hz rfl]

theorem o_bin {op : BinOp} (ho : o.op = .binOp op t x y t') (hb : aBin P op t (ev f x) (ev f y) = some v) : opV P call f σ o = some (v, σ) := by
  rw [opV_ao (by rw [ho]; intros; simp), ho, aop, hb]; rfl
theorem o_add (ho : o.op = .binOp .add t x y t') (hx : ev f x = .int k a) (hy : ev f y = .int k b) (hc : c = k.wrap (a + b)) : opV P call f σ o = some (.int k c, σ) :=
  o_bin ho (by rw [hx, hy, hc]; simp [aBin, aInt])
theorem o_sub (ho : o.op = .binOp .sub t x y t') (hx : ev f x = .int k a) (hy : ev f y = .int k b) (hc : c = k.wrap (a - b)) : opV P call f σ o = some (.int k c, σ) :=
  o_bin ho (by rw [hx, hy, hc]; simp [aBin, aInt])
theorem o_mul (ho : o.op = .binOp .mul t x y t') (hx : ev f x = .int k a) (hy : ev f y = .int k b) (hc : c = k.wrap (a * b)) : opV P call f σ o = some (.int k c, σ) :=
  o_bin ho (by rw [hx, hy, hc]; simp [aBin, aInt])
theorem o_quo (ho : o.op = .binOp .quo t x y t') (hx : ev f x = .int k a) (hy : ev f y = .int k b) (hb : b ≠ 0) (hc : c = k.wrap (a.tdiv b)) : opV P call f σ o = some (.int k c, σ) :=
  o_bin ho (by rw [hx, hy, hc]; simp [aBin, aInt, hb])
theorem o_rem (ho : o.op = .binOp .rem t x y t') (hx : ev f x = .int k a) (hy : ev f y = .int k b) (hb : b ≠ 0) (hc : c = a.tmod b) : opV P call f σ o = some (.int k c, σ) :=
  o_bin ho (by rw [hx, hy, hc]; simp [aBin, aInt, hb])
theorem o_eql (ho : o.op = .binOp .eql t x y t') (hx : ev f x = .int k a) (hy : ev f y = .int k b) (hc : p = decide (a = b)) : opV P call f σ o = some (.bool p, σ) :=
  o_bin ho (by rw [hx, hy, hc]; simp [aBin, aInt])
theorem o_neq (ho : o.op = .binOp .neq t x y t') (hx : ev f x = .int k a) (hy : ev f y = .int k b) (hc : p = decide (a ≠ b)) : opV P call f σ o = some (.bool p, σ) :=
  o_bin ho (by rw [hx, hy, hc]; simp [aBin, aInt])
theorem o_lss (ho : o.op = .binOp .lss t x y t') (hx : ev f x = .int k a) (hy : ev f y = .int k b) (hc : p = decide (a < b)) : opV P call f σ o = some (.bool p, σ) :=
  o_bin ho (by rw [hx, hy, hc]; simp [aBin, aInt])
theorem o_leq (ho : o.op = .binOp .leq t x y t') (hx : ev f x = .int k a) (hy : ev f y = .int k b) (hc : p = decide (a ≤ b)) : opV P call f σ o = some (.bool p, σ) :=
  o_bin ho (by rw [hx, hy, hc]; simp [aBin, aInt])
theorem o_gtr (ho : o.op = .binOp .gtr t x y t') (hx : ev f x = .int k a) (hy : ev f y = .int k b) (hc : p = decide (b < a)) : opV P call f σ o = some (.bool p, σ) :=
  o_bin ho (by rw [hx, hy, hc]; simp [aBin, aInt])
theorem o_geq (ho : o.op = .binOp .geq t x y t') (hx : ev f x = .int k a) (hy : ev f y = .int k b) (hc : p = decide (b ≤ a)) : opV P call f σ o = some (.bool p, σ) :=
  o_bin ho (by rw [hx, hy, hc]; simp [aBin, aInt])
theorem o_sadd (ho : o.op = .binOp .add t x y t') (hx : ev f x = .string s) (hy : ev f y = .string s') (hl : s.size + s'.size ≤ 9223372036854775807) (hc : u = s ++ s') : opV P call f σ o = some (.string u, σ) :=
  o_bin ho (by rw [hx, hy, hc]; simp [aBin, aStr, hl])
theorem o_seql (ho : o.op = .binOp .eql t x y t') (hx : ev f x = .string s) (hy : ev f y = .string s') (hc : p = decide (s = s')) : opV P call f σ o = some (.bool p, σ) :=
  o_bin ho (by rw [hx, hy, hc]; simp [aBin, aStr])
theorem o_sneq (ho : o.op = .binOp .neq t x y t') (hx : ev f x = .string s) (hy : ev f y = .string s') (hc : p = decide (s ≠ s')) : opV P call f σ o = some (.bool p, σ) :=
  o_bin ho (by rw [hx, hy, hc]; simp [aBin, aStr])
theorem o_slss (ho : o.op = .binOp .lss t x y t') (hx : ev f x = .string s) (hy : ev f y = .string s') (hc : p = lessS s s') : opV P call f σ o = some (.bool p, σ) :=
  o_bin ho (by rw [hx, hy, hc]; simp [aBin, aStr, lessS])
theorem o_sleq (ho : o.op = .binOp .leq t x y t') (hx : ev f x = .string s) (hy : ev f y = .string s') (hc : p = (lessS s s' || decide (s = s'))) : opV P call f σ o = some (.bool p, σ) :=
  o_bin ho (by rw [hx, hy, hc]; simp [aBin, aStr, lessS])
theorem o_sgtr (ho : o.op = .binOp .gtr t x y t') (hx : ev f x = .string s) (hy : ev f y = .string s') (hc : p = !(lessS s s' || decide (s = s'))) : opV P call f σ o = some (.bool p, σ) :=
  o_bin ho (by rw [hx, hy, hc]; simp [aBin, aStr, lessS])
theorem o_sgeq (ho : o.op = .binOp .geq t x y t') (hx : ev f x = .string s) (hy : ev f y = .string s') (hc : p = !(lessS s s')) : opV P call f σ o = some (.bool p, σ) :=
  o_bin ho (by rw [hx, hy, hc]; simp [aBin, aStr, lessS])
theorem o_beql (ho : o.op = .binOp .eql t x y t') (ht : P.underlying t = some .bool) (hx : ev f x = .bool q) (hy : ev f y = .bool r) (hc : p = (q == r)) : opV P call f σ o = some (.bool p, σ) :=
  o_bin ho (by rw [hx, hy, hc]; simp [aBin, aEq, Op.maxDepth, ht])
theorem o_bneq (ho : o.op = .binOp .neq t x y t') (ht : P.underlying t = some .bool) (hx : ev f x = .bool q) (hy : ev f y = .bool r) (hc : p = !(q == r)) : opV P call f σ o = some (.bool p, σ) :=
  o_bin ho (by rw [hx, hy, hc]; simp [aBin, aEq, Op.maxDepth, ht])
theorem o_not (ho : o.op = .unOp .not t x) (hx : ev f x = .bool q) (hc : p = !q) : opV P call f σ o = some (.bool p, σ) := by
  rw [opV_ao (by rw [ho]; intros; simp), ho, aop, hx, hc]; rfl
theorem o_neg (ho : o.op = .unOp .neg t x) (hx : ev f x = .int k a) (hc : c = k.wrap (0 - a)) : opV P call f σ o = some (.int k c, σ) := by
  rw [opV_ao (by rw [ho]; intros; simp), ho, aop, hx, hc]; rfl

theorem o_idxS (ho : o.op = .index t x y) (ht : P.underlying t = some .string) (hx : ev f x = .string s) (hy : ev f y = .int k i) (hc : idxS s i = some c) : opV P call f σ o = some (.int .u8 c, σ) := by
  rw [opV_ao (by rw [ho]; intros; simp), ho, aop, hx, hy]
  unfold idxS at hc
  split at hc
  · rename_i h
    injection hc with hc
    simp only [aIndex, ht, dif_pos h, ← hc]; rfl
  · cases hc
theorem o_slS {lo hi : Option Operand} (l h : Option Int) (ho : o.op = .slice t x lo hi none) (ht : P.underlying t = some .string) (hx : ev f x = .string s) (hlo : lo.map (ev f) = l.map (Value.int .i64)) (hhi : hi.map (ev f) = h.map (Value.int .i64))
    (hc : slS s l h = some u) : opV P call f σ o = some (.string u, σ) := by
  rw [opV_ao (by rw [ho]; intros; simp), ho, aop, hx, hlo, hhi]
  unfold slS at hc
  simp only at hc
  split at hc
  · rename_i hh
    injection hc with hc
    obtain ⟨h1, h2, h3⟩ := hh
    have e1 : aBound (l.map (Value.int .i64)) 0 = some (l.getD 0).toNat := by
      cases l with
      | none => rfl
      | some a => simp only [Option.map_some, aBound]; rw [if_pos (by simpa using h1)]; rfl
    have e2 : aBound (h.map (Value.int .i64)) s.size = some (h.getD s.size).toNat := by
      cases h with
      | none => simp [aBound]
      | some a => simp only [Option.map_some, aBound]; rw [if_pos (by simp at h2; omega)]; rfl
    simp only [aSlice, ht, Option.map_none, e1, e2, Option.bind_some]
    rw [if_pos (by omega), ← hc]; rfl
  · cases hc
theorem len_op (ho : o.op = .call { callee := .builtin .len, args := #[x], argTypes := #[t] }) (h : aLen P σ t (ev f x) = some v) : opV P call f σ o = some (v, σ) := by
  rw [opV_ao (by rw [ho]; intros; simp), ho, aop]
  simp [aBuiltin, h]
theorem o_lenS (ho : o.op = .call { callee := .builtin .len, args := #[x], argTypes := #[t] }) (ht : P.underlying t = some .string) (hx : ev f x = .string s) (hc : c = s.size) : opV P call f σ o = some (.int .i64 c, σ) := by
  refine len_op ho ?_
  rw [hx, hc]; simp only [aLen, ht]; rfl
theorem o_lenSl (ho : o.op = .call { callee := .builtin .len, args := #[x], argTypes := #[t] }) (ht : P.underlying t = some (.slice e)) (hx : ev f x = X.v) (hc : c = X.n) : opV P call f σ o = some (.int .i64 c, σ) := by
  refine len_op ho ?_
  rw [hx, hc]; simp only [aLen, ht, Sl.v]; rfl
theorem o_call {g : FuncId} {args : Array Operand} {ats : Array TypeId} {vs : List Value} (ho : o.op = .call { callee := .value (.func g), args := args, argTypes := ats }) (ha : args.toList.map (ev f) = vs) (h : call g vs σ = some (v, σ')) : opV P call f σ o = some (v, σ') := by
  unfold opV
  rw [ho]
  simp only [aCallee, ev]
  simp only [List.nil_append, List.append_nil, Option.bind_some, ha, h]
theorem o_ext {vs : Array Value} (ho : o.op = .extract x n) (hx : ev f x = .tuple vs) (h : vs[n]? = some v) : opV P call f σ o = some (v, σ) := by
  rw [opV_ao (by rw [ho]; intros; simp), ho, aop, hx]; simp only [h]; rfl
theorem o_convI (ho : o.op = .convert t t' x) {u : TypeDesc} (ht : P.underlying t = some u) (ht' : P.underlying t' = some (.int k')) (hx : ev f x = .int k a) (hc : c = k'.wrap a) : opV P call f σ o = some (.int k' c, σ) := by
  rw [opV_ao (by rw [ho]; intros; simp), ho, aop, hx, hc]; simp only [aConv, ht, ht']
theorem o_convS (ho : o.op = .convert t t' x) {u : TypeDesc} (ht : P.underlying t = some u) (ht' : P.underlying t' = some .string) (hx : ev f x = .string s) : opV P call f σ o = some (.string s, σ) := by
  rw [opV_ao (by rw [ho]; intros; simp), ho, aop, hx]; simp only [aConv, ht, ht']
theorem o_load1 (ho : o.op = .load t x) (ht : aggOf P t = some false) (hx : ev f x = .pointer A) (hc : ldN σ A 1 = some [v]) : opV P call f σ o = some (v, σ) := by
  rw [opV_ao (by rw [ho]; intros; simp), ho, aop, hx]
  cases A with
  | none => cases hc
  | some a => simp only [ldN, Option.bind_some] at hc; simp only [aLoad, ht, hc]; rfl
theorem o_loadN {cs : List Value} (ho : o.op = .load t x) (ht : aggOf P t = some true) (hs : szOf P t = some n) (hx : ev f x = .pointer A) (hc : ldN σ A n = some cs) : opV P call f σ o = some (.agg cs.toArray, σ) := by
  rw [opV_ao (by rw [ho]; intros; simp), ho, aop, hx]
  cases A with
  | none => cases hc
  | some a => simp only [ldN, Option.bind_some] at hc; simp only [aLoad, ht, hs, Option.bind_some, hc]; rfl
theorem o_store {vs : List Value} (ho : o.op = .store t x y) (hs : szOf P t = some vs.length) (hx : ev f x = .pointer A) (hy : ev f y = v) (hn : noTuple v = true) (hv : v.cells.toList = vs) (hc : stN σ A vs = some σ') : opV P call f σ o = some (undef, σ') := by
  rw [opV_ao (by rw [ho]; intros; simp), ho, aop, hx, hy]
  cases A with
  | none => cases hc
  | some a =>
    simp only [stN, Option.bind_some] at hc
    have : v.cells.size = vs.length := by rw [← hv]; simp
    simp only [aStore, hn, this, hs, hv, and_self, if_true, hc]; rfl
theorem o_alloc {z : Value} {vs : List Value} (ho : o.op = .alloc e) (hz : zeroOf P e = some z) (hn : noTuple z = true) (hv : z.cells.toList = vs) (hc : newC σ e vs = (A, σ')) : opV P call f σ o = some (.pointer A, σ') := by
  rw [opV_ao (by rw [ho]; intros; simp), ho, aop, hz]
  unfold newC at hc
  injection hc with h1 h2
  simp only [Option.bind_some, aNew, hn, if_true, hv, h1, h2]
theorem o_box {vs : List Value} (ho : o.op = .box e x) (hs : szOf P e = some n) (hx : ev f x = v) (hn : noTuple v = true) (hv : v.cells.toList = vs) (hc : newC σ e vs = (A, σ')) : opV P call f σ o = some (.pointer A, σ') := by
  rw [opV_ao (by rw [ho]; intros; simp), ho, aop, hs, hx]
  unfold newC at hc
  injection hc with h1 h2
  simp only [aNew, hn, if_true, hv, h1, h2]
theorem o_field {fs : Array Field} {fd : Field} {cs : Array Value} (ho : o.op = .field t x n) (ht : P.underlying t = some (.struct fs)) (hf : fs[n]? = some fd) (ha : aggOf P fd.type = some false) (hx : ev f x = .agg cs) (hc : cs[fd.offset]? = some v) : opV P call f σ o = some (v, σ) := by
  rw [opV_ao (by rw [ho]; intros; simp), ho, aop, hx]
  simp only [aField, ht, hf, Option.bind_some, aPart, ha, hc]; rfl
theorem o_fieldN {fs : Array Field} {fd : Field} {cs : Array Value} (ho : o.op = .field t x n) (ht : P.underlying t = some (.struct fs)) (hf : fs[n]? = some fd) (ha : aggOf P fd.type = some true) (hs : szOf P fd.type = some m) (hx : ev f x = .agg cs) (hc : .agg (cs.extract fd.offset (fd.offset + m)) = v) : opV P call f σ o = some (v, σ) := by
  rw [opV_ao (by rw [ho]; intros; simp), ho, aop, hx]
  simp only [aField, ht, hf, Option.bind_some, aPart, ha, hs, Option.map_some, hc]
theorem o_fieldAddr {fs : Array Field} {fd : Field} (ho : o.op = .fieldAddr t x n) (ht : P.underlying t = some (.struct fs)) (hf : fs[n]? = some fd) (hs : szOf P fd.type = some (m + 1)) (hx : ev f x = .pointer A) (hc : offP A fd.offset = some B) : opV P call f σ o = some (.pointer B, σ) := by
  rw [opV_ao (by rw [ho]; intros; simp), ho, aop, hx]
  cases A with
  | none => cases hc
  | some a =>
    simp only [offP, Option.bind_some] at hc
    split at hc
    · rename_i h
      injection hc with hc; subst hc
      simp only [aFieldAddr, ht, hf, Option.bind_some, hs]
      rw [if_pos ⟨h, by simp, by simp⟩]; rfl
    · cases hc
theorem o_iaSl (ho : o.op = .indexAddr t x y) (ht : P.underlying t = some (.slice e)) (hs : szOf P e = some n) (hx : ev f x = X.v) (hy : ev f y = .int k i) (hc : iaSl X n i = some B) : opV P call f σ o = some (.pointer B, σ) := by
  rw [opV_ao (by rw [ho]; intros; simp), ho, aop, hx, hy]
  obtain ⟨p, len, cap⟩ := X
  cases p with
  | none => cases hc
  | some a =>
    simp only [iaSl, Option.bind_some] at hc
    split at hc
    · rename_i h
      injection hc with hc; subst hc
      simp only [aIndexAddr, ht, Sl.v, hs, Option.bind_some]
      rw [if_pos h]; rfl
    · cases hc
theorem o_slSl {lo hi : Option Operand} (l h : Option Int) (ho : o.op = .slice t x lo hi none) (ht : P.underlying t = some (.slice e)) (hs : szOf P e = some n) (hx : ev f x = X.v) (hlo : lo.map (ev f) = l.map (Value.int .i64)) (hhi : hi.map (ev f) = h.map (Value.int .i64))
    (hc : slSl σ e n X l h = some Y) : opV P call f σ o = some (Y.v, σ) := by
  rw [opV_ao (by rw [ho]; intros; simp), ho, aop, hx, hlo, hhi]
  obtain ⟨p, len, cap⟩ := X
  unfold slSl at hc
  simp only at hc
  cases p with
  | none =>
    simp only at hc
    split at hc
    · rename_i hh
      injection hc with hc; subst hc
      obtain ⟨h1, h2⟩ := hh
      have e1 : aBound (l.map (Value.int .i64)) 0 = some 0 := by
        cases l with
        | none => rfl
        | some a => simp at h1; subst h1; rfl
      have e2 : aBound (h.map (Value.int .i64)) 0 = some 0 := by
        cases h with
        | none => rfl
        | some a => simp at h2; subst h2; rfl
      simp only [aSlice, ht, Sl.v, Option.map_none, hs, Option.bind_some, e1, e2, and_self, if_true]; rfl
    · cases hc
  | some ad =>
    simp only at hc
    split at hc
    · rename_i hh
      injection hc with hc; subst hc
      obtain ⟨h1, h2, h3, h4, h5⟩ := hh
      have e1 : aBound (l.map (Value.int .i64)) 0 = some (l.getD 0).toNat := by
        cases l with
        | none => rfl
        | some a => simp only [Option.map_some, aBound]; rw [if_pos (by simpa using h1)]; rfl
      have e2 : aBound (h.map (Value.int .i64)) len = some (h.getD len).toNat := by
        cases h with
        | none => simp [aBound]
        | some a => simp only [Option.map_some, aBound]; rw [if_pos (by simp at h2; omega)]; rfl
      have e3 : sameSize P σ ad.block n = true := by
        unfold elemOk at h5
        unfold sameSize
        simp only [Bool.or_eq_true, decide_eq_true_eq] at h5 ⊢
        rcases h5 with h5 | h5
        · exact .inl h5
        · right
          split at h5
          · rename_i hg; rw [hg]; simp only [decide_eq_true_eq] at h5; subst h5; simp [hs]
          · cases h5
      simp only [aSlice, ht, Sl.v, Option.map_none, hs, Option.bind_some, e1, e2]
      rw [if_pos ⟨by omega, by omega, h4, e3⟩]
      have e4 : ((h.getD ↑len).toNat = len) = ((h.getD ↑len).toNat = len) := rfl
      by_cases hb : ad.block < σ.base
      · simp only [if_pos hb]; rfl
      · simp only [if_neg hb]; rfl
    · cases hc
theorem app_slCells {inf : TypeInfo} (hi : inf.size = n) : firstOf σ inf.size X.n X.v = slCells σ n X := by
  subst hi
  obtain ⟨p, len, cap⟩ := X
  cases p with
  | none => rfl
  | some a =>
    simp only [firstOf, slCells, Sl.v]
    by_cases h0 : len * inf.size = 0
    · rw [if_pos h0, if_pos h0]
    · rw [if_neg h0, if_neg h0, if_pos (Nat.le_refl _)]
set_option maxHeartbeats 1000000 in
theorem o_appG {i' j' : Nat} {new : List Value} {z : Value} {inf : TypeInfo} {u : TypeDesc} (ho : o.op = .call { callee := .builtin .append, args := #[x, y], argTypes := #[t, t'] })
    (ht : P.underlying t = some (.slice e)) (hu : P.underlying t' = some u) (hk : ∀ k, u ≠ .int k) (hi : infoOf P e = some inf) (hz : inf.zero = some z) (hn : inf.size = n) (hb : inf.bytes = m) (hzs : z.cells.size = n) (h0 : 0 < n)
    (hx : ev f x = X.v) (hy : ev f y = v) {mm : Nat} (hl : lenOfV v = some mm) (hnew : firstOf σ n mm v = some new) (hc : apC σ e n m X mm new = some (⟨A, i', j'⟩, σ')) : opV P call f σ o = some (.slice A i' j', σ') := by
  rw [opV_ao (by rw [ho]; intros; simp), ho, aop]
  simp only [aBuiltin]
  have h1 : (#[x, y].map (ev f)).toList = [X.v, v] := by simp [hx, hy]
  simp only [h1]
  have hY : firstOf σ inf.size mm v = some new := by rw [hn]; exact hnew
  have hX : firstOf σ inf.size X.n X.v = slCells σ n X := app_slCells hn
  unfold aAppend
  cases u with
  | int k => exact absurd rfl (hk k)
  | _ =>
    simp only [ht, hu]
    obtain ⟨p, len, cap⟩ := X
    simp only [Sl.v] at hX ⊢
    simp only [hi, Option.bind_some, hz, hl, hY, hX]
    unfold apC at hc
    cases hs : slCells σ n ⟨p, len, cap⟩ with
    | none => rw [hs] at hc; cases hc
    | some old =>
      rw [hs] at hc
      simp only [Option.bind_some] at hc ⊢
      by_cases hm : mm = 0
      · rw [if_pos hm] at hc ⊢
        simp only [Option.some.injEq, Prod.mk.injEq, Sl.mk.injEq] at hc
        obtain ⟨⟨h2, h3, h4⟩, h5⟩ := hc
        subst h2 h3 h4 h5; rfl
      · rw [if_neg hm] at hc ⊢
        split at hc
        · rename_i hh
          obtain ⟨g1, g2, g3⟩ := hh
          subst hn hb
          rw [if_pos ⟨hzs, h0, g1, g2, g3⟩]
          cases p with
          | none =>
            simp only [Option.some.injEq, Prod.mk.injEq, Sl.mk.injEq] at hc ⊢
            obtain ⟨⟨h2, h3, h4⟩, h5⟩ := hc
            subst h2 h3 h4 h5; simp
          | some a =>
            simp only at hc ⊢
            split at hc
            · rename_i hcap
              rw [if_pos hcap]
              simp only [Option.some.injEq, Prod.mk.injEq, Sl.mk.injEq] at hc ⊢
              obtain ⟨⟨h2, h3, h4⟩, h5⟩ := hc
              subst h2 h3 h4 h5; simp
            · rename_i hcap
              rw [if_neg hcap]
              split at hc
              · cases hc
              · rename_i hbl
                rw [if_neg hbl]
                split at hc
                · rename_i cc e' ch hg
                  simp only [hg]
                  split at hc
                  · rename_i he
                    rw [if_pos he]
                    split at hc
                    · rename_i hof
                      rw [if_pos hof]
                      simp only [Option.some.injEq, Prod.mk.injEq, Sl.mk.injEq] at hc ⊢
                      obtain ⟨⟨h2, h3, h4⟩, h5⟩ := hc
                      subst h2 h3 h4 h5; simp
                    · rename_i hof
                      rw [if_neg hof]
                      split at hc
                      · rename_i hof2
                        rw [if_pos hof2]
                        simp only [Option.some.injEq, Prod.mk.injEq, Sl.mk.injEq] at hc ⊢
                        obtain ⟨⟨h2, h3, h4⟩, h5⟩ := hc
                        subst h2 h3 h4 h5; simp
                      · cases hc
                  · cases hc
                · cases hc
        · cases hc
theorem o_app {i' j' : Nat} {new : List Value} {z : Value} {inf : TypeInfo} {u : TypeDesc} (ho : o.op = .call { callee := .builtin .append, args := #[x, y], argTypes := #[t, t'] })
    (ht : P.underlying t = some (.slice e)) (hu : P.underlying t' = some u) (hk : ∀ k, u ≠ .int k) (hi : infoOf P e = some inf) (hz : inf.zero = some z) (hn : inf.size = n) (hb : inf.bytes = m) (hzs : z.cells.size = n) (h0 : 0 < n)
    (hx : ev f x = X.v) (hy : ev f y = Y.v) (hnew : slCells σ n Y = some new) (hc : apC σ e n m X Y.n new = some (⟨A, i', j'⟩, σ')) : opV P call f σ o = some (.slice A i' j', σ') :=
  o_appG ho ht hu hk hi hz hn hb hzs h0 hx hy (v := Y.v) (mm := Y.n) rfl (by have := app_slCells (σ := σ) (X := Y) hn; rw [hn] at this; rw [this]; exact hnew) hc
end
end Go.Am
