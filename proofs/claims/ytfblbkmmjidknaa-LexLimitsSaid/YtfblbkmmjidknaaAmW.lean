/- Walking through code: what is left to run is a list of pieces; each step, one lemma. -/
import Derived.Test.YtfblbkmmjidknaaAmV
import Derived.KernelRfl
set_option linter.unusedVariables false
set_option linter.unusedSimpArgs false
namespace Go.Am

/-! ### Words of the plain functions -/
/-- An answer with a property. -/
def OptW {α : Type} (x : Option α) (C : α → Prop) : Prop := ∃ a, x = some a ∧ C a
def lt {α β : Type} (a : α) (f : α → β) : β := f a
def bd {α β : Type} (o : Option α) (f : α → Option β) : Option β := o.bind f
def ck {β : Type} (b : Prop) [Decidable b] (x : Option β) : Option β := if b then x else none

theorem OptW.lt {α β : Type} {a : α} {f : α → Option β} {C : β → Prop} (h : OptW (Go.Am.lt a f) C) : ∃ x, x = a ∧ OptW (f x) C := ⟨a, rfl, h⟩
theorem OptW.bd {α β : Type} {o : Option α} {f : α → Option β} {C : β → Prop} (h : OptW (Go.Am.bd o f) C) : ∃ x, o = some x ∧ OptW (f x) C := by
  obtain ⟨b, hb, hC⟩ := h
  unfold Go.Am.bd at hb
  rw [Option.bind_eq_some_iff] at hb
  obtain ⟨x, hx, hf⟩ := hb
  exact ⟨x, hx, b, hf, hC⟩
theorem OptW.ck {β : Type} {b : Prop} [Decidable b] {x : Option β} {C : β → Prop} (h : OptW (Go.Am.ck b x) C) : b ∧ OptW x C := by
  obtain ⟨a, ha, hC⟩ := h
  unfold Go.Am.ck at ha
  split at ha
  · exact ⟨by assumption, a, ha, hC⟩
  · cases ha
theorem OptW.sm {α : Type} {a : α} {C : α → Prop} (h : OptW (some a) C) : C a := by
  obtain ⟨x, hx, hC⟩ := h
  injection hx with hx; subst hx; exact hC
theorem OptW.nn {α : Type} {C : α → Prop} (h : OptW (none : Option α) C) : False := by
  obtain ⟨x, hx, _⟩ := h; cases hx
theorem OptW.eqs {α : Type} {x : Option α} {a : α} {C : α → Prop} (h : OptW x C) (hx : x = some a) : C a := by
  obtain ⟨b, hb, hC⟩ := h
  rw [hx] at hb; injection hb with hb; subst hb; exact hC
theorem OptW.imp {α : Type} {x : Option α} {C D : α → Prop} (h : OptW x C) (hi : ∀ a, C a → D a) : OptW x D := by
  obtain ⟨b, hb, hC⟩ := h
  exact ⟨b, hb, hi b hC⟩
theorem OptW.of {α : Type} {x : Option α} {a : α} (hx : x = some a) : OptW x fun b => b = a := ⟨a, hx, rfl⟩

/-! ### Loops of the plain functions -/
def iterT {S B : Type} (body : S → Option (S ⊕ B)) : Nat → S → Option B
  | 0, _ => none
  | n + 1, x =>
    match body x with
    | some (.inl y) => iterT body n y
    | some (.inr b) => some b
    | none => none

theorem iterT_le {S B : Type} {body : S → Option (S ⊕ B)} : ∀ {n m : Nat} {x : S} {b : B}, n ≤ m → iterT body n x = some b → iterT body m x = some b := by
  intro n
  induction n with
  | zero => intro m x b _ h; cases h
  | succ n ih =>
    intro m x b hm h
    obtain ⟨m, rfl⟩ : ∃ k, m = k + 1 := ⟨m - 1, by omega⟩
    unfold iterT at h ⊢
    cases hb : body x with
    | none => rw [hb] at h; cases h
    | some r =>
      rw [hb] at h
      cases r with
      | inl y => exact ih (by omega) h
      | inr c => exact h

open Classical in
noncomputable def loopT {S B : Type} (body : S → Option (S ⊕ B)) (x : S) : Option B :=
  if h : ∃ b, ∃ n, iterT body n x = some b then some h.choose else none

theorem loopT_some {S B : Type} {body : S → Option (S ⊕ B)} {x : S} {b : B} : loopT body x = some b ↔ ∃ n, iterT body n x = some b := by
  unfold loopT
  constructor
  · intro h
    split at h
    · rename_i hx
      injection h with h
      rw [← h]; exact hx.choose_spec
    · cases h
  · rintro ⟨n, hn⟩
    have hx : ∃ b, ∃ n, iterT body n x = some b := ⟨b, n, hn⟩
    rw [dif_pos hx]
    obtain ⟨m, hm⟩ := hx.choose_spec
    have h1 := iterT_le (Nat.le_max_left n m) hn
    have h2 := iterT_le (Nat.le_max_right n m) hm
    rw [h1] at h2
    injection h2 with h2
    rw [← h2]

theorem loopT_eq {S B : Type} (body : S → Option (S ⊕ B)) (x : S) : loopT body x = match body x with
    | some (.inl y) => loopT body y
    | some (.inr b) => some b
    | none => none := by
  cases hb : body x with
  | none =>
    simp only
    cases hl : loopT body x with
    | none => rfl
    | some r =>
      rw [loopT_some] at hl
      obtain ⟨n, hn⟩ := hl
      cases n with
      | zero => cases hn
      | succ n => rw [iterT, hb] at hn; cases hn
  | some r =>
    cases r with
    | inl y =>
      simp only
      cases hl : loopT body y with
      | none =>
        cases hl2 : loopT body x with
        | none => rfl
        | some r =>
          rw [loopT_some] at hl2
          obtain ⟨n, hn⟩ := hl2
          cases n with
          | zero => cases hn
          | succ n =>
            rw [iterT, hb] at hn
            have := loopT_some.2 ⟨n, hn⟩
            rw [hl] at this; cases this
      | some r =>
        rw [loopT_some] at hl ⊢
        obtain ⟨n, hn⟩ := hl
        exact ⟨n + 1, by rw [iterT, hb]; exact hn⟩
    | inr b => simp only; rw [loopT_some]; exact ⟨1, by rw [iterT, hb]⟩

/-- What a loop keeps, seen from its end. -/
theorem loopT_ind {S B : Type} {body : S → Option (S ⊕ B)} {x : S} {b : B} (h : loopT body x = some b) (M : S → Prop) (D : B → Prop) (hD : D b)
    (hs : ∀ x, OptW (body x) (fun r => match r with | .inl y => M y | .inr b => D b) → M x) : M x := by
  rw [loopT_some] at h
  obtain ⟨n, hn⟩ := h
  induction n generalizing x with
  | zero => cases hn
  | succ n ih =>
    unfold iterT at hn
    cases hb : body x with
    | none => rw [hb] at hn; cases hn
    | some r =>
      rw [hb] at hn
      cases r with
      | inl y => exact hs x ⟨_, hb, ih hn⟩
      | inr c =>
        injection hn with hn; subst hn
        exact hs x ⟨_, hb, hD⟩

theorem OptW.loop {S B α : Type} {body : S → Option (S ⊕ B)} {x : S} {k : B → Option α} {C : α → Prop} (h : OptW (Go.Am.bd (loopT body x) k) C) (M : S → Prop)
    (hs : ∀ x, OptW (body x) (fun r => match r with | .inl y => M y | .inr b => OptW (k b) C) → M x) : M x := by
  obtain ⟨b, hb, hC⟩ := h.bd
  exact loopT_ind hb M (fun b => OptW (k b) C) hC hs

/-! ### What is left to run -/
inductive KI where
  | code (c : Code)
  | blk (id : Nat)

def resL (P : Program) (rs : List ResultVar) (f : Fr) (σ : AHeap) : Option Value :=
  match rs with
  | [r] => resultV P f σ r
  | rs => (rs.mapM (m := Option) (resultV P f σ)).map fun vs => .tuple vs.toArray

noncomputable def Fx (P : Program) (rs : List ResultVar) : List KI → AExit → Fr → AHeap → Option (Value × AHeap)
  | [], .normal, f, σ => (resL P rs f σ).map (·, σ)
  | [], .ret, f, σ => (resL P rs f σ).map (·, σ)
  | [], .exit _, _, _ => none
  | _ :: _, .ret, f, σ => (resL P rs f σ).map (·, σ)
  | .blk j :: k, .exit i, f, σ => if i = j then Fx P rs k .normal f σ else Fx P rs k (.exit i) f σ
  | .code _ :: k, .exit i, f, σ => Fx P rs k (.exit i) f σ
  | .blk _ :: k, .normal, f, σ => Fx P rs k .normal f σ
  | .code c :: k, .normal, f, σ =>
    match codeL P c f σ with
    | some (e, f', σ') => Fx P rs k e f' σ'
    | none => none

noncomputable def Ro (P : Program) (rs : List ResultVar) (ops : Array Oper) (l : List Oper) (k : List KI) (f : Fr) (σ : AHeap) : Option (Value × AHeap) :=
  match opsF P (callL P) ops l f σ with
  | some (f', σ') => Fx P rs k .normal f' σ'
  | none => none
noncomputable def Rd (P : Program) (rs : List ResultVar) (ops : Array Oper) (l : List (Oper × Nat)) (ps : List (Nat × AHeap)) (k : List KI) (f : Fr) (σ : AHeap) : Option (Value × AHeap) :=
  match drawF P (callL P) ops l ps f σ with
  | some (f', σ') => Fx P rs k .normal f' σ'
  | none => none

section
variable {P : Program} {rs : List ResultVar} {k : List KI} {f : Fr} {σ : AHeap} {out : Option (Value × AHeap)}

theorem Fx_ret_any : Fx P rs k .ret f σ = (resL P rs f σ).map (·, σ) := by
  cases k with
  | nil => rfl
  | cons a k => cases a <;> rfl

theorem Fx_seq {c a b : Code} (hc : c = .seq a b) (h : Fx P rs (.code a :: .code b :: k) .normal f σ = out) : Fx P rs (.code c :: k) .normal f σ = out := by
  subst hc
  rw [← h]
  show (match codeL P (.seq a b) f σ with | some (e, f', σ') => Fx P rs k e f' σ' | none => none) = match codeL P a f σ with | some (e, f', σ') => Fx P rs (.code b :: k) e f' σ' | none => none
  rw [codeL]
  cases ha : codeL P a f σ with
  | none => rfl
  | some r =>
    obtain ⟨e, f', σ'⟩ := r
    cases e with
    | normal => simp only; rfl
    | exit i => rfl
    | ret => simp only [Fx_ret_any]

theorem Fx_block {c b : Code} {id : Nat} (hc : c = .block id b) (h : Fx P rs (.code b :: .blk id :: k) .normal f σ = out) : Fx P rs (.code c :: k) .normal f σ = out := by
  subst hc
  rw [← h]
  show (match codeL P (.block id b) f σ with | some (e, f', σ') => Fx P rs k e f' σ' | none => none) = match codeL P b f σ with | some (e, f', σ') => Fx P rs (.blk id :: k) e f' σ' | none => none
  rw [codeL]
  cases ha : codeL P b f σ with
  | none => rfl
  | some r =>
    obtain ⟨e, f', σ'⟩ := r
    cases e with
    | normal => rfl
    | exit i =>
      simp only
      by_cases hi : i = id
      · rw [if_pos hi]; subst hi
        show _ = if i = i then _ else _
        rw [if_pos rfl]
      · rw [if_neg hi]
        show _ = if i = id then _ else _
        rw [if_neg hi]
    | ret => simp only [Fx_ret_any]

theorem Fx_loop {c b : Code} (hc : c = .loop b) (h : Fx P rs (.code b :: .code c :: k) .normal f σ = out) : Fx P rs (.code c :: k) .normal f σ = out := by
  subst hc
  rw [← h]
  show (match codeL P (.loop b) f σ with | some (e, f', σ') => Fx P rs k e f' σ' | none => none) = match codeL P b f σ with | some (e, f', σ') => Fx P rs (.code (.loop b) :: k) e f' σ' | none => none
  rw [codeL, loopL_eq]
  cases ha : codeL P b f σ with
  | none => rfl
  | some r =>
    obtain ⟨e, f', σ'⟩ := r
    cases e with
    | normal =>
      show _ = match codeL P (.loop b) f' σ' with | some (e, f', σ') => Fx P rs k e f' σ' | none => none
      rw [codeL]
    | exit i => rfl
    | ret => simp only [Fx_ret_any]

theorem Fx_cond {c a b : Code} {x : Operand} {t : Bool} (hc : c = .cond x a b) (hx : ev f x = .bool t)
    (ha : t = true → Fx P rs (.code a :: k) .normal f σ = out) (hb : t = false → Fx P rs (.code b :: k) .normal f σ = out) : Fx P rs (.code c :: k) .normal f σ = out := by
  subst hc
  show (match codeL P (.cond x a b) f σ with | some (e, f', σ') => Fx P rs k e f' σ' | none => none) = out
  rw [codeL, hx]
  cases t with
  | true => exact ha rfl
  | false => exact hb rfl

theorem Fx_skip {c : Code} (hc : c = .skip) (h : Fx P rs k .normal f σ = out) : Fx P rs (.code c :: k) .normal f σ = out := by subst hc; exact h
theorem Fx_label {c : Code} {l : Nat} (hc : c = .label l) (h : Fx P rs k .normal f σ = out) : Fx P rs (.code c :: k) .normal f σ = out := by subst hc; exact h
theorem Fx_blk {j : Nat} (h : Fx P rs k .normal f σ = out) : Fx P rs (.blk j :: k) .normal f σ = out := h
theorem Fx_scope {c b : Code} (hc : c = .scope b) (h : Fx P rs (.code b :: k) .normal f σ = out) : Fx P rs (.code c :: k) .normal f σ = out := by
  subst hc
  rw [← h]
  show (match codeL P (.scope b) f σ with | some (e, f', σ') => Fx P rs k e f' σ' | none => none) = match codeL P b f σ with | some (e, f', σ') => Fx P rs k e f' σ' | none => none
  rw [codeL]
theorem Fx_exit {c : Code} {i : Nat} (hc : c = .exit i) (h : Fx P rs k (.exit i) f σ = out) : Fx P rs (.code c :: k) .normal f σ = out := by subst hc; exact h
theorem Fx_ret {c : Code} {v : Value} (hc : c = .ret) (hr : resL P rs f σ = some v) (h : some (v, σ) = out) : Fx P rs (.code c :: k) .normal f σ = out := by
  subst hc
  rw [← h]
  show Fx P rs k .ret f σ = _
  rw [Fx_ret_any, hr]; rfl
theorem Fx_end {v : Value} (hr : resL P rs f σ = some v) (h : some (v, σ) = out) : Fx P rs [] .normal f σ = out := by
  rw [← h]
  show (resL P rs f σ).map (·, σ) = _
  rw [hr]; rfl
theorem Fx_out_code {c : Code} {i : Nat} (h : Fx P rs k (.exit i) f σ = out) : Fx P rs (.code c :: k) (.exit i) f σ = out := h
theorem Fx_out_ne {i j : Nat} (hij : Nat.beq i j = false) (h : Fx P rs k (.exit i) f σ = out) : Fx P rs (.blk j :: k) (.exit i) f σ = out := by
  show (if i = j then _ else _) = out
  rw [if_neg (Nat.ne_of_beq_eq_false hij)]; exact h
theorem Fx_out_eq {i : Nat} (h : Fx P rs k .normal f σ = out) : Fx P rs (.blk i :: k) (.exit i) f σ = out := by
  show (if i = i then _ else _) = out
  rw [if_pos rfl]; exact h

theorem Fx_text {c : Code} {id : Nat} {ops : Array Oper} (hc : c = .region id ops false) (h : Ro P rs ops ops.toList k f σ = out) : Fx P rs (.code c :: k) .normal f σ = out := by
  subst hc
  rw [← h]
  show (match codeL P (.region id ops false) f σ with | some (e, f', σ') => Fx P rs k e f' σ' | none => none) = _
  rw [codeL, Ro]
  cases opsF P (callL P) ops ops.toList f σ with
  | none => rfl
  | some r => rfl
theorem Fx_draw {c : Code} {id : Nat} {ops : Array Oper} {l : List (Oper × Nat)} (hc : c = .region id ops true) (hr : regionOk ops = true) (hl : canonOps ops = l) (h : Rd P rs ops l [] k f σ = out) : Fx P rs (.code c :: k) .normal f σ = out := by
  subst hc hl
  rw [← h]
  show (match codeL P (.region id ops true) f σ with | some (e, f', σ') => Fx P rs k e f' σ' | none => none) = _
  rw [codeL, Rd]
  simp only [hr, if_true]
  cases drawF P (callL P) ops (canonOps ops) [] f σ with
  | none => rfl
  | some r => rfl

/-- The frame as far as it is needed. -/
theorem Fr.set_id {f : Fr} {t : Nat} {v : Value} (h : f t = v) : f.set t v = f := by
  funext i; unfold Fr.set; split
  · rename_i hi; rw [hi, h]
  · rfl
theorem Fx_forget {g : Fr} (hg : g = f) (h : Fx P rs k .normal g σ = out) : Fx P rs k .normal f σ = out := by subst hg; exact h

/-! ### Steps in a region -/
variable {ops : Array Oper} {l : List Oper} {ld : List (Oper × Nat)} {ps : List (Nat × AHeap)} {σ' : AHeap} {v : Value} {d : Nat} {op : Op} {ty : TypeId} {pos : String} {af : Array Edge} {g : Option (Nat × Bool)} {i : Nat}

theorem Ro_nil (h : Fx P rs k .normal f σ = out) : Ro P rs ops [] k f σ = out := h
theorem Rd_nil (h : Fx P rs k .normal f σ = out) : Rd P rs ops [] ps k f σ = out := h

theorem Ro_set {t : Bool} {o : Oper} (ho : o = ⟨some d, op, ty, pos, af, g⟩) (hw : Region.wanted o (yieldF ops f) = t) (hv : t = true → opV P (callL P) f σ o = some (v, σ')) (hn : t = false → v = undef ∧ σ' = σ)
    (h : Ro P rs ops l k (f.set d v) σ' = out) : Ro P rs ops (o :: l) k f σ = out := by
  rw [← h]
  unfold Ro
  rw [opsF]
  cases t with
  | true =>
    rw [if_pos hw, hv rfl]; subst ho; rfl
  | false =>
    obtain ⟨h1, h2⟩ := hn rfl
    rw [if_neg (by rw [hw]; decide)]; subst ho h1 h2; rfl
theorem Ro_do {t : Bool} {o : Oper} (ho : o = ⟨none, op, ty, pos, af, g⟩) (hw : Region.wanted o (yieldF ops f) = t) (hv : t = true → opV P (callL P) f σ o = some (v, σ')) (hn : t = false → σ' = σ)
    (h : Ro P rs ops l k f σ' = out) : Ro P rs ops (o :: l) k f σ = out := by
  rw [← h]
  unfold Ro
  rw [opsF]
  cases t with
  | true =>
    rw [if_pos hw, hv rfl]; subst ho; rfl
  | false =>
    have h2 := hn rfl
    rw [if_neg (by rw [hw]; decide)]; subst ho h2; rfl
/-- without a guard -/
theorem Ro_v {o : Oper} (ho : o = ⟨some d, op, ty, pos, af, none⟩) (hv : opV P (callL P) f σ o = some (v, σ')) (h : Ro P rs ops l k (f.set d v) σ' = out) : Ro P rs ops (o :: l) k f σ = out :=
  Ro_set (t := true) ho (by subst ho; rfl) (fun _ => hv) (fun h => nomatch h) h
theorem Ro_d {o : Oper} (ho : o = ⟨none, op, ty, pos, af, none⟩) (hv : opV P (callL P) f σ o = some (v, σ')) (h : Ro P rs ops l k f σ' = out) : Ro P rs ops (o :: l) k f σ = out :=
  Ro_do (t := true) ho (by subst ho; rfl) (fun _ => hv) (fun h => nomatch h) h

/-- What a step does to the acts so far. -/
def psOf (o : Oper) (i : Nat) (σ : AHeap) (ps : List (Nat × AHeap)) : List (Nat × AHeap) := match clsOf o.op with | .act => (i, σ) :: ps | _ => ps
def readsOk (P : Program) (ops : Array Oper) (f : Fr) (o : Oper) (i : Nat) (v : Value) (ps : List (Nat × AHeap)) : Prop := clsOf o.op = .read → ∀ p ∈ ps, orderedIn ops p.1 i = true ∨ aop P f p.2 o.op = some (v, p.2)

theorem Rd_step {o : Oper} (hw : Region.wanted o (yieldF ops f) = true) (hv : opV P (callL P) f σ o = some (v, σ')) (hp : readsOk P ops f o i v ps) :
    Rd P rs ops ((o, i) :: ld) ps k f σ = Rd P rs ops ld (psOf o i σ ps) k (f.put o.dst v) σ' := by
  unfold Rd
  rw [drawF, if_pos hw, hv]
  unfold psOf
  unfold readsOk at hp
  cases hc : clsOf o.op with
  | pure => rfl
  | alloc => rfl
  | act => rfl
  | read =>
    simp only [Option.bind_some]
    rw [if_pos (hp hc)]
theorem Rd_skip {o : Oper} (hw : Region.wanted o (yieldF ops f) = false) : Rd P rs ops ((o, i) :: ld) ps k f σ = Rd P rs ops ld ps k (f.put o.dst undef) σ := by
  unfold Rd
  rw [drawF, if_neg (by rw [hw]; decide)]
theorem Rd_v {o : Oper} (ho : o = ⟨some d, op, ty, pos, af, none⟩) (hv : opV P (callL P) f σ o = some (v, σ')) (hp : readsOk P ops f o i v ps) {ps' : List (Nat × AHeap)} (hps : psOf o i σ ps = ps')
    (h : Rd P rs ops ld ps' k (f.set d v) σ' = out) : Rd P rs ops ((o, i) :: ld) ps k f σ = out := by
  rw [Rd_step (by subst ho; rfl) hv hp, hps]; subst ho; exact h
theorem Rd_d {o : Oper} (ho : o = ⟨none, op, ty, pos, af, none⟩) (hv : opV P (callL P) f σ o = some (v, σ')) (hp : readsOk P ops f o i v ps) {ps' : List (Nat × AHeap)} (hps : psOf o i σ ps = ps')
    (h : Rd P rs ops ld ps' k f σ' = out) : Rd P rs ops ((o, i) :: ld) ps k f σ = out := by
  rw [Rd_step (by subst ho; rfl) hv hp, hps]; subst ho; exact h
/-- The two ways of a guarded step that draws, where it doesn't act. -/
theorem Rd_set {t : Bool} {o : Oper} (ho : o = ⟨some d, op, ty, pos, af, g⟩) (hw : Region.wanted o (yieldF ops f) = t) (hv : t = true → opV P (callL P) f σ o = some (v, σ')) (hn : t = false → v = undef ∧ σ' = σ)
    (hp : t = true → readsOk P ops f o i v ps) (hps : psOf o i σ ps = ps)
    (h : Rd P rs ops ld ps k (f.set d v) σ' = out) : Rd P rs ops ((o, i) :: ld) ps k f σ = out := by
  cases t with
  | true => rw [Rd_step hw (hv rfl) (hp rfl), hps]; subst ho; exact h
  | false =>
    obtain ⟨h1, h2⟩ := hn rfl
    rw [Rd_skip hw]; subst ho h1 h2; exact h
/-- A guarded step that acts, at a heap that it leaves as it is, or not. -/
theorem Rd_act {t : Bool} {o : Oper} (ho : o = ⟨some d, op, ty, pos, af, g⟩) (hw : Region.wanted o (yieldF ops f) = t) (hv : t = true → opV P (callL P) f σ o = some (v, σ')) (hn : t = false → v = undef ∧ σ' = σ)
    (hp : clsOf o.op = .act) (h1 : t = true → Rd P rs ops ld ((i, σ) :: ps) k (f.set d v) σ' = out) (h0 : t = false → Rd P rs ops ld ps k (f.set d v) σ' = out) : Rd P rs ops ((o, i) :: ld) ps k f σ = out := by
  cases t with
  | true =>
    rw [Rd_step hw (hv rfl) (fun h => by rw [hp] at h; cases h)]
    have : psOf o i σ ps = (i, σ) :: ps := by unfold psOf; rw [hp]
    rw [this]; subst ho; exact h1 rfl
  | false =>
    obtain ⟨h2, h3⟩ := hn rfl
    rw [Rd_skip hw]; subst ho h2 h3; exact h0 rfl

/-! ### Calls -/
theorem callL_walk {n : FuncId} {fn : Func} {c : Code} {args : List Value} (hfn : P.funcs[n]? = some fn) (hb : fn.body = some c) (hok : funcOk fn = true) (hl : decide (fn.ntmps < args.length) = false) (hrs : fn.results.toList = rs)
    {r : Value × AHeap} (h : Fx P rs [.code c] .normal (fun t => args.getD t undef) σ = some r) : callL P n args σ = some r := by
  have hF : resultsF P fn = resL P rs := by
    subst hrs; funext f σ
    unfold resultsF resL
    cases fn.results.toList with
    | nil => rfl
    | cons a l => cases l <;> rfl
  have h' : (match codeL P c (fun t => args.getD t undef) σ with | some (e, f', σ') => Fx P rs [] e f' σ' | none => none) = some r := h
  cases hc : codeL P c (fun t => args.getD t undef) σ with
  | none => rw [hc] at h'; cases h'
  | some x =>
    obtain ⟨e, f', σ'⟩ := x
    rw [hc] at h'
    have key : ∀ {e : AExit}, e = .normal ∨ e = .ret → codeL P c (fun t => args.getD t undef) σ = some (e, f', σ') → (resL P rs f' σ').map (·, σ') = some r → callL P n args σ = some r := by
      intro e he hc hr
      rw [Option.map_eq_some_iff] at hr
      obtain ⟨v, hv, hr⟩ := hr
      subst hr
      exact callL_body hfn hb hok hl he hc (by rw [hF]; exact hv)
    cases e with
    | normal => exact key (.inl rfl) hc h'
    | ret => exact key (.inr rfl) hc h'
    | exit i => cases h'
end
end Go.Am
