/- AmO -/
import Derived.Test.YtpionejhjfmobaaDoorAmL
set_option linter.unusedVariables false
set_option linter.unusedSimpArgs false
namespace Go.Am
section
variable {P : Program} {σ : AHeap} {γ : Gm} {w : World}

/-- A new abstract object and a new block. -/
def ObjR (P : Program) (base : Nat) (γ : Gm) (id : Nat) (obj : AObj) (obj' : Obj) (ent : GEnt) : Prop :=
  (∃ c e C, obj = .cells c e id ∧ obj' = .cells C e (0, 0) ∧ C.size = ent.N ∧ ent.s = 0 ∧ szOf P e = some ent.E ∧ c.length ≤ C.size ∧ LR base γ c (C.toList.take c.length) ∧ ∀ v ∈ c, v.oneC = true) ∨
  (obj = .map [] 0 ∧ obj' = .map #[] 0)

theorem ObjR.mono {base : Nat} {γ' : Gm} {id : Nat} {obj : AObj} {obj' : Obj} {ent : GEnt} (h : ObjR P base γ id obj obj' ent) (hg : γ.le γ') : ObjR P base γ' id obj obj' ent := by
  rcases h with ⟨c, e, C, h1, h2, h3, h4, h5, h6, h7, h8⟩ | h
  · exact .inl ⟨c, e, C, h1, h2, h3, h4, h5, h6, h7.mono hg, h8⟩
  · exact .inr h

def AllocR (P : Program) (base : Nat) (γ : Gm) (id : Nat) (v : Value) (obj : AObj) (w : World) (S : Sem Value) : Prop :=
  ∃ obj' ent v', S.run P w = .ok v' (w.alloc obj') ∧ ent.B = w.heap.size ∧ ObjR P base γ id obj obj' ent ∧ ∀ γ2 : Gm, γ2 id = some ent → base ≤ id → VR base γ2 v v'

theorem new_core {base : Nat} {e : TypeId} {n : Nat} (he : szOf P e = some n) {v v' : Value} (hv : VR base γ v v') (hn : noTuple v = true) {id : Nat} {S : Sem Value}
    (hS : S.run P w = .ok (.pointer (some ⟨w.heap.size, 0, none⟩)) (w.alloc (.cells v'.cells e))) :
    AllocR P base γ id (.pointer (some ⟨id, 0, none⟩)) (.cells v.cells.toList e id) w S := by
  obtain ⟨hL, h1⟩ := hv.cells hn
  have hlen : v.cells.toList.length = v'.cells.toList.length := hL.1
  refine ⟨_, ⟨w.heap.size, 0, v'.cells.size, n, Nat.zero_mod _⟩, _, hS, rfl, .inl ⟨_, e, _, rfl, rfl, rfl, rfl, he, by simp at hlen ⊢; omega, by rw [hlen, List.take_length]; exact hL, h1⟩, fun γ2 hg hb => ?_⟩
  have := VR.ptrNew (base := base) (γ := γ2) id 0 _ hb hg
  simpa using this

theorem fill_size {place : Nat → Option (Nat × Nat)} : ∀ {l : List (Nat × Value)} {d x : Array Value}, Instr.fill place d l = some x → x.size = d.size := by
  intro l
  induction l with
  | nil => intro d x h; simp [Instr.fill] at h; rw [h]
  | cons p l ih =>
    intro d x h
    simp only [Instr.fill] at h
    split at h
    · cases h
    · split at h
      · cases h
      · have := ih h
        rw [this, fold_zip]
        have key : ∀ (off : Nat) (l : List (Value × Nat)) (d : Array Value), (l.foldl (fun cs (x : Value × Nat) => cs.setIfInBounds (off + x.2) x.1) d).size = d.size := by
          intro off l; induction l with
          | nil => intro d; rfl
          | cons y l ihl => intro d; simp [ihl]
        exact key _ _ _

theorem row_core {base : Nat} {e : TypeId} {n : Nat} (he : szOf P e = some n) {c : List Value} {C : Array Value} (hL : LR base γ c C.toList) (h1 : ∀ v ∈ c, v.oneC = true) {id len cap : Nat} (hlc : len ≤ cap) (hcap : cap * n ≤ C.size) {S : Sem Value}
    (hS : S.run P w = .ok (.slice (some ⟨w.heap.size, 0, none⟩) len cap) (w.alloc (.cells C e))) : AllocR P base γ id (.slice (some ⟨id, 0, none⟩) len cap) (.cells c e id) w S := by
  have hlen : c.length = C.toList.length := hL.1
  refine ⟨_, ⟨w.heap.size, 0, C.size, n, Nat.zero_mod _⟩, _, hS, rfl, .inl ⟨_, e, _, rfl, rfl, rfl, rfl, he, by simp at hlen ⊢; omega, by rw [hlen, List.take_length]; exact hL, h1⟩, fun γ2 hg hb => ?_⟩
  have := VR.slNew (base := base) (γ := γ2) id 0 len cap cap _ hb hg hlc (fun h => h) (by simp only [Nat.zero_add]; exact hcap)
  simpa using this

theorem buildSlice_core (hz : ZeroOk P) {base : Nat} {t : TypeId} {len : Nat} {ps ps' : Array (Nat × Value)} (hp : PR base γ ps ps') {r : Value × AHeap} (h : aBuildSlice P σ t len ps = some r) {obj : AObj} (ho : r.2 = σ.push obj) :
    AllocR P base γ σ.next r.1 obj w (Instr.buildSlice t len ps') := by
  unfold aBuildSlice at h
  split at h
  · rename_i hn
    split at h
    · rename_i e hu
      rw [Option.bind_eq_some_iff] at h
      obtain ⟨n, hsn, h⟩ := h
      rw [Option.bind_eq_some_iff] at h
      obtain ⟨z, hzz, h⟩ := h
      split at h
      · rename_i hle
        rw [Option.map_eq_some_iff] at h
        obtain ⟨C, hC, rfl⟩ := h
        have hobj : obj = .cells C.toList e σ.next := by
          have := congrArg (fun s : AHeap => s.get σ.next) ho
          simp only [push_get_new] at this
          exact this.symm
        subst hobj
        have hzc := hz.const hzz
        have hzs := hz.size hzz hsn
        have hn' : ∀ p ∈ ps.toList, noTuple p.2 = true := fun p hp => by
          rw [Array.all_eq_true_iff_forall_mem] at hn; exact hn p (by simpa using hp)
        have hpl : ps.toList.length = ps'.toList.length := by simpa using hp.1
        have hpp : ∀ (i : Nat) p p', ps.toList[i]? = some p → ps'.toList[i]? = some p' → p'.1 = p.1 ∧ VR base γ p.2 p'.2 := fun i p p' a b => hp.2 i p p' (by simpa using a) (by simpa using b)
        have hCs := fill_size hC
        simp only [Array.size_map, Array.size_range] at hCs
        by_cases h0 : len * n = 0
        · have hb : ((Array.range (len * n)).map (z.cells[· % z.cells.size]!)) = #[] := by rw [h0]; simp
          rw [hb] at hC
          obtain ⟨C', hC', hL, h1⟩ := fill_sound (base := base) hpl hpp hn' LR.nil (by simp) hC
          have hlen : C.size = C'.size := by simpa using hL.1
          refine row_core hsn hL h1 (Nat.le_refl _) (by omega) ?_
          have hbb : Array.map (fun x => (#[] : Array Value)[x % (#[] : Array Value).size]!) (Array.range 0) = #[] := by simp
          simp only [Instr.buildSlice, Sem.run_bind, run_underlying hu, Result.andThen_ok, run_size hsn]
          rw [if_neg (by omega)]
          simp only [h0, if_true, Sem.run_bind, Sem.run_pure, Result.andThen_ok, hbb, hC', newRow, run_newObj, World.alloc_eq]
        · have hpos : 0 < n := by rcases Nat.eq_zero_or_pos n with h | h; (subst h; simp at h0); exact h
          obtain ⟨hzr, hz1⟩ := zero_row (base := base) (γ := γ) hzc (len * n) (.inl (by omega))
          obtain ⟨C', hC', hL, h1⟩ := fill_sound (base := base) hpl hpp hn' hzr hz1 hC
          have hlen : C.size = C'.size := by simpa using hL.1
          refine row_core hsn hL h1 (Nat.le_refl _) (by omega) ?_
          simp only [Instr.buildSlice, Sem.run_bind, run_underlying hu, Result.andThen_ok, run_size hsn]
          rw [if_neg (by omega)]
          simp only [if_neg h0, Sem.run_bind, run_zero hzz, Sem.run_pure, Result.andThen_ok, hC', newRow, run_newObj, World.alloc_eq]
      · cases h
    · cases h
  · cases h

theorem makeSlice_core (hz : ZeroOk P) {base : Nat} {t : TypeId} {l l' c c' : Value} (hl : VR base γ l l') (hc : VR base γ c c') {r : Value × AHeap} (h : aMakeSlice P σ t l c = some r) {obj : AObj} (ho : r.2 = σ.push obj) :
    AllocR P base γ σ.next r.1 obj w (Instr.makeSlice t l' c') := by
  unfold aMakeSlice at h
  split at h
  · rename_i e kl n kc m hu
    obtain rfl := hl.eq_of_const rfl
    obtain rfl := hc.eq_of_const rfl
    rw [Option.bind_eq_some_iff] at h
    obtain ⟨i, hi, h⟩ := h
    rw [Option.bind_eq_some_iff] at h
    obtain ⟨z, hzz, h⟩ := h
    split at h
    · rename_i hb
      obtain ⟨h0, h1, h2, h3⟩ := hb
      injection h with h; subst h
      have hobj := congrArg (fun s : AHeap => s.get σ.next) ho
      simp only [push_get_new] at hobj
      subst hobj
      obtain ⟨hzc, hzs⟩ := hz e i z hi hzz
      have hI := hi
      replace hi := infoOf_info hi
      have hwn : IntKind.i64.wrap n = n := IntWalk.i64_in _ (by omega)
      have hwm : IntKind.i64.wrap m = m := IntWalk.i64_in _ (by omega)
      have hE : szOf P e = some i.size := by simp [szOf, hi]
      have hbm : ¬ ((i.bytes : Int) * m > 2 ^ 48) := by
        have : (i.bytes : Int) * m ≤ 2 ^ 47 := h3
        omega
      by_cases hm0 : m.toNat * i.size = 0
      · refine row_core (C := #[]) hE (by simp [hm0]; exact LR.nil) (by simp [hm0]) (by omega) (by simp [hm0]) ?_
        have hb0 : Array.map (fun x => (#[] : Array Value)[x % (#[] : Array Value).size]!) (Array.range 0) = #[] := by simp
        simp only [Instr.makeSlice, Sem.run_bind, run_underlying hu, Result.andThen_ok, asInt, asIntOf, Sem.run_pure, run_info hi, hwn, hwm]
        rw [if_neg (by simp only [Bool.or_eq_true, decide_eq_true_eq, not_or]; omega)]
        simp only [Sem.run_bind, run_askRoom, Result.andThen_ok, run_size hE, hm0, if_true, Sem.run_pure, hb0, newRow, run_newObj, World.alloc_eq]
      · have hzpos : 0 < z.cells.size := by
          rw [hzs]; rcases Nat.eq_zero_or_pos i.size with h | h
          · rw [h] at hm0; simp at hm0
          · exact h
        obtain ⟨hzr, hz1⟩ := zero_row (base := base) (γ := γ) hzc (m.toNat * i.size) (.inl hzpos)
        refine row_core hE hzr hz1 (by omega) (by simp) ?_
        simp only [Instr.makeSlice, Sem.run_bind, run_underlying hu, Result.andThen_ok, asInt, asIntOf, Sem.run_pure, run_info hi, hwn, hwm]
        rw [if_neg (by simp only [Bool.or_eq_true, decide_eq_true_eq, not_or]; omega)]
        have hzz' : zeroOf P e = some z := by simp [zeroOf, hI, hzz]
        simp only [Sem.run_bind, run_askRoom, Result.andThen_ok, run_size hE, if_neg hm0, run_zero hzz', Sem.run_pure, newRow, run_newObj, World.alloc_eq]
    · cases h
  · cases h

/-- What makes memory: the object, and the model's step, wherever it is taken. -/
theorem alloc_core (hz : ZeroOk P) {f : Fr} {o : Oper} {v : Value} {σ1 : AHeap} (hc : clsOf o.op = .alloc) (h : aop P f σ o.op = some (v, σ1)) :
    ∃ obj, σ1 = σ.push obj ∧ (obj ≠ .dead) ∧ (∀ c el ch, obj = .cells c el ch → ch = σ.next) ∧ ∀ (base : Nat) (γ : Gm) (w : World) (ρ : Operand → Value), (∀ x ∈ o.op.operands.toList, VR base γ (ev f x) (ρ x)) →
      ∃ S : Sem Value, execOp ρ o = (do pure (.value (← S))) ∧ AllocR P base γ σ.next v obj w S := by
  obtain ⟨dst, op, ty, pos, after, guard⟩ := o
  simp only at h hc
  cases op <;> simp only [clsOf] at hc <;> (try (cases hc; done))
  case alloc e =>
    simp only [aop] at h
    rw [Option.bind_eq_some_iff] at h
    obtain ⟨z, hzz, h⟩ := h
    unfold aNew at h
    split at h
    · rename_i hn
      injection h with h
      obtain ⟨rfl, rfl⟩ := Prod.mk.inj h
      obtain ⟨i, hi, hi2⟩ := zeroOf_some hzz
      refine ⟨_, rfl, by simp, (by intro c el ch he; first | (injection he with _ _ h3; exact h3.symm) | (cases he; done)), fun base γ w ρ hρ => ⟨_, rfl, new_core (n := i.size) (by simp [szOf, hi]) (VR.ofConst (hz.const hzz)) hn ?_⟩⟩
      simp only [Instr.alloc, Sem.run_bind, run_zero hzz, Result.andThen_ok, newVar, newRow, run_newObj, Sem.run_pure, World.alloc_eq]
    · cases h
  case box e x =>
    simp only [aop] at h
    split at h
    · rename_i n hsn
      unfold aNew at h
      split at h
      · rename_i hn
        injection h with h
        obtain ⟨rfl, rfl⟩ := Prod.mk.inj h
        refine ⟨_, rfl, by simp, (by intro c el ch he; first | (injection he with _ _ h3; exact h3.symm) | (cases he; done)), fun base γ w ρ hρ => ⟨_, rfl, new_core hsn (hρ x (by simp [Op.operands])) hn ?_⟩⟩
        simp only [Instr.box, Sem.run_bind, Result.andThen_ok, newVar, newRow, run_newObj, Sem.run_pure, World.alloc_eq]
      · cases h
    · cases h
  case buildSlice t len ps =>
    simp only [aop] at h
    have h' := h
    unfold aBuildSlice at h'
    split at h'
    · split at h'
      · rw [Option.bind_eq_some_iff] at h'
        obtain ⟨n, hsn, h'⟩ := h'
        rw [Option.bind_eq_some_iff] at h'
        obtain ⟨z, hzz, h'⟩ := h'
        split at h'
        · rw [Option.map_eq_some_iff] at h'
          obtain ⟨C, hC, h'⟩ := h'
          obtain ⟨rfl, rfl⟩ := Prod.mk.inj h'
          refine ⟨_, rfl, by simp, (by intro c el ch he; first | (injection he with _ _ h3; exact h3.symm) | (cases he; done)), fun base γ w ρ hρ => ⟨_, rfl, ?_⟩⟩
          exact buildSlice_core hz (PR.map fun p hp => hρ p.2 (by simp only [Op.operands, List.mem_map]; exact ⟨p, hp, rfl⟩)) h rfl
        · cases h'
      · cases h'
    · cases h'
  case makeMap t r =>
    simp only [aop] at h
    split at h
    · rename_i hu hr
      injection h with h
      obtain ⟨rfl, rfl⟩ := Prod.mk.inj h
      have : r = none := by cases r <;> simp_all
      subst this
      refine ⟨_, rfl, by simp, (by intro c el ch he; first | (injection he with _ _ h3; exact h3.symm) | (cases he; done)), fun base γ w ρ hρ => ⟨_, rfl, .map #[] 0, ⟨w.heap.size, 0, 0, 0, Nat.zero_mod _⟩, _, ?_, rfl, .inr ⟨rfl, rfl⟩, fun γ2 hg hb => .map _ _ hb hg⟩⟩
      simp only [Instr.makeMap, Option.map_none, Sem.run_bind, run_newObj, Result.andThen_ok, Sem.run_pure, World.alloc_eq]
    · rename_i k n hu hr
      injection h with h
      obtain ⟨rfl, rfl⟩ := Prod.mk.inj h
      obtain ⟨x, rfl, hx⟩ : ∃ x, r = some x ∧ ev f x = .int ‹_› ‹_› := by
        rw [Option.map_eq_some_iff] at hr
        obtain ⟨x, h1, h2⟩ := hr
        exact ⟨x, h1, h2⟩
      refine ⟨_, rfl, by simp, (by intro c el ch he; first | (injection he with _ _ h3; exact h3.symm) | (cases he; done)), fun base γ w ρ hρ => ⟨_, rfl, .map #[] 0, ⟨w.heap.size, 0, 0, 0, Nat.zero_mod _⟩, _, ?_, rfl, .inr ⟨rfl, rfl⟩, fun γ2 hg hb => .map _ _ hb hg⟩⟩
      have hv := hρ x (by simp [Op.operands])
      rw [hx] at hv
      have hv' := hv.eq_of_const rfl
      simp only [Instr.makeMap, Option.map_some, hv', Sem.run_bind, run_underlying hu, run_newObj, Result.andThen_ok, Sem.run_pure, World.alloc_eq, asInt, asIntOf]
    · cases h
  case makeSlice t l c =>
    simp only [aop] at h
    have h' := h
    unfold aMakeSlice at h'
    split at h'
    · rw [Option.bind_eq_some_iff] at h'
      obtain ⟨n, hsn, h'⟩ := h'
      rw [Option.bind_eq_some_iff] at h'
      obtain ⟨z, hzz, h'⟩ := h'
      split at h'
      · injection h' with h'
        obtain ⟨rfl, rfl⟩ := Prod.mk.inj h'
        refine ⟨_, rfl, by simp, (by intro c el ch he; first | (injection he with _ _ h3; exact h3.symm) | (cases he; done)), fun base γ w ρ hρ => ⟨_, rfl, ?_⟩⟩
        exact makeSlice_core hz (hρ l (by simp [Op.operands])) (hρ c (by simp [Op.operands])) h rfl
      · cases h'
    · cases h'
  case call c =>
    obtain ⟨callee, args, ats⟩ := c
    cases callee with
    | builtin b => cases b <;> simp at hc
    | _ => simp at hc

/-! ### What reads no memory; what only reads -/
theorem opV_aop {call : CallR} {f : Fr} {o : Oper} (hc : clsOf o.op ≠ .act) : opV P call f σ o = aop P f σ o.op := by
  unfold opV
  split
  · rename_i g args ats ho
    rw [ho] at hc
    simp [clsOf] at hc
  · rfl

theorem map_fst {α : Type} {x : Option α} {r : α × AHeap} (h : x.map (·, σ) = some r) : r.2 = σ ∧ x = some r.1 := by
  rw [Option.map_eq_some_iff] at h
  obtain ⟨v, hv, rfl⟩ := h
  exact ⟨rfl, hv⟩

theorem pure_any {f : Fr} {op : Op} {r : Value × AHeap} (hc : clsOf op = .pure) (h : aop P f σ op = some r) : r.2 = σ ∧ ∀ σ2, aop P f σ2 op = some (r.1, σ2) := by
  cases op <;> simp only [clsOf] at hc <;> (try (cases hc; done)) <;> simp only [aop] at h ⊢
  case call c =>
    obtain ⟨callee, args, ats⟩ := c
    cases callee with
    | builtin b =>
      cases b <;> simp at hc
      all_goals
        simp only [aBuiltin] at h ⊢
        generalize (args.map (ev f)).toList = l at h ⊢
        cases l with
        | nil => cases h
        | cons x rest =>
          simp only at h ⊢
          obtain ⟨h1, h2⟩ := map_fst h
          exact ⟨h1, fun σ2 => by rw [h2]; rfl⟩
    | _ => simp at hc
  all_goals first
    | (obtain ⟨h1, h2⟩ := map_fst h
       exact ⟨h1, fun σ2 => by rw [h2]; rfl⟩)
    | (injection h with h; subst h; exact ⟨rfl, fun _ => rfl⟩)
    | (split at h <;> first
        | (cases h; done)
        | (injection h with h; subst h; exact ⟨rfl, fun _ => rfl⟩)
        | (obtain ⟨h1, h2⟩ := map_fst h
           exact ⟨h1, fun σ2 => by rw [h2]; rfl⟩))

theorem read_same {f : Fr} {op : Op} {r : Value × AHeap} (hc : clsOf op = .read) (h : aop P f σ op = some r) : r.2 = σ := by
  cases op <;> simp only [clsOf] at hc <;> (try (cases hc; done)) <;> simp only [aop] at h
  case call c =>
    obtain ⟨callee, args, ats⟩ := c
    cases callee with
    | builtin b =>
      cases b <;> simp at hc
      simp only [aBuiltin] at h
      split at h <;> first
        | (cases h; done)
        | exact (map_fst h).1
    | _ => simp at hc
  all_goals exact (map_fst h).1

theorem rd_push (hd : σ.get σ.next = .dead) {o : AObj} {a : Addr} {n : Nat} {cs : List Value} (h : rd σ a n = some cs) : rd (σ.push o) a n = some cs := by
  unfold rd at h ⊢
  split at h
  · cases h
  · rename_i hs
    rw [if_neg hs]
    show (if a.block < σ.base then _ else _) = _
    split at h
    · rename_i hb; rw [if_pos hb]; exact h
    · rename_i hb
      rw [if_neg hb]
      by_cases he : a.block = σ.next
      · rw [he, hd] at h; cases h
      · rw [push_get_old _ _ he]; exact h

theorem read_push {f : Fr} {op : Op} {v : Value} (hd : σ.get σ.next = .dead) (hc : clsOf op = .read) (h : aop P f σ op = some (v, σ)) (o : AObj) : aop P f (σ.push o) op = some (v, σ.push o) := by
  have hbase : (σ.push o).base = σ.base := rfl
  cases op <;> simp only [clsOf] at hc <;> (try (cases hc; done)) <;> simp only [aop] at h ⊢
  case load t a =>
    obtain ⟨_, h2⟩ := map_fst h
    have : aLoad P (σ.push o) t (ev f a) = some v := by
      unfold aLoad at h2 ⊢
      split at h2
      · split at h2
        · rw [Option.bind_eq_some_iff] at h2
          obtain ⟨n, hn, h2⟩ := h2
          rw [Option.map_eq_some_iff] at h2
          obtain ⟨cs, hcs, h2⟩ := h2
          simp only [hn, Option.bind_some, rd_push hd hcs, Option.map_some, h2]
        · rw [Option.bind_eq_some_iff] at h2
          obtain ⟨cs, hcs, h2⟩ := h2
          simp only [rd_push hd hcs, Option.bind_some, h2]
        · cases h2
      · cases h2
    rw [this]; rfl
  case lookup t x k ok =>
    obtain ⟨_, h2⟩ := map_fst h
    have : aLookup P (σ.push o) t (ev f x) (ev f k) ok = some v := by
      unfold aLookup at h2 ⊢
      split at h2
      · split at h2
        · rename_i hk
          rw [if_pos hk]
          split at h2
          · exact h2
          · rename_i r _
            rw [hbase]
            split at h2
            · cases h2
            · rename_i hr
              rw [if_neg hr]
              by_cases he : r = σ.next
              · rw [he, hd] at h2; cases h2
              · rw [push_get_old _ _ he]; exact h2
          · cases h2
        · cases h2
      · cases h2
    rw [this]; rfl
  case slice t x lo hi mx =>
    obtain ⟨_, h2⟩ := map_fst h
    have hss : ∀ b n, sameSize P σ b n = true → sameSize P (σ.push o) b n = true := by
      intro b n hb
      unfold sameSize at hb ⊢
      rw [hbase]
      simp only [Bool.or_eq_true] at hb ⊢
      rcases hb with hb | hb
      · exact .inl hb
      · refine .inr ?_
        by_cases he : b = σ.next
        · rw [he, hd] at hb; cases hb
        · rw [push_get_old _ _ he]; exact hb
    have : aSlice P (σ.push o) t (ev f x) (lo.map (ev f)) (hi.map (ev f)) (mx.map (ev f)) = some v := by
      unfold aSlice at h2 ⊢
      split at h2
      · exact h2
      · exact h2
      · rw [Option.bind_eq_some_iff] at h2
        obtain ⟨n, hn, h2⟩ := h2
        rw [Option.bind_eq_some_iff] at h2
        obtain ⟨l, hl, h2⟩ := h2
        rw [Option.bind_eq_some_iff] at h2
        obtain ⟨hh, hhh, h2⟩ := h2
        simp only [hn, hl, hhh, Option.bind_some]
        split at h2
        · rename_i hcd
          rw [if_pos ⟨hcd.1, hcd.2.1, hcd.2.2.1, hss _ _ hcd.2.2.2⟩]
          exact h2
        · cases h2
      · cases h2
    rw [this]; rfl
  case call c =>
    obtain ⟨callee, args, ats⟩ := c
    cases callee with
    | builtin b =>
      cases b <;> simp at hc
      simp only [aBuiltin] at h ⊢
      generalize (args.map (ev f)).toList = l at h ⊢
      generalize ats.toList = ts at h ⊢
      cases ts with
      | nil => cases h
      | cons t ts =>
        cases l with
        | nil => cases h
        | cons x rest =>
          simp only at h ⊢
          obtain ⟨_, h2⟩ := map_fst h
          have : aLen P (σ.push o) t x = some v := by
            unfold aLen at h2 ⊢
            split at h2
            · exact h2
            · exact h2
            · exact h2
            · exact h2
            · rename_i r hu
              rw [hbase]
              split at h2
              · cases h2
              · rename_i hr
                rw [if_neg hr]
                by_cases he : r = σ.next
                · rw [he, hd] at h2; cases h2
                · rw [push_get_old _ _ he]; exact h2
            · cases h2
          rw [this]; rfl
    | _ => simp at hc

theorem PureK {r : Value × AHeap} {x : Option Value} {S : Sem Value} (h : x.map (·, σ) = some r) (hs : ∀ v, x = some v → OpPure P σ γ w v S) :
    ∃ v', (do pure (.value (← S)) : Sem Next).run P w = .ok (.value v') w ∧ VR σ.base γ r.1 v' := by
  obtain ⟨h1, h2⟩ := map_fst h
  obtain ⟨v', h3, h4⟩ := hs _ h2
  exact ⟨v', by simp only [Sem.run_bind, h3, Result.andThen_ok, Sem.run_pure], h4⟩

set_option maxHeartbeats 1000000 in
/-- What makes nothing and changes nothing: the world stays. -/
theorem pr_sound (hz : ZeroOk P) (R : Rel P σ γ w) {f : Fr} {ρ : Operand → Value} {o : Oper} (hρ : ∀ x ∈ o.op.operands.toList, VR σ.base γ (ev f x) (ρ x)) {r : Value × AHeap} (hc : clsOf o.op = .pure ∨ clsOf o.op = .read) (h : aop P f σ o.op = some r) :
    ∃ v', (execOp ρ o).run P w = .ok (.value v') w ∧ VR σ.base γ r.1 v' := by
  obtain ⟨dst, op, ty, pos, after, guard⟩ := o
  simp only at h hρ hc
  have one : ∀ {v v' : Value}, VR σ.base γ v v' → ∃ v'', (pure (.value v') : Sem Next).run P w = .ok (.value v'') w ∧ VR σ.base γ v v'' := fun {v v'} hv => ⟨v', rfl, hv⟩
  cases op <;> simp only [clsOf] at hc <;> (try (rcases hc with hc | hc <;> cases hc; done)) <;> simp only [aop] at h <;> simp only [execOp]
  case move x =>
    injection h with h; subst h
    exact one (hρ x (by simp [Op.operands]))
  case assign x =>
    injection h with h; subst h
    exact one (hρ x (by simp [Op.operands]))
  case pick c a b =>
    have hc := hρ c (by simp [Op.operands])
    have ha := hρ a (by simp [Op.operands])
    have hb := hρ b (by simp [Op.operands])
    split at h
    · rename_i t he
      injection h with h; subst h
      rw [he] at hc
      have hc' := hc.eq_of_const rfl
      refine ⟨if t then ρ a else ρ b, ?_, by cases t <;> simp [ha, hb]⟩
      simp only [hc', asBool, Sem.run_bind, Sem.run_pure, Result.andThen_ok]
    · cases h
  case build t ps =>
    exact PureK h (fun v hv => build_sound hz R (PR.map fun p hp => hρ p.2 (by simp only [Op.operands, List.mem_map]; exact ⟨p, hp, rfl⟩)) hv)
  case load t a => exact PureK h (fun v hv => load_sound R (hρ a (by simp [Op.operands])) hv)
  case nilCheck x =>
    have hx := hρ x (by simp [Op.operands])
    split at h
    · rename_i a he
      injection h with h; subst h
      rw [he] at hx
      obtain ⟨a', e'⟩ := ptr_inv hx
      rw [e'] at hx ⊢
      exact one hx
    · rename_i g a b he
      injection h with h; subst h
      rw [he] at hx
      generalize ρ x = y at hx ⊢
      cases hx with
      | func _ _ a' _ c' h1 h2 h3 h4 => exact one (.func _ _ _ _ _ h1 h2 h3 h4)
    · cases h
  case binOp op t x y yt => exact PureK h (fun v hv => bin_sound R (hρ x (by simp [Op.operands])) (hρ y (by simp [Op.operands])) hv)
  case unOp op t x => exact PureK h (fun v hv => un_sound R (hρ x (by simp [Op.operands])) hv)
  case makeInterface t x =>
    have hx := hρ x (by simp [Op.operands])
    split at h
    · cases h
    · cases h
    · rename_i d hni hu
      injection h with h; subst h
      refine ⟨.iface t (ρ x), ?_, .iface _ _ _ hx⟩
      simp only [Instr.makeInterface, Sem.run_bind, run_underlying hu, Result.andThen_ok]
      cases d <;> first | rfl | exact absurd rfl (hni _)
  case makeFunc fn a b =>
    injection h with h; subst h
    obtain ⟨ha, hva⟩ := arr_map (γ := γ) (base := σ.base) (f := f) (ρ := ρ) (xs := a) (fun x hx => hρ x (by simp only [Op.operands, Array.toList_append, List.mem_append]; exact .inl hx))
    obtain ⟨hb, hvb⟩ := arr_map (γ := γ) (base := σ.base) (f := f) (ρ := ρ) (xs := b) (fun x hx => hρ x (by simp only [Op.operands, Array.toList_append, List.mem_append]; exact .inr hx))
    exact ⟨.func fn (a.map ρ) (b.map ρ), rfl, .func _ _ _ _ _ ha hb hva hvb⟩
  case slice t x lo hi mx =>
    refine PureK h (fun v hv => slice_sound R (hρ x (by simp [Op.operands])) (OV.map fun o ho => hρ o ?_) (OV.map fun o ho => hρ o ?_) (OV.map fun o ho => hρ o ?_) hv)
    · subst ho; simp [Op.operands]
    · subst ho; simp [Op.operands]
    · subst ho; simp [Op.operands]
  case fieldAddr t x i => exact PureK h (fun v hv => fieldAddr_sound R (hρ x (by simp [Op.operands])) hv)
  case field t x i => exact PureK h (fun v hv => field_sound R (hρ x (by simp [Op.operands])) hv)
  case indexAddr t x i => exact PureK h (fun v hv => indexAddr_sound R (hρ x (by simp [Op.operands])) (hρ i (by simp [Op.operands])) hv)
  case index t x i => exact PureK h (fun v hv => index_sound R (hρ x (by simp [Op.operands])) (hρ i (by simp [Op.operands])) hv)
  case lookup t x k ok => exact PureK h (fun v hv => lookup_sound hz R (hρ x (by simp [Op.operands])) (hρ k (by simp [Op.operands])) hv)
  case extract t i =>
    have ht := hρ t (by simp [Op.operands])
    split at h
    · rename_i vs he
      rw [he] at ht
      generalize ρ t = y at ht ⊢
      cases ht with
      | tuple _ vs' h1 h2 =>
        refine PureK h (fun v hv => ?_)
        have hlt : i < vs.size := by
          rcases Nat.lt_or_ge i vs.size with h | h
          · exact h
          · simp [Array.getElem?_eq_none h] at hv
        have hv' : vs'[i]? = some vs'[i] := by simp [Array.getElem?_eq_getElem, show i < vs'.size by omega]
        exact ⟨vs'[i], by simp only [Instr.extract, hv', Sem.run_pure], h2 i v _ hv hv'⟩
    · cases h
  case call c =>
    obtain ⟨callee, args, ats⟩ := c
    cases callee with
    | builtin b =>
      obtain ⟨hs, hx⟩ := arr_map (γ := γ) (base := σ.base) (f := f) (ρ := ρ) (xs := args) (fun x hx => hρ x (by simp only [Op.operands, Call.operands, Array.toList_append, List.mem_append]; exact .inr hx))
      have hL := LR.arr hs hx
      cases b <;> (try (simp at hc; done)) <;> simp only [aBuiltin] at h <;> simp only [resolve, Sem.run_bind, Sem.run_pure, Result.andThen_ok, invoke, builtin]
      case len =>
        split at h
        · rename_i t ts' x xs0 ht hxs
          rw [hxs] at hL
          obtain ⟨x', r1, e1, hvx, hL⟩ := hL.uncons
          rw [arr_of_list ht, arr_of_list e1]
          have := PureK (P := P) (w := w) (γ := γ) h (fun v hv => len_sound (ty := ty) (ts := ts') (xs := r1) R hvx hv)
          simpa only [Sem.run_bind, Sem.run_pure] using this
        · cases h
      case max =>
        split at h
        · rename_i x rest hxs
          rw [hxs] at hL
          obtain ⟨x', r1, e1, hvx, hL⟩ := hL.uncons
          obtain ⟨h1, h2⟩ := map_fst h
          obtain ⟨v', h1, h2⟩ := max_sound (P := P) (w := w) hvx hL h2
          exact ⟨v', by simp only [Builtin.max_, e1, h1, Result.andThen_ok], h2⟩
        · cases h
      case min =>
        split at h
        · rename_i x rest hxs
          rw [hxs] at hL
          obtain ⟨x', r1, e1, hvx, hL⟩ := hL.uncons
          obtain ⟨h1, h2⟩ := map_fst h
          obtain ⟨v', h1, h2⟩ := min_sound (P := P) (w := w) hvx hL h2
          exact ⟨v', by simp only [Builtin.min_, e1, h1, Result.andThen_ok], h2⟩
        · cases h
    | _ => simp at hc

end
end Go.Am
/- AmP -/
set_option linter.unusedVariables false
set_option linter.unusedSimpArgs false
namespace Go.Am
section
variable {P : Program} {σ : AHeap}

def Fresh (σ : AHeap) : Prop := ∀ i, σ.next ≤ i → σ.get i = .dead
structure AMono (σ σ' : AHeap) : Prop where
  old : σ'.old = σ.old
  next : σ.next ≤ σ'.next
  fresh : Fresh σ → Fresh σ'

theorem AMono.refl (σ : AHeap) : AMono σ σ := ⟨rfl, Nat.le_refl _, fun h => h⟩
theorem AMono.trans {a b c : AHeap} (h : AMono a b) (k : AMono b c) : AMono a c := ⟨k.old.trans h.old, Nat.le_trans h.next k.next, fun f => k.fresh (h.fresh f)⟩
theorem AMono.push (σ : AHeap) (o : AObj) : AMono σ (σ.push o) := ⟨rfl, by simp [AHeap.push], fun f i hi => by
  have : i ≠ σ.next := by simp [AHeap.push] at hi; omega
  rw [push_get_old _ _ this]; exact f i (by simp [AHeap.push] at hi; omega)⟩
theorem AMono.kill (σ : AHeap) (ch keep lim : Nat) : AMono σ (σ.kill ch keep lim) := ⟨rfl, Nat.le_refl _, fun f i hi => kill_dead (f i hi)⟩
theorem AMono.put {j : Nat} (o : AObj) (h : σ.get j ≠ .dead) : AMono σ (σ.put j o) := ⟨rfl, Nat.le_refl _, fun f i hi => by
  have : i ≠ j := by intro e; subst e; exact h (f i hi)
  rw [put_get_other _ _ this]; exact f i hi⟩

theorem wr_mono {a : Addr} {vs : List Value} {σ' : AHeap} (h : wr σ a vs = some σ') : AMono σ σ' := by
  unfold wr at h
  split at h
  · cases h
  · split at h
    · cases h
    · split at h
      · rename_i c el ch hget
        split at h
        · injection h with h; subst h
          refine (AMono.kill σ ch a.block a.off).trans ⟨rfl, Nat.le_refl _, fun f i hi => ?_⟩
          have : i ≠ a.block := by
            intro e; subst e
            have := f a.block hi
            unfold AHeap.kill at this
            simp [hget] at this
          rw [put_get_other _ _ this]; exact f i hi
        · cases h
      · cases h

theorem map_mono {α : Type} {x : Option α} {r : α × AHeap} (h : x.map (·, σ) = some r) : AMono σ r.2 := by
  rw [(map_fst h).1]; exact AMono.refl σ

theorem mapU_mono {x : Option AHeap} {r : Value × AHeap} (h : x.map (undef, ·) = some r) (hx : ∀ σ', x = some σ' → AMono σ σ') : AMono σ r.2 := by
  rw [Option.map_eq_some_iff] at h
  obtain ⟨σ', h1, rfl⟩ := h
  exact hx _ h1

theorem mapUpdate_mono {t : TypeId} {x k v : Value} {σ' : AHeap} (h : aMapUpdate P σ t x k v = some σ') : AMono σ σ' := by
  unfold aMapUpdate at h
  split at h
  · split at h
    · split at h
      · cases h
      · split at h
        · rename_i es clock hget
          rw [Option.bind_eq_some_iff] at h
          obtain ⟨q, _, h⟩ := h
          cases q with
          | none => simp only [Option.some.injEq] at h; subst h; exact AMono.put _ (by rw [hget]; simp)
          | some q =>
            simp only at h
            split at h
            · injection h with h; subst h; exact AMono.put _ (by rw [hget]; simp)
            · cases h
        · cases h
    · cases h
  · cases h

theorem append_mono {st xt : TypeId} {s x : Value} {r : Value × AHeap} (h : aAppend P σ st xt s x = some r) : AMono σ r.2 := by
  unfold aAppend at h
  split at h
  · cases h
  · rw [Option.bind_eq_some_iff] at h
    obtain ⟨_, _, h⟩ := h
    rw [Option.bind_eq_some_iff] at h
    obtain ⟨_, _, h⟩ := h
    rw [Option.bind_eq_some_iff] at h
    obtain ⟨_, _, h⟩ := h
    rw [Option.bind_eq_some_iff] at h
    obtain ⟨_, _, h⟩ := h
    rw [Option.bind_eq_some_iff] at h
    obtain ⟨_, _, h⟩ := h
    split at h
    · injection h with h; subst h; exact AMono.refl σ
    · split at h
      · split at h
        · injection h with h; subst h; exact AMono.push _ _
        · split at h
          · injection h with h; subst h; exact AMono.push _ _
          · split at h
            · cases h
            · split at h
              · split at h
                · split at h
                  · injection h with h; subst h; exact (AMono.kill _ _ _ _).trans (AMono.push _ _)
                  · split at h
                    · injection h with h; subst h; exact (AMono.kill _ _ _ _).trans (AMono.push _ _)
                    · cases h
                · cases h
              · cases h
      · cases h
  · cases h

theorem aop_mono {f : Fr} {op : Op} {r : Value × AHeap} (h : aop P f σ op = some r) : AMono σ r.2 := by
  cases op <;> simp only [aop] at h
  case alloc e =>
    rw [Option.bind_eq_some_iff] at h
    obtain ⟨z, _, h⟩ := h
    unfold aNew at h
    split at h
    · injection h with h; subst h; exact AMono.push _ _
    · cases h
  case box e x =>
    split at h
    · unfold aNew at h
      split at h
      · injection h with h; subst h; exact AMono.push _ _
      · cases h
    · cases h
  case buildSlice t len ps =>
    unfold aBuildSlice at h
    split at h
    · split at h
      · rw [Option.bind_eq_some_iff] at h
        obtain ⟨_, _, h⟩ := h
        rw [Option.bind_eq_some_iff] at h
        obtain ⟨_, _, h⟩ := h
        split at h
        · rw [Option.map_eq_some_iff] at h
          obtain ⟨_, _, rfl⟩ := h
          exact AMono.push _ _
        · cases h
      · cases h
    · cases h
  case store t a x =>
    refine mapU_mono h (fun σ' hs => ?_)
    unfold aStore at hs
    split at hs
    · split at hs
      · exact wr_mono hs
      · cases hs
    · cases hs
  case convert s d x =>
    unfold aConv at h
    split at h
    · injection h with h; subst h; exact AMono.refl σ
    · injection h with h; subst h; exact AMono.refl σ
    · split at h
      · injection h with h; subst h; exact AMono.refl σ
      · cases h
    · split at h
      · rw [Option.bind_eq_some_iff] at h
        obtain ⟨_, _, h⟩ := h
        rw [Option.map_eq_some_iff] at h
        obtain ⟨_, _, rfl⟩ := h
        exact AMono.refl σ
      · cases h
    · split at h
      · split at h
        · injection h with h; subst h; exact AMono.push _ _
        · cases h
      · cases h
    · split at h
      · split at h
        · injection h with h; subst h; exact AMono.refl σ
        · cases h
      · cases h
    · split at h
      · cases h
      · split at h
        · split at h
          · injection h with h; subst h; exact AMono.refl σ
          · cases h
        · cases h
    · cases h
  case makeMap t r =>
    split at h
    · injection h with h; subst h; exact AMono.push _ _
    · injection h with h; subst h; exact AMono.push _ _
    · cases h
  case makeSlice t l c =>
    unfold aMakeSlice at h
    split at h
    · rw [Option.bind_eq_some_iff] at h
      obtain ⟨_, _, h⟩ := h
      rw [Option.bind_eq_some_iff] at h
      obtain ⟨_, _, h⟩ := h
      split at h
      · injection h with h; subst h; exact AMono.push _ _
      · cases h
    · cases h
  case mapUpdate t m k x => exact mapU_mono h (fun σ' hs => mapUpdate_mono hs)
  case insert t m k x => exact mapU_mono h (fun σ' hs => mapUpdate_mono hs)
  case mapEntry t m k =>
    unfold aMapEntry at h
    split at h
    · split at h
      · split at h
        · cases h
        · split at h
          · rename_i es clock hget
            rw [Option.bind_eq_some_iff] at h
            obtain ⟨q, _, h⟩ := h
            cases q with
            | none =>
              simp only at h
              rw [Option.map_eq_some_iff] at h
              obtain ⟨_, _, rfl⟩ := h
              exact AMono.put _ (by rw [hget]; simp)
            | some q =>
              simp only at h
              split at h
              · injection h with h; subst h; exact AMono.put _ (by rw [hget]; simp)
              · cases h
          · cases h
      · cases h
    · cases h
  case entryStore t m s x =>
    refine mapU_mono h (fun σ' hs => ?_)
    unfold aEntryStore at hs
    split at hs
    · split at hs
      · split at hs
        · cases hs
        · split at hs
          · rename_i es clock hget
            rw [Option.map_eq_some_iff] at hs
            obtain ⟨_, _, rfl⟩ := hs
            exact AMono.put _ (by rw [hget]; simp)
          · cases hs
      · cases hs
    · cases hs
  case call c =>
    obtain ⟨callee, args, ats⟩ := c
    cases callee with
    | builtin b =>
      simp only at h
      unfold aBuiltin at h
      split at h
      · split at h
        · exact append_mono h
        · cases h
      · split at h
        · unfold aCopy at h
          split at h
          · rw [Option.bind_eq_some_iff] at h
            obtain ⟨_, _, h⟩ := h
            rw [Option.bind_eq_some_iff] at h
            obtain ⟨_, _, h⟩ := h
            rw [Option.bind_eq_some_iff] at h
            obtain ⟨_, _, h⟩ := h
            split at h
            · injection h with h; subst h; exact AMono.refl σ
            · split at h
              · injection h with h; subst h; exact AMono.refl σ
              · rw [Option.map_eq_some_iff] at h
                obtain ⟨_, hw, rfl⟩ := h
                exact wr_mono hw
          · cases h
        · cases h
      · split at h
        · exact map_mono h
        · cases h
      · split at h
        · unfold aDelete at h
          split at h
          · split at h
            · split at h
              · cases h
              · split at h
                · rename_i es clock hget
                  rw [Option.bind_eq_some_iff] at h
                  obtain ⟨q, _, h⟩ := h
                  cases q with
                  | none => simp only [Option.some.injEq] at h; subst h; exact AMono.refl σ
                  | some q => simp only [Option.some.injEq] at h; subst h; exact AMono.put _ (by rw [hget]; simp)
                · cases h
            · cases h
          · cases h
        · cases h
      · split at h
        · exact map_mono h
        · cases h
      · split at h
        · exact map_mono h
        · cases h
      · split at h
        · exact map_mono h
        · cases h
      · split at h
        · unfold aUnsafeString at h
          split at h
          · split at h
            · injection h with h; subst h; exact AMono.refl σ
            · cases h
          · split at h
            · split at h
              · split at h
                · split at h
                  · rw [Option.map_eq_some_iff] at h
                    obtain ⟨_, _, rfl⟩ := h
                    refine ⟨rfl, Nat.le_refl _, fun f i hi => ?_⟩
                    show (if i = _ then AObj.dead else _) = _
                    split
                    · rfl
                    · exact kill_dead (f i hi)
                  · cases h
                · cases h
              · cases h
            · cases h
          · cases h
        · cases h
      · cases h
    | _ => simp at h
  all_goals first
    | exact map_mono h
    | (injection h with h; subst h; exact AMono.refl σ)
    | (split at h <;> first
        | (cases h; done)
        | exact map_mono h
        | (injection h with h; subst h; exact AMono.refl σ))
    | (cases h; done)

def CallMono (call : CallR) : Prop := ∀ g args σ r, call g args σ = some r → AMono σ r.2

theorem opV_mono {call : CallR} (hc : CallMono call) {f : Fr} {o : Oper} {r : Value × AHeap} (h : opV P call f σ o = some r) : AMono σ r.2 := by
  unfold opV at h
  split at h
  · rw [Option.bind_eq_some_iff] at h
    obtain ⟨_, _, h⟩ := h
    exact hc _ _ _ _ h
  · exact aop_mono h

theorem opsF_mono {call : CallR} (hc : CallMono call) {ops : Array Oper} : ∀ {l : List Oper} {f : Fr} {σ : AHeap} {r : Fr × AHeap}, opsF P call ops l f σ = some r → AMono σ r.2 := by
  intro l
  induction l with
  | nil => intro f σ r h; simp [opsF] at h; subst h; exact AMono.refl σ
  | cons o l ih =>
    intro f σ r h
    unfold opsF at h
    split at h
    · rw [Option.bind_eq_some_iff] at h
      obtain ⟨x, hx, h⟩ := h
      exact (opV_mono hc hx).trans (ih h)
    · exact ih h

theorem drawF_mono {call : CallR} (hc : CallMono call) {ops : Array Oper} : ∀ {l : List (Oper × Nat)} {ps : List (Nat × AHeap)} {f : Fr} {σ : AHeap} {r : Fr × AHeap}, drawF P call ops l ps f σ = some r → AMono σ r.2 := by
  intro l
  induction l with
  | nil => intro ps f σ r h; simp [drawF] at h; subst h; exact AMono.refl σ
  | cons o l ih =>
    intro ps f σ r h
    obtain ⟨o, i⟩ := o
    unfold drawF at h
    split at h
    · split at h
      · rw [Option.bind_eq_some_iff] at h
        obtain ⟨x, hx, h⟩ := h
        exact (opV_mono hc hx).trans (ih h)
      · rw [Option.bind_eq_some_iff] at h
        obtain ⟨x, hx, h⟩ := h
        exact (opV_mono hc hx).trans (ih h)
      · rw [Option.bind_eq_some_iff] at h
        obtain ⟨x, hx, h⟩ := h
        split at h
        · exact (opV_mono hc hx).trans (ih h)
        · cases h
      · rw [Option.bind_eq_some_iff] at h
        obtain ⟨x, hx, h⟩ := h
        exact (opV_mono hc hx).trans (ih h)
    · exact ih h

theorem codeF_mono {call : CallR} (hc : CallMono call) {N : Nat} : ∀ {c : Code} {f : Fr} {σ : AHeap} {e : AExit} {f' : Fr} {σ' : AHeap}, codeF P call N c f σ = some (e, f', σ') → AMono σ σ' := by
  intro c
  induction c with
  | skip => intro f σ e f' σ' h; simp [codeF] at h; obtain ⟨_, _, rfl⟩ := h; exact AMono.refl σ
  | region id ops draw =>
    intro f σ e f' σ' h
    unfold codeF at h
    by_cases hg : noGlob ops = true
    case neg => rw [if_neg hg] at h; cases h
    rw [if_pos hg] at h
    split at h
    · split at h
      · rw [Option.map_eq_some_iff] at h
        obtain ⟨r, hr, h⟩ := h
        injection h with h1 h2; injection h2 with h2 h3; subst h3
        exact drawF_mono hc hr
      · cases h
    · rw [Option.map_eq_some_iff] at h
      obtain ⟨r, hr, h⟩ := h
      injection h with h1 h2; injection h2 with h2 h3; subst h3
      exact opsF_mono hc hr
  | seq a b iha ihb =>
    intro f σ e f' σ' h
    unfold codeF at h
    split at h
    · rename_i f1 σ1 h1
      exact (iha h1).trans (ihb h)
    · exact iha h
  | cond c a b iha ihb =>
    intro f σ e f' σ' h
    unfold codeF at h
    split at h
    · split at h
      · exact iha h
      · exact ihb h
    · cases h
  | block id c ih =>
    intro f σ e f' σ' h
    unfold codeF at h
    split at h
    · rename_i i f1 σ1 h1
      split at h
      · injection h with h; injection h with _ h; injection h with _ h; subst h; exact ih h1
      · injection h with h; injection h with _ h; injection h with _ h; subst h; exact ih h1
    · exact ih h
  | loop c ih =>
    intro f σ e f' σ' h
    unfold codeF at h
    have : ∀ (n : Nat) (f : Fr) (σ : AHeap), iter (codeF P call N c) n f σ = some (e, f', σ') → AMono σ σ' := by
      intro n
      induction n with
      | zero => intro f σ h; simp [iter] at h
      | succ n ihn =>
        intro f σ h
        unfold iter at h
        split at h
        · rename_i f1 σ1 h1
          exact (ih h1).trans (ihn _ _ h)
        · exact ih h
    exact this _ _ _ h
  | exit id => intro f σ e f' σ' h; simp [codeF] at h; obtain ⟨_, _, rfl⟩ := h; exact AMono.refl σ
  | scope c ih => intro f σ e f' σ' h; unfold codeF at h; exact ih h
  | label l => intro f σ e f' σ' h; simp [codeF] at h; obtain ⟨_, _, rfl⟩ := h; exact AMono.refl σ
  | ret => intro f σ e f' σ' h; simp [codeF] at h; obtain ⟨_, _, rfl⟩ := h; exact AMono.refl σ
  | _ => intro f σ e f' σ' h; simp [codeF] at h

theorem externF_same {fn : Func} {args : List Value} {r : Value × AHeap} (h : externF fn args σ = some r) : r.2 = σ := by
  unfold externF at h
  split at h
  · split at h
    · injection h with h; subst h; rfl
    · cases h
  · split at h
    · injection h with h; subst h; rfl
    · cases h
  · cases h

theorem callF_mono (n : Nat) : CallMono (callF P n) := by
  induction n with
  | zero => intro g args σ r h; simp [callF] at h
  | succ n ih =>
    intro g args σ r h
    unfold callF at h
    split at h
    · cases h
    · split at h
      · rw [externF_same h]; exact AMono.refl σ
      · split at h
        · split at h
          · split at h
            · injection h with h; subst h; exact AMono.refl σ
            · cases h
          · cases h
        · split at h
          · cases h
          · split at h
            · rename_i f σ' h1
              rw [(map_fst h).1]; exact codeF_mono ih h1
            · rename_i f σ' h1
              rw [(map_fst h).1]; exact codeF_mono ih h1
            · cases h

end
end Go.Am
