/- The abstract machine: regions, code, calls: what it comes to, the model comes to. -/
import Derived.Test.YtfblbkmmjidknaaAmS
import Derived.LoopN
set_option linter.unusedVariables false
set_option linter.unusedSimpArgs false
namespace Go.Am
section
variable {P : Program} {call : CallR} {ops : Array Oper} {l : List (Oper × Nat)} {f0 f1 : Fr} {σ0 σ1 : AHeap} {γ0 γ : Gm} {w0 w : World} {N m : Nat} {a : Act} {T : Tr P call ops l f0 σ0 f1 σ1}

def Ls (listed : Array Bool) : Nat → Bool := fun x => listed.getD x false

theorem Ls_set {listed : Array Bool} {i : Nat} (h : i < listed.size) : Ls (listed.setIfInBounds i true) = ins (Ls listed) i := by
  funext x
  unfold Ls ins
  by_cases hx : x = i
  · subst hx; simp [h]
  · simp [hx, getD_set_ne false (Ne.symm hx)]

theorem ready_nil (L : LOk ops l) {listed : Array Bool} (hsz : listed.size = ops.size) (h : Region.ready .any ops listed = []) : ∀ (p : Nat) (o : Oper) (x : Nat), l[p]? = some (o, x) → Ls listed x = true := by
  intro p
  induction p using Nat.strongRecOn with
  | _ p ih =>
    intro o x hp
    cases hx : Ls listed x with
    | true => rfl
    | false =>
      exfalso
      have ho := L.get p o x hp
      have hlt : x < ops.size := (Array.getElem?_eq_some_iff.1 ho).1
      have : x ∈ Region.ready .any ops listed := by
        rw [mem_ready]
        refine ⟨?_, o, ho, fun e he hb => ?_⟩
        · unfold Ls at hx
          simp only [Array.getD, hsz, hlt, dif_pos] at hx ⊢
          exact hx
        · obtain ⟨h1, h2⟩ := L.self p o x hp e (by simpa using he) hb
          obtain ⟨r, u, hr⟩ := L.all e.on h1
          have hrq : r < p := by
            rcases Nat.lt_trichotomy r p with h3 | h3 | h3
            · exact h3
            · subst h3; rw [hp] at hr; injection hr with hr; injection hr with _ hr; exact absurd hr.symm h2
            · exact absurd rfl (L.edge p r o x u e.on hp hr h3 e (by simpa using he) hb)
          exact ih r hrq u e.on hr
      rw [h] at this; cases this

theorem any_sound (hz : ZeroOk P) (hc : CallOk P call) (hm : CallMono call) (R0 : Rel P σ0 γ0 w0) (L : LOk ops l) (hops : ∀ (p : Nat) (o : Oper) (x : Nat), l[p]? = some (o, x) → operOk N o = true) {Q : Exit → Act → World → Prop}
    (hQ : ∀ a' γ' w', FrR σ0.base γ' f1 a' N → Post P σ0 γ0 w0 σ1 γ' w' → Q .normal a' w') :
    ∀ (fuel : Nat) (listed : Array Bool) (m : Nat) (γ : Gm) (a : Act) (w : World), listed.size = ops.size → Closed l (Ls listed) → (l.filter fun q => !Ls listed q.2).length ≤ fuel → Inv T γ0 w0 N (Ls listed) m γ a w →
      wpAny P .any ops Q fuel listed a w := by
  have fin : ∀ (listed : Array Bool) (m : Nat) (γ : Gm) (a : Act) (w : World), (∀ (p : Nat) (o : Oper) (x : Nat), l[p]? = some (o, x) → Ls listed x = true) → Inv T γ0 w0 N (Ls listed) m γ a w → Q .normal a w := by
    intro listed m γ a w hall I
    have I2 := I.advanceTo hz hm R0 I.mle (Nat.le_refl _) (fun p o x _ _ hp => hall p o x hp)
    have hlw : ∀ t, lw l (Ls listed) l.length t = lw l (fun _ => true) l.length t := fun t => lw_congr (fun p o x _ hp _ => hall p o x hp)
    refine hQ a (rst γ (T.hs l.length).next) w ⟨I2.defers, I2.size, fun t => ?_⟩ ?_
    · have hcur : T.cur (Ls listed) t = f1 t := by
        have h1 := congrFun T.f1_eq t
        rw [fs_lw T t (Nat.le_refl _)] at h1
        unfold Tr.cur
        rw [hlw, ← h1]
        cases lw l (fun _ => true) l.length t <;> rfl
      have hlev : T.lev (Ls listed) t ≤ (T.hs l.length).next := by
        unfold Tr.lev
        cases hh : lw l (Ls listed) l.length t with
        | none => have := (T.mono hm (Nat.zero_le l.length) (Nat.le_refl _)).next; rw [T.s0_eq] at this; exact this
        | some q => exact (T.mono hm (i := q + 1) (j := l.length) (by have := (lw_lt hh).1; omega) (Nat.le_refl _)).next
      rw [← hcur]
      exact (I2.env t).mono (rst_le (by omega))
    · exact Eq.mp (congrArg (fun s => Post P σ0 γ0 w0 s (rst γ (T.hs l.length).next) w) T.s1_eq) I2.post
  intro fuel
  induction fuel with
  | zero =>
    intro listed m γ a w hsz C hcnt I
    have hall : ∀ (p : Nat) (o : Oper) (x : Nat), l[p]? = some (o, x) → Ls listed x = true := by
      intro p o x hp
      have hnil : (l.filter fun q => !Ls listed q.2) = [] := List.eq_nil_of_length_eq_zero (by omega)
      rw [List.filter_eq_nil_iff] at hnil
      have := hnil (o, x) (List.mem_of_getElem? hp)
      simpa using this
    refine ⟨?_, fin listed m γ a w hall I⟩
    cases hr : Region.ready .any ops listed with
    | nil => rfl
    | cons i rest =>
      have hi : i ∈ Region.ready .any ops listed := by rw [hr]; simp
      rw [mem_ready] at hi
      obtain ⟨h0, o, ho, _⟩ := hi
      have hlt : i < ops.size := (Array.getElem?_eq_some_iff.1 ho).1
      obtain ⟨p, u, hp⟩ := L.all i hlt
      have := hall p u i hp
      unfold Ls at this
      simp only [Array.getD, hsz, hlt, dif_pos] at this h0
      rw [h0] at this; cases this
  | succ fuel ih =>
    intro listed m γ a w hsz C hcnt I
    refine ⟨fun hnil => fin listed m γ a w (ready_nil L hsz hnil) I, fun i hi => ?_⟩
    rw [mem_ready] at hi
    obtain ⟨h0, o, ho, hed⟩ := hi
    have hlt : i < ops.size := (Array.getElem?_eq_some_iff.1 ho).1
    obtain ⟨p, u, hp⟩ := L.all i hlt
    have := L.get p u i hp
    rw [ho] at this; injection this with this; subst this
    have hx : Ls listed i = false := by
      unfold Ls
      simp only [Array.getD, hsz, hlt, dif_pos] at h0 ⊢
      exact h0
    have hed' : ∀ e ∈ o.after.toList, Region.binds .any e = true → Ls listed e.on = true := fun e he hb => hed e (by simpa using he) hb
    have hset : Ls (listed.setIfInBounds i true) = ins (Ls listed) i := Ls_set (by omega)
    have hstep := I.step hz hc hm R0 L C hp hx hed' (hops p o i hp) (K := wpAny P .any ops Q fuel (listed.setIfInBounds i true)) (Q := Q) (fun m' γ' a' w' I' => by
      refine ih (listed.setIfInBounds i true) m' γ' a' w' (by simpa using hsz) (by rw [hset]; exact C.ins L hp hed') ?_ (by rw [hset]; exact I')
      rw [hset]
      have hlt2 : (l.filter fun q => !ins (Ls listed) i q.2).length < (l.filter fun q => !Ls listed q.2).length := by
        have hsub : (l.filter fun q => !ins (Ls listed) i q.2) = (l.filter fun q => !Ls listed q.2).filter fun q => q.2 != i := by
          rw [List.filter_filter]
          apply List.filter_congr
          intro q _
          unfold ins
          by_cases h : q.2 = i <;> simp [h]
        rw [hsub]
        exact List.length_filter_lt_length_iff_exists.2 ⟨(o, i), List.mem_filter.2 ⟨List.mem_of_getElem? hp, by simp [hx]⟩, by simp⟩
      omega)
    unfold wpOp
    rw [ho]
    simp only
    split
    · rename_i hw
      rw [if_pos hw] at hstep
      exact .inl hstep
    · rename_i hw
      rw [if_neg hw] at hstep
      exact hstep

theorem Post.drew (R : Rel P σ0 γ0 w) : Rel P σ0 γ0 w.drew ∧ Fram σ0 γ0 w w.drew :=
  ⟨⟨R.os, R.tape, R.out, R.size, R.old, R.next, R.fresh, R.chain, R.dom, R.cells, R.map, R.sep⟩, ⟨Nat.le_refl _, fun _ _ _ => rfl⟩⟩

theorem canon_oper {o : Oper} {x p : Nat} (h : (canonOps ops)[p]? = some (o, x)) : o ∈ ops.toList := by
  have := List.mem_of_getElem? h
  unfold canonOps at this
  rw [List.mem_filterMap] at this
  obtain ⟨i, _, hi⟩ := this
  rw [Option.map_eq_some_iff] at hi
  obtain ⟨o', ho, he⟩ := hi
  injection he with e1 e2; subst e1
  simpa using Array.mem_of_getElem? ho

theorem canon_length (h : regionOk ops = true) : (canonOps ops).length ≤ ops.size := by
  unfold regionOk at h
  simp only [Bool.and_eq_true, decide_eq_true_eq] at h
  exact h.2

/-! ### Regions -/
theorem region_sound (hz : ZeroOk P) (hx : P.follows .mixedOrders = true) (hc : CallOk P call) (hm : CallMono call) {σ σ' : AHeap} {f f' : Fr} {id : Nat} {draw : Bool} (R : Rel P σ γ w) (F : FrR σ.base γ f a N) (hops : ops.all (operOk N) = true)
    (h : (if draw then (if regionOk ops then drawF P call ops (canonOps ops) [] f σ else none) else opsF P call ops ops.toList f σ) = some (f', σ')) {Q : Exit → Act → World → Prop}
    (hQ : ∀ a' γ' w', FrR σ.base γ' f' a' N → Post P σ γ w σ' γ' w' → Q .normal a' w') : (Code.region id ops draw).wp P Q a w := by
  have hall : ∀ o ∈ ops.toList, operOk N o = true := fun o ho => by
    rw [Array.all_eq_true_iff_forall_mem] at hops; exact hops o (by simpa using ho)
  cases draw with
  | false =>
    simp only [Bool.false_eq_true, if_false] at h
    exact wp_region_list (ops_sound hz hc hall R F h hQ)
  | true =>
    simp only [if_true] at h
    split at h
    · rename_i hok
      have L := LOk.of hok
      obtain ⟨T⟩ := trace_of_draw h
      refine wp_region_any hx ?_
      obtain ⟨Rd, Fd⟩ := Post.drew (w := w) R
      have hw : ({ w with drawn := w.drawn + 1 } : World) = w.drew := rfl
      rw [hw]
      have hmono : ∀ i e, γ i = some e → i < σ.next := fun i e he => (R.dom i e he).2.1
      have hrst : rst γ σ.next = γ := by
        funext i
        unfold rst
        split
        · rfl
        · rename_i hi
          cases hg : γ i with
          | none => rfl
          | some e => exact absurd (hmono i e hg) hi
      have hS : Ls (Array.replicate ops.size false) = fun _ => false := by
        funext x
        unfold Ls
        simp only [Array.getD, Array.size_replicate]
        split <;> simp
      have hlw : ∀ t, lw (canonOps ops) (fun _ => false) (canonOps ops).length t = none := by
        intro t
        cases hh : lw (canonOps ops) (fun _ => false) (canonOps ops).length t with
        | none => rfl
        | some q => obtain ⟨_, o, x, _, h1, _⟩ := lw_lt hh; cases h1
      refine any_sound (T := T) hz hc hm Rd L (fun p o x hp => hall o (canon_oper hp)) (fun a' γ' w' F' p' => hQ a' γ' w' F' ⟨p'.rel, ?_, p'.grows, p'.newB⟩) ops.size (Array.replicate ops.size false) 0 γ a w.drew (by simp) ?_ ?_ ?_
      · exact ⟨p'.fram.size, p'.fram.same⟩
      · exact ⟨fun p o x _ hp => by rw [hS] at hp; cases hp⟩
      · exact Nat.le_trans (List.length_filter_le _ _) (canon_length hok)
      · rw [hS]
        exact {
          mle := Nat.zero_le _
          allL := fun p o x hp => by omega
          noact := fun _ _ _ _ _ _ _ => rfl
          post := by
            have h1 : Post P σ γ w.drew σ (rst γ σ.next) w.drew := by rw [hrst]; exact Post.refl Rd
            exact Eq.mp (congrArg (fun s => Post P σ γ w.drew s (rst γ s.next) w.drew) T.s0_eq.symm) h1
          early := fun p o x _ _ hp => by cases hp
          dom := fun i e he => .inl (by have := hmono i e he; rw [T.s0_eq]; exact this)
          env := fun t => by
            have h1 : T.cur (fun _ => false) t = f t := by unfold Tr.cur; rw [hlw]
            have h2 : T.lev (fun _ => false) t = σ.next := by unfold Tr.lev; rw [hlw]
            have h3 : max σ.next (T.hs 0).next = σ.next := by rw [T.s0_eq]; omega
            rw [h1, h2, h3, hrst]
            exact F.val t
          size := F.size
          defers := F.defers }
    · cases h

/-! ### Code -/
def AExit.conv : AExit → Exit
  | .normal => .normal
  | .exit i => .exit i
  | .ret => .ret

/-- What a piece of code comes to. -/
def CodePost (P : Program) (σ : AHeap) (γ : Gm) (w : World) (e : AExit) (f' : Fr) (σ' : AHeap) (N : Nat) : Exit → Act → World → Prop :=
  fun ex a' w' => ex = e.conv ∧ ∃ γ', FrR σ.base γ' f' a' N ∧ Post P σ γ w σ' γ' w'

theorem CodePost.trans {σ σ2 σ3 : AHeap} {γ2 : Gm} {w2 : World} {e : AExit} {f' : Fr} (R : Rel P σ γ w) (p : Post P σ γ w σ2 γ2 w2) {ex : Exit} {a' : Act} {w' : World} (h : CodePost P σ2 γ2 w2 e f' σ3 N ex a' w') :
    CodePost P σ γ w e f' σ3 N ex a' w' := by
  obtain ⟨h1, γ', h2, h3⟩ := h
  exact ⟨h1, γ', by rw [p.base] at h2; exact h2, p.trans R h3⟩

theorem code_sound (hz : ZeroOk P) (hx : P.follows .mixedOrders = true) (hc : CallOk P call) (hm : CallMono call) {M : Nat} : ∀ {c : Code} {f f' : Fr} {σ σ' : AHeap} {γ : Gm} {a : Act} {w : World} {e : AExit}, codeOk N c = true → Rel P σ γ w → FrR σ.base γ f a N →
    codeF P call M c f σ = some (e, f', σ') → c.wp P (CodePost P σ γ w e f' σ' N) a w := by
  intro c
  induction c with
  | skip =>
    intro f f' σ σ' γ a w e _ R F h
    simp only [codeF, Option.some.injEq, Prod.mk.injEq] at h
    obtain ⟨rfl, rfl, rfl⟩ := h
    exact wp_skip ⟨rfl, γ, F, Post.refl R⟩
  | label l =>
    intro f f' σ σ' γ a w e _ R F h
    simp only [codeF, Option.some.injEq, Prod.mk.injEq] at h
    obtain ⟨rfl, rfl, rfl⟩ := h
    exact wp_label ⟨rfl, γ, F, Post.refl R⟩
  | exit id =>
    intro f f' σ σ' γ a w e _ R F h
    simp only [codeF, Option.some.injEq, Prod.mk.injEq] at h
    obtain ⟨rfl, rfl, rfl⟩ := h
    exact wp_exit ⟨rfl, γ, F, Post.refl R⟩
  | ret =>
    intro f f' σ σ' γ a w e _ R F h
    simp only [codeF, Option.some.injEq, Prod.mk.injEq] at h
    obtain ⟨rfl, rfl, rfl⟩ := h
    exact wp_ret ⟨rfl, γ, F, Post.refl R⟩
  | region id ops draw =>
    intro f f' σ σ' γ a w e hok R F h
    unfold codeF at h
    have h2 : ∃ r, (if draw then (if regionOk ops then drawF P call ops (canonOps ops) [] f σ else none) else opsF P call ops ops.toList f σ) = some r ∧ (AExit.normal, r.1, r.2) = (e, f', σ') := by
      cases draw with
      | true =>
        simp only [if_true] at h ⊢
        split at h
        · rename_i hr
          rw [Option.map_eq_some_iff] at h
          obtain ⟨r, hr2, h3⟩ := h
          exact ⟨r, by rw [if_pos hr]; exact hr2, h3⟩
        · cases h
      | false =>
        simp only [Bool.false_eq_true, if_false] at h ⊢
        rw [Option.map_eq_some_iff] at h
        exact h
    obtain ⟨r, hr, he⟩ := h2
    injection he with e1 e2; injection e2 with e2 e3; subst e1; subst e2; subst e3
    exact region_sound hz hx hc hm R F hok hr (fun a' γ' w' F' p' => ⟨rfl, γ', F', p'⟩)
  | seq x y ihx ihy =>
    intro f f' σ σ' γ a w e hok R F h
    simp only [codeOk, Bool.and_eq_true] at hok
    unfold codeF at h
    refine wp_seq ?_
    split at h
    · rename_i f1 σ1 h1
      refine wp_mono (ihx hok.1 R F h1) (fun ex a1 w1 hp => ?_)
      obtain ⟨rfl, γ1, F1, p1⟩ := hp
      exact wp_mono (ihy hok.2 p1.rel (by rw [p1.base]; exact F1) h) (fun ex a2 w2 hp2 => CodePost.trans R p1 hp2)
    · rename_i hne
      refine wp_mono (ihx hok.1 R F h) (fun ex a1 w1 hp => ?_)
      obtain ⟨he, γ1, F1, p1⟩ := hp
      cases e with
      | normal => exact absurd h (hne f' σ')
      | exit i => subst he; exact ⟨rfl, γ1, F1, p1⟩
      | ret => subst he; exact ⟨rfl, γ1, F1, p1⟩
  | cond c x y ihx ihy =>
    intro f f' σ σ' γ a w e hok R F h
    simp only [codeOk, Bool.and_eq_true] at hok
    unfold codeF at h
    split at h
    · rename_i t ht
      have hv := F.eval hok.1.1
      rw [ht] at hv
      have hv' := hv.eq_of_const rfl
      refine wp_cond hv' ?_
      cases t with
      | true => exact ihx hok.1.2 R F (by simpa using h)
      | false => exact ihy hok.2 R F (by simpa using h)
    · cases h
  | block id c ih =>
    intro f f' σ σ' γ a w e hok R F h
    unfold codeF at h
    refine wp_block ?_
    split at h
    · rename_i i f1 σ1 h1
      refine wp_mono (ih hok R F h1) (fun ex a1 w1 hp => ?_)
      obtain ⟨rfl, γ1, F1, p1⟩ := hp
      simp only [AExit.conv, Exit.inBlock]
      split at h
      · rename_i hi
        injection h with h; injection h with h2 h3; injection h3 with h3 h4; subst h2; subst h3; subst h4
        rw [if_pos hi]
        exact ⟨rfl, γ1, F1, p1⟩
      · rename_i hi
        injection h with h; injection h with h2 h3; injection h3 with h3 h4; subst h2; subst h3; subst h4
        rw [if_neg hi]
        exact ⟨rfl, γ1, F1, p1⟩
    · rename_i hne
      refine wp_mono (ih hok R F h) (fun ex a1 w1 hp => ?_)
      obtain ⟨he, γ1, F1, p1⟩ := hp
      cases e with
      | normal => subst he; exact ⟨rfl, γ1, F1, p1⟩
      | exit i => exact absurd h (hne i f' σ')
      | ret => subst he; exact ⟨rfl, γ1, F1, p1⟩
  | loop c ih =>
    intro f f' σ σ' γ a w e hok R F h
    unfold codeF at h
    refine wp_loop_rounds M ?_
    have key : ∀ (n : Nat) (f1 : Fr) (σ2 : AHeap) (γ1 : Gm) (a1 : Act) (w1 : World), iter (codeF P call M c) n f1 σ2 = some (e, f', σ') → FrR σ.base γ1 f1 a1 N → Post P σ γ w σ2 γ1 w1 →
        Code.rounds P c (CodePost P σ γ w e f' σ' N) n a1 w1 := by
      intro n
      induction n with
      | zero => intro f1 σ2 γ1 a1 w1 h1; simp [iter] at h1
      | succ n ihn =>
        intro f1 σ2 γ1 a1 w1 h1 F1 p1
        rw [rounds_succ]
        unfold iter at h1
        split at h1
        · rename_i f3 σ3 h3
          refine wp_mono (ih hok p1.rel (by rw [p1.base]; exact F1) h3) (fun ex a2 w2 hp => ?_)
          obtain ⟨rfl, γ2, F2, p2⟩ := hp
          exact ihn f3 σ3 γ2 a2 w2 h1 (by rw [p1.base] at F2; exact F2) (p1.trans R p2)
        · rename_i hne
          refine wp_mono (ih hok p1.rel (by rw [p1.base]; exact F1) h1) (fun ex a2 w2 hp => ?_)
          obtain ⟨he, γ2, F2, p2⟩ := hp
          have fin : CodePost P σ γ w e f' σ' N ex a2 w2 := ⟨he, γ2, by rw [p1.base] at F2; exact F2, p1.trans R p2⟩
          cases e with
          | normal => exact absurd h1 (hne f' σ')
          | exit i => subst he; exact fin
          | ret => subst he; exact fin
    exact key M f σ γ a w h F (Post.refl R)
  | scope c ih =>
    intro f f' σ σ' γ a w e hok R F h
    unfold codeF at h
    refine wp_scope_straight (wp_mono (ih hok R F h) (fun ex a1 w1 hp => ?_))
    obtain ⟨rfl, hp⟩ := hp
    cases e <;> exact ⟨rfl, hp⟩
  | _ => intro f f' σ σ' γ a w e hok R F h; simp [codeF] at h

end
end Go.Am
