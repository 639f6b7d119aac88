/- AmY -/
import Derived.Test.YtpionejhjfmobaaDoorAmW
import Derived.Lib.LaidTab
import Derived.Sort.Grow
import Derived.Deep.Draws
set_option linter.unusedVariables false
set_option linter.unusedSimpArgs false
namespace Go.Am
/-! ### Pieces of code, by their places -/
def cl : Code → Code
  | .seq a _ | .cond _ a _ | .block _ a | .loop a | .scope a => a
  | c => c
def cr : Code → Code
  | .seq _ b | .cond _ _ b => b
  | c => c
def bodyOf (f : Func) : Code := f.body.getD .skip
def resultsOf (f : Func) : List ResultVar := f.results.toList
def fieldsOf (P : Program) (t : TypeId) : Array Field := match P.underlying t with
  | some (.struct fs) => fs
  | _ => #[]

theorem OptW.ifT {α : Type} {t : Bool} {a b : Option α} {C : α → Prop} (h : OptW (bif t then a else b) C) (e : t = true) : OptW a C := by subst e; exact h
theorem OptW.ifF {α : Type} {t : Bool} {a b : Option α} {C : α → Prop} (h : OptW (bif t then a else b) C) (e : t = false) : OptW b C := by subst e; exact h
theorem and_t {a b : Bool} (h : (a && b) = true) : a = true ∧ b = true := by simpa using h
theorem not_t {a : Bool} (h : (!a) = true) : a = false := by simpa using h
theorem gv_f {g : Bool} {v : Value} (h : g = false) : (bif g then v else undef) = undef := by subst h; rfl
theorem Fr.set_of {f g : Fr} {t : Nat} {v : Value} (hg : g = f) (h : f t = v) : g.set t v = f := by subst hg; exact Fr.set_id h

section
variable {P : Program} {f : Fr} {ops : Array Oper} {o : Oper} {j d : Nat} {b g : Bool}
theorem w_T (ho : o.guard = some (j, true)) (hj : (ops[j]?).bind (·.dst) = some d) (hd : f d = .bool b) : Region.wanted o (yieldF ops f) = b := by
  unfold Region.wanted yieldF
  rw [ho]; simp only [hj, hd]
  cases b <;> rfl
theorem w_F (ho : o.guard = some (j, false)) (hj : (ops[j]?).bind (·.dst) = some d) (hd : f d = .bool b) : Region.wanted o (yieldF ops f) = !b := by
  unfold Region.wanted yieldF
  rw [ho]; simp only [hj, hd]
  cases b <;> rfl
theorem w_gT (ho : o.guard = some (j, true)) (hj : (ops[j]?).bind (·.dst) = some d) (hd : f d = bif g then .bool b else undef) : Region.wanted o (yieldF ops f) = (g && b) := by
  unfold Region.wanted yieldF
  rw [ho]; simp only [hj, hd]
  cases g <;> cases b <;> rfl
theorem w_gF (ho : o.guard = some (j, false)) (hj : (ops[j]?).bind (·.dst) = some d) (hd : f d = bif g then .bool b else undef) : Region.wanted o (yieldF ops f) = (g && !b) := by
  unfold Region.wanted yieldF
  rw [ho]; simp only [hj, hd]
  cases g <;> cases b <;> rfl
end

def addS (a b : ByteArray) : Option ByteArray := if a.size + b.size ≤ 9223372036854775807 then some (a ++ b) else none
theorem o_saddO {P : Program} {call : CallR} {f : Fr} {σ : AHeap} {o : Oper} {x y : Operand} {t t' : TypeId} {s s' u : ByteArray} (ho : o.op = .binOp .add t x y t') (hx : ev f x = .string s) (hy : ev f y = .string s') (hc : addS s s' = some u) : opV P call f σ o = some (.string u, σ) := by
  unfold addS at hc
  split at hc
  · rename_i h; injection hc with hc; exact o_sadd ho hx hy h hc.symm
  · cases hc
end Go.Am
/- AmZ -/
set_option linter.unusedVariables false
set_option linter.unusedSimpArgs false
namespace Go.Am
def fieldAt (P : Program) (t : TypeId) (i : Nat) : Option (Nat × TypeId) := match P.underlying t with
  | some (.struct fs) => (fs[i]?).map fun f => (f.offset, f.type)
  | _ => none
def placesAt (P : Program) (t : TypeId) : Option (Array (Nat × Nat)) := match P.underlying t with
  | some (.struct fs) => aPlaces P fs
  | _ => none
def infoAt (P : Program) (e : TypeId) : Option (Option Value × Nat × Nat) := (infoOf P e).map fun i => (i.zero, i.size, i.bytes)

/-- A new block as a slice. -/
def newSl (σ : AHeap) (e : TypeId) (len : Nat) (vs : List Value) : Sl × AHeap := (⟨some ⟨σ.next, 0, none⟩, len, len⟩, σ.push (.cells vs e σ.next))
def apSl (σ : AHeap) (e : TypeId) (n b : Nat) (s x : Sl) : Option (Sl × AHeap) := (slCells σ n x).bind fun new => apC σ e n b s x.n new
def quoI (k : IntKind) (a b : Int) : Option Int := if b = 0 then none else some (k.wrap (a.tdiv b))
def remI (a b : Int) : Option Int := if b = 0 then none else some (a.tmod b)
def isP (p : Option Addr) : Option Unit := if p.isSome then some () else none
def G_bytealg_IndexByteString (s : ByteArray) (c : Int) : Option Int := some (firstIdx s c.toNat.toUInt8)

section
variable {P : Program} {f : Fr} {σ σ' : AHeap} {o : Oper} {x y z w : Operand} {k k' : IntKind} {a b c i j : Int} {s s' u : ByteArray} {p q r : Bool} {t t' e : TypeId} {v v' : Value} {call : CallR} {n m off : Nat} {A B D : Option Addr} {X Y Z : Sl}

theorem o_quoO (ho : o.op = .binOp .quo t x y t') (hx : ev f x = .int k a) (hy : ev f y = .int k b) (hc : quoI k a b = some c) : opV P call f σ o = some (.int k c, σ) := by
  unfold quoI at hc
  split at hc
  · cases hc
  · rename_i h; injection hc with hc; exact o_quo ho hx hy h hc.symm
theorem o_remO (ho : o.op = .binOp .rem t x y t') (hx : ev f x = .int k a) (hy : ev f y = .int k b) (hc : remI a b = some c) : opV P call f σ o = some (.int k c, σ) := by
  unfold remI at hc
  split at hc
  · cases hc
  · rename_i h; injection hc with hc; exact o_rem ho hx hy h hc.symm
theorem fieldAt_some (h : fieldAt P t n = some (off, e)) : ∃ fs fd, P.underlying t = some (.struct fs) ∧ fs[n]? = some fd ∧ fd.offset = off ∧ fd.type = e := by
  unfold fieldAt at h
  split at h
  · rename_i fs ht
    rw [Option.map_eq_some_iff] at h
    obtain ⟨fd, h1, h2⟩ := h
    injection h2 with h2 h3
    exact ⟨fs, fd, ht, h1, h2, h3⟩
  · cases h
theorem o_fldA (ho : o.op = .fieldAddr t x n) (hf : fieldAt P t n = some (off, e)) (hs : szOf P e = some (m + 1)) (hx : ev f x = .pointer A) (hc : offP A off = some B) : opV P call f σ o = some (.pointer B, σ) := by
  obtain ⟨fs, fd, h1, h2, h3, h4⟩ := fieldAt_some hf
  subst h3 h4
  exact o_fieldAddr ho h1 h2 hs hx hc
theorem o_fld {cs : Array Value} (ho : o.op = .field t x n) (hf : fieldAt P t n = some (off, e)) (ha : aggOf P e = some false) (hx : ev f x = .agg cs) (hc : cs[off]? = some v) : opV P call f σ o = some (v, σ) := by
  obtain ⟨fs, fd, h1, h2, h3, h4⟩ := fieldAt_some hf
  subst h3 h4
  exact o_field ho h1 h2 ha hx hc
theorem o_fldN {cs : Array Value} (ho : o.op = .field t x n) (hf : fieldAt P t n = some (off, e)) (ha : aggOf P e = some true) (hs : szOf P e = some m) (hx : ev f x = .agg cs) (hc : .agg (cs.extract off (off + m)) = v) : opV P call f σ o = some (v, σ) := by
  obtain ⟨fs, fd, h1, h2, h3, h4⟩ := fieldAt_some hf
  subst h3 h4
  exact o_fieldN ho h1 h2 ha hs hx hc
theorem o_build {parts : Array (Nat × Operand)} {ps : List (Nat × Value)} {zv : Value} {pl : Array (Nat × Nat)} {cs : Array Value} (ho : o.op = .build t parts) (hz : zeroOf P t = some zv) (hpl : placesAt P t = some pl)
    (hp : parts.toList.map (fun p => (p.1, ev f p.2)) = ps) (hn : ps.all (fun p => noTuple p.2) = true) (hf : Instr.fill (pl[·]?) zv.cells ps = some cs) : opV P call f σ o = some (.agg cs, σ) := by
  unfold placesAt at hpl
  split at hpl
  · rename_i fs hu
    rw [opV_ao (by rw [ho]; intros; simp), ho, aop]
    have e1 : (parts.map fun p => (p.1, ev f p.2)).toList = ps := by rw [Array.toList_map, hp]
    have e2 : ((parts.map fun p => (p.1, ev f p.2)).all fun p => noTuple p.2) = true := by rw [← Array.all_toList, e1]; exact hn
    simp only [aBuild, e1, e2, if_true, hz, hu, hpl, Option.bind_some, hf]; rfl
  · cases hpl
theorem o_buildSl {parts : Array (Nat × Operand)} {ps : List (Nat × Value)} {zv : Value} {cs : Array Value} {vs : List Value} (ho : o.op = .buildSlice t m parts) (ht : P.underlying t = some (.slice e)) (hs : szOf P e = some n) (hz : zeroOf P e = some zv)
    (hp : parts.toList.map (fun p => (p.1, ev f p.2)) = ps) (hn : ps.all (fun p => noTuple p.2) = true) (hl : m * n ≤ 2 ^ 24) (hf : Instr.fill (fun i => some (i * n, n)) ((List.range (m * n)).map (fun x => zv.cells[x % zv.cells.size]!)).toArray ps = some cs)
    (hv : cs.toList = vs) (hc : newSl σ e m vs = (X, σ')) : opV P call f σ o = some (X.v, σ') := by
  rw [opV_ao (by rw [ho]; intros; simp), ho, aop]
  have e1 : (parts.map fun p => (p.1, ev f p.2)).toList = ps := by rw [Array.toList_map, hp]
  have e2 : ((parts.map fun p => (p.1, ev f p.2)).all fun p => noTuple p.2) = true := by rw [← Array.all_toList, e1]; exact hn
  unfold newSl at hc
  injection hc with h1 h2
  subst h1 h2 hv
  unfold aBuildSlice
  rw [if_pos e2]
  simp only [ht, hs, hz, Option.bind_some, e1]
  have e3 : ((Array.range (m * n)).map (zv.cells[· % zv.cells.size]!)) = ((List.range (m * n)).map (fun x => zv.cells[x % zv.cells.size]!)).toArray := by
    apply Array.ext'; simp
  rw [if_pos hl, e3, hf]; rfl
theorem o_appSl {z : Value} {u : TypeDesc} (ho : o.op = .call { callee := .builtin .append, args := #[x, y], argTypes := #[t, t'] })
    (ht : P.underlying t = some (.slice e)) (hu : P.underlying t' = some u) (hk : (match u with | .int _ => false | _ => true) = true) (hi : infoAt P e = some (some z, n, m)) (hzs : z.cells.size = n) (h0 : Nat.blt 0 n = true)
    (hx : ev f x = X.v) (hy : ev f y = Y.v) (hc : apSl σ e n m X Y = some (Z, σ')) : opV P call f σ o = some (Z.v, σ') := by
  unfold infoAt at hi
  rw [Option.map_eq_some_iff] at hi
  obtain ⟨inf, hi1, hi2⟩ := hi
  simp only [Prod.mk.injEq] at hi2
  unfold apSl at hc
  rw [Option.bind_eq_some_iff] at hc
  obtain ⟨new, hnew, hc⟩ := hc
  obtain ⟨A, i', j'⟩ := Z
  exact o_app ho ht hu (by intro k hk'; subst hk'; cases hk) hi1 hi2.1 hi2.2.1 hi2.2.2 hzs (by simpa using h0) hx hy hnew hc
theorem o_nilP (ho : o.op = .nilCheck x) (hx : ev f x = .pointer A) (hc : isP A = some ()) : opV P call f σ o = some (.pointer A, σ) := by
  rw [opV_ao (by rw [ho]; intros; simp), ho, aop, hx]
  cases A with
  | none => cases hc
  | some a => rfl
theorem o_slnil (ho : o.op = .binOp .eql t x y t') (ht : P.underlying t = some (.slice e)) (hx : ev f x = X.v) (hy : ev f y = Sl.v Sl.nil) (hc : p = X.p.isNone) : opV P call f σ o = some (.bool p, σ) :=
  o_bin ho (by
    rw [hx, hy, hc]
    obtain ⟨A, n, c⟩ := X
    cases A <;> simp [aBin, aEq, Op.maxDepth, ht, Sl.v])
theorem o_slnnil (ho : o.op = .binOp .neq t x y t') (ht : P.underlying t = some (.slice e)) (hx : ev f x = X.v) (hy : ev f y = Sl.v Sl.nil) (hc : p = !X.p.isNone) : opV P call f σ o = some (.bool p, σ) :=
  o_bin ho (by
    rw [hx, hy, hc]
    obtain ⟨A, n, c⟩ := X
    cases A <;> simp [aBin, aEq, Op.maxDepth, ht, Sl.v])
theorem o_pnil (ho : o.op = .binOp .eql t x y t') (ht : P.underlying t = some (.pointer e)) (hx : ev f x = .pointer A) (hy : ev f y = .pointer none) (hc : p = A.isNone) : opV P call f σ o = some (.bool p, σ) :=
  o_bin ho (by
    rw [hx, hy, hc]
    cases A <;> simp [aBin, aEq, Op.maxDepth, ht])
theorem o_pnnil (ho : o.op = .binOp .neq t x y t') (ht : P.underlying t = some (.pointer e)) (hx : ev f x = .pointer A) (hy : ev f y = .pointer none) (hc : p = !A.isNone) : opV P call f σ o = some (.bool p, σ) :=
  o_bin ho (by
    rw [hx, hy, hc]
    cases A <;> simp [aBin, aEq, Op.maxDepth, ht])

/-! ### Texts and bytes -/
def strOf (σ : AHeap) (s : Sl) : Option ByteArray := match s.p with
  | none => some .empty
  | some a => (rd σ a s.n).bind fun cs => (bytesOfCells cs).map fun l => ⟨l.toArray⟩
def newBytes (σ : AHeap) (e : TypeId) (s : ByteArray) : Option (Sl × AHeap) := if s.size ≤ 2 ^ 47 then some (⟨some ⟨σ.next, 0, none⟩, s.size, s.size + 1⟩, σ.push (.cells (cellsOfBytes s) e σ.next)) else none
theorem o_convBS (ho : o.op = .convert t t' x) (ht : P.underlying t = some (.slice e)) (ht' : P.underlying t' = some .string) (he : P.underlying e = some (.int .u8)) (hx : ev f x = X.v) (hc : strOf σ X = some s) : opV P call f σ o = some (.string s, σ) := by
  rw [opV_ao (by rw [ho]; intros; simp), ho, aop, hx]
  obtain ⟨A, n, c⟩ := X
  cases A with
  | none => simp only [strOf] at hc; injection hc with hc; subst hc; simp only [aConv, ht, ht', Sl.v, he]
  | some a =>
    simp only [strOf, Option.bind_eq_some_iff, Option.map_eq_some_iff] at hc
    obtain ⟨cs, h1, l, h2, h3⟩ := hc
    simp only [aConv, ht, ht', Sl.v, he, h1, h2, Option.bind_some, Option.map_some, h3]
theorem o_convSB (ho : o.op = .convert t t' x) (ht : P.underlying t = some .string) (ht' : P.underlying t' = some (.slice e)) (he : P.underlying e = some (.int .u8)) (hs : szOf P e = some 1) (hx : ev f x = .string s) (hc : newBytes σ e s = some (X, σ')) : opV P call f σ o = some (X.v, σ') := by
  rw [opV_ao (by rw [ho]; intros; simp), ho, aop, hx]
  unfold newBytes at hc
  split at hc
  · rename_i h
    injection hc with hc; injection hc with h1 h2; subst h1 h2
    simp only [aConv, ht, ht', he, h, hs, and_self, if_true]; rfl
  · cases hc

/-! ### Structs that are compared -/
def eqLeaf : Value → Value → Option Bool
  | .int k a, .int k' b => if k = k' then some (decide (a = b)) else none
  | .bool a, .bool b => some (a == b)
  | .string a, .string b => some (decide (a = b))
  | _, _ => none
def eqLeaves : List Value → List Value → Option Bool
  | [], [] => some true
  | x :: xs, y :: ys => (eqLeaf x y).bind fun b => if b then eqLeaves xs ys else some false
  | _, _ => none
def kindV : Value → Nat
  | .bool _ => 1
  | .int _ _ => 2
  | .string _ => 3
  | _ => 0
def kindT (P : Program) (t : TypeId) : Nat := match P.underlying t with
  | some .bool => 1
  | some (.int _) => 2
  | some .string => 3
  | _ => 10
def flatFrom (P : Program) : List Field → Nat → List Nat → Bool
  | [], _, ks => ks == []
  | fd :: l, i, k :: ks => fd.offset == i && fd.name != "_" && kindT P fd.type == k && flatFrom P l (i + 1) ks
  | _ :: _, _, [] => false
def flatEq (P : Program) (t : TypeId) (ks : List Nat) : Bool := !P.eqGuardType P.depth t && !P.stoodInHeld t && match P.underlying t with
  | some (.struct fs) => flatFrom P fs.toList 0 ks
  | _ => false
theorem eqs_nil : eqLeaves [] [] = some true := rfl
theorem eqs_int {xs ys : List Value} {r : Bool} (h : eqLeaves xs ys = some r) : eqLeaves (.int k a :: xs) (.int k b :: ys) = some (decide (a = b) && r) := by
  simp only [eqLeaves, eqLeaf, if_true, Option.bind_some]
  cases decide (a = b) <;> simp [h]
theorem eqs_bool {xs ys : List Value} {r : Bool} (h : eqLeaves xs ys = some r) : eqLeaves (.bool p :: xs) (.bool q :: ys) = some ((p == q) && r) := by
  simp only [eqLeaves, eqLeaf, Option.bind_some]
  cases p == q <;> simp [h]
theorem eqs_str {xs ys : List Value} {r : Bool} (h : eqLeaves xs ys = some r) : eqLeaves (.string s :: xs) (.string s' :: ys) = some (decide (s = s') && r) := by
  simp only [eqLeaves, eqLeaf, Option.bind_some]
  cases decide (s = s') <;> simp [h]
theorem fold_false {fs : List Field} {g : Field → Option Bool} : fs.foldlM (m := Option) (fun (acc : Bool) f => if !acc || f.name = "_" then some acc else g f) false = some false := by
  induction fs with
  | nil => rfl
  | cons fd l ih => rw [List.foldlM_cons]; simp only [Bool.not_false, Bool.true_or, if_true]; exact ih
theorem eqs_fold {d : Nat} : ∀ {fs : List Field} {xs ys : List Value} {i : Nat} {r : Bool} {as bs : Array Value}, flatFrom P fs i (xs.map kindV) = true → eqLeaves xs ys = some r → as.toList.drop i = xs → bs.toList.drop i = ys →
    fs.foldlM (m := Option) (fun (acc : Bool) f => if !acc || f.name = "_" then some acc else (aPart P f.type as f.offset).bind fun u => (aPart P f.type bs f.offset).bind fun v => aEq P (d + 1) f.type u v) true = some r := by
  intro fs
  induction fs with
  | nil =>
    intro xs ys i r as bs hf he _ _
    have : xs = [] := by simpa [flatFrom] using hf
    subst this
    cases ys with
    | nil => exact he
    | cons y ys => cases he
  | cons fd l ih =>
    intro xs ys i r as bs hf he ha hb
    cases xs with
    | nil => cases hf
    | cons x xs =>
      cases ys with
      | nil => cases he
      | cons y ys =>
        simp only [List.map_cons, flatFrom, Bool.and_eq_true, beq_iff_eq, bne_iff_ne, ne_eq] at hf
        obtain ⟨⟨⟨h1, h2⟩, h3⟩, h4⟩ := hf
        have hai : as[i]? = some x := by
          have := congrArg List.head? ha
          rw [List.head?_drop, Array.getElem?_toList] at this; simpa using this
        have hbi : bs[i]? = some y := by
          have := congrArg List.head? hb
          rw [List.head?_drop, Array.getElem?_toList] at this; simpa using this
        have ha' : as.toList.drop (i + 1) = xs := by
          have := congrArg List.tail ha
          rw [List.tail_drop] at this; simpa using this
        have hb' : bs.toList.drop (i + 1) = ys := by
          have := congrArg List.tail hb
          rw [List.tail_drop] at this; simpa using this
        unfold eqLeaves at he
        have hE : aggOf P fd.type = some false ∧ (aEq P (d + 1) fd.type x y = eqLeaf x y ∨ eqLeaf x y = none) := by
          unfold aggOf aEq eqLeaf
          unfold kindT at h3
          split at h3
          · rename_i e; rw [e]; refine ⟨rfl, ?_⟩; cases x <;> simp [kindV] at h3; cases y <;> simp
          · rename_i e; rw [e]; refine ⟨rfl, ?_⟩; cases x <;> simp [kindV] at h3; cases y <;> simp
          · rename_i e; rw [e]; refine ⟨rfl, ?_⟩; cases x <;> simp [kindV] at h3; cases y <;> simp
          · cases x <;> simp [kindV] at h3
        obtain ⟨hg, hE⟩ := hE
        have hp : ∀ cs : Array Value, aPart P fd.type cs fd.offset = cs[i]? := by intro cs; unfold aPart; rw [hg, h1]
        rw [List.foldlM_cons]
        simp only [hp, hai, hbi, Option.bind_some]
        rcases hE with hE | hE
        · rw [hE]
          cases hx : eqLeaf x y with
          | none => rw [hx] at he; cases he
          | some b =>
            rw [hx] at he
            simp only [Option.bind_some] at he
            simp only [h2, decide_false, Bool.or_false, Bool.not_true, Bool.false_eq_true, if_false]
            cases b with
            | true => simp only [if_true] at he; exact ih h4 he ha' hb'
            | false =>
              simp only [Bool.false_eq_true, if_false] at he
              injection he with he; subst he
              exact fold_false
        · rw [hE] at he; cases he
theorem flat_eq {as bs : Array Value} {ks : List Nat} {r : Bool} (hq : flatEq P t ks = true) (hk : as.toList.map kindV = ks) (he : eqLeaves as.toList bs.toList = some r) :
    aBin P .eql t (.agg as) (.agg bs) = some (.bool r) ∧ aBin P .neq t (.agg as) (.agg bs) = some (.bool !r) := by
  unfold flatEq at hq
  simp only [Bool.and_eq_true, Bool.not_eq_true'] at hq
  obtain ⟨⟨h1, h2⟩, h3⟩ := hq
  split at h3
  · rename_i fs hu
    have key : aEq P Op.maxDepth t (.agg as) (.agg bs) = some r := by
      unfold Op.maxDepth aEq
      simp only [hu, h2, Bool.false_eq_true, if_false]
      subst hk
      exact eqs_fold h3 he (by simp) (by simp)
    unfold aBin
    simp only [h1, Bool.false_eq_true, if_false, key, Option.map_some, and_self]
  · cases h3
theorem o_aeql {as bs : Array Value} {ks : List Nat} (ho : o.op = .binOp .eql t x y t') (hq : flatEq P t ks = true) (hx : ev f x = .agg as) (hy : ev f y = .agg bs) (hk : as.toList.map kindV = ks) (he : eqLeaves as.toList bs.toList = some p) : opV P call f σ o = some (.bool p, σ) :=
  o_bin ho (by rw [hx, hy]; exact (flat_eq hq hk he).1)
theorem o_aneq {as bs : Array Value} {ks : List Nat} (ho : o.op = .binOp .neq t x y t') (hq : flatEq P t ks = true) (hx : ev f x = .agg as) (hy : ev f y = .agg bs) (hk : as.toList.map kindV = ks) (he : eqLeaves as.toList bs.toList = some q) (hc : p = !q) : opV P call f σ o = some (.bool p, σ) :=
  o_bin ho (by rw [hx, hy, hc]; exact (flat_eq hq hk he).2)

/-! ### Drawn regions -/
def opsIn : Code → Array Oper
  | .region _ ops _ => ops
  | _ => #[]
def opA (ops : Array Oper) (i : Nat) : Oper := ops.getD i default
variable {ops : Array Oper} {ps : List (Nat × AHeap)} {ix : Nat}
theorem reads_no (h : (clsOf o.op == .read) = false) : readsOk P ops f o ix v ps := by
  intro hr; rw [hr] at h; cases h
theorem reads_nil : readsOk P ops f o ix v [] := by intro _ p hp; cases hp
theorem reads_ord {j : Nat} {τ : AHeap} (h : orderedIn ops j ix = true) (hr : readsOk P ops f o ix v ps) : readsOk P ops f o ix v ((j, τ) :: ps) := by
  intro hc p hp
  rcases List.mem_cons.1 hp with rfl | hp
  · exact .inl h
  · exact hr hc p hp
theorem reads_at {j : Nat} {τ : AHeap} (h : opV P call f τ o = some (v, τ)) (hr : readsOk P ops f o ix v ps) : readsOk P ops f o ix v ((j, τ) :: ps) := by
  intro hc p hp
  rcases List.mem_cons.1 hp with rfl | hp
  · right
    rw [opV_ao] at h
    · exact h
    · intro g args ats ho; rw [ho] at hc; cases hc
  · exact hr hc p hp

/-! ### Results -/
def resVs (P : Program) (f : Fr) (σ : AHeap) : List ResultVar → Option (List Value)
  | [] => some []
  | r :: l => (resultV P f σ r).bind fun v => (resVs P f σ l).map (v :: ·)
variable {rs : List ResultVar} {vs : List Value} {r : ResultVar} {at' : Nat}
theorem resVs_nil : resVs P f σ [] = some [] := rfl
theorem resVs_cons (h : resultV P f σ r = some v) (hl : resVs P f σ rs = some vs) : resVs P f σ (r :: rs) = some (v :: vs) := by
  unfold resVs; rw [h, hl]; rfl
theorem resVs_mapM : rs.mapM (m := Option) (resultV P f σ) = resVs P f σ rs := by
  induction rs with
  | nil => rfl
  | cons a l ih =>
    rw [List.mapM_cons, ih]
    cases h1 : resultV P f σ a <;> cases h2 : resVs P f σ l <;> simp [resVs, h1, h2]
theorem resL_one (h : resultV P f σ r = some v) : resL P [r] f σ = some v := h
theorem resL_of (h : resVs P f σ rs = some vs) (hn : Nat.beq rs.length 1 = false) : resL P rs f σ = some (.tuple vs.toArray) := by
  unfold resL
  split
  · rename_i r; cases hn
  · rw [resVs_mapM, h]; rfl
theorem res_cell1 (ht : aggOf P t = some false) (hx : f at' = .pointer A) (hc : ldN σ A 1 = some [v]) : resultV P f σ (.cell at' t) = some v := by
  show aLoad P σ t (f at') = _
  rw [hx]
  cases A with
  | none => cases hc
  | some a => simp only [ldN, Option.bind_some] at hc; simp only [aLoad, ht, hc]; rfl
theorem res_cellN {cs : List Value} (ht : aggOf P t = some true) (hs : szOf P t = some n) (hx : f at' = .pointer A) (hc : ldN σ A n = some cs) : resultV P f σ (.cell at' t) = some (.agg cs.toArray) := by
  show aLoad P σ t (f at') = _
  rw [hx]
  cases A with
  | none => cases hc
  | some a => simp only [ldN, Option.bind_some] at hc; simp only [aLoad, ht, hs, Option.bind_some, hc]; rfl

theorem callL_indexByte {g : FuncId} {fn : Func} (hfn : P.funcs[g]? = some fn) (hb : fn.body = none) (hn : fn.name = "internal/bytealg.IndexByteString") {ri : Int} (h : G_bytealg_IndexByteString s c = some ri) : callL P g [.string s, .int .u8 c] σ = some (.int .i64 ri, σ) := by
  refine callL_extern hfn hb ?_
  unfold G_bytealg_IndexByteString at h
  injection h with h
  simp only [externF, hn, if_true, h]
end
end Go.Am
/- AmZ1 -/
set_option linter.unusedVariables false
set_option linter.unusedSimpArgs false
namespace Go.Am
/-- Two places of one block. -/
def eqP (A B : Option Addr) : Option Bool := match A, B with
  | none, b => some b.isNone
  | some _, none => some false
  | some a, some b => if a.block = b.block then some (decide (a = b)) else none
/-- A pointer to memory, as a plain one, and back. -/
def toU (σ : AHeap) (A : Option Addr) : Option (Option Addr) := A.bind fun a => if (rd σ a 1).isSome then some (some a) else none
def fromU (σ : AHeap) (u : TypeId) (n : Nat) (A : Option Addr) : Option (Option Addr) := A.bind fun a =>
  if a.block < σ.base then none else
  match σ.get a.block with
  | .cells c e _ => if e = u ∧ a.off = 0 ∧ a.spot = none ∧ n ≤ c.length then some (some a) else none
  | _ => none
def dataS (s : Sl) : Option (Option Addr) := match s.p with
  | none => some none
  | some a => if 0 < s.n then some (some a) else none
/-- A text that shares memory: the memory is given up. -/
def strU (σ : AHeap) (e : TypeId) (A : Option Addr) (m : Int) : Option (ByteArray × AHeap) :=
  match A with
  | none => if m = 0 then some (.empty, σ) else none
  | some a =>
    if a.spot = none ∧ ¬ a.block < σ.base ∧ 0 < m ∧ m ≤ 9223372036854775807 then
      match σ.get a.block with
      | .cells c el ch => if el = e ∧ a.off + m.toNat ≤ c.length then
          (bytesOfCells ((c.drop a.off).take m.toNat)).map fun l => (⟨l.toArray⟩, (σ.kill ch a.block 0).put a.block .dead)
        else none
      | _ => none
    else none
/-- The bytes of a text are appended. -/
def apStr (σ : AHeap) (e : TypeId) (s : Sl) (u : ByteArray) : Option (Sl × AHeap) := apC σ e 1 1 s u.size (cellsOfBytes u)
section
variable {P : Program} {f : Fr} {σ σ' : AHeap} {o : Oper} {x y z w : Operand} {k k' : IntKind} {a b c i j : Int} {s s' u : ByteArray} {p q r : Bool} {t t' e : TypeId} {v v' : Value} {call : CallR} {n m : Nat} {A B D : Option Addr} {X Y : Sl}
theorem aEq_ptr (ht : P.underlying t = some (.pointer e)) (hs : szOf P e = some (n + 1)) (hc : eqP A B = some p) : aEq P (Op.maxDepth) t (.pointer A) (.pointer B) = some p := by
  unfold eqP at hc
  cases A with
  | none => injection hc with hc; subst hc; simp [aEq, Op.maxDepth, ht]
  | some a =>
    cases B with
    | none => injection hc with hc; subst hc; simp [aEq, Op.maxDepth, ht]
    | some b =>
      simp only at hc
      split at hc
      · rename_i hb; injection hc with hc; subst hc; simp [aEq, Op.maxDepth, ht, hs, hb]
      · cases hc
theorem o_peql (ho : o.op = .binOp .eql t x y t') (ht : P.underlying t = some (.pointer e)) (hs : szOf P e = some (n + 1)) (hx : ev f x = .pointer A) (hy : ev f y = .pointer B) (hc : eqP A B = some p) : opV P call f σ o = some (.bool p, σ) :=
  o_bin ho (by rw [hx, hy]; show (aEq P Op.maxDepth t (.pointer A) (.pointer B)).map Value.bool = _; rw [aEq_ptr ht hs hc]; rfl)
theorem o_pneq (ho : o.op = .binOp .neq t x y t') (ht : P.underlying t = some (.pointer e)) (hs : szOf P e = some (n + 1)) (hx : ev f x = .pointer A) (hy : ev f y = .pointer B) (hc : eqP A B = some q) (hp : p = !q) : opV P call f σ o = some (.bool p, σ) :=
  o_bin ho (by rw [hx, hy, hp]; show (aEq P Op.maxDepth t (.pointer A) (.pointer B)).map (fun r => Value.bool !r) = _; rw [aEq_ptr ht hs hc]; rfl)
theorem o_toU (ho : o.op = .convert t t' x) (ht : P.underlying t = some (.pointer e)) (ht' : P.underlying t' = some .unsafePointer) (hs : szOf P e = some (n + 1)) (hx : ev f x = .pointer A) (hc : toU σ A = some B) : opV P call f σ o = some (.pointer B, σ) := by
  rw [opV_ao (by rw [ho]; intros; simp), ho, aop, hx]
  cases A with
  | none => cases hc
  | some a =>
    simp only [toU, Option.bind_some] at hc
    split at hc
    · rename_i h; injection hc with hc; subst hc
      simp only [aConv, ht, ht', hs, h, if_true]
    · cases hc
theorem o_fromU (ho : o.op = .convert t t' x) (ht : P.underlying t = some .unsafePointer) (ht' : P.underlying t' = some (.pointer e)) (hs : szOf P e = some (n + 1)) (hx : ev f x = .pointer A) (hc : fromU σ e (n + 1) A = some B) : opV P call f σ o = some (.pointer B, σ) := by
  rw [opV_ao (by rw [ho]; intros; simp), ho, aop, hx]
  cases A with
  | none => cases hc
  | some a =>
    simp only [fromU, Option.bind_some] at hc
    split at hc
    · cases hc
    · rename_i hb
      split at hc
      · rename_i c el ch hg
        split at hc
        · rename_i h; injection hc with hc; subst hc
          simp only [aConv, ht, ht', hs, hg, if_neg hb]
          rw [if_pos h]
        · cases hc
      · cases hc
theorem o_dataS (ho : o.op = .call { callee := .builtin .unsafeSliceData, args := #[x], argTypes := #[t] }) (hx : ev f x = X.v) (hc : dataS X = some B) : opV P call f σ o = some (.pointer B, σ) := by
  rw [opV_ao (by rw [ho]; intros; simp), ho, aop]
  have h1 : (#[x].map (ev f)).toList = [X.v] := by simp [hx]
  simp only [aBuiltin, h1]
  obtain ⟨pp, nn, cc⟩ := X
  unfold dataS at hc
  cases pp with
  | none => injection hc with hc; subst hc; simp [aSliceData, Sl.v]
  | some a =>
    simp only at hc
    split at hc
    · rename_i h; injection hc with hc; subst hc; simp [aSliceData, Sl.v, h]
    · cases hc
theorem o_strU (ho : o.op = .call { callee := .builtin .unsafeString, args := #[x, y], argTypes := #[t, t'] }) (ht : P.underlying t = some (.pointer e)) (hs : szOf P e = some 1) (hx : ev f x = .pointer A) (hy : ev f y = .int k a) (hc : strU σ e A a = some (s, σ')) : opV P call f σ o = some (.string s, σ') := by
  rw [opV_ao (by rw [ho]; intros; simp), ho, aop]
  have h1 : (#[x, y].map (ev f)).toList = [.pointer A, .int k a] := by simp [hx, hy]
  simp only [aBuiltin, h1]
  unfold strU at hc
  cases A with
  | none =>
    simp only at hc
    split at hc
    · rename_i h
      injection hc with hc; injection hc with h2 h3; subst h2 h3
      simp [aUnsafeString, h]
    · cases hc
  | some ad =>
    simp only at hc
    split at hc
    · rename_i h
      obtain ⟨g1, g2, g3, g4⟩ := h
      split at hc
      · rename_i c el ch hg
        split at hc
        · rename_i hh
          rw [Option.map_eq_some_iff] at hc
          obtain ⟨l, hl, he⟩ := hc
          injection he with h2 h3; subst h2 h3
          simp only [aUnsafeString, ht]
          rw [if_pos ⟨g1, g2, g3, g4, hs⟩]
          simp only [hg]
          rw [if_pos hh, hl]
          rfl
        · cases hc
      · cases hc
    · cases hc
theorem extract_all (s : ByteArray) : s.extract 0 s.size = s := by
  apply ByteArray.ext
  rw [ByteArray.data_extract]
  exact Array.extract_size
theorem o_appS {i' j' : Nat} {z : Value} {inf : TypeInfo} {u' : TypeDesc} (ho : o.op = .call { callee := .builtin .append, args := #[x, y], argTypes := #[t, t'] })
    (ht : P.underlying t = some (.slice e)) (hu : P.underlying t' = some u') (hk : ∀ k, u' ≠ .int k) (hi : infoOf P e = some inf) (hz : inf.zero = some z) (hn : inf.size = 1) (hb : inf.bytes = 1) (hzs : z.cells.size = 1)
    (hx : ev f x = X.v) (hy : ev f y = .string s) (hc : apStr σ e X s = some (⟨A, i', j'⟩, σ')) : opV P call f σ o = some (.slice A i' j', σ') :=
  o_appG ho ht hu hk hi hz hn hb hzs (by omega) hx hy (mm := s.size) rfl (by simp only [firstOf]; rw [extract_all]) hc
theorem callL_noEscape {g : FuncId} {fn : Func} (hfn : P.funcs[g]? = some fn) (hb : fn.body = none) (hn : fn.name = "internal/abi.NoEscape") : callL P g [.pointer A] σ = some (.pointer A, σ) :=
  callL_extern hfn hb (by simp only [externF, hn, if_true])
theorem o_appSt {z : Value} {u' : TypeDesc} (ho : o.op = .call { callee := .builtin .append, args := #[x, y], argTypes := #[t, t'] })
    (ht : P.underlying t = some (.slice e)) (hu : P.underlying t' = some u') (hk : (match u' with | .int _ => false | _ => true) = true) (hi : infoAt P e = some (some z, 1, 1)) (hzs : z.cells.size = 1)
    (hx : ev f x = X.v) (hy : ev f y = .string s) (hc : apStr σ e X s = some (Y, σ')) : opV P call f σ o = some (Y.v, σ') := by
  unfold infoAt at hi
  rw [Option.map_eq_some_iff] at hi
  obtain ⟨inf, hi1, hi2⟩ := hi
  simp only [Prod.mk.injEq] at hi2
  obtain ⟨A, i', j'⟩ := Y
  exact o_appS ho ht hu (by intro k hk'; subst hk'; cases hk) hi1 hi2.1 hi2.2.1 hi2.2.2 hzs hx hy hc
end
section
variable {P : Program} {call : CallR} {ops : Array Oper}
theorem drawF_weaken : ∀ {l : List (Oper × Nat)} {ps ps' : List (Nat × AHeap)} {f : Fr} {σ : AHeap} {r : Fr × AHeap}, (∀ p ∈ ps, p ∈ ps') → drawF P call ops l ps' f σ = some r → drawF P call ops l ps f σ = some r := by
  intro l
  induction l with
  | nil => intro ps ps' f σ r _ h; exact h
  | cons oi l ih =>
    obtain ⟨o, i⟩ := oi
    intro ps ps' f σ r hs h
    unfold drawF at h ⊢
    split at h
    · rename_i hw
      rw [if_pos hw]
      cases hc : clsOf o.op with
      | act =>
        simp only [hc] at h ⊢
        rw [Option.bind_eq_some_iff] at h ⊢
        obtain ⟨q, h1, h2⟩ := h
        exact ⟨q, h1, ih (fun p hp => by rcases List.mem_cons.1 hp with h | h; exact List.mem_cons.2 (.inl h); exact List.mem_cons.2 (.inr (hs p h))) h2⟩
      | read =>
        simp only [hc] at h ⊢
        rw [Option.bind_eq_some_iff] at h ⊢
        obtain ⟨q, h1, h2⟩ := h
        refine ⟨q, h1, ?_⟩
        split at h2
        · rename_i hq
          rw [if_pos (fun p hp => hq p (hs p hp))]
          exact ih hs h2
        · cases h2
      | pure =>
        simp only [hc] at h ⊢
        rw [Option.bind_eq_some_iff] at h ⊢
        obtain ⟨q, h1, h2⟩ := h
        exact ⟨q, h1, ih hs h2⟩
      | alloc =>
        simp only [hc] at h ⊢
        rw [Option.bind_eq_some_iff] at h ⊢
        obtain ⟨q, h1, h2⟩ := h
        exact ⟨q, h1, ih hs h2⟩
    · rename_i hw
      rw [if_neg hw]
      exact ih hs h
end
section
variable {P : Program} {rs : List ResultVar} {ops : Array Oper} {op : Op} {d ty i : Nat} {pos : String} {af : Array Edge} {g : Option (Nat × Bool)} {ld : List (Oper × Nat)} {ps : List (Nat × AHeap)} {k : List KI} {f : Fr} {σ σ' : AHeap} {v : Value} {r : Value × AHeap}
theorem Rd_weaken {l : List (Oper × Nat)} {ps' : List (Nat × AHeap)} (hs : ∀ p ∈ ps, p ∈ ps') (h : Rd P rs ops l ps' k f σ = some r) : Rd P rs ops l ps k f σ = some r := by
  unfold Rd at h ⊢
  cases hd : drawF P (callL P) ops l ps' f σ with
  | none => rw [hd] at h; cases h
  | some q => rw [hd] at h; rw [drawF_weaken hs hd]; exact h
/-- A guarded step that acts: behind it, as if it had acted. -/
theorem Rd_setA {t : Bool} {o : Oper} (ho : o = ⟨some d, op, ty, pos, af, g⟩) (hw : Region.wanted o (yieldF ops f) = t) (hv : t = true → opV P (callL P) f σ o = some (v, σ')) (hn : t = false → v = undef ∧ σ' = σ)
    (hp : (clsOf o.op == .act) = true) (h : Rd P rs ops ld ((i, σ) :: ps) k (f.set d v) σ' = some r) : Rd P rs ops ((o, i) :: ld) ps k f σ = some r :=
  Rd_act ho hw hv hn (by simpa using hp) (fun _ => h) (fun _ => Rd_weaken (fun p hp => List.mem_cons.2 (.inr hp)) h)
end
end Go.Am
/- AmZ2 -/
set_option linter.unusedVariables false
set_option linter.unusedSimpArgs false
namespace Go.Am
def andI (k : IntKind) (a b : Int) : Int := k.wrap (BitVec.ofInt k.bits a &&& BitVec.ofInt k.bits b).toNat
def orI (k : IntKind) (a b : Int) : Int := k.wrap (BitVec.ofInt k.bits a ||| BitVec.ofInt k.bits b).toNat
def xorI (k : IntKind) (a b : Int) : Int := k.wrap (BitVec.ofInt k.bits a ^^^ BitVec.ofInt k.bits b).toNat
def andNotI (k : IntKind) (a b : Int) : Int := k.wrap (BitVec.ofInt k.bits a &&& ~~~(BitVec.ofInt k.bits b)).toNat
def shlI (k : IntKind) (a b : Int) : Option Int := if b < 0 then none else some (k.wrap (a * 2 ^ (min b.toNat k.bits)))
def shrI (k : IntKind) (a b : Int) : Option Int := if b < 0 then none else some (a.fdiv (2 ^ (min b.toNat k.bits)))
section
variable {P : Program} {f : Fr} {σ σ' : AHeap} {o : Oper} {x y : Operand} {k k' : IntKind} {a b c : Int} {t t' : TypeId} {call : CallR}
theorem o_and (ho : o.op = .binOp .and t x y t') (hx : ev f x = .int k a) (hy : ev f y = .int k b) (hc : c = andI k a b) : opV P call f σ o = some (.int k c, σ) :=
  o_bin ho (by rw [hx, hy, hc]; simp [aBin, aInt, andI])
theorem o_or (ho : o.op = .binOp .or t x y t') (hx : ev f x = .int k a) (hy : ev f y = .int k b) (hc : c = orI k a b) : opV P call f σ o = some (.int k c, σ) :=
  o_bin ho (by rw [hx, hy, hc]; simp [aBin, aInt, orI])
theorem o_xor (ho : o.op = .binOp .xor t x y t') (hx : ev f x = .int k a) (hy : ev f y = .int k b) (hc : c = xorI k a b) : opV P call f σ o = some (.int k c, σ) :=
  o_bin ho (by rw [hx, hy, hc]; simp [aBin, aInt, xorI])
theorem o_andNot (ho : o.op = .binOp .andNot t x y t') (hx : ev f x = .int k a) (hy : ev f y = .int k b) (hc : c = andNotI k a b) : opV P call f σ o = some (.int k c, σ) :=
  o_bin ho (by rw [hx, hy, hc]; simp [aBin, aInt, andNotI])
theorem o_shl (ho : o.op = .binOp .shl t x y t') (hx : ev f x = .int k a) (hy : ev f y = .int k' b) (hc : shlI k a b = some c) : opV P call f σ o = some (.int k c, σ) :=
  o_bin ho (by
    rw [hx, hy]
    unfold shlI at hc
    split at hc
    · cases hc
    · rename_i hb; injection hc with hc; simp [aBin, aShift, hb, hc])
theorem o_shr (ho : o.op = .binOp .shr t x y t') (hx : ev f x = .int k a) (hy : ev f y = .int k' b) (hc : shrI k a b = some c) : opV P call f σ o = some (.int k c, σ) :=
  o_bin ho (by
    rw [hx, hy]
    unfold shrI at hc
    split at hc
    · cases hc
    · rename_i hb; injection hc with hc; simp [aBin, aShift, hb, hc])
end
end Go.Am
/- AmZ3 -/
set_option linter.unusedVariables false
set_option linter.unusedSimpArgs false
namespace Go.Am
/-- A package's table of whole numbers, in its block. -/
def TabAt (g : Nat) (k : IntKind) (zs : List Int) (W : World) : Prop := ∃ t fz, W.heap[g]? = some (.cells (zs.map fun z => Value.int k z).toArray t fz)
theorem tabAt_of_is {P : Program} {w : World} {name : String} {k : IntKind} {zs : List Int} {g : Nat} (hg : P.globalNamed name = some g) (h : Lib.TabIs P w name k zs) : TabAt g k zs w := by
  unfold Lib.TabIs World.var? at h
  rw [hg, Option.bind_some] at h
  split at h
  · rename_i cs t fz hc
    injection h with h
    subst h
    exact ⟨t, fz, hc⟩
  · cases h
theorem tabIs_of {P : Program} {w : World} {name : String} {k : IntKind} {zs : List Int} {g : Nat} (hg : P.globalNamed name = some g) (h : TabAt g k zs w) : Lib.TabIs P w name k zs := by
  obtain ⟨t, fz, hc⟩ := h
  unfold Lib.TabIs World.var?
  rw [hg, Option.bind_some, hc]
theorem TabAt.same {g : Nat} {k : IntKind} {zs : List Int} {W w : World} (h : TabAt g k zs W) (hs : ∀ i, i < W.heap.size → w.heap[i]? = W.heap[i]?) : TabAt g k zs w := by
  obtain ⟨t, fz, hc⟩ := h
  exact ⟨t, fz, (hs g (Array.getElem?_eq_some_iff.1 hc).1).trans hc⟩
theorem quiet_grow {w : World} {k : Nat} {os : Array Obj} : QuietW w (Go.Sort.grow (w.drewN k) os) := by
  refine ⟨rfl, rfl, rfl, ?_, fun i hi => ?_⟩
  · show w.heap.size ≤ (w.heap ++ os).size
    simp
  · show (w.heap ++ os)[i]? = _
    rw [Array.getElem?_append_left hi]
open Classical in
noncomputable def itoaT (g : Nat) (n : Int) (σ : AHeap) : Option ByteArray := if -9223372036854775808 ≤ n ∧ n ≤ 9223372036854775807 ∧ TabAt g .u64 Lib.pow10Tab σ.old then some (itoaS n) else none
theorem callL_itoa {P : Program} {g : FuncId} {fn : Func} {c : Code} (hfn : P.funcs[g]? = some fn) (hb : fn.body = some c) (hn : fn.name = "strconv.Itoa") {gn : Nat} (hg : P.globalNamed "internal/strconv.uint64pow10" = some gn)
    (hI : ∀ n : Int, -9223372036854775808 ≤ n → n ≤ 9223372036854775807 → ∀ w, Lib.TabIs P w "internal/strconv.uint64pow10" .u64 Lib.pow10Tab →
      Calls P g #[.int .i64 n] w fun e w' => e = .returned (.string ⟨(Lib.itoa n).toArray⟩) ∧ ∃ k os, w' = Go.Sort.grow (w.drewN k) os)
    {n : Int} {σ : AHeap} {r : ByteArray} (h : itoaT gn n σ = some r) : callL P g [.int .i64 n] σ = some (.string r, σ) := by
  unfold itoaT at h
  split at h
  · rename_i hc
    injection h with h; subst h
    obtain ⟨h0, h1, ht⟩ := hc
    refine callL_known hfn hb (by rw [hn]; rfl) (by rw [hn]; rfl) ?_
    intro w hsz hsame
    refine (hI n h0 h1 w (tabIs_of hg (ht.same hsame))).mono ?_
    rintro e w' ⟨rfl, k, os, rfl⟩
    exact ⟨rfl, quiet_grow⟩
  · cases h
end Go.Am
