/- One operation, with typed values: one lemma for each kind. -/
import Derived.Test.YtfblbkmmjidknaaAmW
set_option linter.unusedVariables false
set_option linter.unusedSimpArgs false
namespace Go.Am

/-! ### Plain words -/
structure Sl where
  p : Option Addr
  n : Nat
  c : Nat
def Sl.v (s : Sl) : Value := .slice s.p s.n s.c
abbrev Sl.nil : Sl := ⟨none, 0, 0⟩

def idxS (s : ByteArray) (i : Int) : Option Int := if h : 0 ≤ i ∧ i.toNat < s.size then some ((s[i.toNat]'h.2).toNat : Int) else none
def slS (s : ByteArray) (lo hi : Option Int) : Option ByteArray :=
  let l := lo.getD 0
  let h := hi.getD s.size
  if 0 ≤ l ∧ l ≤ h ∧ h ≤ s.size then some (s.extract l.toNat h.toNat) else none
def lessS (a b : ByteArray) : Bool := Op.bytesLess a.toList b.toList
/-- The cells behind an address. -/
def ldN (σ : AHeap) (p : Option Addr) (n : Nat) : Option (List Value) := p.bind fun a => rd σ a n
def stN (σ : AHeap) (p : Option Addr) (vs : List Value) : Option AHeap := p.bind fun a => wr σ a vs
def offP (p : Option Addr) (n : Nat) : Option (Option Addr) := p.bind fun a => if a.spot = none then some (some ⟨a.block, a.off + n, none⟩) else none
def iaSl (s : Sl) (n : Nat) (i : Int) : Option (Option Addr) := s.p.bind fun a => if a.spot = none ∧ 0 ≤ i ∧ i < s.n then some (some ⟨a.block, a.off + i.toNat * n, none⟩) else none
def iaAr (p : Option Addr) (len n : Nat) (i : Int) : Option (Option Addr) := p.bind fun a => if a.spot = none ∧ 0 ≤ i ∧ i < len then some (some ⟨a.block, a.off + i.toNat * n, none⟩) else none
/-- A block of such elements, or an old one. -/
def elemOk (σ : AHeap) (e : TypeId) (b : Nat) : Bool := decide (b < σ.base) || match σ.get b with
  | .cells _ e' _ => decide (e' = e)
  | _ => false
def slSl (σ : AHeap) (e : TypeId) (n : Nat) (s : Sl) (lo hi : Option Int) : Option Sl :=
  let l := lo.getD 0
  let h := hi.getD s.n
  match s.p with
  | none => if l = 0 ∧ h = 0 then some Sl.nil else none
  | some a => if 0 ≤ l ∧ l ≤ h ∧ h ≤ s.n ∧ a.spot = none ∧ elemOk σ e a.block = true then
      some ⟨some ⟨a.block, a.off + l.toNat * n, none⟩, h.toNat - l.toNat, if a.block < σ.base then s.c - l.toNat else if s.c = s.n ∧ h.toNat = s.n then h.toNat - l.toNat else h.toNat - l.toNat + 1⟩
    else none
def newC (σ : AHeap) (e : TypeId) (vs : List Value) : Option Addr × AHeap := (some ⟨σ.next, 0, none⟩, σ.push (.cells vs e σ.next))
/-- The elements of a slice, as cells. -/
def slCells (σ : AHeap) (n : Nat) (s : Sl) : Option (List Value) :=
  match s.p with
  | none => some []
  | some a => if s.n * n = 0 then some [] else rd σ a (s.n * n)
/-- append, at elements of n cells and b bytes. -/
def apC (σ : AHeap) (e : TypeId) (n b : Nat) (s : Sl) (m : Nat) (new : List Value) : Option (Sl × AHeap) :=
  (slCells σ n s).bind fun old =>
    if m = 0 then some (s, σ) else
    if (s.n + m) * (b + 1) ≤ 2 ^ 46 ∧ s.n * n = old.length ∧ m * n = new.length then
      let res : Sl := ⟨some ⟨σ.next, 0, none⟩, s.n + m, s.n + m + 1⟩
      match s.p with
      | none => some (res, σ.push (.cells (old ++ new) e σ.next))
      | some a =>
        if s.c = s.n then some (res, σ.push (.cells (old ++ new) e σ.next))
        else if a.block < σ.base then none
        else
          match σ.get a.block with
          | .cells _ e' ch =>
            if e' = e then
              if a.off = 0 then some (res, (σ.kill ch σ.next (s.n * n)).push (.cells (old ++ new) e ch))
              else some (res, (σ.kill ch σ.next 0).push (.cells (old ++ new) e σ.next))
            else none
          | _ => none
    else none

section
variable {P : Program} {f : Fr} {σ σ' : AHeap} {o : Oper} {x y z w : Operand} {k k' : IntKind} {a b c i j : Int} {s s' u : ByteArray} {p q r : Bool} {t t' e : TypeId} {v v' : Value} {call : CallR} {n m : Nat} {A B D : Option Addr} {X Y : Sl}

theorem opV_ao (h : ∀ g args ats, o.op ≠ .call { callee := .value g, args := args, argTypes := ats }) : opV P call f σ o = aop P f σ o.op := by
  unfold opV
  split
  · rename_i g args ats ho; exact absurd ho (h _ _ _)
  · rfl

theorem o_move (ho : o.op = .move x) (hx : ev f x = v) : opV P call f σ o = some (v, σ) := by
  rw [opV_ao (by rw [ho]; intros; simp), ho, aop, hx]
theorem o_assign (ho : o.op = .assign x) (hx : ev f x = v) : opV P call f σ o = some (v, σ) := by
  rw [opV_ao (by rw [ho]; intros; simp), ho, aop, hx]
theorem o_pick (ho : o.op = .pick x y z) (hx : ev f x = .bool p) (hy : p = true → ev f y = v) (hz : p = false → ev f z = v) : opV P call f σ o = some (v, σ) := by
  rw [opV_ao (by rw [ho]; intros; simp), ho, aop, hx]
  cases p with
  | true => simp [hy rfl]
  | false => simp [hz rfl]

theorem o_bin {op : BinOp} (ho : o.op = .binOp op t x y t') (hb : aBin P op t (ev f x) (ev f y) = some v) : opV P call f σ o = some (v, σ) := by
  rw [opV_ao (by rw [ho]; intros; simp), ho, aop, hb]; rfl
theorem o_add (ho : o.op = .binOp .add t x y t') (hx : ev f x = .int k a) (hy : ev f y = .int k b) (hc : c = k.wrap (a + b)) : opV P call f σ o = some (.int k c, σ) :=
  o_bin ho (by rw [hx, hy, hc]; simp [aBin, aInt])
theorem o_sub (ho : o.op = .binOp .sub t x y t') (hx : ev f x = .int k a) (hy : ev f y = .int k b) (hc : c = k.wrap (a - b)) : opV P call f σ o = some (.int k c, σ) :=
  o_bin ho (by rw [hx, hy, hc]; simp [aBin, aInt])
theorem o_mul (ho : o.op = .binOp .mul t x y t') (hx : ev f x = .int k a) (hy : ev f y = .int k b) (hc : c = k.wrap (a * b)) : opV P call f σ o = some (.int k c, σ) :=
  o_bin ho (by rw [hx, hy, hc]; simp [aBin, aInt])
theorem o_quo (ho : o.op = .binOp .quo t x y t') (hx : ev f x = .int k a) (hy : ev f y = .int k b) (hb : b ≠ 0) (hc : c = k.wrap (a.tdiv b)) : opV P call f σ o = some (.int k c, σ) :=
  o_bin ho (by rw [hx, hy, hc]; simp [aBin, aInt, hb])
theorem o_rem (ho : o.op = .binOp .rem t x y t') (hx : ev f x = .int k a) (hy : ev f y = .int k b) (hb : b ≠ 0) (hc : c = a.tmod b) : opV P call f σ o = some (.int k c, σ) :=
  o_bin ho (by rw [hx, hy, hc]; simp [aBin, aInt, hb])
theorem o_eql (ho : o.op = .binOp .eql t x y t') (hx : ev f x = .int k a) (hy : ev f y = .int k b) (hc : p = decide (a = b)) : opV P call f σ o = some (.bool p, σ) :=
  o_bin ho (by rw [hx, hy, hc]; simp [aBin, aInt])
theorem o_neq (ho : o.op = .binOp .neq t x y t') (hx : ev f x = .int k a) (hy : ev f y = .int k b) (hc : p = decide (a ≠ b)) : opV P call f σ o = some (.bool p, σ) :=
  o_bin ho (by rw [hx, hy, hc]; simp [aBin, aInt])
theorem o_lss (ho : o.op = .binOp .lss t x y t') (hx : ev f x = .int k a) (hy : ev f y = .int k b) (hc : p = decide (a < b)) : opV P call f σ o = some (.bool p, σ) :=
  o_bin ho (by rw [hx, hy, hc]; simp [aBin, aInt])
theorem o_leq (ho : o.op = .binOp .leq t x y t') (hx : ev f x = .int k a) (hy : ev f y = .int k b) (hc : p = decide (a ≤ b)) : opV P call f σ o = some (.bool p, σ) :=
  o_bin ho (by rw [hx, hy, hc]; simp [aBin, aInt])
theorem o_gtr (ho : o.op = .binOp .gtr t x y t') (hx : ev f x = .int k a) (hy : ev f y = .int k b) (hc : p = decide (b < a)) : opV P call f σ o = some (.bool p, σ) :=
  o_bin ho (by rw [hx, hy, hc]; simp [aBin, aInt])
theorem o_geq (ho : o.op = .binOp .geq t x y t') (hx : ev f x = .int k a) (hy : ev f y = .int k b) (hc : p = decide (b ≤ a)) : opV P call f σ o = some (.bool p, σ) :=
  o_bin ho (by rw [hx, hy, hc]; simp [aBin, aInt])
theorem o_sadd (ho : o.op = .binOp .add t x y t') (hx : ev f x = .string s) (hy : ev f y = .string s') (hl : s.size + s'.size ≤ 9223372036854775807) (hc : u = s ++ s') : opV P call f σ o = some (.string u, σ) :=
  o_bin ho (by rw [hx, hy, hc]; simp [aBin, aStr, hl])
theorem o_seql (ho : o.op = .binOp .eql t x y t') (hx : ev f x = .string s) (hy : ev f y = .string s') (hc : p = decide (s = s')) : opV P call f σ o = some (.bool p, σ) :=
  o_bin ho (by rw [hx, hy, hc]; simp [aBin, aStr])
theorem o_sneq (ho : o.op = .binOp .neq t x y t') (hx : ev f x = .string s) (hy : ev f y = .string s') (hc : p = decide (s ≠ s')) : opV P call f σ o = some (.bool p, σ) :=
  o_bin ho (by rw [hx, hy, hc]; simp [aBin, aStr])
theorem o_slss (ho : o.op = .binOp .lss t x y t') (hx : ev f x = .string s) (hy : ev f y = .string s') (hc : p = lessS s s') : opV P call f σ o = some (.bool p, σ) :=
  o_bin ho (by rw [hx, hy, hc]; simp [aBin, aStr, lessS])
theorem o_sleq (ho : o.op = .binOp .leq t x y t') (hx : ev f x = .string s) (hy : ev f y = .string s') (hc : p = (lessS s s' || decide (s = s'))) : opV P call f σ o = some (.bool p, σ) :=
  o_bin ho (by rw [hx, hy, hc]; simp [aBin, aStr, lessS])
theorem o_sgtr (ho : o.op = .binOp .gtr t x y t') (hx : ev f x = .string s) (hy : ev f y = .string s') (hc : p = !(lessS s s' || decide (s = s'))) : opV P call f σ o = some (.bool p, σ) :=
  o_bin ho (by rw [hx, hy, hc]; simp [aBin, aStr, lessS])
theorem o_sgeq (ho : o.op = .binOp .geq t x y t') (hx : ev f x = .string s) (hy : ev f y = .string s') (hc : p = !(lessS s s')) : opV P call f σ o = some (.bool p, σ) :=
  o_bin ho (by rw [hx, hy, hc]; simp [aBin, aStr, lessS])
theorem o_beql (ho : o.op = .binOp .eql t x y t') (ht : P.underlying t = some .bool) (hx : ev f x = .bool q) (hy : ev f y = .bool r) (hc : p = (q == r)) : opV P call f σ o = some (.bool p, σ) :=
  o_bin ho (by rw [hx, hy, hc]; simp [aBin, aEq, Op.maxDepth, ht])
theorem o_bneq (ho : o.op = .binOp .neq t x y t') (ht : P.underlying t = some .bool) (hx : ev f x = .bool q) (hy : ev f y = .bool r) (hc : p = !(q == r)) : opV P call f σ o = some (.bool p, σ) :=
  o_bin ho (by rw [hx, hy, hc]; simp [aBin, aEq, Op.maxDepth, ht])
theorem o_not (ho : o.op = .unOp .not t x) (hx : ev f x = .bool q) (hc : p = !q) : opV P call f σ o = some (.bool p, σ) := by
  rw [opV_ao (by rw [ho]; intros; simp), ho, aop, hx, hc]; rfl
theorem o_neg (ho : o.op = .unOp .neg t x) (hx : ev f x = .int k a) (hc : c = k.wrap (0 - a)) : opV P call f σ o = some (.int k c, σ) := by
  rw [opV_ao (by rw [ho]; intros; simp), ho, aop, hx, hc]; rfl

theorem o_idxS (ho : o.op = .index t x y) (ht : P.underlying t = some .string) (hx : ev f x = .string s) (hy : ev f y = .int k i) (hc : idxS s i = some c) : opV P call f σ o = some (.int .u8 c, σ) := by
  rw [opV_ao (by rw [ho]; intros; simp), ho, aop, hx, hy]
  unfold idxS at hc
  split at hc
  · rename_i h
    injection hc with hc
    simp only [aIndex, ht, dif_pos h, ← hc]; rfl
  · cases hc
theorem o_slS {lo hi : Option Operand} (l h : Option Int) (ho : o.op = .slice t x lo hi none) (ht : P.underlying t = some .string) (hx : ev f x = .string s) (hlo : lo.map (ev f) = l.map (Value.int .i64)) (hhi : hi.map (ev f) = h.map (Value.int .i64))
    (hc : slS s l h = some u) : opV P call f σ o = some (.string u, σ) := by
  rw [opV_ao (by rw [ho]; intros; simp), ho, aop, hx, hlo, hhi]
  unfold slS at hc
  simp only at hc
  split at hc
  · rename_i hh
    injection hc with hc
    obtain ⟨h1, h2, h3⟩ := hh
    have e1 : aBound (l.map (Value.int .i64)) 0 = some (l.getD 0).toNat := by
      cases l with
      | none => rfl
      | some a => simp only [Option.map_some, aBound]; rw [if_pos (by simpa using h1)]; rfl
    have e2 : aBound (h.map (Value.int .i64)) s.size = some (h.getD s.size).toNat := by
      cases h with
      | none => simp [aBound]
      | some a => simp only [Option.map_some, aBound]; rw [if_pos (by simp at h2; omega)]; rfl
    simp only [aSlice, ht, Option.map_none, e1, e2, Option.bind_some]
    rw [if_pos (by omega), ← hc]; rfl
  · cases hc
theorem len_op (ho : o.op = .call { callee := .builtin .len, args := #[x], argTypes := #[t] }) (h : aLen P σ t (ev f x) = some v) : opV P call f σ o = some (v, σ) := by
  rw [opV_ao (by rw [ho]; intros; simp), ho, aop]
  simp [aBuiltin, h]
theorem o_lenS (ho : o.op = .call { callee := .builtin .len, args := #[x], argTypes := #[t] }) (ht : P.underlying t = some .string) (hx : ev f x = .string s) (hc : c = s.size) : opV P call f σ o = some (.int .i64 c, σ) := by
  refine len_op ho ?_
  rw [hx, hc]; simp only [aLen, ht]; rfl
theorem o_lenSl (ho : o.op = .call { callee := .builtin .len, args := #[x], argTypes := #[t] }) (ht : P.underlying t = some (.slice e)) (hx : ev f x = X.v) (hc : c = X.n) : opV P call f σ o = some (.int .i64 c, σ) := by
  refine len_op ho ?_
  rw [hx, hc]; simp only [aLen, ht, Sl.v]; rfl
theorem o_call {g : FuncId} {args : Array Operand} {ats : Array TypeId} {vs : List Value} (ho : o.op = .call { callee := .value (.func g), args := args, argTypes := ats }) (ha : args.toList.map (ev f) = vs) (h : call g vs σ = some (v, σ')) : opV P call f σ o = some (v, σ') := by
  unfold opV
  rw [ho]
  simp only [aCallee, ev]
  simp only [List.nil_append, List.append_nil, Option.bind_some, ha, h]
theorem o_ext {vs : Array Value} (ho : o.op = .extract x n) (hx : ev f x = .tuple vs) (h : vs[n]? = some v) : opV P call f σ o = some (v, σ) := by
  rw [opV_ao (by rw [ho]; intros; simp), ho, aop, hx]; simp only [h]; rfl
theorem o_convI (ho : o.op = .convert t t' x) {u : TypeDesc} (ht : P.underlying t = some u) (ht' : P.underlying t' = some (.int k')) (hx : ev f x = .int k a) (hc : c = k'.wrap a) : opV P call f σ o = some (.int k' c, σ) := by
  rw [opV_ao (by rw [ho]; intros; simp), ho, aop, hx, hc]; simp only [aConv, ht, ht']
theorem o_convS (ho : o.op = .convert t t' x) {u : TypeDesc} (ht : P.underlying t = some u) (ht' : P.underlying t' = some .string) (hx : ev f x = .string s) : opV P call f σ o = some (.string s, σ) := by
  rw [opV_ao (by rw [ho]; intros; simp), ho, aop, hx]; simp only [aConv, ht, ht']
theorem o_load1 (ho : o.op = .load t x) (ht : aggOf P t = some false) (hx : ev f x = .pointer A) (hc : ldN σ A 1 = some [v]) : opV P call f σ o = some (v, σ) := by
  rw [opV_ao (by rw [ho]; intros; simp), ho, aop, hx]
  cases A with
  | none => cases hc
  | some a => simp only [ldN, Option.bind_some] at hc; simp only [aLoad, ht, hc]; rfl
theorem o_loadN {cs : List Value} (ho : o.op = .load t x) (ht : aggOf P t = some true) (hs : szOf P t = some n) (hx : ev f x = .pointer A) (hc : ldN σ A n = some cs) : opV P call f σ o = some (.agg cs.toArray, σ) := by
  rw [opV_ao (by rw [ho]; intros; simp), ho, aop, hx]
  cases A with
  | none => cases hc
  | some a => simp only [ldN, Option.bind_some] at hc; simp only [aLoad, ht, hs, Option.bind_some, hc]; rfl
theorem o_store {vs : List Value} (ho : o.op = .store t x y) (hs : szOf P t = some vs.length) (hx : ev f x = .pointer A) (hy : ev f y = v) (hn : noTuple v = true) (hv : v.cells.toList = vs) (hc : stN σ A vs = some σ') : opV P call f σ o = some (undef, σ') := by
  rw [opV_ao (by rw [ho]; intros; simp), ho, aop, hx, hy]
  cases A with
  | none => cases hc
  | some a =>
    simp only [stN, Option.bind_some] at hc
    have : v.cells.size = vs.length := by rw [← hv]; simp
    simp only [aStore, hn, this, hs, hv, and_self, if_true, hc]; rfl
theorem o_alloc {z : Value} {vs : List Value} (ho : o.op = .alloc e) (hz : zeroOf P e = some z) (hn : noTuple z = true) (hv : z.cells.toList = vs) (hc : newC σ e vs = (A, σ')) : opV P call f σ o = some (.pointer A, σ') := by
  rw [opV_ao (by rw [ho]; intros; simp), ho, aop, hz]
  unfold newC at hc
  injection hc with h1 h2
  simp only [Option.bind_some, aNew, hn, if_true, hv, h1, h2]
theorem o_box {vs : List Value} (ho : o.op = .box e x) (hs : szOf P e = some n) (hx : ev f x = v) (hn : noTuple v = true) (hv : v.cells.toList = vs) (hc : newC σ e vs = (A, σ')) : opV P call f σ o = some (.pointer A, σ') := by
  rw [opV_ao (by rw [ho]; intros; simp), ho, aop, hs, hx]
  unfold newC at hc
  injection hc with h1 h2
  simp only [aNew, hn, if_true, hv, h1, h2]
theorem o_field {fs : Array Field} {fd : Field} {cs : Array Value} (ho : o.op = .field t x n) (ht : P.underlying t = some (.struct fs)) (hf : fs[n]? = some fd) (ha : aggOf P fd.type = some false) (hx : ev f x = .agg cs) (hc : cs[fd.offset]? = some v) : opV P call f σ o = some (v, σ) := by
  rw [opV_ao (by rw [ho]; intros; simp), ho, aop, hx]
  simp only [aField, ht, hf, Option.bind_some, aPart, ha, hc]; rfl
theorem o_fieldN {fs : Array Field} {fd : Field} {cs : Array Value} (ho : o.op = .field t x n) (ht : P.underlying t = some (.struct fs)) (hf : fs[n]? = some fd) (ha : aggOf P fd.type = some true) (hs : szOf P fd.type = some m) (hx : ev f x = .agg cs) (hc : .agg (cs.extract fd.offset (fd.offset + m)) = v) : opV P call f σ o = some (v, σ) := by
  rw [opV_ao (by rw [ho]; intros; simp), ho, aop, hx]
  simp only [aField, ht, hf, Option.bind_some, aPart, ha, hs, Option.map_some, hc]
theorem o_fieldAddr {fs : Array Field} {fd : Field} (ho : o.op = .fieldAddr t x n) (ht : P.underlying t = some (.struct fs)) (hf : fs[n]? = some fd) (hs : szOf P fd.type = some (m + 1)) (hx : ev f x = .pointer A) (hc : offP A fd.offset = some B) : opV P call f σ o = some (.pointer B, σ) := by
  rw [opV_ao (by rw [ho]; intros; simp), ho, aop, hx]
  cases A with
  | none => cases hc
  | some a =>
    simp only [offP, Option.bind_some] at hc
    split at hc
    · rename_i h
      injection hc with hc; subst hc
      simp only [aFieldAddr, ht, hf, Option.bind_some, hs]
      rw [if_pos ⟨h, by simp, by simp⟩]; rfl
    · cases hc
theorem o_iaSl (ho : o.op = .indexAddr t x y) (ht : P.underlying t = some (.slice e)) (hs : szOf P e = some n) (hx : ev f x = X.v) (hy : ev f y = .int k i) (hc : iaSl X n i = some B) : opV P call f σ o = some (.pointer B, σ) := by
  rw [opV_ao (by rw [ho]; intros; simp), ho, aop, hx, hy]
  obtain ⟨p, len, cap⟩ := X
  cases p with
  | none => cases hc
  | some a =>
    simp only [iaSl, Option.bind_some] at hc
    split at hc
    · rename_i h
      injection hc with hc; subst hc
      simp only [aIndexAddr, ht, Sl.v, hs, Option.bind_some]
      rw [if_pos h]; rfl
    · cases hc
theorem o_slSl {lo hi : Option Operand} (l h : Option Int) (ho : o.op = .slice t x lo hi none) (ht : P.underlying t = some (.slice e)) (hs : szOf P e = some n) (hx : ev f x = X.v) (hlo : lo.map (ev f) = l.map (Value.int .i64)) (hhi : hi.map (ev f) = h.map (Value.int .i64))
    (hc : slSl σ e n X l h = some Y) : opV P call f σ o = some (Y.v, σ) := by
  rw [opV_ao (by rw [ho]; intros; simp), ho, aop, hx, hlo, hhi]
  obtain ⟨p, len, cap⟩ := X
  unfold slSl at hc
  simp only at hc
  cases p with
  | none =>
    simp only at hc
    split at hc
    · rename_i hh
      injection hc with hc; subst hc
      obtain ⟨h1, h2⟩ := hh
      have e1 : aBound (l.map (Value.int .i64)) 0 = some 0 := by
        cases l with
        | none => rfl
        | some a => simp at h1; subst h1; rfl
      have e2 : aBound (h.map (Value.int .i64)) 0 = some 0 := by
        cases h with
        | none => rfl
        | some a => simp at h2; subst h2; rfl
      simp only [aSlice, ht, Sl.v, Option.map_none, hs, Option.bind_some, e1, e2, and_self, if_true]; rfl
    · cases hc
  | some ad =>
    simp only at hc
    split at hc
    · rename_i hh
      injection hc with hc; subst hc
      obtain ⟨h1, h2, h3, h4, h5⟩ := hh
      have e1 : aBound (l.map (Value.int .i64)) 0 = some (l.getD 0).toNat := by
        cases l with
        | none => rfl
        | some a => simp only [Option.map_some, aBound]; rw [if_pos (by simpa using h1)]; rfl
      have e2 : aBound (h.map (Value.int .i64)) len = some (h.getD len).toNat := by
        cases h with
        | none => simp [aBound]
        | some a => simp only [Option.map_some, aBound]; rw [if_pos (by simp at h2; omega)]; rfl
      have e3 : sameSize P σ ad.block n = true := by
        unfold elemOk at h5
        unfold sameSize
        simp only [Bool.or_eq_true, decide_eq_true_eq] at h5 ⊢
        rcases h5 with h5 | h5
        · exact .inl h5
        · right
          split at h5
          · rename_i hg; rw [hg]; simp only [decide_eq_true_eq] at h5; subst h5; simp [hs]
          · cases h5
      simp only [aSlice, ht, Sl.v, Option.map_none, hs, Option.bind_some, e1, e2]
      rw [if_pos ⟨by omega, by omega, h4, e3⟩]
      have e4 : ((h.getD ↑len).toNat = len) = ((h.getD ↑len).toNat = len) := rfl
      by_cases hb : ad.block < σ.base
      · simp only [if_pos hb]; rfl
      · simp only [if_neg hb]; rfl
    · cases hc
theorem app_slCells {inf : TypeInfo} (hi : inf.size = n) : firstOf σ inf.size X.n X.v = slCells σ n X := by
  subst hi
  obtain ⟨p, len, cap⟩ := X
  cases p with
  | none => rfl
  | some a =>
    simp only [firstOf, slCells, Sl.v]
    by_cases h0 : len * inf.size = 0
    · rw [if_pos h0, if_pos h0]
    · rw [if_neg h0, if_neg h0, if_pos (Nat.le_refl _)]
theorem o_app {i' j' : Nat} {new : List Value} {z : Value} {inf : TypeInfo} {u : TypeDesc} (ho : o.op = .call { callee := .builtin .append, args := #[x, y], argTypes := #[t, t'] })
    (ht : P.underlying t = some (.slice e)) (hu : P.underlying t' = some u) (hk : ∀ k, u ≠ .int k) (hi : infoOf P e = some inf) (hz : inf.zero = some z) (hn : inf.size = n) (hb : inf.bytes = m) (hzs : z.cells.size = n) (h0 : 0 < n)
    (hx : ev f x = X.v) (hy : ev f y = Y.v) (hnew : slCells σ n Y = some new) (hc : apC σ e n m X Y.n new = some (⟨A, i', j'⟩, σ')) : opV P call f σ o = some (.slice A i' j', σ') := by
  rw [opV_ao (by rw [ho]; intros; simp), ho, aop]
  simp only [aBuiltin]
  have h1 : (#[x, y].map (ev f)).toList = [X.v, Y.v] := by simp [hx, hy]
  simp only [h1]
  have hl : lenOfV Y.v = some Y.n := rfl
  have hY : firstOf σ inf.size Y.n Y.v = some new := by rw [app_slCells hn]; exact hnew
  have hX : firstOf σ inf.size X.n X.v = slCells σ n X := app_slCells hn
  unfold aAppend
  cases u with
  | int k => exact absurd rfl (hk k)
  | _ =>
    simp only [ht, hu]
    obtain ⟨p, len, cap⟩ := X
    simp only [Sl.v] at hX ⊢
    simp only [Sl.v] at hl hY
    simp only [hi, Option.bind_some, hz, hl, hY, hX]
    unfold apC at hc
    cases hs : slCells σ n ⟨p, len, cap⟩ with
    | none => rw [hs] at hc; cases hc
    | some old =>
      rw [hs] at hc
      simp only [Option.bind_some] at hc ⊢
      by_cases hm : Y.n = 0
      · rw [if_pos hm] at hc ⊢
        simp only [Option.some.injEq, Prod.mk.injEq, Sl.mk.injEq] at hc
        obtain ⟨⟨h2, h3, h4⟩, h5⟩ := hc
        subst h2 h3 h4 h5; rfl
      · rw [if_neg hm] at hc ⊢
        split at hc
        · rename_i hh
          obtain ⟨g1, g2, g3⟩ := hh
          subst hn hb
          rw [if_pos ⟨hzs, h0, g1, g2, g3⟩]
          cases p with
          | none =>
            simp only [Option.some.injEq, Prod.mk.injEq, Sl.mk.injEq] at hc ⊢
            obtain ⟨⟨h2, h3, h4⟩, h5⟩ := hc
            subst h2 h3 h4 h5; simp
          | some a =>
            simp only at hc ⊢
            split at hc
            · rename_i hcap
              rw [if_pos hcap]
              simp only [Option.some.injEq, Prod.mk.injEq, Sl.mk.injEq] at hc ⊢
              obtain ⟨⟨h2, h3, h4⟩, h5⟩ := hc
              subst h2 h3 h4 h5; simp
            · rename_i hcap
              rw [if_neg hcap]
              split at hc
              · cases hc
              · rename_i hbl
                rw [if_neg hbl]
                split at hc
                · rename_i cc e' ch hg
                  simp only [hg]
                  split at hc
                  · rename_i he
                    rw [if_pos he]
                    split at hc
                    · rename_i hof
                      rw [if_pos hof]
                      simp only [Option.some.injEq, Prod.mk.injEq, Sl.mk.injEq] at hc ⊢
                      obtain ⟨⟨h2, h3, h4⟩, h5⟩ := hc
                      subst h2 h3 h4 h5; simp
                    · rename_i hof
                      rw [if_neg hof]
                      simp only [Option.some.injEq, Prod.mk.injEq, Sl.mk.injEq] at hc ⊢
                      obtain ⟨⟨h2, h3, h4⟩, h5⟩ := hc
                      subst h2 h3 h4 h5; simp
                  · cases hc
                · cases hc
        · cases hc
end
end Go.Am
