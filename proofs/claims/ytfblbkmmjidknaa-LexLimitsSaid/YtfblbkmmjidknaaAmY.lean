/- Words for the printed walks. -/
import Derived.Test.YtfblbkmmjidknaaAmX
set_option linter.unusedVariables false
set_option linter.unusedSimpArgs false
namespace Go.Am
/-! ### Pieces of code, by their places -/
def cl : Code → Code
  | .seq a _ | .cond _ a _ | .block _ a | .loop a | .scope a => a
  | c => c
def cr : Code → Code
  | .seq _ b | .cond _ _ b => b
  | c => c
def bodyOf (f : Func) : Code := f.body.getD .skip
def resultsOf (f : Func) : List ResultVar := f.results.toList
def fieldsOf (P : Program) (t : TypeId) : Array Field := match P.underlying t with
  | some (.struct fs) => fs
  | _ => #[]

theorem OptW.ifT {α : Type} {t : Bool} {a b : Option α} {C : α → Prop} (h : OptW (bif t then a else b) C) (e : t = true) : OptW a C := by subst e; exact h
theorem OptW.ifF {α : Type} {t : Bool} {a b : Option α} {C : α → Prop} (h : OptW (bif t then a else b) C) (e : t = false) : OptW b C := by subst e; exact h
theorem and_t {a b : Bool} (h : (a && b) = true) : a = true ∧ b = true := by simpa using h
theorem not_t {a : Bool} (h : (!a) = true) : a = false := by simpa using h
theorem gv_f {g : Bool} {v : Value} (h : g = false) : (bif g then v else undef) = undef := by subst h; rfl
theorem Fr.set_of {f g : Fr} {t : Nat} {v : Value} (hg : g = f) (h : f t = v) : g.set t v = f := by subst hg; exact Fr.set_id h

section
variable {P : Program} {f : Fr} {ops : Array Oper} {o : Oper} {j d : Nat} {b g : Bool}
theorem w_T (ho : o.guard = some (j, true)) (hj : (ops[j]?).bind (·.dst) = some d) (hd : f d = .bool b) : Region.wanted o (yieldF ops f) = b := by
  unfold Region.wanted yieldF
  rw [ho]; simp only [hj, hd]
  cases b <;> rfl
theorem w_F (ho : o.guard = some (j, false)) (hj : (ops[j]?).bind (·.dst) = some d) (hd : f d = .bool b) : Region.wanted o (yieldF ops f) = !b := by
  unfold Region.wanted yieldF
  rw [ho]; simp only [hj, hd]
  cases b <;> rfl
theorem w_gT (ho : o.guard = some (j, true)) (hj : (ops[j]?).bind (·.dst) = some d) (hd : f d = bif g then .bool b else undef) : Region.wanted o (yieldF ops f) = (g && b) := by
  unfold Region.wanted yieldF
  rw [ho]; simp only [hj, hd]
  cases g <;> cases b <;> rfl
theorem w_gF (ho : o.guard = some (j, false)) (hj : (ops[j]?).bind (·.dst) = some d) (hd : f d = bif g then .bool b else undef) : Region.wanted o (yieldF ops f) = (g && !b) := by
  unfold Region.wanted yieldF
  rw [ho]; simp only [hj, hd]
  cases g <;> cases b <;> rfl
end

def addS (a b : ByteArray) : Option ByteArray := if a.size + b.size ≤ 9223372036854775807 then some (a ++ b) else none
theorem o_saddO {P : Program} {call : CallR} {f : Fr} {σ : AHeap} {o : Oper} {x y : Operand} {t t' : TypeId} {s s' u : ByteArray} (ho : o.op = .binOp .add t x y t') (hx : ev f x = .string s) (hy : ev f y = .string s') (hc : addS s s' = some u) : opV P call f σ o = some (.string u, σ) := by
  unfold addS at hc
  split at hc
  · rename_i h; injection hc with hc; exact o_sadd ho hx hy h hc.symm
  · cases hc
end Go.Am
