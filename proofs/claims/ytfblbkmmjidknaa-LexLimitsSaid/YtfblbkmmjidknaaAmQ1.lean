/- From the abstract machine to a row: what a program must be. -/
import Derived.Test.YtfblbkmmjidknaaAmV
import Derived.KernelRfl
set_option linter.unusedVariables false
namespace Go.Am
def extB (P : Program) (k : Nat) : Bool := P.funcs.toList.zipIdx.all fun p => p.2 == k || p.1.body.isSome || p.1.name != "internal/bytealg.IndexByteString"
theorem extOk_of {P : Program} {k : Nat} {fn : Func} (h : extB P k = true) (hk : P.funcs[k]? = some fn) (h1 : Extern.findNext fn = none) (h2 : Extern.find fn = some Extern.BytealgIndexByte.indexByte) : ExtOk P := by
  intro g f hg hb hn
  unfold extB at h
  rw [List.all_eq_true] at h
  have hm : (f, g) ∈ P.funcs.toList.zipIdx := by
    rw [List.mem_zipIdx_iff_getElem?]
    simpa using hg
  have := h _ hm
  simp only [hb, hn] at this
  simp at this
  subst this
  rw [hk] at hg; injection hg with hg; subst hg
  exact ⟨h1, h2⟩
theorem oldOk_int (n : Nat) (k : IntKind) (x : Int) : oldOk n (.int k x) = true := rfl
theorem oldOk_str (n : Nat) (x : ByteArray) : oldOk n (.string x) = true := rfl
theorem oldOk_bool (n : Nat) (x : Bool) : oldOk n (.bool x) = true := rfl
end Go.Am
