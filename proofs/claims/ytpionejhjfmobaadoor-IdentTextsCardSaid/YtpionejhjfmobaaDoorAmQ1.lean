/- From the abstract machine to a row: what a program must be. -/
import Derived.Test.YtpionejhjfmobaaDoorAmU
import Derived.KernelRfl
set_option linter.unusedVariables false
namespace Go.Am
def extB (P : Program) (ks : List Nat) : Bool := P.funcs.toList.zipIdx.all fun p => ks.contains p.2 || p.1.body.isSome || (p.1.name != "internal/bytealg.IndexByteString" && p.1.name != "internal/abi.NoEscape")
def ExtAt (fn : Func) : Prop := Extern.findNext fn = none ∧ Extern.find fn = some (if fn.name = "internal/abi.NoEscape" then Extern.AbiNoEscape.same else Extern.BytealgIndexByte.indexByte)
theorem extOk_of {P : Program} {ks : List Nat} (h : extB P ks = true) (hk : ∀ k ∈ ks, ∃ fn, P.funcs[k]? = some fn ∧ ExtAt fn) : ExtOk P := by
  intro g f hg hb hn
  unfold extB at h
  rw [List.all_eq_true] at h
  have hm : (f, g) ∈ P.funcs.toList.zipIdx := by
    rw [List.mem_zipIdx_iff_getElem?]
    simpa using hg
  have := h _ hm
  simp only [hb, Option.isSome_none, Bool.or_false, Bool.or_eq_true, Bool.and_eq_true, bne_iff_ne] at this
  rcases this with h1 | ⟨h1, h2⟩
  · obtain ⟨fn, hf, hx⟩ := hk g (by simpa using h1)
    rw [hf] at hg; injection hg with hg; subst hg
    exact hx
  · rcases hn with hn | hn
    · exact absurd hn h1
    · exact absurd hn h2
end Go.Am
