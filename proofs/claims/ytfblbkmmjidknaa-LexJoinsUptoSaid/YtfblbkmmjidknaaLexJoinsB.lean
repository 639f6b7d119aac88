/- The source of any tokens: LexJoins holds at every input whose values and letters are at most 1048576 together (a longer source would not fit into a Builder). -/
import Derived.Test.YtfblbkmmjidknaaRows
import Derived.Test.YtfblbkmmjidknaaAmQ1
import Derived.Test.YtfblbkmmjidknaaL1c7W
import Derived.Test.YtfblbkmmjidknaaLexY
import Derived.WalkKit
import Derived.ProofKit
import Derived.OpenShut
import Derived.ShutString
import Derived.ChangeOld
import Derived.Below
import Derived.Carry
import Derived.SizedLaws
import Derived.JoinedCond
namespace Go.Proofs.Ytfblbkmmjidknaa.lexJoins
open Go.ChangeShapes Go.WideShapes Go.ChangeAt Go.RowKit
open Go.ChangeMaps (open_string shut_string)
open Go.Am
set_option linter.unusedVariables false
theorem own : ownKnob Try.prog.godebug = none := by kernel_rfl
theorem mixed : Try.prog.follows .mixedOrders = true := by kernel_rfl
theorem laidOut : laidOutB Try.prog = true := by kernel_rfl
theorem ext49 : ExtAt Try.f49 := ⟨by kernel_rfl, by kernel_rfl⟩
theorem ext51 : ExtAt Try.f51 := ⟨by kernel_rfl, by kernel_rfl⟩
theorem extOk : ExtOk Try.prog := extOk_of (ks := [49, 51]) (by kernel_rfl) (by
  intro k hk
  simp at hk
  rcases hk with rfl | rfl
  · exact ⟨_, Try.func49, ext49⟩
  · exact ⟨_, Try.func51, ext51⟩)
/-- The letters of the tokens. -/
theorem letters {H : Type} : ∀ L : List Tok, (joinL L).length + L.length ≤ Rows.uptoBulkAll (L.map (tokD (H := H))) := by
  intro L
  induction L with
  | nil => simp [joinL, Rows.uptoBulkAll]
  | cons t L ih =>
    have h1 : Rows.uptoBulk (tokD (H := H) t) = t.2.1.data.toList.length + t.2.2.data.toList.length + 4 := by
      simp only [tokD, Rows.uptoBulk, Rows.uptoBulkAll]; omega
    have h2 : (joinL (t :: L)).length = t.2.1.data.toList.length + t.2.2.data.toList.length + (joinL L).length := by
      simp only [joinL, List.flatMap_cons, List.length_append]
    simp only [List.map_cons, Rows.uptoBulkAll, List.length_cons]
    omega
theorem walk (A : Option Addr) (len cap : Nat) (a1 : ByteArray) (L : List Tok) (w : World) (hL : ∀ τ : AHeap, τ.old = w → LAt encTok τ 3 ⟨A, len, cap⟩ L) (ho : oldOk w.heap.size (.slice A len cap) = true) (hb : (joinL L).length + L.length + a1.size ≤ 1048576) :
    Calls Try.prog 7 #[.slice A len cap, .string a1] w fun e w' => e = .returned (.bool true) ∧ Below w.heap.size w w' := by
  obtain ⟨⟨r, σ'⟩, h, hr⟩ := LexJoins_true (l := ⟨A, len, cap⟩) (L := L) (tail := a1) (Wf.start w) (fun τ x => hL τ x.old) (by omega) (by omega)
  simp only at hr
  subst hr
  exact calls_of_callL (zeroOk _) mixed extOk Try.func7 rfl (by intro a ha; simp at ha; rcases ha with rfl | rfl; exact ho; rfl) rfl (w7 _ _ _ _ h)
set_option maxRecDepth 100000 in
theorem lifted (os : Os) (started : os.Started) (H : Type) (enc : TypeId × Value → H) (F : Stop.Interp) :
    ReturnsInHanded {} Try.checked os 7 .any ((Rows.OpenSpec.upto Rows.lexJoinsSpec).pre6 enc Try.prog Try.f7 Rows.lexJoinsUptoRow.domain false) (((Rows.OpenSpec.upto Rows.lexJoinsSpec).at F).post enc Try.prog Try.f7 false true false false) := by
  refine returnsInHanded_of_cond (C := Try.checked) (s := Rows.OpenSpec.upto Rows.lexJoinsSpec) (k := Rows.uptoSmall) rfl own started (by kernel_rfl) Try.func7
    (OpenSpec.witness (enc := enc) (C := Try.checked) (s := Rows.OpenSpec.upto Rows.lexJoinsSpec) (k := Rows.uptoSmall) rfl false ⟨#[], #[.slice none 0 0, .string ByteArray.empty], []⟩ 8 (by kernel_rfl) (by kernel_rfl) (by kernel_rfl)
      (x := ([.nil, .lit (.string [])], [], [])) (by kernel_rfl) rfl (by kernel_rfl)) ?_
  intro W base args ds gs before hval0 hW _ hk _
  have hval : ∀ (j : Nat) t v, Try.f7.params[j]? = some t → args[j]? = some v → Value.okWide Try.prog W .any base t v := hval0
  have hW' := hW
  obtain ⟨p, q, hA0, hV, rfl, hfz, hnd⟩ := hW
  have hA : DataW.TrodAll enc Try.prog W 0 (fun _ => true) true Try.f7.params.toList args.toList ds p := hA0
  rw [Try.params7] at hA hval
  obtain ⟨v0, vs0, d0, ds0, p0, q0, hargs, rfl, rfl, h0, r0⟩ := trodAll_cons hA
  obtain ⟨v1, vs1, d1, ds1, p1, q1, rfl, rfl, rfl, h1, r1⟩ := trodAll_cons r0
  obtain ⟨rfl, rfl, rfl⟩ := trodAll_nil r1
  obtain rfl : args = #[v0, v1] := by cases args; simp_all
  obtain ⟨rfl, rfl⟩ := trodVars_none hV
  have hv0 := hval 0 23 v0 rfl rfl
  obtain ⟨a0, len0, cap0, rfl⟩ := okWide_slice Try.underlying23 hv0
  have k0 := h0
  have lt0 : ∀ x ∈ p0, x.block < W.heap.size := by obtain ⟨m, hm⟩ := k0; exact DataW.trod_lt m _ _ _ hm
  obtain ⟨fuel, hf⟩ := h0
  obtain ⟨L, hL, ho, hx⟩ := open_toks' Try.underlying23 Try.underlying33 rfl Try.underlying3 Try.underlying9 (by kernel_rfl) (by kernel_rfl) (by kernel_rfl) hv0 hf
  obtain ⟨a1, rfl, rfl, rfl, y1⟩ := open_string Try.underlying9 (hval 1 9 v1 rfl rfl) h1
  have hb : (joinL L).length + L.length + a1.size ≤ 1048576 := by
    have hk' : Rows.uptoBulkAll ([d0, .lit (.string a1.data.toList)] ++ ([] : List (DataW H))) ≤ 1048576 := of_decide_eq_true hk
    have hs : a1.data.toList.length = a1.size := rfl
    rcases hx with ⟨hl, hx⟩ | ⟨sps, hx⟩
    · subst hl
      simp only at hx
      subst hx
      simp only [List.append_nil, Rows.uptoBulkAll, Rows.uptoBulk, hs] at hk'
      simp only [joinL, List.flatMap_nil, List.length_nil]
      omega
    · simp only at hx
      subst hx
      have := letters (H := H) L
      simp only [List.append_nil, Rows.uptoBulkAll, Rows.uptoBulk, hs] at hk'
      omega
  clear hA0 hval0
  simp only [List.append_nil] at hW'
  refine (walk a0 len0 cap0 a1 L W hL ho hb).mono fun e W' ⟨he, bel⟩ => ?_
  subst he
  exact ⟨_, rfl, _, _, _, [], _, [], hW', trodAll_mk1 (shut_bool Try.underlying4 _), (trodAll_cons_mk (Below.trod laidOut (by kernel_rfl) (of_decide_eq_true (by kernel_rfl)) k0 bel lt0) (trodAll_cons_mk (shut_string Try.underlying9 y1) trodAll_mk0)), rfl, bel.frame _, fun h => by cases h⟩
theorem over : Rows.lexJoinsUptoRow.holds Try.pinned (Rows.OpenSpec.upto Rows.lexJoinsSpec) :=
  OpenClaim.holds_of_cond 7 Try.f7 rfl rfl rfl rfl rfl rfl rfl ⟨rfl, rfl, rfl, rfl, rfl⟩ rfl rfl rfl rfl rfl (by kernel_rfl) Try.func7 (by kernel_rfl)
    (of_decide_eq_true (by kernel_rfl)) (by unfold Func.isWrapper; first | (rw [if_pos (by decide +kernel)]; kernel_rfl) | (rw [if_neg (by decide +kernel)]; exact ⟨rfl, rfl⟩))
    (fun os started H enc _ F => lifted os started H enc F)
theorem proved : Rows.LexJoinsUptoSaid := over
end Go.Proofs.Ytfblbkmmjidknaa.lexJoins
namespace Go.Proofs.Ytfblbkmmjidknaa
theorem lexJoins_upto : Rows.LexJoinsUptoSaid := lexJoins.proved
end Go.Proofs.Ytfblbkmmjidknaa
