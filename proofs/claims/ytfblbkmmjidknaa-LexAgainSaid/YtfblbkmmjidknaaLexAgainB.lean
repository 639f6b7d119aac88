/- Tokens that are joined are scanned as they were, if texts are tokens, leads are trivia, and no two tokens without a lead between them fuse: LexAgain holds at every input, without a condition. -/
import Derived.Test.YtfblbkmmjidknaaRows
import Derived.Test.YtfblbkmmjidknaaAmQ1
import Derived.Test.YtfblbkmmjidknaaL1c9W
import Derived.Test.YtfblbkmmjidknaaLexZa
import Derived.WalkKit
import Derived.ProofKit
import Derived.OpenShut
import Derived.ShutString
import Derived.ChangeOld
import Derived.Below
import Derived.Carry
import Derived.SizedLaws
namespace Go.Proofs.Ytfblbkmmjidknaa.lexAgain
open Go.ChangeShapes Go.WideShapes Go.ChangeAt Go.RowKit
open Go.ChangeMaps (open_string shut_string)
open Go.Am
set_option linter.unusedVariables false
theorem own : ownKnob Try.prog.godebug = none := by kernel_rfl
theorem mixed : Try.prog.follows .mixedOrders = true := by kernel_rfl
theorem laidOut : laidOutB Try.prog = true := by kernel_rfl
theorem ext49 : ExtAt Try.f49 := ⟨by kernel_rfl, by kernel_rfl⟩
theorem ext51 : ExtAt Try.f51 := ⟨by kernel_rfl, by kernel_rfl⟩
theorem extOk : ExtOk Try.prog := extOk_of (ks := [49, 51]) (by kernel_rfl) (by
  intro k hk
  simp at hk
  rcases hk with rfl | rfl
  · exact ⟨_, Try.func49, ext49⟩
  · exact ⟨_, Try.func51, ext51⟩)
theorem tok_weights {H : Type} (t : Tok) : (tokD (H := H) t).weights Try.prog 33 = [t.2.1.size, t.2.2.size] := by
  simp only [tokD, DataW.weights, Try.underlying33]
  rfl
theorem toks_weights {H : Type} : ∀ (L : List Tok) (t : Tok), t ∈ L → t.2.1.size ∈ DataW.weightsAll Try.prog 33 (L.map (tokD (H := H))) ∧ t.2.2.size ∈ DataW.weightsAll Try.prog 33 (L.map (tokD (H := H))) := by
  intro L
  induction L with
  | nil => intro t h; cases h
  | cons u L ih =>
    intro t h
    simp only [List.map_cons, DataW.weightsAll, tok_weights]
    rcases List.mem_cons.1 h with rfl | h
    · exact ⟨by simp, by simp⟩
    · obtain ⟨h1, h2⟩ := ih t h
      exact ⟨List.mem_append.2 (.inr h1), List.mem_append.2 (.inr h2)⟩
theorem join_bound {L : List Tok} {m : Nat} (h : ∀ t ∈ L, t.2.1.size ≤ m ∧ t.2.2.size ≤ m) : (joinL L).length ≤ L.length * (2 * m) := by
  induction L with
  | nil => simp [joinL]
  | cons t L ih =>
    have h1 := h t (List.mem_cons_self ..)
    have h2 := ih (fun u hu => h u (List.mem_cons_of_mem _ hu))
    have h3 : (joinL (t :: L)).length = t.2.1.size + t.2.2.size + (joinL L).length := by
      simp only [joinL, List.flatMap_cons, List.length_append, bytes_size']
    rw [h3, List.length_cons, Nat.add_mul]
    omega
theorem walk (A : Option Addr) (len cap : Nat) (a1 : ByteArray) (L : List Tok) (w : World) (hL : ∀ τ : AHeap, τ.old = w → LAt encTok τ 3 ⟨A, len, cap⟩ L) (ho : oldOk w.heap.size (.slice A len cap) = true) (hn : L.length < 2 ^ 62) (ha : a1.size ≤ 140737488351232) (hb : ∀ t ∈ L, t.2.1.size ≤ 140737488351232 ∧ t.2.2.size ≤ 140737488351232) :
    Calls Try.prog 9 #[.slice A len cap, .string a1] w fun e w' => e = .returned (.bool true) ∧ Below w.heap.size w w' := by
  obtain ⟨⟨r, σ'⟩, h, hr⟩ := LexAgain_true (l := ⟨A, len, cap⟩) (L := L) (tail := a1) (Wf.start w) (fun τ x => hL τ x.old) hn (by omega) (fun hx => by
    have h1 := join_bound hb
    have h2 : L.length * (2 * 140737488351232) ≤ 100 * (2 * 140737488351232) := Nat.mul_le_mul_right _ hx
    omega)
  simp only at hr
  subst hr
  exact calls_of_callL (zeroOk _) mixed extOk Try.func9 rfl (by intro a ha; simp at ha; rcases ha with rfl | rfl; exact ho; rfl) rfl (w9 _ _ _ _ h)
set_option maxRecDepth 100000 in
theorem lifted (os : Os) (started : os.Started) (H : Type) (enc : TypeId × Value → H) :
    ReturnsInHanded {} Try.checked os 9 .any (Rows.lexAgainSpec.pre6 enc Try.prog Try.f9 Rows.lexAgainRow.domain false) (Rows.lexAgainSpec.post enc Try.prog Try.f9 false true false false) := by
  refine returnsInHanded_of_change_sized (C := Try.checked) own started (by kernel_rfl) Try.func9
    (ChangeSpec.witness6 (enc := enc) (C := Try.checked) false ⟨#[], #[.slice none 0 0, .string ByteArray.empty], []⟩ 8 (by kernel_rfl) (by kernel_rfl) (by kernel_rfl) (by kernel_rfl)) ?_
  intro W base args ds gs before hval0 hW hcnd hsz0 _
  have hsz : (DataW.weightsEach Try.prog (Try.f9.params.toList ++ Rows.lexAgainSpec.plain.varTypes Try.prog) (ds ++ gs)).all (· ≤ reachBytes) = true := hsz0
  have hval : ∀ (j : Nat) t v, Try.f9.params[j]? = some t → args[j]? = some v → Value.okWide Try.prog W .any base t v := hval0
  have hW' := hW
  obtain ⟨p, q, hA0, hV, rfl, hfz, hnd⟩ := hW
  have hA : DataW.TrodAll enc Try.prog W 0 (fun _ => true) true Try.f9.params.toList args.toList ds p := hA0
  rw [Try.params9] at hA hval hsz
  obtain ⟨v0, vs0, d0, ds0, p0, q0, hargs, rfl, rfl, h0, r0⟩ := trodAll_cons hA
  obtain ⟨v1, vs1, d1, ds1, p1, q1, rfl, rfl, rfl, h1, r1⟩ := trodAll_cons r0
  obtain ⟨rfl, rfl, rfl⟩ := trodAll_nil r1
  obtain rfl : args = #[v0, v1] := by cases args; simp_all
  obtain ⟨rfl, rfl⟩ := trodVars_none hV
  have hv0 := hval 0 23 v0 rfl rfl
  obtain ⟨a0, len0, cap0, rfl⟩ := okWide_slice Try.underlying23 hv0
  have k0 := h0
  have lt0 : ∀ x ∈ p0, x.block < W.heap.size := by obtain ⟨m, hm⟩ := k0; exact DataW.trod_lt m _ _ _ hm
  obtain ⟨fuel, hf⟩ := h0
  obtain ⟨L, hL, ho, hx⟩ := open_toks' Try.underlying23 Try.underlying33 rfl Try.underlying3 Try.underlying9 (by kernel_rfl) (by kernel_rfl) (by kernel_rfl) hv0 hf
  obtain ⟨a1, rfl, rfl, rfl, y1⟩ := open_string Try.underlying9 (hval 1 9 v1 rfl rfl) h1
  have hreach : reachBytes = 140737488351232 := by decide
  have ha : a1.size ≤ 140737488351232 := by
    have z := sized_string hsz (j := 1) (t := 9) rfl rfl
    rw [Array.length_toList, hreach] at z
    exact z
  have hb : L.length < 2 ^ 62 ∧ ∀ t ∈ L, t.2.1.size ≤ 140737488351232 ∧ t.2.2.size ≤ 140737488351232 := by
    rcases hx with ⟨hl, hx⟩ | ⟨sps, hx⟩
    · subst hl
      exact ⟨by simp, fun t ht => by cases ht⟩
    · simp only at hx
      subst hx
      have key : ∀ x ∈ (DataW.slice (L.map (tokD (H := H))) sps).weights Try.prog 23, x ≤ reachBytes := by
        intro x hx
        have := List.all_eq_true.1 hsz _ (DataW.weights_mem_each (j := 0) (t := 23) rfl rfl x hx)
        simpa using this
      simp only [DataW.weights, Try.underlying23] at key
      have hby : Try.prog.bytesOf 33 = 40 := by kernel_rfl
      constructor
      · have := key _ (List.mem_cons_self ..)
        rw [hby, hreach, List.length_map] at this
        omega
      · intro t ht
        obtain ⟨h1, h2⟩ := toks_weights (H := H) L t ht
        have k1 := key _ (List.mem_cons_of_mem _ (List.mem_append.2 (.inl h1)))
        have k2 := key _ (List.mem_cons_of_mem _ (List.mem_append.2 (.inl h2)))
        rw [hreach] at k1 k2
        exact ⟨k1, k2⟩
  clear hA0 hval0 hsz0 hsz
  simp only [List.append_nil] at hW'
  refine (walk a0 len0 cap0 a1 L W hL ho hb.1 ha hb.2).mono fun e W' ⟨he, bel⟩ => ?_
  subst he
  exact ⟨_, rfl, _, _, _, [], _, [], hW', trodAll_mk1 (shut_bool Try.underlying4 _), (trodAll_cons_mk (Below.trod laidOut (by kernel_rfl) (of_decide_eq_true (by kernel_rfl)) k0 bel lt0) (trodAll_cons_mk (shut_string Try.underlying9 y1) trodAll_mk0)), rfl, bel.frame _, fun h => by cases h⟩
theorem over : Rows.lexAgainRow.holds Try.pinned (OpenSpec.ofChange Rows.lexAgainSpec) :=
  OpenClaim.holds_of_wide 9 Try.f9 rfl rfl rfl rfl rfl rfl rfl ⟨rfl, rfl, rfl, rfl, rfl⟩ rfl rfl rfl rfl rfl (by kernel_rfl) Try.func9 (by kernel_rfl)
    (of_decide_eq_true (by kernel_rfl)) (by unfold Func.isWrapper; first | (rw [if_pos (by decide +kernel)]; kernel_rfl) | (rw [if_neg (by decide +kernel)]; exact ⟨rfl, rfl⟩))
    (fun os started H enc _ => lifted os started H enc)
theorem proved : Rows.LexAgainSaid := over
end Go.Proofs.Ytfblbkmmjidknaa.lexAgain
namespace Go.Proofs.Ytfblbkmmjidknaa
theorem lexAgain_holds : Rows.LexAgainSaid := lexAgain.proved
end Go.Proofs.Ytfblbkmmjidknaa
