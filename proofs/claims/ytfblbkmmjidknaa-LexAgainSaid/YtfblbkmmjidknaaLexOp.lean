/- A slice of tokens among the arguments. -/
import Derived.Test.YtfblbkmmjidknaaLexT
import Derived.Test.YtfblbkmmjidknaaAmQ2
set_option linter.unusedVariables false
set_option linter.unusedSimpArgs false
namespace Go.Am
def tokD {H : Type} (t : Tok) : DataW H := .agg [.lit (.int .i64 t.1), .lit (.string t.2.1.data.toList), .lit (.string t.2.2.data.toList)]
theorem add_none {a : Addr} {n : Nat} (h : a.spot = none) : a.add n = ⟨a.block, a.off + n, none⟩ := by
  obtain ⟨b, o, s⟩ := a
  simp only at h; subst h
  unfold Addr.add
  split
  · rename_i h0; simp [h0]
  · rfl
theorem list1 {l : List Value} (h : l.length = 1) : ∃ v, l = [v] := by
  match l, h with
  | [v], _ => exact ⟨v, rfl⟩
theorem trod_tok {H : Type} {enc : TypeId × Value → H} {P : Program} {w : World} {sp : Nat → Bool} {held : Bool} {fuel : Nat} {e ti ts : TypeId} {fs : Array Field} {cs : List Value} {x : DataW H × List MemPlace}
    (he : P.underlying e = some (.struct fs)) (hfs : fs.toList.map (fun f => (f.type, f.offset)) = [(ti, 0), (ts, 1), (ts, 2)]) (hi : P.underlying ti = some (.int .i64)) (hs : P.underlying ts = some .string) (ci : P.cellsOf ti = 1) (cS : P.cellsOf ts = 1) (hl : cs.length = 3)
    (h : DataW.trod enc P w 0 sp held fuel e cs = some x) : ∃ t : Tok, cs = encTok t ∧ x.1 = tokD t := by
  cases fuel with
  | zero => simp [DataW.trod] at h
  | succ f =>
    unfold DataW.trod at h
    rw [he] at h
    simp only at h
    split at h
    · rw [Option.map_eq_some_iff] at h
      obtain ⟨xs, h1, h2⟩ := h
      subst h2
      obtain ⟨l1, l2⟩ := mapM_some h1
      have hn : fs.toList.length = 3 := by have := congrArg List.length hfs; simpa using this
      obtain ⟨f0, f1, f2, hff⟩ : ∃ f0 f1 f2, fs.toList = [f0, f1, f2] := by
        match h : fs.toList, hn with
        | [a, b, c], _ => exact ⟨a, b, c, rfl⟩
      rw [hff] at hfs l1 l2
      simp only [List.map_cons, List.map_nil, List.cons.injEq, Prod.mk.injEq, and_true] at hfs
      obtain ⟨⟨t0, o0⟩, ⟨t1, o1⟩, ⟨t2, o2⟩⟩ := hfs
      obtain ⟨a, b, c, rfl⟩ : ∃ a b c, cs = [a, b, c] := by
        match cs, hl with
        | [a, b, c], _ => exact ⟨a, b, c, rfl⟩
      obtain ⟨y0, g0, e0⟩ := l2 0 f0 rfl
      obtain ⟨y1, g1, e1⟩ := l2 1 f1 rfl
      obtain ⟨y2, g2, e2⟩ := l2 2 f2 rfl
      rw [t0, o0, ci] at g0
      rw [t1, o1, cS] at g1
      rw [t2, o2, cS] at g2
      obtain ⟨n, rfl, _, rfl⟩ := trod_int hi (c := a) g0
      obtain ⟨s1, rfl, rfl⟩ := trod_str hs (c := b) g1
      obtain ⟨s2, rfl, rfl⟩ := trod_str hs (c := c) g2
      refine ⟨(n, s1, s2), rfl, ?_⟩
      have hx : xs = [(.lit (.int .i64 n), []), (.lit (.string s1.data.toList), []), (.lit (.string s2.data.toList), [])] := by
        have hxl : xs.length = 3 := by simpa using l1
        match xs, hxl with
        | [p, q, r], _ =>
          simp at e0 e1 e2
          rw [e0, e1, e2]
      rw [hx]; rfl
    · cases h
theorem open_toks {H : Type} {enc : TypeId × Value → H} {P : Program} {w : World} {r : Reach} {base : Nat} {sp : Nat → Bool} {held : Bool} {fuel : Nat} {t e ti ts : TypeId} {fs : Array Field} {a : Addr} {len cap : Nat} {x : DataW H × List MemPlace}
    (ht : P.underlying t = some (.slice e)) (he : P.underlying e = some (.struct fs)) (hfs : fs.toList.map (fun f => (f.type, f.offset)) = [(ti, 0), (ts, 1), (ts, 2)]) (hi : P.underlying ti = some (.int .i64)) (hs : P.underlying ts = some .string) (ci : P.cellsOf ti = 1) (cS : P.cellsOf ts = 1) (ce : P.cellsOf e = 3)
    (hv : Value.okWide P w r base t (.slice (some a) len cap)) (h : DataW.trod enc P w 0 sp held fuel t [.slice (some a) len cap] = some x) :
    ∃ L : List Tok, L.length = len ∧ Rows encTok 3 w a L ∧ len ≤ cap ∧ a.spot = none ∧ a.block < w.heap.size ∧ ∃ sps, x.1 = .slice (L.map tokD) sps := by
  simp only [Value.okWide, ht, Cell.okWide, Cell.ok] at hv
  obtain ⟨_, _, _, hsp, row, cells, hsh, _⟩ := hv
  have hblk : a.block < w.heap.size := by
    unfold World.shape? at hsh
    split at hsh
    · rename_i hc; exact (Array.getElem?_eq_some_iff.1 hc).1
    · cases hsh
  obtain ⟨hlc, f, ds, sps, hx, hdl, hall⟩ := trod_slice ht h
  have hc : ∀ i : Fin len, ∃ q : Tok, w.cells? 0 (a.add (i.1 * 3)) 3 = some (encTok q) ∧ ds[i.1]? = some (tokD q) := by
    intro i
    obtain ⟨cs, y, h1, h2, h3⟩ := hall i.1 i.2
    rw [ce] at h1
    obtain ⟨q, rfl, hq⟩ := trod_tok he hfs hi hs ci cS (cells_at h1).1 h2
    exact ⟨q, h1, by rw [h3, hq]⟩
  refine ⟨List.ofFn fun i => (hc i).choose, by simp, ⟨hsp, fun _ => hblk, ?_⟩, hlc, hsp, hblk, sps, ?_⟩
  · intro i j v hi hj
    have hi' : i < len := by simpa using hi
    have h1 := (hc ⟨i, hi'⟩).choose_spec.1
    have h2 := (cells_at h1).2 j v (by simpa using hj)
    rw [add_none hsp, add_none rfl] at h2
    refine ⟨h2, ?_⟩
    have hm : v ∈ encTok (hc ⟨i, hi'⟩).choose := by
      have := List.mem_of_getElem? (by simpa using hj : (encTok (hc ⟨i, hi'⟩).choose)[j]? = some v)
      exact this
    unfold encTok at hm
    simp at hm
    rcases hm with rfl | rfl | rfl <;> rfl
  · rw [hx]
    congr 1
    apply List.ext_getElem?
    intro i
    by_cases hi : i < len
    · have h1 := (hc ⟨i, hi⟩).choose_spec.2
      rw [h1]; simp [hi]
    · rw [List.getElem?_eq_none (by omega), List.getElem?_eq_none (by simp; omega)]
theorem trod_nil {H : Type} {enc : TypeId × Value → H} {P : Program} {w : World} {sp : Nat → Bool} {held : Bool} {fuel : Nat} {t e : TypeId} {len cap : Nat} {x : DataW H × List MemPlace} (ht : P.underlying t = some (.slice e))
    (h : DataW.trod enc P w 0 sp held fuel t [.slice none len cap] = some x) : len = 0 ∧ cap = 0 ∧ x.1 = .nil := by
  cases fuel with
  | zero => simp [DataW.trod] at h
  | succ f =>
    cases len <;> cases cap <;> simp [DataW.trod, ht] at h
    subst h; exact ⟨rfl, rfl, rfl⟩
/-- A slice of tokens: what may be read of it, whatever has been made since. -/
theorem open_toks' {H : Type} {enc : TypeId × Value → H} {P : Program} {w : World} {r : Reach} {base : Nat} {sp : Nat → Bool} {held : Bool} {fuel : Nat} {t e ti ts : TypeId} {fs : Array Field} {A : Option Addr} {len cap : Nat} {x : DataW H × List MemPlace}
    (ht : P.underlying t = some (.slice e)) (he : P.underlying e = some (.struct fs)) (hfs : fs.toList.map (fun f => (f.type, f.offset)) = [(ti, 0), (ts, 1), (ts, 2)]) (hi : P.underlying ti = some (.int .i64)) (hs : P.underlying ts = some .string) (ci : P.cellsOf ti = 1) (cS : P.cellsOf ts = 1) (ce : P.cellsOf e = 3)
    (hv : Value.okWide P w r base t (.slice A len cap)) (h : DataW.trod enc P w 0 sp held fuel t [.slice A len cap] = some x) :
    ∃ L : List Tok, (∀ τ : AHeap, τ.old = w → LAt encTok τ 3 ⟨A, len, cap⟩ L) ∧ oldOk w.heap.size (.slice A len cap) = true ∧ ((L = [] ∧ x.1 = .nil) ∨ ∃ sps, x.1 = .slice (L.map tokD) sps) := by
  cases A with
  | none =>
    obtain ⟨rfl, rfl, hx⟩ := trod_nil ht h
    exact ⟨[], fun τ _ => ⟨rfl, fun i hi => by simp at hi⟩, rfl, .inl ⟨rfl, hx⟩⟩
  | some a =>
    obtain ⟨L, h1, h2, h3, h4, h5, h6⟩ := open_toks ht he hfs hi hs ci cS ce hv h
    subst h1
    refine ⟨L, fun τ hτ => h2.lat encTok_len hτ, ?_, .inr h6⟩
    simp [oldOk, h4, h5, h3]
end Go.Am
