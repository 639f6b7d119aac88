/- Arguments in memory that was there ahead of the call: slices. -/
import Derived.Test.YtfblbkmmjidknaaAmP1
import Derived.OpenShut
set_option linter.unusedVariables false
set_option linter.unusedSimpArgs false
namespace Go.Am
/-- A slice whose elements may be read, each as k cells. -/
def LAt {α : Type} (enc : α → List Value) (σ : AHeap) (k : Nat) (sl : Sl) (l : List α) : Prop :=
  sl.n = l.length ∧ ∀ (i : Nat) (hi : i < l.length), ∃ b o, iaSl sl k (i : Int) = some (some ⟨b, o, none⟩) ∧ ∀ j m, j + m ≤ k → ldN σ (some ⟨b, o + j, none⟩) m = some (((enc l[i]).drop j).take m)
theorem LRd.lat {α : Type} {enc : α → List Value} {k : Nat} {σ : AHeap} {e : TypeId} {sl : Sl} {l : List α} (hk : ∀ a, (enc a).length = k) (h : LRd enc σ e sl l) : LAt enc σ k sl l :=
  ⟨h.1, fun i hi => by obtain ⟨b, h1, h2⟩ := h.at hk hi; exact ⟨b, _, h1, h2⟩⟩
theorem rdOld_of {W : World} : ∀ {cs : List Value} {a : Addr}, (∀ (j : Nat) v, cs[j]? = some v → W.cell? ⟨a.block, a.off + j, none⟩ = some v ∧ oldOk W.heap.size v = true) → rdOld W a cs.length = some cs := by
  intro cs
  induction cs with
  | nil => intro a _; rfl
  | cons v cs ih =>
    intro a h
    obtain ⟨h1, h2⟩ := h 0 v rfl
    simp only [List.length_cons, rdOld]
    rw [Nat.add_zero] at h1
    rw [h1]
    simp only [h2, if_true]
    have := ih (a := ⟨a.block, a.off + 1, none⟩) (fun j u hu => by
      have := h (j + 1) u (by simpa using hu)
      rw [show a.off + (j + 1) = a.off + 1 + j by omega] at this
      exact this)
    rw [this]; rfl
theorem const_old {n : Nat} {v : Value} (h : (match v with | .bool _ | .int _ _ | .string _ => true | _ => false) = true) : oldOk n v = true := by
  cases v <;> first | rfl | cases h
/-- Rows of plain cells. -/
def Rows {α : Type} (enc : α → List Value) (k : Nat) (W : World) (a : Addr) (l : List α) : Prop :=
  a.spot = none ∧ (0 < l.length → a.block < W.heap.size) ∧ ∀ (i j : Nat) v, (hi : i < l.length) → (enc l[i])[j]? = some v → W.cell? ⟨a.block, a.off + i * k + j, none⟩ = some v ∧ oldOk W.heap.size v = true
theorem Rows.lat {α : Type} {enc : α → List Value} {k : Nat} {W : World} {a : Addr} {l : List α} {σ : AHeap} {c : Nat} (hk : ∀ a, (enc a).length = k) (h : Rows enc k W a l) (hσ : σ.old = W) : LAt enc σ k ⟨some a, l.length, c⟩ l := by
  refine ⟨rfl, fun i hi => ⟨a.block, a.off + i * k, ?_, fun j m hj => ?_⟩⟩
  · unfold iaSl
    rw [Option.bind_some, if_pos ⟨h.1, by omega, (by show (i : Int) < (l.length : Int); omega)⟩]
    simp
  · have hb := h.2.1 (by omega)
    unfold ldN
    simp only [Option.bind_some, rd]
    rw [if_neg (by simp), if_pos (by unfold AHeap.base; rw [hσ]; exact hb), hσ]
    have hl := hk l[i]
    have hlen : (((enc l[i]).drop j).take m).length = m := by simp; omega
    have := rdOld_of (W := W) (cs := ((enc l[i]).drop j).take m) (a := ⟨a.block, a.off + i * k + j, none⟩) (fun q v hv => by
      rw [List.getElem?_take] at hv
      split at hv
      · rw [List.getElem?_drop] at hv
        have := h.2.2 i (j + q) v hi hv
        rw [show a.off + i * k + (j + q) = a.off + i * k + j + q by omega] at this
        exact this
      · cases hv)
    rw [hlen] at this
    exact this
theorem mapM_some {α β : Type} {f : α → Option β} : ∀ {l : List α} {r : List β}, l.mapM f = some r → r.length = l.length ∧ ∀ (i : Nat) x, l[i]? = some x → ∃ y, f x = some y ∧ r[i]? = some y := by
  intro l
  induction l with
  | nil => intro r h; simp at h; subst h; exact ⟨rfl, fun i x hx => by simp at hx⟩
  | cons a l ih =>
    intro r h
    rw [List.mapM_cons] at h
    simp only [Option.bind_eq_bind, Option.pure_def] at h
    rw [Option.bind_eq_some_iff] at h
    obtain ⟨y, hy, h⟩ := h
    rw [Option.bind_eq_some_iff] at h
    obtain ⟨ys, hys, h⟩ := h
    injection h with h; subst h
    obtain ⟨h1, h2⟩ := ih hys
    refine ⟨by simp [h1], fun i x hx => ?_⟩
    cases i with
    | zero => simp at hx; subst hx; exact ⟨y, hy, rfl⟩
    | succ i => simp at hx; obtain ⟨z, hz, hz2⟩ := h2 i x hx; exact ⟨z, hz, by simpa using hz2⟩
/-- What a slice's reading says of its elements. -/
theorem trod_slice {H : Type} {enc : TypeId × Value → H} {P : Program} {w : World} {sp : Nat → Bool} {held : Bool} {fuel : Nat} {t e : TypeId} {a : Addr} {len cap : Nat} {x : DataW H × List MemPlace} (ht : P.underlying t = some (.slice e))
    (h : DataW.trod enc P w 0 sp held fuel t [.slice (some a) len cap] = some x) : len ≤ cap ∧ ∃ f ds sps, x.1 = .slice ds sps ∧ ds.length = len ∧ ∀ i, i < len → ∃ cs y, w.cells? 0 (a.add (i * P.cellsOf e)) (P.cellsOf e) = some cs ∧ DataW.trod enc P w 0 sp held f e cs = some y ∧ ds[i]? = some y.1 := by
  cases fuel with
  | zero => simp [DataW.trod] at h
  | succ f =>
    simp only [DataW.trod, ht] at h
    split at h
    · rename_i hc
      rw [Option.bind_eq_some_iff] at h
      obtain ⟨elems, h1, h2⟩ := h
      rw [Option.map_eq_some_iff] at h2
      obtain ⟨rest, h2, h3⟩ := h2
      subst h3
      obtain ⟨l1, l2⟩ := mapM_some h1
      refine ⟨hc.2.1, f, _, _, rfl, by simp [l1], fun i hi => ?_⟩
      obtain ⟨y, hy, hy2⟩ := l2 i i (by rw [List.getElem?_range hi])
      rw [Option.bind_eq_some_iff] at hy
      obtain ⟨cs, hcs, hy⟩ := hy
      exact ⟨cs, y, hcs, hy, by simp [hy2]⟩
    · cases h
theorem cells_at {w : World} {a : Addr} {n : Nat} {cs : List Value} (h : w.cells? 0 a n = some cs) : cs.length = n ∧ ∀ (j : Nat) v, cs[j]? = some v → w.cell? (a.add j) = some v := by
  unfold World.cells? at h
  rw [if_pos (Nat.zero_le _)] at h
  obtain ⟨h1, h2⟩ := mapM_some h
  refine ⟨by simpa using h1, fun j v hv => ?_⟩
  have hj : j < n := by
    have := (List.getElem?_eq_some_iff.1 hv).1
    simp at h1; omega
  obtain ⟨y, hy, hy2⟩ := h2 j j (by rw [List.getElem?_range hj])
  rw [hv] at hy2; injection hy2 with hy2; subst hy2
  exact hy
/-- What a text's, a whole number's reading says of its cell. -/
theorem trod_int {H : Type} {enc : TypeId × Value → H} {P : Program} {w : World} {sp : Nat → Bool} {held : Bool} {fuel : Nat} {t : TypeId} {k : IntKind} {c : Value} {x : DataW H × List MemPlace} (ht : P.underlying t = some (.int k))
    (h : DataW.trod enc P w 0 sp held fuel t [c] = some x) : ∃ n, c = .int k n ∧ (Lit.int k n).wf = true ∧ x = (.lit (.int k n), []) := by
  cases fuel with
  | zero => simp [DataW.trod] at h
  | succ f =>
    cases c <;> simp only [DataW.trod, ht] at h <;> try (cases h; done)
    split at h
    · rename_i hc
      injection h with h
      obtain ⟨rfl, h2⟩ := hc
      exact ⟨_, rfl, h2, h.symm⟩
    · cases h
theorem trod_str {H : Type} {enc : TypeId × Value → H} {P : Program} {w : World} {sp : Nat → Bool} {held : Bool} {fuel : Nat} {t : TypeId} {c : Value} {x : DataW H × List MemPlace} (ht : P.underlying t = some .string)
    (h : DataW.trod enc P w 0 sp held fuel t [c] = some x) : ∃ s : ByteArray, c = .string s ∧ x = (.lit (.string s.data.toList), []) := by
  cases fuel with
  | zero => simp [DataW.trod] at h
  | succ f =>
    cases c <;> simp only [DataW.trod, ht] at h <;> try (cases h; done)
    split at h
    · injection h with h
      exact ⟨_, rfl, h.symm⟩
    · cases h
end Go.Am
