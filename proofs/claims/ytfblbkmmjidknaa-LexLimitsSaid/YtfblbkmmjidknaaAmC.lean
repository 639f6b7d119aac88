/- The abstract machine: how its heap stands to the model's memory. -/
import Derived.Test.YtfblbkmmjidknaaAmB
import Derived.Laws.Cells
import Derived.Laws.Tables
import Derived.Laws.Append
import Derived.Laws.AppendOwn
import Derived.Laws.StructEq
import Derived.Laws.Slices
set_option linter.unusedVariables false
set_option linter.unusedSimpArgs false
namespace Go.Am

theorem oneC_eq (v : Value) : v.oneC = v.oneCell' := by cases v <;> rfl

/-- Entries of a map. -/
def ER (base : Nat) (γ : Gm) (l l' : List MapEntry) : Prop :=
  l.length = l'.length ∧ ∀ (i : Nat) e e', l[i]? = some e → l'[i]? = some e' → e'.key = e.key ∧ scalarKey e.key = true ∧ e'.born = e.born ∧ VR base γ e.val e'.val

theorem ER.mono {base : Nat} {γ γ' : Gm} {l l' : List MapEntry} (h : ER base γ l l') (hg : γ.le γ') : ER base γ' l l' :=
  ⟨h.1, fun i e e' x y => let ⟨a, b, c, d⟩ := h.2 i e e' x y; ⟨a, b, c, d.mono hg⟩⟩

structure Rel (P : Program) (σ : AHeap) (γ : Gm) (w : World) : Prop where
  os : w.os = σ.old.os
  tape : w.tape = σ.old.tape
  out : w.output = σ.old.output
  size : σ.base ≤ w.heap.size
  old : ∀ i, i < σ.base → w.heap[i]? = σ.old.heap[i]?
  next : σ.base ≤ σ.next
  fresh : ∀ i, σ.next ≤ i → σ.get i = .dead
  chain : ∀ i c el ch, σ.get i = .cells c el ch → ch ≤ i
  dom : ∀ i e, γ i = some e → σ.base ≤ i ∧ i < σ.next ∧ σ.base ≤ e.B ∧ e.B < w.heap.size
  cells : ∀ i c el ch e, σ.get i = .cells c el ch → γ i = some e → ∃ C fz, w.heap[e.B]? = some (.cells C el fz) ∧ C.size = e.N ∧ szOf P el = some e.E ∧ e.s + c.length ≤ e.N ∧
    (∀ o, o < e.N → ¬ (fz.1 ≤ o ∧ o < fz.2)) ∧ LR σ.base γ c ((C.toList.drop e.s).take c.length) ∧ ∀ v ∈ c, v.oneC = true
  map : ∀ i es k e, σ.get i = .map es k → γ i = some e → ∃ es', w.heap[e.B]? = some (.map es' k) ∧ ER σ.base γ es es'.toList
  sep : ∀ i j e e', γ i = some e → γ j = some e' → e.B = e'.B → i ≠ j → σ.get i ≠ .dead → σ.get j ≠ .dead →
    ∃ c el c' el' ch, σ.get i = .cells c el ch ∧ σ.get j = .cells c' el' ch ∧ e.s = e'.s

/-- What a step leaves alone: old blocks, and blocks that stand for nothing alive. -/
structure Fram (σ : AHeap) (γ : Gm) (w w' : World) : Prop where
  size : w.heap.size ≤ w'.heap.size
  same : ∀ B, B < w.heap.size → (∀ i e, γ i = some e → σ.get i ≠ .dead → e.B ≠ B) → w'.heap[B]? = w.heap[B]?

theorem Fram.refl (σ : AHeap) (γ : Gm) (w : World) : Fram σ γ w w := ⟨Nat.le_refl _, fun _ _ _ => rfl⟩

/-- What an abstract heap may become. -/
structure Grows (σ σ' : AHeap) (γ γ' : Gm) : Prop where
  old : σ'.old = σ.old
  next : σ.next ≤ σ'.next
  le : γ.le γ'
  new : ∀ i e, γ' i = some e → γ i = some e ∨ σ.next ≤ i
  dead : ∀ i, i < σ.next → σ.get i = .dead → σ'.get i = .dead

theorem Grows.refl (σ : AHeap) (γ : Gm) : Grows σ σ γ γ := ⟨rfl, Nat.le_refl _, Gm.le_refl γ, fun _ _ h => .inl h, fun _ _ h => h⟩
theorem Grows.base {σ σ' : AHeap} {γ γ' : Gm} (h : Grows σ σ' γ γ') : σ'.base = σ.base := by unfold AHeap.base; rw [h.old]
theorem Grows.trans {a b c : AHeap} {x y z : Gm} (h : Grows a b x y) (k : Grows b c y z) : Grows a c x z :=
  ⟨k.old.trans h.old, Nat.le_trans h.next k.next, Gm.le_trans h.le k.le, fun i e he => by
    rcases k.new i e he with h1 | h1
    · exact h.new i e h1
    · exact .inr (Nat.le_trans h.next h1), fun i hi hd => k.dead i (Nat.lt_of_lt_of_le hi h.next) (h.dead i hi hd)⟩

/-- New concrete blocks alone are behind new names. -/
def NewB (σ : AHeap) (γ γ' : Gm) (w : World) : Prop := ∀ i e, γ' i = some e → γ i = none → w.heap.size ≤ e.B ∨ ∃ j ej, γ j = some ej ∧ σ.get j ≠ .dead ∧ ej.B = e.B

theorem NewB.refl (σ : AHeap) (γ : Gm) (w : World) : NewB σ γ γ w := fun i e h h' => by simp [h] at h'

theorem Fram.trans {a b : AHeap} {x y : Gm} {w1 w2 w3 : World} (h : Fram a x w1 w2) (k : Fram b y w2 w3) (hn : NewB a x y w1) (hd : ∀ i, i < a.next → a.get i = .dead → b.get i = .dead)
    (hdom : ∀ i e, x i = some e → i < a.next) (hl : ∀ i e, x i = some e → y i = some e) : Fram a x w1 w3 :=
  ⟨Nat.le_trans h.size k.size, fun B hB hne => by
    rw [k.same B (Nat.lt_of_lt_of_le hB h.size) (fun i e he hnd => ?_), h.same B hB hne]
    cases hx : x i with
    | some e' =>
      have := hl i e' hx
      rw [he] at this; injection this with this; subst this
      exact hne i e hx (fun hdd => hnd (hd i (hdom i _ hx) hdd))
    | none =>
      rcases hn i e he hx with h1 | ⟨j, ej, hj, hjd, hje⟩
      · omega
      · rw [← hje]; exact hne j ej hj hjd⟩

section
variable {P : Program} {σ : AHeap} {γ : Gm} {w : World}

theorem Rel.alive_lt (R : Rel P σ γ w) {i : Nat} (h : σ.get i ≠ .dead) : i < σ.next := by
  rcases Nat.lt_or_ge i σ.next with h1 | h1
  · exact h1
  · exact absurd (R.fresh i h1) h

/-- Reading old cells. -/
theorem rdOld_spec {W : World} {a : Addr} : ∀ {n : Nat} {cs : List Value}, rdOld W a n = some cs →
    cs.length = n ∧ (∀ (j : Nat) v, cs[j]? = some v → W.cell? ⟨a.block, a.off + j, none⟩ = some v ∧ oldOk W.heap.size v = true) := by
  intro n
  induction n generalizing a with
  | zero => intro cs h; simp [rdOld] at h; subst h; simp
  | succ n ih =>
    intro cs h
    simp only [rdOld] at h
    split at h
    · rename_i v hv
      split at h
      · rename_i hok
        rw [Option.map_eq_some_iff] at h
        obtain ⟨r, hr, rfl⟩ := h
        obtain ⟨h1, h2⟩ := ih hr
        refine ⟨by simp [h1], fun j u hu => ?_⟩
        cases j with
        | zero => simp at hu; subst hu; exact ⟨hv, hok⟩
        | succ j =>
          simp at hu
          have := h2 j u hu
          rw [show a.off + (j + 1) = a.off + 1 + j by omega]
          exact this
      · simp at h
    · simp at h

theorem oldOk_VR {base : Nat} {γ : Gm} {v : Value} (h : oldOk base v = true) : VR base γ v v ∧ v.oneC = true := by
  cases v with
  | bool b => exact ⟨.bool b, rfl⟩
  | int k n => exact ⟨.int k n, rfl⟩
  | string s => exact ⟨.string s, rfl⟩
  | pointer a => cases a with
    | none => exact ⟨.ptr0, rfl⟩
    | some a => simp [oldOk] at h; exact ⟨.ptrOld a h.1 h.2, rfl⟩
  | slice a n c => cases a with
    | none => simp [oldOk] at h; obtain ⟨rfl, rfl⟩ := h; exact ⟨.sl0, rfl⟩
    | some a => simp [oldOk] at h; exact ⟨.slOld a n c h.1.1 h.1.2 h.2, rfl⟩
  | map r => cases r with
    | none => exact ⟨.map0, rfl⟩
    | some r => simp [oldOk] at h
  | nilFunc => exact ⟨.nilFunc, rfl⟩
  | nilIface => exact ⟨.nilIface, rfl⟩
  | _ => simp [oldOk] at h

theorem addr_add (B o j : Nat) : (⟨B, o, none⟩ : Addr).add j = ⟨B, o + j, none⟩ := by
  unfold Addr.add; split <;> simp_all

theorem cell_old (R : Rel P σ γ w) {a : Addr} (h : a.block < σ.base) : w.cell? a = σ.old.cell? a := by
  unfold World.cell?; rw [R.old _ h]

/-- An address and where it lies. -/
def AR (σ : AHeap) (γ : Gm) (a a' : Addr) : Prop := VR σ.base γ (.pointer (some a)) (.pointer (some a'))

theorem AR.spot {a a' : Addr} (h : AR σ γ a a') : a.spot = none ∧ a'.spot = none := by
  unfold AR at h
  cases h with
  | ptrOld _ h hs => exact ⟨hs, hs⟩
  | ptrNew b o e h he => exact ⟨rfl, rfl⟩

/-- The cells at an address, as the model reads them. -/
theorem rd_sound (R : Rel P σ γ w) {a a' : Addr} (hA : AR σ γ a a') {n : Nat} {cs : List Value} (h : rd σ a n = some cs) :
    cs.length = n ∧ (∀ v ∈ cs, v.oneC = true) ∧ ∃ cs', LR σ.base γ cs cs' ∧ ∀ (j : Nat) v, cs'[j]? = some v → w.cell? (a'.add j) = some v := by
  obtain ⟨hs, hs'⟩ := hA.spot
  unfold rd at h
  rw [if_neg (by simp [hs])] at h
  split at h
  · rename_i hb
    obtain ⟨h1, h2⟩ := rdOld_spec h
    refine ⟨h1, fun v hv => ?_, cs, ⟨rfl, fun i v v' hv hv' => ?_⟩, fun j v hv => ?_⟩
    · obtain ⟨j, hj⟩ := List.getElem?_of_mem hv
      exact (oldOk_VR (base := σ.old.heap.size) (γ := γ) (h2 j v hj).2).2
    · rw [hv] at hv'; injection hv' with e; subst e
      exact (oldOk_VR (h2 i v hv).2).1
    · have haa : a' = a := by
        unfold AR at hA
        cases hA with
        | ptrOld _ h hs => rfl
        | ptrNew b o e hbb he => exact absurd hbb (Nat.not_le_of_lt hb)
      subst haa
      have := (h2 j v hv).1
      have hadd : a'.add j = ⟨a'.block, a'.off + j, none⟩ := by
        have : a' = ⟨a'.block, a'.off, none⟩ := by cases a'; simp_all
        rw [this, addr_add]
      rw [hadd, cell_old R (by exact hb)]
      exact this
  · rename_i hb
    split at h
    · rename_i c el ch hget
      split at h
      · rename_i hlen
        injection h with h
        subst h
        have hlt : σ.base ≤ a.block := Nat.le_of_not_lt hb
        obtain ⟨b, o, e, hge, rfl, rfl⟩ : ∃ b o e, γ b = some e ∧ a = ⟨b, o, none⟩ ∧ a' = ⟨e.B, o + e.s, none⟩ := by
          unfold AR at hA
          cases hA with
          | ptrOld _ h hs => exact absurd h (Nat.not_lt_of_le hlt)
          | ptrNew b o e h he => exact ⟨b, o, e, he, rfl, rfl⟩
        obtain ⟨C, fz, hC, hsz, hE, hfit, hfz, hL, h1⟩ := R.cells _ _ _ _ _ hget hge
        refine ⟨by simp only [List.length_take, List.length_drop]; simp only at hlen; omega, fun v hv => h1 v (List.mem_of_mem_drop (List.mem_of_mem_take hv)), ((C.toList.drop e.s).take c.length |>.drop o).take n, (hL.drop o).take n, fun j v hv => ?_⟩
        rw [addr_add]
        simp only [List.getElem?_take, List.getElem?_drop] at hv
        split at hv
        · split at hv
          · unfold World.cell?
            rw [hC]
            simp only [Option.isSome_none, Bool.false_eq_true, if_false]
            rw [show o + e.s + j = e.s + (o + j) by omega]
            simpa using hv
          · simp at hv
        · simp at hv
      · simp at h
    · simp at h

end
end Go.Am
